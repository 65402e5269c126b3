/- Reading the model's memory: cells, parts, rows. -/
import Derived.Test.YtoeplmfcjonkgaaGreatSxOps
set_option linter.unusedVariables false
set_option linter.unusedSimpArgs false
namespace Go.Proofs.Sx
open Go

theorem oneCell_cells {v : Value} (h : v.oneCell' = true) : v.cells = #[v] := by cases v <;> simp_all [Value.oneCell', Value.cells]
theorem addr_add (b o n : Nat) : (⟨b, o, none⟩ : Addr).add n = ⟨b, o + n, none⟩ := by unfold Addr.add; split <;> simp_all

section
variable {P : Program} {w : World}

theorem okT_info {t : TypeId} (h : okT P t = true) : ∃ i d, P.info? t = some i ∧ P.underlying t = some d ∧ P.cellsOf t = i.size := by
  unfold okT at h
  obtain ⟨d, hd⟩ := Option.isSome_iff_exists.1 h
  cases hi : P.info? t with
  | none => simp [Program.underlying, hi] at hd
  | some i => exact ⟨i, d, rfl, hd, by simp [Program.cellsOf, hi]⟩

theorem run_sizeOf {t : TypeId} (h : okT P t = true) : (sizeOf t).run P w = .ok (P.cellsOf t) w := by
  obtain ⟨i, d, hi, _, hs⟩ := okT_info h
  simp [sizeOf, typeInfo, hi, hs]
theorem run_isAgg {t : TypeId} (h : okT P t = true) : (isAgg t).run P w = .ok (aggT P t) w := by
  obtain ⟨i, d, hi, hd, _⟩ := okT_info h
  unfold isAgg aggT
  simp only [Sem.run_bind, run_underlying hd, Result.andThen_ok, hd]
  cases d <;> rfl

/-- A part of cells, in the model. -/
theorem run_part {t : TypeId} {us : List Value} {off : Nat} {G : Gh} {ob : Nat → Option Ob} {ws : List AV} {α : Type} {r : α} {K : AV → Option α} (hl : us.length = ws.length)
    (hr : ∀ (j : Nat) a v, ws[j]? = some a → us[j]? = some v → RelAV P G ob w a v) (h1 : ∀ v ∈ us, v.oneCell' = true) (h : partAV P t ws off K = some r) :
    ∃ a v, K a = some r ∧ okT P t = true ∧ RelAV P G ob w a v ∧
      (aggT P t = true → off + P.cellsOf t ≤ us.length ∧ v = .agg ((us.drop off).take (P.cellsOf t)).toArray) ∧
      (aggT P t = false → us[off]? = some v) := by
  unfold partAV at h
  replace h := cond_some h; obtain ⟨hok, h⟩ := h
  cases hA : aggT P t with
  | true =>
    rw [hA] at h
    simp only [cond] at h
    replace h := cond_some h; obtain ⟨hb, h⟩ := h
    have hle := Nat.le_of_ble_eq_true hb
    simp only [sizeT] at hle h
    refine ⟨_, _, h, hok, .agg _ ((us.drop off).take (P.cellsOf t)) ?_ ?_ ?_, fun _ => ⟨by omega, rfl⟩, fun h => by cases h⟩
    · simp; omega
    · intro j a v ha hv
      rw [List.getElem?_take] at ha hv
      split at ha
      · rename_i hj
        rw [if_pos hj] at hv
        rw [List.getElem?_drop] at ha hv
        exact hr _ a v ha hv
      · cases ha
    · intro v hv
      exact h1 v (List.mem_of_mem_drop (List.mem_of_mem_take hv))
  | false =>
    rw [hA] at h
    simp only [cond] at h
    split at h
    · rename_i c hc
      have hlt : off < us.length := by rw [hl]; exact (List.getElem?_eq_some_iff.1 hc).1
      exact ⟨c, us[off], h, hok, hr off c _ hc (List.getElem?_eq_getElem hlt), fun h => (by cases h), fun _ => List.getElem?_eq_getElem hlt⟩
    · cases h

theorem run_part_of {t : TypeId} {us : List Value} {off : Nat} {v : Value} (hok : okT P t = true) (h1 : aggT P t = true → off + P.cellsOf t ≤ us.length ∧ v = .agg ((us.drop off).take (P.cellsOf t)).toArray)
    (h2 : aggT P t = false → us[off]? = some v) : (part t us.toArray off).run P w = .ok v w := by
  unfold part
  cases hA : aggT P t with
  | true =>
    obtain ⟨hle, rfl⟩ := h1 hA
    simp only [Sem.run_bind, run_isAgg hok, hA, Result.andThen_ok, if_true, run_sizeOf hok, Sem.run_pure]
    congr 2
    apply Array.ext'
    simp only [Array.toList_extract, List.extract_eq_take_drop]
    congr 1
    omega
  | false =>
    have h := h2 hA
    simp [Sem.run_bind, run_isAgg hok, hA, Result.andThen_ok, h]

/-- A variable, or a part of one, loaded. -/
theorem run_loadVar {t : TypeId} {us : List Value} {off b o : Nat} {v : Value} (hok : okT P t = true)
    (hc : ∀ j u, us[j]? = some u → w.cell? ⟨b, o + j, none⟩ = some u)
    (h1 : aggT P t = true → off + P.cellsOf t ≤ us.length ∧ v = .agg ((us.drop off).take (P.cellsOf t)).toArray)
    (h2 : aggT P t = false → us[off]? = some v) : (loadVar t ⟨b, o + off, none⟩).run P w = .ok v w := by
  unfold loadVar
  cases hA : aggT P t with
  | true =>
    obtain ⟨hle, rfl⟩ := h1 hA
    have hlen : ((us.drop off).take (P.cellsOf t)).length = P.cellsOf t := by simp; omega
    have := run_loadCells_list (P := P) w ⟨b, o + off, none⟩ ((us.drop off).take (P.cellsOf t)) (fun j u hu => by
      rw [addr_add, Nat.add_assoc]
      rw [List.getElem?_take] at hu
      split at hu
      · rw [List.getElem?_drop] at hu; exact hc _ u hu
      · cases hu)
    rw [hlen] at this
    simp only [Sem.run_bind, run_isAgg hok, hA, Result.andThen_ok, if_true, run_sizeOf hok, this, Sem.run_pure]
  | false =>
    have h := hc _ _ (h2 hA)
    simp [Sem.run_bind, run_isAgg hok, hA, Result.andThen_ok, h]

/-! ### A pure value's cells -/
theorem rep_one {ok : Nat → Prop} {p : PV} {v : Value} (h : RepV P ok w p v) (hp : ∀ ps, p ≠ .agg ps) : v.oneCell' = true := by
  cases h <;> first | rfl | exact absurd rfl (hp _)
theorem rep_agg {ok : Nat → Prop} {ps : List PV} {v : Value} (h : RepV P ok w (.agg ps) v) : ∃ vs : List Value, v = .agg vs.toArray ∧ vs.length = ps.length ∧
    (∀ (j : Nat) p v, ps[j]? = some p → vs[j]? = some v → RepV P ok w p v) ∧ ∀ v ∈ vs, v.oneCell' = true := by
  cases h; exact ⟨_, rfl, by assumption, by assumption, by assumption⟩
theorem isAggN_some {n : Nat} {p : PV} (h : isAggN n p = true) : ∃ ps, p = .agg ps ∧ ps.length = n := by
  cases p <;> simp only [isAggN, Bool.false_eq_true] at h
  exact ⟨_, rfl, Nat.eq_of_beq_eq_true h⟩
theorem cellsP_agg {n : Nat} {ps : List PV} (h : ps.length = n) : cellsP n (.agg ps) = ps := by
  subst h
  apply List.ext_getElem?
  intro j
  unfold cellsP
  by_cases hj : j < ps.length
  · simp [hj, cellP]
  · simp [hj]
theorem cellP_agg {ps : List PV} {j : Nat} (h : j < ps.length) : ps[j]? = some (cellP j (.agg ps)) := by simp [cellP, h]

theorem normPV_some {α : Type} {r : α} {t : TypeId} {p : PV} {K : PV → Option α} (h : normPV P t p K = some r) : K p = some r ∧ ∀ ps, p ≠ .agg ps := by
  unfold normPV at h
  split at h
  · replace h := asInt_some h; obtain ⟨n, rfl, h⟩ := h; exact ⟨h, fun ps h => by cases h⟩
  · replace h := asBool_some h; obtain ⟨n, rfl, h⟩ := h; exact ⟨h, fun ps h => by cases h⟩
  · replace h := asStr_some h; obtain ⟨n, rfl, h⟩ := h; exact ⟨h, fun ps h => by cases h⟩
  · replace h := asList_some h; obtain ⟨n, rfl, h⟩ := h; exact ⟨h, fun ps h => by cases h⟩
  · replace h := asFunc_some h; obtain ⟨n, m, rfl, h⟩ := h; exact ⟨h, fun ps h => by cases h⟩
  · cases h

/-- The cells of a value that is stored whole. -/
theorem cellsAV_some {α : Type} {r : α} {t : TypeId} {a : AV} {K : List AV → Option α} (h : cellsAV P t a K = some r) :
    ∃ ws, K ws = some r ∧ okT P t = true ∧ ∀ (G : Gh) (ob : Nat → Option Ob) (v : Value), RelAV P G ob w a v → ∃ us : List Value, v.cells = us.toArray ∧ us.length = P.cellsOf t ∧ us.length = ws.length ∧
      (∀ (j : Nat) a v, ws[j]? = some a → us[j]? = some v → RelAV P G ob w a v) ∧ (∀ v ∈ us, v.oneCell' = true) ∧ Fits P t v := by
  unfold cellsAV at h
  replace h := cond_some h; obtain ⟨hok, h⟩ := h
  cases hA : aggT P t with
  | true =>
    rw [hA] at h
    simp only [cond] at h
    split at h
    · rename_i cs
      replace h := cond_some h; obtain ⟨hb, h⟩ := h
      have hn := Nat.eq_of_beq_eq_true hb
      refine ⟨cs, h, hok, fun G ob v hv => ?_⟩
      cases hv with
      | agg _ vs hl hv h1 => exact ⟨vs, rfl, by rw [hl]; exact hn, hl, hv, h1, by simp [Value.cells, hl]; exact hn, by rw [hA]; exact ⟨_, rfl⟩⟩
    · rename_i p
      replace h := cond_some h; obtain ⟨hb, h⟩ := h
      obtain ⟨ps, rfl, hn⟩ := isAggN_some hb
      rw [cellsP_agg hn] at h
      refine ⟨_, h, hok, fun G ob v hv => ?_⟩
      obtain ⟨vs, rfl, hl, hv, h1⟩ := rep_agg (rel_pv hv)
      refine ⟨vs, rfl, by rw [hl]; exact hn, by simp [hl], fun j a v ha hv' => ?_, h1, by simp [Value.cells, hl]; exact hn, by rw [hA]; exact ⟨_, rfl⟩⟩
      rw [List.getElem?_map] at ha
      cases hp : ps[j]? with
      | none => rw [hp] at ha; cases ha
      | some p => rw [hp] at ha; cases ha; exact .pv _ _ (hv j p v hp hv')
    · cases h
  | false =>
    rw [hA] at h
    simp only [cond] at h
    replace h := cond_some h; obtain ⟨hb, h⟩ := h
    have hn := Nat.eq_of_beq_eq_true hb
    have fin : ∀ (b : AV), K [b] = some r → (∀ (G : Gh) (ob : Nat → Option Ob) (v : Value), RelAV P G ob w a v → RelAV P G ob w b v ∧ v.oneCell' = true) → ∃ ws, K ws = some r ∧ okT P t = true ∧ ∀ (G : Gh) (ob : Nat → Option Ob) (v : Value), RelAV P G ob w a v → ∃ us : List Value, v.cells = us.toArray ∧ us.length = P.cellsOf t ∧ us.length = ws.length ∧
        (∀ (j : Nat) a v, ws[j]? = some a → us[j]? = some v → RelAV P G ob w a v) ∧ (∀ v ∈ us, v.oneCell' = true) ∧ Fits P t v := by
      intro b hK hb
      refine ⟨[b], hK, hok, fun G ob v hv => ?_⟩
      obtain ⟨h1, h2⟩ := hb G ob v hv
      refine ⟨[v], oneCell_cells h2, hn.symm, rfl, fun j a u ha hu => ?_, by simpa using h2, by rw [oneCell_cells h2]; exact hn.symm, by rw [hA]; simpa using h2⟩
      cases j with
      | zero => simp at ha hu; subst ha hu; exact h1
      | succ j => simp at ha
    split at h
    · obtain ⟨h, hp⟩ := normPV_some h
      exact fin _ h fun G ob v hv => ⟨hv, rep_one (rel_pv hv) hp⟩
    · exact fin _ h fun G ob v hv => ⟨hv, by cases hv; assumption⟩
    · exact fin _ h fun G ob v hv => ⟨hv, by cases hv; assumption⟩
    · exact fin _ h fun G ob v hv => ⟨hv, by cases hv; assumption⟩
    · exact fin _ h fun G ob v hv => ⟨hv, by cases hv; rfl⟩
    · exact fin _ h fun G ob v hv => ⟨hv, by cases hv; rfl⟩
    · exact fin _ h fun G ob v hv => ⟨hv, by cases hv; rfl⟩
    · cases h

/-! ### Rows -/
theorem cellsOfL_length {us : List Value} {n : Nat} (h : ∀ u ∈ us, u.cells.size = n) : (cellsOfL us).length = us.length * n := by
  induction us with
  | nil => simp [cellsOfL]
  | cons u us ih =>
    have h0 := h u (by simp)
    have h1 := ih (fun v hv => h v (by simp [hv]))
    simp only [cellsOfL, List.flatMap_cons, List.length_append, List.length_cons, Array.length_toList, h0, Nat.succ_mul] at h1 ⊢
    omega
theorem cellsOfL_get {n : Nat} : ∀ {us : List Value}, (∀ u ∈ us, u.cells.size = n) → ∀ {i j : Nat} {u : Value}, us[i]? = some u → j < n → (cellsOfL us)[i * n + j]? = u.cells[j]?
  | [], _, i, j, u, hu, _ => by simp at hu
  | v :: us, h, 0, j, u, hu, hj => by
    simp at hu; subst hu
    have h0 := h v (by simp)
    simp only [cellsOfL, List.flatMap_cons, Nat.zero_mul, Nat.zero_add]
    rw [List.getElem?_append_left (by simpa [h0] using hj)]
    simp
  | v :: us, h, i + 1, j, u, hu, hj => by
    have h0 := h v (by simp)
    have ih := cellsOfL_get (us := us) (fun v hv => h v (by simp [hv])) (i := i) (by simpa using hu) hj
    simp only [cellsOfL, List.flatMap_cons] at ih ⊢
    rw [List.getElem?_append_right (by simp [h0, Nat.succ_mul]; omega)]
    rw [← ih]
    congr 1
    simp [h0, Nat.succ_mul]; omega

/-- A slice's value that reads as a list. -/
structure Reads (P : Program) (ok : Nat → Prop) (w : World) (e : TypeId) (xs : List PV) (v : Value) (us : List Value) : Prop where
  len : us.length = xs.length
  rep : ∀ (i : Nat) x u, xs[i]? = some x → us[i]? = some u → RepV P ok w x u
  fits : ∀ u ∈ us, Fits P e u
  form : ∃ A c, v = .slice A xs.length c ∧ xs.length ≤ c ∧ (xs ≠ [] → ∃ b o, A = some ⟨b, o, none⟩ ∧ ∀ k u, (cellsOfL us)[k]? = some u → w.cell? ⟨b, o + k, none⟩ = some u)

theorem reads_own {ok : Nat → Prop} {e : TypeId} {xs : List PV} {v : Value} (h : OwnAt P ok w e xs v) : ∃ us, Reads P ok w e xs v us := by
  obtain ⟨us, hl, hv, hf, ho⟩ := h
  refine ⟨us, hl, hv, hf, ?_⟩
  rcases ho.2 with ⟨rfl, h0⟩ | ⟨g, cap, cur, rfl, _, hh, hc, _⟩
  · exact ⟨none, 0, by rw [h0], by omega, fun hx => absurd (List.length_eq_zero_iff.1 h0) hx⟩
  · refine ⟨_, cap, rfl, hc, fun _ => ⟨g, 0, rfl, fun k u hu => ?_⟩⟩
    have := ho.cells (g := g) rfl k u hu
    rwa [addr_add] at this

theorem reads_pv {ok : Nat → Prop} {e : TypeId} {xs : List PV} {v : Value} (h : RepV P ok w (.list e xs) v) : ∃ us, Reads P ok w e xs v us := by
  cases h with
  | nil _ a c => exact ⟨[], rfl, fun i x u hx => by simp at hx, by simp, a, c, rfl, by simp, fun h => absurd rfl h⟩
  | list _ _ b o c vs hx hok hc hv hf hw =>
    have hfit : ∀ u ∈ (List.range xs.length).map vs, Fits P e u := by
      intro u hu; simp at hu; obtain ⟨i, hi, rfl⟩ := hu; exact hf i hi
    refine ⟨(List.range xs.length).map vs, by simp, fun i x u hx hu => ?_, hfit, ⟨_, c, rfl, hc, fun _ => ⟨b, o, rfl, fun k u hu => ?_⟩⟩⟩
    · have hi : i < xs.length := (List.getElem?_eq_some_iff.1 hx).1
      simp [hi] at hu; subst hu; exact hv i x hx
    · have hsz : ∀ u ∈ (List.range xs.length).map vs, u.cells.size = P.cellsOf e := fun u hu => (hfit u hu).1
      have hk : k < ((List.range xs.length).map vs).length * P.cellsOf e := by
        rw [← cellsOfL_length hsz]; exact (List.getElem?_eq_some_iff.1 hu).1
      simp only [List.length_map, List.length_range] at hk
      have hn : 0 < P.cellsOf e := by rcases Nat.eq_zero_or_pos (P.cellsOf e) with h | h <;> simp_all
      have hi : k / P.cellsOf e < xs.length := (Nat.div_lt_iff_lt_mul hn).2 hk
      have hj : k % P.cellsOf e < P.cellsOf e := Nat.mod_lt _ hn
      have hke : k / P.cellsOf e * P.cellsOf e + k % P.cellsOf e = k := Nat.div_add_mod' ..
      have h2 := cellsOfL_get hsz (i := k / P.cellsOf e) (u := vs (k / P.cellsOf e)) (by simp [hi]) hj
      rw [hke, hu] at h2
      have h3 := hw _ _ u hi h2.symm
      rwa [hke] at h3

/-- A slice, as it reads now. -/
theorem asRow_some {C : Ctx} {G : Gh} {s : St} {a' : Act} {sl : Nat → AV} {ob : Nat → Option Ob} (R : RelG P C G s a' w) (V : View s sl ob) {α : Type} {r : α} {e : TypeId} {a : AV} {K : List PV → Option α}
    (h : asRow ob e a K = some r) : ∃ xs, K xs = some r ∧ ∀ v, RelAV P G s.ob w a v → ∃ us, Reads P G.ok w e xs v us := by
  unfold asRow at h
  split at h
  · replace h := asList_some h; obtain ⟨xs, rfl, h⟩ := h
    exact ⟨xs, h, fun v hv => reads_pv (rel_pv hv)⟩
  · refine ⟨[], h, fun v hv => ⟨[], rfl, fun i x u hx => by simp at hx, by simp, ?_⟩⟩
    cases hv; exact ⟨none, 0, rfl, by simp, fun h => absurd rfl h⟩
  · rename_i id g
    split at h
    · rename_i g' e' xs fr ho
      replace h := cond_some h; obtain ⟨hb, h⟩ := h
      simp only [Bool.and_eq_true] at hb
      have e1 := Nat.eq_of_beq_eq_true hb.1
      have e2 := Nat.eq_of_beq_eq_true hb.2
      subst e1 e2
      have ho' := V.ob id _ ho
      refine ⟨xs, h, fun v hv => ?_⟩
      cases hv with
      | row _ _ _ h1 h0 hg hv =>
        rw [hv _ _ _ ho']
        exact reads_own (R.ob id _ ho').1
    · cases h
  · cases h

/-- A part of an element that is read. -/
theorem partPV_some {α : Type} {r : α} {e t : TypeId} {p : PV} {off : Nat} {K : PV → Option α} (h : partPV P e t p off K = some r) :
    ∃ q, K q = some r ∧ okT P t = true ∧ ∀ (ok : Nat → Prop) (u : Value), RepV P ok w p u → Fits P e u → ∃ v, RepV P ok w q v ∧
      (aggT P t = true → off + P.cellsOf t ≤ u.cells.toList.length ∧ v = .agg ((u.cells.toList.drop off).take (P.cellsOf t)).toArray) ∧ (aggT P t = false → u.cells.toList[off]? = some v) := by
  unfold partPV at h
  replace h := cond_some h; obtain ⟨hok, h⟩ := h
  cases hb : (Nat.beq t e && Nat.beq off 0) with
  | true =>
    rw [hb] at h
    simp only [Bool.and_eq_true] at hb
    have e1 := Nat.eq_of_beq_eq_true hb.1
    have e2 := Nat.eq_of_beq_eq_true hb.2
    subst e1 e2
    refine ⟨p, h, hok, fun ok u hu hf => ⟨u, hu, fun hA => ?_, fun hA => ?_⟩⟩
    · have h2 := hf.2
      rw [hA] at h2
      obtain ⟨cs, rfl⟩ := h2
      have h1 := hf.1
      simp only [Value.cells] at h1 ⊢
      refine ⟨by simp; omega, ?_⟩
      congr 1
      apply Array.ext'
      simp only [List.drop_zero]
      exact (List.take_of_length_le (by simp [h1])).symm
    · have h2 := hf.2
      rw [hA] at h2
      simp only [Bool.false_eq_true, if_false] at h2
      simp [oneCell_cells h2]
  | false =>
    rw [hb] at h
    simp only [cond] at h
    replace h := cond_some h; obtain ⟨hb2, h⟩ := h
    simp only [Bool.and_eq_true] at hb2
    obtain ⟨hAe, hN⟩ := hb2
    obtain ⟨ps, rfl, hn⟩ := isAggN_some hN
    simp only [sizeT] at hn h
    cases hA : aggT P t with
    | true =>
      rw [hA] at h
      simp only [cond] at h
      replace h := cond_some h; obtain ⟨hb3, h⟩ := h
      have hle := Nat.le_of_ble_eq_true hb3
      rw [cellsP_agg hn] at h
      refine ⟨_, h, hok, fun ok u hu hf => ?_⟩
      obtain ⟨vs, rfl, hl, hv, h1⟩ := rep_agg hu
      refine ⟨.agg ((vs.drop off).take (P.cellsOf t)).toArray, .agg _ _ ?_ ?_ ?_, fun _ => ⟨?_, ?_⟩, fun h => by cases h⟩
      · simp; omega
      · intro j p v hp hv'
        rw [List.getElem?_take] at hp hv'
        split at hp
        · rename_i hj
          rw [if_pos hj] at hv'
          rw [List.getElem?_drop] at hp hv'
          exact hv _ p v hp hv'
        · cases hp
      · intro v hv'
        exact h1 v (List.mem_of_mem_drop (List.mem_of_mem_take hv'))
      · simp [Value.cells, hl]; omega
      · simp [Value.cells]
    | false =>
      rw [hA] at h
      simp only [cond] at h
      replace h := cond_some h; obtain ⟨hb3, h⟩ := h
      have hlt : off < ps.length := by rw [hn]; exact Nat.le_of_ble_eq_true hb3
      refine ⟨_, h, hok, fun ok u hu hf => ?_⟩
      obtain ⟨vs, rfl, hl, hv, h1⟩ := rep_agg hu
      have hlt' : off < vs.length := by omega
      refine ⟨vs[off], hv off _ _ (cellP_agg hlt) (List.getElem?_eq_getElem hlt'), fun h => (by cases h), fun _ => ?_⟩
      simp [Value.cells, hlt']

/-- Into an element of a row: its cells. -/
theorem elem_cells {ok : Nat → Prop} {e : TypeId} {xs : List PV} {us : List Value} {b o i : Nat} {u : Value} (hf : ∀ u ∈ us, Fits P e u)
    (hc : ∀ k u, (cellsOfL us)[k]? = some u → w.cell? ⟨b, o + k, none⟩ = some u) (hi : us[i]? = some u) :
    ∀ j c, u.cells.toList[j]? = some c → w.cell? ⟨b, o + i * P.cellsOf e + j, none⟩ = some c := by
  intro j c hj
  have hsz : ∀ u ∈ us, u.cells.size = P.cellsOf e := fun u hu => (hf u hu).1
  have hlt : j < P.cellsOf e := by
    have h1 := hsz u (List.mem_of_getElem? hi)
    have h2 := (List.getElem?_eq_some_iff.1 hj).1
    simp at h2; omega
  have := cellsOfL_get hsz hi hlt
  rw [Nat.add_assoc]
  refine hc _ c ?_
  rw [this]
  simpa using hj
end
end Go.Proofs.Sx
