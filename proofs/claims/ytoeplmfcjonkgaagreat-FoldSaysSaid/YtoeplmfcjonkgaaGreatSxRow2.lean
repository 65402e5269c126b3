/- The interpreter's operations: slices that are built, appended to, cut; stores; function values; lengths. -/
import Derived.Test.YtoeplmfcjonkgaaGreatSxRow
set_option linter.unusedVariables false
set_option linter.unusedSimpArgs false
namespace Go.Proofs.Sx
open Go
section
variable {P : Program} {C : Ctx} {G : Gh} {s : St} {a : Act} {w : World} {sl : Nat → AV} {ob : Nat → Option Ob} {o : Oper} {δ : Delta}
variable {an : An} {me : FuncId} {cf : FuncId → List PA → Option Ret}

theorem cellsOfL_set {us : List Value} {n i : Nat} {v : Value} (hs : 0 < n) (h : ∀ u ∈ us, u.cells.size = n) (hv : v.cells.size = n) (hi : i < us.length) (j : Nat) :
    (cellsOfL (us.set i v))[j]? = if j < i * n then (cellsOfL us)[j]? else if j < i * n + n then v.cells[j - i * n]? else (cellsOfL us)[j]? := by
  have h' : ∀ u ∈ us.set i v, u.cells.size = n := fun u hu => by
    rcases List.mem_or_eq_of_mem_set hu with h1 | rfl
    · exact h u h1
    · exact hv
  by_cases hj : j < us.length * n
  · have hq : j / n < us.length := (Nat.div_lt_iff_lt_mul hs).2 hj
    have hm : j % n < n := Nat.mod_lt j hs
    have hdm : j / n * n + j % n = j := Nat.div_add_mod' ..
    by_cases hqi : j / n = i
    · have h1 : ¬ j < i * n := by rw [← hqi]; omega
      have h2 : j < i * n + n := by rw [← hqi]; omega
      rw [if_neg h1, if_pos h2]
      have := cellsOfL_get h' (i := i) (u := v) (by simp [hi]) hm
      rw [← hqi, hdm, hqi] at this
      rw [this]
      congr 1
      rw [← hqi]; omega
    · have hget := cellsOfL_get h (List.getElem?_eq_getElem hq) hm
      have hget' := cellsOfL_get h' (i := j / n) (u := us[j / n]) (by rw [List.getElem?_set_ne (Ne.symm hqi)]; exact List.getElem?_eq_getElem hq) hm
      rw [hdm] at hget hget'
      rw [hget', hget]
      by_cases h1 : j < i * n
      · rw [if_pos h1]
      · rw [if_neg h1]
        have h2 : ¬ j < i * n + n := by
          intro h2
          apply hqi
          have : j / n < i + 1 := (Nat.div_lt_iff_lt_mul hs).2 (by rw [Nat.succ_mul]; exact h2)
          have : i ≤ j / n := (Nat.le_div_iff_mul_le hs).2 (by omega)
          omega
        rw [if_neg h2]
  · have hl := cellsOfL_length h
    have hl' := cellsOfL_length h'
    rw [List.length_set] at hl'
    have hin : i * n + n ≤ us.length * n := by rw [← Nat.succ_mul]; exact Nat.mul_le_mul_right _ hi
    rw [if_neg (by omega), if_neg (by omega), List.getElem?_eq_none (by omega), List.getElem?_eq_none (by omega)]

/-- Elements put into a slice. -/
theorem fillPV_some (R : RelG P C G s a w) (V : View s sl ob) {e : TypeId} (hs : 0 < P.cellsOf e) {α : Type} {r : α} :
    ∀ (ps : List (Nat × Operand)) (xs : List PV) (us : List Value) (f0 : List (Nat × Ob)) (K : List PV → List (Nat × Ob) → Option α), fillPV P e ob sl ps xs K = some r → us.length = xs.length → FrzList s f0 →
      (∀ (j : Nat) x u, xs[j]? = some x → us[j]? = some u → ∀ ok' : Nat → Prop, (∀ b, okWith G s f0 b → ok' b) → RepV P ok' w x u) → (∀ u ∈ us, Fits P e u) →
      ∃ (xs' : List PV) (us' : List Value) (f : List (Nat × Ob)), K xs' f = some r ∧ FrzList s f ∧
        Instr.fill (fun i => some (i * P.cellsOf e, P.cellsOf e)) (cellsOfL us).toArray (ps.map fun p => (p.1, a.eval p.2)) = some (cellsOfL us').toArray ∧ us'.length = xs'.length ∧
        (∀ (j : Nat) x u, xs'[j]? = some x → us'[j]? = some u → ∀ ok' : Nat → Prop, (∀ b, okWith G s (f0 ++ f) b → ok' b) → RepV P ok' w x u) ∧ (∀ u ∈ us', Fits P e u) := by
  intro ps
  induction ps with
  | nil => intro xs us f0 K h hl hf hr hfit; exact ⟨xs, us, [], h, FrzList.nil s, rfl, hl, by rw [List.append_nil]; exact hr, hfit⟩
  | cons p ps ih =>
    obtain ⟨i, x⟩ := p
    intro xs us f0 K h hl hf hr hfit
    simp only [fillPV] at h
    replace h := cond_some h; obtain ⟨hb, h⟩ := h
    have hi : i < xs.length := Nat.le_of_ble_eq_true hb
    have hx := opd_rel R V e x
    obtain ⟨ws, h, hok, hcells⟩ := cellsAV_some h
    obtain ⟨vs, hc, hl2, hlw, hr2, h12, hfitx⟩ := hcells G s.ob _ hx
    obtain ⟨p, f1, h, hf1, hp⟩ := toPVA_some R V h
    have hsz : ∀ u ∈ us, u.cells.size = P.cellsOf e := fun u hu => (hfit u hu).1
    have hiu : i < us.length := by omega
    have hW : ∀ (fa fb : List (Nat × Ob)) (ok' : Nat → Prop), (∀ b, okWith G s (fa ++ fb) b → ok' b) → (∀ b, okWith G s fa b → ok' b) ∧ ∀ b, okWith G s fb b → ok' b := fun fa fb ok' ho =>
      ⟨fun b hb => ho b (hb.imp id fun ⟨i, o, h1, h2⟩ => ⟨i, o, List.mem_append_left _ h1, h2⟩), fun b hb => ho b (hb.imp id fun ⟨i, o, h1, h2⟩ => ⟨i, o, List.mem_append_right _ h1, h2⟩)⟩
    obtain ⟨xs', us', f, hK, hf2, hfill, h3, h4, h5⟩ := ih (xs.set i p) (us.set i (a.eval x)) (f0 ++ f1) _ h (by simp [hl]) (hf.append hf1)
      (fun j x' u hj hu ok' ho => by
        obtain ⟨ho1, ho2⟩ := hW _ _ ok' ho
        by_cases hji : j = i
        · subst hji
          rw [List.getElem?_set_self hi] at hj
          rw [List.getElem?_set_self hiu] at hu
          cases hj; cases hu
          exact hp _ hx ok' ho2
        · rw [List.getElem?_set_ne (Ne.symm hji)] at hj hu
          exact hr j x' u hj hu ok' ho1)
      (fun u hu => by
        rcases List.mem_or_eq_of_mem_set hu with h1 | rfl
        · exact hfit u h1
        · exact hfitx)
    refine ⟨xs', us', f1 ++ f, hK, hf1.append hf2, ?_, h3, fun j x u hj hu ok' ho => h4 j x u hj hu ok' (by rw [List.append_assoc]; exact ho), h5⟩
    have hlen := cellsOfL_length hsz
    have hin : i * P.cellsOf e + P.cellsOf e ≤ us.length * P.cellsOf e := by rw [← Nat.succ_mul]; exact Nat.mul_le_mul_right _ hiu
    simp only [List.map_cons, Instr.fill, hfitx.1, ne_eq, not_true_eq_false, decide_false, Bool.false_or, List.size_toArray]
    rw [if_neg (by simp; omega)]
    have : (a.eval x).cells.zipIdx.foldl (fun cs (y : Value × Nat) => cs.setIfInBounds (i * P.cellsOf e + y.2) y.1) (cellsOfL us).toArray = (cellsOfL (us.set i (a.eval x))).toArray := by
      rw [hc]
      have e1 : (vs.toArray.zipIdx.foldl (fun cs (y : Value × Nat) => cs.setIfInBounds (i * P.cellsOf e + y.2) y.1) (cellsOfL us).toArray) = ((vs.zipIdx 0).foldl (fun cs (y : Value × Nat) => cs.setIfInBounds (i * P.cellsOf e + y.2) y.1) (cellsOfL us).toArray) := by
        rw [← Array.foldl_toList]; simp
      rw [e1]
      apply Array.ext_getElem?
      intro j
      have h6 := foldl_put vs 0 (i * P.cellsOf e) (cellsOfL us).toArray j (by simp; omega)
      rw [h6]
      simp only [List.getElem?_toArray]
      rw [cellsOfL_set hs hsz hfitx.1 hiu j, hc]
      simp only [Nat.add_zero, hl2, List.getElem?_toArray]
    rw [this]
    exact hfill

theorem op_buildSlice (R : RelG P C G s a w) (V : View s sl ob) {t : TypeId} {len : Nat} {ps : Array (Nat × Operand)} (ho : o.op = .buildSlice t len ps)
    (h : act P an me cf o sl ob some = some δ) : OpGoal P C s a w o δ := by
  simp only [act, ho, forceAV_eq, forceL_eq] at h
  split at h
  · rename_i e he
    split at h
    · rename_i z hz
      obtain ⟨i, zv, hi, hzz, hok, hfit, hone, hrep⟩ := zeroPV_some hz
      replace h := cond_some h; obtain ⟨hb, h⟩ := h
      simp only [Bool.and_eq_true] at hb
      have hle := Nat.le_of_ble_eq_true hb.1
      have hsz : 0 < P.cellsOf e := Nat.le_of_ble_eq_true hb.2
      simp only [sizeT] at hle
      obtain ⟨xs', us', f, h, hf, hfill, h3, h4, h5⟩ := fillPV_some R V hsz ps.toList (List.replicate len z) (List.replicate len zv) [] _ h (by simp) (FrzList.nil s)
        (fun j x u hj hu ok' _ => by
          obtain rfl := List.eq_of_mem_replicate (List.mem_of_getElem? hj)
          obtain rfl := List.eq_of_mem_replicate (List.mem_of_getElem? hu)
          exact hrep _ _) (fun u hu => by rw [List.eq_of_mem_replicate hu]; exact hfit)
      simp only [Option.some.injEq] at h; subst h
      have hzs : zv.cells.size = P.cellsOf e := hfit.1
      have hzc : (if len * P.cellsOf e = 0 then (pure #[] : Sem (Array Value)) else do pure (← zeroValue e).cells).run P w = .ok (if len * P.cellsOf e = 0 then #[] else zv.cells) w := by
        split
        · rfl
        · simp [zeroValue, typeInfo, hi, hzz]
      have hzero : ((Array.range (len * P.cellsOf e)).map (fun k => (if len * P.cellsOf e = 0 then #[] else zv.cells)[k % (if len * P.cellsOf e = 0 then #[] else zv.cells).size]!)) = (cellsOfL (List.replicate len zv)).toArray := by
        apply Array.ext'
        apply List.ext_getElem?
        intro j
        by_cases h0 : len * P.cellsOf e = 0
        · have : len = 0 := by rcases Nat.mul_eq_zero.1 h0 with h | h <;> omega
          subst this
          simp [cellsOfL]
        · simp only [h0, if_false]
          rw [made_get (by omega), cellsOfL_replicate (by omega), hzs]
      have hp : (ps.map fun (x : Nat × Operand) => (x.1, a.eval x.2)).toList = ps.toList.map fun p => (p.1, a.eval p.2) := by simp
      have hlen' : us'.length = len ∧ xs'.length = us'.length := by
        have h6 : (cellsOfL us').length = (cellsOfL (List.replicate len zv)).length := by
          have key : ∀ (l : List (Nat × Value)) (c c' : Array Value), Instr.fill (fun i => some (i * P.cellsOf e, P.cellsOf e)) c l = some c' → c'.size = c.size := by
            intro l
            induction l with
            | nil => intro c c' h; simp [Instr.fill] at h; rw [h]
            | cons p l ih =>
              intro c c' h
              obtain ⟨i, v⟩ := p
              simp only [Instr.fill] at h
              split at h
              · cases h
              · rw [ih _ _ h, ← Array.foldl_toList]
                have := foldl_put_size v.cells.toList 0 (i * P.cellsOf e) c
                simpa using this
          have := key _ _ _ hfill
          simpa using this
        rw [cellsOfL_length (fun u hu => (h5 u hu).1), cellsOfL_length (n := P.cellsOf e) (fun u hu => by rw [List.eq_of_mem_replicate hu]; exact hzs), List.length_replicate] at h6
        exact ⟨Nat.eq_of_mul_eq_mul_right hsz h6, h3.symm⟩
      have hrun : (execOp a.eval o).run P w = .ok (.value (.slice (some ⟨w.heap.size, 0, none⟩) len len)) (w.alloc (.cells (cellsOfL us').toArray e)) := by
        simp only [execOp, ho, Instr.buildSlice, Sem.run_bind, run_underlying (sliceT_under he), Result.andThen_ok, run_sizeOf hok]
        rw [if_neg (by omega)]
        by_cases h0 : len * P.cellsOf e = 0
        · simp only [h0, if_true] at hzero ⊢
          simp only [Sem.run_bind, Sem.run_pure, Result.andThen_ok, hzero, hp, hfill, newRow, newObj, Sem.run, World.alloc_eq]
        · simp only [h0, if_false] at hzero ⊢
          simp only [Sem.run_bind, Sem.run_pure, Result.andThen_ok, zeroValue, typeInfo, program, Sem.run, hi, hzz, hzero, hp, hfill, newRow, newObj, World.alloc_eq]
      refine goal_newrow R hf hrun (Same.alloc w _ _) rfl (fun b hb => by simp [Value.ownBlock] at hb; subst hb; simp) ?_
      refine ⟨us', h3, fun j x u hj hu => ?_, h5, ?_⟩
      · have hrv := h4 j x u hj hu (okWith G s f) (fun b hb => by simpa using hb)
        exact hrv.mono (fun b hb => hb) (fun b hb hlt => alloc_old w _ hlt)
      · have hcl := cellsOfL_length (us := us') (fun u hu => (h5 u hu).1)
        have hxl : xs'.length = len := hlen'.2.trans hlen'.1
        refine ⟨by rw [hcl, h3], .inr ⟨w.heap.size, len, _, by rw [hxl], Nat.zero_le _, heap_alloc_new w _, by omega, ?_, by simp [hcl, hlen'.1], ?_⟩⟩
        · simp only [maxLen]
          have : len ≤ len * P.cellsOf e := Nat.le_mul_of_pos_right _ hsz
          omega
        · rw [List.toList_toArray, List.take_of_length_le (by rw [hcl, h3]; omega)]
    · cases h
  · cases h
end
end Go.Proofs.Sx
