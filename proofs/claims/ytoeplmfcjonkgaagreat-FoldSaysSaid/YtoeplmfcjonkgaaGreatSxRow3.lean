/- The interpreter's operations: append, cuts, stores, function values, lengths. -/
import Derived.Test.YtoeplmfcjonkgaaGreatSxRow2
set_option linter.unusedVariables false
set_option linter.unusedSimpArgs false
namespace Go.Proofs.Sx
open Go
section
variable {P : Program} {C : Ctx} {G : Gh} {s : St} {a : Act} {w : World} {sl : Nat → AV} {ob : Nat → Option Ob} {o : Oper} {δ : Delta}
variable {an : An} {me : FuncId} {cf : FuncId → List PA → Option Ret}

theorem cellsOfL_append (us vs : List Value) : cellsOfL (us ++ vs) = cellsOfL us ++ cellsOfL vs := by simp [cellsOfL]

theorem run_append_none {w : World} {t ty e : TypeId} {i : TypeInfo} (ht : P.underlying t = some (.slice e)) (hi : P.info? e = some i) {v : Value} {n : Nat} {xs : List Value} {size : Nat} (hown : w.ownsRow 0 e size v n xs) (c : Nat) :
    (Builtin.append_ #[t, t] ty #[v, .slice none 0 c]).run P w = .ok v w := by
  rcases hown.2 with ⟨rfl, rfl⟩ | ⟨g, cap, cur, rfl, _, _, hnc, _⟩
  · simp [Builtin.append_, run_underlying ht, sizeOf, typeInfo, hi, Builtin.lenOf, Builtin.firstCells]
  · simp [Builtin.append_, run_underlying ht, sizeOf, typeInfo, hi, Builtin.lenOf, Builtin.firstCells, hnc, storeCells]

/-- An append, and where the row lies then: where it lay, or in a new block. -/
theorem run_append {w : World} {t ty e : TypeId} {i : TypeInfo} {z : Value} (ht : P.underlying t = some (.slice e)) (hi : P.info? e = some i) (hz : i.zero = some z) (hzs : z.cells.size = i.size)
    (hsz : 0 < i.size) {v : Value} {n : Nat} {xs : List Value} (hown : w.ownsRow 0 e i.size v n xs) {A : Option Addr} {m c : Nat} {news : List Value} (hl : news.length = m * i.size) (hA : 0 < m → A.isSome = true)
    (hnews : ∀ ad, A = some ad → ∀ j u, news[j]? = some u → w.cell? (ad.add j) = some u) (h1 : ∀ u ∈ news, u.oneCell' = true) (h63 : n + m ≤ maxLen) (hbytes : (n + m) * i.bytes ≤ 140737488355328) :
    ∃ v' w', (Builtin.append_ #[t, t] ty #[v, .slice A m c]).run P w = .ok v' w' ∧ w'.ownsRow 0 e i.size v' (n + m) (xs ++ news) ∧ w.grownBy w' v.ownBlock ∧
      ∀ b, v'.ownBlock = some b → (w.heap.size ≤ b ∨ v.ownBlock = some b) := by
  cases A with
  | none =>
    have hm : m = 0 := by rcases Nat.eq_zero_or_pos m with h | h; exact h; exact absurd (hA h) (by simp)
    subst hm
    have hnn : news = [] := List.eq_nil_of_length_eq_zero (by simpa using hl)
    subst hnn
    refine ⟨v, w, run_append_none ht hi hown c, by simpa using hown, ⟨rfl, rfl, rfl, Nat.le_refl _, fun _ _ _ => rfl⟩, fun b hb => .inr hb⟩
  | some ad =>
    obtain ⟨v', w', hr, h2, h3, h4⟩ := run_append_own (P := P) w 0 t ty e i z i.size i.bytes ht hi hz rfl rfl hzs hsz v n xs hown ad m c news hl (hnews ad rfl) h1 h63 hbytes (Nat.zero_le _)
    refine ⟨v', w', hr, h2, h3, fun b hb => ?_⟩
    rcases hown.2 with ⟨rfl, rfl⟩ | ⟨g, cap, cur, rfl, hbg, hg, hnc, hcm, hcs, htake⟩
    · by_cases hm : m = 0
      · have := h4.2 ⟨rfl, hm⟩; subst this; cases hb
      · have hr2 := run_append_nil (P := P) w t ty e i z ht hi hz ad m c news hl (hnews ad rfl) (by omega) (by simp only [maxLen] at h63; omega) (by simp only [Nat.zero_add] at hbytes; omega)
        rw [hr2] at hr
        cases hr
        simp only [Value.ownBlock, Option.some.injEq] at hb
        exact .inl (by omega)
    · by_cases hroom : n + m ≤ cap
      · have hfit : n * i.size + news.length ≤ cur.size := by rw [hl, hcs, ← Nat.add_mul]; exact Nat.mul_le_mul_right _ hroom
        have hr2 := run_append_room (P := P) w t ty e i ht hi g n cap cur hg ad m c news hl (hnews ad rfl) h1 hroom hfit
        rw [hr2] at hr
        cases hr
        exact .inr hb
      · have holds : ∀ j u, xs[j]? = some u → w.cell? ((⟨g, 0, none⟩ : Addr).add j) = some u := hown.cells (g := g) rfl
        have hr2 := run_append_grow (P := P) w t ty e i z ht hi hz ⟨g, 0, none⟩ n cap xs hown.1 holds ad m c news hl (hnews ad rfl) (by omega) (by simp only [maxLen] at h63; omega) (growslice_fits (by omega) hbytes)
        rw [hr2] at hr
        cases hr
        simp only [Value.ownBlock, Option.some.injEq] at hb
        exact .inl (by omega)

theorem reads_one {ok : Nat → Prop} {e : TypeId} {xs : List PV} {v : Value} {us : List Value} (h : Reads P ok w e xs v us) : ∀ c ∈ cellsOfL us, c.oneCell' = true := by
  intro c hc
  simp only [cellsOfL, List.mem_flatMap] at hc
  obtain ⟨u, hu, hcu⟩ := hc
  obtain ⟨j, hj⟩ := List.mem_iff_getElem?.1 hu
  have hlt : j < xs.length := by rw [← h.len]; exact (List.getElem?_eq_some_iff.1 hj).1
  exact fits_one (h.rep j _ u (List.getElem?_eq_getElem hlt) hj) (h.fits u hu) c hcu

theorem slice_one (A : Option Addr) (n c : Nat) : (Value.slice A n c).oneCell' = true := rfl

theorem own_slice {ok : Nat → Prop} {e : TypeId} {xs : List PV} {v : Value} (h : OwnAt P ok w e xs v) : v.oneCell' = true := by
  obtain ⟨us, _, _, _, ho⟩ := h
  rcases ho.2 with ⟨rfl, _⟩ | ⟨g, cap, cur, rfl, _⟩ <;> rfl

theorem op_append (R : RelG P C G s a w) (V : View s sl ob) {c : Call} (hc : c.callee = .builtin .append) (ho : o.op = .call c)
    (h : act P an me cf o sl ob some = some δ) : OpGoal P C s a w o δ := by
  simp only [act, ho, hc, forceAV_eq, forceL_eq] at h
  split at h
  · rename_i x y t t' hxs hts
    split at h
    · rename_i e he
      replace h := cond_some h; obtain ⟨hb, h⟩ := h
      simp only [Bool.and_eq_true] at hb
      have e1 := Nat.eq_of_beq_eq_true hb.1.1
      subst e1
      have hsz : 0 < P.cellsOf e := Nat.le_of_ble_eq_true hb.1.2
      obtain ⟨cs0, hz0⟩ := Option.isSome_iff_exists.1 hb.2
      obtain ⟨i, z, hi, hzz, hok, hzl, hzl2, _, _⟩ := zeroAV_some hz0
      have hci : P.cellsOf e = i.size := by simp [Program.cellsOf, hi]
      have hbi : P.bytesOf e = i.bytes := by simp [Program.bytesOf, hi]
      have hzs : z.cells.size = i.size := by rw [← hci, ← hzl2, ← hzl]; simp
      obtain ⟨ys, h, hys⟩ := asRow_some R V h
      obtain ⟨us, hreads⟩ := hys _ (opd_rel R V t y)
      obtain ⟨A, c', hyv, hyc, hyA⟩ := hreads.form
      have hx := opd_rel R V t x
      have hargs : c.args = #[x, y] := by rw [← Array.toArray_toList (xs := c.args), hxs]
      have htys : c.argTypes = #[t, t] := by rw [← Array.toArray_toList (xs := c.argTypes), hts]
      have hnl : (cellsOfL us).length = ys.length * i.size := by rw [cellsOfL_length (fun u hu => (hreads.fits u hu).1), hreads.len, hci]
      have hA1 : 0 < ys.length → A.isSome = true := fun hp => by
        obtain ⟨b, o', hA, _⟩ := hyA (by intro h; simp [h] at hp)
        simp [hA]
      have hA2 : ∀ ad, A = some ad → ∀ j u, (cellsOfL us)[j]? = some u → w.cell? (ad.add j) = some u := by
        intro ad hA j u hu
        by_cases hy0 : ys = []
        · subst hy0
          simp at hnl
          rw [hnl] at hu
          simp at hu
        · obtain ⟨b, o', hA', hcell⟩ := hyA hy0
          rw [hA'] at hA; cases hA
          rw [addr_add]; exact hcell j u hu
      have hrunv : ∀ v, a.eval x = v → ∀ v' w', (Builtin.append_ #[t, t] o.type #[v, .slice A ys.length c']).run P w = .ok v' w' → (execOp a.eval o).run P w = .ok (.value v') w' := by
        intro v hv v' w' hr
        simp only [execOp, ho, resolve, hc, Sem.run_bind, Sem.run_pure, Result.andThen_ok, invoke, builtin, hargs, htys, List.map_toArray, List.map_cons, List.map_nil, hv, hyv, hr]
      have hok1 := reads_one hreads
      split at h
      · rename_i e' hxn
        rw [hxn] at hx
        replace h := cond_some h; obtain ⟨hb2, h⟩ := h
        simp only [Bool.and_eq_true] at hb2
        have hb3 := Nat.le_of_ble_eq_true hb2.1
        have hb4 := Nat.le_of_ble_eq_true hb2.2
        simp only [Option.some.injEq] at h; subst h
        have hxv : a.eval x = .slice none 0 0 := by generalize a.eval x = ev at hx; cases hx; rfl
        obtain ⟨v', w', hr, h2, h3, h4⟩ := run_append (ty := o.type) (sliceT_under he) hi hzz hzs (by omega) (World.ownsRow_nil w 0 e i.size) (c := c') hnl hA1 hA2 hok1 (by simp only [maxLen]; omega) (by rw [hbi] at hb3; rw [Nat.zero_add]; exact hb3)
        have hsl : v'.oneCell' = true := by rcases h2.2 with ⟨rfl, _⟩ | ⟨g, cap, cur, rfl, _⟩ <;> rfl
        simp only [Nat.zero_add, List.nil_append] at h2
        refine goal_newrow R (FrzList.nil s) (hrunv _ hxv _ _ hr) ((Same.grown h3).mono fun b hb => by cases hb) hsl (fun b hb => ⟨(h4 b hb).resolve_right (fun h => by cases h), (h2.lt b hb).2⟩) ?_
        refine ⟨us, hreads.len, fun j x' u hj hu => ?_, hreads.fits, by rw [hci]; exact h2⟩
        exact (hreads.rep j x' u hj hu).mono (fun b hb => .inl hb) (fun b hb hlt => h3.block b hlt (by simp [Value.ownBlock]))
      · rename_i id g hxr
        rw [hxr] at hx
        split at h
        · rename_i g' e' xs hcr
          replace h := cond_some h; obtain ⟨hb2, h⟩ := h
          simp only [Bool.and_eq_true] at hb2
          have e1 := Nat.eq_of_beq_eq_true hb2.1.1
          have e2 := Nat.eq_of_beq_eq_true hb2.1.2
          subst e1 e2
          have hb3 := Nat.le_of_ble_eq_true hb2.2.1
          have hb4 := Nat.le_of_ble_eq_true hb2.2.2
          simp only [Option.some.injEq] at h; subst h
          have hc' := V.ob _ _ hcr
          have hxv : a.eval x = G.sg id := by generalize a.eval x = ev at hx; cases hx with | row _ _ _ _ _ _ hv => exact hv _ _ _ hc'
          obtain ⟨us0, hl0, hrep0, hfit0, hown0⟩ := (R.ob id _ hc').1
          rw [hci] at hown0
          obtain ⟨v', w', hr, h2, h3, h4⟩ := run_append (ty := o.type) (sliceT_under he) hi hzz hzs (by omega) hown0 (c := c') hnl hA1 hA2 hok1 (by simp only [maxLen]; omega) (by rw [hbi] at hb3; omega)
          have hsl : v'.oneCell' = true := by rcases h2.2 with ⟨rfl, _⟩ | ⟨g, cap, cur, rfl, _⟩ <;> rfl
          intro hd _ _ K Q hK
          refine wp_of_value (hrunv _ hxv _ _ hr) (hK _ _ ?_)
          have hSame : Same w w' (fun b => blk G id (some (.row g e xs false)) = some b) := Same.grown h3
          have R1 := R.turn (id := id) (o1 := .row g e xs false) (o2 := .row (g + 1) e (xs ++ ys) false) hc' rfl (v := v') (w' := w') hSame
            (fun cs h => by cases h) (fun g2 h => by cases h; exact ⟨g, rfl, by omega⟩) (fun g2 e2 xs2 fr2 h => by cases h; exact .inl ⟨g, rfl, by omega⟩)
            (fun b hb => by
              simp only [blk, upd_same] at hb
              exact ⟨(h2.lt b hb).2, h4 b hb⟩)
            (fun G' hok' hgb hsg hL hW => by
              refine ⟨⟨us0 ++ us, by simp [hl0, hreads.len], fun j x' u hj hu => ?_, fun u hu => ?_, ?_⟩, fun h => by cases h⟩
              · rw [hok']
                by_cases hj0 : j < xs.length
                · rw [List.getElem?_append_left hj0] at hj
                  rw [List.getElem?_append_left (by omega)] at hu
                  exact (hrep0 j x' u hj hu).mono (fun b hb => hb) hW
                · rw [List.getElem?_append_right (by omega)] at hj
                  rw [List.getElem?_append_right (by omega), hl0] at hu
                  exact (hreads.rep _ x' u hj hu).mono (fun b hb => hb) hW
              · rcases List.mem_append.1 hu with h | h
                · exact hfit0 u h
                · exact hreads.fits u h
              · rw [hsg, upd_same, cellsOfL_append, List.length_append, hci]; exact h2)
          have R2 := R1.put (dst := o.dst) (v := .row id (g + 1)) (u := v') hd (.row _ _ _ hsl (by simp [upd_same]) (fun g' hx' => by simp [upd_same, genOf] at hx'; omega) fun e' xs' fr' _ => by simp [upd_same])
          have hE : after s o.dst ⟨.row id (g + 1), [], [(id, .row (g + 1) e (xs ++ ys) false)]⟩ = putS { s with ob := upd s.ob id (some (.row (g + 1) e (xs ++ ys) false)) } o.dst (.row id (g + 1)) := by
            simp only [after, List.append_nil, setObs_one]
          rw [hE]
          exact ⟨_, R2⟩
        · cases h
      · cases h
    · cases h
  · cases h
end
end Go.Proofs.Sx
