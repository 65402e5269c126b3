/- The interpreter's operations: rows. -/
import Derived.Test.YtoeplmfcjonkgaaGreatSxUpd
set_option linter.unusedVariables false
set_option linter.unusedSimpArgs false
namespace Go.Proofs.Sx
open Go
section
variable {P : Program} {C : Ctx} {G : Gh} {s : St} {a : Act} {w : World} {sl : Nat → AV} {ob : Nat → Option Ob} {o : Oper} {δ : Delta}
variable {an : An} {me : FuncId} {cf : FuncId → List PA → Option Ret}

theorem blk_congr {G G' : Gh} {i : Nat} {o : Option Ob} (h1 : G'.gb i = G.gb i) (h2 : G'.sg i = G.sg i) : blk G' i o = blk G i o := by
  cases o with
  | none => rfl
  | some o => cases o <;> simp [blk, h1, h2]

/-- One thing is turned. -/
theorem RelG.turn (R : RelG P C G s a w) {id : Nat} {o1 o2 : Ob} (h1 : s.ob id = some o1) (hfr : frz (some o1) = false) {v : Value} {w' : World}
    (hw : Same w w' (fun b => blk G id (some o1) = some b))
    (hbx : ∀ cs, o2 = .box cs → ∃ cs', o1 = .box cs')
    (hgn : ∀ g, genOf (some o2) = some g → ∃ g0, genOf (some o1) = some g0 ∧ g0 ≤ g)
    (hrw : ∀ g e xs fr, o2 = .row g e xs fr → (∃ g0, genOf (some o1) = some g0 ∧ g0 < g) ∨ ∃ xs0 fr0, o1 = .row g e xs0 fr0 ∧ xs0.length = xs.length ∧ v = G.sg id)
    (hblk : ∀ b, blk { G with sg := upd G.sg id v } id (some o2) = some b → b < w'.heap.size ∧ (w.heap.size ≤ b ∨ blk G id (some o1) = some b))
    (hob : ∀ G' : Gh, G'.ok = G.ok → G'.gb = G.gb → G'.sg = upd G.sg id v → Later G G' s.ob (upd s.ob id (some o2)) → (∀ b, G.ok b → b < w.heap.size → w'.heap[b]? = w.heap[b]?) → RelOb P G' (upd s.ob id (some o2)) w' id o2)
    :
    RelG P C { G with sg := upd G.sg id v } { s with ob := upd s.ob id (some o2) } a w' := by
  have h2 : upd s.ob id (some o2) id = some o2 := upd_same ..
  have hT : ∀ b, blk G id (some o1) = some b → Turned G s.ob (fun i => i = id) b := fun b hb => ⟨id, rfl, by rw [h1]; exact hb, by rw [h1]; exact hfr⟩
  have key := R.step (G' := { G with sg := upd G.sg id v }) (fun i => i = id) (sl' := s.sl) (ob' := upd s.ob id (some o2)) (a' := a) (w' := w')
    (fun i hi => ⟨rfl, upd_ne _ _ hi, upd_ne _ _ hi⟩) (hw.mono hT)
    (fun b hb => hb) (fun b hb => .inl hb) (fun b hb => Nat.lt_of_lt_of_le (R.okS b hb) hw.size)
    (fun i hi h => by subst hi; rw [h2]; rfl)
    (fun i cs hi hx h => by
      subst hi
      rw [h2] at hx
      obtain ⟨cs', h3⟩ := hbx cs (Option.some.inj hx)
      exact ⟨rfl, cs', by rw [h1, h3]⟩)
    (fun i g hi hx h => by
      subst hi
      rw [h2] at hx
      obtain ⟨g0, h3, h4⟩ := hgn g hx
      exact ⟨g0, by rw [h1]; exact h3, h4⟩)
    (fun i g e xs fr hi hx h => by
      subst hi
      rw [h2] at hx
      rcases hrw g e xs fr (Option.some.inj hx) with ⟨g0, h3, h4⟩ | ⟨xs0, fr0, h3, h4, h5⟩
      · exact .inl ⟨g0, by rw [h1]; exact h3, h4⟩
      · exact .inr ⟨xs0, fr0, by rw [h1, h3], h4, by simp only [upd_same]; exact h5⟩)
    (fun hL hW i o hi hx => by
      subst hi
      rw [h2] at hx; cases hx
      exact hob _ rfl rfl rfl hL hW)
    (fun i b' hi hx => by
      subst hi
      rw [h2] at hx
      obtain ⟨h3, h4⟩ := hblk b' hx
      exact ⟨h3, h4.imp id (hT b')⟩)
    (fun i j b' hi hj _ _ => by subst hi hj; rfl)
    (fun i b' hi hx _ hk => by
      subst hi
      rw [h2] at hx
      rcases (hblk b' hx).2 with h3 | h3
      · have := R.okS b' hk; omega
      · exact R.apart i b' (by rw [h1]; exact h3) (by rw [h1]; exact hfr) hk)
    (fun i hi _ => by subst hi; exact .inl (by rw [h1]; rfl))
    R.tsz R.dfr (fun hL hW t => RelAV.later (G := G) (G' := { G with sg := upd G.sg id v }) (fun b hb => hb) hW hL (R.sl t))
  exact key

/-! ### Rows that are made -/
theorem goal_newrow (R : RelG P C G s a w) {f : List (Nat × Ob)} (hf : FrzList s f) {e : TypeId} {xs : List PV} {v : Value} {w' : World}
    (hr : (execOp a.eval o).run P w = .ok (.value v) w') (hw : Same w w' (fun _ => False)) (h1 : v.oneCell' = true)
    (hb : ∀ b, v.ownBlock = some b → w.heap.size ≤ b ∧ b < w'.heap.size) (hown : OwnAt P (okWith G s f) w' e xs v) :
    OpGoal P C s a w o ⟨.row (o.dst.getD 0) 0, [(o.dst.getD 0, .row 0 e xs false)], f⟩ := by
  intro hd hfr _ K Q hK
  obtain ⟨hfree, hnp⟩ := freeIds_one hfr
  refine wp_of_value hr (hK _ _ ?_)
  have hfree' : setObs s.ob f (o.dst.getD 0) = none := by
    rw [setObs_other]
    · exact hfree
    · rintro ⟨j, o'⟩ hp rfl
      obtain ⟨g, e', xs', h3, _⟩ := hf _ _ hp
      rw [hfree] at h3; cases h3
  have R1 := (R.freeze hf).new (id := o.dst.getD 0) (ob1 := .row 0 e xs false) (b := v.ownBlock) (v := v) (w' := w') hfree' hnp hw
    (fun G' _ hs => by simp [blk, hs]) hb rfl
    (fun G' hok _ hs hL => ⟨by rw [hok, hs]; exact hown, fun h => by cases h⟩)
  have R2 := R1.put (dst := o.dst) (v := .row (o.dst.getD 0) 0) (u := v) hd (.row _ _ _ h1 (by simp [upd_same]) (fun g' _ => Nat.zero_le _) fun e' xs' fr' _ => by simp [upd_same])
  have hE : after s o.dst ⟨.row (o.dst.getD 0) 0, [(o.dst.getD 0, .row 0 e xs false)], f⟩ = putS { s with ob := upd (setObs s.ob f) (o.dst.getD 0) (some (.row 0 e xs false)) } o.dst (.row (o.dst.getD 0) 0) := by
    simp only [after, setObs_append, setObs_one]
  rw [hE]
  exact ⟨_, R2⟩

theorem mapM_zero : ∀ {cs : List AV} {ps : List PV}, cs.mapM zeroCellP = some ps → ps.length = cs.length ∧ ∀ (j : Nat) c p, cs[j]? = some c → ps[j]? = some p → zeroCellP c = some p
  | [], ps, h => by simp at h; subst h; simp
  | c :: cs, ps, h => by
    simp only [List.mapM_cons, Option.bind_eq_bind, Option.pure_def] at h
    cases hc : zeroCellP c with
    | none => simp [hc] at h
    | some p =>
      cases hr : cs.mapM zeroCellP with
      | none => simp [hc, hr] at h
      | some qs =>
        simp [hc, hr] at h
        subst h
        obtain ⟨h1, h2⟩ := mapM_zero hr
        refine ⟨by simp [h1], fun j c' p' hj hp => ?_⟩
        cases j with
        | zero => simp at hj hp; subst hj hp; exact hc
        | succ j => exact h2 j c' p' (by simpa using hj) (by simpa using hp)

/-- The zero value of a type. -/
theorem zeroPV_some {t : TypeId} {p : PV} (h : zeroPV P t = some p) : ∃ (i : TypeInfo) (z : Value), P.info? t = some i ∧ i.zero = some z ∧ okT P t = true ∧ Fits P t z ∧
    (∀ c ∈ z.cells.toList, c.oneCell' = true) ∧ ∀ (ok : Nat → Prop) (w : World), RepV P ok w p z := by
  unfold zeroPV at h
  split at h
  · rename_i z cs hz hcs
    obtain ⟨i, z', hi, hz', hok, hl, hl2, h1, hr⟩ := zeroAV_some hcs
    rw [hi] at hz
    simp only [Option.bind_some, hz', Option.some.injEq] at hz
    subst hz
    split at h
    · rename_i ps hps
      obtain ⟨hpl, hp⟩ := mapM_zero hps
      have cell : ∀ (ok : Nat → Prop) (w : World) (j : Nat) p v, ps[j]? = some p → z'.cells.toList[j]? = some v → RepV P ok w p v := by
        intro ok w j p v hj hv
        have hlt : j < cs.length := by rw [← hpl]; exact (List.getElem?_eq_some_iff.1 hj).1
        have h3 := hp j _ p (List.getElem?_eq_getElem hlt) hj
        have h4 := hr ⟨fun _ => 0, fun _ => .nilFunc, ok⟩ (fun _ => none) w j _ v (List.getElem?_eq_getElem hlt) hv
        generalize cs[j] = c at h3 h4
        cases c <;> simp only [zeroCellP, Option.some.injEq, reduceCtorEq] at h3
        · subst h3; exact rel_pv h4
        · subst h3; cases h4; exact .nil _ _ _
      cases hA : aggT P t with
      | true =>
        rw [hA] at h
        simp only [cond] at h
        cases hV : isAggV z' with
        | false => rw [hV] at h; cases h
        | true =>
          rw [hV] at h
          simp only [Option.some.injEq] at h
          subst h
          cases z' <;> simp only [isAggV, Bool.false_eq_true] at hV
          rename_i arr
          refine ⟨i, _, hi, hz', hok, ⟨?_, by rw [hA]; exact ⟨_, rfl⟩⟩, h1, fun ok w => ?_⟩
          · simp only [Value.cells] at hl ⊢
            rw [← hl2, ← hl]; simp
          · have h5 := RepV.agg (P := P) (ok := ok) (w := w) ps arr.toList (by simp only [Value.cells] at hl; rw [hl, hpl]) (fun j p v hj hv => cell ok w j p v hj hv) h1
            simpa using h5
      | false =>
        rw [hA] at h
        simp only [cond] at h
        cases hV : isAggV z' with
        | true => rw [hV] at h; cases h
        | false =>
          rw [hV] at h
          have hone : z'.oneCell' = true := by
            cases z' <;> first | rfl | (simp [isAggV] at hV; done) | skip
            rename_i vs
            have := h1 (.tuple vs) (by simp [Value.cells])
            exact this
          have hc := oneCell_cells hone
          refine ⟨i, _, hi, hz', hok, ⟨?_, by rw [hA]; simpa using hone⟩, h1, fun ok w => ?_⟩
          · rw [← hl2, ← hl]; simp
          · refine cell ok w 0 p z' ?_ (by rw [hc]; rfl)
            cases ps with
            | nil => simp at h
            | cons q ps => simpa using h
    · cases h
  · cases h

theorem cellsOfL_replicate {z : Value} {n : Nat} (hs : 0 < z.cells.size) (j : Nat) : (cellsOfL (List.replicate n z))[j]? = if j < n * z.cells.size then z.cells[j % z.cells.size]? else none := by
  have hsz : ∀ u ∈ List.replicate n z, u.cells.size = z.cells.size := fun u hu => by rw [List.eq_of_mem_replicate hu]
  have hlen := cellsOfL_length hsz
  rw [List.length_replicate] at hlen
  by_cases hj : j < n * z.cells.size
  · rw [if_pos hj]
    have hi : j / z.cells.size < n := (Nat.div_lt_iff_lt_mul hs).2 hj
    have := cellsOfL_get hsz (i := j / z.cells.size) (u := z) (by simp [hi]) (Nat.mod_lt j hs)
    rwa [Nat.div_add_mod'] at this
  · rw [if_neg hj, List.getElem?_eq_none (by omega)]

theorem made_get {z : Array Value} {n j : Nat} (hs : 0 < z.size) : ((Array.range n).map (fun i => z[i % z.size]!)).toList[j]? = if j < n then z[j % z.size]? else none := by
  by_cases hj : j < n
  · have hm : j % z.size < z.size := Nat.mod_lt _ hs
    simp [hj, hm]
  · simp [hj]

theorem fits_one {ok : Nat → Prop} {w : World} {e : TypeId} {p : PV} {u : Value} (h : RepV P ok w p u) (hf : Fits P e u) : ∀ c ∈ u.cells.toList, c.oneCell' = true := by
  have h2 := hf.2
  cases hA : aggT P e with
  | true =>
    rw [hA] at h2
    obtain ⟨cs, rfl⟩ := h2
    cases h with
    | agg ps vs hl hv h1 => simpa [Value.cells] using h1
  | false =>
    rw [hA] at h2
    simp only [Bool.false_eq_true, if_false] at h2
    rw [oneCell_cells h2]
    simpa using h2

theorem ownsRow_base {w : World} {b b' : Nat} {e : TypeId} {sz n : Nat} {v : Value} {xs : List Value} (h : w.ownsRow b e sz v n xs) (hb : b' ≤ b) : w.ownsRow b' e sz v n xs :=
  ⟨h.1, h.2.imp id fun ⟨g, cap, cur, h1, h2, h3⟩ => ⟨g, cap, cur, h1, Nat.le_trans hb h2, h3⟩⟩

theorem op_makeSlice (R : RelG P C G s a w) (V : View s sl ob) {t : TypeId} {x y : Operand} (ho : o.op = .makeSlice t x y)
    (h : act P an me cf o sl ob some = some δ) : OpGoal P C s a w o δ := by
  have hx := opd_rel R V 0 x
  have hy := opd_rel R V 0 y
  simp only [act, ho, forceAV_eq, forceL_eq] at h
  split at h
  · rename_i e he
    split at h
    · rename_i z hz
      obtain ⟨i, zv, hi, hzz, hok, hfit, hone, hrep⟩ := zeroPV_some hz
      replace h := avInt_some h; obtain ⟨n, hn, h⟩ := h
      rw [hn] at hx
      replace h := avInt_some h; obtain ⟨m, hm, h⟩ := h
      rw [hm] at hy
      replace h := cond_some h; obtain ⟨hb, h⟩ := h
      simp only [Bool.and_eq_true, decide_eq_true_eq] at hb
      obtain ⟨⟨⟨⟨h0, h1⟩, h2⟩, h3⟩, h4⟩ := hb
      simp only [Option.some.injEq] at h; subst h
      have hci : P.cellsOf e = i.size := by simp [Program.cellsOf, hi]
      have hbi : P.bytesOf e = i.bytes := by simp [Program.bytesOf, hi]
      have hsz : 0 < P.cellsOf e := Nat.le_of_ble_eq_true h4
      have hzs : zv.cells.size = i.size := by rw [hfit.1, hci]
      have hrun := run_make (P := P) w t e i zv (sliceT_under he) hi hzz .i64 .i64 n m h0 h1 (by rw [hbi, Int.mul_comm] at h2; omega) h3
      refine goal_newrow R (FrzList.nil s) (v := .slice (some ⟨w.heap.size, 0, none⟩) n.toNat m.toNat) (w' := w.alloc (.cells (madeCells zv.cells (m.toNat * i.size)) e))
        (by simp [execOp, ho, rel_int hx, rel_int hy, hrun]) (Same.alloc w _ _) rfl (fun b hb => by simp [Value.ownBlock] at hb; subst hb; simp) ?_
      refine ⟨List.replicate n.toNat zv, by simp, fun j x u hj hu => ?_, fun u hu => by rw [List.eq_of_mem_replicate hu]; exact hfit, ?_⟩
      · obtain rfl := List.eq_of_mem_replicate (List.mem_of_getElem? hj)
        obtain rfl := List.eq_of_mem_replicate (List.mem_of_getElem? hu)
        exact hrep _ _
      · have hn : n.toNat ≤ m.toNat := by omega
        rw [List.length_replicate, hci]
        refine ⟨?_, .inr ⟨w.heap.size, m.toNat, _, rfl, Nat.zero_le _, heap_alloc_new w _, hn, by simp only [maxLen]; omega, by simp [madeCells, hzs], ?_⟩⟩
        · rw [cellsOfL_length (n := i.size) (fun u hu => by rw [List.eq_of_mem_replicate hu]; exact hzs)]; simp
        · apply List.ext_getElem?
          intro j
          rw [List.getElem?_take, cellsOfL_replicate (by omega), hzs]
          unfold madeCells
          have hms := made_get (z := zv.cells) (n := m.toNat * i.size) (j := j) (by omega)
          rw [hzs] at hms
          by_cases hj : j < n.toNat * i.size
          · rw [if_pos hj, if_pos hj]
            have : j < m.toNat * i.size := Nat.lt_of_lt_of_le hj (Nat.mul_le_mul_right _ hn)
            rw [if_pos this] at hms
            simpa [hzs] using hms
          · rw [if_neg hj, if_neg hj]
    · cases h
  · cases h
end
end Go.Proofs.Sx
