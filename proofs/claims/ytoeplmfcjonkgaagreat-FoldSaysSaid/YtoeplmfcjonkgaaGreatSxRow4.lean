/- The interpreter's operations: cuts, stores, function values, lengths. -/
import Derived.Test.YtoeplmfcjonkgaaGreatSxRow3
set_option linter.unusedVariables false
set_option linter.unusedSimpArgs false
namespace Go.Proofs.Sx
open Go
section
variable {P : Program} {C : Ctx} {G : Gh} {s : St} {a : Act} {w : World} {sl : Nat → AV} {ob : Nat → Option Ob} {o : Oper} {δ : Delta}
variable {an : An} {me : FuncId} {cf : FuncId → List PA → Option Ret}

/-- A pure value, behind which rows are not written any more. -/
theorem goal_frz (R : RelG P C G s a w) {f : List (Nat × Ob)} (hf : FrzList s f) {p : PV} {u : Value} (hr : (execOp a.eval o).run P w = .ok (.value u) w) (hv : RepV P (okWith G s f) w p u) :
    OpGoal P C s a w o ⟨.pv p, [], f⟩ := by
  intro hd _ _ K Q hK
  refine wp_of_value hr (hK _ _ ?_)
  have R1 := (R.freeze hf).put (dst := o.dst) (v := .pv p) (u := u) hd (.pv _ _ hv)
  have hE : after s o.dst ⟨.pv p, [], f⟩ = putS { s with ob := setObs s.ob f } o.dst (.pv p) := by simp only [after, List.append_nil]
  rw [hE]
  exact ⟨_, R1⟩

theorem op_makeFunc (R : RelG P C G s a w) (V : View s sl ob) {f : FuncId} {first caps : Array Operand} (ho : o.op = .makeFunc (.func f) first caps)
    (h : act P an me cf o sl ob some = some δ) : OpGoal P C s a w o δ := by
  simp only [act, ho, forceAV_eq, forceL_eq] at h
  replace h := cond_some h; obtain ⟨hb, h⟩ := h
  have hf0 : first = #[] := Array.eq_empty_of_size_eq_zero (Nat.eq_of_beq_eq_true hb)
  obtain ⟨ps, fs, h, hf, hl, hp⟩ := toPVs_some R V h
  simp only [Option.some.injEq] at h; subst h
  refine goal_frz R hf (u := .func (.func f) #[] (caps.map a.eval)) (by simp [execOp, ho, Instr.makeFunc, hf0]) ?_
  have : caps.map a.eval = (caps.toList.map a.eval).toArray := by rw [← Array.toList_map, Array.toArray_toList]
  rw [this]
  refine .func f ps _ (by rw [List.length_map, hl, List.length_map]) fun j p v hj hv => ?_
  rw [List.getElem?_map] at hv
  cases hc : caps.toList[j]? with
  | none => rw [hc] at hv; cases hv
  | some x =>
    rw [hc] at hv; cases hv
    exact hp j _ p _ (by rw [List.getElem?_map, hc]; rfl) hj (opd_rel R V 0 x) _ (fun b hb => hb)

theorem op_len (R : RelG P C G s a w) (V : View s sl ob) {c : Call} (hc : c.callee = .builtin .len) (ho : o.op = .call c)
    (h : act P an me cf o sl ob some = some δ) : OpGoal P C s a w o δ := by
  simp only [act, ho, hc, forceAV_eq, forceL_eq] at h
  split at h
  · rename_i x t hx0 ht0
    have hx := opd_rel R V t x
    have run : ∀ (n : Int), (Builtin.len_ c.argTypes o.type (c.args.map a.eval)).run P w = .ok (.int .i64 n) w → (execOp a.eval o).run P w = .ok (.value (.int .i64 n)) w := by
      intro n hr
      simp only [execOp, ho, resolve, hc, Sem.run_bind, Sem.run_pure, Result.andThen_ok, invoke, builtin, hr]
    have hm : (c.args.map a.eval)[0]? = some (a.eval x) := by rw [Array.getElem?_map, hx0]; rfl
    cases hs : strT P t with
    | true =>
      rw [hs] at h
      simp only [cond] at h
      split at h
      · rename_i p hp
        rw [hp] at hx
        replace h := asStr_some h; obtain ⟨b, rfl, h⟩ := h
        simp only [Option.some.injEq] at h; subst h
        exact goal_pure R (run _ (by simp [Builtin.len_, ht0, hm, run_underlying (strT_under hs), rel_str hx, goInt])) (.pv _ _ (.int _ _))
      · cases h
    | false =>
      rw [hs] at h
      simp only [cond] at h
      split at h
      · rename_i e he
        obtain ⟨xs, h, hxs⟩ := asRow_some R V h
        obtain ⟨us, hr⟩ := hxs _ hx
        obtain ⟨A, c', hv, _⟩ := hr.form
        simp only [Option.some.injEq] at h; subst h
        exact goal_pure R (run _ (by simp [Builtin.len_, ht0, hm, run_underlying (sliceT_under he), hv, goInt])) (.pv _ _ (.int _ _))
      · cases h
  · cases h

theorem op_minmax (R : RelG P C G s a w) (V : View s sl ob) {c : Call} {b : Builtin} (hb : b = .min ∨ b = .max) (hc : c.callee = .builtin b) (ho : o.op = .call c)
    (h : act P an me cf o sl ob some = some δ) : OpGoal P C s a w o δ := by
  rcases hb with rfl | rfl
  all_goals
    simp only [act, ho, hc, forceAV_eq, forceL_eq] at h
    split at h
    · rename_i x y k hxy hk
      have hx := opd_rel R V o.type x
      have hy := opd_rel R V o.type y
      replace h := avInt_some h; obtain ⟨m, hm, h⟩ := h
      rw [hm] at hx
      replace h := avInt_some h; obtain ⟨n, hn, h⟩ := h
      rw [hn] at hy
      simp only [Option.some.injEq] at h; subst h
      have hargs : c.args = #[x, y] := by rw [← Array.toArray_toList (xs := c.args), hxy]
      refine goal_pure R ?_ (.pv _ _ (.int _ _))
      simp [execOp, ho, resolve, hc, invoke, builtin, hargs, rel_int hx, rel_int hy, Builtin.min_, Builtin.min2, Builtin.max_, Builtin.max2]
      first
        | done
        | (by_cases hlt : n < m <;> simp [hlt])
        | (by_cases hlt : m < n <;> simp [hlt])
    · cases h

theorem boundK_some (R : RelG P C G s a w) (V : View s sl ob) {α : Type} {r : α} {x : Option Operand} {n : Nat} {K : Int → Option α} (h : boundK P sl x n K = some r) :
    ∃ m : Int, K m = some r ∧ (x = none → m = n) ∧ ∀ y, x = some y → a.eval y = .int .i64 m := by
  unfold boundK at h
  split at h
  · exact ⟨_, h, fun _ => rfl, fun y h => by cases h⟩
  · rename_i y
    replace h := avInt_some h; obtain ⟨m, hm, h⟩ := h
    have := opd_rel R V 0 y
    rw [hm] at this
    exact ⟨m, h, (fun h => by cases h), (fun y' hy => by cases hy; exact rel_int this)⟩

theorem run_bounds {w : World} {isSlice : Bool} {n c : Nat} {lo hi : Option Value} {l h : Int} (hl : lo = none ∧ l = 0 ∨ lo = some (.int .i64 l)) (hh : hi = none ∧ h = n ∨ hi = some (.int .i64 h))
    (h0 : 0 ≤ l) (h1 : l ≤ h) (h2 : h ≤ (n : Int)) (hnc : n ≤ c) : (Instr.sliceBounds isSlice n c lo hi none).run P w = .ok (l.toNat, h.toNat, c) w := by
  have hhc : h ≤ (c : Int) := by omega
  have hh0 : 0 ≤ h := by omega
  have htn : ((h.toNat : Nat) : Int) = h := by omega
  rcases hl with ⟨rfl, rfl⟩ | rfl <;> rcases hh with ⟨rfl, rfl⟩ | rfl
  · simp [Instr.sliceBounds]
  · simp [Instr.sliceBounds, Instr.sliceBound, asIntOf, hh0, hhc]
  · simp [Instr.sliceBounds, Instr.sliceBound, asIntOf, h0, h1]
  · simp [Instr.sliceBounds, Instr.sliceBound, asIntOf, h0, hh0, hhc, htn, h1]

theorem op_slice (R : RelG P C G s a w) (V : View s sl ob) {t : TypeId} {x : Operand} {lo hi mx : Option Operand} (ho : o.op = .slice t x lo hi mx)
    (h : act P an me cf o sl ob some = some δ) : OpGoal P C s a w o δ := by
  have hx := opd_rel R V t x
  simp only [act, ho, forceAV_eq, forceL_eq] at h
  replace h := cond_none h; obtain ⟨hmx, h⟩ := h
  have hmx : mx = none := by cases mx <;> simp_all
  subst hmx
  cases hs : strT P t with
  | true =>
    rw [hs] at h
    simp only [cond] at h
    split at h
    · rename_i p hp
      rw [hp] at hx
      replace h := asStr_some h; obtain ⟨b, rfl, h⟩ := h
      obtain ⟨hi', h, hh1, hh2⟩ := boundK_some R V h
      obtain ⟨lo', h, hl1, hl2⟩ := boundK_some R V h
      replace h := cond_some h; obtain ⟨hb, h⟩ := h
      simp only [Bool.and_eq_true, decide_eq_true_eq] at hb
      simp only [Option.some.injEq] at h; subst h
      have hbd := run_bounds (P := P) (w := w) (isSlice := false) (n := b.size) (c := b.size) (lo := lo.map a.eval) (hi := hi.map a.eval) (l := lo') (h := hi')
        (by cases lo with | none => exact .inl ⟨rfl, by simpa using hl1 rfl⟩ | some y => exact .inr (by simp [hl2 y rfl]))
        (by cases hi with | none => exact .inl ⟨rfl, hh1 rfl⟩ | some y => exact .inr (by simp [hh2 y rfl])) hb.1.1 hb.1.2 hb.2 (Nat.le_refl _)
      exact goal_pure R (by simp [execOp, ho, Instr.sliceAt, Instr.slice, run_underlying (strT_under hs), rel_str hx, hbd]) (.pv _ _ (.str _))
    · cases h
  | false =>
    rw [hs] at h
    simp only [cond] at h
    split at h
    · rename_i e he
      have hrun : ∀ (A : Option Addr) (n c : Nat) (lo' hi' : Int), a.eval x = .slice A n c → (lo = none → lo' = 0) → (∀ y, lo = some y → a.eval y = .int .i64 lo') → (hi = none → hi' = n) → (∀ y, hi = some y → a.eval y = .int .i64 hi') →
          0 ≤ lo' → lo' ≤ hi' → hi' ≤ (n : Int) → n ≤ c → okT P e = true →
          (execOp a.eval o).run P w = .ok (.value (.slice (if c = lo'.toNat then A else A.map (·.add (lo'.toNat * P.cellsOf e))) (hi'.toNat - lo'.toNat) (c - lo'.toNat))) w := by
        intro A n c lo' hi' hev hl1 hl2 hh1 hh2 h0 h1 h2 hnc hoke
        have hbd := run_bounds (P := P) (w := w) (isSlice := true) (n := n) (c := c) (lo := lo.map a.eval) (hi := hi.map a.eval) (l := lo') (h := hi')
          (by cases lo with | none => exact .inl ⟨rfl, by simpa using hl1 rfl⟩ | some y => exact .inr (by simp [hl2 y rfl]))
          (by cases hi with | none => exact .inl ⟨rfl, hh1 rfl⟩ | some y => exact .inr (by simp [hh2 y rfl])) h0 h1 h2 hnc
        simp [execOp, ho, Instr.sliceAt, Instr.slice, run_underlying (sliceT_under he), hev, hbd, run_sizeOf hoke]
      replace h := cond_some h; obtain ⟨hoke, h⟩ := h
      cases htr : memN (o.dst.getD 0) (an.trunc me) with
      | true =>
        rw [htr] at h
        simp only [cond] at h
        split at h
        · rename_i id g hxr
          rw [hxr] at hx
          split at h
          · rename_i g' e' xs hcr
            replace h := cond_some h; obtain ⟨hb, h⟩ := h
            simp only [Bool.and_eq_true] at hb
            have e1 := Nat.eq_of_beq_eq_true hb.1.1
            have e2 := Nat.eq_of_beq_eq_true hb.1.2
            subst e1 e2
            have hlo : lo = none := by cases lo <;> simp_all
            subst hlo
            obtain ⟨hi', h, hh1, hh2⟩ := boundK_some R V h
            replace h := cond_some h; obtain ⟨hb2, h⟩ := h
            simp only [Bool.and_eq_true, decide_eq_true_eq] at hb2
            simp only [Option.some.injEq] at h; subst h
            have hc' := V.ob _ _ hcr
            have hxv : a.eval x = G.sg id := by generalize a.eval x = ev at hx; cases hx with | row _ _ _ _ _ _ hv => exact hv _ _ _ hc'
            obtain ⟨us0, hl0, hrep0, hfit0, hown0⟩ := (R.ob id _ hc').1
            have hk : hi'.toNat ≤ xs.length := by omega
            have fin : ∀ v', (execOp a.eval o).run P w = .ok (.value v') w → v'.oneCell' = true → (∀ b, v'.ownBlock = some b → (G.sg id).ownBlock = some b) →
                w.ownsRow 0 e (P.cellsOf e) v' hi'.toNat (cellsOfL (us0.take hi'.toNat)) → OpGoal P C s a w o ⟨.row id (g + 1), [], [(id, .row (g + 1) e (xs.take hi'.toNat) false)]⟩ := by
              intro v' hr hone hblk hown'
              intro hd _ _ K Q hK
              refine wp_of_value hr (hK _ _ ?_)
              have R1 := R.turn (id := id) (o1 := .row g e xs false) (o2 := .row (g + 1) e (xs.take hi'.toNat) false) hc' rfl (v := v') (w' := w) (Same.refl w _)
                (fun cs h => by cases h) (fun g2 h => by cases h; exact ⟨g, rfl, by omega⟩) (fun g2 e2 xs2 fr2 h => by cases h; exact .inl ⟨g, rfl, by omega⟩)
                (fun b hb => by
                  simp only [blk, upd_same] at hb
                  have := hblk b hb
                  exact ⟨(R.own id b (by rw [hc']; exact this)).1, .inr this⟩)
                (fun G' hok' hgb hsg hL hW => by
                  refine ⟨⟨us0.take hi'.toNat, by simp [hl0], fun j x' u hj hu => ?_, fun u hu => hfit0 u (List.mem_of_mem_take hu), ?_⟩, fun h => by cases h⟩
                  · rw [hok']
                    rw [List.getElem?_take] at hj hu
                    split at hj
                    · rename_i hlt
                      rw [if_pos hlt] at hu
                      exact hrep0 j x' u hj hu
                    · cases hj
                  · rw [hsg, upd_same, List.length_take, Nat.min_eq_left hk]; exact hown')
              have R2 := R1.put (dst := o.dst) (v := .row id (g + 1)) (u := v') hd (.row _ _ _ hone (by simp [upd_same]) (fun g' hx' => by simp [upd_same, genOf] at hx'; omega) fun e' xs' fr' _ => by simp [upd_same])
              have hE : after s o.dst ⟨.row id (g + 1), [], [(id, .row (g + 1) e (xs.take hi'.toNat) false)]⟩ = putS { s with ob := upd s.ob id (some (.row (g + 1) e (xs.take hi'.toNat) false)) } o.dst (.row id (g + 1)) := by
                simp only [after, List.append_nil, setObs_one]
              rw [hE]
              exact ⟨_, R2⟩
            have hcl : (cellsOfL (us0.take hi'.toNat)) = (cellsOfL us0).take (hi'.toNat * P.cellsOf e) := by
              have h3 := cellsOfL_length (us := us0.take hi'.toNat) (fun u hu => (hfit0 u (List.mem_of_mem_take hu)).1)
              rw [List.length_take, hl0, Nat.min_eq_left hk] at h3
              have h4 : cellsOfL us0 = cellsOfL (us0.take hi'.toNat) ++ cellsOfL (us0.drop hi'.toNat) := by rw [← cellsOfL_append, List.take_append_drop]
              rw [h4, ← h3, List.take_left]
            rcases hown0.2 with ⟨hsg, hn0⟩ | ⟨b, cap, cur, hsg, hbb, hh, hnc, hcm, hcs, htk⟩
            · have hi0 : hi' = 0 := by omega
              subst hi0
              have hr := hrun none 0 0 0 0 (by rw [hxv, hsg]) (fun _ => rfl) (fun y h => by cases h) (fun h => by have := hh1 h; omega) hh2 (by omega) (by omega) (by omega) (by omega) hoke
              simp only [Int.toNat_zero, Nat.sub_self, if_true] at hr
              refine fin _ hr rfl (fun b hb => by cases hb) ⟨?_, .inl ⟨rfl, rfl⟩⟩
              rw [hcl]; simp
            · have hr := hrun (some ⟨b, 0, none⟩) xs.length cap 0 hi' (by rw [hxv, hsg]) (fun _ => rfl) (fun y h => by cases h) hh1 hh2 (by omega) hb2.1 hb2.2 hnc hoke
              have hadd : (⟨b, 0, none⟩ : Addr).add 0 = ⟨b, 0, none⟩ := by rw [addr_add]
              simp only [Int.toNat_zero, Nat.zero_mul, Option.map_some, hadd, Nat.sub_zero, ite_self] at hr
              refine fin _ hr rfl (fun b' hb' => by rw [hsg]; exact hb') ⟨by rw [hcl, List.length_take, hown0.1, Nat.min_eq_left (Nat.mul_le_mul_right _ hk)], .inr ⟨b, cap, cur, rfl, hbb, hh, by omega, hcm, hcs, ?_⟩⟩
              rw [hcl, ← htk, List.take_take, Nat.min_eq_left (Nat.mul_le_mul_right _ hk)]
          · cases h
        · cases h
      | false =>
        rw [htr] at h
        simp only [cond] at h
        obtain ⟨xs, h, hxs⟩ := asRow_some R V h
        obtain ⟨us, hr⟩ := hxs _ hx
        obtain ⟨A, c', hv, hcc, hA⟩ := hr.form
        obtain ⟨p0, fs, h, hf, hp⟩ := toPV_some R V h
        obtain ⟨hi', h, hh1, hh2⟩ := boundK_some R V h
        obtain ⟨lo', h, hl1, hl2⟩ := boundK_some R V h
        replace h := cond_some h; obtain ⟨hb, h⟩ := h
        simp only [Bool.and_eq_true, decide_eq_true_eq] at hb
        simp only [Option.some.injEq] at h; subst h
        refine goal_frz R hf (hrun A xs.length c' lo' hi' hv (fun h => by simpa using hl1 h) hl2 hh1 hh2 hb.1.1 hb.1.2 hb.2 hcc hoke) ?_
        have hlen : ((xs.take hi'.toNat).drop lo'.toNat).length = hi'.toNat - lo'.toNat := by simp; omega
        rw [← hlen]
        by_cases he0 : (xs.take hi'.toNat).drop lo'.toNat = []
        · rw [he0]; exact .nil _ _ _
        · have hx0 : xs ≠ [] := by rintro rfl; simp at he0
          have hpos : 0 < hi'.toNat - lo'.toNat := by rw [← hlen]; exact List.length_pos_iff.2 he0
          obtain ⟨b, o', rfl, hcell⟩ := hA hx0
          have hclo : ¬ c' = lo'.toNat := by omega
          rw [if_neg hclo, Option.map_some, addr_add]
          have hokb : okWith G s fs b := by
            have h7 := hp _ hx (okWith G s fs) (fun b hb => hb)
            rw [hv] at h7
            generalize hE : (Value.slice (some ⟨b, o', none⟩) xs.length c') = V1 at h7
            have hlpos : 0 < xs.length := List.length_pos_iff.2 hx0
            cases h7 with
            | list _ _ b2 _ _ _ _ hok2 =>
              simp only [Value.slice.injEq, Option.some.injEq, Addr.mk.injEq] at hE
              rw [hE.1.1]; exact hok2
            | nil _ a2 c2 => simp only [Value.slice.injEq] at hE; omega
            | _ => cases hE
          have hsz : ∀ u ∈ us, u.cells.size = P.cellsOf e := fun u hu => (hr.fits u hu).1
          refine .list _ _ b _ _ (fun i => us.getD (lo'.toNat + i) default) he0 hokb (by rw [hlen]; omega) (fun i x' hi => ?_) (fun i hi => ?_) fun i j u hi hu => ?_
          · rw [List.getElem?_drop, List.getElem?_take] at hi
            split at hi
            · have hlt : lo'.toNat + i < us.length := by rw [hr.len]; exact (List.getElem?_eq_some_iff.1 hi).1
              exact (hr.rep _ x' _ hi (by simp [hlt])).mono (fun b hb => .inl hb) (fun _ _ _ => rfl)
            · cases hi
          · rw [hlen] at hi
            have hlt : lo'.toNat + i < us.length := by rw [hr.len]; omega
            have : us.getD (lo'.toNat + i) default = us[lo'.toNat + i] := by simp [hlt]
            rw [this]; exact hr.fits _ (List.getElem_mem hlt)
          · rw [hlen] at hi
            have hlt : lo'.toNat + i < us.length := by rw [hr.len]; omega
            have hg : us.getD (lo'.toNat + i) default = us[lo'.toNat + i] := by simp [hlt]
            rw [hg] at hu
            have hj : j < P.cellsOf e := by rw [← hsz _ (List.getElem_mem hlt)]; exact (Array.getElem?_eq_some_iff.1 hu).1
            have h8 := hcell _ u ((cellsOfL_get hsz (List.getElem?_eq_getElem hlt) hj).trans hu)
            rw [show o' + ((lo'.toNat + i) * P.cellsOf e + j) = o' + lo'.toNat * P.cellsOf e + (i * P.cellsOf e + j) by rw [Nat.add_mul]; omega] at h8
            exact h8
    · cases h
end
end Go.Proofs.Sx
