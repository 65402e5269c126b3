/- What may be reckoned ahead: both expressions come to one tree, whatever is reckoned. -/
import Derived.Test.YtoeplmfcjonkgaaGreatZFold
set_option linter.unusedVariables false
set_option linter.unusedSimpArgs false
namespace Go.Proofs.Sx.Z
open Go

theorem ret1 (p : PV) : Ev3 (fun _ _ _ => some ⟨[.v p], []⟩) (OneP p) := .ret rfl
theorem notlit_ev (m : Node) : Ev P an 106 [.v (m.pv 26)] (OneP (.bool (!(isL m)))) := by
  obtain ⟨op, name, kind, n, a, kids⟩ := m
  exact .fn (fun k => f106_eq k op name kind n a _) (.ret rfl)
theorem index_L (ms : List Node) (hl : ms.length ≤ 1000000) : ∀ (f : Nat) (i : Int), 0 ≤ i → (ms.length : Int) - i ≤ f →
    Ev3 (fun k m0 _ => f60_L2 k m0 (pvs 26 ms) ((pvs 26 ms).length : Int) i) (fun r => ∃ j : Int, (decide (j ≥ 0)) = !((ms.drop i.toNat).all isL) ∧ r = ⟨[.v (.int .i64 j)], []⟩) := by
  intro f
  induction f with
  | zero =>
    intro i h0 hf
    refine .loop0 (fun k m0 _ => f60_L2_eq k m0 _ _ _) (.condF (by rw [pvs_length]; simp; omega) (.ret ⟨-1, ?_, rfl⟩))
    rw [List.drop_of_length_le (by omega)]; rfl
  | succ f ih =>
    intro i h0 hf
    refine .loop0 (fun k m0 _ => f60_L2_eq k m0 _ _ _) (.cond (fun hi => ?_) (fun hi => .ret ⟨-1, ?_, rfl⟩))
    · have hi := dT hi
      rw [pvs_length] at hi
      rw [pvs_get _ h0 hi, wrap64_id (by omega) (by omega)]
      have hd : ms.drop i.toNat = ms[i.toNat]'(by omega) :: ms.drop (i + 1).toNat := by
        rw [show (i + 1).toNat = i.toNat + 1 by omega]; exact List.drop_eq_getElem_cons (by omega)
      have IH := ih (i + 1) (by omega) (by omega)
      rw [hd]
      refine .condT (pvs_inB _ h0 hi) (.bR (notlit_ev _) ?_)
      rintro r rfl
      refine .condT rfl (.asBool rfl (.cond (fun hb => .ret ⟨i, ?_, rfl⟩) (fun hb => .mono IH ?_)))
      · have hb : isL (ms[i.toNat]'(by omega)) = false := by simpa using hb
        simp [hb, h0]
      · have hb : isL (ms[i.toNat]'(by omega)) = true := by simpa using hb
        rintro r ⟨j, hj, rfl⟩
        exact ⟨j, by rw [hj]; simp [hb], rfl⟩
    · have hi := dF hi
      rw [pvs_length] at hi
      rw [List.drop_of_length_le (by omega)]; rfl
theorem contains_ev (ms : List Node) (hl : ms.length ≤ 1000000) : Ev P an 65 [.v (.list 26 (pvs 26 ms)), .v (.func 106 [])] (OneP (.bool (!(ms.all isL)))) := by
  refine .fn (fun k => f65_eq k _) (.bR (Q' := fun r => ∃ j : Int, (decide (j ≥ 0)) = !(ms.all isL) ∧ r = ⟨[.v (.int .i64 j)], []⟩) ?_ ?_)
  · exact .fn (fun k => f60_eq k _) (index_L ms hl ms.length 0 (by decide) (by omega)).in0
  · rintro r ⟨j, hj, rfl⟩
    refine .condT rfl (.asInt rfl (.ret ?_))
    unfold OneP
    rw [hj]
/-- May an operator be reckoned ahead? -/
def Reck (op : ByteArray) (b : Bool) : Prop := Ev P an 105 [.v (.str op)] (OneP (.bool b))
theorem reck_ar {op : ByteArray} (h : Ar op) : Reck op true := by
  cases h <;> exact .fn (fun k => (f105_eq k _).trans (by kernel_rfl : _ = some ⟨[.v (.bool true)], []⟩)) (ret1 _)
theorem reck_neg : Reck sNeg true := .fn (fun k => (f105_eq k _).trans (by kernel_rfl : _ = some ⟨[.v (.bool true)], []⟩)) (ret1 _)
theorem reck_not : Reck sNot true := .fn (fun k => (f105_eq k _).trans (by kernel_rfl : _ = some ⟨[.v (.bool true)], []⟩)) (ret1 _)
theorem reck_len : Reck sLen false := .fn (fun k => (f105_eq k _).trans (by kernel_rfl : _ = some ⟨[.v (.bool false)], []⟩)) (ret1 _)
theorem reck_at : Reck sAt false := .fn (fun k => (f105_eq k _).trans (by kernel_rfl : _ = some ⟨[.v (.bool false)], []⟩)) (ret1 _)
theorem reck_sum : Reck sSum false := .fn (fun k => (f105_eq k _).trans (by kernel_rfl : _ = some ⟨[.v (.bool false)], []⟩)) (ret1 _)

/-- What is done of an operator that may be reckoned ahead. -/
noncomputable def tailA (op name : ByteArray) (kind n a : Int) (L : List PV) (k : Nat) : Option Ret :=
  bR (sem P an k 105 [(.v (PV.str op))]) fun r => cond (okCV [] 0 1 r.res && okLents [] r.lent && r.res.all isFlatCV) (asBool (cvP (resC 0 r)) fun b => cond b (bR (sem P an k 65 [(.v (PV.list 26 L)), (.v (PV.func 106 []))]) fun r2 => cond (okCV [] 0 1 r2.res && okLents [] r2.lent && r2.res.all isFlatCV) (asBool (cvP (resC 0 r2)) fun b2 => cond (!b2)
    (cond (decide ((L.length : Int) > 1)) (cond (inB 1 L.length) (bR (sem P an k 107 [(.v (L.getD 1 default))]) fun r3 => cond (okCV [] 0 1 r3.res && okLents [] r3.lent && true) (cond (isAggN 3 (cvP (resC 0 r3))) (f46_J22 k op name kind n a s0 s0 0 0 0 (cellP 0 (cvP (resC 0 r3))) (cellP 1 (cvP (resC 0 r3))) (cellP 2 (cvP (resC 0 r3))) L []) (none)) (none)) (none)) (f46_J22 k op name kind n a s0 s0 0 0 0 (PV.int .i64 0) (PV.int .i64 0) (PV.list 2 []) L []))
    (some ⟨[.v (PV.agg [(PV.str op), (PV.str name), (PV.int .i64 kind), (PV.int .i64 n), (PV.int .i64 a), (PV.list 26 L)])], []⟩)) (none)) (some ⟨[.v (PV.agg [(PV.str op), (PV.str name), (PV.int .i64 kind), (PV.int .i64 n), (PV.int .i64 a), (PV.list 26 L)])], []⟩)) (none)
section
variable {op name : ByteArray} {kind n a : Int} {ms : List Node}
theorem tail_no (h : Reck op false) : Ev3 (fun k _ _ => tailA op name kind n a (pvs 26 ms) k) (OneP ((Node.mk op name kind n a ms).pv 26)) := by
  unfold tailA
  refine .bR h ?_
  rintro r rfl
  exact .condT rfl (.asBool rfl (.condF rfl (.ret rfl)))
theorem tail_some (h : Reck op true) (hl : ms.length ≤ 1000000) (ha : ms.all isL = false) : Ev3 (fun k _ _ => tailA op name kind n a (pvs 26 ms) k) (OneP ((Node.mk op name kind n a ms).pv 26)) := by
  unfold tailA
  refine .bR h ?_
  rintro r rfl
  refine .condT rfl (.asBool rfl (.condT rfl (.bR (contains_ev ms hl) ?_)))
  rintro r rfl
  rw [ha]
  exact .condT rfl (.asBool rfl (.condF rfl (.ret rfl)))
theorem value_ev (kd nn aa : Int) : Ev P an 107 [.v ((Node.mk sLit s0 kd nn aa []).pv 26)] (OneP (valP kd nn [])) := .fn (fun k => f107_eq k _ _ _ _ _ _) (.ret rfl)
/-- What comes of an operator's value. -/
theorem J22 {k1 n1 a1 : Int} {rest : List Node} {k2 n2 : Int} (ho : ∃ kk nn e : Int, (e = 0 → FitP kk nn) ∧ Ev P an 40 [.v (.str op), .v (valP k1 n1 []), .v (valP k2 n2 [])] (fun r => r = ⟨[.v (valP kk nn []), .v (.int .i64 e)], []⟩)) :
    True := trivial
theorem tail_op (kk nn e : Int) {k1 n1 a1 k2 n2 : Int} {rest : List Node} (ho : Ev P an 40 [.v (.str op), .v (valP k1 n1 []), .v (valP k2 n2 [])] (fun r => r = ⟨[.v (valP kk nn []), .v (.int .i64 e)], []⟩)) :
    Ev3 (fun k _ _ => f46_J22 k op name kind n a s0 s0 0 0 0 (.int .i64 k2) (.int .i64 n2) (.list 2 []) (pvs 26 (.mk sLit s0 k1 n1 a1 [] :: rest)) [])
      (OneP (cond (e == 0) ((Node.mk sLit s0 kk nn a []).pv 26) ((Node.mk op name kind n a (.mk sLit s0 k1 n1 a1 [] :: rest)).pv 26))) := by
  refine .eq (fun k _ _ => f46_J22_eq k _ _ _ _ _ _ _ _ _ _ _ _ _ _ _) (.condT (inB_true (by decide) (by rw [pvs_length]; simp)) (.bR (value_ev k1 n1 a1) ?_))
  rintro r rfl
  refine .condT rfl (.bR ho ?_)
  rintro r rfl
  refine .condT rfl (.condT rfl (.asInt rfl (.cond (fun he => .bR (Q' := OneP ((Node.mk sLit s0 kk nn a []).pv 26)) (.fn (fun k => f108_eq k _ _ _ _) (.ret rfl)) ?_) (fun he => .ret ?_))))
  · rintro r rfl
    rw [he]
    exact .condT rfl (.condT rfl (.ret rfl))
  · rw [he]; rfl
theorem tail_one (h : Reck op true) {k1 n1 a1 kk nn e : Int} (ho : Ev P an 40 [.v (.str op), .v (valP k1 n1 []), .v (valP 0 0 [])] (fun r => r = ⟨[.v (valP kk nn []), .v (.int .i64 e)], []⟩)) :
    Ev3 (fun k _ _ => tailA op name kind n a (pvs 26 [.mk sLit s0 k1 n1 a1 []]) k) (OneP (cond (e == 0) ((Node.mk sLit s0 kk nn a []).pv 26) ((Node.mk op name kind n a [.mk sLit s0 k1 n1 a1 []]).pv 26))) := by
  unfold tailA
  refine .bR h ?_
  rintro r rfl
  refine .condT rfl (.asBool rfl (.condT rfl (.bR (contains_ev [.mk sLit s0 k1 n1 a1 []] (by simp)) ?_)))
  rintro r rfl
  rw [show List.all [Node.mk sLit s0 k1 n1 a1 []] isL = true by simp [isL, strEq_self]]
  exact .condT rfl (.asBool rfl (.condT rfl (.condF rfl (tail_op kk nn e ho))))
theorem tail_two (h : Reck op true) {k1 n1 a1 k2 n2 a2 kk nn e : Int} (ho : Ev P an 40 [.v (.str op), .v (valP k1 n1 []), .v (valP k2 n2 [])] (fun r => r = ⟨[.v (valP kk nn []), .v (.int .i64 e)], []⟩)) :
    Ev3 (fun k _ _ => tailA op name kind n a (pvs 26 [.mk sLit s0 k1 n1 a1 [], .mk sLit s0 k2 n2 a2 []]) k) (OneP (cond (e == 0) ((Node.mk sLit s0 kk nn a []).pv 26) ((Node.mk op name kind n a [.mk sLit s0 k1 n1 a1 [], .mk sLit s0 k2 n2 a2 []]).pv 26))) := by
  unfold tailA
  refine .bR h ?_
  rintro r rfl
  refine .condT rfl (.asBool rfl (.condT rfl (.bR (contains_ev [.mk sLit s0 k1 n1 a1 [], .mk sLit s0 k2 n2 a2 []] (by simp)) ?_)))
  rintro r rfl
  rw [show List.all [Node.mk sLit s0 k1 n1 a1 [], Node.mk sLit s0 k2 n2 a2 []] isL = true by simp [isL, strEq_self]]
  refine .condT rfl (.asBool rfl (.condT rfl (.condT rfl (.condT rfl (.bR (value_ev k2 n2 a2) ?_)))))
  rintro r rfl
  exact .condT rfl (.condT rfl (tail_op kk nn e ho))

/-- The first kid is no literal. -/
theorem J7_other {m0 : Node} {rest : List Node} (h : isL m0 = false) (l : List PV) :
    Ev3 (fun k _ _ => f46_J7 k op name kind n a l s0 s0 0 0 0 (pvs 26 (m0 :: rest)) []) (OneP ((Node.mk op name kind n a (m0 :: rest)).pv 26)) := by
  obtain ⟨o2, n2, k2, nn2, a2, c2⟩ := m0
  have h : strEq o2 ⟨#[108, 105, 116]⟩ = false := h
  refine .eq (fun k _ _ => f46_J7_eq k _ _ _ _ _ _ _ _ _ _ _ _ _) (.condT (by rw [pvs_length]; simp) (.condT (inB_true (by decide) (by rw [pvs_length]; simp)) (.condT rfl (.asStr rfl (.condT ?_ (.ret rfl))))))
  rw [h]; rfl
theorem J7_none (l : List PV) : Ev3 (fun k _ _ => f46_J7 k op name kind n a l s0 s0 0 0 0 (pvs 26 []) []) (OneP ((Node.mk op name kind n a []).pv 26)) :=
  .eq (fun k _ _ => f46_J7_eq k _ _ _ _ _ _ _ _ _ _ _ _ _) (.condF rfl (.ret rfl))
/-- The first kid is a literal; the operator is none of and, or, if. -/
theorem J7_lit {k1 n1 a1 : Int} {rest : List Node} (h1 : strEq op sAnd = false) (h2 : strEq op sOr = false) (h3 : strEq op sIf = false) (l : List PV) {Q : Ret → Prop}
    (h : Ev3 (fun k _ _ => tailA op name kind n a (pvs 26 (.mk sLit s0 k1 n1 a1 [] :: rest)) k) Q) :
    Ev3 (fun k _ _ => f46_J7 k op name kind n a l s0 s0 0 0 0 (pvs 26 (.mk sLit s0 k1 n1 a1 [] :: rest)) []) Q := by
  refine .eq (fun k _ _ => f46_J7_eq k _ _ _ _ _ _ _ _ _ _ _ _ _) (.condT (by rw [pvs_length]; simp) (.condT (inB_true (by decide) (by rw [pvs_length]; simp)) (.condT rfl (.asStr rfl (.condF (by rw [show strEq sLit ⟨#[108, 105, 116]⟩ = true from strEq_self _]; rfl) (.condF h1 (.condF h2 (.condF h3 h))))))))
theorem J7_and {k1 n1 a1 : Int} {m2 : Node} (hop : op = sAnd ∨ op = sOr) (l : List PV) :
    Ev3 (fun k _ _ => f46_J7 k op name kind n a l s0 s0 0 0 0 (pvs 26 [.mk sLit s0 k1 n1 a1 [], m2]) []) (OneP (cond ((n1 == 1) == strEq op sAnd) (m2.pv 26) ((Node.mk sLit s0 k1 n1 a1 []).pv 26))) := by
  obtain ⟨o2, nm2, kd2, nn2, a2, c2⟩ := m2
  refine .eq (fun k _ _ => f46_J7_eq k _ _ _ _ _ _ _ _ _ _ _ _ _) (.condT rfl (.condT rfl (.condT rfl (.asStr rfl (.condF (by rw [show strEq sLit ⟨#[108, 105, 116]⟩ = true from strEq_self _]; rfl) ?_)))))
  rcases hop with rfl | rfl
  · refine .condT (strEq_self _) (.condT rfl (.condT rfl (.condT rfl (.asInt rfl (.cond (fun hc => .condT rfl (.condT rfl (.ret ?_))) (fun hc => .condT rfl (.condT rfl (.ret ?_))))))))
    · have hc : ((n1 == 1) == strEq sAnd sAnd) = true := hc
      rw [hc]; rfl
    · have hc : ((n1 == 1) == strEq sAnd sAnd) = false := hc
      rw [hc]; rfl
  · refine .condF (by decide +kernel) (.condT (strEq_self _) (.condT rfl (.condT rfl (.condT rfl (.asInt rfl (.cond (fun hc => .condT rfl (.condT rfl (.ret ?_))) (fun hc => .condT rfl (.condT rfl (.ret ?_)))))))))
    · have hc : ((n1 == 1) == strEq sOr sAnd) = true := hc
      rw [hc]; rfl
    · have hc : ((n1 == 1) == strEq sOr sAnd) = false := hc
      rw [hc]; rfl
theorem J7_if {k1 n1 a1 : Int} {m2 m3 : Node} (l : List PV) :
    Ev3 (fun k _ _ => f46_J7 k sIf name kind n a l s0 s0 0 0 0 (pvs 26 [.mk sLit s0 k1 n1 a1 [], m2, m3]) []) (OneP (cond (n1 == 1) (m2.pv 26) (m3.pv 26))) := by
  obtain ⟨o2, nm2, kd2, nn2, a2, c2⟩ := m2
  obtain ⟨o3, nm3, kd3, nn3, a3, c3⟩ := m3
  refine .eq (fun k _ _ => f46_J7_eq k _ _ _ _ _ _ _ _ _ _ _ _ _) (.condT rfl (.condT rfl (.condT rfl (.asStr rfl (.condF (by rw [show strEq sLit ⟨#[108, 105, 116]⟩ = true from strEq_self _]; rfl) (.condF (by decide +kernel) (.condF (by decide +kernel) (.condT (strEq_self _) (.condT rfl (.condT rfl (.condT rfl (.asInt rfl (.cond (fun hc => .condT rfl (.condT rfl (.ret ?_))) (fun hc => .condT rfl (.condT rfl (.ret ?_))))))))))))))))
  · rw [hc]; rfl
  · rw [hc]; rfl
end
end Go.Proofs.Sx.Z
