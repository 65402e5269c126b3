/- What may be reckoned ahead: the document's expressions; both together. -/
import Derived.Test.YtoeplmfcjonkgaaGreatZFold2
set_option linter.unusedVariables false
set_option linter.unusedSimpArgs false
namespace Go.Proofs.Sx.Z
open Go
section
variable {op name : ByteArray} {kind n a : Int} {ms : List Node} {b : Bool} {l : List PV}
/-- lit, name, len, at, sum: as it is. -/
theorem J10_plain (h : op = sLit ∨ op = sName ∨ op = sLen ∨ op = sAt ∨ op = sSum) :
    Ev3 (fun k _ _ => f50_J10 k b op name kind n a l s0 s0 0 0 0 op name kind n a [] (pvs 29 ms)) (OneP ((Node.mk op name kind n a ms).pv 29)) := by
  have J : ∀ b2 : Bool, b2 = true → Ev3 (fun k _ _ => f50_J16 k b op b2 op name kind n a l s0 s0 0 0 0 op name kind n a [] (pvs 29 ms)) (OneP ((Node.mk op name kind n a ms).pv 29)) := fun b2 h =>
    .eq (fun k _ _ => f50_J16_eq k _ _ _ _ _ _ _ _ _ _ _ _ _ _ _ _ _ _ _ _ _) (.condT h (.ret rfl))
  refine .eq (fun k _ _ => f50_J10_eq k _ _ _ _ _ _ _ _ _ _ _ _ _ _ _ _ _ _ _) ?_
  refine .cond (fun _ => J _ rfl) (fun h1 => .cond (fun _ => J _ rfl) (fun h2 => .cond (fun _ => J _ rfl) (fun h3 => .cond (fun _ => J _ rfl) (fun h4 => J _ ?_))))
  rcases h with rfl | rfl | rfl | rfl | rfl
  · rw [show strEq sLit ⟨#[108, 105, 116]⟩ = true from strEq_self _] at h1; cases h1
  · rw [show strEq sName ⟨#[110, 97, 109, 101]⟩ = true from strEq_self _] at h2; cases h2
  · rw [show strEq sLen ⟨#[108, 101, 110]⟩ = true from strEq_self _] at h3; cases h3
  · rw [show strEq sAt ⟨#[97, 116]⟩ = true from strEq_self _] at h4; cases h4
  · exact strEq_self _
/-- What is none of these. -/
theorem J10_else (h1 : strEq op sLit = false) (h2 : strEq op sName = false) (h3 : strEq op sLen = false) (h4 : strEq op sAt = false) (h5 : strEq op sSum = false) {Q : Ret → Prop}
    (h : Ev3 (fun k _ _ => f50_J16 k b op false op name kind n a l s0 s0 0 0 0 op name kind n a [] (pvs 29 ms)) Q) :
    Ev3 (fun k _ _ => f50_J10 k b op name kind n a l s0 s0 0 0 0 op name kind n a [] (pvs 29 ms)) Q := by
  refine .eq (fun k _ _ => f50_J10_eq k _ _ _ _ _ _ _ _ _ _ _ _ _ _ _ _ _ _ _) (.condF h1 (.condF h2 (.condF h3 (.condF h4 ?_))))
  rw [show strEq op ⟨#[115, 117, 109]⟩ = false from h5]
  exact h
theorem J16_if {m1 m2 m3 : Node} (h1 : FOK m1) :
    Ev3 (fun k _ _ => f50_J16 k b sIf false sIf name kind n a l s0 s0 0 0 0 sIf name kind n a [] (pvs 29 [m1, m2, m3]))
      (fun r => (∀ kd nn aa, m1 = .mk sLit s0 kd nn aa [] → OneP (cond (nn == 1) (m2.pv 29) (m3.pv 29)) r) ∧ (isL m1 = false → OneP ((Node.mk sIf name kind n a [m1, m2, m3]).pv 29) r)) := by
  obtain ⟨o1, nm1, kd1, nn1, a1, c1⟩ := m1
  obtain ⟨o2, nm2, kd2, nn2, a2, c2⟩ := m2
  obtain ⟨o3, nm3, kd3, nn3, a3, c3⟩ := m3
  refine .eq (fun k _ _ => f50_J16_eq k _ _ _ _ _ _ _ _ _ _ _ _ _ _ _ _ _ _ _ _ _) (.condF rfl (.condT (strEq_self _) (.condT rfl (.condT rfl (.asStr rfl (.cond (fun hl => .condT rfl (.condT rfl (.asInt rfl (.cond (fun hc => .condT rfl (.condT rfl (.ret ?_))) (fun hc => .condT rfl (.condT rfl (.ret ?_))))))) (fun hl => .ret ?_)))))))
  · refine ⟨fun kd nn aa e => ?_, fun h => ?_⟩
    · cases e; rw [show (nn1 == 1) = true from hc]; rfl
    · rw [show isL (.mk o1 nm1 kd1 nn1 a1 c1) = true from hl] at h; cases h
  · refine ⟨fun kd nn aa e => ?_, fun h => ?_⟩
    · cases e; rw [show (nn1 == 1) = false from hc]; rfl
    · rw [show isL (.mk o1 nm1 kd1 nn1 a1 c1) = true from hl] at h; cases h
  · refine ⟨fun kd nn aa e => ?_, fun h => rfl⟩
    cases e
    rw [show strEq sLit ⟨#[108, 105, 116]⟩ = true from strEq_self _] at hl; cases hl
/-- and, or. -/
theorem J25_and {m1 m2 : Node} :
    Ev3 (fun k _ _ => f50_J25 k b true op name kind n a l s0 s0 0 0 0 op name kind n a [] (pvs 29 [m1, m2]))
      (fun r => (∀ kd nn aa, m1 = .mk sLit s0 kd nn aa [] → OneP (cond ((nn == 1) == strEq op sAnd) (m2.pv 29) (m1.pv 29)) r) ∧ (isL m1 = false → OneP ((Node.mk op name kind n a [m1, m2]).pv 29) r)) := by
  obtain ⟨o1, nm1, kd1, nn1, a1, c1⟩ := m1
  obtain ⟨o2, nm2, kd2, nn2, a2, c2⟩ := m2
  refine .eq (fun k _ _ => f50_J25_eq k _ _ _ _ _ _ _ _ _ _ _ _ _ _ _ _ _ _ _ _) (.condT rfl (.condT rfl (.condT rfl (.asStr rfl (.cond (fun hl => .condT rfl (.condT rfl (.asInt rfl (.cond (fun hc => .condT rfl (.condT rfl (.ret ?_))) (fun hc => .condT rfl (.condT rfl (.ret ?_))))))) (fun hl => .ret ?_))))))
  · refine ⟨fun kd nn aa e => ?_, fun h => ?_⟩
    · cases e; rw [show ((nn1 == 1) == strEq op sAnd) = true from hc]; rfl
    · rw [show isL (.mk o1 nm1 kd1 nn1 a1 c1) = true from hl] at h; cases h
  · refine ⟨fun kd nn aa e => ?_, fun h => ?_⟩
    · cases e; rw [show ((nn1 == 1) == strEq op sAnd) = false from hc]; rfl
    · rw [show isL (.mk o1 nm1 kd1 nn1 a1 c1) = true from hl] at h; cases h
  · refine ⟨fun kd nn aa e => ?_, fun h => rfl⟩
    cases e
    rw [show strEq sLit ⟨#[108, 105, 116]⟩ = true from strEq_self _] at hl; cases hl
theorem J30_no : Ev3 (fun k _ _ => f50_J30 k false op name kind n a l s0 s0 0 0 0 op name kind n a [] (pvs 29 ms)) (OneP ((Node.mk op name kind n a ms).pv 29)) :=
  .eq (fun k _ _ => f50_J30_eq k _ _ _ _ _ _ _ _ _ _ _ _ _ _ _ _ _ _ _) (.condT rfl (.ret rfl))
theorem J36_op {k1 n1 k2 n2 kk nn e : Int} (ho : Ev P an 41 [.v (.str op), .v (valP k1 n1 []), .v (valP k2 n2 [])] (fun r => r = ⟨[.v (valP kk nn []), .v (.int .i64 e)], []⟩)) :
    Ev3 (fun k _ _ => f50_J36 k op name kind n a l s0 s0 0 0 0 op name kind n a k1 n1 k2 n2 [] (pvs 29 ms) [] [])
      (OneP (cond (e == 0) ((Node.mk sLit s0 kk nn a []).pv 29) ((Node.mk op name kind n a ms).pv 29))) := by
  refine .eq (fun k _ _ => f50_J36_eq k _ _ _ _ _ _ _ _ _ _ _ _ _ _ _ _ _ _ _ _ _ _ _ _) (.bR ho ?_)
  rintro r rfl
  refine .condT rfl (.condT rfl (.asInt rfl (.cond (fun he => .ret ?_) (fun he => .asInt rfl (.asInt rfl (.ret ?_))))))
  · have he : (e == 0) = false := by simpa using he
    rw [he]; rfl
  · have he : (e == 0) = true := by simpa using he
    rw [he]; rfl
theorem J30_one {k1 n1 a1 kk nn e : Int} (ho : Ev P an 41 [.v (.str op), .v (valP k1 n1 []), .v (valP 0 0 [])] (fun r => r = ⟨[.v (valP kk nn []), .v (.int .i64 e)], []⟩)) :
    Ev3 (fun k _ _ => f50_J30 k true op name kind n a l s0 s0 0 0 0 op name kind n a [] (pvs 29 [.mk sLit s0 k1 n1 a1 []])) (OneP (cond (e == 0) ((Node.mk sLit s0 kk nn a []).pv 29) ((Node.mk op name kind n a [.mk sLit s0 k1 n1 a1 []]).pv 29))) :=
  .eq (fun k _ _ => f50_J30_eq k _ _ _ _ _ _ _ _ _ _ _ _ _ _ _ _ _ _ _) (.condF rfl (.condT rfl (.condT rfl (.condT rfl (.condT rfl (.asInt rfl (.asInt rfl (.condF rfl (J36_op ho)))))))))
theorem J30_two {k1 n1 a1 k2 n2 a2 kk nn e : Int} (ho : Ev P an 41 [.v (.str op), .v (valP k1 n1 []), .v (valP k2 n2 [])] (fun r => r = ⟨[.v (valP kk nn []), .v (.int .i64 e)], []⟩)) :
    Ev3 (fun k _ _ => f50_J30 k true op name kind n a l s0 s0 0 0 0 op name kind n a [] (pvs 29 [.mk sLit s0 k1 n1 a1 [], .mk sLit s0 k2 n2 a2 []])) (OneP (cond (e == 0) ((Node.mk sLit s0 kk nn a []).pv 29) ((Node.mk op name kind n a [.mk sLit s0 k1 n1 a1 [], .mk sLit s0 k2 n2 a2 []]).pv 29))) :=
  .eq (fun k _ _ => f50_J30_eq k _ _ _ _ _ _ _ _ _ _ _ _ _ _ _ _ _ _ _) (.condF rfl (.condT rfl (.condT rfl (.condT rfl (.condT rfl (.asInt rfl (.asInt rfl (.condT rfl (.condT rfl (.condT rfl (.condT rfl (.condT rfl (.asInt rfl (.asInt rfl (J36_op ho)))))))))))))))
/-- An operator that is reckoned: the way to J30. -/
theorem J16_ar (h1 : strEq op sIf = false) (h2 : strEq op sAnd = false) (h3 : strEq op sOr = false) {Q : Ret → Prop}
    (h : Ev3 (fun k _ _ => f50_J30 k b op name kind n a l s0 s0 0 0 0 op name kind n a [] (pvs 29 ms)) Q) :
    Ev3 (fun k _ _ => f50_J16 k b op false op name kind n a l s0 s0 0 0 0 op name kind n a [] (pvs 29 ms)) Q := by
  refine .eq (fun k _ _ => f50_J16_eq k _ _ _ _ _ _ _ _ _ _ _ _ _ _ _ _ _ _ _ _ _) (.condF rfl (.condF h1 (.condF h2 ?_)))
  rw [show strEq op ⟨#[111, 114]⟩ = false from h3]
  exact .eq (fun k _ _ => f50_J25_eq k _ _ _ _ _ _ _ _ _ _ _ _ _ _ _ _ _ _ _ _) (.condF rfl h)
end

theorem one_H {E : Node → Node → Prop} {x m : Node} (h : E x m) : ∀ (i : Nat) (hi : i < [x].length), E [x][i] ([m][i]'(by simpa using hi)) := by
  intro i hi
  have : i = 0 := by simp at hi; omega
  subst this; exact h
theorem two_H {E : Node → Node → Prop} {x y m m' : Node} (h : E x m) (h' : E y m') : ∀ (i : Nat) (hi : i < [x, y].length), E [x, y][i] ([m, m'][i]'(by simpa using hi)) := by
  intro i hi
  simp at hi
  rcases (by omega : i = 0 ∨ i = 1) with rfl | rfl
  · exact h
  · exact h'
theorem three_H {E : Node → Node → Prop} {x y c m m' m'' : Node} (h : E x m) (h' : E y m') (h'' : E c m'') : ∀ (i : Nat) (hi : i < [x, y, c].length), E [x, y, c][i] ([m, m', m''][i]'(by simpa using hi)) := by
  intro i hi
  simp at hi
  rcases (by omega : i = 0 ∨ i = 1 ∨ i = 2) with rfl | rfl | rfl
  · exact h
  · exact h'
  · exact h''

/-- Both fold one expression to one. -/
def Both (e : Node) : Prop := ∃ m, FOK m ∧ Small m ∧ EvA e m ∧ EvB e m
theorem small1 {op s : ByteArray} {k n a : Int} {x : Node} (h : Small x) : Small (.mk op s k n a [x]) := .mk _ _ _ _ _ _ (by simp) (by simp; exact h)
theorem small2 {op s : ByteArray} {k n a : Int} {x y : Node} (h : Small x) (h' : Small y) : Small (.mk op s k n a [x, y]) := .mk _ _ _ _ _ _ (by simp) (by simp; exact ⟨h, h'⟩)
theorem small3 {op s : ByteArray} {k n a : Int} {x y c : Node} (h : Small x) (h' : Small y) (h'' : Small c) : Small (.mk op s k n a [x, y, c]) := .mk _ _ _ _ _ _ (by simp) (by simp; exact ⟨h, h', h''⟩)
theorem smallL {k n a : Int} : Small (.mk sLit s0 k n a []) := .mk _ _ _ _ _ _ (by simp) (fun _ h => by cases h)

theorem both_lit (kind n a : Int) (h : LitN kind n) : Both (.mk sLit s0 kind n a []) :=
  ⟨_, .lit kind n a h.fit, smallL, exprA _ _ _ _ _ [] [] (by simp) rfl (fun i h => by simp at h) (J7_none _), exprB _ _ _ _ _ [] [] (by simp) rfl (fun i h => by simp at h) (J10_plain (.inl rfl))⟩
theorem both_name (s : ByteArray) (a : Int) : Both (.mk sName s 0 0 a []) :=
  ⟨_, .other _ _ _ _ _ _ (by decide +kernel), .mk _ _ _ _ _ _ (by simp) (fun _ h => by cases h), exprA _ _ _ _ _ [] [] (by simp) rfl (fun i h => by simp at h) (J7_none _), exprB _ _ _ _ _ [] [] (by simp) rfl (fun i h => by simp at h) (J10_plain (.inr (.inl rfl)))⟩

/-- An operator of one that is not reckoned, or of what is no literal. -/
theorem both_one (ops : OpsBoth) (op s : ByteArray) (a : Int) (x : Node) (hop : Op1 op) (hx : Both x) : Both (.mk op s 0 0 a [x]) := by
  obtain ⟨m, fm, sm, ea, eb⟩ := hx
  have A := fun {q : Node} J => exprA op s 0 0 a [x] [m] (by simp) rfl (one_H ea) (m := q) J
  have B := fun {q : Node} J => exprB op s 0 0 a [x] [m] (by simp) rfl (one_H eb) (m := q) J
  have nl : strEq op sLit = false := by cases hop <;> decide +kernel
  have me : FOK (.mk op s 0 0 a [m]) := .other _ _ _ _ _ _ nl
  have plain : (op = sLen ∨ op = sAt) → Both (.mk op s 0 0 a [x]) := by
    intro h
    refine ⟨_, me, small1 sm, A ?_, B (J10_plain (by rcases h with rfl | rfl <;> simp))⟩
    rcases isL_of fm with ⟨_, k1, n1, a1, _, rfl⟩ | hl
    · rcases h with rfl | rfl
      · exact J7_lit (by decide +kernel) (by decide +kernel) (by decide +kernel) _ (tail_no reck_len)
      · exact J7_lit (by decide +kernel) (by decide +kernel) (by decide +kernel) _ (tail_no reck_at)
    · exact J7_other hl _
  have reckon : (op = sNeg ∨ op = sNot) → Reck op true → Both (.mk op s 0 0 a [x]) := by
    intro h hr
    have n1 : strEq op sAnd = false := by rcases h with rfl | rfl <;> decide +kernel
    have n2 : strEq op sOr = false := by rcases h with rfl | rfl <;> decide +kernel
    have n3 : strEq op sIf = false := by rcases h with rfl | rfl <;> decide +kernel
    have n4 : strEq op sName = false := by rcases h with rfl | rfl <;> decide +kernel
    have n5 : strEq op sLen = false := by rcases h with rfl | rfl <;> decide +kernel
    have n6 : strEq op sAt = false := by rcases h with rfl | rfl <;> decide +kernel
    have n7 : strEq op sSum = false := by rcases h with rfl | rfl <;> decide +kernel
    rcases isL_of fm with ⟨_, k1, v1, a1, hf, rfl⟩ | hl
    · obtain ⟨kk, nn, e, he, oa, ob⟩ := ops.2 op k1 v1 h hf
      have A1 := J7_lit n1 n2 n3 (pvs 26 [x]) (tail_one (op := op) (name := s) (kind := 0) (n := 0) (a := a) (a1 := a1) hr oa)
      have B1 := J10_else (b := decide (([x].length : Int) > 0) && List.all [Node.mk sLit s0 k1 v1 a1 []] isL) nl n4 n5 n6 n7 (l := pvs 29 [x]) (J16_ar n3 n1 n2 (by rw [show (decide (([x].length : Int) > 0) && List.all [Node.mk sLit s0 k1 v1 a1 []] isL) = true by simp [isL, strEq_self]]; exact J30_one (op := op) (name := s) (kind := 0) (n := 0) (a := a) (a1 := a1) ob))
      by_cases h0 : e = 0
      · subst h0; exact ⟨_, .lit kk nn a (he rfl), smallL, A A1, B B1⟩
      · have h0 : (e == 0) = false := by simpa using h0
        rw [h0] at A1 B1
        exact ⟨_, me, small1 sm, A A1, B B1⟩
    · refine ⟨_, me, small1 sm, A (J7_other hl _), B (J10_else nl n4 n5 n6 n7 (J16_ar n3 n1 n2 ?_))⟩
      rw [show (decide (([x].length : Int) > 0) && List.all [m] isL) = false by simp [hl]]
      exact J30_no
  cases hop with
  | len => exact plain (.inl rfl)
  | at_ => exact plain (.inr rfl)
  | neg => exact reckon (.inl rfl) reck_neg
  | not => exact reckon (.inr rfl) reck_not

theorem ar_ne {op : ByteArray} (h : Ar op) : strEq op sAnd = false ∧ strEq op sOr = false ∧ strEq op sIf = false ∧ strEq op sName = false ∧ strEq op sLen = false ∧ strEq op sAt = false ∧ strEq op sSum = false ∧ strEq op sLit = false := by
  cases h <;> decide +kernel
theorem both_ar (ops : OpsBoth) (op s : ByteArray) (a : Int) (x y : Node) (hop : Ar op) (hx : Both x) (hy : Both y) : Both (.mk op s 0 0 a [x, y]) := by
  obtain ⟨m, fm, sm, ea, eb⟩ := hx
  obtain ⟨m', fm', sm', ea', eb'⟩ := hy
  have A := fun {q : Node} J => exprA op s 0 0 a [x, y] [m, m'] (by simp) rfl (two_H ea ea') (m := q) J
  have B := fun {q : Node} J => exprB op s 0 0 a [x, y] [m, m'] (by simp) rfl (two_H eb eb') (m := q) J
  obtain ⟨n1, n2, n3, n4, n5, n6, n7, nl⟩ := ar_ne hop
  have me : FOK (.mk op s 0 0 a [m, m']) := .other _ _ _ _ _ _ nl
  have hr := reck_ar hop
  have notall : List.all [m, m'] isL = false → Both (.mk op s 0 0 a [x, y]) := by
    intro hall
    refine ⟨_, me, small2 sm sm', A ?_, B (J10_else nl n4 n5 n6 n7 (J16_ar n3 n1 n2 ?_))⟩
    · rcases isL_of fm with ⟨_, k1, v1, a1, hf, rfl⟩ | hl
      · exact J7_lit n1 n2 n3 _ (tail_some hr (by simp) hall)
      · exact J7_other hl _
    · rw [hall, Bool.and_false]; exact J30_no
  rcases isL_of fm with ⟨hl1, k1, v1, a1, hf, rfl⟩ | hl
  · rcases isL_of fm' with ⟨hl2, k2, v2, a2, hf', rfl⟩ | hl
    · obtain ⟨kk, nn, e, he, oa, ob⟩ := ops.1 op k1 v1 k2 v2 hop hf hf'
      have A1 := J7_lit n1 n2 n3 (pvs 26 [x, y]) (tail_two (op := op) (name := s) (kind := 0) (n := 0) (a := a) (a1 := a1) (a2 := a2) hr oa)
      have B1 := J10_else (b := decide (([x, y].length : Int) > 0) && List.all [Node.mk sLit s0 k1 v1 a1 [], Node.mk sLit s0 k2 v2 a2 []] isL) nl n4 n5 n6 n7 (l := pvs 29 [x, y]) (J16_ar n3 n1 n2 (by rw [show (decide (([x, y].length : Int) > 0) && List.all [Node.mk sLit s0 k1 v1 a1 [], Node.mk sLit s0 k2 v2 a2 []] isL) = true by simp [isL, strEq_self]]; exact J30_two (op := op) (name := s) (kind := 0) (n := 0) (a := a) (a1 := a1) (a2 := a2) ob))
      by_cases h0 : e = 0
      · subst h0; exact ⟨_, .lit kk nn a (he rfl), smallL, A A1, B B1⟩
      · have h0 : (e == 0) = false := by simpa using h0
        rw [h0] at A1 B1
        exact ⟨_, me, small2 sm sm', A A1, B B1⟩
    · exact notall (by simp [hl])
  · exact notall (by simp [hl])
theorem both_sum (s : ByteArray) (a : Int) (x y : Node) (hx : Both x) (hy : Both y) : Both (.mk sSum s 0 0 a [x, y]) := by
  obtain ⟨m, fm, sm, ea, eb⟩ := hx
  obtain ⟨m', fm', sm', ea', eb'⟩ := hy
  refine ⟨.mk sSum s 0 0 a [m, m'], .other _ _ _ _ _ _ (by decide +kernel), small2 sm sm', exprA sSum s 0 0 a [x, y] [m, m'] (by simp) rfl (two_H ea ea') ?_, exprB sSum s 0 0 a [x, y] [m, m'] (by simp) rfl (two_H eb eb') (J10_plain (by simp))⟩
  rcases isL_of fm with ⟨_, k1, v1, a1, hf, rfl⟩ | hl
  · exact J7_lit (by decide +kernel) (by decide +kernel) (by decide +kernel) _ (tail_no reck_sum)
  · exact J7_other hl _
theorem cond_pv (T : TypeId) (b : Bool) (x y : Node) : cond b (x.pv T) (y.pv T) = (cond b x y).pv T := by cases b <;> rfl
theorem both_and (op s : ByteArray) (a : Int) (x y : Node) (hop : op = sAnd ∨ op = sOr) (hx : Both x) (hy : Both y) : Both (.mk op s 0 0 a [x, y]) := by
  obtain ⟨m, fm, sm, ea, eb⟩ := hx
  obtain ⟨m', fm', sm', ea', eb'⟩ := hy
  have A := fun {q : Node} J => exprA op s 0 0 a [x, y] [m, m'] (by simp) rfl (two_H ea ea') (m := q) J
  have B := fun {q : Node} J => exprB op s 0 0 a [x, y] [m, m'] (by simp) rfl (two_H eb eb') (m := q) J
  have nl : strEq op sLit = false := by rcases hop with rfl | rfl <;> decide +kernel
  have n3 : strEq op sIf = false := by rcases hop with rfl | rfl <;> decide +kernel
  have n4 : strEq op sName = false := by rcases hop with rfl | rfl <;> decide +kernel
  have n5 : strEq op sLen = false := by rcases hop with rfl | rfl <;> decide +kernel
  have n6 : strEq op sAt = false := by rcases hop with rfl | rfl <;> decide +kernel
  have n7 : strEq op sSum = false := by rcases hop with rfl | rfl <;> decide +kernel
  have J : ∀ {Q : Ret → Prop}, Ev3 (fun k _ _ => f50_J25 k (decide (([x, y].length : Int) > 0) && List.all [m, m'] isL) true op s 0 0 a (pvs 29 [x, y]) s0 s0 0 0 0 op s 0 0 a [] (pvs 29 [m, m'])) Q →
      Ev3 (fun k _ _ => f50_J10 k (decide (([x, y].length : Int) > 0) && List.all [m, m'] isL) op s 0 0 a (pvs 29 [x, y]) s0 s0 0 0 0 op s 0 0 a [] (pvs 29 [m, m'])) Q := by
    intro Q h
    refine J10_else nl n4 n5 n6 n7 (.eq (fun k _ _ => f50_J16_eq k _ _ _ _ _ _ _ _ _ _ _ _ _ _ _ _ _ _ _ _ _) (.condF rfl (.condF n3 ?_)))
    rcases hop with rfl | rfl
    · exact .condT (strEq_self _) h
    · refine .condF (by decide +kernel) ?_
      rw [show strEq sOr ⟨#[111, 114]⟩ = true from strEq_self _]
      exact h
  rcases isL_of fm with ⟨_, k1, v1, a1, hf, rfl⟩ | hl
  · refine ⟨cond ((v1 == 1) == strEq op sAnd) m' (.mk sLit s0 k1 v1 a1 []), ?_, ?_, A ?_, B (J (.mono J25_and fun r h => ?_))⟩
    · cases ((v1 == 1) == strEq op sAnd)
      · exact fm
      · exact fm'
    · cases ((v1 == 1) == strEq op sAnd)
      · exact sm
      · exact sm'
    · rw [← cond_pv]; exact J7_and hop _
    · rw [← cond_pv]; exact h.1 _ _ _ rfl
  · exact ⟨.mk op s 0 0 a [m, m'], .other _ _ _ _ _ _ nl, small2 sm sm', A (J7_other hl _), B (J (.mono J25_and fun r h => h.2 hl))⟩
theorem both_if (a : Int) (x y c : Node) (hx : Both x) (hy : Both y) (hc : Both c) : Both (.mk sIf s0 0 0 a [x, y, c]) := by
  obtain ⟨m, fm, sm, ea, eb⟩ := hx
  obtain ⟨m', fm', sm', ea', eb'⟩ := hy
  obtain ⟨m'', fm'', sm'', ea'', eb''⟩ := hc
  have A := fun {q : Node} J => exprA sIf s0 0 0 a [x, y, c] [m, m', m''] (by simp) rfl (three_H ea ea' ea'') (m := q) J
  have B := fun {q : Node} J => exprB sIf s0 0 0 a [x, y, c] [m, m', m''] (by simp) rfl (three_H eb eb' eb'') (m := q) J
  have J := J10_else (op := sIf) (name := s0) (kind := 0) (n := 0) (a := a) (b := decide (([x, y, c].length : Int) > 0) && List.all [m, m', m''] isL) (l := pvs 29 [x, y, c]) (by decide +kernel) (by decide +kernel) (by decide +kernel) (by decide +kernel) (by decide +kernel) (J16_if (m2 := m') (m3 := m'') fm)
  rcases isL_of fm with ⟨_, k1, v1, a1, hf, rfl⟩ | hl
  · refine ⟨cond (v1 == 1) m' m'', ?_, ?_, A ?_, B (.mono J fun r h => ?_)⟩
    · cases (v1 == 1)
      · exact fm''
      · exact fm'
    · cases (v1 == 1)
      · exact sm''
      · exact sm'
    · rw [← cond_pv]; exact J7_if _
    · rw [← cond_pv]; exact h.1 _ _ _ rfl
  · exact ⟨.mk sIf s0 0 0 a [m, m', m''], .other _ _ _ _ _ _ (by decide +kernel), small3 sm sm' sm'', A (J7_other hl _), B (.mono J fun r h => h.2 hl)⟩
theorem both_all (ops : OpsBoth) {e : Node} (h : WFE e) : Both e := by
  induction h with
  | lit kind n a h => exact both_lit kind n a h
  | name s a => exact both_name s a
  | one op s a x hop _ ih => exact both_one ops op s a x hop ih
  | two op s a x y hop _ _ ih1 ih2 =>
    cases hop with
    | or => exact both_and _ s a x y (.inr rfl) ih1 ih2
    | and => exact both_and _ s a x y (.inl rfl) ih1 ih2
    | sum => exact both_sum s a x y ih1 ih2
    | lt => exact both_ar ops _ s a x y .lt ih1 ih2
    | le => exact both_ar ops _ s a x y .le ih1 ih2
    | gt => exact both_ar ops _ s a x y .gt ih1 ih2
    | ge => exact both_ar ops _ s a x y .ge ih1 ih2
    | eq => exact both_ar ops _ s a x y .eq ih1 ih2
    | ne => exact both_ar ops _ s a x y .ne ih1 ih2
    | add => exact both_ar ops _ s a x y .add ih1 ih2
    | sub => exact both_ar ops _ s a x y .sub ih1 ih2
    | mul => exact both_ar ops _ s a x y .mul ih1 ih2
    | div => exact both_ar ops _ s a x y .div ih1 ih2
    | min => exact both_ar ops _ s a x y .min ih1 ih2
    | max => exact both_ar ops _ s a x y .max ih1 ih2
  | three a x y c _ _ _ ih1 ih2 ih3 => exact both_if a x y c ih1 ih2 ih3
end Go.Proofs.Sx.Z
