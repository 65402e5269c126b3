/- What may be reckoned ahead: the program's and the document's expressions come to one tree. -/
import Derived.Test.YtoeplmfcjonkgaaGreatZTree
set_option linter.unusedVariables false
set_option linter.unusedSimpArgs false
namespace Go.Proofs.Sx.Z
open Go

/-- Does a number fit its kind? -/
def FitP (kind n : Int) : Prop := (kind = 1 ∧ (n = 0 ∨ n = 1)) ∨ (kind = 2 ∧ -4503599627370496 ≤ n ∧ n ≤ 4503599627370496) ∨ (kind = 3 ∧ -4503599627370496 ≤ n ∧ n ≤ 4503599627370496) ∨ (kind = 4 ∧ -1000000000000 ≤ n ∧ n ≤ 1000000000000) ∨ (kind = 5 ∧ 0 ≤ n ∧ n ≤ 109572)
theorem LitN.fit {kind n : Int} (h : LitN kind n) : FitP kind n := by unfold LitN at h; unfold FitP; omega
def valP (kind n : Int) (l : List PV) : PV := .agg [.int .i64 kind, .int .i64 n, .list 2 l]
/-- What both operators come to. -/
def OpBoth (op : ByteArray) (k1 n1 k2 n2 : Int) : Prop := ∃ k n e : Int, (e = 0 → FitP k n) ∧
  Ev P an 40 [.v (.str op), .v (valP k1 n1 []), .v (valP k2 n2 [])] (fun r => r = ⟨[.v (valP k n []), .v (.int .i64 e)], []⟩) ∧
  Ev P an 41 [.v (.str op), .v (valP k1 n1 []), .v (valP k2 n2 [])] (fun r => r = ⟨[.v (valP k n []), .v (.int .i64 e)], []⟩)
inductive Ar : ByteArray → Prop
  | lt : Ar sLt
  | le : Ar sLe
  | gt : Ar sGt
  | ge : Ar sGe
  | eq : Ar sEq
  | ne : Ar sNe
  | add : Ar sAdd
  | sub : Ar sSub
  | mul : Ar sMul
  | div : Ar sDiv
  | min : Ar sMin
  | max : Ar sMax
def OpsBoth : Prop := (∀ op k1 n1 k2 n2, Ar op → FitP k1 n1 → FitP k2 n2 → OpBoth op k1 n1 k2 n2) ∧ (∀ op k1 n1, op = sNeg ∨ op = sNot → FitP k1 n1 → OpBoth op k1 n1 0 0)

def EvA (e m : Node) : Prop := Ev P an 46 [.v (e.pv 26)] (OneP (m.pv 26))
def EvB (e m : Node) : Prop := Ev P an 50 [.v (e.pv 29)] (OneP (m.pv 29))
/-- A folded node: a literal that fits, or none. -/
inductive FOK : Node → Prop
  | lit (kind n a : Int) : FitP kind n → FOK (.mk sLit s0 kind n a [])
  | other (op name : ByteArray) (kind n a : Int) (kids : List Node) : strEq op sLit = false → FOK (.mk op name kind n a kids)
def isL : Node → Bool
  | .mk op _ _ _ _ _ => strEq op sLit

theorem FOK.small {m : Node} : FOK m → True := fun _ => trivial

/-- The loops over an expression's kids. -/
theorem loopA (op name : ByteArray) (kind n a : Int) (ks ms : List Node) (hl : ks.length ≤ 3) (hm : ms.length = ks.length) (H : ∀ (i : Nat) (h : i < ks.length), EvA ks[i] (ms[i]'(by omega))) {Q : Ret → Prop}
    (J : Ev3 (fun k _ _ => f46_J7 k op name kind n a (pvs 26 ks) s0 s0 0 0 0 (pvs 26 ms) []) Q) :
    ∀ (f : Nat) (i : Int), 0 ≤ i → i ≤ ks.length → (ks.length : Int) - i ≤ f →
      Ev3 (fun k m0 _ => f46_L3 k m0 (pvs 26 ks) ((pvs 26 ks).length : Int) i op name kind n a (pvs 26 ks) s0 s0 0 0 0 (pvs 26 (ms.take i.toNat)) []) Q := by
  intro f
  induction f with
  | zero =>
    intro i h0 h1 hf
    refine .loop0 (fun k m0 _ => f46_L3_eq k m0 _ _ _ _ _ _ _ _ _ _ _ _ _ _ _ _) (.condF (by rw [pvs_length]; simp; omega) ?_)
    rw [List.take_of_length_le (by omega)]; exact J
  | succ f ih =>
    intro i h0 h1 hf
    refine .loop0 (fun k m0 _ => f46_L3_eq k m0 _ _ _ _ _ _ _ _ _ _ _ _ _ _ _ _) (.cond (fun hi => ?_) (fun hi => ?_))
    · have hi := dT hi
      rw [pvs_length] at hi
      have hx := H i.toNat (by omega)
      have hg := take_pvs 26 (ks := ms) h0 (by omega)
      rw [pvs_get _ h0 hi, wrap64_id (by omega) (by omega)]
      refine .condT (pvs_inB _ h0 hi) ?_
      generalize ks[i.toNat]'(by omega) = x at hx
      generalize ms[i.toNat]'(by omega) = y at hx hg
      obtain ⟨o2, n2, k2, nn2, a2, c2⟩ := x
      obtain ⟨o3, n3, k3, nn3, a3, c3⟩ := y
      refine .condT rfl (.bR hx ?_)
      rintro r rfl
      refine .condT rfl (.condT rfl (.condT ?_ ?_))
      · rw [pvs_length]; exact room (by simp; omega) 80 (by decide)
      · have := ih (i + 1) (by omega) (by omega) (by omega)
        rw [← hg] at this
        exact this
    · have hi := dF hi
      rw [pvs_length] at hi
      rw [List.take_of_length_le (by omega)]; exact J
theorem loopB (op name : ByteArray) (kind n a : Int) (ks ms : List Node) (hl : ks.length ≤ 3) (hm : ms.length = ks.length) (H : ∀ (i : Nat) (h : i < ks.length), EvB ks[i] (ms[i]'(by omega))) (b0 : Bool) {Q : Ret → Prop}
    (J : Ev3 (fun k _ _ => f50_J10 k (b0 && ms.all isL) op name kind n a (pvs 29 ks) s0 s0 0 0 0 op name kind n a [] (pvs 29 ms)) Q) :
    ∀ (f : Nat) (i : Int), 0 ≤ i → i ≤ ks.length → (ks.length : Int) - i ≤ f →
      Ev3 (fun k m0 _ => f50_L5 k m0 (b0 && (ms.take i.toNat).all isL) i op name kind n a (pvs 29 ks) s0 s0 0 0 0 op name kind n a [] (pvs 29 (ms.take i.toNat))) Q := by
  intro f
  induction f with
  | zero =>
    intro i h0 h1 hf
    refine .loop0 (fun k m0 _ => f50_L5_eq k m0 _ _ _ _ _ _ _ _ _ _ _ _ _ _ _ _ _ _ _ _) (.condF (by rw [pvs_length]; simp; omega) ?_)
    rw [List.take_of_length_le (by omega)]; exact J
  | succ f ih =>
    intro i h0 h1 hf
    refine .loop0 (fun k m0 _ => f50_L5_eq k m0 _ _ _ _ _ _ _ _ _ _ _ _ _ _ _ _ _ _ _ _) (.cond (fun hi => ?_) (fun hi => ?_))
    · have hi := dT hi
      rw [pvs_length] at hi
      have hx := H i.toNat (by omega)
      have hg := take_pvs 29 (ks := ms) h0 (by omega)
      have hall : (ms.take (i + 1).toNat).all isL = ((ms.take i.toNat).all isL && isL (ms[i.toNat]'(by omega))) := by
        rw [show (i + 1).toNat = i.toNat + 1 by omega, List.take_succ_eq_append_getElem (by omega), List.all_append]; simp
      have IH := ih (i + 1) (by omega) (by omega) (by omega)
      rw [← hg, hall, ← Bool.and_assoc] at IH
      rw [pvs_get _ h0 hi, wrap64_id (by omega) (by omega)]
      refine .condT (pvs_inB _ h0 hi) ?_
      generalize ks[i.toNat]'(by omega) = x at hx
      generalize ms[i.toNat]'(by omega) = y at hx IH
      obtain ⟨o2, n2, k2, nn2, a2, c2⟩ := x
      obtain ⟨o3, n3, k3, nn3, a3, c3⟩ := y
      refine .bR hx ?_
      rintro r rfl
      refine .condT rfl (.condT rfl (.condT ?_ (.cond (fun hb => .asStr rfl ?_) (fun hb => ?_))))
      · rw [pvs_length]; exact room (by simp; omega) 80 (by decide)
      · rw [hb] at IH; exact IH
      · rw [hb] at IH; exact IH
    · have hi := dF hi
      rw [pvs_length] at hi
      rw [List.take_of_length_le (by omega)]; exact J

theorem exprA (op name : ByteArray) (kind n a : Int) (ks ms : List Node) (hl : ks.length ≤ 3) (hm : ms.length = ks.length) (H : ∀ (i : Nat) (h : i < ks.length), EvA ks[i] (ms[i]'(by omega))) {m : Node}
    (J : Ev3 (fun k _ _ => f46_J7 k op name kind n a (pvs 26 ks) s0 s0 0 0 0 (pvs 26 ms) []) (OneP (m.pv 26))) : EvA (.mk op name kind n a ks) m :=
  .fn (fun k => f46_eq k op name kind n a _) (loopA op name kind n a ks ms hl hm H J ks.length 0 (by decide) (by omega) (by omega)).in0
theorem exprB (op name : ByteArray) (kind n a : Int) (ks ms : List Node) (hl : ks.length ≤ 3) (hm : ms.length = ks.length) (H : ∀ (i : Nat) (h : i < ks.length), EvB ks[i] (ms[i]'(by omega))) {m : Node}
    (J : Ev3 (fun k _ _ => f50_J10 k (decide ((ks.length : Int) > 0) && ms.all isL) op name kind n a (pvs 29 ks) s0 s0 0 0 0 op name kind n a [] (pvs 29 ms)) (OneP (m.pv 29))) : EvB (.mk op name kind n a ks) m := by
  refine .fn (fun k => f50_eq k op name kind n a _) ?_
  have := (loopB op name kind n a ks ms hl hm H (decide ((ks.length : Int) > 0)) J ks.length 0 (by decide) (by omega) (by omega)).in0
  rw [show ms.take (0 : Int).toNat = [] from rfl] at this
  rw [pvs_length]
  simp only [List.all_nil, Bool.and_true] at this
  exact this

theorem isL_of {m : Node} (h : FOK m) : (isL m = true ∧ ∃ kind n a, FitP kind n ∧ m = .mk sLit s0 kind n a []) ∨ isL m = false := by
  cases h with
  | lit kind n a h => exact .inl ⟨strEq_self _, kind, n, a, h, rfl⟩
  | other op name kind n a kids h => exact .inr h
end Go.Proofs.Sx.Z
