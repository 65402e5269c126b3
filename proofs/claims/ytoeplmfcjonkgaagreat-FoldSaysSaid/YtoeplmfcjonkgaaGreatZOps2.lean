/- The operators of both come to the same. -/
import Derived.Test.YtoeplmfcjonkgaaGreatZOps
set_option linter.unusedVariables false
set_option linter.unusedSimpArgs false
namespace Go.Proofs.Sx.Z
open Go

def fitB (k v : Int) : Bool := cond (k == 1) (v == 0 || v == 1) (cond (k == 2 || k == 3) (decide (v ≥ -4503599627370496) && decide (v ≤ 4503599627370496)) (cond (k == 4) (decide (v ≥ -1000000000000) && decide (v ≤ 1000000000000)) (cond (k == 5) (decide (v ≥ 0) && decide (v ≤ 109572)) false)))
theorem fitB_true {k v : Int} (h : fitB k v = true) : FitP k v := by
  unfold fitB at h; unfold FitP
  by_cases h1 : k = 1
  · subst h1; simp at h; omega
  · by_cases h2 : k = 2
    · subst h2; simp at h; omega
    · by_cases h3 : k = 3
      · subst h3; simp at h; omega
      · by_cases h4 : k = 4
        · subst h4; simp at h; omega
        · by_cases h5 : k = 5
          · subst h5; simp at h; omega
          · simp [h1, h2, h3, h4, h5] at h
theorem fitB_of {k v : Int} (h : FitP k v) : fitB k v = true := by
  unfold FitP at h; unfold fitB
  rcases h with ⟨rfl, h⟩ | ⟨rfl, h1, h2⟩ | ⟨rfl, h1, h2⟩ | ⟨rfl, h1, h2⟩ | ⟨rfl, h1, h2⟩
  · rcases h with rfl | rfl <;> rfl
  · simp [h1, h2]
  · simp [h1, h2]
  · simp [h1, h2]
  · simp [h1, h2]
theorem fitB_far {k v : Int} (h : v < -9223372036854775808 ∨ 9223372036854775807 < v) : fitB k v = false := by
  cases hb : fitB k v with
  | false => rfl
  | true => have := fitB_true hb; unfold FitP at this; omega
theorem FitP.small {k v : Int} (h : FitP k v) : 1 ≤ k ∧ k ≤ 5 ∧ -4503599627370496 ≤ v ∧ v ≤ 4503599627370496 := by unfold FitP at h; omega

theorem fitA_ev (k v : Int) : Ev P an 129 [.v (.int .i64 k), .v (.int .i64 v)] (OneP (.bool (fitB k v))) := by
  have J : ∀ b, b = (k == 2 || k == 3) → k ≠ 1 → Ev3 (fun kk _ _ => f129_J6 kk v k b) (OneP (.bool (fitB k v))) := by
    intro b hb h1
    refine .eq (fun kk _ _ => f129_J6_eq kk _ _ _) ?_
    have e1 : (k == 1) = false := by simpa using h1
    unfold fitB
    rw [e1, ← hb]
    refine .cond (fun h => ?_) (fun h => ?_)
    · subst h
      exact .cond (fun h2 => .ret (by rw [h2]; simp [OneP])) (fun h2 => .ret (by rw [h2]; simp [OneP]))
    · subst h
      refine .cond (fun h4 => ?_) (fun h4 => .cond (fun h5 => ?_) (fun h5 => .ret (by rw [h4, h5]; simp [OneP])))
      · rw [h4]; exact .cond (fun h2 => .ret (by rw [h2]; simp [OneP])) (fun h2 => .ret (by rw [h2]; simp [OneP]))
      · rw [h4, h5]; exact .cond (fun h2 => .ret (by rw [h2]; simp [OneP])) (fun h2 => .ret (by rw [h2]; simp [OneP]))
  refine .fn (fun kk => f129_eq kk k v) (.cond (fun h1 => ?_) (fun h1 => .cond (fun h2 => J true (by rw [h2]; rfl) (eF h1)) (fun h2 => J _ (by rw [h2]; rfl) (eF h1))))
  unfold fitB
  rw [h1]
  exact .cond (fun h2 => .ret (by rw [h2]; simp [OneP])) (fun h2 => .ret (by rw [h2]; simp [OneP]))
theorem fitR_ev (k v : Int) : Ev P an 86 [.v (.int .i64 k), .v (.int .i64 v)] (OneP (.bool (fitB k v))) := by
  have J : ∀ b, b = (k == 2 || k == 3) → k ≠ 1 → Ev3 (fun kk _ _ => f86_J6 kk v k b) (OneP (.bool (fitB k v))) := by
    intro b hb h1
    refine .eq (fun kk _ _ => f86_J6_eq kk _ _ _) ?_
    have e1 : (k == 1) = false := by simpa using h1
    unfold fitB
    rw [e1, ← hb]
    refine .cond (fun h => ?_) (fun h => ?_)
    · subst h
      exact .cond (fun h2 => .ret (by rw [h2]; simp [OneP])) (fun h2 => .ret (by rw [h2]; simp [OneP]))
    · subst h
      refine .cond (fun h4 => ?_) (fun h4 => .cond (fun h5 => ?_) (fun h5 => .ret (by rw [h4, h5]; simp [OneP])))
      · rw [h4]; exact .cond (fun h2 => .ret (by rw [h2]; simp [OneP])) (fun h2 => .ret (by rw [h2]; simp [OneP]))
      · rw [h4, h5]; exact .cond (fun h2 => .ret (by rw [h2]; simp [OneP])) (fun h2 => .ret (by rw [h2]; simp [OneP]))
  refine .fn (fun kk => f86_eq kk k v) (.cond (fun h1 => ?_) (fun h1 => .cond (fun h2 => J true (by rw [h2]; rfl) (eF h1)) (fun h2 => J _ (by rw [h2]; rfl) (eF h1))))
  unfold fitB
  rw [h1]
  exact .cond (fun h2 => .ret (by rw [h2]; simp [OneP])) (fun h2 => .ret (by rw [h2]; simp [OneP]))

/-- A value and its error. -/
def vr (k n e : Int) : Ret := ⟨[.v (valP k n []), .v (.int .i64 e)], []⟩
/-- A number of a kind, if it fits, or its error. -/
def fitRes (k q : Int) : Ret := cond (fitB k q) (vr k q 0) (vr 0 0 (cond (k == 5) 12 10))
def IsR (x r : Ret) : Prop := r = x
theorem made_ev (k v q : Int) (ok : Bool) (h1 : ok = true → v = q) (h2 : ok = false → fitB k q = false) : Ev P an 90 [.v (.int .i64 k), .v (.int .i64 v), .v (.bool ok)] (IsR (fitRes k q)) := by
  refine .fn (fun kk => f90_eq kk k v ok) (.cond (fun ho => .bR (fitA_ev k v) ?_) (fun ho => .cond (fun h5 => .ret ?_) (fun h5 => .ret ?_)))
  · rw [h1 ho]
    rintro r rfl
    refine .condT rfl (.asBool rfl (.cond (fun hf => .ret ?_) (fun hf => .cond (fun h5 => .ret ?_) (fun h5 => .ret ?_))))
    · unfold fitRes; rw [hf]; rfl
    · unfold fitRes; rw [hf, h5]; rfl
    · unfold fitRes; rw [hf, h5]; rfl
  · unfold fitRes; rw [h2 ho, h5]; rfl
  · unfold fitRes; rw [h2 ho, h5]; rfl
theorem fitted_ev (k q : Int) {L : Nat} {p : PV} (hp : Bg q L p) (hL : L ≤ 700) : Ev P an 97 [.v (.int .i64 k), .v p] (IsR (fitRes k q)) := by
  have hp' := hp
  obtain ⟨na, a, _, _, _, _, _, rfl⟩ := hp'
  refine .fn (fun kk => f97_eq kk k na (digs a)) (.bR (Int_ev hp hL) ?_)
  rintro r (⟨h1, h2, rfl⟩ | ⟨h, rfl⟩)
  · refine .condT rfl (.asBool rfl (.condT rfl (.bR (fitR_ev k q) ?_)))
    rintro r rfl
    refine .condT rfl (.asBool rfl (.cond (fun hf => .asInt rfl (.ret ?_)) (fun hf => .cond (fun h5 => .ret ?_) (fun h5 => .ret ?_))))
    · unfold fitRes; rw [hf]; rfl
    · unfold fitRes; rw [hf, h5]; rfl
    · unfold fitRes; rw [hf, h5]; rfl
  · refine .condT rfl (.asBool rfl (.condF rfl (.cond (fun h5 => .ret ?_) (fun h5 => .ret ?_))))
    · unfold fitRes; rw [fitB_far h, h5]; rfl
    · unfold fitRes; rw [fitB_far h, h5]; rfl
theorem truthA_ev (b : Bool) : Ev P an 94 [.v (.bool b)] (IsR (vr 1 (cond b 1 0) 0)) :=
  .fn (fun kk => f94_eq kk b) (.cond (fun h => .ret (by rw [h]; rfl)) (fun h => .ret (by rw [h]; rfl)))
theorem truthR_ev (b : Bool) : Ev P an 96 [.v (.bool b)] (IsR (vr 1 (cond b 1 0) 0)) :=
  .fn (fun kk => f96_eq kk b) (.cond (fun h => .ret (by rw [h]; rfl)) (fun h => .ret (by rw [h]; rfl)))
theorem fitRes_vr (k q : Int) : ∃ kk nn e, fitRes k q = vr kk nn e ∧ (e = 0 → FitP kk nn) := by
  unfold fitRes
  cases h : fitB k q with
  | true => exact ⟨k, q, 0, rfl, fun _ => fitB_true h⟩
  | false => refine ⟨0, 0, _, rfl, fun h => ?_⟩; cases h5 : (k == 5) <;> rw [h5] at h <;> exact absurd h (by decide)
theorem opBoth_of {op : ByteArray} {k1 n1 k2 n2 : Int} {x : Ret} (hx : ∃ kk nn e, x = vr kk nn e ∧ (e = 0 → FitP kk nn)) (ha : Ev P an 40 [.v (.str op), .v (valP k1 n1 []), .v (valP k2 n2 [])] (IsR x)) (hb : Ev P an 41 [.v (.str op), .v (valP k1 n1 []), .v (valP k2 n2 [])] (IsR x)) : OpBoth op k1 n1 k2 n2 := by
  obtain ⟨kk, nn, e, rfl, h⟩ := hx
  exact ⟨kk, nn, e, h, ha, hb⟩
theorem vr_ok (b : Bool) : ∃ kk nn e, vr 1 (cond b 1 0) 0 = vr kk nn e ∧ (e = 0 → FitP kk nn) := ⟨_, _, _, rfl, fun _ => by cases b <;> simp [FitP]⟩
theorem vr_err (e : Int) (h : e ≠ 0) : ∃ kk nn e', vr 0 0 e = vr kk nn e' ∧ (e' = 0 → FitP kk nn) := ⟨_, _, _, rfl, fun h' => absurd h' h⟩

/-- A closed evaluation. -/
theorem closed {f : FuncId} {args : List PA} {r : Ret} (h : ∀ j, sem P an (j + 20) f args = some r) : Ev P an f args (IsR r) :=
  ⟨r, 20, rfl, fun k _ _ hk _ _ => by obtain ⟨j, rfl⟩ : ∃ j, k = j + 20 := ⟨k - 20, by omega⟩; exact h j⟩
def ki (k : Int) : Ret := ⟨[.v (.int .i64 k)], []⟩
/-- The kinds that operators come to. -/
def tAdd (a b : Int) : Int := cond (a == b && decide (a ≥ 2) && decide (a ≤ 4)) a (cond (a == 5 && b == 2) 5 0)
def tSub (a b : Int) : Int := cond (a == b && decide (a ≥ 2) && decide (a ≤ 4)) a (cond (a == 5 && b == 2) 5 (cond (a == 5 && b == 5) 2 0))
def tMul (a b : Int) : Int := cond (a == 2 && decide (b ≥ 2) && decide (b ≤ 4)) b (cond (b == 2 && decide (a ≥ 2) && decide (a ≤ 4)) a (cond (a == 3 && b == 4 || a == 4 && b == 3) 3 0))
def tDiv (a b : Int) : Int := cond (b == 2 && (a == 2 || a == 3)) a (cond (a == 3 && b == 3) 4 0)
def tCmp (a b : Int) : Int := cond (a == b && decide (a ≥ 2)) 1 0
def tEq (a b : Int) : Int := cond (a == b) 1 0
def tMin (a b : Int) : Int := cond (a == b && decide (a ≥ 2)) a 0
def TwoBoth (op : ByteArray) (t : Int → Int → Int) : Prop := ∀ a b : Int, 1 ≤ a → a ≤ 5 → 1 ≤ b → b ≤ 5 → Ev P an 88 [.v (.str op), .v (.int .i64 a), .v (.int .i64 b)] (IsR (ki (t a b))) ∧ Ev P an 100 [.v (.str op), .v (.int .i64 a), .v (.int .i64 b)] (IsR (ki (t a b)))
theorem five {a : Int} (h1 : 1 ≤ a) (h2 : a ≤ 5) : a = 1 ∨ a = 2 ∨ a = 3 ∨ a = 4 ∨ a = 5 := by omega
theorem two_add : TwoBoth sAdd tAdd := by
  intro a b a1 a5 b1 b5
  rcases five a1 a5 with rfl | rfl | rfl | rfl | rfl <;> rcases five b1 b5 with rfl | rfl | rfl | rfl | rfl <;> exact ⟨closed fun j => by kernel_rfl, closed fun j => by kernel_rfl⟩
theorem two_sub : TwoBoth sSub tSub := by
  intro a b a1 a5 b1 b5
  rcases five a1 a5 with rfl | rfl | rfl | rfl | rfl <;> rcases five b1 b5 with rfl | rfl | rfl | rfl | rfl <;> exact ⟨closed fun j => by kernel_rfl, closed fun j => by kernel_rfl⟩
theorem two_mul : TwoBoth sMul tMul := by
  intro a b a1 a5 b1 b5
  rcases five a1 a5 with rfl | rfl | rfl | rfl | rfl <;> rcases five b1 b5 with rfl | rfl | rfl | rfl | rfl <;> exact ⟨closed fun j => by kernel_rfl, closed fun j => by kernel_rfl⟩
theorem two_div : TwoBoth sDiv tDiv := by
  intro a b a1 a5 b1 b5
  rcases five a1 a5 with rfl | rfl | rfl | rfl | rfl <;> rcases five b1 b5 with rfl | rfl | rfl | rfl | rfl <;> exact ⟨closed fun j => by kernel_rfl, closed fun j => by kernel_rfl⟩
theorem two_lt : TwoBoth sLt tCmp := by
  intro a b a1 a5 b1 b5
  rcases five a1 a5 with rfl | rfl | rfl | rfl | rfl <;> rcases five b1 b5 with rfl | rfl | rfl | rfl | rfl <;> exact ⟨closed fun j => by kernel_rfl, closed fun j => by kernel_rfl⟩
theorem two_le : TwoBoth sLe tCmp := by
  intro a b a1 a5 b1 b5
  rcases five a1 a5 with rfl | rfl | rfl | rfl | rfl <;> rcases five b1 b5 with rfl | rfl | rfl | rfl | rfl <;> exact ⟨closed fun j => by kernel_rfl, closed fun j => by kernel_rfl⟩
theorem two_gt : TwoBoth sGt tCmp := by
  intro a b a1 a5 b1 b5
  rcases five a1 a5 with rfl | rfl | rfl | rfl | rfl <;> rcases five b1 b5 with rfl | rfl | rfl | rfl | rfl <;> exact ⟨closed fun j => by kernel_rfl, closed fun j => by kernel_rfl⟩
theorem two_ge : TwoBoth sGe tCmp := by
  intro a b a1 a5 b1 b5
  rcases five a1 a5 with rfl | rfl | rfl | rfl | rfl <;> rcases five b1 b5 with rfl | rfl | rfl | rfl | rfl <;> exact ⟨closed fun j => by kernel_rfl, closed fun j => by kernel_rfl⟩
theorem two_eq : TwoBoth sEq tEq := by
  intro a b a1 a5 b1 b5
  rcases five a1 a5 with rfl | rfl | rfl | rfl | rfl <;> rcases five b1 b5 with rfl | rfl | rfl | rfl | rfl <;> exact ⟨closed fun j => by kernel_rfl, closed fun j => by kernel_rfl⟩
theorem two_ne : TwoBoth sNe tEq := by
  intro a b a1 a5 b1 b5
  rcases five a1 a5 with rfl | rfl | rfl | rfl | rfl <;> rcases five b1 b5 with rfl | rfl | rfl | rfl | rfl <;> exact ⟨closed fun j => by kernel_rfl, closed fun j => by kernel_rfl⟩
theorem two_min : TwoBoth sMin tMin := by
  intro a b a1 a5 b1 b5
  rcases five a1 a5 with rfl | rfl | rfl | rfl | rfl <;> rcases five b1 b5 with rfl | rfl | rfl | rfl | rfl <;> exact ⟨closed fun j => by kernel_rfl, closed fun j => by kernel_rfl⟩
theorem two_max : TwoBoth sMax tMin := by
  intro a b a1 a5 b1 b5
  rcases five a1 a5 with rfl | rfl | rfl | rfl | rfl <;> rcases five b1 b5 with rfl | rfl | rfl | rfl | rfl <;> exact ⟨closed fun j => by kernel_rfl, closed fun j => by kernel_rfl⟩
def tNeg (a : Int) : Int := cond (decide (a ≥ 2) && decide (a ≤ 4)) a 0
def tNot (a : Int) : Int := cond (a == 1) 1 0
def OneBoth (op : ByteArray) (t : Int → Int) : Prop := ∀ a : Int, 1 ≤ a → a ≤ 5 → Ev P an 133 [.v (.str op), .v (.int .i64 a)] (IsR (ki (t a))) ∧ Ev P an 95 [.v (.str op), .v (.int .i64 a)] (IsR (ki (t a)))
theorem one_neg : OneBoth sNeg tNeg := by
  intro a a1 a5
  rcases five a1 a5 with rfl | rfl | rfl | rfl | rfl <;> exact ⟨closed fun j => by kernel_rfl, closed fun j => by kernel_rfl⟩
theorem one_not : OneBoth sNot tNot := by
  intro a a1 a5
  rcases five a1 a5 with rfl | rfl | rfl | rfl | rfl <;> exact ⟨closed fun j => by kernel_rfl, closed fun j => by kernel_rfl⟩
end Go.Proofs.Sx.Z
