/- The reference's words: any text is cut into words whose numbers fit, or is not. -/
import Derived.Test.YtoeplmfcjonkgaaGreatZEqB
import Derived.Test.YtoeplmfcjonkgaaGreatSxEv
set_option linter.unusedVariables false
set_option linter.unusedSimpArgs false
namespace Go.Proofs.Sx.Z
open Go

theorem dT {p : Prop} [Decidable p] (h : decide p = true) : p := of_decide_eq_true h
theorem dF {p : Prop} [Decidable p] (h : decide p = false) : ¬ p := of_decide_eq_false h
theorem eT {a b : Int} (h : (a == b) = true) : a = b := by simpa using h
theorem eF {a b : Int} (h : (a == b) = false) : a ≠ b := by simpa using h

def OneB (r : Ret) : Prop := ∃ b, r = ⟨[.v (.bool b)], []⟩
def OneI (p : Int → Prop) (r : Ret) : Prop := ∃ n, p n ∧ r = ⟨[.v (.int .i64 n)], []⟩
def OneS (p : ByteArray → Prop) (r : Ret) : Prop := ∃ n, p n ∧ r = ⟨[.v (.str n)], []⟩
def IntB (p : Int → Bool → Prop) (r : Ret) : Prop := ∃ n b, p n b ∧ r = ⟨[.v (.int .i64 n), .v (.bool b)], []⟩

theorem letter_ev (c : Int) : Ev P an 146 [.v (.int .u8 c)] OneB := by
  refine .fn (fun k => f146_eq k c) ?_
  exact .cond (fun _ => .ret ⟨_, rfl⟩) (fun _ => .ret ⟨_, rfl⟩)
theorem digit_ev (c : Int) : Ev P an 147 [.v (.int .u8 c)] OneB := by
  refine .fn (fun k => f147_eq k c) ?_
  exact .cond (fun _ => .ret ⟨_, rfl⟩) (fun _ => .ret ⟨_, rfl⟩)

/-- A loop that looks for a text among others. -/
theorem kept_L (s : ByteArray) (l : List ByteArray) (hl : l.length ≤ 1000) : ∀ (d : Nat) (i : Int), 0 ≤ i → (l.length : Int) - i ≤ d → Ev3 (fun k m0 _ => f148_L3 k m0 s i (l.map .str)) OneB := by
  intro d
  induction d with
  | zero =>
    intro i h0 h1
    refine .loop0 (fun k m0 _ => f148_L3_eq k m0 _ _ _) (.condF ?_ (.ret ⟨_, rfl⟩))
    simp; omega
  | succ d ih =>
    intro i h0 h1
    refine .loop0 (fun k m0 _ => f148_L3_eq k m0 _ _ _) (.cond (fun h => ?_) (fun _ => .ret ⟨_, rfl⟩))
    have h := dT h
    rw [List.length_map] at h
    have hi : i.toNat < l.length := by omega
    refine .condT (inB_true h0 (by simpa using h)) (.asStr (n := l[i.toNat]) (by simp [List.getD_eq_getElem?_getD, hi]) (.cond (fun _ => .ret ⟨_, rfl⟩) (fun _ => ?_)))
    rw [wrap64_id (by omega) (by omega)]
    exact ih (i + 1) (by omega) (by omega)
theorem kept_ev (s : ByteArray) : Ev P an 148 [.v (.str s)] OneB := by
  exact .fn (fun k => f148_eq k s) (kept_L s [_, _, _, _, _, _, _, _, _, _, _, _, _, _, _, _, _, _, _, _, _, _, _] (by decide) 23 0 (by decide) (by decide)).in0

theorem run_L (s : ByteArray) (hs : s.size ≤ 1000000) (at_ : Int) (h0 : 0 ≤ at_) (h2 : at_ ≤ s.size) : ∀ (d : Nat) (n : Int), 0 ≤ n → at_ + n ≤ s.size → (s.size : Int) - (at_ + n) ≤ d →
    Ev3 (fun k m0 _ => f150_L2 k m0 s at_ n) (OneI fun m => 0 ≤ m ∧ at_ + m ≤ s.size) := by
  intro d
  induction d with
  | zero =>
    intro n hn hle hd
    refine .loop0 (fun k m0 _ => f150_L2_eq k m0 _ _ _) ?_
    rw [wrap64_id (by omega) (by omega)]
    refine .condF (by simp; omega) (.ret ⟨_, ⟨hn, hle⟩, rfl⟩)
  | succ d ih =>
    intro n hn hle hd
    refine .loop0 (fun k m0 _ => f150_L2_eq k m0 _ _ _) ?_
    rw [wrap64_id (by omega) (by omega)]
    refine .cond (fun h => ?_) (fun _ => .ret ⟨_, ⟨hn, hle⟩, rfl⟩)
    have h := dT h
    refine .condT (inB_true (by omega) h) (.bR (.lift (fun _ _ _ => rfl) (digit_ev _)) ?_)
    rintro r ⟨b, rfl⟩
    refine .condT rfl (.asBool rfl (.cond (fun _ => ?_) (fun _ => .ret ⟨_, ⟨hn, hle⟩, rfl⟩)))
    rw [wrap64_id (n := n + 1) (by omega) (by omega)]
    exact ih (n + 1) (by omega) (by omega) (by omega)
theorem run_ev (s : ByteArray) (hs : s.size ≤ 1000000) (at_ : Int) (h0 : 0 ≤ at_) (h2 : at_ ≤ s.size) : Ev P an 150 [.v (.str s), .v (.int .i64 at_)] (OneI fun m => 0 ≤ m ∧ at_ + m ≤ s.size) := by
  exact .fn (fun k => f150_eq k s at_) (run_L s hs at_ h0 h2 s.size 0 (by decide) (by omega) (by omega)).in0

def leapB (y : Int) : Bool := (Int.tmod y 4 == 0 && Int.tmod y 100 != 0) || Int.tmod y 400 == 0
theorem leap_ev (y : Int) : Ev P an 168 [.v (.int .i64 y)] fun r => r = ⟨[.v (.bool (leapB y))], []⟩ := by
  refine .fn (fun k => f168_eq k y) ?_
  exact .cond (fun h => .cond (fun h2 => .ret (by simp [leapB, h, h2])) (fun h2 => .ret (by simp [leapB, h, h2]))) (fun h => .ret (by simp [leapB, h]))
def d30 (y m : Int) : Int := cond (m == 4 || m == 6 || m == 9 || m == 11) 30 (cond (m == 2) (cond (leapB y) 29 28) 0)
def daysI (y m : Int) : Int := cond (m == 1 || m == 3 || m == 5 || m == 7 || m == 8 || m == 10 || m == 12) 31 (d30 y m)
theorem days_J14 (y m : Int) (b : Bool) (hb : (b || m == 4 || m == 6 || m == 9) = (m == 4 || m == 6 || m == 9 || m == 11) ∨ b = (m == 4 || m == 6 || m == 9 || m == 11)) : Ev3 (fun k _ _ => f169_J14 k y m b) fun r => r = ⟨[.v (.int .i64 (cond b 30 (cond (m == 2) (cond (leapB y) 29 28) 0)))], []⟩ := by
  refine .eq (fun k _ _ => f169_J14_eq k y m b) (.cond (fun h => .ret ?_) (fun h => .cond (fun h2 => ?_) (fun h2 => .ret ?_)))
  · simp [h]
  · refine .bR (leap_ev y) ?_
    rintro r rfl
    exact .condT rfl (.asBool rfl (.cond (fun h3 => .ret (by simp [h, h2, h3])) (fun h3 => .ret (by simp [h, h2, h3]))))
  · simp [h, h2]
theorem days_J14' (y m : Int) (b : Bool) (hb : b = (m == 4 || m == 6 || m == 9 || m == 11)) : Ev3 (fun k _ _ => f169_J14 k y m b) fun r => r = ⟨[.v (.int .i64 (d30 y m))], []⟩ := by
  have := days_J14 y m b (.inr hb)
  rw [hb] at this ⊢
  exact this
theorem days_J9 (y m : Int) (b : Bool) : Ev3 (fun k _ _ => f169_J9 k y m b) fun r => r = ⟨[.v (.int .i64 (cond b 31 (d30 y m)))], []⟩ := by
  refine .eq (fun k _ _ => f169_J9_eq k y m b) (.cond (fun h => .ret (by simp [h])) (fun h => ?_))
  subst h
  refine .cond (fun h1 => days_J14' _ _ _ (by simp [h1])) (fun h1 => .cond (fun h2 => days_J14' _ _ _ (by simp [h1, h2])) (fun h2 => .cond (fun h3 => days_J14' _ _ _ (by simp [h1, h2, h3])) (fun h3 => days_J14' _ _ _ (by simp [h1, h2, h3]))))
theorem days_ev (y m : Int) : Ev P an 169 [.v (.int .i64 y), .v (.int .i64 m)] fun r => r = ⟨[.v (.int .i64 (daysI y m))], []⟩ := by
  have key : ∀ b, b = (m == 1 || m == 3 || m == 5 || m == 7 || m == 8 || m == 10 || m == 12) → Ev3 (fun k _ _ => f169_J9 k y m b) fun r => r = ⟨[.v (.int .i64 (daysI y m))], []⟩ := fun b hb => by
    have := days_J9 y m b
    rw [hb] at this ⊢; exact this
  refine .fn (fun k => f169_eq k y m) ?_
  refine .cond (fun h1 => key _ (by simp [h1])) (fun h1 => .cond (fun h2 => key _ (by simp [h1, h2])) (fun h2 => .cond (fun h3 => key _ (by simp [h1, h2, h3])) (fun h3 => .cond (fun h4 => key _ (by simp [h1, h2, h3, h4])) (fun h4 =>
    .cond (fun h5 => key _ (by simp [h1, h2, h3, h4, h5])) (fun h5 => .cond (fun h6 => key _ (by simp [h1, h2, h3, h4, h5, h6])) (fun h6 => key _ (by simp [h1, h2, h3, h4, h5, h6])))))))

def yearI (y : Int) : Int := cond (leapB y) 366 365
def sumY : Nat → Int
  | 0 => 0
  | j + 1 => sumY j + yearI (1900 + j)
def sumM (y : Int) : Nat → Int
  | 0 => 0
  | j + 1 => sumM y j + daysI y (1 + j)
theorem yearI_le (y : Int) : 365 ≤ yearI y ∧ yearI y ≤ 366 := by unfold yearI; cases leapB y <;> decide
theorem daysI_le (y m : Int) : 0 ≤ daysI y m ∧ daysI y m ≤ 31 := by
  unfold daysI d30
  cases (m == 1 || m == 3 || m == 5 || m == 7 || m == 8 || m == 10 || m == 12) <;> cases (m == 4 || m == 6 || m == 9 || m == 11) <;> cases (m == 2) <;> cases leapB y <;> decide
theorem sumY_le : ∀ j : Nat, 0 ≤ sumY j ∧ sumY j ≤ 366 * j
  | 0 => by simp [sumY]
  | j + 1 => by have := sumY_le j; have := yearI_le (1900 + j); simp only [sumY]; omega
theorem sumY_mono {i : Nat} : ∀ d : Nat, sumY i ≤ sumY (i + d)
  | 0 => by simp
  | d + 1 => by have := sumY_mono (i := i) d; have := yearI_le (1900 + (i + d : Nat)); rw [show i + (d + 1) = i + d + 1 from rfl]; simp only [sumY]; omega
theorem sumM_le (y : Int) : ∀ j : Nat, 0 ≤ sumM y j ∧ sumM y j ≤ 31 * j
  | 0 => by simp [sumM]
  | j + 1 => by have := sumM_le y j; have := daysI_le y (1 + j); simp only [sumM]; omega
theorem sumM_mono (y : Int) {i : Nat} : ∀ d : Nat, sumM y i ≤ sumM y (i + d)
  | 0 => by simp
  | d + 1 => by have := sumM_mono y (i := i) d; have := daysI_le y (1 + (i + d : Nat)); rw [show i + (d + 1) = i + d + 1 from rfl]; simp only [sumM]; omega
theorem sumM_all (y : Int) : sumM y 12 = yearI y := by
  simp only [sumM, daysI, d30, yearI]
  cases leapB y <;> decide
theorem sumY_all : sumY 300 = 109573 := by decide +kernel

theorem day_J14 (d n : Int) : Ev3 (fun k _ _ => f208_J14 k d n) fun r => r = ⟨[.v (.int .i64 (IntKind.wrap .i64 (IntKind.wrap .i64 (n + d) - 1))), .v (.bool true)], []⟩ :=
  .eq (fun k _ _ => f208_J14_eq k d n) (.ret rfl)
theorem day_L11 (y m d n : Int) (hm : m ≤ 12) (hn : 0 ≤ n ∧ n ≤ 200000) (hd : 1 ≤ d ∧ d ≤ 31) : ∀ (f : Nat) (j : Nat), j ≤ 12 → (m - (1 + (j : Int)) ≤ f) → 1 + (j : Int) ≤ m →
    Ev3 (fun k m0 _ => f208_L11 k m0 y m d (n + sumM y j) (1 + j)) fun r => r = ⟨[.v (.int .i64 (n + sumM y (m - 1).toNat + d - 1)), .v (.bool true)], []⟩ := by
  intro f
  induction f with
  | zero =>
    intro j hj h1 h2
    have hs := sumM_le y j
    refine .loop0 (fun k m0 _ => f208_L11_eq k m0 y m d _ _) (.condF (by simp; omega) (.mono (day_J14 d _) ?_))
    rintro r rfl
    rw [show (m - 1).toNat = j by omega, wrap64_id (n := n + sumM y j + d) (by omega) (by omega), wrap64_id (by omega) (by omega)]
  | succ f ih =>
    intro j hj h1 h2
    have hs := sumM_le y j
    refine .loop0 (fun k m0 _ => f208_L11_eq k m0 y m d _ _) (.cond (fun h => ?_) (fun h => .mono (day_J14 d _) ?_))
    · have h := dT h
      refine .bR (days_ev y (1 + j)) ?_
      rintro r rfl
      have hd' := daysI_le y (1 + j)
      refine .condT rfl (.asInt rfl ?_)
      rw [wrap64_id (n := n + sumM y j + daysI y (1 + j)) (by omega) (by omega), wrap64_id (n := 1 + (j : Int) + 1) (by omega) (by omega)]
      have := ih (j + 1) (by omega) (by omega) (by omega)
      simp only [sumM] at this
      rw [show n + sumM y j + daysI y (1 + j) = n + (sumM y j + daysI y (1 + j)) by omega, show 1 + (j : Int) + 1 = 1 + ((j + 1 : Nat) : Int) by omega]
      exact this
    · have h := dF h
      rintro r rfl
      rw [show (m - 1).toNat = j by omega, wrap64_id (n := n + sumM y j + d) (by omega) (by omega), wrap64_id (by omega) (by omega)]
theorem day_L5 (y m d : Int) (hy : y ≤ 2199) (hm : 1 ≤ m ∧ m ≤ 12) (hd : 1 ≤ d ∧ d ≤ 31) : ∀ (f : Nat) (j : Nat), (y - (1900 + (j : Int)) ≤ f) → 1900 + (j : Int) ≤ y →
    Ev3 (fun k m0 _ => f208_L5 k m0 y m d (sumY j) (1900 + j)) fun r => r = ⟨[.v (.int .i64 (sumY (y - 1900).toNat + sumM y (m - 1).toNat + d - 1)), .v (.bool true)], []⟩ := by
  have fin : ∀ j : Nat, 1900 + (j : Int) = y → Ev3 (fun k _ _ => f208_J10 k y m d (sumY j)) fun r => r = ⟨[.v (.int .i64 (sumY (y - 1900).toNat + sumM y (m - 1).toNat + d - 1)), .v (.bool true)], []⟩ := by
    intro j hj
    have hs := sumY_le j
    rw [show (y - 1900).toNat = j by omega]
    have := (day_L11 y m d (sumY j) hm.2 (by omega) hd 12 0 (by omega) (by omega) (by omega)).in0
    rw [show sumM y 0 = 0 from rfl, show (1 : Int) + ((0 : Nat) : Int) = 1 from rfl, Int.add_zero] at this
    exact .eq (fun k _ _ => f208_J10_eq k y m d _) this
  intro f
  induction f with
  | zero =>
    intro j h1 h2
    exact .loop0 (fun k m0 _ => f208_L5_eq k m0 y m d _ _) (.condF (by simp; omega) (fin j (by omega)))
  | succ f ih =>
    intro j h1 h2
    have hs := sumY_le j
    refine .loop0 (fun k m0 _ => f208_L5_eq k m0 y m d _ _) (.cond (fun h => ?_) (fun h => fin j (by have := dF h; omega)))
    have h := dT h
    refine .bR (leap_ev _) ?_
    rintro r rfl
    have := ih (j + 1) (by omega) (by omega)
    simp only [sumY, yearI] at this
    refine .condT rfl (.asBool rfl ?_)
    rw [wrap64_id (n := sumY j + 365) (by omega) (by omega), wrap64_id (n := sumY j + 365 + 1) (by omega) (by omega), wrap64_id (n := 1900 + (j : Int) + 1) (by omega) (by omega)]
    rw [show 1900 + (j : Int) + 1 = 1900 + ((j + 1 : Nat) : Int) by omega]
    refine .cond (fun hl => ?_) (fun hl => ?_) <;> rw [hl] at this
    · simp only [Bool.cond_true] at this
      rw [show sumY j + 365 + 1 = sumY j + 366 by omega]
      exact this
    · exact this
theorem day_ev (y m d : Int) : Ev P an 208 [.v (.int .i64 y), .v (.int .i64 m), .v (.int .i64 d)] (IntB fun n _ => 0 ≤ n ∧ n ≤ 109572) := by
  have no : Ev3 (fun _ _ _ => some ⟨[.v (.int .i64 0), .v (.bool false)], []⟩) (IntB fun n _ => 0 ≤ n ∧ n ≤ 109572) := .ret ⟨_, _, by decide, rfl⟩
  refine .fn (fun k => f208_eq k y m d) ?_
  refine .cond (fun _ => no) (fun h1 => .cond (fun _ => no) (fun h2 => .cond (fun _ => no) (fun h3 => .cond (fun _ => no) (fun h4 => .cond (fun _ => no) (fun h5 => ?_)))))
  have h1 := dF h1; have h2 := dF h2; have h3 := dF h3; have h4 := dF h4; have h5 := dF h5
  refine .bR (days_ev y m) ?_
  rintro r rfl
  have hm := daysI_le y m
  refine .condT rfl (.asInt rfl (.cond (fun _ => no) (fun h6 => ?_)))
  have h6 := dF h6
  have := (day_L5 y m d (by omega) ⟨by omega, by omega⟩ ⟨by omega, by omega⟩ 300 0 (by omega) (by omega)).in0
  rw [show sumY 0 = 0 from rfl, show (1900 : Int) + ((0 : Nat) : Int) = 1900 from rfl] at this
  refine .mono this ?_
  rintro r rfl
  refine ⟨_, _, ?_, rfl⟩
  have e1 := sumY_mono (i := (y - 1900).toNat + 1) (300 - ((y - 1900).toNat + 1))
  rw [show (y - 1900).toNat + 1 + (300 - ((y - 1900).toNat + 1)) = 300 by omega, sumY_all] at e1
  simp only [sumY] at e1
  rw [show (1900 : Int) + ((y - 1900).toNat : Int) = y by omega] at e1
  have e2 := sumM_mono y (i := (m - 1).toNat + 1) (12 - ((m - 1).toNat + 1))
  rw [show (m - 1).toNat + 1 + (12 - ((m - 1).toNat + 1)) = 12 by omega, sumM_all] at e2
  simp only [sumM] at e2
  rw [show (1 : Int) + ((m - 1).toNat : Int) = m by omega] at e2
  have e3 := sumY_le (y - 1900).toNat
  have e4 := sumM_le y (m - 1).toNat
  omega
end Go.Proofs.Sx.Z
