/- The program's numbers: two limbs. -/
import Derived.Test.YtoeplmfcjonkgaaGreatZLex
import Derived.Lib.Mul64
set_option linter.unusedVariables false
set_option linter.unusedSimpArgs false
namespace Go.Proofs.Sx.Z
open Go

theorem wrap_congr {x y : Int} (h : (x - y) % 18446744073709551616 = 0) (h1 : -9223372036854775808 ≤ y) (h2 : y ≤ 9223372036854775807) : IntKind.wrap .i64 x = y := by
  unfold IntKind.wrap; simp [IntKind.bits, IntKind.signed]; omega
theorem wrapu_eq (x : Int) : IntKind.wrap .u64 x = x % 18446744073709551616 := by
  unfold IntKind.wrap; simp [IntKind.bits, IntKind.signed]
theorem wrapi_range (x : Int) : -9223372036854775808 ≤ IntKind.wrap .i64 x ∧ IntKind.wrap .i64 x ≤ 9223372036854775807 ∧ (x - IntKind.wrap .i64 x) % 18446744073709551616 = 0 := by
  unfold IntKind.wrap; simp [IntKind.bits, IntKind.signed]; omega
theorem and32 {x : Nat} (h : x < 18446744073709551616) : IntKind.wrap .u64 ((BitVec.ofInt 64 (x : Int) &&& BitVec.ofInt 64 4294967295).toNat : Int) = ((x % 4294967296 : Nat) : Int) := by
  have e : (BitVec.ofInt 64 (x : Int) &&& BitVec.ofInt 64 4294967295).toNat = x % 4294967296 := by
    rw [BitVec.toNat_and, BitVec.toNat_ofInt, BitVec.toNat_ofInt, Int.emod_eq_of_lt (by omega) (by simp; omega), show ((x : Int)).toNat = x by omega]
    rw [show ((4294967295 : Int) % ((2 ^ 64 : Nat) : Int)).toNat = 2 ^ 32 - 1 by decide, Nat.and_two_pow_sub_one_eq_mod]
  rw [e]
  exact wrapu64_id (by omega) (by omega)
theorem shr_nat {x s : Nat} (hs : s ≤ 64) : Int.fdiv (x : Int) (2 ^ (min s 64)) = ((x / 2 ^ s : Nat) : Int) := by
  rw [show min s 64 = s by omega, Int.fdiv_eq_ediv_of_nonneg _ (Int.le_of_lt (Int.pow_pos (by decide)))]; simp
theorem shr32 {x : Nat} : Int.fdiv (x : Int) (2 ^ (min 32 64)) = ((x / 4294967296 : Nat) : Int) := shr_nat (by decide)
theorem mulc (a b : Nat) : (a : Int) * (b : Int) = ((a * b : Nat) : Int) := by simp
theorem addc (a b : Nat) : (a : Int) + (b : Int) = ((a + b : Nat) : Int) := by simp
theorem wrapu_nat {x : Nat} (h : x < 18446744073709551616) : IntKind.wrap .u64 (x : Int) = (x : Int) := wrapu64_id (by omega) (by omega)

def TwoU (x y : Nat) (r : Ret) : Prop := r = ⟨[.v (.int .u64 (x : Int)), .v (.int .u64 (y : Int))], []⟩
theorem mul64_ev (x y : Nat) (hx : x < 18446744073709551616) (hy : y < 18446744073709551616) : Ev P an 203 [.v (.int .u64 x), .v (.int .u64 y)] (TwoU (x * y / 18446744073709551616) (x * y % 18446744073709551616)) := by
  obtain ⟨h1, h2, h3, h4⟩ := Go.Lib.mul64_hi x y hx hy
  have b1 := Go.Lib.half_mul_le (a := x / 4294967296) (b := y / 4294967296) (by omega) (by omega)
  have b2 := Go.Lib.half_mul_le (a := x / 4294967296) (b := y % 4294967296) (by omega) (by omega)
  have b3 := Go.Lib.half_mul_le (a := x % 4294967296) (b := y / 4294967296) (by omega) (by omega)
  refine .fn (fun k => f203_eq k x y) (.condF rfl (.condF rfl (.condF rfl (.condF rfl (.condF rfl (.ret ?_))))))
  simp only [and32 hx, and32 hy, shr32, mulc]
  have hb : x * y / 18446744073709551616 < 18446744073709551616 := by
    have : x * y < 18446744073709551616 * 18446744073709551616 := Nat.mul_lt_mul_of_lt_of_le hx (Nat.le_of_lt hy) (by decide)
    exact Nat.div_lt_of_lt_mul this
  simp only [wrapu_nat (by omega : x / 4294967296 * (y / 4294967296) < 18446744073709551616), wrapu_nat (by omega : x / 4294967296 * (y % 4294967296) < 18446744073709551616), wrapu_nat h1, wrapu_nat (by omega : x % 4294967296 * (y / 4294967296) < 18446744073709551616), shr32, addc, wrapu_nat h2, and32 h2, wrapu_nat h3]
  rw [← h4] at hb
  generalize x / 4294967296 * (y / 4294967296) = A at *
  generalize (x / 4294967296 * (y % 4294967296) + x % 4294967296 * (y % 4294967296) / 4294967296) = B at *
  rw [wrapu_nat (by omega : A + B / 4294967296 < 18446744073709551616), addc, wrapu_nat hb, h4]
  unfold TwoU
  rw [wrapu_eq]
  have : ((x * y : Nat) : Int) % 18446744073709551616 = ((x * y % 18446744073709551616 : Nat) : Int) := by simp
  rw [this]

/-- A number of two limbs. -/
def wideP (w : Int) : PV := .agg [.int .i64 (w / 18446744073709551616), .int .u64 (w % 18446744073709551616)]
theorem product_ev (a b : Int) (ha : -9223372036854775808 ≤ a) (ha2 : a ≤ 9223372036854775807) (hb : -9223372036854775808 ≤ b) (hb2 : b ≤ 9223372036854775807) : Ev P an 176 [.v (.int .i64 a), .v (.int .i64 b)] (fun r => r = ⟨[.v (wideP (a * b))], []⟩) := by
  -- as numbers without a sign
  obtain ⟨x, hx, hxa⟩ : ∃ x : Nat, x < 18446744073709551616 ∧ a % 18446744073709551616 = (x : Int) := ⟨(a % 18446744073709551616).toNat, by omega, by omega⟩
  obtain ⟨y, hy, hyb⟩ : ∃ y : Nat, y < 18446744073709551616 ∧ b % 18446744073709551616 = (y : Int) := ⟨(b % 18446744073709551616).toNat, by omega, by omega⟩
  have hxe : (x : Int) = a + (if a < 0 then 18446744073709551616 else 0) := by split <;> omega
  have hye : (y : Int) = b + (if b < 0 then 18446744073709551616 else 0) := by split <;> omega
  -- the product
  have hp : ((x * y : Nat) : Int) = a * b + 18446744073709551616 * ((if a < 0 then b else 0) + (if b < 0 then a else 0) + (if a < 0 ∧ b < 0 then 18446744073709551616 else 0)) := by
    have e : ((x * y : Nat) : Int) = (x : Int) * (y : Int) := by simp
    rw [e, hxe, hye]
    by_cases h1 : a < 0 <;> by_cases h2 : b < 0 <;> simp only [h1, h2, if_true, if_false, and_self, and_true, true_and, false_and, and_false] <;> (try simp only [Int.add_mul, Int.mul_add]) <;> omega
  have hab : -(9223372036854775808 * 9223372036854775808) ≤ a * b ∧ a * b ≤ 9223372036854775808 * 9223372036854775808 := by
    have h3 : (a * b).natAbs ≤ 9223372036854775808 * 9223372036854775808 := by
      rw [Int.natAbs_mul]; exact Nat.mul_le_mul (by omega) (by omega)
    omega
  have hlo : ((x * y % 18446744073709551616 : Nat) : Int) = a * b % 18446744073709551616 := by
    have : ((x * y % 18446744073709551616 : Nat) : Int) = ((x * y : Nat) : Int) % 18446744073709551616 := by simp
    rw [this, hp]; omega
  have hhi : ((x * y / 18446744073709551616 : Nat) : Int) = a * b / 18446744073709551616 + ((if a < 0 then b else 0) + (if b < 0 then a else 0) + (if a < 0 ∧ b < 0 then 18446744073709551616 else 0)) := by
    have : ((x * y / 18446744073709551616 : Nat) : Int) = ((x * y : Nat) : Int) / 18446744073709551616 := by simp
    rw [this, hp]; omega
  generalize hw : a * b = w at *
  refine .fn (fun k => f176_eq k a b) ?_
  rw [wrapu_eq, wrapu_eq, hxa, hyb]
  refine .bR (mul64_ev x y hx hy) ?_
  rintro r rfl
  rw [hhi, hlo]
  have wi := fun z => wrapi_range z
  refine .condT rfl (.asInt rfl (.cond (fun h1 => ?_) (fun h1 => ?_)))
  · have h1 := dT h1
    refine .eq (fun k _ _ => f176_J5_eq k _ _ _ _ _ _) (.cond (fun h2 => .asInt rfl (.ret ?_)) (fun h2 => .asInt rfl (.ret ?_)))
    · have h2 := dT h2
      simp only [h1, h2, if_true, and_self]
      rw [wrap_congr (x := IntKind.wrap .i64 (IntKind.wrap .i64 (w / 18446744073709551616 + (b + a + 18446744073709551616)) - b) - a) (y := w / 18446744073709551616) (by have := wi (w / 18446744073709551616 + (b + a + 18446744073709551616)); have := wi (IntKind.wrap .i64 (w / 18446744073709551616 + (b + a + 18446744073709551616)) - b); omega) (by omega) (by omega)]
      rfl
    · have h2 := dF h2
      simp only [h1, h2, if_true, if_false, and_false]
      rw [wrap_congr (x := IntKind.wrap .i64 (w / 18446744073709551616 + (b + 0 + 0)) - b) (y := w / 18446744073709551616) (by have := wi (w / 18446744073709551616 + (b + 0 + 0)); omega) (by omega) (by omega)]
      rfl
  · have h1 := dF h1
    refine .eq (fun k _ _ => f176_J5_eq k _ _ _ _ _ _) (.cond (fun h2 => .asInt rfl (.ret ?_)) (fun h2 => .asInt rfl (.ret ?_)))
    · have h2 := dT h2
      simp only [h1, h2, if_true, if_false, false_and]
      rw [wrap_congr (x := IntKind.wrap .i64 (w / 18446744073709551616 + (0 + a + 0)) - a) (y := w / 18446744073709551616) (by have := wi (w / 18446744073709551616 + (0 + a + 0)); omega) (by omega) (by omega)]
      rfl
    · have h2 := dF h2
      simp only [h1, h2, if_false, false_and]
      rw [wrap_congr (x := w / 18446744073709551616 + (0 + 0 + 0)) (y := w / 18446744073709551616) (by omega) (by omega) (by omega)]
      rfl
/-- A number if it fits, or none. -/
def Nar (w : Int) (r : Ret) : Prop := (-9223372036854775808 ≤ w ∧ w ≤ 9223372036854775807 ∧ r = ⟨[.v (.int .i64 w), .v (.bool true)], []⟩) ∨ ((w < -9223372036854775808 ∨ 9223372036854775807 < w) ∧ r = ⟨[.v (.int .i64 0), .v (.bool false)], []⟩)
theorem narrow_ev (w : Int) : Ev P an 175 [.v (wideP w)] (Nar w) := by
  have e63 : ∀ z : Int, Int.fdiv z (2 ^ (min 63 64)) = z / 9223372036854775808 := fun z => by
    rw [show (2 : Int) ^ (min 63 64) = 9223372036854775808 by decide, Int.fdiv_eq_ediv_of_nonneg _ (by decide)]
  refine .fn (fun k => f175_eq k _ _) (.condF rfl ?_)
  rw [e63]
  have hw := wrapi_range (w % 18446744073709551616)
  refine .cond (fun h => .ret ?_) (fun h => .ret ?_)
  · have h : w / 18446744073709551616 ≠ IntKind.wrap .i64 (w % 18446744073709551616) / 9223372036854775808 := by simpa using h
    exact .inr ⟨by omega, rfl⟩
  · have h : w / 18446744073709551616 = IntKind.wrap .i64 (w % 18446744073709551616) / 9223372036854775808 := by simpa using h
    have e : IntKind.wrap .i64 (w % 18446744073709551616) = w := by omega
    rw [e]
    exact .inl ⟨by omega, by omega, rfl⟩
theorem mul_ev (a b : Int) (ha : -9223372036854775808 ≤ a) (ha2 : a ≤ 9223372036854775807) (hb : -9223372036854775808 ≤ b) (hb2 : b ≤ 9223372036854775807) : Ev P an 138 [.v (.int .i64 a), .v (.int .i64 b)] (Nar (a * b)) := by
  refine .fn (fun k => f138_eq k a b) (.bR (product_ev a b ha ha2 hb hb2) ?_)
  rintro r rfl
  refine .condT rfl (.bR (narrow_ev _) ?_)
  rintro r (⟨h1, h2, rfl⟩ | ⟨h, rfl⟩)
  · exact .condT rfl (.ret (.inl ⟨h1, h2, rfl⟩))
  · exact .condT rfl (.ret (.inr ⟨h, rfl⟩))

theorem sub64_ev (x y b : Nat) (hx : x < 18446744073709551616) (hy : y < 18446744073709551616) (hb : b ≤ 1) : Ev P an 220 [.v (.int .u64 x), .v (.int .u64 y), .v (.int .u64 b)] (TwoU ((x + 18446744073709551616 - y - b) % 18446744073709551616) (if x < y + b then 1 else 0)) := by
  refine ⟨_, 1, rfl, fun k _ _ hk _ _ => ?_⟩
  obtain ⟨k, rfl⟩ : ∃ j, k = j + 1 := ⟨k - 1, by omega⟩
  have e : sem P an (k + 1) 220 [.v (.int .u64 x), .v (.int .u64 y), .v (.int .u64 b)] = sub64Sum [.v (.int .u64 x), .v (.int .u64 y), .v (.int .u64 b)] := by kernel_rfl
  refine e.trans ?_
  unfold sub64Sum two64
  simp only [Int.toNat_natCast]
  rw [show Nat.ble b 1 = true from Nat.ble_eq_true_of_le hb]
  by_cases h : x < y + b
  · have h' : Nat.blt x (y + b) = true := Nat.ble_eq_true_of_le h
    rw [if_pos h, h']; rfl
  · have h' : Nat.blt x (y + b) = false := by
      cases hc : Nat.blt x (y + b) with
      | false => rfl
      | true => exact absurd (Nat.le_of_ble_eq_true hc) h
    rw [if_neg h, h']; rfl
theorem add64_ev (x y c : Nat) (hc : c ≤ 1) : Ev P an 222 [.v (.int .u64 x), .v (.int .u64 y), .v (.int .u64 c)] (TwoU ((x + y + c) % 18446744073709551616) ((x + y + c) / 18446744073709551616)) := by
  refine ⟨_, 1, rfl, fun k _ _ hk _ _ => ?_⟩
  obtain ⟨k, rfl⟩ : ∃ j, k = j + 1 := ⟨k - 1, by omega⟩
  have e : sem P an (k + 1) 222 [.v (.int .u64 x), .v (.int .u64 y), .v (.int .u64 c)] = add64Sum [.v (.int .u64 x), .v (.int .u64 y), .v (.int .u64 c)] := by kernel_rfl
  refine e.trans ?_
  unfold add64Sum two64
  simp only [Int.toNat_natCast]
  rw [show Nat.ble c 1 = true from Nat.ble_eq_true_of_le hc]; rfl
/-- Small enough for two limbs. -/
def W128 (w : Int) : Prop := -170141183460469231731687303715884105728 < w ∧ w < 170141183460469231731687303715884105728
theorem turned_ev (w : Int) (hw : W128 w) : Ev P an 204 [.v (wideP w)] (fun r => r = ⟨[.v (wideP (-w))], []⟩) := by
  unfold W128 at hw
  obtain ⟨l, hl, hle⟩ : ∃ l : Nat, l < 18446744073709551616 ∧ w % 18446744073709551616 = (l : Int) := ⟨(w % 18446744073709551616).toNat, by omega, by omega⟩
  obtain ⟨u, hu, hue⟩ : ∃ u : Nat, u < 18446744073709551616 ∧ (w / 18446744073709551616) % 18446744073709551616 = (u : Int) := ⟨((w / 18446744073709551616) % 18446744073709551616).toNat, by omega, by omega⟩
  refine .fn (fun k => f204_eq k _ _) ?_
  rw [hle]
  refine .bR (sub64_ev 0 l 0 (by decide) hl (by decide)) ?_
  rintro r rfl
  rw [wrapu_eq, hue]
  refine .condT rfl (.bR (sub64_ev 0 u (if 0 < l + 0 then 1 else 0) (by decide) hu (by split <;> omega)) ?_)
  rintro r rfl
  refine .condT rfl (.asInt rfl (.asInt rfl (.ret ?_)))
  have e1 : ((0 + 18446744073709551616 - l - 0) % 18446744073709551616 : Nat) = (-w) % 18446744073709551616 := by omega
  have e2 : IntKind.wrap .i64 (((0 + 18446744073709551616 - u - (if 0 < l + 0 then 1 else 0)) % 18446744073709551616 : Nat) : Int) = (-w) / 18446744073709551616 := by
    refine wrap_congr ?_ (by omega) (by omega)
    split <;> omega
  rw [e2, e1]; rfl
theorem of_ev (a : Int) (h1 : -9223372036854775808 ≤ a) (h2 : a ≤ 9223372036854775807) : Ev P an 207 [.v (.int .i64 a)] (fun r => r = ⟨[.v (wideP a)], []⟩) := by
  refine .fn (fun k => f207_eq k a) (.condF rfl (.ret ?_))
  rw [show (2 : Int) ^ (min 63 64) = 9223372036854775808 by decide, Int.fdiv_eq_ediv_of_nonneg _ (by decide), wrapu_eq, show a / 9223372036854775808 = a / 18446744073709551616 by omega]; rfl
theorem plus_ev (w v : Int) (hw : W128 w) (hv : W128 v) (hs : W128 (w + v)) : Ev P an 206 [.v (wideP w), .v (wideP v)] (fun r => r = ⟨[.v (wideP (w + v)), .v (.bool true)], []⟩) := by
  unfold W128 at hw hv hs
  obtain ⟨l, hl, hle⟩ : ∃ l : Nat, l < 18446744073709551616 ∧ w % 18446744073709551616 = (l : Int) := ⟨(w % 18446744073709551616).toNat, by omega, by omega⟩
  obtain ⟨u, hu, hue⟩ : ∃ u : Nat, u < 18446744073709551616 ∧ (w / 18446744073709551616) % 18446744073709551616 = (u : Int) := ⟨((w / 18446744073709551616) % 18446744073709551616).toNat, by omega, by omega⟩
  obtain ⟨l', hl', hle'⟩ : ∃ l : Nat, l < 18446744073709551616 ∧ v % 18446744073709551616 = (l : Int) := ⟨(v % 18446744073709551616).toNat, by omega, by omega⟩
  obtain ⟨u', hu', hue'⟩ : ∃ u : Nat, u < 18446744073709551616 ∧ (v / 18446744073709551616) % 18446744073709551616 = (u : Int) := ⟨((v / 18446744073709551616) % 18446744073709551616).toNat, by omega, by omega⟩
  refine .fn (fun k => f206_eq k _ _ _ _) ?_
  rw [hle, hle']
  refine .bR (add64_ev l l' 0 (by decide)) ?_
  rintro r rfl
  rw [wrapu_eq, wrapu_eq, hue, hue']
  refine .condT rfl (.bR (add64_ev u u' ((l + l' + 0) / 18446744073709551616) (by omega)) ?_)
  rintro r rfl
  have e1 : (((l + l' + 0) % 18446744073709551616 : Nat) : Int) = (w + v) % 18446744073709551616 := by omega
  have e2 : IntKind.wrap .i64 (((u + u' + (l + l' + 0) / 18446744073709551616) % 18446744073709551616 : Nat) : Int) = (w + v) / 18446744073709551616 := wrap_congr (by omega) (by omega) (by omega)
  refine .condT rfl (.asInt rfl (.asInt rfl ?_))
  rw [e1, e2]
  refine .cond (fun h => .condF ?_ (.ret rfl)) (fun _ => .ret rfl)
  have h : (decide (w / 18446744073709551616 < 0)) = (decide (v / 18446744073709551616 < 0)) := by simpa using h
  have hh : (w / 18446744073709551616 < 0) ↔ (v / 18446744073709551616 < 0) := by simpa using h
  have h3 : decide ((w + v) / 18446744073709551616 < 0) = decide (w / 18446744073709551616 < 0) := by
    rw [decide_eq_decide]; omega
  rw [h3]; simp
end Go.Proofs.Sx.Z
