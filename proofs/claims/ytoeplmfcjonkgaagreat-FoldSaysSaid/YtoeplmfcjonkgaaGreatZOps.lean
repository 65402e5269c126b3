/- The operators of both: quotients of two limbs; values that fit. -/
import Derived.Test.YtoeplmfcjonkgaaGreatZDiv
import Derived.Test.YtoeplmfcjonkgaaGreatZBig4
import Derived.Test.YtoeplmfcjonkgaaGreatZFold
set_option linter.unusedVariables false
set_option linter.unusedSimpArgs false
namespace Go.Proofs.Sx.Z
open Go

/-- A quotient if it fits, or none. -/
theorem floorW_ev (w c : Int) (hw : W128 w) (hc : 1 ≤ c) (hc2 : c ≤ 9223372036854775807) : Ev P an 177 [.v (wideP w), .v (.int .i64 c)] (fun r => ∃ (v : Int) (ok : Bool), (ok = true → v = w / c) ∧ (ok = false → w / c < -9223372036854775808 ∨ 9223372036854775807 < w / c) ∧ r = ⟨[.v (.int .i64 v), .v (.bool ok)], []⟩) := by
  have hw' := hw
  unfold W128 at hw'
  obtain ⟨d, hd⟩ : ∃ d : Nat, c = (d : Int) := ⟨c.toNat, by omega⟩
  subst hd
  obtain ⟨m, hm⟩ : ∃ m : Nat, w.natAbs = m := ⟨_, rfl⟩
  have nar : ∀ {z : Int} {r : Ret}, z = w / (d : Int) → Nar z r → ∃ (v : Int) (ok : Bool), (ok = true → v = w / (d : Int)) ∧ (ok = false → w / (d : Int) < -9223372036854775808 ∨ 9223372036854775807 < w / (d : Int)) ∧ r = ⟨[.v (.int .i64 v), .v (.bool ok)], []⟩ := by
    rintro z r hz (⟨h1, h2, rfl⟩ | ⟨h, rfl⟩)
    · exact ⟨z, true, fun _ => hz, by simp, rfl⟩
    · exact ⟨0, false, by simp, fun _ => by omega, rfl⟩
  -- what the quotient of the size tells
  have hposq : 0 ≤ w → w / (d : Int) = ((m / d : Nat) : Int) := fun h => by
    have : w = (m : Int) := by omega
    rw [this]; simp
  have hnegq : w < 0 → w / (d : Int) = cond (decide (0 < m % d)) (-((m / d : Nat) : Int) + -1) (-((m / d : Nat) : Int)) := fun h => by
    have hwm : w = -(m : Int) := by omega
    have hdm := Nat.div_add_mod m d
    have hlt : m % d < d := Nat.mod_lt _ (by omega)
    have hmi : (m : Int) = (d : Int) * ((m / d : Nat) : Int) + ((m % d : Nat) : Int) := by
      have := congrArg (fun n : Nat => (n : Int)) hdm
      simpa using this.symm
    generalize m / d = q at *
    generalize m % d = s at *
    by_cases h0 : 0 < s
    · simp only [h0, decide_true, cond]
      have e : w = ((d : Int) - (s : Int)) + (d : Int) * (-(q : Int) + -1) := by rw [hwm, hmi, Int.mul_add, Int.mul_neg]; omega
      rw [e, Int.add_mul_ediv_left _ _ (by omega), Int.ediv_eq_zero_of_lt (by omega) (by omega)]; omega
    · simp only [h0, decide_false, cond]
      have e : w = (d : Int) * (-(q : Int)) := by rw [hwm, hmi, Int.mul_neg]; omega
      rw [e, Int.mul_ediv_cancel_left _ (by omega)]
  have hbig : d ≤ m / 18446744073709551616 → 18446744073709551616 ≤ m / d := fun h => by
    refine (Nat.le_div_iff_mul_le (by omega)).2 ?_
    have : d * 18446744073709551616 ≤ m / 18446744073709551616 * 18446744073709551616 := Nat.mul_le_mul_right _ h
    rw [Nat.mul_comm]; omega
  -- from the size on
  have j6 : Ev3 (fun k _ _ => f177_J6 k (d : Int) (w / 18446744073709551616) (w % 18446744073709551616) (.int .i64 ((m : Int) / 18446744073709551616)) (.int .u64 ((m : Int) % 18446744073709551616))) (fun r => ∃ (v : Int) (ok : Bool), (ok = true → v = w / (d : Int)) ∧ (ok = false → w / (d : Int) < -9223372036854775808 ∨ 9223372036854775807 < w / (d : Int)) ∧ r = ⟨[.v (.int .i64 v), .v (.bool ok)], []⟩) := by
    have e1 : IntKind.wrap .u64 ((m : Int) / 18446744073709551616) = ((m / 18446744073709551616 : Nat) : Int) := by rw [wrapu64_id (by omega) (by omega)]; simp
    have e2 : IntKind.wrap .u64 (d : Int) = (d : Int) := wrapu64_id (by omega) (by omega)
    have e3 : (m : Int) % 18446744073709551616 = ((m % 18446744073709551616 : Nat) : Int) := by simp
    refine .eq (fun k _ _ => f177_J6_eq k _ _ _ _ _) (.asInt rfl ?_)
    rw [e1, e2, e3]
    refine .cond (fun hg => .ret ⟨0, false, by simp, fun _ => ?_, rfl⟩) (fun hg => .asInt rfl ?_)
    · have hg := dT hg
      have hb := hbig (by omega)
      by_cases h : 0 ≤ w
      · rw [hposq h]; right; omega
      · left
        rw [hnegq (by omega)]
        cases decide (0 < m % d) <;> simp only [cond] <;> omega
    · have hg := dF hg
      rw [e1]
      refine .bR (div64_ev (m / 18446744073709551616) (m % 18446744073709551616) d (by omega) (by omega) (by omega)) ?_
      rintro r rfl
      have em : m / 18446744073709551616 * 18446744073709551616 + m % 18446744073709551616 = m := by omega
      rw [em]
      have hq64 : m / d < 18446744073709551616 := by
        refine (Nat.div_lt_iff_lt_mul (by omega)).2 ?_
        have : (m / 18446744073709551616 + 1) * 18446744073709551616 ≤ d * 18446744073709551616 := Nat.mul_le_mul_right _ (by omega)
        rw [Nat.mul_comm]; omega
      have hwq : (PV.agg [.int .i64 0, .int .u64 ((m / d : Nat) : Int)]) = wideP ((m / d : Nat) : Int) := by
        unfold wideP
        rw [show ((m / d : Nat) : Int) / 18446744073709551616 = 0 by generalize m / d = q at *; omega, show ((m / d : Nat) : Int) % 18446744073709551616 = ((m / d : Nat) : Int) by generalize m / d = q at *; omega]
      have hq128 : W128 ((m / d : Nat) : Int) := by unfold W128; generalize m / d = q at *; omega
      refine .condT rfl (.cond (fun hp => .asInt rfl ?_) (fun hp => .asInt rfl ?_))
      · have hp := dT hp
        rw [hwq]
        refine .bR (narrow_ev _) ?_
        intro r hr
        obtain ⟨v, ok, h1, h2, rfl⟩ := nar (hposq (by omega)).symm hr
        exact .condT rfl (.ret ⟨v, ok, h1, h2, rfl⟩)
      · have hp := dF hp
        have hneg := hnegq (by omega)
        rw [hwq]
        refine .bR (turned_ev _ hq128) ?_
        rintro r rfl
        have j15 : ∀ z : Int, z = w / (d : Int) → Ev3 (fun k _ _ => f177_J15 k (.int .i64 (z / 18446744073709551616)) (.int .u64 (z % 18446744073709551616))) (fun r => ∃ (v : Int) (ok : Bool), (ok = true → v = w / (d : Int)) ∧ (ok = false → w / (d : Int) < -9223372036854775808 ∨ 9223372036854775807 < w / (d : Int)) ∧ r = ⟨[.v (.int .i64 v), .v (.bool ok)], []⟩) := by
          intro z hz
          refine .eq (fun k _ _ => f177_J15_eq k _ _) (.bR (narrow_ev z) ?_)
          intro r hr
          obtain ⟨v, ok, h1, h2, rfl⟩ := nar hz hr
          exact .condT rfl (.ret ⟨v, ok, h1, h2, rfl⟩)
        refine .condT rfl (.condT rfl (.asInt rfl (.cond (fun hs => .bR (of_ev (-1) (by decide) (by decide)) ?_) (fun hs => j15 _ ?_))))
        · have hs := dT hs
          rintro r rfl
          refine .condT rfl (.bR (plus_ev (-((m / d : Nat) : Int)) (-1) (by unfold W128 at *; generalize m / d = q at *; omega) (by unfold W128; decide) (by unfold W128 at *; generalize m / d = q at *; omega)) ?_)
          rintro r rfl
          refine .condT rfl (.condT rfl (j15 _ ?_))
          rw [hneg, show decide (0 < m % d) = true by generalize m % d = s at *; exact decide_eq_true (by omega)]; rfl
        · have hs := dF hs
          rw [hneg, show decide (0 < m % d) = false by generalize m % d = s at *; exact decide_eq_false (by omega)]; rfl
  refine .fn (fun k => f177_eq k _ _ _) (.condF (decide_eq_false (by omega)) (.cond (fun hn => .bR (turned_ev w hw) ?_) (fun hn => ?_)))
  · have hn := dT hn
    rintro r rfl
    have : -w = (m : Int) := by omega
    rw [this]
    exact .condT rfl (.condT rfl j6)
  · have hn := dF hn
    have : w = (m : Int) := by omega
    rw [← this] at j6
    exact j6
def Quo (z : Int) (r : Ret) : Prop := ∃ (v : Int) (ok : Bool), (ok = true → v = z) ∧ (ok = false → z < -9223372036854775808 ∨ 9223372036854775807 < z) ∧ r = ⟨[.v (.int .i64 v), .v (.bool ok)], []⟩
theorem mulFloor_ev (a b c : Int) (ha : -9007199254740992 ≤ a ∧ a ≤ 9007199254740992) (hb : -9007199254740992 ≤ b ∧ b ≤ 9007199254740992) (hc : 1 ≤ c) (hc2 : c ≤ 9223372036854775807) : Ev P an 139 [.v (.int .i64 a), .v (.int .i64 b), .v (.int .i64 c)] (Quo (a * b / c)) := by
  refine .fn (fun k => f139_eq k a b c) (.bR (product_ev a b (by omega) (by omega) (by omega) (by omega)) ?_)
  rintro r rfl
  have hw : W128 (a * b) := by
    have h3 : (a * b).natAbs ≤ 9007199254740992 * 9007199254740992 := by
      rw [Int.natAbs_mul]; exact Nat.mul_le_mul (by omega) (by omega)
    unfold W128; omega
  refine .condT rfl (.bR (floorW_ev (a * b) c hw hc hc2) ?_)
  rintro r ⟨v, ok, h1, h2, rfl⟩
  exact .condT rfl (.ret ⟨v, ok, h1, h2, rfl⟩)
theorem addN_ev (a b : Int) (ha : -9007199254740992 ≤ a ∧ a ≤ 9007199254740992) (hb : -9007199254740992 ≤ b ∧ b ≤ 9007199254740992) : Ev P an 89 [.v (.int .i64 a), .v (.int .i64 b)] (fun r => r = ⟨[.v (.int .i64 (a + b)), .v (.bool true)], []⟩) := by
  refine .fn (fun k => f89_eq k a b) ?_
  rw [wrap64_id (by omega) (by omega)]
  refine .condF ?_ (.ret rfl)
  have : decide (a + b < a) = decide (b < 0) := by rw [decide_eq_decide]; omega
  rw [this]; simp
theorem subN_ev (a b : Int) (ha : -9007199254740992 ≤ a ∧ a ≤ 9007199254740992) (hb : -9007199254740992 ≤ b ∧ b ≤ 9007199254740992) : Ev P an 91 [.v (.int .i64 a), .v (.int .i64 b)] (fun r => r = ⟨[.v (.int .i64 (a - b)), .v (.bool true)], []⟩) := by
  refine .fn (fun k => f91_eq k a b) ?_
  rw [wrap64_id (by omega) (by omega)]
  refine .condF ?_ (.ret rfl)
  have : decide (a - b > a) = decide (b < 0) := by rw [decide_eq_decide]; omega
  rw [this]; simp
theorem floorN_ev (a b : Int) (ha : -9007199254740992 ≤ a ∧ a ≤ 9007199254740992) (hb : -9007199254740992 ≤ b ∧ b ≤ 9007199254740992) (h0 : b ≠ 0) : Ev P an 140 [.v (.int .i64 a), .v (.int .i64 b)] (fun r => r = ⟨[.v (.int .i64 (flI a b)), .v (.bool true)], []⟩) := by
  -- by sizes
  obtain ⟨x, hx⟩ : ∃ x : Nat, a.natAbs = x := ⟨_, rfl⟩
  obtain ⟨y, hy⟩ : ∃ y : Nat, b.natAbs = y := ⟨_, rfl⟩
  have hy0 : 0 < y := by omega
  have hdm := Nat.div_add_mod x y
  have hlt : x % y < y := Nat.mod_lt _ hy0
  have hqx : x / y ≤ x := Nat.div_le_self _ _
  have hmi : (x : Int) = (y : Int) * ((x / y : Nat) : Int) + ((x % y : Nat) : Int) := by
    have := congrArg (fun n : Nat => (n : Int)) hdm
    simpa using this.symm
  -- down
  have hpos : (x : Int) / (y : Int) = ((x / y : Nat) : Int) := by simp
  have hneg : -(x : Int) / (y : Int) = cond (decide (0 < x % y)) (-((x / y : Nat) : Int) - 1) (-((x / y : Nat) : Int)) := by
    generalize x / y = q at *
    generalize x % y = s at *
    by_cases hs : 0 < s
    · simp only [hs, decide_true, cond]
      have e : -(x : Int) = ((y : Int) - (s : Int)) + (y : Int) * (-(q : Int) - 1) := by rw [hmi, Int.mul_sub, Int.mul_neg]; omega
      rw [e, Int.add_mul_ediv_left _ _ (by omega), Int.ediv_eq_zero_of_lt (by omega) (by omega)]; omega
    · simp only [hs, decide_false, cond]
      have e : -(x : Int) = (y : Int) * (-(q : Int)) := by rw [hmi, Int.mul_neg]; omega
      rw [e, Int.mul_ediv_cancel_left _ (by omega)]
  have tn : Int.tdiv (x : Int) (y : Int) = ((x / y : Nat) : Int) := rfl
  have htd : Int.tdiv a b = cond (decide (a < 0) == decide (b < 0)) ((x / y : Nat) : Int) (-((x / y : Nat) : Int)) := by
    by_cases h1 : a < 0 <;> by_cases h2 : b < 0
    · have hc : (decide (a < 0) == decide (b < 0)) = true := by simp [h1, h2]
      rw [hc, show a = -(x : Int) by omega, show b = -(y : Int) by omega, Int.neg_tdiv, Int.tdiv_neg, Int.neg_neg]; exact tn
    · have hc : (decide (a < 0) == decide (b < 0)) = false := by simp [h1, h2]
      rw [hc, show a = -(x : Int) by omega, show b = (y : Int) by omega, Int.neg_tdiv, tn]; rfl
    · have hc : (decide (a < 0) == decide (b < 0)) = false := by simp [h1, h2]
      rw [hc, show a = (x : Int) by omega, show b = -(y : Int) by omega, Int.tdiv_neg, tn]; rfl
    · have hc : (decide (a < 0) == decide (b < 0)) = true := by simp [h1, h2]
      rw [hc, show a = (x : Int) by omega, show b = (y : Int) by omega]; exact tn
  have htm : (Int.tmod a b = 0) ↔ ¬ 0 < x % y := by
    rw [← Int.natAbs_eq_zero, Int.natAbs_tmod, hx, hy]; omega
  have hfl : flI a b = cond (decide (a < 0) == decide (b < 0)) ((x / y : Nat) : Int) (cond (decide (0 < x % y)) (-((x / y : Nat) : Int) - 1) (-((x / y : Nat) : Int))) := by
    unfold flI
    by_cases h1 : a < 0 <;> by_cases h2 : b < 0
    · have hc : (decide (a < 0) == decide (b < 0)) = true := by simp [h1, h2]
      rw [hc, decide_eq_false (by omega : ¬ 0 < b), show -a = (x : Int) by omega, show -b = (y : Int) by omega]; exact hpos
    · have hc : (decide (a < 0) == decide (b < 0)) = false := by simp [h1, h2]
      rw [hc, decide_eq_true (by omega : 0 < b), show a = -(x : Int) by omega, show b = (y : Int) by omega]; exact hneg
    · have hc : (decide (a < 0) == decide (b < 0)) = false := by simp [h1, h2]
      rw [hc, decide_eq_false (by omega : ¬ 0 < b), show -a = -(x : Int) by omega, show -b = (y : Int) by omega]; exact hneg
    · have hc : (decide (a < 0) == decide (b < 0)) = true := by simp [h1, h2]
      rw [hc, decide_eq_true (by omega : 0 < b), show a = (x : Int) by omega, show b = (y : Int) by omega]; exact hpos
  have w1 : IntKind.wrap .i64 (Int.tdiv a b) = Int.tdiv a b := by
    rw [htd]
    clear htd hfl hneg hpos tn hmi hdm htm hlt
    generalize x / y = q at *
    cases (decide (a < 0) == decide (b < 0)) <;> simp only [cond] <;> exact wrap64_id (by omega) (by omega)
  refine .fn (fun k => f140_eq k a b) (.condF (by simpa using h0) (.condF (by simp; omega) (.condF (decide_eq_false h0) (.condF (decide_eq_false h0) ?_))))
  rw [w1]
  refine .cond (fun hm => .cond (fun hs => .ret ?_) (fun hs => .ret ?_)) (fun hm => .ret ?_)
  · have hm : ¬ Int.tmod a b = 0 := by simpa using hm
    have hm2 : 0 < x % y := by
      rcases Nat.eq_zero_or_pos (x % y) with h | h
      · exact absurd (htm.2 (by omega)) hm
      · exact h
    have hs : (decide (a < 0) == decide (b < 0)) = false := by
      cases h : (decide (a < 0) == decide (b < 0)) with
      | false => rfl
      | true => rw [h] at hs; cases hs
    rw [hfl, htd, hs]
    simp only [hm2, decide_true, cond]
    clear htd hfl hneg hpos tn hmi hdm htm hlt hm hm2
    generalize x / y = q at *
    rw [wrap64_id (by omega) (by omega)]
  · have hs : (decide (a < 0) == decide (b < 0)) = true := by
      cases h : (decide (a < 0) == decide (b < 0)) with
      | true => rfl
      | false => rw [h] at hs; cases hs
    rw [hfl, htd, hs]; rfl
  · have hm : Int.tmod a b = 0 := by simpa using hm
    have hm2 := htm.1 hm
    rw [hfl, htd]; simp [hm2]
end Go.Proofs.Sx.Z
