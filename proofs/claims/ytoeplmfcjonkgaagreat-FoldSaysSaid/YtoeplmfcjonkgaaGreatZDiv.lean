/- math/bits: Len64, Div64. -/
import Derived.Test.YtoeplmfcjonkgaaGreatZNum
import Derived.Test.YtoeplmfcjonkgaaGreatDiv64
set_option linter.unusedVariables false
set_option linter.unusedSimpArgs false
namespace Go.Proofs.Sx.Z
open Go Go.Proofs.Dig

def len8 : ByteArray := ⟨#[0, 1, 2, 2, 3, 3, 3, 3, 4, 4, 4, 4, 4, 4, 4, 4, 5, 5, 5, 5, 5, 5, 5, 5, 5, 5, 5, 5, 5, 5, 5, 5, 6, 6, 6, 6, 6, 6, 6, 6, 6, 6, 6, 6, 6, 6, 6, 6, 6, 6, 6, 6, 6, 6, 6, 6, 6, 6, 6, 6, 6, 6, 6, 6, 7, 7, 7, 7, 7, 7, 7, 7, 7, 7, 7, 7, 7, 7, 7, 7, 7, 7, 7, 7, 7, 7, 7, 7, 7, 7, 7, 7, 7, 7, 7, 7, 7, 7, 7, 7, 7, 7, 7, 7, 7, 7, 7, 7, 7, 7, 7, 7, 7, 7, 7, 7, 7, 7, 7, 7, 7, 7, 7, 7, 7, 7, 7, 7, 8, 8, 8, 8, 8, 8, 8, 8, 8, 8, 8, 8, 8, 8, 8, 8, 8, 8, 8, 8, 8, 8, 8, 8, 8, 8, 8, 8, 8, 8, 8, 8, 8, 8, 8, 8, 8, 8, 8, 8, 8, 8, 8, 8, 8, 8, 8, 8, 8, 8, 8, 8, 8, 8, 8, 8, 8, 8, 8, 8, 8, 8, 8, 8, 8, 8, 8, 8, 8, 8, 8, 8, 8, 8, 8, 8, 8, 8, 8, 8, 8, 8, 8, 8, 8, 8, 8, 8, 8, 8, 8, 8, 8, 8, 8, 8, 8, 8, 8, 8, 8, 8, 8, 8, 8, 8, 8, 8, 8, 8, 8, 8, 8, 8, 8, 8, 8, 8, 8, 8, 8, 8, 8, 8, 8, 8, 8, 8]⟩
theorem len8_size : len8.size = 256 := by decide +kernel
def chk (b : Nat) : Bool := decide (0 ≤ byteP len8 b) && decide (byteP len8 b ≤ 8) && (b == 0 || (decide (1 ≤ byteP len8 b) && decide (2 ^ ((byteP len8 b).toNat - 1) ≤ b) && decide (b < 2 ^ (byteP len8 b).toNat)))
theorem chk_all : ∀ b : Fin 256, chk b.val = true := by decide +kernel
theorem tab_of (b : Nat) (h : b < 256) (h1 : 1 ≤ b) : ∃ t : Nat, byteP len8 b = (t : Int) ∧ 1 ≤ t ∧ t ≤ 8 ∧ 2 ^ (t - 1) ≤ b ∧ b < 2 ^ t := by
  have := chk_all ⟨b, h⟩
  simp only [chk, Bool.and_eq_true, Bool.or_eq_true, decide_eq_true_eq, beq_iff_eq] at this
  obtain ⟨⟨h2, h3⟩, h4⟩ := this
  rcases h4 with h4 | ⟨⟨h4, h5⟩, h6⟩
  · exact absurd h4 (by show b ≠ 0; omega)
  · exact ⟨(byteP len8 b).toNat, by omega, by omega, by omega, h5, h6⟩
theorem shift_up {u m t x : Nat} (hx : x = u / 2 ^ m) (ht : 1 ≤ t) (h1 : 2 ^ (t - 1) ≤ x) (h2 : x < 2 ^ t) : 2 ^ (t + m - 1) ≤ u ∧ u < 2 ^ (t + m) := by
  subst hx
  have hp : 0 < 2 ^ m := Nat.pow_pos (by decide)
  constructor
  · rw [show t + m - 1 = (t - 1) + m by omega, Nat.pow_add]
    exact (Nat.le_div_iff_mul_le hp).1 h1
  · rw [Nat.pow_add]
    exact (Nat.div_lt_iff_lt_mul hp).1 h2
def Len (u : Nat) (r : Ret) : Prop := ∃ n : Nat, 1 ≤ n ∧ n ≤ 64 ∧ 2 ^ (n - 1) ≤ u ∧ u < 2 ^ n ∧ r = ⟨[.v (.int .i64 (n : Int))], []⟩
theorem len_J10 (u x m : Nat) (hm : m ≤ 56) (hx : x = u / 2 ^ m) (h1 : 1 ≤ x) (h2 : x < 256) : Ev3 (fun k _ _ => f200_J10 k (x : Int) (m : Int)) (Len u) := by
  refine .eq (fun k _ _ => f200_J10_eq k _ _) ?_
  rw [show IntKind.wrap .u8 (x : Int) = (x : Int) from wrapu8_id (by omega) (by omega)]
  obtain ⟨t, e, t1, t2, t3, t4⟩ := tab_of x h2 h1
  have e' : byteP len8 ((x : Int).toNat) = (t : Int) := by rw [show ((x : Int)).toNat = x by omega]; exact e
  refine .condT (show inB (x : Int) len8.size = true from inB_true (by omega) (by rw [len8_size]; omega)) (.ret ?_)
  obtain ⟨s1, s2⟩ := shift_up hx t1 t3 t4
  refine ⟨t + m, by omega, by omega, s1, s2, ?_⟩
  show (⟨[.v (.int .i64 (IntKind.wrap .i64 ((m : Int) + IntKind.wrap .i64 (byteP len8 ((x : Int).toNat)))))], []⟩ : Ret) = _
  rw [e', wrap64_id (n := (t : Int)) (by omega) (by omega), wrap64_id (by omega) (by omega), show (m : Int) + (t : Int) = ((t + m : Nat) : Int) by omega]
theorem len_J7 (u x m : Nat) (hm : m ≤ 48) (hx : x = u / 2 ^ m) (h1 : 1 ≤ x) (h2 : x < 65536) : Ev3 (fun k _ _ => f200_J7 k (x : Int) (m : Int)) (Len u) := by
  refine .eq (fun k _ _ => f200_J7_eq k _ _) (.cond (fun h => .condF rfl ?_) (fun h => ?_))
  · have h := dT h
    rw [show Int.fdiv (x : Int) (2 ^ (min 8 64)) = ((x / 256 : Nat) : Int) from shr_nat (by decide), wrap64_id (by omega) (by omega), show (m : Int) + 8 = ((m + 8 : Nat) : Int) by omega]
    exact len_J10 u (x / 256) (m + 8) (by omega) (by rw [hx, Nat.div_div_eq_div_mul, ← show (2 : Nat) ^ 8 = 256 by decide, ← Nat.pow_add]) (by omega) (by omega)
  · have h := dF h
    exact len_J10 u x m (by omega) hx h1 (by omega)
theorem len_J4 (u x m : Nat) (hm : m ≤ 32) (hx : x = u / 2 ^ m) (h1 : 1 ≤ x) (h2 : x < 4294967296) : Ev3 (fun k _ _ => f200_J4 k (x : Int) (m : Int)) (Len u) := by
  refine .eq (fun k _ _ => f200_J4_eq k _ _) (.cond (fun h => .condF rfl ?_) (fun h => ?_))
  · have h := dT h
    rw [show Int.fdiv (x : Int) (2 ^ (min 16 64)) = ((x / 65536 : Nat) : Int) from shr_nat (by decide), wrap64_id (by omega) (by omega), show (m : Int) + 16 = ((m + 16 : Nat) : Int) by omega]
    exact len_J7 u (x / 65536) (m + 16) (by omega) (by rw [hx, Nat.div_div_eq_div_mul, ← show (2 : Nat) ^ 16 = 65536 by decide, ← Nat.pow_add]) (by omega) (by omega)
  · have h := dF h
    exact len_J7 u x m (by omega) hx h1 (by omega)
theorem len64_ev (u : Nat) (h1 : 1 ≤ u) (h2 : u < 18446744073709551616) : Ev P an 200 [.v (.int .u64 (u : Int))] (Len u) := by
  refine .fn (fun k => f200_eq k _) (.cond (fun h => .condF rfl ?_) (fun h => ?_))
  · have h := dT h
    rw [shr32]
    exact len_J4 u (u / 4294967296) 32 (by omega) (by rw [show (2 : Nat) ^ 32 = 4294967296 by decide]) (by omega) (by omega)
  · have h := dF h
    exact len_J4 u u 0 (by omega) (by simp) h1 (by omega)
theorem lead_ev (u : Nat) (h1 : 1 ≤ u) (h2 : u < 18446744073709551616) : Ev P an 221 [.v (.int .u64 (u : Int))] (fun r => ∃ s : Nat, s ≤ 63 ∧ 9223372036854775808 ≤ u * 2 ^ s ∧ u * 2 ^ s < 18446744073709551616 ∧ r = ⟨[.v (.int .i64 (s : Int))], []⟩) := by
  refine .fn (fun k => f221_eq k _) (.bR (len64_ev u h1 h2) ?_)
  rintro r ⟨n, a, b, c, d, rfl⟩
  refine .condT rfl (.asInt rfl (.ret ⟨64 - n, by omega, ?_, ?_, ?_⟩))
  · have : 2 ^ (n - 1) * 2 ^ (64 - n) ≤ u * 2 ^ (64 - n) := Nat.mul_le_mul_right _ c
    rw [← Nat.pow_add, show n - 1 + (64 - n) = 63 by omega] at this
    simpa using this
  · have : u * 2 ^ (64 - n) < 2 ^ n * 2 ^ (64 - n) := Nat.mul_lt_mul_of_pos_right d (Nat.pow_pos (by decide))
    rw [← Nat.pow_add, show n + (64 - n) = 64 by omega] at this
    simpa using this
  · rw [wrap64_id (by omega) (by omega), show (64 : Int) - (n : Int) = ((64 - n : Nat) : Int) by omega]

/-- What is known of a digit that may be too great. -/
structure Dg (Y y1 y0 u n q r : Nat) : Prop where
  eY : Y = y1 * 4294967296 + y0
  l0 : y0 < 4294967296
  a1 : 2147483648 ≤ y1
  b1 : y1 < 4294967296
  lu : u < Y
  ln : n < 4294967296
  eqr : q * y1 + r = u
  lr : r < 4294967296
  hQ : (u * 4294967296 + n) / Y ≤ q
theorem Dg.q {Y y1 y0 u n q r : Nat} (h : Dg Y y1 y0 u n q r) : q < 8589934592 := by
  have h1 := h.eqr; have h2 := h.lu; have h3 := h.eY; have h4 := h.l0; have h5 := h.b1; have h6 := h.a1
  have : q * 2147483648 ≤ q * y1 := Nat.mul_le_mul_left _ h6
  omega
theorem Dg.high {Y y1 y0 u n q r : Nat} (h : Dg Y y1 y0 u n q r) (hc : 4294967296 ≤ q ∨ q * y0 > 4294967296 * r + n) : (u * 4294967296 + n) / Y ≤ q - 1 ∧ 1 ≤ q := by
  have hY : 0 < Y := by have := h.eY; have := h.a1; omega
  have hgt : u * 4294967296 + n < q * Y := by
    rcases hc with hc | hc
    · have h1 : 4294967296 * Y ≤ q * Y := Nat.mul_le_mul_right _ hc
      have := h.lu; have := h.ln; omega
    · rw [h.eY]; exact dig_high h.eqr hc
  have := (Nat.div_lt_iff_lt_mul hY).2 hgt
  generalize (u * 4294967296 + n) / Y = z at *
  omega
theorem Dg.low {Y y1 y0 u n q r : Nat} (h : Dg Y y1 y0 u n q r) (hc : q * y0 ≤ 4294967296 * r + n) : q = (u * 4294967296 + n) / Y := by
  have hY : 0 < Y := by have := h.eY; have := h.a1; omega
  have hle : q * Y ≤ u * 4294967296 + n := by rw [h.eY]; exact dig_low h.eqr hc
  have h1 := (Nat.le_div_iff_mul_le hY).2 hle
  have h2 := h.hQ
  exact Nat.le_antisymm h1 h2
/-- One less. -/
theorem Dg.next {Y y1 y0 u n q r : Nat} (h : Dg Y y1 y0 u n q r) (hc : 4294967296 ≤ q ∨ q * y0 > 4294967296 * r + n) (hr : r + y1 < 4294967296) : Dg Y y1 y0 u n (q - 1) (r + y1) := by
  obtain ⟨h1, h2⟩ := h.high hc
  refine ⟨h.eY, h.l0, h.a1, h.b1, h.lu, h.ln, ?_, hr, h1⟩
  have := h.eqr
  have e : q * y1 = (q - 1) * y1 + y1 := by
    conv => lhs; rw [show q = (q - 1) + 1 by omega, Nat.add_mul, Nat.one_mul]
  omega
theorem Dg.last {Y y1 y0 u n q r : Nat} (h : Dg Y y1 y0 u n q r) (hc : 4294967296 ≤ q ∨ q * y0 > 4294967296 * r + n) (hr : 4294967296 ≤ r + y1) : q - 1 = (u * 4294967296 + n) / Y := by
  obtain ⟨h1, h2⟩ := h.high hc
  have hY : 0 < Y := by have := h.eY; have := h.a1; omega
  have e : q * y1 = (q - 1) * y1 + y1 := by
    conv => lhs; rw [show q = (q - 1) + 1 by omega, Nat.add_mul, Nat.one_mul]
  have hqr : (q - 1) * y1 + (r + y1) = u := by have := h.eqr; omega
  have hq : q - 1 < 4294967296 := by
    have h3 : (q - 1) * y1 < 4294967296 * y1 := by
      have := h.lu; have := h.eY; have := h.l0; omega
    exact Nat.lt_of_mul_lt_mul_right h3
  have hm : (q - 1) * y0 ≤ 4294967296 * (r + y1) + n := by
    have h3 : (q - 1) * y0 ≤ 4294967296 * 4294967296 := Nat.mul_le_mul (by omega) (Nat.le_of_lt h.l0)
    have h4 : 4294967296 * 4294967296 ≤ 4294967296 * (r + y1) := Nat.mul_le_mul_left _ hr
    omega
  have hle : (q - 1) * Y ≤ u * 4294967296 + n := by rw [h.eY]; exact dig_low hqr hm
  have := (Nat.le_div_iff_mul_le hY).2 hle
  exact Nat.le_antisymm this h1
theorem Dg.nums {Y y1 y0 u n q r : Nat} (h : Dg Y y1 y0 u n q r) (hq : q < 4294967296) : IntKind.wrap .u64 ((q : Int) * (y0 : Int)) = ((q * y0 : Nat) : Int) ∧ IntKind.wrap .u64 (IntKind.wrap .u64 (4294967296 * (r : Int)) + (n : Int)) = ((4294967296 * r + n : Nat) : Int) := by
  have h1 : q * y0 ≤ 4294967295 * 4294967295 := Nat.mul_le_mul (by omega) (by have := h.l0; omega)
  have := h.lr; have := h.ln
  refine ⟨by rw [mulc]; exact wrapu_nat (by omega), ?_⟩
  rw [wrapu64_id (n := 4294967296 * (r : Int)) (by omega) (by omega), wrapu64_id (by omega) (by omega)]; omega

/-- The first digit. -/
theorem div_L17 {Y s y1 y0 u n n0 : Nat} {Q : Ret → Prop} (fin : Ev3 (fun k _ _ => f205_J21 k (Y : Int) (s : Int) (y1 : Int) (y0 : Int) (u : Int) (n : Int) (n0 : Int) (((u * 4294967296 + n) / Y : Nat) : Int)) Q) :
    ∀ (f : Nat) (q r : Nat), Dg Y y1 y0 u n q r → 4294967296 - r ≤ f * 2147483648 → Ev3 (fun k m0 _ => f205_L17 k m0 (Y : Int) (s : Int) (y1 : Int) (y0 : Int) (u : Int) (n : Int) (n0 : Int) (q : Int) (r : Int)) Q := by
  intro f
  induction f with
  | zero => intro q r h hf; have := h.lr; omega
  | succ f ih =>
    intro q r h hf
    have hr := h.lr; have h1a := h.a1; have h1b := h.b1; have hqb := h.q
    have e1 : IntKind.wrap .u64 ((r : Int) + (y1 : Int)) = ((r + y1 : Nat) : Int) := by rw [addc]; exact wrapu_nat (by omega)
    have dec : 1 ≤ q → IntKind.wrap .u64 ((q : Int) - 1) = ((q - 1 : Nat) : Int) := fun h => by rw [wrapu64_id (by omega) (by omega)]; omega
    have down : (4294967296 ≤ q ∨ q * y0 > 4294967296 * r + n) → Ev3 (fun k m0 _ => cond (decide (IntKind.wrap .u64 ((r : Int) + (y1 : Int)) ≥ 4294967296)) (f205_J21 k (Y : Int) (s : Int) (y1 : Int) (y0 : Int) (u : Int) (n : Int) (n0 : Int) (IntKind.wrap .u64 ((q : Int) - 1))) (f205_L17 k m0 (Y : Int) (s : Int) (y1 : Int) (y0 : Int) (u : Int) (n : Int) (n0 : Int) (IntKind.wrap .u64 ((q : Int) - 1)) (IntKind.wrap .u64 ((r : Int) + (y1 : Int))))) Q := by
      intro hc
      rw [e1, dec (h.high hc).2]
      refine .cond (fun hg => ?_) (fun hg => ?_)
      · have hg := dT hg
        rw [h.last hc (by omega)]; exact fin
      · have hg := dF hg
        exact ih (q - 1) (r + y1) (h.next hc (by omega)) (by omega)
    refine .loop0 (fun k m0 _ => f205_L17_eq k m0 _ _ _ _ _ _ _ _ _) (.cond (fun hq => down (.inl (by have := dT hq; omega))) (fun hq => ?_))
    have hq := dF hq
    obtain ⟨n1, n2⟩ := h.nums (by omega)
    rw [n1, n2]
    refine .cond (fun hg => down (.inr (by have := dT hg; omega))) (fun hg => ?_)
    have hg := dF hg
    rw [← h.low (by omega)] at fin
    exact fin
/-- The second digit. -/
theorem div_L24 {Y s y1 y0 n q1 u : Nat} {Q : Ret → Prop} (fin : Ev3 (fun k _ _ => f205_J28 k (Y : Int) (s : Int) (n : Int) (q1 : Int) (u : Int) (((u * 4294967296 + n) / Y : Nat) : Int)) Q) :
    ∀ (f : Nat) (q r : Nat), Dg Y y1 y0 u n q r → 4294967296 - r ≤ f * 2147483648 → Ev3 (fun k m0 _ => f205_L24 k m0 (Y : Int) (s : Int) (y1 : Int) (y0 : Int) (n : Int) (q1 : Int) (r : Int) (u : Int) (q : Int)) Q := by
  intro f
  induction f with
  | zero => intro q r h hf; have := h.lr; omega
  | succ f ih =>
    intro q r h hf
    have hr := h.lr; have h1a := h.a1; have h1b := h.b1; have hqb := h.q
    have e1 : IntKind.wrap .u64 ((r : Int) + (y1 : Int)) = ((r + y1 : Nat) : Int) := by rw [addc]; exact wrapu_nat (by omega)
    have dec : 1 ≤ q → IntKind.wrap .u64 ((q : Int) - 1) = ((q - 1 : Nat) : Int) := fun h => by rw [wrapu64_id (by omega) (by omega)]; omega
    have down : (4294967296 ≤ q ∨ q * y0 > 4294967296 * r + n) → Ev3 (fun k m0 _ => cond (decide (IntKind.wrap .u64 ((r : Int) + (y1 : Int)) ≥ 4294967296)) (f205_J28 k (Y : Int) (s : Int) (n : Int) (q1 : Int) (u : Int) (IntKind.wrap .u64 ((q : Int) - 1))) (f205_L24 k m0 (Y : Int) (s : Int) (y1 : Int) (y0 : Int) (n : Int) (q1 : Int) (IntKind.wrap .u64 ((r : Int) + (y1 : Int))) (u : Int) (IntKind.wrap .u64 ((q : Int) - 1)))) Q := by
      intro hc
      rw [e1, dec (h.high hc).2]
      refine .cond (fun hg => ?_) (fun hg => ?_)
      · have hg := dT hg
        rw [h.last hc (by omega)]; exact fin
      · have hg := dF hg
        exact ih (q - 1) (r + y1) (h.next hc (by omega)) (by omega)
    refine .loop0 (fun k m0 _ => f205_L24_eq k m0 _ _ _ _ _ _ _ _ _) (.cond (fun hq => down (.inl (by have := dT hq; omega))) (fun hq => ?_))
    have hq := dF hq
    obtain ⟨n1, n2⟩ := h.nums (by omega)
    rw [n1, n2]
    refine .cond (fun hg => down (.inr (by have := dT hg; omega))) (fun hg => ?_)
    have hg := dF hg
    rw [← h.low (by omega)] at fin
    exact fin
/-- A digit to begin with. -/
theorem Dg.first {Y y1 y0 u n : Nat} (hY : Y = y1 * 4294967296 + y0) (h0 : y0 < 4294967296) (h1 : 2147483648 ≤ y1) (h2 : y1 < 4294967296) (hu : u < Y) (hn : n < 4294967296) : Dg Y y1 y0 u n (u / y1) (u % y1) := by
  have hlt : u % y1 < y1 := Nat.mod_lt _ (by omega)
  refine ⟨hY, h0, h1, h2, hu, hn, by rw [Nat.mul_comm]; exact Nat.div_add_mod u y1, by omega, ?_⟩
  refine Nat.le_of_lt_succ ((Nat.div_lt_iff_lt_mul (by omega)).2 ?_)
  have hdm := Nat.div_add_mod u y1
  generalize u / y1 = q at *
  generalize u % y1 = r at *
  -- u < (q + 1) * y1
  have e : (q + 1) * Y = (q + 1) * y1 * 4294967296 + (q + 1) * y0 := by rw [hY, Nat.mul_add, Nat.mul_assoc]
  have e2 : (q + 1) * y1 = y1 * q + y1 := by rw [Nat.add_mul, Nat.one_mul, Nat.mul_comm]
  rw [Nat.succ_eq_add_one, e, e2]
  omega
theorem div_rem {Y u n q1 : Nat} (hY : 0 < Y) (hq : q1 = (u * 4294967296 + n) / Y) : u * 4294967296 + n = q1 * Y + (u * 4294967296 + n) % Y := by
  rw [hq, Nat.mul_comm ((u * 4294967296 + n) / Y) Y]; exact (Nat.div_add_mod _ _).symm
theorem rem_nums {u n q Y : Nat} (hY : 0 < Y) (hY2 : Y < 18446744073709551616) (hq : q = (u * 4294967296 + n) / Y) :
    IntKind.wrap .u64 (IntKind.wrap .u64 (IntKind.wrap .u64 ((u : Int) * 4294967296) + (n : Int)) - IntKind.wrap .u64 ((q : Int) * (Y : Int))) = (((u * 4294967296 + n) % Y : Nat) : Int) := by
  have h := div_rem hY hq
  have hlt := Nat.mod_lt (u * 4294967296 + n) hY
  rw [mulc]
  generalize (u * 4294967296 + n) % Y = R at *
  generalize q * Y = Z at *
  simp only [wrapu_eq]
  omega

theorem glueG (K u l a b z1 u2 z2 R : Nat) (g1 : u * K + a = z1 + u2) (g2 : u2 * K + b = z2 + R) (hl : K * a + b = l) : u * (K * K) + l = z1 * K + z2 + R := by
  have e1 : u * (K * K) + l = (u * K + a) * K + b := by rw [← hl, Nat.add_mul, Nat.mul_assoc, Nat.mul_comm a K, Nat.add_assoc]
  rw [e1, g1, Nat.add_mul, Nat.add_assoc, g2, Nat.add_assoc]
theorem glue {u l u2 R z1 z2 : Nat} (g1 : u * 4294967296 + l / 4294967296 = z1 + u2) (g2 : u2 * 4294967296 + l % 4294967296 = z2 + R) : u * 18446744073709551616 + l = z1 * 4294967296 + z2 + R :=
  glueG 4294967296 u l _ _ z1 u2 z2 R g1 g2 (Nat.div_add_mod l 4294967296)
theorem div64_ev (hi lo y : Nat) (h1 : hi < y) (h2 : lo < 18446744073709551616) (h3 : y < 18446744073709551616) :
    Ev P an 205 [.v (.int .u64 (hi : Int)), .v (.int .u64 (lo : Int)), .v (.int .u64 (y : Int))] (TwoU ((hi * 18446744073709551616 + lo) / y) ((hi * 18446744073709551616 + lo) % y)) := by
  refine .fn (fun k => f205_eq k _ _ _) (.condF (by simp; omega) (.eq (fun k _ _ => f205_J3_eq k _ _ _) (.condF (by simp; omega) (.eq (fun k _ _ => f205_J5_eq k _ _ _) (.cond (fun h => ?_) (fun h => .bR (lead_ev y (by omega) h3) ?_))))))
  · have h := eT h
    have : hi = 0 := by omega
    subst this
    refine .condF (by simp; omega) (.condF (by simp; omega) (.ret ?_))
    have e1 : Int.tdiv (lo : Int) (y : Int) = ((lo / y : Nat) : Int) := rfl
    have e2 : Int.tmod (lo : Int) (y : Int) = ((lo % y : Nat) : Int) := rfl
    rw [e1, e2, wrapu_nat (Nat.lt_of_le_of_lt (Nat.div_le_self _ _) h2)]
    unfold TwoU
    simp
  · rintro r ⟨s, hs, hY1, hY2, rfl⟩
    have ws : IntKind.wrap .u64 (s : Int) = (s : Int) := wrapu_nat (by omega)
    have w64 : IntKind.wrap .u64 (64 - (s : Int)) = ((64 - s : Nat) : Int) := by rw [wrapu64_id (by omega) (by omega)]; omega
    have p2 : ∀ z : Nat, (z : Int) * 2 ^ (min ((s : Int)).toNat 64) = ((z * 2 ^ s : Nat) : Int) := fun z => by
      rw [show min ((s : Int)).toNat 64 = s by omega]; simp
    have pS : 0 < 2 ^ s := Nat.pow_pos (by decide)
    -- the divisor
    generalize hYe : y * 2 ^ s = Y at hY1 hY2
    have hhi : hi * 2 ^ s < Y := by rw [← hYe]; exact Nat.mul_lt_mul_of_pos_right h1 pS
    -- the upper limb
    have hp64 : (2 : Nat) ^ (64 - s) * 2 ^ s = 18446744073709551616 := by rw [← Nat.pow_add, show 64 - s + s = 64 by omega]
    have hlow : lo / 2 ^ (64 - s) < 2 ^ s := by
      refine (Nat.div_lt_iff_lt_mul (Nat.pow_pos (by decide))).2 ?_
      rw [Nat.mul_comm, hp64]; exact h2
    have hdl : lo * 2 ^ s / 18446744073709551616 = lo / 2 ^ (64 - s) := by
      rw [← hp64, Nat.mul_comm (2 ^ (64 - s)), Nat.mul_comm lo, Nat.mul_div_mul_left _ _ pS]
    obtain ⟨u, hu⟩ : ∃ u : Nat, u = hi * 2 ^ s + lo / 2 ^ (64 - s) := ⟨_, rfl⟩
    have huY : u < Y := by
      have : (hi + 1) * 2 ^ s ≤ y * 2 ^ s := Nat.mul_le_mul_right _ h1
      rw [hYe, Nat.add_mul, Nat.one_mul] at this
      omega
    have eu : IntKind.wrap .u64 ((BitVec.ofInt 64 (IntKind.wrap .u64 ((hi : Int) * 2 ^ (min ((s : Int)).toNat 64))) ||| BitVec.ofInt 64 (Int.fdiv (lo : Int) (2 ^ (min (((64 - s : Nat) : Int)).toNat 64)))).toNat : Int) = (u : Int) := by
      have a1 : Int.fdiv (lo : Int) (2 ^ (min (((64 - s : Nat) : Int)).toNat 64)) = ((lo / 2 ^ (64 - s) : Nat) : Int) := by
        rw [show (((64 - s : Nat) : Int)).toNat = 64 - s by omega]; exact shr_nat (by omega)
      rw [p2, wrapu_nat (x := hi * 2 ^ s) (by omega), a1]
      have a2 : (BitVec.ofInt 64 ((hi * 2 ^ s : Nat) : Int) ||| BitVec.ofInt 64 ((lo / 2 ^ (64 - s) : Nat) : Int)).toNat = u := by
        rw [BitVec.toNat_or, BitVec.toNat_ofInt, BitVec.toNat_ofInt]
        have f1 : hi * 2 ^ s < 2 ^ 64 := by omega
        have f2 : lo / 2 ^ (64 - s) < 2 ^ 64 := Nat.lt_of_le_of_lt (Nat.div_le_self _ _) (by omega)
        rw [Int.emod_eq_of_lt (Int.natCast_nonneg _) (Int.ofNat_lt.2 f1), Int.emod_eq_of_lt (Int.natCast_nonneg _) (Int.ofNat_lt.2 f2), Int.toNat_natCast, Int.toNat_natCast]
        rw [hu, Nat.mul_comm hi]
        exact (Nat.two_pow_add_eq_or_of_lt hlow hi).symm
      rw [a2]; exact wrapu_nat (by omega)
    -- the lower limb
    obtain ⟨l, hl⟩ : ∃ l : Nat, l = lo * 2 ^ s % 18446744073709551616 := ⟨_, rfl⟩
    have hlb : l < 18446744073709551616 := by rw [hl]; exact Nat.mod_lt _ (by decide)
    have el : IntKind.wrap .u64 ((lo : Int) * 2 ^ (min ((s : Int)).toNat 64)) = (l : Int) := by rw [p2, wrapu_eq, hl]; simp
    have hN : (hi * 18446744073709551616 + lo) * 2 ^ s = u * 18446744073709551616 + l := by
      have := Nat.div_add_mod (lo * 2 ^ s) 18446744073709551616
      rw [hdl, ← hl] at this
      rw [hu, Nat.add_mul, Nat.add_mul, Nat.mul_right_comm]; omega
    have eY : IntKind.wrap .u64 ((y : Int) * 2 ^ (min ((s : Int)).toNat 64)) = (Y : Int) := by rw [p2, hYe]; exact wrapu_nat hY2
    have y1a : 2147483648 ≤ Y / 4294967296 := by omega
    refine .condT rfl (.asInt rfl ?_)
    rw [ws, w64, eu, el, eY, shr32, shr32, and32 hY2, and32 hlb]
    have d1 := Dg.first (Y := Y) (y1 := Y / 4294967296) (y0 := Y % 4294967296) (u := u) (n := l / 4294967296) (by omega) (by omega) (by omega) (by omega) huY (by omega)
    have et : Int.tdiv (u : Int) ((Y / 4294967296 : Nat) : Int) = ((u / (Y / 4294967296) : Nat) : Int) := rfl
    have hq1 : u / (Y / 4294967296) < 18446744073709551616 := Nat.lt_of_le_of_lt (Nat.div_le_self _ _) (by omega)
    have er : IntKind.wrap .u64 ((u : Int) - IntKind.wrap .u64 (((u / (Y / 4294967296) : Nat) : Int) * ((Y / 4294967296 : Nat) : Int))) = ((u % (Y / 4294967296) : Nat) : Int) := by
      have := d1.eqr
      rw [mulc]
      generalize u / (Y / 4294967296) * (Y / 4294967296) = z at *
      generalize u % (Y / 4294967296) = r at *
      rw [wrapu_nat (by omega), wrapu64_id (by omega) (by omega)]; omega
    rw [et, wrapu_nat hq1, er]
    refine .condF (decide_eq_false (by omega)) (.condF rfl (.condF (decide_eq_false (by omega)) (.condF (decide_eq_false (by omega)) (.condF (decide_eq_false (by omega)) (.condF rfl (.condF (decide_eq_false (by omega)) ?_))))))
    refine (div_L17 (.eq (fun k _ _ => f205_J21_eq k _ _ _ _ _ _ _ _) (.condF (decide_eq_false (by omega)) ?_)) 3 _ _ d1 (by omega)).in0
    obtain ⟨q1, hQ1⟩ : ∃ q1, (u * 4294967296 + l / 4294967296) / Y = q1 := ⟨_, rfl⟩
    obtain ⟨u2, hU⟩ : ∃ u2, (u * 4294967296 + l / 4294967296) % Y = u2 := ⟨_, rfl⟩
    have hR1 := rem_nums (u := u) (n := l / 4294967296) (Y := Y) (by omega) hY2 hQ1.symm
    rw [hU] at hR1
    rw [hQ1, hR1]
    have hu2 : u2 < Y := by rw [← hU]; exact Nat.mod_lt _ (by omega)
    have d2 := Dg.first (Y := Y) (y1 := Y / 4294967296) (y0 := Y % 4294967296) (u := u2) (n := l % 4294967296) (by omega) (by omega) (by omega) (by omega) hu2 (by omega)
    have et2 : Int.tdiv (u2 : Int) ((Y / 4294967296 : Nat) : Int) = ((u2 / (Y / 4294967296) : Nat) : Int) := rfl
    have hq2 : u2 / (Y / 4294967296) < 18446744073709551616 := Nat.lt_of_le_of_lt (Nat.div_le_self _ _) (by omega)
    have er2 : IntKind.wrap .u64 ((u2 : Int) - IntKind.wrap .u64 (((u2 / (Y / 4294967296) : Nat) : Int) * ((Y / 4294967296 : Nat) : Int))) = ((u2 % (Y / 4294967296) : Nat) : Int) := by
      have := d2.eqr
      rw [mulc]
      generalize u2 / (Y / 4294967296) * (Y / 4294967296) = z at *
      generalize u2 % (Y / 4294967296) = r at *
      rw [wrapu_nat (by omega), wrapu64_id (by omega) (by omega)]; omega
    rw [et2, wrapu_nat hq2, er2]
    refine (div_L24 (.eq (fun k _ _ => f205_J28_eq k _ _ _ _ _ _) (.condF (decide_eq_false (by omega)) (.ret ?_))) 3 _ _ d2 (by omega)).in0
    obtain ⟨q2, hQ2⟩ : ∃ q2, (u2 * 4294967296 + l % 4294967296) / Y = q2 := ⟨_, rfl⟩
    obtain ⟨R, hU2⟩ : ∃ R, (u2 * 4294967296 + l % 4294967296) % Y = R := ⟨_, rfl⟩
    have hR2 := rem_nums (u := u2) (n := l % 4294967296) (Y := Y) (by omega) hY2 hQ2.symm
    rw [hU2] at hR2
    rw [hQ2, hR2]
    have hRY : R < Y := by rw [← hU2]; exact Nat.mod_lt _ (by omega)
    have g1 := div_rem (by omega : 0 < Y) hQ1.symm
    have g2 := div_rem (by omega : 0 < Y) hQ2.symm
    rw [hU] at g1; rw [hU2] at g2
    have hs1 : u + 1 ≤ Y := huY
    have hs2 : u2 + 1 ≤ Y := hu2
    have b1 : q1 < 4294967296 := by rw [← hQ1]; exact (Nat.div_lt_iff_lt_mul (by omega)).2 (by omega)
    have b2 : q2 < 4294967296 := by rw [← hQ2]; exact (Nat.div_lt_iff_lt_mul (by omega)).2 (by omega)
    -- all together
    have hall : (hi * 18446744073709551616 + lo) * 2 ^ s = (q1 * 4294967296 + q2) * Y + R := by
      rw [hN]
      have : (q1 * 4294967296 + q2) * Y = q1 * Y * 4294967296 + q2 * Y := by rw [Nat.add_mul, Nat.mul_right_comm]
      rw [this]
      exact glue g1 g2
    have hdiv : (hi * 18446744073709551616 + lo) / y = q1 * 4294967296 + q2 := by
      rw [← Nat.mul_div_mul_right _ _ pS, hall, hYe, Nat.mul_comm _ Y, Nat.mul_add_div (by omega), Nat.div_eq_of_lt hRY, Nat.add_zero]
    have hmod : (hi * 18446744073709551616 + lo) % y * 2 ^ s = R := by
      rw [← Nat.mul_mod_mul_right, hall, hYe, Nat.mul_comm _ Y, Nat.mul_add_mod, Nat.mod_eq_of_lt hRY]
    have hmod2 : R / 2 ^ s = (hi * 18446744073709551616 + lo) % y := by rw [← hmod, Nat.mul_div_cancel _ pS]
    have c1 : IntKind.wrap .u64 (IntKind.wrap .u64 ((q1 : Int) * 4294967296) + (q2 : Int)) = ((q1 * 4294967296 + q2 : Nat) : Int) := by
      rw [wrapu64_id (n := (q1 : Int) * 4294967296) (by omega) (by omega), wrapu64_id (by omega) (by omega)]; omega
    have c2 : Int.fdiv (R : Int) (2 ^ (min ((s : Int)).toNat 64)) = ((R / 2 ^ s : Nat) : Int) := by
      rw [show ((s : Int)).toNat = s by omega]; exact shr_nat (by omega)
    rw [c1, c2, hmod2, hdiv]; rfl
end Go.Proofs.Sx.Z
