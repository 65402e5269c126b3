/- Numbers by digits: quotients, bit by bit. -/
import Derived.Test.YtoeplmfcjonkgaaGreatZBig3
set_option linter.unusedVariables false
set_option linter.unusedSimpArgs false
set_option linter.unusedSectionVars false
namespace Go.Proofs.Sx.Z
open Go Go.Proofs.Dig

/-- Divided, down. -/
def flI (x y : Int) : Int := cond (decide (0 < y)) (x / y) (-x / -y)

theorem digit_of {a : List Nat} (ha : ok a) (j : Nat) : val a / 65536 ^ j % 65536 = a.getD j 0 := by
  by_cases hj : j < a.length
  · have h1 := val_split a j
    have h2 := val_lt (ok_take ha j)
    rw [List.length_take, Nat.min_eq_left (by omega)] at h2
    rw [Nat.min_eq_left (by omega)] at h1
    rw [h1, Nat.add_mul_div_left _ _ (Nat.pow_pos (by decide)), Nat.div_eq_of_lt h2, Nat.zero_add, List.drop_eq_getElem_cons hj]
    have := ha _ (List.getElem_mem hj)
    simp only [val, List.getD_eq_getElem?_getD, List.getElem?_eq_getElem hj, Option.getD_some]
    omega
  · have h1 := val_lt ha
    have h2 : 65536 ^ a.length ≤ 65536 ^ j := Nat.pow_le_pow_right (by decide) (by omega)
    rw [Nat.div_eq_of_lt (by omega), List.getD_eq_getElem?_getD, List.getElem?_eq_none (by omega)]; rfl
/-- A bit of a number is a bit of its digit. -/
theorem bit_of {a : List Nat} (ha : ok a) {i j t : Nat} (hi : i = 16 * j + t) (ht : t < 16) : val a / 2 ^ i % 2 = a.getD j 0 / 2 ^ t % 2 := by
  have e : (2 : Nat) ^ i = 65536 ^ j * 2 ^ t := by rw [hi, Nat.pow_add, Nat.pow_mul]
  rw [e, ← Nat.div_div_eq_div_mul, ← digit_of ha j]
  generalize val a / 65536 ^ j = z
  have hz : z = z % 65536 + 65536 * (z / 65536) := by omega
  have h16 : (65536 : Nat) = 2 ^ t * 2 ^ (16 - t) := by rw [← Nat.pow_add, show t + (16 - t) = 16 by omega]
  have h2 : (2 : Nat) ^ (16 - t) = 2 * 2 ^ (15 - t) := by rw [show 16 - t = 15 - t + 1 by omega, Nat.pow_succ]; omega
  have e3 : 65536 * (z / 65536) = 2 ^ t * (2 * (2 ^ (15 - t) * (z / 65536))) := by
    rw [← Nat.mul_assoc 2, ← h2, ← Nat.mul_assoc, ← h16]
  have e4 : z / 2 ^ t = z % 65536 / 2 ^ t + 2 * (2 ^ (15 - t) * (z / 65536)) := by
    conv => lhs; rw [hz, e3]
    rw [Nat.add_mul_div_left _ _ (Nat.pow_pos (by decide))]
  rw [e4]; omega
/-- A bit is put into a digit where there is nothing below it. -/
theorem setbit {q : List Nat} (hq : ok q) {i j t M : Nat} (hi : i = 16 * j + t) (ht : t < 16) (hv : val q = M * 2 ^ (i + 1)) : q.getD j 0 ||| 2 ^ t = q.getD j 0 + 2 ^ t ∧ q.getD j 0 + 2 ^ t < 65536 := by
  have hm : ∃ m, q.getD j 0 = 2 ^ (t + 1) * m := by
    rw [← digit_of hq j, hv, hi]
    have e : M * 2 ^ (16 * j + t + 1) / 65536 ^ j = M * 2 ^ (t + 1) := by
      rw [show 16 * j + t + 1 = 16 * j + (t + 1) from rfl, Nat.pow_add, Nat.pow_mul, show (2 : Nat) ^ 16 = 65536 by decide, ← Nat.mul_assoc, Nat.mul_comm M, Nat.mul_assoc, Nat.mul_div_cancel_left _ (Nat.pow_pos (by decide))]
    rw [e]
    have h16 : (65536 : Nat) = 2 ^ (t + 1) * 2 ^ (15 - t) := by rw [← Nat.pow_add, show t + 1 + (15 - t) = 16 by omega]
    refine ⟨M % 2 ^ (15 - t), ?_⟩
    rw [h16, Nat.mul_comm M, Nat.mul_mod_mul_left]
  obtain ⟨m, hm⟩ := hm
  have hlt : 2 ^ t < 2 ^ (t + 1) := Nat.pow_lt_pow_right (by decide) (by omega)
  have hd := ok_getD hq j
  refine ⟨by rw [hm]; exact (Nat.two_pow_add_eq_or_of_lt hlt m).symm, ?_⟩
  have h16 : (65536 : Nat) = 2 ^ (t + 1) * 2 ^ (15 - t) := by rw [← Nat.pow_add, show t + 1 + (15 - t) = 16 by omega]
  rw [hm] at hd ⊢
  have h1 : 2 ^ (t + 1) * m < 2 ^ (t + 1) * 2 ^ (15 - t) := by rw [← h16]; exact hd
  have h2 : m < 2 ^ (15 - t) := Nat.lt_of_mul_lt_mul_left h1
  have h3 : 2 ^ (t + 1) * (m + 1) ≤ 2 ^ (t + 1) * 2 ^ (15 - t) := Nat.mul_le_mul_left _ h2
  rw [← h16, Nat.mul_add] at h3
  omega

theorem tdiv16 {i : Nat} (h : i ≤ 1000000) : IntKind.wrap .i64 (Int.tdiv (i : Int) 16) = ((i / 16 : Nat) : Int) := by
  rw [show Int.tdiv (i : Int) 16 = ((i / 16 : Nat) : Int) from rfl]; exact wrap64_id (by omega) (by omega)
theorem tmod16 {i : Nat} : IntKind.wrap .u64 (Int.tmod (i : Int) 16) = ((i % 16 : Nat) : Int) := by
  rw [show Int.tmod (i : Int) 16 = ((i % 16 : Nat) : Int) from rfl]; exact wrapu64_id (by omega) (by omega)
theorem bit_nums {n t : Nat} (hn : n < 65536) (ht : t < 16) : ((IntKind.wrap .u64 (BitVec.ofInt 64 (Int.fdiv (n : Int) (2 ^ (min ((t : Int)).toNat 64))) &&& BitVec.ofInt 64 1).toNat : Int) == 1) = decide (n / 2 ^ t % 2 = 1) := by
  have e1 : Int.fdiv (n : Int) (2 ^ (min ((t : Int)).toNat 64)) = ((n / 2 ^ t : Nat) : Int) := by
    rw [show min ((t : Int)).toNat 64 = t by omega, Int.fdiv_eq_ediv_of_nonneg _ (Int.le_of_lt (Int.pow_pos (by decide)))]
    simp
  have hlt : n / 2 ^ t < 65536 := Nat.lt_of_le_of_lt (Nat.div_le_self _ _) hn
  rw [e1]
  have e2 : (BitVec.ofInt 64 ((n / 2 ^ t : Nat) : Int) &&& BitVec.ofInt 64 1).toNat = n / 2 ^ t % 2 := by
    generalize n / 2 ^ t = z at hlt
    rw [BitVec.toNat_and, BitVec.toNat_ofInt, BitVec.toNat_ofInt, Int.emod_eq_of_lt (by omega) (by simp; omega)]
    rw [show ((1 : Int) % ((2 ^ 64 : Nat) : Int)).toNat = 2 ^ 1 - 1 by decide, Nat.and_two_pow_sub_one_eq_mod, show ((z : Int)).toNat = z by omega]
  rw [e2, wrapu64_id (by omega) (by omega)]
  rcases (by omega : n / 2 ^ t % 2 = 0 ∨ n / 2 ^ t % 2 = 1) with h | h <;> rw [h] <;> decide
theorem or_nums {n t : Nat} (hn : n < 65536) (ht : t < 16) : IntKind.wrap .u64 ((BitVec.ofInt 64 (n : Int) ||| BitVec.ofInt 64 (IntKind.wrap .u64 (1 * 2 ^ (min ((t : Int)).toNat 64)))).toNat : Int) = ((n ||| 2 ^ t : Nat) : Int) := by
  have hp : (2 : Nat) ^ t ≤ 2 ^ 15 := Nat.pow_le_pow_right (by decide) (by omega)
  have e1 : (1 : Int) * 2 ^ (min ((t : Int)).toNat 64) = ((2 ^ t : Nat) : Int) := by
    rw [show min ((t : Int)).toNat 64 = t by omega]; simp
  have hor : n ||| 2 ^ t < 2 ^ 16 := Nat.or_lt_two_pow (by omega) (by omega)
  rw [e1]
  clear e1
  generalize (2 : Nat) ^ t = z at hp hor ⊢
  rw [wrapu64_id (n := (z : Int)) (by omega) (by omega)]
  have e2 : (BitVec.ofInt 64 (n : Int) ||| BitVec.ofInt 64 (z : Int)).toNat = n ||| z := by
    rw [BitVec.toNat_or, BitVec.toNat_ofInt, BitVec.toNat_ofInt, Int.emod_eq_of_lt (by omega) (by simp; omega), Int.emod_eq_of_lt (by omega) (by simp; omega)]
    rw [show ((n : Int)).toNat = n by omega, show ((z : Int)).toNat = z by omega]
  rw [e2]
  exact wrapu64_id (by omega) (by omega)

theorem RB.pos {v : Int} {L : Nat} {r : Ret} (h : RB v L r) (h0 : 0 ≤ v) : ∃ d : List Nat, ok d ∧ norm d ∧ d.length ≤ L ∧ (val d : Int) = v ∧ r = ⟨[.v (bigP false d)], []⟩ := by
  obtain ⟨s, ⟨neg, d, h1, h2, h3, h4, h5, rfl⟩, rfl⟩ := h
  cases neg with
  | false => exact ⟨d, h1, h2, h4, h5, rfl⟩
  | true =>
    have : val d = 0 := by unfold bval at h5; simp at h5; omega
    have hd := (val_zero h2).1 this
    exact absurd (h3 hd) (by decide)
theorem bg_nat {d : List Nat} {L : Nat} (h1 : ok d) (h2 : norm d) (h3 : d.length ≤ L) : Bg (val d) L (bigP false d) := ⟨false, d, h1, h2, fun _ => rfl, h3, rfl, rfl⟩

section
variable {na nb : Bool} {a b : List Nat} (ha : ok a) (hb : ok b) (hna : norm a) (hnb : norm b) (hB : 0 < val b) {L : Nat} (hLa : a.length ≤ L) (hLb : b.length ≤ L) (hL : L ≤ 300)
include ha hb hna hnb hB hLa hLb hL
/-- Behind the bits: the sign, and what is left. -/
theorem floor_J14 (q r : List Nat) (hq : ok q) (hql : q.length ≤ L) (hr : ok r) (hrn : norm r) (h1 : val q = val a / val b) (h2 : val r = val a % val b) :
    Ev3 (fun k _ _ => f103_J14 k na (digs a) nb (digs b) false (.bool false) (.list 185 (digs r)) (digs q) []) (RB (flI (bval na a) (bval nb b)) (L + 1)) := by
  have hB' : (0 : Int) < (val b : Int) := by omega
  have key : flI (bval na a) (bval nb b) = cond (!(na == nb)) (cond (decide (val r = 0)) (-((val q : Nat) : Int)) (-((val q : Nat) : Int) + -1)) (val q) := by
    have hneg : -((val a : Nat) : Int) / (val b : Int) = cond (decide (val r = 0)) (-((val q : Nat) : Int)) (-((val q : Nat) : Int) + -1) := by
      have hm := Nat.div_add_mod (val a) (val b)
      rw [← h1, ← h2] at hm
      have hlt : val r < val b := by rw [h2]; exact Nat.mod_lt _ hB
      have hmi : (val a : Int) = (val b : Int) * (val q : Int) + (val r : Int) := by
        have := congrArg (fun n : Nat => (n : Int)) hm
        simpa using this.symm
      by_cases h0 : val r = 0
      · simp only [h0, decide_true, cond]
        rw [hmi, h0]
        have : -((val b : Int) * (val q : Int) + ((0 : Nat) : Int)) = (val b : Int) * (-(val q : Int)) := by simp [Int.mul_neg]
        rw [this, Int.mul_ediv_cancel_left _ (by omega)]
      · simp only [h0, decide_false, cond]
        have e : -(val a : Int) = ((val b : Int) - (val r : Int)) + (val b : Int) * (-(val q : Int) + -1) := by
          rw [hmi, Int.mul_add, Int.mul_neg]; omega
        rw [e, Int.add_mul_ediv_left _ _ (by omega), Int.ediv_eq_zero_of_lt (by omega) (by omega)]; omega
    have hpos : ((val a : Nat) : Int) / (val b : Int) = ((val q : Nat) : Int) := by rw [h1]; simp
    unfold flI bval
    have hn : ¬ ((val b : Int) < 0) := by omega
    cases na <;> cases nb <;> simp [hB, hneg, hpos, hn]
  refine .eq (fun k _ _ => f103_J14_eq k _ _ _ _ _ _ _ _ _) (.bR (trim_ev (!(na == nb)) q hq (by omega)) ?_)
  intro r0 hr0
  obtain ⟨n1, d1, hr1, rfl⟩ := hr0.eta
  obtain ⟨n3, d3, g1, g2, g3, g4, g5, g6⟩ := hr1.big
  have hbg : Bg (bval (!(na == nb)) q) (L + 1 - 1) (bigP n1 d1) := ⟨n3, d3, g1, g2, g3, by omega, g5, g6⟩
  refine .condT rfl (.condT rfl (.cond (fun hs => .asList rfl ?_) (fun hs => .ret ?_)))
  · rw [digs_length]
    refine .cond (fun hrl => .bR (Of_ev _ (by decide) (by decide)) ?_) (fun hrl => .ret ?_)
    · have hrl := dT hrl
      have hr0 : ¬ val r = 0 := fun h => by have := (val_zero hrn).1 h; subst this; simp at hrl
      intro r2 hr2
      obtain ⟨n2, d2, hr2, rfl⟩ := hr2.eta
      have up : Bg (-1) (L + 4) (bigP n2 d2) := by obtain ⟨a, b, c, d, e, f, g, h⟩ := hr2.big; exact ⟨a, b, c, d, e, by omega, g, h⟩
      have up2 : Bg (bval (!(na == nb)) q) (L + 4) (bigP n1 d1) := by obtain ⟨a, b, c, d, e, f, g, h⟩ := hbg; exact ⟨a, b, c, d, e, by omega, g, h⟩
      refine .condT rfl (.bR (Add_ev up2 up (by omega)) ?_)
      intro r3 hr3
      have hvq := val_lt hq
      have hq2 : 65536 ^ q.length ≤ 65536 ^ L := Nat.pow_le_pow_right (by decide) hql
      have hq3 : (65536 : Nat) ^ (L + 1) = 65536 ^ L * 65536 := Nat.pow_succ _ _
      have hpp : 0 < (65536 : Nat) ^ L := Nat.pow_pos (by decide)
      have hr4 := hr3.less (L' := L + 1) (by rw [hs]; unfold bval; simp only [cond]; omega)
      have hval : bval (!(na == nb)) q + -1 = flI (bval na a) (bval nb b) := by rw [key, hs]; simp [hr0, bval]
      rw [hval] at hr4
      obtain ⟨n4, d4, hr4, rfl⟩ := hr4.eta
      exact .condT rfl (.condT rfl (.ret hr4))
    · have hrl := dF hrl
      have : r = [] := List.length_eq_zero_iff.1 (by omega)
      subst this
      refine ⟨_, ⟨n3, d3, g1, g2, g3, by omega, ?_, g6⟩, rfl⟩
      rw [g5, key, hs]; simp [bval, val]
  · refine ⟨_, ⟨n3, d3, g1, g2, g3, by omega, ?_, g6⟩, rfl⟩
    rw [g5, key, hs]; simp [bval]

theorem floor_L4 : ∀ (f : Nat) (n : Nat) (q r : List Nat), n ≤ f → n ≤ 16 * a.length → ok q → (q.length = a.length ∨ (q = [] ∧ n = 16 * a.length)) → ok r → norm r → r.length ≤ L + 1 → val q = val a / 2 ^ n / val b * 2 ^ n → val r = val a / 2 ^ n % val b →
    Ev3 (fun k m0 _ => f103_L4 k m0 ((n : Int) - 1) na (digs a) nb (digs b) false (.bool false) (.list 185 (digs r)) (digs q) []) (RB (flI (bval na a) (bval nb b)) (L + 1)) := by
  intro f
  have fin : ∀ (q r : List Nat), ok q → q.length ≤ a.length → ok r → norm r → val q = val a / 2 ^ 0 / val b * 2 ^ 0 → val r = val a / 2 ^ 0 % val b →
      Ev3 (fun k _ _ => f103_J14 k na (digs a) nb (digs b) false (.bool false) (.list 185 (digs r)) (digs q) []) (RB (flI (bval na a) (bval nb b)) (L + 1)) := by
    intro q r hq hql hr hrn h1 h2
    exact floor_J14 ha hb hna hnb hB hLa hLb hL q r hq (by omega) hr hrn (by simpa using h1) (by simpa using h2)
  have qlen : ∀ {q : List Nat} {n : Nat}, (q.length = a.length ∨ (q = [] ∧ n = 16 * a.length)) → q.length ≤ a.length := by
    intro q n h
    rcases h with h | ⟨rfl, _⟩
    · omega
    · simp
  induction f with
  | zero =>
    intro n q r hn hn2 hq hql hr hrn hrl h1 h2
    have : n = 0 := by omega
    subst this
    exact .loop0 (fun k m0 _ => f103_L4_eq k m0 _ _ _ _ _ _ _ _ _ _) (.condF (by simp) (fin q r hq (qlen hql) hr hrn h1 h2))
  | succ f ih =>
    intro n q r hn hn2 hq hql hr hrn hrl h1 h2
    refine .loop0 (fun k m0 _ => f103_L4_eq k m0 _ _ _ _ _ _ _ _ _ _) (.cond (fun h => ?_) (fun h => ?_))
    · have h := dT h
      obtain ⟨i, rfl⟩ : ∃ i, n = i + 1 := ⟨n - 1, by omega⟩
      have hi : ((i + 1 : Nat) : Int) - 1 = (i : Int) := by omega
      rw [hi, tdiv16 (by omega), tmod16]
      have hj : i / 16 < a.length := by omega
      have ht : i % 16 < 16 := Nat.mod_lt _ (by decide)
      have hij : i = 16 * (i / 16) + i % 16 := by omega
      -- what the bit makes of the rest
      have hA : val a / 2 ^ i = 2 * (val a / 2 ^ (i + 1)) + val a / 2 ^ i % 2 := by
        rw [Nat.pow_succ, ← Nat.div_div_eq_div_mul]; omega
      have hrb : val r < val b := by rw [h2]; exact Nat.mod_lt _ hB
      have hbL : val b < 65536 ^ L := Nat.lt_of_lt_of_le (val_lt hb) (Nat.pow_le_pow_right (by decide) hLb)
      have hpow : (65536 : Nat) ^ (L + 1) = 65536 ^ L * 65536 := Nat.pow_succ _ _
      -- the digit
      have hga : (digs a).getD ((i / 16 : Nat) : Int).toNat default = .int .u64 ((a.getD (i / 16) 0 : Nat) : Int) := by
        have := digs_get (d := a) (i := ((i / 16 : Nat) : Int)) (by omega) (by omega)
        rwa [show (((i / 16 : Nat) : Int)).toNat = i / 16 by omega] at this ⊢
      have ga := getD_lt ha (i / 16)
      -- q gets its noughts, then the rest is compared
      have j9 : ∀ r2 : List Nat, ok r2 → norm r2 → r2.length ≤ L + 1 → val r2 = 2 * val r + val a / 2 ^ i % 2 →
          Ev3 (fun k m0 _ => f103_J9 k m0 (i : Int) na (digs a) nb (digs b) false (.bool false) (.list 185 (digs r2)) (digs q) []) (RB (flI (bval na a) (bval nb b)) (L + 1)) := by
        intro r2 ho2 hn2' hl2 hv2
        have hmod : val a / 2 ^ i % val b = if val b ≤ val r2 then val r2 - val b else val r2 := by
          rw [hA, hv2]
          have hdm := Nat.div_add_mod (val a / 2 ^ (i + 1)) (val b)
          rw [← h2] at hdm
          generalize hz : val a / 2 ^ (i + 1) / val b = z at hdm
          have e : 2 * (val a / 2 ^ (i + 1)) + val a / 2 ^ i % 2 = val b * (2 * z) + (2 * val r + val a / 2 ^ i % 2) := by
            rw [← hdm, Nat.mul_add, ← Nat.mul_assoc, Nat.mul_comm 2 (val b), Nat.mul_assoc]; omega
          rw [e, Nat.mul_add_mod]
          split
          · rw [Nat.mod_eq_sub_mod (by omega), Nat.mod_eq_of_lt (by omega)]
          · rw [Nat.mod_eq_of_lt (by omega)]
        have hdiv : val a / 2 ^ i / val b = 2 * (val a / 2 ^ (i + 1) / val b) + (if val b ≤ val r2 then 1 else 0) := by
          rw [hA, hv2]
          have hdm := Nat.div_add_mod (val a / 2 ^ (i + 1)) (val b)
          rw [← h2] at hdm
          generalize hz : val a / 2 ^ (i + 1) / val b = z at hdm
          have e : 2 * (val a / 2 ^ (i + 1)) + val a / 2 ^ i % 2 = (2 * val r + val a / 2 ^ i % 2) + val b * (2 * z) := by
            rw [← hdm, Nat.mul_add, ← Nat.mul_assoc, Nat.mul_comm 2 (val b), Nat.mul_assoc]; omega
          rw [e, Nat.add_mul_div_left _ _ hB]
          split
          · have : (2 * val r + val a / 2 ^ i % 2) / val b = 1 := by
              rw [Nat.div_eq_sub_div hB (by omega), Nat.div_eq_of_lt (by omega)]
            omega
          · rw [Nat.div_eq_of_lt (by omega)]; omega
        have hp2 : (2 : Nat) ^ (i + 1) = 2 ^ i * 2 := Nat.pow_succ _ _
        refine .eq (fun k m0 _ => f103_J9_eq k m0 _ _ _ _ _ _ _ _ _ _) ?_
        -- with as many noughts as there must be
        have j11 : ∀ q2 : List Nat, ok q2 → q2.length = a.length → val q2 = val a / 2 ^ (i + 1) / val b * 2 ^ (i + 1) →
            Ev3 (fun k m0 _ => f103_J11 k m0 (i : Int) na (digs a) nb (digs b) false (.bool false) (.list 185 (digs r2)) (digs q2) []) (RB (flI (bval na a) (bval nb b)) (L + 1)) := by
          intro q2 hq2 hql2 hqv2
          refine .eq (fun k m0 _ => f103_J11_eq k m0 _ _ _ _ _ _ _ _ _ _) (.bR (less_ev r2 b ho2 hb hn2' hnb (by omega)) ?_)
          rintro x rfl
          refine .condT rfl (.asBool rfl (.cond (fun hge => .bR (Add_ev (L := L + 1) (bg_nat ho2 hn2' hl2) (y := -(val b : Int)) (q := bigP true b) ⟨true, b, hb, hnb, fun h => by subst h; simp [val] at hB, by omega, rfl, rfl⟩ (by omega)) ?_) (fun hge => ?_)))
          · have hge : val b ≤ val r2 := by have : ¬ val r2 < val b := by simpa using hge
                                            omega
            intro x hx
            have hx := hx.less (L' := L + 1) (by omega)
            obtain ⟨r3, g1, g2, g3, g4, rfl⟩ := hx.pos (by omega)
            have hgq : (digs q2).getD ((i / 16 : Nat) : Int).toNat default = .int .u64 ((q2.getD (i / 16) 0 : Nat) : Int) := by
              have := digs_get (d := q2) (i := ((i / 16 : Nat) : Int)) (by omega) (by omega)
              rwa [show (((i / 16 : Nat) : Int)).toNat = i / 16 by omega] at this ⊢
            have gq := getD_lt hq2 (i / 16)
            obtain ⟨sb1, sb2⟩ := setbit hq2 hij ht hqv2
            rw [tdiv16 (by omega), tmod16, hgq]
            refine .condT rfl (.condT rfl (.condT (digs_inB (by omega) (by omega)) (.condF (by simp; omega) (.asInt rfl (.condT (digs_inB (by omega) (by omega)) ?_)))))
            rw [or_nums gq ht, sb1, show (((i / 16 : Nat) : Int)).toNat = i / 16 by omega, digs_set, wrap64_id (by omega) (by omega)]
            refine ih i _ r3 (by omega) (by omega) (ok_set hq2 sb2) (.inl (by simp; omega)) g1 g2 g3 ?_ ?_
            · have hvs := val_set (d := q2) (i := i / 16) (x := q2.getD (i / 16) 0 + 2 ^ (i % 16)) (by omega)
              have hpi : (2 : Nat) ^ i = 65536 ^ (i / 16) * 2 ^ (i % 16) := by
                conv => lhs; rw [hij, Nat.pow_add, Nat.pow_mul]
              rw [Nat.mul_add, ← hpi] at hvs
              rw [hdiv, if_pos hge, Nat.add_mul, Nat.mul_comm 2, Nat.mul_assoc, Nat.mul_comm 2 (2 ^ i), ← hp2, ← hqv2]
              omega
            · rw [hmod, if_pos hge]; omega
          · have hge : ¬ val b ≤ val r2 := by have : val r2 < val b := by simpa using hge
                                              omega
            rw [wrap64_id (by omega) (by omega)]
            refine ih i q2 r2 (by omega) (by omega) hq2 (.inl hql2) ho2 hn2' hl2 ?_ ?_
            · rw [hdiv, if_neg hge, Nat.add_zero, Nat.mul_comm 2, Nat.mul_assoc, Nat.mul_comm 2 (2 ^ i), ← hp2, ← hqv2]
            · rw [hmod, if_neg hge]
        have l9 : ∀ (g : Nat) (q2 : List Nat), ok q2 → q2.length ≤ a.length → a.length - q2.length ≤ g → (q2.length = a.length ∨ i / 16 + 1 = a.length) → val q2 = val a / 2 ^ (i + 1) / val b * 2 ^ (i + 1) →
            Ev3 (fun k m0 m1 => f103_L9 k m0 m1 (i : Int) na (digs a) nb (digs b) false (.bool false) (.list 185 (digs r2)) (digs q2) []) (RB (flI (bval na a) (bval nb b)) (L + 1)) := by
          intro g
          induction g with
          | zero =>
            intro q2 hq2 hl1 hg hc hv
            refine .loop1 (fun k m0 m1 => f103_L9_eq k m0 m1 _ _ _ _ _ _ _ _ _ _) (.condF ?_ (j11 q2 hq2 (by omega) hv))
            rw [tdiv16 (by omega), digs_length]; simp; omega
          | succ g ihg =>
            intro q2 hq2 hl1 hg hc hv
            refine .loop1 (fun k m0 m1 => f103_L9_eq k m0 m1 _ _ _ _ _ _ _ _ _ _) (.cond (fun hlt => .condT (by rw [digs_length]; exact roomD (by omega)) ?_) (fun hlt => j11 q2 hq2 ?_ hv))
            · have hlt := dT hlt
              rw [tdiv16 (by omega), digs_length] at hlt
              have := ihg (q2 ++ [0]) (ok_append.2 ⟨hq2, ok_cons.2 ⟨by decide, ok_nil⟩⟩) (by simp; omega) (by simp; omega) (by simp; omega) (by rw [val_append]; simp [val]; exact hv)
              rw [digs_append] at this
              exact this
            · have hlt := dF hlt
              rw [tdiv16 (by omega), digs_length] at hlt
              omega
        refine (l9 a.length q hq (qlen hql) (by omega) ?_ h1).in1
        rcases hql with h | ⟨_, h⟩
        · exact .inl h
        · exact .inr (by omega)
      -- the rest, twice
      refine .bR (Add_ev (L := L + 1) (bg_nat hr hrn hrl) (bg_nat hr hrn hrl) (by omega)) ?_
      intro x hx
      have hx := hx.less (L' := L + 1) (by omega)
      obtain ⟨r1, g1, g2, g3, g4, rfl⟩ := hx.pos (by omega)
      rw [hga]
      refine .condT rfl (.condT rfl (.condT (digs_inB (by omega) (by omega)) (.asInt rfl (.condF (by simp; omega) ?_))))
      rw [bit_nums ga ht, ← bit_of ha hij ht]
      refine .cond (fun hbit => .bR (Of_ev 1 (by decide) (by decide)) ?_) (fun hbit => ?_)
      · have hbit := dT hbit
        intro x hx
        obtain ⟨n2, d2, hx, rfl⟩ := hx.eta
        have up : Bg 1 (L + 4) (bigP n2 d2) := by obtain ⟨a, b, c, d, e, f, g, h⟩ := hx.big; exact ⟨a, b, c, d, e, by omega, g, h⟩
        refine .condT rfl (.bR (Add_ev (L := L + 4) (bg_nat g1 g2 (by omega)) up (by omega)) ?_)
        intro x hx
        have hx := hx.less (L' := L + 1) (by omega)
        obtain ⟨r2, k1, k2, k3, k4, rfl⟩ := hx.pos (by omega)
        exact .condT rfl (.condT rfl (j9 r2 k1 k2 k3 (by omega)))
      · have hbit := dF hbit
        exact j9 r1 g1 g2 g3 (by omega)
    · have h := dF h
      have : n = 0 := by omega
      subst this
      exact fin q r hq (qlen hql) hr hrn h1 h2
end
theorem Floor_ev {x y : Int} {L : Nat} {p q : PV} (hp : Bg x L p) (hq : Bg y L q) (hL : L ≤ 300) (hy : y ≠ 0) : Ev P an 103 [.v p, .v q] (RB (flI x y) (L + 1)) := by
  obtain ⟨na, a, ha, hna, hna2, hLa, hxa, rfl⟩ := hp
  obtain ⟨nb, b, hb, hnb, hnb2, hLb, hyb, rfl⟩ := hq
  have hB : 0 < val b := by
    rcases Nat.eq_zero_or_pos (val b) with h | h
    · exact absurd (by rw [← hyb]; unfold bval; rw [h]; cases nb <;> rfl) hy
    · exact h
  refine .fn (fun k => f103_eq k na (digs a) nb (digs b)) ?_
  rw [digs_length, wrap64_id (n := 16 * (a.length : Int)) (by omega) (by omega), wrap64_id (by omega) (by omega), ← hxa, ← hyb]
  have hsm : val a / 2 ^ (16 * a.length) = 0 := by
    rw [Nat.pow_mul, show (2 : Nat) ^ 16 = 65536 by decide, Nat.div_eq_of_lt (val_lt ha)]
  have := (floor_L4 (na := na) (nb := nb) ha hb hna hnb hB hLa hLb hL (16 * a.length) (16 * a.length) [] [] (by omega) (by omega) ok_nil (.inr ⟨rfl, rfl⟩) ok_nil norm_nil (by simp) (by rw [hsm]; simp [val]) (by rw [hsm]; simp [val])).in0
  rw [show ((16 * a.length : Nat) : Int) - 1 = 16 * (a.length : Int) - 1 by omega] at this
  exact this
end Go.Proofs.Sx.Z
