/- The reference's numbers by digits: what its operations come to. -/
import Derived.Test.YtoeplmfcjonkgaaGreatZLex
import Derived.Test.YtoeplmfcjonkgaaGreatBigMath
set_option linter.unusedVariables false
set_option linter.unusedSimpArgs false
namespace Go.Proofs.Sx.Z
open Go Go.Proofs.Dig

def digs (d : List Nat) : List PV := d.map fun (x : Nat) => .int .u64 (x : Int)
def bigP (neg : Bool) (d : List Nat) : PV := .agg [.bool neg, .list 185 (digs d)]
def bval (neg : Bool) (d : List Nat) : Int := cond neg (-(val d : Int)) (val d)
/-- A number by digits, of so many digits at most. -/
def Bg (v : Int) (L : Nat) (p : PV) : Prop := ∃ neg d, ok d ∧ norm d ∧ (d = [] → neg = false) ∧ d.length ≤ L ∧ bval neg d = v ∧ p = bigP neg d
def RB (v : Int) (L : Nat) (r : Ret) : Prop := ∃ s, Bg v L s ∧ r = ⟨[.v s], []⟩

theorem digs_length (d : List Nat) : (digs d).length = d.length := by simp [digs]
theorem digs_get {d : List Nat} {i : Int} (h0 : 0 ≤ i) (h : i < d.length) : (digs d).getD i.toNat default = .int .u64 ((d.getD i.toNat 0 : Nat) : Int) := by
  have : i.toNat < d.length := by omega
  simp [digs, List.getD_eq_getElem?_getD, this]
theorem digs_append (a b : List Nat) : digs (a ++ b) = digs a ++ digs b := by simp [digs]
theorem digs_take (a : List Nat) (n : Nat) : digs (a.take n) = (digs a).take n := by simp [digs, List.map_take]
theorem digs_inB {d : List Nat} {i : Int} (h0 : 0 ≤ i) (h : i < d.length) : inB i (digs d).length = true := inB_true h0 (by rw [digs_length]; exact h)
theorem roomD {n : Nat} (h : n ≤ 2000) : (Nat.ble ((n + 1) * 8) 140737488355328 && Nat.ble (n + 1) 9223372036854775807) = true := by
  simp only [Bool.and_eq_true]
  exact ⟨Nat.ble_eq_true_of_le (by omega), Nat.ble_eq_true_of_le (by omega)⟩
theorem len_of_val {d : List Nat} {n : Nat} (h : norm d) (hv : val d < 65536 ^ n) : d.length ≤ n := by
  by_cases hd : d = []
  · subst hd; simp
  · have h1 := val_ge h hd
    have h2 : 65536 ^ (d.length - 1) < 65536 ^ n := by omega
    have := (Nat.pow_lt_pow_iff_right (by decide : 1 < 65536)).1 h2
    omega

theorem and16 {x : Int} (h0 : 0 ≤ x) (h : x < 18446744073709551616) : IntKind.wrap .u64 ((BitVec.ofInt 64 x &&& BitVec.ofInt 64 65535).toNat : Int) = ((x.toNat % 65536 : Nat) : Int) := by
  have e : (BitVec.ofInt 64 x &&& BitVec.ofInt 64 65535).toNat = x.toNat % 65536 := by
    rw [BitVec.toNat_and, BitVec.toNat_ofInt, BitVec.toNat_ofInt]
    have h1 : (x % ((2 ^ 64 : Nat) : Int)).toNat = x.toNat := by rw [Int.emod_eq_of_lt h0 (by simpa using h)]
    rw [h1, show ((65535 : Int) % ((2 ^ 64 : Nat) : Int)).toNat = 2 ^ 16 - 1 by decide, Nat.and_two_pow_sub_one_eq_mod]
  rw [e]
  exact wrapu64_id (by omega) (by omega)
theorem shr16 {x : Int} (h0 : 0 ≤ x) : Int.fdiv x (2 ^ (min 16 64)) = ((x.toNat / 65536 : Nat) : Int) := by
  rw [show (2 : Int) ^ (min 16 64) = 65536 by decide, Int.fdiv_eq_ediv_of_nonneg _ (by decide)]
  omega

theorem trim_J4 (neg : Bool) (d : List Nat) (l : List PV) (b : Bool) (l' : List PV) (ho : ok d) (hn : norm d) (L : Nat) (hL : d.length ≤ L) :
    Ev3 (fun k _ _ => f142_J4 k (digs d) neg l b l') (RB (bval neg d) L) := by
  refine .eq (fun k _ _ => f142_J4_eq k _ _ _ _ _) (.cond (fun h => .ret ?_) (fun h => .ret ?_))
  · subst h
    rw [digs_length]
    by_cases hd : d = []
    · subst hd; exact ⟨_, ⟨false, [], ho, hn, fun _ => rfl, hL, rfl, rfl⟩, rfl⟩
    · have : 0 < d.length := List.length_pos_iff.2 hd
      refine ⟨_, ⟨true, d, ho, hn, fun h => absurd h hd, hL, rfl, ?_⟩, rfl⟩
      have : decide ((d.length : Int) > 0) = true := by simp; omega
      rw [this]; rfl
  · subst h
    exact ⟨_, ⟨false, d, ho, hn, fun _ => rfl, hL, rfl, rfl⟩, rfl⟩
theorem trim_L2 (neg : Bool) (l : List PV) (b : Bool) (l' : List PV) (L : Nat) (v : Int) : ∀ (f : Nat) (d : List Nat), ok d → d.length ≤ f → d.length ≤ L → L ≤ 2000 → bval neg d = v →
    Ev3 (fun k m0 _ => f142_L2 k m0 (digs d) neg l b l') (RB v L) := by
  intro f
  induction f with
  | zero =>
    intro d ho hf hL hL2 hv
    have : d = [] := List.length_eq_zero_iff.1 (by omega)
    subst this
    refine .loop0 (fun k m0 _ => f142_L2_eq k m0 _ _ _ _ _) (.condF (by rw [digs_length]; simp) ?_)
    rw [← hv]; exact trim_J4 neg [] l b l' ho norm_nil L hL
  | succ f ih =>
    intro d ho hf hL hL2 hv
    refine .loop0 (fun k m0 _ => f142_L2_eq k m0 _ _ _ _ _) (.cond (fun h => ?_) (fun h => ?_))
    · have h := dT h
      rw [digs_length] at h
      have hd : d ≠ [] := by intro e; subst e; simp at h
      have e1 : IntKind.wrap .i64 (((digs d).length : Int) - 1) = (d.length : Int) - 1 := by rw [digs_length]; exact wrap64_id (by omega) (by omega)
      rw [e1, digs_get (by omega) (by omega)]
      refine .condT (digs_inB (by omega) (by omega)) (.asInt rfl (.cond (fun h0 => ?_) (fun h0 => ?_)))
      · have h0 : d.getD (d.length - 1) 0 = 0 := by
          have := eT h0
          rw [show ((d.length : Int) - 1).toNat = d.length - 1 by omega] at this
          omega
        refine .condT (by rw [digs_length]; simp; omega) ?_
        have := ih (d.take (d.length - 1)) (ok_take ho _) (by rw [List.length_take]; omega) (by rw [List.length_take]; omega) hL2 (by rw [← hv]; unfold bval; rw [val_dropLast hd h0])
        rw [digs_take] at this
        rw [show ((d.length : Int) - 1).toNat = d.length - 1 by omega, show ((0 : Int).toNat) = 0 from rfl, List.drop_zero]
        exact this
      · rw [← hv]
        refine trim_J4 neg d l b l' ho (fun _ => ?_) L hL
        have := eF h0
        rw [show ((d.length : Int) - 1).toNat = d.length - 1 by omega] at this
        omega
    · have h := dF h
      rw [digs_length] at h
      have : d = [] := List.length_eq_zero_iff.1 (by omega)
      subst this
      rw [← hv]; exact trim_J4 neg [] l b l' ho norm_nil L hL
theorem trim_ev (neg : Bool) (d : List Nat) (ho : ok d) (hl : d.length ≤ 2000) : Ev P an 142 [.v (bigP neg d)] (RB (bval neg d) d.length) :=
  .fn (fun k => f142_eq k neg (digs d)) (trim_L2 neg _ _ _ _ _ d.length d ho (Nat.le_refl _) (Nat.le_refl _) hl rfl).in0
theorem RB.less {v : Int} {L L' : Nat} (hv : v.natAbs < 65536 ^ L') {r : Ret} (h : RB v L r) : RB v L' r := by
  obtain ⟨s, ⟨neg, d, h1, h2, h3, h4, h5, rfl⟩, rfl⟩ := h
  refine ⟨_, ⟨neg, d, h1, h2, h3, len_of_val h2 ?_, h5, rfl⟩, rfl⟩
  rw [← h5] at hv
  unfold bval at hv
  cases neg <;> simp at hv <;> exact hv

theorem U_L2 (neg : Bool) (v : Int) (L : Nat) (u0 : Nat) (hv : v = cond neg (-(u0 : Int)) u0) : ∀ (f : Nat) (u : Nat) (acc : List Nat), u < 65536 ^ f → acc.length + f ≤ 10 → ok acc → val acc + 65536 ^ acc.length * u = u0 →
    u < 18446744073709551616 → Ev3 (fun k m0 _ => f143_L2 k m0 (u : Int) neg false (digs acc) []) (RB v 10) := by
  intro f
  induction f with
  | zero =>
    intro u acc hu hl ho hval h64
    have : u = 0 := by simpa using hu
    subst this
    refine .loop0 (fun k m0 _ => f143_L2_eq k m0 _ _ _ _ _) (.condF rfl (.bR (trim_ev neg acc ho (by omega)) ?_))
    rintro r ⟨s, ⟨neg', d, h1, h2, h3, h4, h5, rfl⟩, rfl⟩
    refine .condT rfl (.condT rfl (.ret ⟨_, ⟨neg', d, h1, h2, h3, by omega, ?_, rfl⟩, rfl⟩))
    rw [h5, hv]; unfold bval; simp at hval; rw [hval]
  | succ f ih =>
    intro u acc hu hl ho hval h64
    refine .loop0 (fun k m0 _ => f143_L2_eq k m0 _ _ _ _ _) (.cond (fun h => ?_) (fun h => .bR (trim_ev neg acc ho (by omega)) ?_))
    · rw [and16 (by omega) (by omega), shr16 (by omega)]
      refine .condT (by rw [digs_length]; exact roomD (by omega)) (.condF rfl ?_)
      have hx : (u : Int).toNat = u := by omega
      rw [hx]
      have hs : 65536 ^ (acc.length + 1) * (u / 65536) + 65536 ^ acc.length * (u % 65536) = 65536 ^ acc.length * u := by
        rw [Nat.pow_succ, Nat.mul_assoc, ← Nat.mul_add]; congr 1; omega
      have := ih (u / 65536) (acc ++ [u % 65536]) (by rw [Nat.pow_succ] at hu; omega) (by simp; omega) (ok_append.2 ⟨ho, ok_cons.2 ⟨by omega, ok_nil⟩⟩) (by
        rw [val_append, List.length_append]; simp only [val, List.length_cons, List.length_nil, Nat.mul_zero, Nat.add_zero, Nat.zero_add]; omega) (by omega)
      rw [digs_append] at this
      exact this
    · have h := dF h
      have : u = 0 := by omega
      subst this
      rintro r ⟨s, ⟨neg', d, h1, h2, h3, h4, h5, rfl⟩, rfl⟩
      refine .condT rfl (.condT rfl (.ret ⟨_, ⟨neg', d, h1, h2, h3, by omega, ?_, rfl⟩, rfl⟩))
      rw [h5, hv]; unfold bval; simp at hval; rw [hval]
theorem U_ev (u : Nat) (neg : Bool) (h : u < 18446744073709551616) : Ev P an 143 [.v (.int .u64 u), .v (.bool neg)] (RB (cond neg (-(u : Int)) u) 4) :=
  .fn (fun k => f143_eq k u neg) (.mono (U_L2 neg _ 10 u rfl 4 u [] (by simpa using h) (by decide) ok_nil (by simp [val]) h).in0 fun r hr => hr.less (by cases neg <;> simp <;> exact h))
theorem Of_ev (v : Int) (h1 : -9223372036854775808 ≤ v) (h2 : v ≤ 9223372036854775807) : Ev P an 99 [.v (.int .i64 v)] (RB v 4) := by
  have fin : ∀ r, RB v 4 r → ∃ (neg : Bool) (d : List Nat), RB v 4 ⟨[.v (bigP neg d)], []⟩ ∧ r = ⟨[.v (bigP neg d)], []⟩ := by
    rintro r ⟨s, ⟨neg, d, a, b, c, e, f, rfl⟩, rfl⟩
    exact ⟨neg, d, ⟨_, ⟨neg, d, a, b, c, e, f, rfl⟩, rfl⟩, rfl⟩
  refine .fn (fun k => f99_eq k v) (.cond (fun hn => ?_) (fun hn => ?_))
  · have hn' := dT hn
    have e : IntKind.wrap .u64 (0 - IntKind.wrap .u64 v) = ((v.natAbs : Nat) : Int) := by
      unfold IntKind.wrap; simp [IntKind.bits, IntKind.signed]; omega
    rw [e, hn]
    refine .bR (U_ev v.natAbs true (by omega)) ?_
    intro r hr
    rw [show cond true (-((v.natAbs : Nat) : Int)) (v.natAbs : Int) = v by simp; omega] at hr
    obtain ⟨neg, d, hr, rfl⟩ := fin r hr
    exact .condT rfl (.condT rfl (.ret hr))
  · have hn' := dF hn
    have e : IntKind.wrap .u64 v = ((v.natAbs : Nat) : Int) := by
      unfold IntKind.wrap; simp [IntKind.bits, IntKind.signed]; omega
    rw [e, hn]
    refine .bR (U_ev v.natAbs false (by omega)) ?_
    intro r hr
    rw [show cond false (-((v.natAbs : Nat) : Int)) (v.natAbs : Int) = v by simp; omega] at hr
    obtain ⟨neg, d, hr, rfl⟩ := fin r hr
    exact .condT rfl (.condT rfl (.ret hr))
theorem Minus_ev {v : Int} {L : Nat} {p : PV} (h : Bg v L p) (hL : L ≤ 1000) : Ev P an 98 [.v p] (RB (-v) L) := by
  obtain ⟨neg, d, a, b, c, e, f, rfl⟩ := h
  refine .fn (fun k => f98_eq k neg _) (.bR (trim_ev (!neg) d a (by omega)) ?_)
  rintro r ⟨s, ⟨neg', d', h1, h2, h3, h4, h5, rfl⟩, rfl⟩
  refine .condT rfl (.condT rfl (.ret ⟨_, ⟨neg', d', h1, h2, h3, by omega, ?_, rfl⟩, rfl⟩))
  rw [h5, ← f]; unfold bval; cases neg <;> simp
theorem less_L4 (a b : List Nat) (ha : ok a) (hb : ok b) (hl : a.length = b.length) (hL : a.length ≤ 2000) : ∀ (f : Nat) (i : Int), -1 ≤ i → i < a.length → i + 1 ≤ f → a.drop (i + 1).toNat = b.drop (i + 1).toNat →
    Ev3 (fun k m0 _ => f144_L4 k m0 (digs a) (digs b) i) (fun r => r = ⟨[.v (.bool (decide (val a < val b)))], []⟩) := by
  have same : a.drop 0 = b.drop 0 → decide (val a < val b) = false := by
    intro h; simp only [List.drop_zero] at h; rw [h]; simp
  intro f
  induction f with
  | zero =>
    intro i h0 h1 hf hd
    refine .loop0 (fun k m0 _ => f144_L4_eq k m0 _ _ _) (.condF (by simp; omega) (.ret ?_))
    rw [show (i + 1).toNat = 0 by omega] at hd
    rw [same hd]
  | succ f ih =>
    intro i h0 h1 hf hd
    refine .loop0 (fun k m0 _ => f144_L4_eq k m0 _ _ _) (.cond (fun hi => ?_) (fun hi => .ret ?_))
    · have hi := dT hi
      rw [digs_get hi h1, digs_get hi (by omega : i < b.length)]
      refine .condT (digs_inB hi h1) (.condT (digs_inB hi (by omega)) (.asInt rfl (.asInt rfl (.cond (fun hne => .condT (digs_inB hi h1) (.condT (digs_inB hi (by omega)) (.asInt rfl (.asInt rfl (.ret ?_))))) (fun hne => ?_)))))
      · have hne : a.getD i.toNat 0 ≠ b.getD i.toNat 0 := by
          have : ((a.getD i.toNat 0 : Nat) : Int) ≠ ((b.getD i.toNat 0 : Nat) : Int) := by simpa using hne
          omega
        rw [show (i + 1).toNat = i.toNat + 1 by omega] at hd
        have e : decide (((a.getD i.toNat 0 : Nat) : Int) < ((b.getD i.toNat 0 : Nat) : Int)) = decide (val a < val b) := by
          rcases Nat.lt_or_gt_of_ne hne with h | h
          · have := lt_of_digit ha (by omega) hl hd h
            exact (decide_eq_true (by omega)).trans (decide_eq_true this).symm
          · have := lt_of_digit hb (by omega) hl.symm hd.symm h
            have h' : ¬ a.getD i.toNat 0 < b.getD i.toNat 0 := by omega
            have h'' : ¬ val a < val b := by omega
            exact (decide_eq_false (by omega)).trans (decide_eq_false h'').symm
        rw [e]
      · have hne : a.getD i.toNat 0 = b.getD i.toNat 0 := by
          have : ((a.getD i.toNat 0 : Nat) : Int) = ((b.getD i.toNat 0 : Nat) : Int) := by simpa using hne
          omega
        rw [wrap64_id (by omega) (by omega)]
        refine ih (i - 1) (by omega) (by omega) (by omega) ?_
        rw [show (i - 1 + 1).toNat = i.toNat by omega]
        rw [show (i + 1).toNat = i.toNat + 1 by omega] at hd
        exact drop_step hl (by omega) hd hne
    · have hi := dF hi
      rw [show (i + 1).toNat = 0 by omega] at hd
      rw [same hd]
theorem less_ev (a b : List Nat) (ha : ok a) (hb : ok b) (na : norm a) (nb : norm b) (hL : a.length ≤ 2000) : Ev P an 144 [.v (.list 185 (digs a)), .v (.list 185 (digs b))] (fun r => r = ⟨[.v (.bool (decide (val a < val b)))], []⟩) := by
  refine .fn (fun k => f144_eq k _ _) ?_
  rw [digs_length, digs_length]
  refine .cond (fun h => .ret ?_) (fun h => ?_)
  · have h : a.length ≠ b.length := by
      have : (a.length : Int) ≠ b.length := by simpa using h
      omega
    have e : decide ((a.length : Int) < (b.length : Int)) = decide (val a < val b) := by
      rcases Nat.lt_or_gt_of_ne h with h | h
      · have := lt_of_length ha nb h
        simp [h, this]
      · have := lt_of_length hb na h
        have h' : ¬ a.length < b.length := by omega
        have h'' : ¬ val a < val b := by omega
        simp [h', h'']
    rw [e]
  · have h : a.length = b.length := by
      have : (a.length : Int) = b.length := by simpa using h
      omega
    rw [wrap64_id (by omega) (by omega)]
    refine (less_L4 a b ha hb h hL a.length _ (by omega) (by omega) (by omega) ?_).in0
    rw [List.drop_of_length_le (by omega), List.drop_of_length_le (by omega)]
theorem digit_big (a : List Nat) (i : Int) (h0 : 0 ≤ i) : Ev P an 145 [.v (.list 185 (digs a)), .v (.int .i64 i)] (fun r => r = ⟨[.v (.int .u64 ((a.getD i.toNat 0 : Nat) : Int))], []⟩) := by
  refine .fn (fun k => f145_eq k _ _) (.cond (fun h => ?_) (fun h => .ret ?_))
  · have h := dT h
    rw [digs_length] at h
    rw [digs_get h0 h]
    exact .condT (digs_inB h0 h) (.ret rfl)
  · have h := dF h
    rw [digs_length] at h
    rw [List.getD_eq_getElem?_getD, List.getElem?_eq_none (by omega)]; rfl
end Go.Proofs.Sx.Z
