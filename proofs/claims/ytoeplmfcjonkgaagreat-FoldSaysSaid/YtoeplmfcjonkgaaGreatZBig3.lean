/- Numbers by digits: products, back to numbers. -/
import Derived.Test.YtoeplmfcjonkgaaGreatZBig2
set_option linter.unusedVariables false
set_option linter.unusedSimpArgs false
namespace Go.Proofs.Sx.Z
open Go Go.Proofs.Dig

theorem digs_set (d : List Nat) (i x : Nat) : (digs d).set i (.int .u64 (x : Int)) = digs (d.set i x) := by simp [digs, List.map_set]
theorem mul_nums {d a b c : Nat} (hd : d < 65536) (ha : a < 65536) (hb : b < 65536) (hc : c < 65536) :
    IntKind.wrap .u64 (IntKind.wrap .u64 ((d : Int) + IntKind.wrap .u64 ((a : Int) * (b : Int))) + (c : Int)) = ((d + a * b + c : Nat) : Int) ∧ d + a * b + c < 4294967296 := by
  have h : a * b ≤ 65535 * 65535 := Nat.mul_le_mul (by omega) (by omega)
  have e : (a : Int) * (b : Int) = ((a * b : Nat) : Int) := by simp
  rw [e, wrapu64_id (n := ((a * b : Nat) : Int)) (by omega) (by omega), wrapu64_id (n := (d : Int) + ((a * b : Nat) : Int)) (by omega) (by omega), wrapu64_id (by omega) (by omega)]
  omega
/-- One step of a row of a product. -/
theorem mul_step {d b : List Nat} {i k ai c x v0 : Nat} (hp : i + k < d.length) (hv : val d + 65536 ^ (i + k) * c = v0 + 65536 ^ i * (ai * val (b.take k))) (hx : x = d.getD (i + k) 0 + ai * b.getD k 0 + c) :
    val (d.set (i + k) (x % 65536)) + 65536 ^ (i + (k + 1)) * (x / 65536) = v0 + 65536 ^ i * (ai * val (b.take (k + 1))) := by
  have h1 := val_set (d := d) (i := i + k) (x := x % 65536) hp
  have h2 : 65536 ^ (i + (k + 1)) * (x / 65536) + 65536 ^ (i + k) * (x % 65536) = 65536 ^ (i + k) * x := by
    rw [show i + (k + 1) = i + k + 1 from rfl, Nat.pow_succ, Nat.mul_assoc, ← Nat.mul_add]; congr 1; omega
  have h3 : 65536 ^ (i + k) * x = 65536 ^ (i + k) * d.getD (i + k) 0 + 65536 ^ (i + k) * (ai * b.getD k 0) + 65536 ^ (i + k) * c := by rw [hx, Nat.mul_add, Nat.mul_add]
  have h4 : 65536 ^ i * (ai * val (b.take (k + 1))) = 65536 ^ i * (ai * val (b.take k)) + 65536 ^ (i + k) * (ai * b.getD k 0) := by
    rw [val_take_step, Nat.mul_add, Nat.mul_add, Nat.pow_add]; congr 1
    rw [Nat.mul_assoc]; congr 1
    rw [← Nat.mul_assoc, ← Nat.mul_assoc, Nat.mul_comm ai]
  omega
theorem mul_L (na nb : Bool) (a b : List Nat) (ha : ok a) (hb : ok b) (L : Nat) (hLa : a.length ≤ L) (hLb : b.length ≤ L) (hL : L ≤ 300) {Q : Ret → Prop}
    (fin : ∀ d : List Nat, ok d → d.length = a.length + b.length + 1 → val d = val a * val b → Ev3 (fun k _ _ => f102_J12 k na (digs a) nb (digs b) false (digs d) []) Q) :
    ∀ (f : Nat) (i : Nat) (d : List Nat), i ≤ a.length → a.length - i ≤ f → ok d → d.length = a.length + b.length + 1 → val d = val (a.take i) * val b →
      Ev3 (fun k m0 _ => f102_L3 k m0 (i : Int) na (digs a) nb (digs b) false (digs d) []) Q := by
  intro f
  induction f with
  | zero =>
    intro i d hi hf ho hlen hv
    refine .loop0 (fun k m0 _ => f102_L3_eq k m0 _ _ _ _ _ _ _ _) (.condF (by rw [digs_length]; simp; omega) (fin d ho hlen ?_))
    rw [hv, val_take_ge (by omega)]
  | succ f ih =>
    intro i d hi hf ho hlen hv
    refine .loop0 (fun k m0 _ => f102_L3_eq k m0 _ _ _ _ _ _ _ _) (.cond (fun h => ?_) (fun h => fin d ho hlen ?_))
    · have h := dT h
      rw [digs_length] at h
      have gi := getD_lt ha i
      generalize hai : a.getD i 0 = ai at gi
      -- the whole is small
      have hsmall : val (a.take i) * val b + 65536 ^ i * (ai * val b) < 65536 ^ (i + (b.length + 1)) := by
        have e1 := val_lt (ok_take ha (i + 1))
        have e2 := val_take_step a i
        rw [hai] at e2
        rw [List.length_take, Nat.min_eq_left (by omega)] at e1
        have e3 := val_lt hb
        have : val (a.take i) * val b + 65536 ^ i * (ai * val b) = val (a.take (i + 1)) * val b := by rw [e2, Nat.add_mul, Nat.mul_assoc]
        rw [this, show i + (b.length + 1) = i + 1 + b.length by omega, Nat.pow_add]
        exact Nat.mul_lt_mul_of_lt_of_le e1 (Nat.le_of_lt e3) (Nat.pow_pos (by decide))
      have inner : ∀ (g : Nat) (k : Nat) (c : Nat) (d2 : List Nat), k ≤ b.length + 1 → b.length + 1 - k ≤ g → c < 65536 → ok d2 → d2.length = a.length + b.length + 1 →
          val d2 + 65536 ^ (i + k) * c = val (a.take i) * val b + 65536 ^ i * (ai * val (b.take k)) →
          Ev3 (fun kk m0 m1 => f102_L7 kk m0 m1 (i : Int) (c : Int) (k : Int) na (digs a) nb (digs b) false (digs d2) []) Q := by
        intro g
        have done : ∀ (k : Nat) (d2 : List Nat), b.length ≤ k → ok d2 → d2.length = a.length + b.length + 1 → val d2 + 65536 ^ (i + k) * 0 = val (a.take i) * val b + 65536 ^ i * (ai * val (b.take k)) →
            Ev3 (fun kk m0 _ => f102_L3 kk m0 (IntKind.wrap .i64 ((i : Int) + 1)) na (digs a) nb (digs b) false (digs d2) []) Q := by
          intro k d2 hk ho2 hl2 hv2
          rw [wrap64_id (by omega) (by omega)]
          refine ih (i + 1) d2 (by omega) (by omega) ho2 hl2 ?_
          rw [val_take_ge (a := b) hk, Nat.mul_zero, Nat.add_zero] at hv2
          rw [hv2, val_take_step, hai, Nat.add_mul, Nat.mul_assoc]
        have carry0 : ∀ (k c : Nat) (d2 : List Nat), b.length + 1 ≤ k → val d2 + 65536 ^ (i + k) * c = val (a.take i) * val b + 65536 ^ i * (ai * val (b.take k)) → c = 0 := by
          intro k c d2 hk hv2
          rw [val_take_ge (a := b) (by omega)] at hv2
          rcases Nat.eq_zero_or_pos c with h | h
          · exact h
          · have h1 : 65536 ^ (i + (b.length + 1)) ≤ 65536 ^ (i + k) := Nat.pow_le_pow_right (by decide) (by omega)
            have h2 : 65536 ^ (i + k) * 1 ≤ 65536 ^ (i + k) * c := Nat.mul_le_mul_left _ h
            omega
        have gd : ∀ (d2 : List Nat), d2.length = a.length + b.length + 1 → ∀ k, k ≤ b.length → IntKind.wrap .i64 ((i : Int) + (k : Int)) = ((i + k : Nat) : Int) ∧ inB ((i + k : Nat) : Int) (digs d2).length = true ∧ (digs d2).getD (i + k) default = .int .u64 ((d2.getD (i + k) 0 : Nat) : Int) := by
          intro d2 hl2 k hk
          refine ⟨by rw [wrap64_id (by omega) (by omega)]; omega, digs_inB (by omega) (by omega), ?_⟩
          have := digs_get (d := d2) (i := ((i + k : Nat) : Int)) (by omega) (by omega)
          rwa [show (((i + k : Nat) : Int)).toNat = i + k by omega] at this
        have ga : (digs a).getD i default = .int .u64 (ai : Int) := by
          have := digs_get (d := a) (i := (i : Int)) (by omega) (by omega)
          rw [show ((i : Int)).toNat = i by omega, hai] at this; exact this
        induction g with
        | zero =>
          intro k c d2 hk hg hc ho2 hl2 hv2
          have := carry0 k c d2 (by omega) hv2
          subst this
          exact .loop1 (fun kk m0 m1 => f102_L7_eq kk m0 m1 _ _ _ _ _ _ _ _ _ _) (.condF (by rw [digs_length]; simp; omega) (.condF rfl (done k d2 (by omega) ho2 hl2 hv2)))
        | succ g ihg =>
          intro k c d2 hk hg hc ho2 hl2 hv2
          have step : k ≤ b.length → ∀ x, x = d2.getD (i + k) 0 + ai * b.getD k 0 + c → x < 4294967296 →
              Ev3 (fun kk m0 m1 => f102_L7 kk m0 m1 (i : Int) ((x / 65536 : Nat) : Int) (IntKind.wrap .i64 ((k : Int) + 1)) na (digs a) nb (digs b) false ((digs d2).set (i + k) (.int .u64 ((x % 65536 : Nat) : Int))) []) Q := by
            intro hkb x hx hx2
            rw [wrap64_id (by omega) (by omega), digs_set]
            have := mul_step (d := d2) (b := b) (i := i) (k := k) (ai := ai) (c := c) (x := x) (by omega) hv2 hx
            exact ihg (k + 1) (x / 65536) _ (by omega) (by omega) (by omega) (ok_set ho2 (by omega)) (by simp; omega) this
          refine .loop1 (fun kk m0 m1 => f102_L7_eq kk m0 m1 _ _ _ _ _ _ _ _ _ _) (.cond (fun hkb => ?_) (fun hkb => .cond (fun hcp => ?_) (fun hcp => done k d2 ?_ ho2 hl2 ?_)))
          · have hkb := dT hkb
            rw [digs_length] at hkb
            obtain ⟨e1, e2, e3⟩ := gd d2 hl2 k (by omega)
            have gb := getD_lt hb k
            have gd2 := getD_lt ho2 (i + k)
            obtain ⟨m1, m2⟩ := mul_nums gd2 gi gb hc
            rw [e1, show (((i + k : Nat) : Int)).toNat = i + k by omega, show ((i : Int)).toNat = i by omega, ga, e3]
            refine .condT e2 (.condT (digs_inB (by omega) (by omega)) (.bR (digit_big b k (by omega)) ?_))
            rintro r rfl
            refine .condT rfl (.asInt rfl (.asInt rfl (.asInt rfl (.condT e2 (.condF rfl ?_)))))
            rw [show ((k : Int)).toNat = k by omega, m1, and16 (by omega) (by omega), shr16 (by omega), show (((d2.getD (i + k) 0 + ai * b.getD k 0 + c : Nat) : Int)).toNat = d2.getD (i + k) 0 + ai * b.getD k 0 + c by omega]
            exact step (by omega) _ rfl m2
          · have hkb := dF hkb
            rw [digs_length] at hkb
            have hcp := dT hcp
            have hk1 : k ≤ b.length := by
              rcases Nat.lt_or_ge b.length k with h | h
              · have := carry0 k c d2 (by omega) hv2; omega
              · exact h
            obtain ⟨e1, e2, e3⟩ := gd d2 hl2 k (by omega)
            have gb := getD_lt hb k
            have gd2 := getD_lt ho2 (i + k)
            obtain ⟨m1, m2⟩ := mul_nums gd2 gi gb hc
            rw [e1, show (((i + k : Nat) : Int)).toNat = i + k by omega, show ((i : Int)).toNat = i by omega, ga, e3]
            refine .condT e2 (.condT (digs_inB (by omega) (by omega)) (.bR (digit_big b k (by omega)) ?_))
            rintro r rfl
            refine .condT rfl (.asInt rfl (.asInt rfl (.asInt rfl (.condT e2 (.condF rfl ?_)))))
            rw [show ((k : Int)).toNat = k by omega, m1, and16 (by omega) (by omega), shr16 (by omega), show (((d2.getD (i + k) 0 + ai * b.getD k 0 + c : Nat) : Int)).toNat = d2.getD (i + k) 0 + ai * b.getD k 0 + c by omega]
            exact step hk1 _ rfl m2
          · have := dF hkb; rw [digs_length] at this; omega
          · have := dF hcp
            have : c = 0 := by omega
            rw [this] at hv2; exact hv2
      exact (inner (b.length + 1) 0 0 d (by omega) (by omega) (by omega) ho hlen (by simp [val, hv])).in1
    · have h := dF h
      rw [digs_length] at h
      rw [hv, val_take_ge (by omega)]

theorem Mul_ev {x y : Int} {L : Nat} {p q : PV} (hp : Bg x L p) (hq : Bg y L q) (hL : L ≤ 300) : Ev P an 102 [.v p, .v q] (RB (x * y) (2 * L + 1)) := by
  obtain ⟨na, a, ha, hna, hna2, hLa, hxa, rfl⟩ := hp
  obtain ⟨nb, b, hb, hnb, hnb2, hLb, hyb, rfl⟩ := hq
  refine .fn (fun k => f102_eq k na (digs a) nb (digs b)) ?_
  rw [digs_length, digs_length, wrap64_id (n := (a.length : Int) + b.length) (by omega) (by omega), wrap64_id (n := (a.length : Int) + b.length + 1) (by omega) (by omega)]
  have hfin : ∀ d : List Nat, ok d → d.length = a.length + b.length + 1 → val d = val a * val b → Ev3 (fun k _ _ => f102_J12 k na (digs a) nb (digs b) false (digs d) []) (RB (x * y) (2 * L + 1)) := by
    intro d ho hl hv
    refine .eq (fun k _ _ => f102_J12_eq k _ _ _ _ _ _ _) (.bR (trim_ev (!(na == nb)) d ho (by omega)) ?_)
    rintro r ⟨s, ⟨neg', d', h1, h2, h3, h4, h5, rfl⟩, rfl⟩
    refine .condT rfl (.condT rfl (.ret ⟨_, ⟨neg', d', h1, h2, h3, by omega, ?_, rfl⟩, rfl⟩))
    rw [h5, ← hxa, ← hyb]; unfold bval; rw [hv]
    cases na <;> cases nb <;> simp [Int.neg_mul, Int.mul_neg]
  have := (mul_L na nb a b ha hb L hLa hLb hL hfin a.length 0 (List.replicate (a.length + b.length + 1) 0) (by omega) (by omega) (ok_replicate _) (by simp) (by rw [val_replicate]; simp [val])).in0
  have e : List.replicate ((a.length : Int) + b.length + 1).toNat (PV.int .u64 0) = digs (List.replicate (a.length + b.length + 1) 0) := by
    simp [digs]; omega
  rw [e]
  exact .condT (by simp; omega) this

theorem or16 {u x : Nat} (hu : u < 281474976710656) (hx : x < 65536) : IntKind.wrap .u64 ((BitVec.ofInt 64 (IntKind.wrap .u64 ((u : Int) * 2 ^ (min 16 64))) ||| BitVec.ofInt 64 (x : Int)).toNat : Int) = ((65536 * u + x : Nat) : Int) := by
  rw [show (2 : Int) ^ (min 16 64) = 65536 by decide, wrapu64_id (n := (u : Int) * 65536) (by omega) (by omega)]
  have e : (BitVec.ofInt 64 ((u : Int) * 65536) ||| BitVec.ofInt 64 (x : Int)).toNat = 65536 * u + x := by
    rw [BitVec.toNat_or, BitVec.toNat_ofInt, BitVec.toNat_ofInt]
    rw [Int.emod_eq_of_lt (by omega) (by simp; omega), Int.emod_eq_of_lt (by omega) (by simp; omega)]
    rw [show ((u : Int) * 65536).toNat = 2 ^ 16 * u by omega, show ((x : Int)).toNat = x by omega]
    exact (Nat.two_pow_add_eq_or_of_lt (by simpa using hx) u).symm
  rw [e]
  exact wrapu64_id (by omega) (by omega)
/-- A number of few digits, back. -/
theorem int_L5 (neg : Bool) (d : List Nat) (ho : ok d) (hl : d.length ≤ 4) {Q : Ret → Prop} (fin : Ev3 (fun k _ _ => f141_J8 k ((val d : Nat) : Int) neg (digs d)) Q) : ∀ (f : Nat) (i : Int) (u : Nat), -1 ≤ i → i < d.length → i + 1 ≤ f → u = val (d.drop (i + 1).toNat) →
    Ev3 (fun k m0 _ => f141_L5 k m0 (u : Int) i neg (digs d)) Q := by
  intro f
  induction f with
  | zero =>
    intro i u h0 h1 hf hu
    rw [show (i + 1).toNat = 0 by omega, List.drop_zero] at hu
    rw [hu]
    exact .loop0 (fun k m0 _ => f141_L5_eq k m0 _ _ _ _) (.condF (by simp; omega) fin)
  | succ f ih =>
    intro i u h0 h1 hf hu
    refine .loop0 (fun k m0 _ => f141_L5_eq k m0 _ _ _ _) (.cond (fun hi => ?_) (fun hi => ?_))
    · have hi := dT hi
      have gi := getD_lt ho i.toNat
      have hdrop : val (d.drop i.toNat) = d.getD i.toNat 0 + 65536 * u := by
        rw [List.drop_eq_getElem_cons (by omega), hu, show (i + 1).toNat = i.toNat + 1 by omega]
        simp [val, List.getD_eq_getElem?_getD, (by omega : i.toNat < d.length)]
      have hub : u < 281474976710656 := by
        have := val_lt (ok_drop ho (i + 1).toNat)
        rw [← hu, List.length_drop] at this
        have h2 : 65536 ^ (d.length - (i + 1).toNat) ≤ 65536 ^ 3 := Nat.pow_le_pow_right (by decide) (by omega)
        have h3 : (65536 : Nat) ^ 3 = 281474976710656 := by decide
        omega
      rw [digs_get hi h1]
      refine .condF rfl (.condT (digs_inB hi h1) (.asInt rfl ?_))
      rw [or16 hub gi, wrap64_id (by omega) (by omega)]
      exact ih (i - 1) _ (by omega) (by omega) (by omega) (by rw [show (i - 1 + 1).toNat = i.toNat by omega, hdrop]; omega)
    · have hi := dF hi
      rw [show (i + 1).toNat = 0 by omega, List.drop_zero] at hu
      rw [hu]; exact fin
theorem Int_ev {v : Int} {L : Nat} {p : PV} (hp : Bg v L p) (hL : L ≤ 700) : Ev P an 141 [.v p] (fun r => (-9223372036854775808 ≤ v ∧ v ≤ 9223372036854775807 ∧ r = ⟨[.v (.int .i64 v), .v (.bool true)], []⟩) ∨ ((v < -9223372036854775808 ∨ 9223372036854775807 < v) ∧ r = ⟨[.v (.int .i64 0), .v (.bool false)], []⟩)) := by
  have up : ∀ {w : Int} {q : PV}, Bg w 4 q → Bg w (L + 4) q := fun ⟨a, b, c, d, e, f, g, h⟩ => ⟨a, b, c, d, e, by omega, g, h⟩
  have hp2 : Bg v (L + 4) p := by obtain ⟨a, b, c, d, e, f, g, h⟩ := hp; exact ⟨a, b, c, d, e, by omega, g, h⟩
  obtain ⟨na, a, ha, hna, hna2, hLa, hxa, rfl⟩ := hp
  refine .fn (fun k => f141_eq k na (digs a)) (.bR (Of_ev _ (by decide) (by decide)) ?_)
  intro r hr
  obtain ⟨n1, d1, hr, rfl⟩ := hr.eta
  refine .condT rfl (.bR (Cmp_ev hp2 (up hr.big) (by omega)) ?_)
  rintro r rfl
  refine .condT rfl (.asInt rfl (.cond (fun hlt => .ret (.inr ⟨.inl ?_, rfl⟩)) (fun hlt => .bR (Of_ev _ (by decide) (by decide)) ?_)))
  · by_cases h : v < -9223372036854775808
    · exact h
    · simp only [h, decide_false, cond] at hlt
      cases hd : decide (v = -9223372036854775808) <;> rw [hd] at hlt <;> exact absurd hlt (by decide)
  have hlo : ¬ v < -9223372036854775808 := by
    intro h; simp only [h, decide_true, cond] at hlt; exact absurd hlt (by decide)
  intro r hr
  obtain ⟨n2, d2, hr, rfl⟩ := hr.eta
  refine .condT rfl (.bR (Cmp_ev hp2 (up hr.big) (by omega)) ?_)
  rintro r rfl
  refine .condT rfl (.asInt rfl (.cond (fun hgt => .ret (.inr ⟨.inr ?_, rfl⟩)) (fun hgt => ?_)))
  · by_cases h : v < 9223372036854775807
    · simp only [h, decide_true, cond] at hgt; exact absurd hgt (by decide)
    · by_cases h2 : v = 9223372036854775807
      · subst h2; simp at hgt
      · omega
  have hhi : v ≤ 9223372036854775807 := by
    by_cases h : v < 9223372036854775807
    · omega
    · by_cases h2 : v = 9223372036854775807
      · omega
      · simp [h, h2] at hgt
  have hv4 : val a < 65536 ^ 4 := by
    unfold bval at hxa
    cases na <;> simp at hxa <;> simp <;> omega
  have hl4 := len_of_val hna hv4
  rw [digs_length, wrap64_id (by omega) (by omega)]
  have fin : Ev3 (fun k _ _ => f141_J8 k ((val a : Nat) : Int) na (digs a)) (fun r => (-9223372036854775808 ≤ v ∧ v ≤ 9223372036854775807 ∧ r = ⟨[.v (.int .i64 v), .v (.bool true)], []⟩) ∨ ((v < -9223372036854775808 ∨ 9223372036854775807 < v) ∧ r = ⟨[.v (.int .i64 0), .v (.bool false)], []⟩)) := by
    refine .eq (fun k _ _ => f141_J8_eq k _ _ _) (.cond (fun h => .ret (.inl ⟨by omega, hhi, ?_⟩)) (fun h => .ret (.inl ⟨by omega, hhi, ?_⟩)))
    · subst h
      have e : IntKind.wrap .i64 (IntKind.wrap .u64 (0 - ((val a : Nat) : Int))) = v := by
        unfold bval at hxa; simp at hxa
        unfold IntKind.wrap; simp [IntKind.bits, IntKind.signed]
        split <;> omega
      rw [e]
    · subst h
      unfold bval at hxa; simp at hxa
      rw [wrap64_id (by omega) (by omega), hxa]
  exact (int_L5 na a ha hl4 fin a.length ((a.length : Int) - 1) 0 (by omega) (by omega) (by omega) (by rw [List.drop_of_length_le (by omega)]; rfl)).in0
end Go.Proofs.Sx.Z
