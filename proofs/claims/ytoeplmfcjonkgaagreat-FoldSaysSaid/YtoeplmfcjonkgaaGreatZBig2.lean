/- Numbers by digits: sums. -/
import Derived.Test.YtoeplmfcjonkgaaGreatZBig
set_option linter.unusedVariables false
set_option linter.unusedSimpArgs false
namespace Go.Proofs.Sx.Z
open Go Go.Proofs.Dig

theorem RB.eta {v : Int} {L : Nat} {r : Ret} (h : RB v L r) : ∃ (neg : Bool) (d : List Nat), RB v L ⟨[.v (bigP neg d)], []⟩ ∧ r = ⟨[.v (bigP neg d)], []⟩ := by
  obtain ⟨s, ⟨neg, d, a, b, c, e, f, rfl⟩, rfl⟩ := h
  exact ⟨neg, d, ⟨_, ⟨neg, d, a, b, c, e, f, rfl⟩, rfl⟩, rfl⟩
theorem RB.big {v : Int} {L : Nat} {neg : Bool} {d : List Nat} (h : RB v L ⟨[.v (bigP neg d)], []⟩) : Bg v L (bigP neg d) := by
  obtain ⟨s, hs, he⟩ := h
  have : bigP neg d = s := by injection he with h1 _; injection h1 with h1 _; injection h1
  rw [this]; exact hs

/-- One step of a difference, in numbers. -/
theorem sub_nums {a b c : Nat} (ha : a < 65536) (hb : b < 65536) (hc : c ≤ 1) :
    IntKind.wrap .u64 (IntKind.wrap .u64 (IntKind.wrap .u64 ((a : Int) + 65536) - (b : Int)) - (c : Int)) = ((a + 65536 - b - c : Nat) : Int) := by
  rw [wrapu64_id (n := (a : Int) + 65536) (by omega) (by omega), wrapu64_id (n := (a : Int) + 65536 - b) (by omega) (by omega), wrapu64_id (by omega) (by omega)]; omega
theorem getD_lt {a : List Nat} (h : ok a) (i : Nat) : a.getD i 0 < 65536 := ok_getD h i

theorem sub_L7 (neg : Bool) (a b : List Nat) (nb : Bool) (ha : ok a) (hb : ok b) (hna : norm a) (hnb : norm b) (hle : val b ≤ val a) (L : Nat) (hL : a.length ≤ L) (hL2 : L ≤ 1000) :
    ∀ (f : Nat) (i : Nat) (c : Nat) (acc : List Nat), i ≤ a.length → a.length - i ≤ f → acc.length = i → c ≤ 1 → ok acc → val acc + val (b.take acc.length) = val (a.take acc.length) + 65536 ^ acc.length * c →
      Ev3 (fun k m0 _ => f101_L7 k m0 (c : Int) (i : Int) neg (digs a) nb (digs b) false (digs acc) []) (RB (cond neg (-((val a - val b : Nat) : Int)) ((val a - val b : Nat) : Int)) L) := by
  have fin : ∀ (acc : List Nat) (c : Nat), acc.length = a.length → c ≤ 1 → ok acc → val acc + val (b.take acc.length) = val (a.take acc.length) + 65536 ^ acc.length * c →
      Ev3 (fun k _ _ => f101_J12 k neg (digs a) false (digs acc) []) (RB (cond neg (-((val a - val b : Nat) : Int)) ((val a - val b : Nat) : Int)) L) := by
    intro acc c hlen hc ho hv
    have hbl : b.length ≤ a.length := by
      rcases Nat.lt_or_ge a.length b.length with h | h
      · have := lt_of_length ha hnb h; omega
      · exact h
    rw [val_take_ge (a := b) (by omega), val_take_ge (a := a) (by omega)] at hv
    have hlt := val_lt ho
    have hc0 : c = 0 := by
      rcases (by omega : c = 0 ∨ c = 1) with h | h
      · exact h
      · subst h; rw [Nat.mul_one] at hv; omega
    subst hc0
    have hacc : val acc = val a - val b := by simp at hv; omega
    refine .eq (fun k _ _ => f101_J12_eq k _ _ _ _ _) (.bR (trim_ev neg acc ho (by omega)) ?_)
    rintro r ⟨s, ⟨neg', d, h1, h2, h3, h4, h5, rfl⟩, rfl⟩
    refine .condT rfl (.condT rfl (.ret ⟨_, ⟨neg', d, h1, h2, h3, by omega, ?_, rfl⟩, rfl⟩))
    rw [h5, ← hacc]; rfl
  intro f
  induction f with
  | zero =>
    intro i c acc hi hf hlen hc ho hv
    exact .loop0 (fun k m0 _ => f101_L7_eq k m0 _ _ _ _ _ _ _ _ _) (.condF (by rw [digs_length]; simp; omega) (fin acc c (by omega) hc ho hv))
  | succ f ih =>
    intro i c acc hi hf hlen hc ho hv
    refine .loop0 (fun k m0 _ => f101_L7_eq k m0 _ _ _ _ _ _ _ _ _) (.cond (fun h => ?_) (fun h => fin acc c (by have := dF h; rw [digs_length] at this; omega) hc ho hv))
    have h := dT h
    rw [digs_length] at h
    rw [digs_get (by omega) h]
    refine .condT (digs_inB (by omega) h) (.asInt rfl (.bR (digit_big b i (by omega)) ?_))
    rintro r rfl
    have ga := getD_lt ha i
    have gb := getD_lt hb i
    rw [show ((i : Int).toNat) = i by omega]
    refine .condT rfl (.asInt rfl ?_)
    rw [sub_nums ga gb hc]
    generalize hx : a.getD i 0 + 65536 - b.getD i 0 - c = x
    rw [and16 (by omega) (by omega), shr16 (by omega), show ((x : Int).toNat) = x by omega, wrapu64_id (n := 1 - ((x / 65536 : Nat) : Int)) (by omega) (by omega), wrap64_id (n := (i : Int) + 1) (by omega) (by omega)]
    refine .condT (by rw [digs_length]; exact roomD (by omega)) (.condF rfl ?_)
    have st := sub_step (d := acc) (a := a) (b := b) (c := c) (x := x) hv (by rw [hlen]; omega) (by omega)
    have := ih (i + 1) (1 - x / 65536) (acc ++ [x % 65536]) (by omega) (by omega) (by simp; omega) (by omega) (ok_append.2 ⟨ho, ok_cons.2 ⟨by omega, ok_nil⟩⟩) st
    rw [digs_append] at this
    rw [show (1 - ((x / 65536 : Nat) : Int)) = ((1 - x / 65536 : Nat) : Int) by omega, show (i : Int) + 1 = ((i + 1 : Nat) : Int) by omega]
    exact this

theorem add_nums {a b c : Nat} (ha : a < 65536) (hb : b < 65536) (hc : c ≤ 1) : IntKind.wrap .u64 (IntKind.wrap .u64 ((a : Int) + (b : Int)) + (c : Int)) = ((a + b + c : Nat) : Int) := by
  rw [wrapu64_id (n := (a : Int) + b) (by omega) (by omega), wrapu64_id (by omega) (by omega)]; omega
theorem add_L16 (neg : Bool) (a b : List Nat) (nb : Bool) (ha : ok a) (hb : ok b) (L : Nat) (hLa : a.length ≤ L) (hLb : b.length ≤ L) (hL2 : L ≤ 1000) :
    ∀ (f : Nat) (i : Nat) (c : Nat) (acc : List Nat), i ≤ L + 1 → L + 1 - i ≤ f → (i = L + 1 → c = 0) → acc.length = i → c ≤ 1 → ok acc → val acc + 65536 ^ acc.length * c = val (a.take acc.length) + val (b.take acc.length) →
      Ev3 (fun k m0 _ => f101_L16 k m0 (c : Int) (i : Int) neg (digs a) nb (digs b) false (digs acc) []) (RB (cond neg (-((val a + val b : Nat) : Int)) ((val a + val b : Nat) : Int)) (L + 1)) := by
  have fin : ∀ (acc : List Nat) (i : Nat), acc.length = i → i ≤ L + 1 → a.length ≤ i → b.length ≤ i → ok acc → val acc + 65536 ^ acc.length * 0 = val (a.take acc.length) + val (b.take acc.length) →
      Ev3 (fun k _ _ => f101_J21 k neg (digs a) false (digs acc) []) (RB (cond neg (-((val a + val b : Nat) : Int)) ((val a + val b : Nat) : Int)) (L + 1)) := by
    intro acc i hlen hi h1 h2 ho hv
    rw [val_take_ge (a := b) (by omega), val_take_ge (a := a) (by omega)] at hv
    have hv : val acc = val a + val b := by simpa using hv
    refine .eq (fun k _ _ => f101_J21_eq k _ _ _ _ _) (.bR (trim_ev neg acc ho (by omega)) ?_)
    rintro r ⟨s, ⟨neg', d, h1, h2, h3, h4, h5, rfl⟩, rfl⟩
    refine .condT rfl (.condT rfl (.ret ⟨_, ⟨neg', d, h1, h2, h3, by omega, ?_, rfl⟩, rfl⟩))
    rw [h5, ← hv]; rfl
  intro f
  induction f with
  | zero =>
    intro i c acc hi hf hend hlen hc ho hv
    have hc0 : c = 0 := hend (by omega)
    subst hc0
    refine .loop0 (fun k m0 _ => f101_L16_eq k m0 _ _ _ _ _ _ _ _ _) (.condF (by rw [digs_length]; simp; omega) (.condF (by rw [digs_length]; simp; omega) (.condF rfl (fin acc i hlen hi (by omega) (by omega) ho hv))))
  | succ f ih =>
    intro i c acc hi hf hend hlen hc ho hv
    have ga := getD_lt ha i
    have gb := getD_lt hb i
    have body : (i < L ∨ (i = L ∧ c = 1)) → Ev3 (fun k m0 _ => bR (sem P an k 145 [(.v (PV.list 185 (digs a))), (.v (PV.int .i64 (i : Int)))]) fun r1375 => cond (okCV [] 0 1 r1375.res && okLents [] r1375.lent && r1375.res.all isFlatCV) (bR (sem P an k 145 [(.v (PV.list 185 (digs b))), (.v (PV.int .i64 (i : Int)))]) fun r1376 => cond (okCV [] 0 1 r1376.res && okLents [] r1376.lent && r1376.res.all isFlatCV) (asInt .u64 (cvP (resC 0 r1375)) fun n1377 => asInt .u64 (cvP (resC 0 r1376)) fun n1378 => cond (Nat.ble (((digs acc).length + [(PV.int .u64 (IntKind.wrap .u64 (BitVec.ofInt 64 (IntKind.wrap .u64 (IntKind.wrap .u64 (n1377 + n1378) + (c : Int))) &&& BitVec.ofInt 64 65535).toNat))].length) * 8) 140737488355328 && Nat.ble ((digs acc).length + [(PV.int .u64 (IntKind.wrap .u64 (BitVec.ofInt 64 (IntKind.wrap .u64 (IntKind.wrap .u64 (n1377 + n1378) + (c : Int))) &&& BitVec.ofInt 64 65535).toNat))].length) 9223372036854775807) (cond (decide (16 < 0)) (none) (f101_L16 k m0 (Int.fdiv (IntKind.wrap .u64 (IntKind.wrap .u64 (n1377 + n1378) + (c : Int))) (2 ^ (min 16 64))) (IntKind.wrap .i64 ((i : Int) + 1)) neg (digs a) nb (digs b) false (digs acc ++ [(PV.int .u64 (IntKind.wrap .u64 (BitVec.ofInt 64 (IntKind.wrap .u64 (IntKind.wrap .u64 (n1377 + n1378) + (c : Int))) &&& BitVec.ofInt 64 65535).toNat))]) [])) (none)) (none)) (none))
        (RB (cond neg (-((val a + val b : Nat) : Int)) ((val a + val b : Nat) : Int)) (L + 1)) := by
      intro hcase
      refine .bR (digit_big a i (by omega)) ?_
      rintro r rfl
      refine .condT rfl (.bR (digit_big b i (by omega)) ?_)
      rintro r rfl
      rw [show ((i : Int).toNat) = i by omega]
      refine .condT rfl (.asInt rfl (.asInt rfl ?_))
      rw [add_nums ga gb hc]
      generalize hx : a.getD i 0 + b.getD i 0 + c = x
      rw [and16 (by omega) (by omega), shr16 (by omega), show ((x : Int).toNat) = x by omega, wrap64_id (n := (i : Int) + 1) (by omega) (by omega)]
      refine .condT (by rw [digs_length]; exact roomD (by omega)) (.condF rfl ?_)
      have st := add_step (d := acc) (a := a) (b := b) (c := c) (x := x) hv (by rw [hlen]; omega)
      have hz : L ≤ i → a.getD i 0 = 0 ∧ b.getD i 0 = 0 := fun h => by
        constructor <;> rw [List.getD_eq_getElem?_getD, List.getElem?_eq_none (by omega)] <;> rfl
      have := ih (i + 1) (x / 65536) (acc ++ [x % 65536]) (by omega) (by omega) (fun h => by have := hz (by omega); omega) (by simp; omega) (by omega) (ok_append.2 ⟨ho, ok_cons.2 ⟨by omega, ok_nil⟩⟩) st
      rw [digs_append] at this
      rw [show (i : Int) + 1 = ((i + 1 : Nat) : Int) by omega]
      exact this
    refine .loop0 (fun k m0 _ => f101_L16_eq k m0 _ _ _ _ _ _ _ _ _) (.cond (fun h => body ?_) (fun h1 => .cond (fun h => body ?_) (fun h2 => .cond (fun h => body ?_) (fun h3 => ?_))))
    · have := dT h; rw [digs_length] at this; omega
    · have := dT h; rw [digs_length] at this; omega
    · have h := dT h
      have : i ≠ L + 1 := fun e => by have := hend e; omega
      omega
    · have h1 := dF h1; have h2 := dF h2; have h3 := dF h3
      rw [digs_length] at h1 h2
      have hc0 : c = 0 := by omega
      subst hc0
      exact fin acc i hlen hi (by omega) (by omega) ho hv

theorem Add_ev {x y : Int} {L : Nat} {p q : PV} (hp : Bg x L p) (hq : Bg y L q) (hL : L ≤ 900) : Ev P an 101 [.v p, .v q] (RB (x + y) (L + 1)) := by
  obtain ⟨na, a, ha, hna, hna2, hLa, hxa, rfl⟩ := hp
  obtain ⟨nb, b, hb, hnb, hnb2, hLb, hyb, rfl⟩ := hq
  refine .fn (fun k => f101_eq k na (digs a) nb (digs b)) (.cond (fun hne => .bR (less_ev a b ha hb hna hnb (by omega)) ?_) (fun he => ?_))
  · have hne : na ≠ nb := by intro e; subst e; simp at hne
    rintro r rfl
    refine .condT rfl (.asBool rfl (.cond (fun hlt => ?_) (fun hlt => ?_)))
    · have hlt := dT hlt
      have := (sub_L7 nb b a na hb ha hnb hna (by omega) L hLb (by omega) b.length 0 0 [] (by omega) (by omega) rfl (by omega) ok_nil (by simp [val])).in0
      refine .eq (fun k _ _ => f101_J4_eq k _ _ _ _ _ _) (.mono this fun r hr => ?_)
      rw [show x + y = cond nb (-((val b - val a : Nat) : Int)) ((val b - val a : Nat) : Int) by
        rw [← hxa, ← hyb]; unfold bval; cases na <;> cases nb <;> simp at hne ⊢ <;> omega]
      obtain ⟨s, ⟨n, d, h1, h2, h3, h4, h5, h6⟩, h7⟩ := hr
      exact ⟨s, ⟨n, d, h1, h2, h3, by omega, h5, h6⟩, h7⟩
    · have hlt := dF hlt
      have := (sub_L7 na a b nb ha hb hna hnb (by omega) L hLa (by omega) a.length 0 0 [] (by omega) (by omega) rfl (by omega) ok_nil (by simp [val])).in0
      refine .eq (fun k _ _ => f101_J4_eq k _ _ _ _ _ _) (.mono this fun r hr => ?_)
      rw [show x + y = cond na (-((val a - val b : Nat) : Int)) ((val a - val b : Nat) : Int) by
        rw [← hxa, ← hyb]; unfold bval; cases na <;> cases nb <;> simp at hne ⊢ <;> omega]
      obtain ⟨s, ⟨n, d, h1, h2, h3, h4, h5, h6⟩, h7⟩ := hr
      exact ⟨s, ⟨n, d, h1, h2, h3, by omega, h5, h6⟩, h7⟩
  · have he : na = nb := by simpa using he
    subst he
    have := (add_L16 na a b na ha hb L hLa hLb (by omega) (L + 1) 0 0 [] (by omega) (by omega) (fun h => by omega) rfl (by omega) ok_nil (by simp [val])).in0
    refine .mono this fun r hr => ?_
    rw [show x + y = cond na (-((val a + val b : Nat) : Int)) ((val a + val b : Nat) : Int) by
      rw [← hxa, ← hyb]; unfold bval; cases na <;> simp <;> omega]
    exact hr

theorem Cmp_ev {x y : Int} {L : Nat} {p q : PV} (hp : Bg x L p) (hq : Bg y L q) (hL : L ≤ 800) : Ev P an 178 [.v p, .v q] (fun r => r = ⟨[.v (.int .i64 (cond (decide (x < y)) (-1) (cond (decide (x = y)) 0 1)))], []⟩) := by
  have hq' := hq
  have hp' := hp
  obtain ⟨na, a, ha, hna, hna2, hLa, hxa, rfl⟩ := hp'
  obtain ⟨nb, b, hb, hnb, hnb2, hLb, hyb, rfl⟩ := hq'
  refine .fn (fun k => f178_eq k na (digs a) nb (digs b)) (.bR (Minus_ev hq (by omega)) ?_)
  intro r hr
  obtain ⟨n1, d1, hr, rfl⟩ := hr.eta
  refine .condT rfl (.bR (Add_ev hp hr.big (by omega)) ?_)
  intro r hr
  obtain ⟨n2, d2, hr, rfl⟩ := hr.eta
  obtain ⟨n3, d3, h1, h2, h3, h4, h5, h6⟩ := hr.big
  injection h6 with h6; injection h6 with h6 h7; injection h7 with h7 _; injection h6 with h6; injection h7 with _ h7
  have hd : d2 = d3 := by
    have e : ∀ (u v : List Nat), digs u = digs v → u = v := by
      intro u
      induction u with
      | nil => intro v h; cases v with
        | nil => rfl
        | cons _ _ => simp [digs] at h
      | cons c u ih => intro v h; cases v with
        | nil => simp [digs] at h
        | cons c' v =>
          simp only [digs, List.map_cons, List.cons.injEq, PV.int.injEq, true_and] at h
          rw [ih v h.2]; congr 1; omega
    exact e _ _ h7
  subst h6 hd
  refine .condT rfl (.condT rfl (.asList rfl ?_))
  rw [digs_length]
  have hz := val_zero h2
  refine .cond (fun h => .ret ?_) (fun h => .asBool rfl (.cond (fun hn => .ret ?_) (fun hn => .ret ?_)))
  · have h : d2 = [] := List.length_eq_zero_iff.1 (by have : (d2.length : Int) = 0 := by simpa using h
                                                      omega)
    subst h
    rw [h3 rfl] at h5
    have : x = y := by simp [bval, val] at h5; omega
    subst this; simp
  · have hne : d2 ≠ [] := by intro e; subst e; simp at h
    have hp := val_pos h2 hne
    subst hn
    have : x < y := by simp [bval] at h5; omega
    simp [this]
  · have hne : d2 ≠ [] := by intro e; subst e; simp at h
    have hp := val_pos h2 hne
    subst hn
    have h1 : ¬ x < y := by simp [bval] at h5; omega
    have h2 : ¬ x = y := by simp [bval] at h5; omega
    simp [h1, h2]
end Go.Proofs.Sx.Z
