/- The operators of both come to the same: each. -/
import Derived.Test.YtoeplmfcjonkgaaGreatZOps2
set_option linter.unusedVariables false
set_option linter.unusedSimpArgs false
namespace Go.Proofs.Sx.Z
open Go

def IsVr (x : Ret) : Prop := ∃ kk nn e, x = vr kk nn e ∧ (e = 0 → FitP kk nn)
theorem fin_vr {f : FuncId} {args : List PA} {x : Ret} (hx : IsVr x) (h : Ev P an f args (IsR x)) :
    Ev3 (fun k _ _ => bR (sem P an k f args) fun r => cond (okCV [] 0 2 r.res && okLents [] r.lent && true) (cond (isAggN 3 (cvP (resC 0 r))) (some ⟨[.v (PV.agg [(cellP 0 (cvP (resC 0 r))), (cellP 1 (cvP (resC 0 r))), (cellP 2 (cvP (resC 0 r)))]), .v (cvP (resC 1 r))], []⟩) (none)) (none)) (IsR x) := by
  obtain ⟨kk, nn, e, rfl, _⟩ := hx
  refine .bR h ?_
  rintro r rfl
  exact .condT rfl (.condT rfl (.ret rfl))
theorem Nar.quo {z : Int} {r : Ret} (h : Nar z r) : Quo z r := by
  rcases h with ⟨h1, h2, rfl⟩ | ⟨h, rfl⟩
  · exact ⟨z, true, fun _ => rfl, by simp, rfl⟩
  · exact ⟨0, false, by simp, fun _ => h, rfl⟩
theorem made_quo {k v q : Int} {ok : Bool} (h1 : ok = true → v = q) (h2 : ok = false → q < -9223372036854775808 ∨ 9223372036854775807 < q) : Ev P an 90 [.v (.int .i64 k), .v (.int .i64 v), .v (.bool ok)] (IsR (fitRes k q)) :=
  made_ev k v q ok h1 fun h => fitB_far (h2 h)
def Sm (n : Int) : Prop := -4503599627370496 ≤ n ∧ n ≤ 4503599627370496
theorem Sm.w {n : Int} (h : Sm n) : -9007199254740992 ≤ n ∧ n ≤ 9007199254740992 := by unfold Sm at h; omega

theorem times_J4 {k v q : Int} {ok : Bool} (h1 : ok = true → v = q) (h2 : ok = false → q < -9223372036854775808 ∨ 9223372036854775807 < q) : Ev3 (fun kk _ _ => f92_J4 kk k (.int .i64 v) (.bool ok) 0 0 []) (IsR (fitRes k q)) :=
  .eq (fun kk _ _ => f92_J4_eq kk _ _ _ _ _ _) (fin_vr (fitRes_vr _ _) (made_quo h1 h2))
theorem times_ev (k k1 n1 k2 n2 : Int) (h1 : Sm n1) (h2 : Sm n2) : Ev P an 92 [.v (.int .i64 k), .v (valP k1 n1 []), .v (valP k2 n2 [])] (IsR (fitRes k (cond (k == 3 && (k1 == 4 || k2 == 4)) (n1 * n2 / 1000000) (n1 * n2)))) := by
  have w1 := h1.w; have w2 := h2.w
  refine .fn (fun kk => f92_eq kk k k1 n1 [] k2 n2 []) (.bR (mul_ev n1 n2 (by omega) (by omega) (by omega) (by omega)) ?_)
  intro r hr
  obtain ⟨v, ok, q1, q2, rfl⟩ := hr.quo
  have rate : Ev3 (fun kk _ _ => bR (sem P an kk 139 [(.v (PV.int .i64 n1)), (.v (PV.int .i64 n2)), (.v (PV.int .i64 1000000))]) fun r982 => cond (okCV [] 0 2 r982.res && okLents [] r982.lent && r982.res.all isFlatCV) (f92_J4 kk k (cvP (resC 0 r982)) (cvP (resC 1 r982)) 0 0 []) (none)) (IsR (fitRes k (n1 * n2 / 1000000))) := by
    refine .bR (mulFloor_ev n1 n2 1000000 w1 w2 (by decide) (by decide)) ?_
    rintro r ⟨v, ok, q1, q2, rfl⟩
    exact .condT rfl (times_J4 q1 q2)
  refine .condT rfl (.cond (fun h3 => .cond (fun h4 => ?_) (fun h4 => .cond (fun h5 => ?_) (fun h5 => ?_))) (fun h3 => ?_))
  · rw [h3, h4]; exact rate
  · rw [h3, h4, h5]; exact rate
  · rw [h3, h4, h5]; exact times_J4 q1 q2
  · rw [h3]; exact times_J4 q1 q2
theorem over_J12 {k x y q : Int} (hx : Sm x) (hy : 1 ≤ y) (hy2 : Sm y) (hq : q = x * 1000000 / y) : Ev3 (fun kk _ _ => f93_J12 kk k (.int .i64 x) (.int .i64 y) (.bool true) 0 0 []) (IsR (fitRes k q)) := by
  have w1 := hx.w; have w2 := hy2.w
  subst hq
  refine .eq (fun kk _ _ => f93_J12_eq kk _ _ _ _ _ _ _) (.asBool rfl (.condF rfl (.bR (mulFloor_ev x 1000000 y w1 (by decide) hy (by omega)) ?_)))
  rintro r ⟨v, ok, q1, q2, rfl⟩
  exact .condT rfl (fin_vr (fitRes_vr _ _) (made_quo q1 q2))
theorem over_ev (k k1 n1 k2 n2 : Int) (h1 : Sm n1) (h2 : Sm n2) : Ev P an 93 [.v (.int .i64 k), .v (valP k1 n1 []), .v (valP k2 n2 [])] (IsR (cond (n2 == 0) (vr 0 0 11) (fitRes k (cond (k == 4) (flI (n1 * 1000000) n2) (flI n1 n2))))) := by
  have w1 := h1.w; have w2 := h2.w
  refine .fn (fun kk => f93_eq kk k k1 n1 [] k2 n2 []) (.cond (fun h0 => .ret (by rw [h0]; rfl)) (fun h0 => ?_))
  rw [h0]
  have hn0 := eF h0
  refine .cond (fun h4 => .bR (floorN_ev n1 n2 w1 w2 hn0) ?_) (fun h4 => .cond (fun hn => .bR (subN_ev 0 n1 (by decide) w1) ?_) (fun hn => ?_))
  · have h4 : (k == 4) = false := by simpa using h4
    rintro r rfl
    rw [h4]
    exact .condT rfl (fin_vr (fitRes_vr _ _) (made_ev k _ _ true (fun _ => rfl) (by simp)))
  · have h4 : (k == 4) = true := by simpa using h4
    have hn := dT hn
    rintro r rfl
    refine .condT rfl (.bR (subN_ev 0 n2 (by decide) w2) ?_)
    rintro r rfl
    rw [h4]
    refine .condT rfl (.asBool rfl (.condT rfl (over_J12 (x := 0 - n1) (y := 0 - n2) (by unfold Sm at *; omega) (by omega) (by unfold Sm at *; omega) ?_)))
    show flI (n1 * 1000000) n2 = _
    unfold flI
    rw [decide_eq_false (by omega : ¬ 0 < n2)]
    show -(n1 * 1000000) / -n2 = _
    rw [Int.zero_sub, Int.zero_sub, Int.neg_mul]
  · have h4 : (k == 4) = true := by simpa using h4
    have hn := dF hn
    rw [h4]
    refine over_J12 (x := n1) (y := n2) h1 (by omega) h2 ?_
    show flI (n1 * 1000000) n2 = _
    unfold flI
    rw [decide_eq_true (by omega : 0 < n2)]; rfl

theorem R_J23 {k q : Int} {L : Nat} {na : Bool} {a : List Nat} (hp : Bg q L (bigP na a)) (hL : L ≤ 700) : Ev3 (fun kk _ _ => f41_J23 kk (.int .i64 k) 0 0 (.bool na) (.list 185 (digs a)) []) (IsR (fitRes k q)) :=
  .eq (fun kk _ _ => f41_J23_eq kk _ _ _ _ _ _) (fin_vr (fitRes_vr _ _) (fitted_ev k q hp hL))
theorem R_J29 {k x y : Int} {L : Nat} {na nb : Bool} {a b : List Nat} (hp : Bg x L (bigP na a)) (hq : Bg y L (bigP nb b)) (hL : L ≤ 300) (hy : y ≠ 0) : Ev3 (fun kk _ _ => f41_J29 kk (.int .i64 k) 0 0 (.bool na) (.list 185 (digs a)) (.bool nb) (.list 185 (digs b)) []) (IsR (fitRes k (flI x y))) := by
  refine .eq (fun kk _ _ => f41_J29_eq kk _ _ _ _ _ _ _ _) (.bR (Floor_ev hp hq hL hy) ?_)
  intro r hr
  obtain ⟨n1, d1, hr, rfl⟩ := hr.eta
  exact .condT rfl (fin_vr (fitRes_vr _ _) (fitted_ev k _ hr.big (by omega)))
theorem Bg.up {v : Int} {L L' : Nat} {p : PV} (h : Bg v L p) (hl : L ≤ L') : Bg v L' p := by obtain ⟨a, b, c, d, e, f, g, i⟩ := h; exact ⟨a, b, c, d, e, by omega, g, i⟩
theorem fl_mil (z : Int) : flI z 1000000 = z / 1000000 := rfl

theorem op_sAdd (k1 n1 k2 n2 : Int) (f1 : FitP k1 n1) (f2 : FitP k2 n2) : OpBoth sAdd k1 n1 k2 n2 := by
  obtain ⟨a1, a5, sa, sb⟩ := f1.small
  obtain ⟨b1, b5, sc, sd⟩ := f2.small
  have s1 : Sm n1 := ⟨sa, sb⟩
  have s2 : Sm n2 := ⟨sc, sd⟩
  have w1 := s1.w; have w2 := s2.w
  obtain ⟨ta, tb⟩ := two_add k1 k2 a1 a5 b1 b5
  cases h0 : (tAdd k1 k2 == 0) with
  | true =>
    refine opBoth_of (vr_err 8 (by decide)) (.fn (fun kk => f40_eq kk _ _ _ _ _ _ _) (.condF (by decide +kernel) (.condF (by decide +kernel) (.bR ta ?_)))) (.fn (fun kk => f41_eq kk _ _ _ _ _ _ _) (.condF (by decide +kernel) (.condF (by decide +kernel) (.bR tb ?_))))
    · rintro r rfl
      exact .condT rfl (.asInt rfl (.condT h0 (.ret rfl)))
    · rintro r rfl
      exact .condT rfl (.asInt rfl (.condT h0 (.ret rfl)))
  | false =>
  refine opBoth_of (x := fitRes (tAdd k1 k2) (n1 + n2)) (fitRes_vr _ _) (.fn (fun kk => f40_eq kk _ _ _ _ _ _ _) (.condF (by decide +kernel) (.condF (by decide +kernel) (.bR ta ?_)))) (.fn (fun kk => f41_eq kk _ _ _ _ _ _ _) (.condF (by decide +kernel) (.condF (by decide +kernel) (.bR tb ?_))))
  · rintro r rfl
    refine .condT rfl (.asInt rfl (.condF h0 (.condT (strEq_self _) (.bR (addN_ev n1 n2 w1 w2) ?_))))
    rintro r rfl
    exact .condT rfl (fin_vr (fitRes_vr _ _) (made_ev _ _ _ true (fun _ => rfl) (by simp)))
  · rintro r rfl
    refine .condT rfl (.asInt rfl (.condF h0 (.bR (Of_ev n1 (by omega) (by omega)) ?_)))
    intro r hx
    obtain ⟨nx, dx, hx, rfl⟩ := hx.eta
    refine .condT rfl (.condT rfl (.bR (Of_ev n2 (by omega) (by omega)) ?_))
    intro r hy
    obtain ⟨ny, dy, hy, rfl⟩ := hy.eta
    refine .condT rfl (.condT rfl (.bR (Of_ev 1000000 (by decide) (by decide)) ?_))
    intro r hm
    obtain ⟨nm, dm, hm, rfl⟩ := hm.eta
    refine .condT rfl (.condT rfl (.condT (strEq_self _) (.bR (Add_ev hx.big hy.big (by decide)) ?_)))
    intro r hr
    obtain ⟨nr, dr, hr, rfl⟩ := hr.eta
    exact .condT rfl (fin_vr (fitRes_vr _ _) (fitted_ev _ _ hr.big (by decide)))

theorem op_sSub (k1 n1 k2 n2 : Int) (f1 : FitP k1 n1) (f2 : FitP k2 n2) : OpBoth sSub k1 n1 k2 n2 := by
  obtain ⟨a1, a5, sa, sb⟩ := f1.small
  obtain ⟨b1, b5, sc, sd⟩ := f2.small
  have s1 : Sm n1 := ⟨sa, sb⟩
  have s2 : Sm n2 := ⟨sc, sd⟩
  have w1 := s1.w; have w2 := s2.w
  obtain ⟨ta, tb⟩ := two_sub k1 k2 a1 a5 b1 b5
  cases h0 : (tSub k1 k2 == 0) with
  | true =>
    refine opBoth_of (vr_err 8 (by decide)) (.fn (fun kk => f40_eq kk _ _ _ _ _ _ _) (.condF (by decide +kernel) (.condF (by decide +kernel) (.bR ta ?_)))) (.fn (fun kk => f41_eq kk _ _ _ _ _ _ _) (.condF (by decide +kernel) (.condF (by decide +kernel) (.bR tb ?_))))
    · rintro r rfl
      exact .condT rfl (.asInt rfl (.condT h0 (.ret rfl)))
    · rintro r rfl
      exact .condT rfl (.asInt rfl (.condT h0 (.ret rfl)))
  | false =>
  refine opBoth_of (x := fitRes (tSub k1 k2) (n1 - n2)) (fitRes_vr _ _) (.fn (fun kk => f40_eq kk _ _ _ _ _ _ _) (.condF (by decide +kernel) (.condF (by decide +kernel) (.bR ta ?_)))) (.fn (fun kk => f41_eq kk _ _ _ _ _ _ _) (.condF (by decide +kernel) (.condF (by decide +kernel) (.bR tb ?_))))
  · rintro r rfl
    refine .condT rfl (.asInt rfl (.condF h0 (.condF (by decide +kernel) (.condT (strEq_self _) (.bR (subN_ev n1 n2 w1 w2) ?_)))))
    rintro r rfl
    exact .condT rfl (fin_vr (fitRes_vr _ _) (made_ev _ _ _ true (fun _ => rfl) (by simp)))
  · rintro r rfl
    refine .condT rfl (.asInt rfl (.condF h0 (.bR (Of_ev n1 (by omega) (by omega)) ?_)))
    intro r hx
    obtain ⟨nx, dx, hx, rfl⟩ := hx.eta
    refine .condT rfl (.condT rfl (.bR (Of_ev n2 (by omega) (by omega)) ?_))
    intro r hy
    obtain ⟨ny, dy, hy, rfl⟩ := hy.eta
    refine .condT rfl (.condT rfl (.bR (Of_ev 1000000 (by decide) (by decide)) ?_))
    intro r hm
    obtain ⟨nm, dm, hm, rfl⟩ := hm.eta
    refine .condT rfl (.condT rfl (.condF (by decide +kernel) (.condT (strEq_self _) (.bR (Minus_ev hy.big (by decide)) ?_))))
    intro r hr
    obtain ⟨nr, dr, hr, rfl⟩ := hr.eta
    refine .condT rfl (.bR (Add_ev hx.big hr.big (by decide)) ?_)
    intro r hr
    obtain ⟨nr, dr, hr, rfl⟩ := hr.eta
    rw [show n1 - n2 = n1 + -n2 by omega]
    exact .condT rfl (fin_vr (fitRes_vr _ _) (fitted_ev _ _ hr.big (by decide)))

theorem op_sMul (k1 n1 k2 n2 : Int) (f1 : FitP k1 n1) (f2 : FitP k2 n2) : OpBoth sMul k1 n1 k2 n2 := by
  obtain ⟨a1, a5, sa, sb⟩ := f1.small
  obtain ⟨b1, b5, sc, sd⟩ := f2.small
  have s1 : Sm n1 := ⟨sa, sb⟩
  have s2 : Sm n2 := ⟨sc, sd⟩
  have w1 := s1.w; have w2 := s2.w
  obtain ⟨ta, tb⟩ := two_mul k1 k2 a1 a5 b1 b5
  cases h0 : (tMul k1 k2 == 0) with
  | true =>
    refine opBoth_of (vr_err 8 (by decide)) (.fn (fun kk => f40_eq kk _ _ _ _ _ _ _) (.condF (by decide +kernel) (.condF (by decide +kernel) (.bR ta ?_)))) (.fn (fun kk => f41_eq kk _ _ _ _ _ _ _) (.condF (by decide +kernel) (.condF (by decide +kernel) (.bR tb ?_))))
    · rintro r rfl
      exact .condT rfl (.asInt rfl (.condT h0 (.ret rfl)))
    · rintro r rfl
      exact .condT rfl (.asInt rfl (.condT h0 (.ret rfl)))
  | false =>
  refine opBoth_of (x := fitRes (tMul k1 k2) (cond (tMul k1 k2 == 3 && (k1 == 4 || k2 == 4)) (n1 * n2 / 1000000) (n1 * n2))) (fitRes_vr _ _) (.fn (fun kk => f40_eq kk _ _ _ _ _ _ _) (.condF (by decide +kernel) (.condF (by decide +kernel) (.bR ta ?_)))) (.fn (fun kk => f41_eq kk _ _ _ _ _ _ _) (.condF (by decide +kernel) (.condF (by decide +kernel) (.bR tb ?_))))
  · rintro r rfl
    refine .condT rfl (.asInt rfl (.condF h0 (.condF (by decide +kernel) (.condF (by decide +kernel) (.condT (strEq_self _) (?_))))))
    exact fin_vr (fitRes_vr _ _) (times_ev _ k1 n1 k2 n2 s1 s2)
  · rintro r rfl
    refine .condT rfl (.asInt rfl (.condF h0 (.bR (Of_ev n1 (by omega) (by omega)) ?_)))
    intro r hx
    obtain ⟨nx, dx, hx, rfl⟩ := hx.eta
    refine .condT rfl (.condT rfl (.bR (Of_ev n2 (by omega) (by omega)) ?_))
    intro r hy
    obtain ⟨ny, dy, hy, rfl⟩ := hy.eta
    refine .condT rfl (.condT rfl (.bR (Of_ev 1000000 (by decide) (by decide)) ?_))
    intro r hm
    obtain ⟨nm, dm, hm, rfl⟩ := hm.eta
    refine .condT rfl (.condT rfl (.condF (by decide +kernel) (.condF (by decide +kernel) (.condT (strEq_self _) (.bR (Mul_ev hx.big hy.big (by decide)) ?_)))))
    intro r hr
    obtain ⟨nr, dr, hr, rfl⟩ := hr.eta
    have hw : IntKind.wrap .i64 (k1 + k2) = k1 + k2 := wrap64_id (by omega) (by omega)
    rw [hw]
    refine .condT rfl (.condT rfl (.cond (fun h7 => .bR (Floor_ev hr.big (hm.big.up (by decide)) (by decide) (by decide)) ?_) (fun h7 => ?_)))
    · have e : (tMul k1 k2 == 3 && (k1 == 4 || k2 == 4)) = true := by
        have h7 := eT h7
        rcases five a1 a5 with rfl | rfl | rfl | rfl | rfl <;> rcases five b1 b5 with rfl | rfl | rfl | rfl | rfl <;> first | (exfalso; omega) | rfl | exact absurd h0 (by decide)
      rw [e]
      intro r hr
      obtain ⟨nr, dr, hr, rfl⟩ := hr.eta
      exact .condT rfl (.condT rfl (R_J23 hr.big (by decide)))
    · have e : (tMul k1 k2 == 3 && (k1 == 4 || k2 == 4)) = false := by
        have h7 := eF h7
        rcases five a1 a5 with rfl | rfl | rfl | rfl | rfl <;> rcases five b1 b5 with rfl | rfl | rfl | rfl | rfl <;> first | rfl | (exfalso; omega)
      rw [e]
      exact R_J23 hr.big (by decide)

theorem op_sDiv (k1 n1 k2 n2 : Int) (f1 : FitP k1 n1) (f2 : FitP k2 n2) : OpBoth sDiv k1 n1 k2 n2 := by
  obtain ⟨a1, a5, sa, sb⟩ := f1.small
  obtain ⟨b1, b5, sc, sd⟩ := f2.small
  have s1 : Sm n1 := ⟨sa, sb⟩
  have s2 : Sm n2 := ⟨sc, sd⟩
  have w1 := s1.w; have w2 := s2.w
  obtain ⟨ta, tb⟩ := two_div k1 k2 a1 a5 b1 b5
  cases h0 : (tDiv k1 k2 == 0) with
  | true =>
    refine opBoth_of (vr_err 8 (by decide)) (.fn (fun kk => f40_eq kk _ _ _ _ _ _ _) (.condF (by decide +kernel) (.condF (by decide +kernel) (.bR ta ?_)))) (.fn (fun kk => f41_eq kk _ _ _ _ _ _ _) (.condF (by decide +kernel) (.condF (by decide +kernel) (.bR tb ?_))))
    · rintro r rfl
      exact .condT rfl (.asInt rfl (.condT h0 (.ret rfl)))
    · rintro r rfl
      exact .condT rfl (.asInt rfl (.condT h0 (.ret rfl)))
  | false =>
  refine opBoth_of (x := cond (n2 == 0) (vr 0 0 11) (fitRes (tDiv k1 k2) (cond (tDiv k1 k2 == 4) (flI (n1 * 1000000) n2) (flI n1 n2)))) (by cases (n2 == 0); exact fitRes_vr _ _; exact vr_err _ (by decide)) (.fn (fun kk => f40_eq kk _ _ _ _ _ _ _) (.condF (by decide +kernel) (.condF (by decide +kernel) (.bR ta ?_)))) (.fn (fun kk => f41_eq kk _ _ _ _ _ _ _) (.condF (by decide +kernel) (.condF (by decide +kernel) (.bR tb ?_))))
  · rintro r rfl
    refine .condT rfl (.asInt rfl (.condF h0 (.condF (by decide +kernel) (.condF (by decide +kernel) (.condF (by decide +kernel) (.condT (strEq_self _) (?_)))))))
    exact fin_vr (by cases (n2 == 0); exact fitRes_vr _ _; exact vr_err _ (by decide)) (over_ev _ k1 n1 k2 n2 s1 s2)
  · rintro r rfl
    refine .condT rfl (.asInt rfl (.condF h0 (.bR (Of_ev n1 (by omega) (by omega)) ?_)))
    intro r hx
    obtain ⟨nx, dx, hx, rfl⟩ := hx.eta
    refine .condT rfl (.condT rfl (.bR (Of_ev n2 (by omega) (by omega)) ?_))
    intro r hy
    obtain ⟨ny, dy, hy, rfl⟩ := hy.eta
    refine .condT rfl (.condT rfl (.bR (Of_ev 1000000 (by decide) (by decide)) ?_))
    intro r hm
    obtain ⟨nm, dm, hm, rfl⟩ := hm.eta
    refine .condT rfl (.condT rfl (.condF (by decide +kernel) (.condF (by decide +kernel) (.condF (by decide +kernel) (.condT (strEq_self _) (.cond (fun hz => .ret (by rw [hz]; rfl)) (fun hz => .asInt rfl ?_)))))))
    rw [hz]
    have hz := eF hz
    refine .cond (fun h4 => .bR (Mul_ev hx.big hm.big (by decide)) ?_) (fun h4 => ?_)
    · intro r hr
      obtain ⟨nr, dr, hr, rfl⟩ := hr.eta
      rw [h4]
      exact .condT rfl (.condT rfl (R_J29 hr.big (hy.big.up (by decide)) (by decide) hz))
    · rw [h4]
      exact R_J29 hx.big hy.big (by decide) hz

theorem op_sMin (k1 n1 k2 n2 : Int) (f1 : FitP k1 n1) (f2 : FitP k2 n2) : OpBoth sMin k1 n1 k2 n2 := by
  obtain ⟨a1, a5, sa, sb⟩ := f1.small
  obtain ⟨b1, b5, sc, sd⟩ := f2.small
  have s1 : Sm n1 := ⟨sa, sb⟩
  have s2 : Sm n2 := ⟨sc, sd⟩
  have w1 := s1.w; have w2 := s2.w
  obtain ⟨ta, tb⟩ := two_min k1 k2 a1 a5 b1 b5
  cases h0 : (tMin k1 k2 == 0) with
  | true =>
    refine opBoth_of (vr_err 8 (by decide)) (.fn (fun kk => f40_eq kk _ _ _ _ _ _ _) (.condF (by decide +kernel) (.condF (by decide +kernel) (.bR ta ?_)))) (.fn (fun kk => f41_eq kk _ _ _ _ _ _ _) (.condF (by decide +kernel) (.condF (by decide +kernel) (.bR tb ?_))))
    · rintro r rfl
      exact .condT rfl (.asInt rfl (.condT h0 (.ret rfl)))
    · rintro r rfl
      exact .condT rfl (.asInt rfl (.condT h0 (.ret rfl)))
  | false =>
  refine opBoth_of (x := fitRes (tMin k1 k2) (cond (decide (n2 < n1)) n2 n1)) (fitRes_vr _ _) (.fn (fun kk => f40_eq kk _ _ _ _ _ _ _) (.condF (by decide +kernel) (.condF (by decide +kernel) (.bR ta ?_)))) (.fn (fun kk => f41_eq kk _ _ _ _ _ _ _) (.condF (by decide +kernel) (.condF (by decide +kernel) (.bR tb ?_))))
  · rintro r rfl
    refine .condT rfl (.asInt rfl (.condF h0 (.condF (by decide +kernel) (.condF (by decide +kernel) (.condF (by decide +kernel) (.condF (by decide +kernel) (.condT (strEq_self _) (?_))))))))
    exact fin_vr (fitRes_vr _ _) (made_ev _ _ _ true (fun _ => rfl) (by simp))
  · rintro r rfl
    refine .condT rfl (.asInt rfl (.condF h0 (.bR (Of_ev n1 (by omega) (by omega)) ?_)))
    intro r hx
    obtain ⟨nx, dx, hx, rfl⟩ := hx.eta
    refine .condT rfl (.condT rfl (.bR (Of_ev n2 (by omega) (by omega)) ?_))
    intro r hy
    obtain ⟨ny, dy, hy, rfl⟩ := hy.eta
    refine .condT rfl (.condT rfl (.bR (Of_ev 1000000 (by decide) (by decide)) ?_))
    intro r hm
    obtain ⟨nm, dm, hm, rfl⟩ := hm.eta
    refine .condT rfl (.condT rfl (.condF (by decide +kernel) (.condF (by decide +kernel) (.condF (by decide +kernel) (.condF (by decide +kernel) (.condF (by decide +kernel) (.condF (by decide +kernel) (.condF (by decide +kernel) (.condF (by decide +kernel) (.condF (by decide +kernel) (.condF (by decide +kernel) (.condF (by decide +kernel) (.condF (by decide +kernel) (.cond (fun hc => .ret ?_) (fun hc => .ret ?_)))))))))))))))
    · skip
      have hk : k1 = k2 ∧ tMin k1 k2 = k1 := by
        rcases five a1 a5 with rfl | rfl | rfl | rfl | rfl <;> rcases five b1 b5 with rfl | rfl | rfl | rfl | rfl <;> first | exact ⟨rfl, rfl⟩ | exact absurd h0 (by decide)
      have e1 : fitRes (tMin k1 k2) n1 = vr k1 n1 0 := by rw [hk.2]; unfold fitRes; rw [fitB_of f1]; rfl
      have e2 : fitRes (tMin k1 k2) n2 = vr k2 n2 0 := by rw [hk.2, hk.1]; unfold fitRes; rw [fitB_of f2]; rfl
      have hc : n1 < n2 := by
        have : (decide (n1 < n2) == strEq sMin sMin) = true := hc
        rw [strEq_self] at this; simpa using this
      rw [decide_eq_false (by omega : ¬ n2 < n1)]; exact e1.symm
    · skip
      have hk : k1 = k2 ∧ tMin k1 k2 = k1 := by
        rcases five a1 a5 with rfl | rfl | rfl | rfl | rfl <;> rcases five b1 b5 with rfl | rfl | rfl | rfl | rfl <;> first | exact ⟨rfl, rfl⟩ | exact absurd h0 (by decide)
      have e1 : fitRes (tMin k1 k2) n1 = vr k1 n1 0 := by rw [hk.2]; unfold fitRes; rw [fitB_of f1]; rfl
      have e2 : fitRes (tMin k1 k2) n2 = vr k2 n2 0 := by rw [hk.2, hk.1]; unfold fitRes; rw [fitB_of f2]; rfl
      have hc : ¬ n1 < n2 := by
        have : (decide (n1 < n2) == strEq sMin sMin) = false := hc
        rw [strEq_self] at this; simpa using this
      by_cases h : n2 < n1
      · rw [decide_eq_true h]; exact e2.symm
      · have : n1 = n2 := by omega
        subst this
        rw [decide_eq_false h]; exact e2.symm

theorem op_sMax (k1 n1 k2 n2 : Int) (f1 : FitP k1 n1) (f2 : FitP k2 n2) : OpBoth sMax k1 n1 k2 n2 := by
  obtain ⟨a1, a5, sa, sb⟩ := f1.small
  obtain ⟨b1, b5, sc, sd⟩ := f2.small
  have s1 : Sm n1 := ⟨sa, sb⟩
  have s2 : Sm n2 := ⟨sc, sd⟩
  have w1 := s1.w; have w2 := s2.w
  obtain ⟨ta, tb⟩ := two_max k1 k2 a1 a5 b1 b5
  cases h0 : (tMin k1 k2 == 0) with
  | true =>
    refine opBoth_of (vr_err 8 (by decide)) (.fn (fun kk => f40_eq kk _ _ _ _ _ _ _) (.condF (by decide +kernel) (.condF (by decide +kernel) (.bR ta ?_)))) (.fn (fun kk => f41_eq kk _ _ _ _ _ _ _) (.condF (by decide +kernel) (.condF (by decide +kernel) (.bR tb ?_))))
    · rintro r rfl
      exact .condT rfl (.asInt rfl (.condT h0 (.ret rfl)))
    · rintro r rfl
      exact .condT rfl (.asInt rfl (.condT h0 (.ret rfl)))
  | false =>
  refine opBoth_of (x := fitRes (tMin k1 k2) (cond (decide (n2 > n1)) n2 n1)) (fitRes_vr _ _) (.fn (fun kk => f40_eq kk _ _ _ _ _ _ _) (.condF (by decide +kernel) (.condF (by decide +kernel) (.bR ta ?_)))) (.fn (fun kk => f41_eq kk _ _ _ _ _ _ _) (.condF (by decide +kernel) (.condF (by decide +kernel) (.bR tb ?_))))
  · rintro r rfl
    refine .condT rfl (.asInt rfl (.condF h0 (.condF (by decide +kernel) (.condF (by decide +kernel) (.condF (by decide +kernel) (.condF (by decide +kernel) (.condF (by decide +kernel) (.condT (strEq_self _) (?_)))))))))
    exact fin_vr (fitRes_vr _ _) (made_ev _ _ _ true (fun _ => rfl) (by simp))
  · rintro r rfl
    refine .condT rfl (.asInt rfl (.condF h0 (.bR (Of_ev n1 (by omega) (by omega)) ?_)))
    intro r hx
    obtain ⟨nx, dx, hx, rfl⟩ := hx.eta
    refine .condT rfl (.condT rfl (.bR (Of_ev n2 (by omega) (by omega)) ?_))
    intro r hy
    obtain ⟨ny, dy, hy, rfl⟩ := hy.eta
    refine .condT rfl (.condT rfl (.bR (Of_ev 1000000 (by decide) (by decide)) ?_))
    intro r hm
    obtain ⟨nm, dm, hm, rfl⟩ := hm.eta
    refine .condT rfl (.condT rfl (.condF (by decide +kernel) (.condF (by decide +kernel) (.condF (by decide +kernel) (.condF (by decide +kernel) (.condF (by decide +kernel) (.condF (by decide +kernel) (.condF (by decide +kernel) (.condF (by decide +kernel) (.condF (by decide +kernel) (.condF (by decide +kernel) (.condF (by decide +kernel) (.condF (by decide +kernel) (.cond (fun hc => .ret ?_) (fun hc => .ret ?_)))))))))))))))
    · skip
      have hk : k1 = k2 ∧ tMin k1 k2 = k1 := by
        rcases five a1 a5 with rfl | rfl | rfl | rfl | rfl <;> rcases five b1 b5 with rfl | rfl | rfl | rfl | rfl <;> first | exact ⟨rfl, rfl⟩ | exact absurd h0 (by decide)
      have e1 : fitRes (tMin k1 k2) n1 = vr k1 n1 0 := by rw [hk.2]; unfold fitRes; rw [fitB_of f1]; rfl
      have e2 : fitRes (tMin k1 k2) n2 = vr k2 n2 0 := by rw [hk.2, hk.1]; unfold fitRes; rw [fitB_of f2]; rfl
      have hc : ¬ n1 < n2 := by
        have : (decide (n1 < n2) == strEq sMax sMin) = true := hc
        rw [show strEq sMax sMin = false by decide +kernel] at this; simpa using this
      rw [decide_eq_false (by omega : ¬ n2 > n1)]; exact e1.symm
    · skip
      have hk : k1 = k2 ∧ tMin k1 k2 = k1 := by
        rcases five a1 a5 with rfl | rfl | rfl | rfl | rfl <;> rcases five b1 b5 with rfl | rfl | rfl | rfl | rfl <;> first | exact ⟨rfl, rfl⟩ | exact absurd h0 (by decide)
      have e1 : fitRes (tMin k1 k2) n1 = vr k1 n1 0 := by rw [hk.2]; unfold fitRes; rw [fitB_of f1]; rfl
      have e2 : fitRes (tMin k1 k2) n2 = vr k2 n2 0 := by rw [hk.2, hk.1]; unfold fitRes; rw [fitB_of f2]; rfl
      have hc : n1 < n2 := by
        have : (decide (n1 < n2) == strEq sMax sMin) = false := hc
        rw [show strEq sMax sMin = false by decide +kernel] at this; simpa using this
      rw [decide_eq_true (by omega : n2 > n1)]; exact e2.symm

theorem op_sLt (k1 n1 k2 n2 : Int) (f1 : FitP k1 n1) (f2 : FitP k2 n2) : OpBoth sLt k1 n1 k2 n2 := by
  obtain ⟨a1, a5, sa, sb⟩ := f1.small
  obtain ⟨b1, b5, sc, sd⟩ := f2.small
  have s1 : Sm n1 := ⟨sa, sb⟩
  have s2 : Sm n2 := ⟨sc, sd⟩
  have w1 := s1.w; have w2 := s2.w
  obtain ⟨ta, tb⟩ := two_lt k1 k2 a1 a5 b1 b5
  cases h0 : (tCmp k1 k2 == 0) with
  | true =>
    refine opBoth_of (vr_err 8 (by decide)) (.fn (fun kk => f40_eq kk _ _ _ _ _ _ _) (.condF (by decide +kernel) (.condF (by decide +kernel) (.bR ta ?_)))) (.fn (fun kk => f41_eq kk _ _ _ _ _ _ _) (.condF (by decide +kernel) (.condF (by decide +kernel) (.bR tb ?_))))
    · rintro r rfl
      exact .condT rfl (.asInt rfl (.condT h0 (.ret rfl)))
    · rintro r rfl
      exact .condT rfl (.asInt rfl (.condT h0 (.ret rfl)))
  | false =>
  refine opBoth_of (x := vr 1 (cond (decide (n1 < n2)) 1 0) 0) (vr_ok _) (.fn (fun kk => f40_eq kk _ _ _ _ _ _ _) (.condF (by decide +kernel) (.condF (by decide +kernel) (.bR ta ?_)))) (.fn (fun kk => f41_eq kk _ _ _ _ _ _ _) (.condF (by decide +kernel) (.condF (by decide +kernel) (.bR tb ?_))))
  · rintro r rfl
    refine .condT rfl (.asInt rfl (.condF h0 (.condF (by decide +kernel) (.condF (by decide +kernel) (.condF (by decide +kernel) (.condF (by decide +kernel) (.condF (by decide +kernel) (.condF (by decide +kernel) (.condT (strEq_self _) (?_))))))))))
    exact fin_vr (vr_ok _) (truthA_ev _)
  · rintro r rfl
    refine .condT rfl (.asInt rfl (.condF h0 (.bR (Of_ev n1 (by omega) (by omega)) ?_)))
    intro r hx
    obtain ⟨nx, dx, hx, rfl⟩ := hx.eta
    refine .condT rfl (.condT rfl (.bR (Of_ev n2 (by omega) (by omega)) ?_))
    intro r hy
    obtain ⟨ny, dy, hy, rfl⟩ := hy.eta
    refine .condT rfl (.condT rfl (.bR (Of_ev 1000000 (by decide) (by decide)) ?_))
    intro r hm
    obtain ⟨nm, dm, hm, rfl⟩ := hm.eta
    refine .condT rfl (.condT rfl (.condF (by decide +kernel) (.condF (by decide +kernel) (.condF (by decide +kernel) (.condF (by decide +kernel) (.condT (strEq_self _) (?_)))))))
    exact fin_vr (vr_ok _) (truthR_ev _)

theorem op_sLe (k1 n1 k2 n2 : Int) (f1 : FitP k1 n1) (f2 : FitP k2 n2) : OpBoth sLe k1 n1 k2 n2 := by
  obtain ⟨a1, a5, sa, sb⟩ := f1.small
  obtain ⟨b1, b5, sc, sd⟩ := f2.small
  have s1 : Sm n1 := ⟨sa, sb⟩
  have s2 : Sm n2 := ⟨sc, sd⟩
  have w1 := s1.w; have w2 := s2.w
  obtain ⟨ta, tb⟩ := two_le k1 k2 a1 a5 b1 b5
  cases h0 : (tCmp k1 k2 == 0) with
  | true =>
    refine opBoth_of (vr_err 8 (by decide)) (.fn (fun kk => f40_eq kk _ _ _ _ _ _ _) (.condF (by decide +kernel) (.condF (by decide +kernel) (.bR ta ?_)))) (.fn (fun kk => f41_eq kk _ _ _ _ _ _ _) (.condF (by decide +kernel) (.condF (by decide +kernel) (.bR tb ?_))))
    · rintro r rfl
      exact .condT rfl (.asInt rfl (.condT h0 (.ret rfl)))
    · rintro r rfl
      exact .condT rfl (.asInt rfl (.condT h0 (.ret rfl)))
  | false =>
  refine opBoth_of (x := vr 1 (cond (decide (n1 ≤ n2)) 1 0) 0) (vr_ok _) (.fn (fun kk => f40_eq kk _ _ _ _ _ _ _) (.condF (by decide +kernel) (.condF (by decide +kernel) (.bR ta ?_)))) (.fn (fun kk => f41_eq kk _ _ _ _ _ _ _) (.condF (by decide +kernel) (.condF (by decide +kernel) (.bR tb ?_))))
  · rintro r rfl
    refine .condT rfl (.asInt rfl (.condF h0 (.condF (by decide +kernel) (.condF (by decide +kernel) (.condF (by decide +kernel) (.condF (by decide +kernel) (.condF (by decide +kernel) (.condF (by decide +kernel) (.condF (by decide +kernel) (.condT (strEq_self _) (?_)))))))))))
    exact fin_vr (vr_ok _) (truthA_ev _)
  · rintro r rfl
    refine .condT rfl (.asInt rfl (.condF h0 (.bR (Of_ev n1 (by omega) (by omega)) ?_)))
    intro r hx
    obtain ⟨nx, dx, hx, rfl⟩ := hx.eta
    refine .condT rfl (.condT rfl (.bR (Of_ev n2 (by omega) (by omega)) ?_))
    intro r hy
    obtain ⟨ny, dy, hy, rfl⟩ := hy.eta
    refine .condT rfl (.condT rfl (.bR (Of_ev 1000000 (by decide) (by decide)) ?_))
    intro r hm
    obtain ⟨nm, dm, hm, rfl⟩ := hm.eta
    refine .condT rfl (.condT rfl (.condF (by decide +kernel) (.condF (by decide +kernel) (.condF (by decide +kernel) (.condF (by decide +kernel) (.condF (by decide +kernel) (.condT (strEq_self _) (?_))))))))
    exact fin_vr (vr_ok _) (truthR_ev _)

theorem op_sGt (k1 n1 k2 n2 : Int) (f1 : FitP k1 n1) (f2 : FitP k2 n2) : OpBoth sGt k1 n1 k2 n2 := by
  obtain ⟨a1, a5, sa, sb⟩ := f1.small
  obtain ⟨b1, b5, sc, sd⟩ := f2.small
  have s1 : Sm n1 := ⟨sa, sb⟩
  have s2 : Sm n2 := ⟨sc, sd⟩
  have w1 := s1.w; have w2 := s2.w
  obtain ⟨ta, tb⟩ := two_gt k1 k2 a1 a5 b1 b5
  cases h0 : (tCmp k1 k2 == 0) with
  | true =>
    refine opBoth_of (vr_err 8 (by decide)) (.fn (fun kk => f40_eq kk _ _ _ _ _ _ _) (.condF (by decide +kernel) (.condF (by decide +kernel) (.bR ta ?_)))) (.fn (fun kk => f41_eq kk _ _ _ _ _ _ _) (.condF (by decide +kernel) (.condF (by decide +kernel) (.bR tb ?_))))
    · rintro r rfl
      exact .condT rfl (.asInt rfl (.condT h0 (.ret rfl)))
    · rintro r rfl
      exact .condT rfl (.asInt rfl (.condT h0 (.ret rfl)))
  | false =>
  refine opBoth_of (x := vr 1 (cond (decide (n1 > n2)) 1 0) 0) (vr_ok _) (.fn (fun kk => f40_eq kk _ _ _ _ _ _ _) (.condF (by decide +kernel) (.condF (by decide +kernel) (.bR ta ?_)))) (.fn (fun kk => f41_eq kk _ _ _ _ _ _ _) (.condF (by decide +kernel) (.condF (by decide +kernel) (.bR tb ?_))))
  · rintro r rfl
    refine .condT rfl (.asInt rfl (.condF h0 (.condF (by decide +kernel) (.condF (by decide +kernel) (.condF (by decide +kernel) (.condF (by decide +kernel) (.condF (by decide +kernel) (.condF (by decide +kernel) (.condF (by decide +kernel) (.condF (by decide +kernel) (.condT (strEq_self _) (?_))))))))))))
    exact fin_vr (vr_ok _) (truthA_ev _)
  · rintro r rfl
    refine .condT rfl (.asInt rfl (.condF h0 (.bR (Of_ev n1 (by omega) (by omega)) ?_)))
    intro r hx
    obtain ⟨nx, dx, hx, rfl⟩ := hx.eta
    refine .condT rfl (.condT rfl (.bR (Of_ev n2 (by omega) (by omega)) ?_))
    intro r hy
    obtain ⟨ny, dy, hy, rfl⟩ := hy.eta
    refine .condT rfl (.condT rfl (.bR (Of_ev 1000000 (by decide) (by decide)) ?_))
    intro r hm
    obtain ⟨nm, dm, hm, rfl⟩ := hm.eta
    refine .condT rfl (.condT rfl (.condF (by decide +kernel) (.condF (by decide +kernel) (.condF (by decide +kernel) (.condF (by decide +kernel) (.condF (by decide +kernel) (.condF (by decide +kernel) (.condT (strEq_self _) (?_)))))))))
    exact fin_vr (vr_ok _) (truthR_ev _)

theorem op_sGe (k1 n1 k2 n2 : Int) (f1 : FitP k1 n1) (f2 : FitP k2 n2) : OpBoth sGe k1 n1 k2 n2 := by
  obtain ⟨a1, a5, sa, sb⟩ := f1.small
  obtain ⟨b1, b5, sc, sd⟩ := f2.small
  have s1 : Sm n1 := ⟨sa, sb⟩
  have s2 : Sm n2 := ⟨sc, sd⟩
  have w1 := s1.w; have w2 := s2.w
  obtain ⟨ta, tb⟩ := two_ge k1 k2 a1 a5 b1 b5
  cases h0 : (tCmp k1 k2 == 0) with
  | true =>
    refine opBoth_of (vr_err 8 (by decide)) (.fn (fun kk => f40_eq kk _ _ _ _ _ _ _) (.condF (by decide +kernel) (.condF (by decide +kernel) (.bR ta ?_)))) (.fn (fun kk => f41_eq kk _ _ _ _ _ _ _) (.condF (by decide +kernel) (.condF (by decide +kernel) (.bR tb ?_))))
    · rintro r rfl
      exact .condT rfl (.asInt rfl (.condT h0 (.ret rfl)))
    · rintro r rfl
      exact .condT rfl (.asInt rfl (.condT h0 (.ret rfl)))
  | false =>
  refine opBoth_of (x := vr 1 (cond (decide (n1 ≥ n2)) 1 0) 0) (vr_ok _) (.fn (fun kk => f40_eq kk _ _ _ _ _ _ _) (.condF (by decide +kernel) (.condF (by decide +kernel) (.bR ta ?_)))) (.fn (fun kk => f41_eq kk _ _ _ _ _ _ _) (.condF (by decide +kernel) (.condF (by decide +kernel) (.bR tb ?_))))
  · rintro r rfl
    refine .condT rfl (.asInt rfl (.condF h0 (.condF (by decide +kernel) (.condF (by decide +kernel) (.condF (by decide +kernel) (.condF (by decide +kernel) (.condF (by decide +kernel) (.condF (by decide +kernel) (.condF (by decide +kernel) (.condF (by decide +kernel) (.condF (by decide +kernel) (.condT (strEq_self _) (?_)))))))))))))
    exact fin_vr (vr_ok _) (truthA_ev _)
  · rintro r rfl
    refine .condT rfl (.asInt rfl (.condF h0 (.bR (Of_ev n1 (by omega) (by omega)) ?_)))
    intro r hx
    obtain ⟨nx, dx, hx, rfl⟩ := hx.eta
    refine .condT rfl (.condT rfl (.bR (Of_ev n2 (by omega) (by omega)) ?_))
    intro r hy
    obtain ⟨ny, dy, hy, rfl⟩ := hy.eta
    refine .condT rfl (.condT rfl (.bR (Of_ev 1000000 (by decide) (by decide)) ?_))
    intro r hm
    obtain ⟨nm, dm, hm, rfl⟩ := hm.eta
    refine .condT rfl (.condT rfl (.condF (by decide +kernel) (.condF (by decide +kernel) (.condF (by decide +kernel) (.condF (by decide +kernel) (.condF (by decide +kernel) (.condF (by decide +kernel) (.condF (by decide +kernel) (.condT (strEq_self _) (?_))))))))))
    exact fin_vr (vr_ok _) (truthR_ev _)

theorem op_sEq (k1 n1 k2 n2 : Int) (f1 : FitP k1 n1) (f2 : FitP k2 n2) : OpBoth sEq k1 n1 k2 n2 := by
  obtain ⟨a1, a5, sa, sb⟩ := f1.small
  obtain ⟨b1, b5, sc, sd⟩ := f2.small
  have s1 : Sm n1 := ⟨sa, sb⟩
  have s2 : Sm n2 := ⟨sc, sd⟩
  have w1 := s1.w; have w2 := s2.w
  obtain ⟨ta, tb⟩ := two_eq k1 k2 a1 a5 b1 b5
  cases h0 : (tEq k1 k2 == 0) with
  | true =>
    refine opBoth_of (vr_err 8 (by decide)) (.fn (fun kk => f40_eq kk _ _ _ _ _ _ _) (.condF (by decide +kernel) (.condF (by decide +kernel) (.bR ta ?_)))) (.fn (fun kk => f41_eq kk _ _ _ _ _ _ _) (.condF (by decide +kernel) (.condF (by decide +kernel) (.bR tb ?_))))
    · rintro r rfl
      exact .condT rfl (.asInt rfl (.condT h0 (.ret rfl)))
    · rintro r rfl
      exact .condT rfl (.asInt rfl (.condT h0 (.ret rfl)))
  | false =>
  refine opBoth_of (x := vr 1 (cond (n1 == n2) 1 0) 0) (vr_ok _) (.fn (fun kk => f40_eq kk _ _ _ _ _ _ _) (.condF (by decide +kernel) (.condF (by decide +kernel) (.bR ta ?_)))) (.fn (fun kk => f41_eq kk _ _ _ _ _ _ _) (.condF (by decide +kernel) (.condF (by decide +kernel) (.bR tb ?_))))
  · rintro r rfl
    refine .condT rfl (.asInt rfl (.condF h0 (.condF (by decide +kernel) (.condF (by decide +kernel) (.condF (by decide +kernel) (.condF (by decide +kernel) (.condF (by decide +kernel) (.condF (by decide +kernel) (.condF (by decide +kernel) (.condF (by decide +kernel) (.condF (by decide +kernel) (.condF (by decide +kernel) (.condT (strEq_self _) (?_))))))))))))))
    exact fin_vr (vr_ok _) (truthA_ev _)
  · rintro r rfl
    refine .condT rfl (.asInt rfl (.condF h0 (.bR (Of_ev n1 (by omega) (by omega)) ?_)))
    intro r hx
    obtain ⟨nx, dx, hx, rfl⟩ := hx.eta
    refine .condT rfl (.condT rfl (.bR (Of_ev n2 (by omega) (by omega)) ?_))
    intro r hy
    obtain ⟨ny, dy, hy, rfl⟩ := hy.eta
    refine .condT rfl (.condT rfl (.bR (Of_ev 1000000 (by decide) (by decide)) ?_))
    intro r hm
    obtain ⟨nm, dm, hm, rfl⟩ := hm.eta
    refine .condT rfl (.condT rfl (.condF (by decide +kernel) (.condF (by decide +kernel) (.condF (by decide +kernel) (.condF (by decide +kernel) (.condF (by decide +kernel) (.condF (by decide +kernel) (.condF (by decide +kernel) (.condF (by decide +kernel) (.condT (strEq_self _) (?_)))))))))))
    exact fin_vr (vr_ok _) (truthR_ev _)

theorem op_sNe (k1 n1 k2 n2 : Int) (f1 : FitP k1 n1) (f2 : FitP k2 n2) : OpBoth sNe k1 n1 k2 n2 := by
  obtain ⟨a1, a5, sa, sb⟩ := f1.small
  obtain ⟨b1, b5, sc, sd⟩ := f2.small
  have s1 : Sm n1 := ⟨sa, sb⟩
  have s2 : Sm n2 := ⟨sc, sd⟩
  have w1 := s1.w; have w2 := s2.w
  obtain ⟨ta, tb⟩ := two_ne k1 k2 a1 a5 b1 b5
  cases h0 : (tEq k1 k2 == 0) with
  | true =>
    refine opBoth_of (vr_err 8 (by decide)) (.fn (fun kk => f40_eq kk _ _ _ _ _ _ _) (.condF (by decide +kernel) (.condF (by decide +kernel) (.bR ta ?_)))) (.fn (fun kk => f41_eq kk _ _ _ _ _ _ _) (.condF (by decide +kernel) (.condF (by decide +kernel) (.bR tb ?_))))
    · rintro r rfl
      exact .condT rfl (.asInt rfl (.condT h0 (.ret rfl)))
    · rintro r rfl
      exact .condT rfl (.asInt rfl (.condT h0 (.ret rfl)))
  | false =>
  refine opBoth_of (x := vr 1 (cond (n1 != n2) 1 0) 0) (vr_ok _) (.fn (fun kk => f40_eq kk _ _ _ _ _ _ _) (.condF (by decide +kernel) (.condF (by decide +kernel) (.bR ta ?_)))) (.fn (fun kk => f41_eq kk _ _ _ _ _ _ _) (.condF (by decide +kernel) (.condF (by decide +kernel) (.bR tb ?_))))
  · rintro r rfl
    refine .condT rfl (.asInt rfl (.condF h0 (.condF (by decide +kernel) (.condF (by decide +kernel) (.condF (by decide +kernel) (.condF (by decide +kernel) (.condF (by decide +kernel) (.condF (by decide +kernel) (.condF (by decide +kernel) (.condF (by decide +kernel) (.condF (by decide +kernel) (.condF (by decide +kernel) (.condF (by decide +kernel) (.condT (strEq_self _) (?_)))))))))))))))
    exact fin_vr (vr_ok _) (truthA_ev _)
  · rintro r rfl
    refine .condT rfl (.asInt rfl (.condF h0 (.bR (Of_ev n1 (by omega) (by omega)) ?_)))
    intro r hx
    obtain ⟨nx, dx, hx, rfl⟩ := hx.eta
    refine .condT rfl (.condT rfl (.bR (Of_ev n2 (by omega) (by omega)) ?_))
    intro r hy
    obtain ⟨ny, dy, hy, rfl⟩ := hy.eta
    refine .condT rfl (.condT rfl (.bR (Of_ev 1000000 (by decide) (by decide)) ?_))
    intro r hm
    obtain ⟨nm, dm, hm, rfl⟩ := hm.eta
    refine .condT rfl (.condT rfl (.condF (by decide +kernel) (.condF (by decide +kernel) (.condF (by decide +kernel) (.condF (by decide +kernel) (.condF (by decide +kernel) (.condF (by decide +kernel) (.condF (by decide +kernel) (.condF (by decide +kernel) (.condF (by decide +kernel) (.condT (strEq_self _) (?_))))))))))))
    exact fin_vr (vr_ok _) (truthR_ev _)

theorem op_un (op : ByteArray) (k1 n1 : Int) (hop : op = sNeg ∨ op = sNot) (f1 : FitP k1 n1) : OpBoth op k1 n1 0 0 := by
  obtain ⟨a1, a5, sa, sb⟩ := f1.small
  have s1 : Sm n1 := ⟨sa, sb⟩
  have w1 := s1.w
  rcases hop with rfl | rfl
  · obtain ⟨ta, tb⟩ := one_neg k1 a1 a5
    cases h0 : (tNeg k1 == 0) with
    | true =>
      refine opBoth_of (vr_err 8 (by decide)) (.fn (fun kk => f40_eq kk _ _ _ _ _ _ _) (.condT (strEq_self _) (fin_vr (vr_err 8 (by decide)) (.fn (fun kk => f87_eq kk _ _ _ _) (.bR ta ?_))))) (.fn (fun kk => f41_eq kk _ _ _ _ _ _ _) (.condT (strEq_self _) (.bR tb ?_)))
      · rintro r rfl
        exact .condT rfl (.asInt rfl (.condT h0 (.ret rfl)))
      · rintro r rfl
        exact .condT rfl (.asInt rfl (.condT h0 (.ret rfl)))
    | false =>
    refine opBoth_of (x := fitRes (tNeg k1) (-n1)) (fitRes_vr _ _) (.fn (fun kk => f40_eq kk _ _ _ _ _ _ _) (.condT (strEq_self _) (fin_vr (fitRes_vr _ _) (.fn (fun kk => f87_eq kk _ _ _ _) (.bR ta ?_))))) (.fn (fun kk => f41_eq kk _ _ _ _ _ _ _) (.condT (strEq_self _) (.bR tb ?_)))
    · rintro r rfl
      refine .condT rfl (.asInt rfl (.condF h0 (.condF (by decide +kernel) (.bR (subN_ev 0 n1 (by decide) w1) ?_))))
      rintro r rfl
      rw [show -n1 = 0 - n1 by omega]
      exact .condT rfl (fin_vr (fitRes_vr _ _) (made_ev _ _ _ true (fun _ => rfl) (by simp)))
    · rintro r rfl
      refine .condT rfl (.asInt rfl (.condF h0 (.condF (by decide +kernel) (.bR (Of_ev n1 (by omega) (by omega)) ?_))))
      intro r hx
      obtain ⟨nx, dx, hx, rfl⟩ := hx.eta
      refine .condT rfl (.bR (Minus_ev hx.big (by decide)) ?_)
      intro r hx
      obtain ⟨nx, dx, hx, rfl⟩ := hx.eta
      exact .condT rfl (fin_vr (fitRes_vr _ _) (fitted_ev _ _ hx.big (by decide)))
  · obtain ⟨ta, tb⟩ := one_not k1 a1 a5
    cases h0 : (tNot k1 == 0) with
    | true =>
      refine opBoth_of (vr_err 8 (by decide)) (.fn (fun kk => f40_eq kk _ _ _ _ _ _ _) (.condF (by decide +kernel) (.condT (strEq_self _) (fin_vr (vr_err 8 (by decide)) (.fn (fun kk => f87_eq kk _ _ _ _) (.bR ta ?_)))))) (.fn (fun kk => f41_eq kk _ _ _ _ _ _ _) (.condF (by decide +kernel) (.condT (strEq_self _) (.bR tb ?_))))
      · rintro r rfl
        exact .condT rfl (.asInt rfl (.condT h0 (.ret rfl)))
      · rintro r rfl
        exact .condT rfl (.asInt rfl (.condT h0 (.ret rfl)))
    | false =>
    refine opBoth_of (x := vr 1 (cond (n1 == 0) 1 0) 0) (vr_ok _) (.fn (fun kk => f40_eq kk _ _ _ _ _ _ _) (.condF (by decide +kernel) (.condT (strEq_self _) (fin_vr (vr_ok _) (.fn (fun kk => f87_eq kk _ _ _ _) (.bR ta ?_)))))) (.fn (fun kk => f41_eq kk _ _ _ _ _ _ _) (.condF (by decide +kernel) (.condT (strEq_self _) (.bR tb ?_))))
    · rintro r rfl
      exact .condT rfl (.asInt rfl (.condF h0 (.condT (strEq_self _) (fin_vr (vr_ok _) (truthA_ev _)))))
    · rintro r rfl
      exact .condT rfl (.asInt rfl (.condF h0 (.condT (strEq_self _) (fin_vr (vr_ok _) (truthR_ev _)))))
theorem ops_both : OpsBoth := by
  refine ⟨fun op k1 n1 k2 n2 h f1 f2 => ?_, fun op k1 n1 h f1 => op_un op k1 n1 h f1⟩
  cases h with
  | lt => exact op_sLt _ _ _ _ f1 f2
  | le => exact op_sLe _ _ _ _ f1 f2
  | gt => exact op_sGt _ _ _ _ f1 f2
  | ge => exact op_sGe _ _ _ _ f1 f2
  | eq => exact op_sEq _ _ _ _ f1 f2
  | ne => exact op_sNe _ _ _ _ f1 f2
  | add => exact op_sAdd _ _ _ _ f1 f2
  | sub => exact op_sSub _ _ _ _ f1 f2
  | mul => exact op_sMul _ _ _ _ f1 f2
  | div => exact op_sDiv _ _ _ _ f1 f2
  | min => exact op_sMin _ _ _ _ f1 f2
  | max => exact op_sMax _ _ _ _ f1 f2
end Go.Proofs.Sx.Z
