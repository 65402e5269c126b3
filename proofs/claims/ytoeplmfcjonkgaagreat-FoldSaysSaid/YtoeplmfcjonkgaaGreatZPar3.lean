/- The reference's parser: rows of operators, depth. -/
import Derived.Test.YtoeplmfcjonkgaaGreatZPar2
set_option linter.unusedVariables false
set_option linter.unusedSimpArgs false
namespace Go.Proofs.Sx.Z
open Go
variable {ws : List Word} {z : Pz}

theorem un_J7 {e : Nat} (hP : ∀ z, Inv ws z → 40 - z.d ≤ e → Ev P an 227 [.lent (z.cv ws)] (NodeI ws z WFE)) (hU : ∀ e', e' < e → UnOK ws e') (hz : Inv ws z) (he : 40 - z.d ≤ e) (a : Int) (op : ByteArray) (hop : op = s0 ∨ Op1 op) :
    Ev3 (fun k _ _ => f223_J7 k (.int .i64 a) op (.list 160 (ws.map Word.pv)) (.int .i64 z.k) (.int .i64 z.bad) (.bool z.deep) (.int .i64 z.d) s0 s0 0 0 0 []) (NodeI ws z WFE) := by
  refine .eq (fun k _ _ => f223_J7_eq k _ _ _ _ _ _ _ _ _ _ _ _ _) (.cond (fun _ => .bR (hP z hz he) ?_) (fun hne => .bR (in_ev hz) ?_))
  · rintro r ⟨⟨op, nm, kd, n, a1, kids⟩, z8, i8, s8, w8, rfl⟩
    exact .condT rfl (.condT rfl (.ret ⟨.mk op nm kd n a1 kids, z8, i8, s8, w8, rfl⟩))
  · have hop : Op1 op := by
      rcases hop with rfl | h
      · exact absurd hne (by rw [show strEq s0 ⟨#[]⟩ = true from strEq_self _]; decide)
      · exact h
    rintro r ⟨b, z1, i1, hf, ht, rfl⟩
    refine .condT rfl (.asBool rfl (.cond (fun hb => .ret ?_) (fun hb => ?_)))
    · have := hf (by simpa using hb)
      exact ⟨zeroN, z1, i1, this.1, fun h => by have := this.2; omega, rfl⟩
    · obtain ⟨hd, rfl⟩ := ht (by simpa using hb)
      have h0 := hz.d0
      refine .bR (hU (40 - (z.d + 1)).toNat (by omega) _ i1 (by show 40 - (z.d + 1) ≤ _; omega)) ?_
      rintro r ⟨⟨op', nm, kd, n, a1, kids⟩, z8, i8, s8, w8, rfl⟩
      have e8 : z8.d = z.d + 1 := s8.d
      refine .condT rfl (.condT rfl (.bR (out_ev i8 (by omega)) ?_))
      rintro r ⟨i9, rfl⟩
      exact .condT rfl (.asInt rfl (.ret ⟨.mk op s0 0 0 a [.mk op' nm kd n a1 kids], _, i9, ⟨s8.k, by show z8.d - 1 = z.d; omega, s8.bad⟩, fun h => .one _ _ _ _ hop (w8 h), rfl⟩))
theorem un_ok {e : Nat} (hE : ExprOK ws e) (hU : ∀ e', e' < e → UnOK ws e') : UnOK ws e := by
  intro z hz he
  have hP := fun z hz he => prim_ev (z := z) hE hz he
  refine .fn (fun k => f223_eq k _ _ _ _ _) (.bR (w_ev hz) ?_)
  rintro r rfl
  refine .condT rfl (.condT rfl (.bR (take_ev hz _) ?_))
  intro r h
  obtain ⟨b, z1, i1, s1, _, rfl⟩ := h.step
  refine .condT rfl (.asBool rfl (.cond (fun _ => ?_) (fun _ => .bR (take_ev i1 _) ?_)))
  · exact .mono (un_J7 hP hU i1 (by rw [s1.d]; exact he) _ sNeg (.inr .neg)) fun r ⟨nd, z', q1, q2, q3, q4⟩ => ⟨nd, z', q1, s1.trans q2, q3, q4⟩
  intro r h
  obtain ⟨b, z2, i2, s2, _, rfl⟩ := h.step
  have s2 := s1.trans s2
  refine .condT rfl (.asBool rfl (.cond (fun _ => ?_) (fun _ => ?_)))
  · exact .mono (un_J7 hP hU i2 (by rw [s2.d]; exact he) _ sNot (.inr .not)) fun r ⟨nd, z', q1, q2, q3, q4⟩ => ⟨nd, z', q1, s2.trans q2, q3, q4⟩
  · exact .mono (un_J7 hP hU i2 (by rw [s2.d]; exact he) _ s0 (.inl rfl)) fun r ⟨nd, z', q1, q2, q3, q4⟩ => ⟨nd, z', q1, s2.trans q2, q3, q4⟩

theorem Op2.ne0 {s : ByteArray} (h : Op2 s) : strEq s s0 = false := by cases h <;> decide +kernel
def RowOK (ws : List Word) (e : Nat) (level : Int) : Prop := ∀ z, Inv ws z → 40 - z.d ≤ e → Ev P an 209 [.lent (z.cv ws), .v (.int .i64 level)] (NodeI ws z WFE)

/-- One row of operators, with what binds tighter known. -/
theorem row_loop {e : Nat} {level : Int} (hl : 0 ≤ level ∧ level < 5) (hR : RowOK ws e (level + 1)) (ops : List ByteArray) (hops : ∀ s ∈ ops, Op2 s) (hlen : ops.length ≤ 10) : ∀ (f : Nat) (z0 z : Pz) (op nm : ByteArray) (kd n a : Int) (kids : List Node), Inv ws z → 40 - z.d ≤ e → (ws.length : Int) - z.k ≤ f → Step z0 z → (z.bad < 0 → WFE (.mk op nm kd n a kids)) →
    Ev3 (fun k m0 _ => f209_L5 k m0 level (.list 9 (ops.map .str)) (.list 160 (ws.map Word.pv)) (.int .i64 z.k) (.int .i64 z.bad) (.bool z.deep) (.int .i64 z.d) s0 s0 0 0 0
      (.str op) (.str nm) (.int .i64 kd) (.int .i64 n) (.int .i64 a) (.list 29 (pvs 29 kids)) []) (NodeI ws z0 WFE) := by
  intro f
  induction f with
  | zero => intro z0 z op nm kd n a kids hz he hf; have := hz.k1; omega
  | succ f ih =>
    intro z0 z op nm kd n a kids hz he hf hs hw
    refine .loop0 (fun k m0 _ => f209_L5_eq k m0 _ _ _ _ _ _ _ _ _ _ _ _ _ _ _ _ _ _ _) (.bR (w_ev hz) ?_)
    rintro r rfl
    refine .condT rfl (.condT rfl ?_)
    -- what is done behind an operator
    have j12 : ∀ (s : ByteArray) (z1 : Pz), Inv ws z1 → Step z z1 → z.k < z1.k → Op2 s → strEq s s0 = false →
        Ev3 (fun k m0 _ => f209_J12 k m0 level (.list 9 (ops.map .str)) (.int .i64 (wd ws z).at_) (.str s) (.list 160 (ws.map Word.pv)) (.int .i64 z1.k) (.int .i64 z1.bad) (.bool z1.deep) (.int .i64 z1.d) s0 s0 0 0 0
          (.str op) (.str nm) (.int .i64 kd) (.int .i64 n) (.int .i64 a) (.list 29 (pvs 29 kids)) []) (NodeI ws z0 WFE) := by
      intro s z1 i1 s1 hk h2 hne
      refine .eq (fun k m0 _ => f209_J12_eq k m0 _ _ _ _ _ _ _ _ _ _ _ _ _ _ _ _ _ _ _ _ _) (.asStr rfl (.condF hne ?_))
      rw [wrap64_id (by omega) (by omega)]
      refine .bR (hR z1 i1 (by rw [s1.d]; exact he)) ?_
      rintro r ⟨⟨op', nm', kd', n', a', kids'⟩, z2, i2, s2, w2, rfl⟩
      have W : z2.bad < 0 → WFE (.mk s s0 0 0 (wd ws z).at_ [.mk op nm kd n a kids, .mk op' nm' kd' n' a' kids']) := fun h => .two _ _ _ _ _ h2 (hw ((s1.trans s2).neg h)) (w2 h)
      refine .condT rfl (.condT rfl (.asStr rfl (.asInt rfl (.cond (fun _ => .ret ⟨.mk s s0 0 0 (wd ws z).at_ [.mk op nm kd n a kids, .mk op' nm' kd' n' a' kids'], z2, i2, (hs.trans s1).trans s2, W, rfl⟩) (fun _ => ?_)))))
      exact ih z0 z2 s s0 0 0 (wd ws z).at_ [.mk op nm kd n a kids, .mk op' nm' kd' n' a' kids'] i2 (by rw [(s1.trans s2).d]; exact he) (by have := s2.k; omega) ((hs.trans s1).trans s2) W
    have j12e : Ev3 (fun k m0 _ => f209_J12 k m0 level (.list 9 (ops.map .str)) (.int .i64 (wd ws z).at_) (.str s0) (.list 160 (ws.map Word.pv)) (.int .i64 z.k) (.int .i64 z.bad) (.bool z.deep) (.int .i64 z.d) s0 s0 0 0 0
          (.str op) (.str nm) (.int .i64 kd) (.int .i64 n) (.int .i64 a) (.list 29 (pvs 29 kids)) []) (NodeI ws z0 WFE) :=
      .eq (fun k m0 _ => f209_J12_eq k m0 _ _ _ _ _ _ _ _ _ _ _ _ _ _ _ _ _ _ _ _ _) (.asStr rfl (.condT (strEq_self _) (.ret ⟨.mk op nm kd n a kids, z, hz, hs, hw, rfl⟩)))
    -- an operator was found
    have found : ∀ (s : ByteArray) (z1 : Pz) (i : Int), Inv ws z1 → Step z z1 → z.k < z1.k → Op2 s → strEq s s0 = false →
        Ev3 (fun k m0 m1 => f209_L8 k m0 m1 level (.list 9 (ops.map .str)) (.int .i64 (wd ws z).at_) (.str s) i (.list 160 (ws.map Word.pv)) (.int .i64 z1.k) (.int .i64 z1.bad) (.bool z1.deep) (.int .i64 z1.d) s0 s0 0 0 0
          (.str op) (.str nm) (.int .i64 kd) (.int .i64 n) (.int .i64 a) (.list 29 (pvs 29 kids)) []) (NodeI ws z0 WFE) := by
      intro s z1 i i1 s1 hk h2 hne
      refine .loop1 (fun k m0 m1 => f209_L8_eq k m0 m1 _ _ _ _ _ _ _ _ _ _ _ _ _ _ _ _ _ _ _ _ _ _) (.asList rfl (.cond (fun _ => .asStr rfl (.condF hne (j12 s z1 i1 s1 hk h2 hne))) (fun _ => j12 s z1 i1 s1 hk h2 hne)))
    have look : ∀ (g : Nat) (i : Int), 0 ≤ i → (ops.length : Int) - i ≤ g →
        Ev3 (fun k m0 m1 => f209_L8 k m0 m1 level (.list 9 (ops.map .str)) (.int .i64 (wd ws z).at_) (.str s0) i (.list 160 (ws.map Word.pv)) (.int .i64 z.k) (.int .i64 z.bad) (.bool z.deep) (.int .i64 z.d) s0 s0 0 0 0
          (.str op) (.str nm) (.int .i64 kd) (.int .i64 n) (.int .i64 a) (.list 29 (pvs 29 kids)) []) (NodeI ws z0 WFE) := by
      intro g
      induction g with
      | zero =>
        intro i h0 hg
        exact .loop1 (fun k m0 m1 => f209_L8_eq k m0 m1 _ _ _ _ _ _ _ _ _ _ _ _ _ _ _ _ _ _ _ _ _ _) (.asList rfl (.condF (by simp; omega) j12e))
      | succ g ihg =>
        intro i h0 hg
        refine .loop1 (fun k m0 m1 => f209_L8_eq k m0 m1 _ _ _ _ _ _ _ _ _ _ _ _ _ _ _ _ _ _ _ _ _ _) (.asList rfl (.cond (fun hi => .asStr rfl (.condT (strEq_self _) (.asList rfl ?_))) (fun _ => j12e)))
        have hi := dT hi
        rw [List.length_map] at hi
        have hn : i.toNat < ops.length := by omega
        have hg2 : (ops.map PV.str).getD i.toNat default = .str ops[i.toNat] := by simp [List.getD_eq_getElem?_getD, hn]
        have hb : inB i (ops.map PV.str).length = true := inB_true h0 (by simpa using hi)
        have h2 := hops _ (List.getElem_mem hn)
        rw [hg2, wrap64_id (by omega) (by omega)]
        refine .condT hb (.bR (take_ev hz _) ?_)
        intro r h
        obtain ⟨b, z1, i1, hfl, htr, rfl⟩ := h
        refine .condT rfl (.asBool rfl (.cond (fun hb2 => .asList rfl (.condT hb ?_)) (fun hb2 => ?_)))
        · obtain ⟨e1, hb3⟩ := htr hb2
          subst e1
          rw [hg2]
          refine found _ { z with k := z.k + 1 } (i + 1) i1 ⟨by show z.k ≤ z.k + 1; omega, rfl, id⟩ (by show z.k < z.k + 1; omega) h2 h2.ne0
        · rw [hfl hb2]
          exact ihg (i + 1) (by omega) (by omega)
    exact (look ops.length 0 (by decide) (by omega)).in1

theorem row_ok {e : Nat} (hU : UnOK ws e) : ∀ level : Int, 0 ≤ level → level ≤ 5 → RowOK ws e level := by
  have r5 : RowOK ws e 5 := by
    intro z hz he
    refine .fn (fun k => f209_eq k _ _ _ _ _ _) (.condT rfl (.bR (hU z hz he) ?_))
    rintro r ⟨⟨op, nm, kd, n, a1, kids⟩, z8, i8, s8, w8, rfl⟩
    exact .condT rfl (.condT rfl (.ret ⟨.mk op nm kd n a1 kids, z8, i8, s8, w8, rfl⟩))
  have go : ∀ (level : Int) (ops : List ByteArray), 0 ≤ level → level < 5 → (∀ s ∈ ops, Op2 s) → ops.length ≤ 10 →
      ([(PV.list 9 [(PV.str (⟨#[111, 114]⟩ : ByteArray))]), (PV.list 9 [(PV.str (⟨#[97, 110, 100]⟩ : ByteArray))]), (PV.list 9 [(PV.str (⟨#[60]⟩ : ByteArray)), (PV.str (⟨#[60, 61]⟩ : ByteArray)), (PV.str (⟨#[62]⟩ : ByteArray)), (PV.str (⟨#[62, 61]⟩ : ByteArray)), (PV.str (⟨#[61, 61]⟩ : ByteArray)), (PV.str (⟨#[33, 61]⟩ : ByteArray))]), (PV.list 9 [(PV.str (⟨#[43]⟩ : ByteArray)), (PV.str (⟨#[45]⟩ : ByteArray))]), (PV.list 9 [(PV.str (⟨#[42]⟩ : ByteArray)), (PV.str (⟨#[47]⟩ : ByteArray))])].getD level.toNat default) = .list 9 (ops.map .str) →
      RowOK ws e (level + 1) → RowOK ws e level := by
    intro level ops h0 h5 hops hlen hget hR z hz he
    refine .fn (fun k => f209_eq k _ _ _ _ _ _) (.condF (by simp; omega) (.condT (inB_true h0 (by simp; omega)) ?_))
    rw [hget, wrap64_id (by omega) (by omega)]
    refine .bR (hR z hz he) ?_
    rintro r ⟨⟨op, nm, kd, n, a1, kids⟩, z8, i8, s8, w8, rfl⟩
    exact .condT rfl (.condT rfl (row_loop ⟨h0, h5⟩ hR ops hops hlen (ws.length) z z8 op nm kd n a1 kids i8 (by rw [s8.d]; exact he) (by have := i8.k0; omega) s8 w8).in0)
  have r4 : RowOK ws e 4 := go 4 [sMul, sDiv] (by decide) (by decide) (by simp; exact ⟨.mul, .div⟩) (by decide) rfl r5
  have r3 : RowOK ws e 3 := go 3 [sAdd, sSub] (by decide) (by decide) (by simp; exact ⟨.add, .sub⟩) (by decide) rfl r4
  have r2 : RowOK ws e 2 := go 2 [sLt, sLe, sGt, sGe, sEq, sNe] (by decide) (by decide) (by simp; exact ⟨.lt, .le, .gt, .ge, .eq, .ne⟩) (by decide) rfl r3
  have r1 : RowOK ws e 1 := go 1 [sAnd] (by decide) (by decide) (by simp; exact .and) (by decide) rfl r2
  have r0 : RowOK ws e 0 := go 0 [sOr] (by decide) (by decide) (by simp; exact .or) (by decide) rfl r1
  intro level h0 h5
  rcases (by omega : level = 0 ∨ level = 1 ∨ level = 2 ∨ level = 3 ∨ level = 4 ∨ level = 5) with rfl | rfl | rfl | rfl | rfl | rfl
  · exact r0
  · exact r1
  · exact r2
  · exact r3
  · exact r4
  · exact r5

theorem inside_ok {e : Nat} (hE : ExprOK ws e) (hU : UnOK ws e) (hz : Inv ws z) (he : 40 - z.d ≤ e) : Ev P an 184 [.lent (z.cv ws)] (NodeI ws z WFE) := by
  refine .fn (fun k => f184_eq k _ _ _ _ _) (.bR (w_ev hz) ?_)
  rintro r rfl
  refine .condT rfl (.condT rfl (.bR (take_ev hz _) ?_))
  intro r h
  obtain ⟨b, z1, i1, s1, _, rfl⟩ := h.step
  refine .condT rfl (.asBool rfl (.cond (fun _ => .bR (hE z1 i1 (by rw [s1.d]; exact he)) ?_) (fun _ => .bR (row_ok hU 0 (by decide) (by decide) z1 i1 (by rw [s1.d]; exact he)) ?_)))
  · rintro r ⟨⟨op, nm, kd, n, a1, kids⟩, z2, i2, s2, w2, rfl⟩
    refine .condT rfl (.condT rfl (.bR (want_ev i2 _) ?_))
    rintro r ⟨z3, i3, s3, rfl⟩
    have t3 := (s1.trans s2).trans s3
    refine .condT rfl (.bR (hE z3 i3 (by rw [t3.d]; exact he)) ?_)
    rintro r ⟨⟨op', nm', kd', n', a1', kids'⟩, z4, i4, s4, w4, rfl⟩
    refine .condT rfl (.condT rfl (.bR (want_ev i4 _) ?_))
    rintro r ⟨z5, i5, s5, rfl⟩
    have t5 := (t3.trans s4).trans s5
    refine .condT rfl (.bR (hE z5 i5 (by rw [t5.d]; exact he)) ?_)
    rintro r ⟨⟨op2, nm2, kd2, n2, a2, kids2⟩, z6, i6, s6, w6, rfl⟩
    exact .condT rfl (.condT rfl (.asInt rfl (.ret ⟨.mk sIf s0 0 0 (wd ws z).at_ [.mk op nm kd n a1 kids, .mk op' nm' kd' n' a1' kids', .mk op2 nm2 kd2 n2 a2 kids2], z6, i6, t5.trans s6,
      fun h => .three _ _ _ _ (w2 (s3.neg (s4.neg (s5.neg (s6.neg h))))) (w4 (s5.neg (s6.neg h))) (w6 h), rfl⟩)))
  · rintro r ⟨⟨op, nm, kd, n, a1, kids⟩, z8, i8, s8, w8, rfl⟩
    exact .condT rfl (.condT rfl (.ret ⟨.mk op nm kd n a1 kids, z8, i8, s1.trans s8, w8, rfl⟩))

theorem expr_all : ∀ e : Nat, ExprOK ws e ∧ UnOK ws e := by
  intro e
  induction e using Nat.strongRecOn with
  | ind e ih =>
    have hE : ExprOK ws e := by
      intro z hz he
      refine .fn (fun k => f158_eq k _ _ _ _ _) (.bR (in_ev hz) ?_)
      rintro r ⟨b, z1, i1, hf, ht, rfl⟩
      refine .condT rfl (.asBool rfl (.cond (fun hb => .ret ?_) (fun hb => ?_)))
      · have := hf (by simpa using hb)
        exact ⟨zeroN, z1, i1, this.1, fun h => by have := this.2; omega, rfl⟩
      · obtain ⟨hd, rfl⟩ := ht (by simpa using hb)
        have h0 := hz.d0
        obtain ⟨hE', hU'⟩ := ih (40 - (z.d + 1)).toNat (by omega)
        refine .bR (inside_ok hE' hU' i1 (by show 40 - (z.d + 1) ≤ _; omega)) ?_
        rintro r ⟨⟨op', nm, kd, n, a1, kids⟩, z8, i8, s8, w8, rfl⟩
        have e8 : z8.d = z.d + 1 := s8.d
        refine .condT rfl (.condT rfl (.bR (out_ev i8 (by omega)) ?_))
        rintro r ⟨i9, rfl⟩
        exact .condT rfl (.ret ⟨.mk op' nm kd n a1 kids, _, i9, ⟨s8.k, by show z8.d - 1 = z.d; omega, s8.bad⟩, w8, rfl⟩)
    exact ⟨hE, un_ok hE fun e' h => (ih e' h).2⟩
theorem expr_ev (hz : Inv ws z) : Ev P an 158 [.lent (z.cv ws)] (NodeI ws z WFE) := (expr_all 40).1 z hz (by have := hz.d0; omega)
end Go.Proofs.Sx.Z
