/- The reference's parser: expressions. -/
import Derived.Test.YtoeplmfcjonkgaaGreatZPar
set_option linter.unusedVariables false
set_option linter.unusedSimpArgs false
namespace Go.Proofs.Sx.Z
open Go

/-- A tree's node. -/
inductive Node where
  | mk (op name : ByteArray) (kind n at_ : Int) (kids : List Node)
mutual
def Node.pv (T : TypeId) : Node → PV
  | .mk op name kind n at_ kids => .agg [.str op, .str name, .int .i64 kind, .int .i64 n, .int .i64 at_, .list T (pvs T kids)]
def pvs (T : TypeId) : List Node → List PV
  | [] => []
  | n :: ns => n.pv T :: pvs T ns
end
theorem pvs_map (T : TypeId) : ∀ l : List Node, pvs T l = l.map (Node.pv T)
  | [] => rfl
  | n :: ns => by simp only [pvs, pvs_map T ns, List.map_cons]

def s0 : ByteArray := ⟨#[]⟩
def sLit : ByteArray := ⟨#[108, 105, 116]⟩
def sName : ByteArray := ⟨#[110, 97, 109, 101]⟩
def sIf : ByteArray := ⟨#[105, 102]⟩
def sNeg : ByteArray := ⟨#[110, 101, 103]⟩
def sNot : ByteArray := ⟨#[110, 111, 116]⟩
def sLen : ByteArray := ⟨#[108, 101, 110]⟩
def sAt : ByteArray := ⟨#[97, 116]⟩
def sSum : ByteArray := ⟨#[115, 117, 109]⟩
def sMin : ByteArray := ⟨#[109, 105, 110]⟩
def sMax : ByteArray := ⟨#[109, 97, 120]⟩
def sOr : ByteArray := ⟨#[111, 114]⟩
def sAnd : ByteArray := ⟨#[97, 110, 100]⟩
def sLt : ByteArray := ⟨#[60]⟩
def sLe : ByteArray := ⟨#[60, 61]⟩
def sGt : ByteArray := ⟨#[62]⟩
def sGe : ByteArray := ⟨#[62, 61]⟩
def sEq : ByteArray := ⟨#[61, 61]⟩
def sNe : ByteArray := ⟨#[33, 61]⟩
def sAdd : ByteArray := ⟨#[43]⟩
def sSub : ByteArray := ⟨#[45]⟩
def sMul : ByteArray := ⟨#[42]⟩
def sDiv : ByteArray := ⟨#[47]⟩
/-- A literal's number fits. -/
def LitN (kind n : Int) : Prop := (kind = 1 ∧ (n = 0 ∨ n = 1)) ∨ (kind = 2 ∧ 0 ≤ n ∧ n ≤ 4503599627370496) ∨ (kind = 3 ∧ 0 ≤ n ∧ n ≤ 4503599627370496) ∨ (kind = 4 ∧ 0 ≤ n ∧ n ≤ 1000000000000) ∨ (kind = 5 ∧ 0 ≤ n ∧ n ≤ 109572)
inductive Op1 : ByteArray → Prop
  | neg : Op1 sNeg
  | not : Op1 sNot
  | len : Op1 sLen
  | at_ : Op1 sAt
inductive Op2 : ByteArray → Prop
  | or : Op2 sOr
  | and : Op2 sAnd
  | lt : Op2 sLt
  | le : Op2 sLe
  | gt : Op2 sGt
  | ge : Op2 sGe
  | eq : Op2 sEq
  | ne : Op2 sNe
  | add : Op2 sAdd
  | sub : Op2 sSub
  | mul : Op2 sMul
  | div : Op2 sDiv
  | min : Op2 sMin
  | max : Op2 sMax
  | sum : Op2 sSum
/-- An expression as the parser tells it. -/
inductive WFE : Node → Prop
  | lit (kind n a : Int) : LitN kind n → WFE (.mk sLit s0 kind n a [])
  | name (s : ByteArray) (a : Int) : WFE (.mk sName s 0 0 a [])
  | one (op s : ByteArray) (a : Int) (x : Node) : Op1 op → WFE x → WFE (.mk op s 0 0 a [x])
  | two (op s : ByteArray) (a : Int) (x y : Node) : Op2 op → WFE x → WFE y → WFE (.mk op s 0 0 a [x, y])
  | three (a : Int) (x y c : Node) : WFE x → WFE y → WFE c → WFE (.mk sIf s0 0 0 a [x, y, c])

theorem Step.neg {a b : Pz} (h : Step a b) (hb : b.bad < 0) : a.bad < 0 := by
  rcases Int.lt_or_le a.bad 0 with h1 | h1
  · exact h1
  · have := h.bad h1; omega

/-- What a function of the parser that tells a node comes to. -/
def NodeI (ws : List Word) (z : Pz) (W : Node → Prop) (r : Ret) : Prop := ∃ (nd : Node) (z' : Pz), Inv ws z' ∧ Step z z' ∧ (z'.bad < 0 → W nd) ∧ r = ⟨[.v (nd.pv 29)], [z'.cv ws]⟩
def zeroN : Node := .mk s0 s0 0 0 0 []

variable {ws : List Word} {z : Pz}
def IsLit (nd : Node) : Prop := ∃ kind n a, LitN kind n ∧ nd = .mk sLit s0 kind n a []
theorem lit_ev (hz : Inv ws z) : Ev P an 161 [.lent (z.cv ws)] (NodeI ws z IsLit) := by
  refine .fn (fun k => f161_eq k _ _ _ _ _) (.bR (islit_ev hz) ?_)
  rintro r ⟨b, hb, rfl⟩
  refine .condT rfl (.asBool rfl (.cond (fun _ => .bR (fail_ev hz) ?_) (fun ht => .bR (w_ev hz) ?_)))
  · rintro r ⟨z2, g1, g2, g3, rfl⟩
    exact .condT rfl (.ret ⟨zeroN, z2, g1, g2, fun h => by omega, rfl⟩)
  · have hb := (hb (by simpa using ht)).2
    rintro r rfl
    have hk : (wd ws z).kind ≠ 0 := by omega
    obtain ⟨_, _, hl, ha⟩ := (wd_ok hz hk).1
    obtain ⟨l3, l4, l5, l6, l2, l7⟩ := hl
    have fin : ∀ kind n, LitN kind n → NodeI ws z IsLit ⟨[.v (PV.agg [.str sLit, .str s0, .int .i64 kind, .int .i64 n, .int .i64 (wd ws z).at_, .list 29 []])], [({ z with k := z.k + 1 } : Pz).cv ws]⟩ := fun kind n h =>
      ⟨.mk sLit s0 kind n (wd ws z).at_ [], _, hz.next hk, ⟨by show z.k ≤ z.k + 1; omega, rfl, id⟩, fun _ => ⟨_, _, _, h, rfl⟩, rfl⟩
    refine .condT rfl (.condT rfl (.asInt rfl (.asInt rfl (.asInt rfl (.asInt rfl ?_)))))
    rw [wrap_next hz]
    refine .cond (fun h => .ret (fin _ _ (.inr (.inl ⟨rfl, l3 (eT h)⟩)))) (fun h3 => .asInt rfl (.cond (fun h => .ret (fin _ _ (.inr (.inr (.inl ⟨rfl, l4 (eT h)⟩))))) (fun h4 => .asInt rfl (.cond (fun h => .ret (fin _ _ (.inr (.inr (.inr (.inl ⟨rfl, l5 (eT h)⟩)))))) (fun h5 =>
      .asInt rfl (.cond (fun h => .ret (fin _ _ (.inr (.inr (.inr (.inr ⟨rfl, l6 (eT h)⟩)))))) (fun h6 => .asStr rfl (.cond (fun _ => .ret (fin _ _ (.inl ⟨rfl, .inr rfl⟩))) (fun _ => .ret (fin _ _ (.inl ⟨rfl, .inl ?_⟩)))))))))))
    have h3 := eF h3; have h4 := eF h4; have h5 := eF h5; have h6 := eF h6
    rcases hb with hb | hb | hb
    · exact l2 hb
    · exact l7 hb
    · omega

def ExprOK (ws : List Word) (e : Nat) : Prop := ∀ z, Inv ws z → 40 - z.d ≤ e → Ev P an 158 [.lent (z.cv ws)] (NodeI ws z WFE)
def UnOK (ws : List Word) (e : Nat) : Prop := ∀ z, Inv ws z → 40 - z.d ≤ e → Ev P an 223 [.lent (z.cv ws)] (NodeI ws z WFE)

theorem IsLit.wfe {nd : Node} (h : IsLit nd) : WFE nd := by obtain ⟨k, n, a, h, rfl⟩ := h; exact .lit _ _ _ h

theorem prim_J15 {e : Nat} (hE : ExprOK ws e) (hz : Inv ws z) (he : 40 - z.d ≤ e) (a : Int) (x y : ByteArray) (u v w : Int) (l : List PV) :
    Ev3 (fun k _ _ => f227_J15 k (.int .i64 a) (.list 160 (ws.map Word.pv)) (.int .i64 z.k) (.int .i64 z.bad) (.bool z.deep) (.int .i64 z.d) x y u v w l) (NodeI ws z WFE) := by
  refine .eq (fun k _ _ => f227_J15_eq k _ _ _ _ _ _ _ _ _ _ _ _) (.bR (take_ev hz _) ?_)
  intro r h
  obtain ⟨b, z1, i1, s1, _, rfl⟩ := h.step
  refine .condT rfl (.asBool rfl (.cond (fun _ => .bR (hE z1 i1 (by rw [s1.d]; exact he)) ?_) (fun _ => .bR (take_ev i1 _) ?_)))
  · rintro r ⟨⟨op, nm, kd, n, a1, kids⟩, z2, i2, s2, w2, rfl⟩
    refine .condT rfl (.condT rfl (.bR (want_ev i2 _) ?_))
    rintro r ⟨z3, i3, s3, rfl⟩
    exact .condT rfl (.ret ⟨.mk op nm kd n a1 kids, z3, i3, (s1.trans s2).trans s3, fun h => w2 (s3.neg h), rfl⟩)
  intro r h
  obtain ⟨b, z2, i2, s2, _, rfl⟩ := h.step
  have s2 := s1.trans s2
  refine .condT rfl (.asBool rfl (.cond (fun _ => .bR (want_ev i2 _) ?_) (fun _ => .bR (take_ev i2 _) ?_)))
  · rintro r ⟨z3, i3, s3, rfl⟩
    have s3 := s2.trans s3
    refine .condT rfl (.bR (hE z3 i3 (by rw [s3.d]; exact he)) ?_)
    rintro r ⟨⟨op, nm, kd, n, a1, kids⟩, z4, i4, s4, w4, rfl⟩
    refine .condT rfl (.condT rfl (.bR (want_ev i4 _) ?_))
    rintro r ⟨z5, i5, s5, rfl⟩
    exact .condT rfl (.asInt rfl (.ret ⟨.mk sLen s0 0 0 a [.mk op nm kd n a1 kids], z5, i5, (s3.trans s4).trans s5, fun h => .one _ _ _ _ .len (w4 (s5.neg h)), rfl⟩))
  intro r h
  obtain ⟨b, z3, i3, s3, _, rfl⟩ := h.step
  have s3 := s2.trans s3
  refine .condT rfl (.asBool rfl (.cond (fun _ => .bR (want_ev i3 _) ?_) (fun _ => .bR (take_ev i3 _) ?_)))
  · rintro r ⟨z4, i4, s4, rfl⟩
    have s4 := s3.trans s4
    refine .condT rfl (.bR (name_ev i4) ?_)
    rintro r ⟨nm0, z5, i5, s5, rfl⟩
    refine .condT rfl (.bR (want_ev i5 _) ?_)
    rintro r ⟨z6, i6, s6, rfl⟩
    have s6 := (s4.trans s5).trans s6
    refine .condT rfl (.bR (hE z6 i6 (by rw [s6.d]; exact he)) ?_)
    rintro r ⟨⟨op, nm, kd, n, a1, kids⟩, z7, i7, s7, w7, rfl⟩
    refine .condT rfl (.condT rfl (.bR (want_ev i7 _) ?_))
    rintro r ⟨z8, i8, s8, rfl⟩
    exact .condT rfl (.asStr rfl (.asInt rfl (.ret ⟨.mk sAt nm0 0 0 a [.mk op nm kd n a1 kids], z8, i8, (s6.trans s7).trans s8, fun h => .one _ _ _ _ .at_ (w7 (s8.neg h)), rfl⟩)))
  intro r h
  obtain ⟨b, z4, i4, s4, _, rfl⟩ := h.step
  have s4 := s3.trans s4
  refine .condT rfl (.asBool rfl (.cond (fun _ => .bR (want_ev i4 _) ?_) (fun _ => .bR (name_ev i4) ?_)))
  · rintro r ⟨z5, i5, s5, rfl⟩
    refine .condT rfl (.bR (name_ev i5) ?_)
    rintro r ⟨nm0, z6, i6, s6, rfl⟩
    refine .condT rfl (.bR (want_ev i6 _) ?_)
    rintro r ⟨z7, i7, s7, rfl⟩
    have s7 := ((s4.trans s5).trans s6).trans s7
    refine .condT rfl (.bR (hE z7 i7 (by rw [s7.d]; exact he)) ?_)
    rintro r ⟨⟨op, nm, kd, n, a1, kids⟩, z8, i8, s8, w8, rfl⟩
    refine .condT rfl (.condT rfl (.bR (want_ev i8 _) ?_))
    rintro r ⟨z9, i9, s9, rfl⟩
    have t9 := (s7.trans s8).trans s9
    refine .condT rfl (.bR (hE z9 i9 (by rw [t9.d]; exact he)) ?_)
    rintro r ⟨⟨op', nm', kd', n', a1', kids'⟩, z10, i10, s10, w10, rfl⟩
    refine .condT rfl (.condT rfl (.bR (want_ev i10 _) ?_))
    rintro r ⟨z11, i11, s11, rfl⟩
    exact .condT rfl (.asStr rfl (.asInt rfl (.ret ⟨.mk sSum nm0 0 0 a [.mk op nm kd n a1 kids, .mk op' nm' kd' n' a1' kids'], z11, i11, (t9.trans s10).trans s11,
      fun h => .two _ _ _ _ _ .sum (w8 (s9.neg (s10.neg (s11.neg h)))) (w10 (s11.neg h)), rfl⟩)))
  rintro r ⟨nm0, z5, i5, s5, rfl⟩
  exact .condT rfl (.asStr rfl (.asInt rfl (.ret ⟨.mk sName nm0 0 0 a [], z5, i5, s4.trans s5, fun _ => .name _ _, rfl⟩)))

theorem prim_L5 {e : Nat} (hE : ExprOK ws e) (a : Int) : ∀ (f : Nat) (i : Int) (z : Pz), Inv ws z → 40 - z.d ≤ e → 0 ≤ i → 2 - i ≤ f →
    Ev3 (fun k m0 _ => f227_L5 k m0 (.int .i64 a) i (.list 160 (ws.map Word.pv)) (.int .i64 z.k) (.int .i64 z.bad) (.bool z.deep) (.int .i64 z.d) s0 s0 0 0 0 []) (NodeI ws z WFE) := by
  intro f
  induction f with
  | zero =>
    intro i z hz he h0 hf
    exact .loop0 (fun k m0 _ => f227_L5_eq k m0 _ _ _ _ _ _ _ _ _ _ _ _ _) (.condF (by simp; omega) (prim_J15 hE hz he a _ _ _ _ _ _))
  | succ f ih =>
    intro i z hz he h0 hf
    refine .loop0 (fun k m0 _ => f227_L5_eq k m0 _ _ _ _ _ _ _ _ _ _ _ _ _) (.cond (fun hi => ?_) (fun _ => prim_J15 hE hz he a _ _ _ _ _ _))
    have hi := dT hi
    rw [wrap64_id (by omega) (by omega)]
    have hs : ∃ s, Op2 s ∧ [(PV.str (⟨#[109, 105, 110]⟩ : ByteArray)), (PV.str (⟨#[109, 97, 120]⟩ : ByteArray))].getD i.toNat default = .str s := by
      rcases (by omega : i = 0 ∨ i = 1) with rfl | rfl
      · exact ⟨sMin, .min, rfl⟩
      · exact ⟨sMax, .max, rfl⟩
    obtain ⟨s, hs2, hs⟩ := hs
    rw [hs]
    refine .condT (inB_true h0 (by simp; omega)) (.bR (take_ev hz s) ?_)
    intro r h
    obtain ⟨b, z1, i1, s1, _, rfl⟩ := h.step
    refine .condT rfl (.asBool rfl (.cond (fun _ => .bR (want_ev i1 _) ?_) (fun _ => ?_)))
    · rintro r ⟨z2, i2, s2, rfl⟩
      have s2 := s1.trans s2
      refine .condT rfl (.bR (hE z2 i2 (by rw [s2.d]; exact he)) ?_)
      rintro r ⟨⟨op, nm, kd, n, a1, kids⟩, z8, i8, s8, w8, rfl⟩
      refine .condT rfl (.condT rfl (.bR (want_ev i8 _) ?_))
      rintro r ⟨z9, i9, s9, rfl⟩
      have t9 := (s2.trans s8).trans s9
      refine .condT rfl (.bR (hE z9 i9 (by rw [t9.d]; exact he)) ?_)
      rintro r ⟨⟨op', nm', kd', n', a1', kids'⟩, z10, i10, s10, w10, rfl⟩
      refine .condT rfl (.condT rfl (.bR (want_ev i10 _) ?_))
      rintro r ⟨z11, i11, s11, rfl⟩
      exact .condT rfl (.asStr rfl (.asInt rfl (.ret ⟨.mk s s0 0 0 a [.mk op nm kd n a1 kids, .mk op' nm' kd' n' a1' kids'], z11, i11, (t9.trans s10).trans s11,
        fun h => .two _ _ _ _ _ hs2 (w8 (s9.neg (s10.neg (s11.neg h)))) (w10 (s11.neg h)), rfl⟩)))
    · exact .mono (ih (i + 1) z1 i1 (by rw [s1.d]; exact he) (by omega) (by omega)) fun r ⟨nd, z', q1, q2, q3, q4⟩ => ⟨nd, z', q1, s1.trans q2, q3, q4⟩
theorem prim_ev {e : Nat} (hE : ExprOK ws e) (hz : Inv ws z) (he : 40 - z.d ≤ e) : Ev P an 227 [.lent (z.cv ws)] (NodeI ws z WFE) := by
  refine .fn (fun k => f227_eq k _ _ _ _ _) (.bR (w_ev hz) ?_)
  rintro r rfl
  refine .condT rfl (.condT rfl (.bR (islit_ev hz) ?_))
  rintro r ⟨b, _, rfl⟩
  refine .condT rfl (.asBool rfl (.cond (fun _ => .bR (lit_ev hz) ?_) (fun _ => (prim_L5 hE (wd ws z).at_ 2 0 z hz he (by decide) (by decide)).in0)))
  rintro r ⟨⟨op, nm, kd, n, a1, kids⟩, z8, i8, s8, w8, rfl⟩
  exact .condT rfl (.condT rfl (.ret ⟨.mk op nm kd n a1 kids, z8, i8, s8, fun h => (w8 h).wfe, rfl⟩))
end Go.Proofs.Sx.Z
