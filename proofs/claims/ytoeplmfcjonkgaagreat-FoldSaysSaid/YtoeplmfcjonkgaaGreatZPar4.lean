/- The reference's parser: declarations, statutes. -/
import Derived.Test.YtoeplmfcjonkgaaGreatZPar3
set_option linter.unusedVariables false
set_option linter.unusedSimpArgs false
namespace Go.Proofs.Sx.Z
open Go
variable {ws : List Word} {z : Pz}

def sInput : ByteArray := ⟨#[105, 110, 112, 117, 116]⟩
def sRule : ByteArray := ⟨#[114, 117, 108, 101]⟩
def sTable : ByteArray := ⟨#[116, 97, 98, 108, 101]⟩
def sRow : ByteArray := ⟨#[114, 111, 119]⟩
def sStatute : ByteArray := ⟨#[115, 116, 97, 116, 117, 116, 101]⟩
/-- A table's row. -/
inductive WFR : Node → Prop
  | mk (a : Int) (x y : Node) : IsLit x → IsLit y → WFR (.mk sRow s0 0 0 a [x, y])
inductive WFL : Node → Prop
  | mk (a : Int) (x : Node) : IsLit x → WFL (.mk sRow s0 0 0 a [x])
/-- A declaration as the parser tells it. -/
inductive WFD : Node → Prop
  | input (s : ByteArray) (kd a : Int) : 1 ≤ kd ∧ kd ≤ 6 → WFD (.mk sInput s kd 0 a [])
  | rule (s : ByteArray) (kd a : Int) (e : Node) : 1 ≤ kd ∧ kd ≤ 6 → WFE e → WFD (.mk sRule s kd 0 a [e])
  | table (s : ByteArray) (kd n a : Int) (rows : List Node) (last : Node) : 1 ≤ kd ∧ kd ≤ 6 → 1 ≤ n ∧ n ≤ 6 → rows.length ≤ 31 → (∀ r ∈ rows, WFR r) → WFL last → WFD (.mk sTable s kd n a (rows ++ [last]))

theorem pvs_append (T : TypeId) (a b : List Node) : pvs T (a ++ b) = pvs T a ++ pvs T b := by simp only [pvs_map, List.map_append]
theorem pvs_length (T : TypeId) (a : List Node) : (pvs T a).length = a.length := by simp only [pvs_map, List.length_map]

theorem table_J35 (hz : Inv ws z) (s : ByteArray) (kd n a : Int) (hkn : z.bad < 0 → (1 ≤ kd ∧ kd ≤ 6) ∧ (1 ≤ n ∧ n ≤ 6)) (rows : List Node) (hl : rows.length ≤ 32) (hl2 : z.bad < 0 → rows.length ≤ 31) (hr : z.bad < 0 → ∀ r ∈ rows, WFR r) :
    Ev3 (fun k _ _ => f110_J35 k (.list 160 (ws.map Word.pv)) (.int .i64 z.k) (.int .i64 z.bad) (.bool z.deep) (.int .i64 z.d) s0 s0 0 0 0 sTable s kd n a [] (pvs 29 rows)) (NodeI ws z WFD) := by
  refine .eq (fun k _ _ => f110_J35_eq k _ _ _ _ _ _ _ _ _ _ _ _ _ _ _ _ _) (.bR (w_ev hz) ?_)
  rintro r rfl
  refine .condT rfl (.condT rfl (.asInt rfl (.bR (want_ev hz _) ?_)))
  rintro r ⟨z3, i3, s3, rfl⟩
  refine .condT rfl (.bR (lit_ev i3) ?_)
  rintro r ⟨⟨op', nm', kd', n', a1', kids'⟩, z4, i4, s4, w4, rfl⟩
  refine .condT rfl (.condT rfl (.condT ?_ (.bR (want_ev i4 _) ?_)))
  · simp only [pvs_length, List.length_cons, List.length_nil, Bool.and_eq_true]
    exact ⟨Nat.ble_eq_true_of_le (by omega), Nat.ble_eq_true_of_le (by omega)⟩
  · rintro r ⟨z5, i5, s5, rfl⟩
    have t := (s3.trans s4).trans s5
    refine .condT rfl (.ret ⟨.mk sTable s kd n a (rows ++ [.mk sRow s0 0 0 (wd ws z).at_ [.mk op' nm' kd' n' a1' kids']]), z5, i5, t, fun h => ?_, ?_⟩)
    · have hb := t.neg h
      exact .table _ _ _ _ _ _ (hkn hb).1 (hkn hb).2 (hl2 hb) (hr hb) (.mk _ _ (w4 (s5.neg h)))
    · simp only [Node.pv, pvs_append]; rfl
theorem table_J33 (hz : Inv ws z) (s : ByteArray) (kd n a : Int) (hkn : z.bad < 0 → (1 ≤ kd ∧ kd ≤ 6) ∧ (1 ≤ n ∧ n ≤ 6)) (rows : List Node) (hl : rows.length ≤ 32) (hr : z.bad < 0 → ∀ r ∈ rows, WFR r) :
    Ev3 (fun k _ _ => f110_J33 k (.list 160 (ws.map Word.pv)) (.int .i64 z.k) (.int .i64 z.bad) (.bool z.deep) (.int .i64 z.d) s0 s0 0 0 0 sTable s kd n a [] (pvs 29 rows)) (NodeI ws z WFD) := by
  refine .eq (fun k _ _ => f110_J33_eq k _ _ _ _ _ _ _ _ _ _ _ _ _ _ _ _ _) (.asInt rfl (.cond (fun hb => .cond (fun h32 => .bR (limit_ev hz) ?_) (fun h32 => ?_)) (fun hb => ?_)))
  · rintro r ⟨z2, g1, g2, g3, rfl⟩
    exact .condT rfl (.mono (table_J35 g1 s kd n a (fun h => by omega) rows hl (fun h => by omega) (fun h => by omega)) fun r ⟨nd, z', q1, q2, q3, q4⟩ => ⟨nd, z', q1, g2.trans q2, q3, q4⟩)
  · have := eF h32
    rw [pvs_length] at this
    exact table_J35 hz s kd n a hkn rows hl (fun _ => by omega) hr
  · have := dF hb
    exact table_J35 hz s kd n a hkn rows hl (fun h => absurd h this) hr

theorem table_L23 (s : ByteArray) (kd n a : Int) : ∀ (f : Nat) (z : Pz) (rows : List Node), Inv ws z → (z.bad < 0 → (1 ≤ kd ∧ kd ≤ 6) ∧ (1 ≤ n ∧ n ≤ 6)) → rows.length ≤ 32 → 32 - rows.length ≤ f → (z.bad < 0 → ∀ r ∈ rows, WFR r) →
    Ev3 (fun k m0 _ => f110_L23 k m0 (.list 160 (ws.map Word.pv)) (.int .i64 z.k) (.int .i64 z.bad) (.bool z.deep) (.int .i64 z.d) s0 s0 0 0 0 sTable s kd n a [] (pvs 29 rows)) (NodeI ws z WFD) := by
  intro f
  induction f with
  | zero =>
    intro z rows hz hkn hl hf hr
    have J := table_J33 hz s kd n a hkn rows hl hr
    refine .loop0 (fun k m0 _ => f110_L23_eq k m0 _ _ _ _ _ _ _ _ _ _ _ _ _ _ _ _ _) (.asInt rfl (.cond (fun hb => .bR (is_ev hz _) ?_) (fun _ => J)))
    rintro r ⟨b, _, rfl⟩
    refine .condT rfl (.asBool rfl (.cond (fun _ => .condT ?_ (.bR (limit_ev hz) ?_)) (fun _ => J)))
    · rw [pvs_length]; simp; omega
    · rintro r ⟨z2, g1, g2, g3, rfl⟩
      exact .condT rfl (.mono (table_J33 g1 s kd n a (fun h => by omega) rows hl (fun h => by omega)) fun r ⟨nd, z', q1, q2, q3, q4⟩ => ⟨nd, z', q1, g2.trans q2, q3, q4⟩)
  | succ f ih =>
    intro z rows hz hkn hl hf hr
    have J := table_J33 hz s kd n a hkn rows hl hr
    refine .loop0 (fun k m0 _ => f110_L23_eq k m0 _ _ _ _ _ _ _ _ _ _ _ _ _ _ _ _ _) (.asInt rfl (.cond (fun hb => .bR (is_ev hz _) ?_) (fun _ => J)))
    rintro r ⟨b, _, rfl⟩
    refine .condT rfl (.asBool rfl (.cond (fun _ => .cond (fun h32 => .bR (limit_ev hz) ?_) (fun h32 => .bR (w_ev hz) ?_)) (fun _ => J)))
    · rintro r ⟨z2, g1, g2, g3, rfl⟩
      exact .condT rfl (.mono (table_J33 g1 s kd n a (fun h => by omega) rows hl (fun h => by omega)) fun r ⟨nd, z', q1, q2, q3, q4⟩ => ⟨nd, z', q1, g2.trans q2, q3, q4⟩)
    · have h32 := eF h32
      rw [pvs_length] at h32
      rintro r rfl
      refine .condT rfl (.condT rfl (.asInt rfl (.bR (lit_ev hz) ?_)))
      rintro r ⟨⟨op1, nm1, kd1, n1, a1, kids1⟩, z1, i1, s1, w1, rfl⟩
      refine .condT rfl (.condT rfl (.bR (want_ev i1 _) ?_))
      rintro r ⟨z2, i2, s2, rfl⟩
      refine .condT rfl (.bR (lit_ev i2) ?_)
      rintro r ⟨⟨op3, nm3, kd3, n3, a3, kids3⟩, z3, i3, s3, w3, rfl⟩
      refine .condT rfl (.condT rfl (.bR (want_ev i3 _) ?_))
      rintro r ⟨z4, i4, s4, rfl⟩
      have t4 := ((s1.trans s2).trans s3).trans s4
      refine .condT rfl (.condT ?_ ?_)
      · simp only [pvs_length, List.length_cons, List.length_nil, Bool.and_eq_true]
        exact ⟨Nat.ble_eq_true_of_le (by omega), Nat.ble_eq_true_of_le (by omega)⟩
      · have := ih z4 (rows ++ [.mk sRow s0 0 0 (wd ws z).at_ [.mk op1 nm1 kd1 n1 a1 kids1, .mk op3 nm3 kd3 n3 a3 kids3]]) i4 (fun h => hkn (t4.neg h)) (by simp; omega) (by simp; omega) (fun h x hx => by
          rcases List.mem_append.1 hx with hx | hx
          · exact hr (t4.neg h) x hx
          · rw [List.mem_singleton.1 hx]; exact .mk _ _ _ (w1 (s2.neg (s3.neg (s4.neg h)))) (w3 (s4.neg h)))
        rw [pvs_append] at this
        exact .mono this fun r ⟨nd, z', q1, q2, q3, q4⟩ => ⟨nd, z', q1, t4.trans q2, q3, q4⟩

def DeclI (ws : List Word) (z : Pz) (r : Ret) : Prop := ∃ (nd : Node) (z' : Pz), Inv ws z' ∧ Step z z' ∧ (z'.bad < 0 → WFD nd ∧ z.k < z'.k) ∧ r = ⟨[.v (nd.pv 29)], [z'.cv ws]⟩
theorem decl_ev (hz : Inv ws z) : Ev P an 110 [.lent (z.cv ws)] (DeclI ws z) := by
  refine .fn (fun k => f110_eq k _ _ _ _ _) (.bR (w_ev hz) ?_)
  rintro r rfl
  refine .condT rfl (.condT rfl (.asInt rfl (.bR (take_ev hz _) ?_)))
  intro r h
  obtain ⟨b, z1, i1, s1, k1, rfl⟩ := h.step
  refine .condT rfl (.asBool rfl (.cond (fun hb => .bR (name_ev i1) ?_) (fun _ => .bR (take_ev i1 _) ?_)))
  · rintro r ⟨nm, z2, i2, s2, rfl⟩
    refine .condT rfl (.asStr rfl (.bR (kind_ev i2) ?_))
    rintro r ⟨kd, z3, hk0, hk6, hk1, i3, s3, rfl⟩
    refine .condT rfl (.asInt rfl (.bR (want_ev i3 _) ?_))
    rintro r ⟨z4, i4, s4, rfl⟩
    exact .condT rfl (.ret ⟨.mk sInput nm kd 0 (wd ws z).at_ [], z4, i4, ((s1.trans s2).trans s3).trans s4, fun h => ⟨.input _ _ _ ⟨hk1 (s4.neg h), hk6⟩, by have := k1 hb; have := ((s2.trans s3).trans s4).k; omega⟩, rfl⟩)
  intro r h
  obtain ⟨b, z2, i2, s2, k2, rfl⟩ := h.step
  refine .condT rfl (.asBool rfl (.cond (fun hb => .bR (name_ev i2) ?_) (fun _ => .bR (take_ev i2 _) ?_)))
  · rintro r ⟨nm, z3, i3, s3, rfl⟩
    refine .condT rfl (.asStr rfl (.bR (kind_ev i3) ?_))
    rintro r ⟨kd, z4, hk0, hk6, hk1, i4, s4, rfl⟩
    refine .condT rfl (.asInt rfl (.bR (want_ev i4 _) ?_))
    rintro r ⟨z5, i5, s5, rfl⟩
    refine .condT rfl (.bR (expr_ev i5) ?_)
    rintro r ⟨⟨op, n1, kd1, nn, a1, kids⟩, z6, i6, s6, w6, rfl⟩
    refine .condT rfl (.condT rfl (.bR (want_ev i6 _) ?_))
    rintro r ⟨z7, i7, s7, rfl⟩
    exact .condT rfl (.ret ⟨.mk sRule nm kd 0 (wd ws z).at_ [.mk op n1 kd1 nn a1 kids], z7, i7, (((((s1.trans s2).trans s3).trans s4).trans s5).trans s6).trans s7,
      fun h => ⟨.rule _ _ _ _ ⟨hk1 (s5.neg (s6.neg (s7.neg h))), hk6⟩ (w6 (s7.neg h)), by have := k2 hb; have := s1.k; have := ((((s3.trans s4).trans s5).trans s6).trans s7).k; omega⟩, rfl⟩)
  intro r h
  obtain ⟨b, z3, i3, s3, k3, rfl⟩ := h.step
  have t3 := (s1.trans s2).trans s3
  refine .condT rfl (.asBool rfl (.cond (fun hb => .bR (name_ev i3) ?_) (fun _ => .bR (fail_ev i3) ?_)))
  · rintro r ⟨nm, z4, i4, s4, rfl⟩
    refine .condT rfl (.asStr rfl (.bR (kind_ev i4) ?_))
    rintro r ⟨n, z5, hn0, hn6, hn1, i5, s5, rfl⟩
    refine .condT rfl (.asInt rfl (.bR (kind_ev i5) ?_))
    rintro r ⟨kd, z6, hk0, hk6, hk1, i6, s6, rfl⟩
    refine .condT rfl (.asInt rfl (.bR (want_ev i6 _) ?_))
    rintro r ⟨z7, i7, s7, rfl⟩
    refine .condT rfl (.mono (table_L23 nm kd n (wd ws z).at_ 32 z7 [] i7 (fun h => ⟨⟨hk1 (s7.neg h), hk6⟩, ⟨hn1 (s6.neg (s7.neg h)), hn6⟩⟩) (by decide) (by decide) (fun _ _ h => by cases h)).in0 ?_)
    rintro r ⟨nd, z', q1, q2, q3, q4⟩
    exact ⟨nd, z', q1, ((((t3.trans s4).trans s5).trans s6).trans s7).trans q2, fun h => ⟨q3 h, by have := k3 hb; have := (s1.trans s2).k; have := ((((s4.trans s5).trans s6).trans s7).trans q2).k; omega⟩, q4⟩
  · rintro r ⟨z4, i4, s4, hb, rfl⟩
    exact .condT rfl (.ret ⟨.mk s0 s0 0 0 (wd ws z).at_ [], z4, i4, t3.trans s4, fun h => by omega, rfl⟩)

/-- What Parse tells. -/
def ParseI (s : ByteArray) (r : Ret) : Prop := ∃ (nd : Node) (bad : Int) (deep : Bool), (bad < 0 → ∃ a kids, nd = .mk sStatute s0 0 0 a kids ∧ (∀ k ∈ kids, WFD k) ∧ kids.length ≤ 1000001) ∧ (0 ≤ bad → nd = zeroN) ∧ r = ⟨[.v (nd.pv 29), .v (.int .i64 bad), .v (.bool deep)], []⟩

theorem parse_J8 (s : ByteArray) (hz : Inv ws z) (a : Int) (kids : List Node) (hk : z.bad < 0 → (∀ k ∈ kids, WFD k) ∧ (kids.length : Int) ≤ z.k) :
    Ev3 (fun k _ _ => f47_J8 k s0 s0 0 0 0 sStatute s0 0 0 a (.list 160 (ws.map Word.pv)) (.int .i64 z.k) (.int .i64 z.bad) (.bool z.deep) (.int .i64 z.d) [] (pvs 29 kids)) (ParseI s) := by
  refine .eq (fun k _ _ => f47_J8_eq k _ _ _ _ _ _ _ _ _ _ _ _ _ _ _ _ _) (.asInt rfl (.cond (fun h => .ret ⟨zeroN, z.bad, z.deep, fun h2 => by have := dT h; omega, fun _ => rfl, rfl⟩) (fun h => .ret ⟨.mk sStatute s0 0 0 a kids, -1, false, fun _ => ?_, fun h => by omega, rfl⟩)))
  have h := hk (by have := dF h; omega)
  exact ⟨a, kids, rfl, h.1, by have := hz.k1; have := hz.W.len; omega⟩
theorem parse_L6 (s : ByteArray) (a : Int) : ∀ (f : Nat) (z : Pz) (kids : List Node), Inv ws z → ((ws.length : Int) - z.k ≤ f ∨ 0 ≤ z.bad) → (kids.length : Int) ≤ z.k + 1 → (z.bad < 0 → (∀ k ∈ kids, WFD k) ∧ (kids.length : Int) ≤ z.k) →
    Ev3 (fun k m0 _ => f47_L6 k m0 s0 s0 0 0 0 sStatute s0 0 0 a (.list 160 (ws.map Word.pv)) (.int .i64 z.k) (.int .i64 z.bad) (.bool z.deep) (.int .i64 z.d) [] (pvs 29 kids)) (ParseI s) := by
  intro f
  induction f with
  | zero =>
    intro z kids hz hf hl hk
    refine .loop0 (fun k m0 _ => f47_L6_eq k m0 _ _ _ _ _ _ _ _ _ _ _ _ _ _ _ _ _) (.asInt rfl (.condF ?_ (parse_J8 s hz a kids hk)))
    have := hz.k1
    simp; omega
  | succ f ih =>
    intro z kids hz hf hl hk
    have h0 := hz.k0; have h1 := hz.k1; have hlen := hz.W.len
    refine .loop0 (fun k m0 _ => f47_L6_eq k m0 _ _ _ _ _ _ _ _ _ _ _ _ _ _ _ _ _) (.asInt rfl (.cond (fun hb => .asInt rfl (.asList rfl (.condT (inB_true h0 (by rw [List.length_map]; exact h1)) ?_))) (fun _ => parse_J8 s hz a kids hk)))
    have hb := dT hb
    rw [wd_pv hz]
    refine .condT rfl (.asInt rfl (.cond (fun _ => .bR (decl_ev hz) ?_) (fun _ => parse_J8 s hz a kids hk)))
    rintro r ⟨⟨op, nm, kd, n, a1, ks⟩, z1, i1, s1, w1, rfl⟩
    refine .condT rfl (.condT rfl (.condT ?_ ?_))
    · simp only [pvs_length, List.length_cons, List.length_nil, Bool.and_eq_true]
      exact ⟨Nat.ble_eq_true_of_le (by omega), Nat.ble_eq_true_of_le (by omega)⟩
    · have k1 := s1.k
      have hk := hk hb
      have := ih z1 (kids ++ [.mk op nm kd n a1 ks]) i1 (by
          rcases Int.lt_or_le z1.bad 0 with h | h
          · have := (w1 h).2; omega
          · exact .inr h) (by simp; omega) (fun h => ⟨fun x hx => by
          rcases List.mem_append.1 hx with hx | hx
          · exact hk.1 x hx
          · rw [List.mem_singleton.1 hx]; exact (w1 h).1, by have := (w1 h).2; simp; omega⟩)
      rw [pvs_append] at this
      exact this
theorem parse_ev (s : ByteArray) (hs : s.size ≤ 1000000) : Ev P an 47 [.v (.str s)] (ParseI s) := by
  refine .fn (fun k => f47_eq k s) (.bR (cut_ev s hs) ?_)
  rintro r (⟨bad, hb, rfl⟩ | ⟨ws0, hok, hlen, rfl⟩)
  · exact .condT rfl (.asInt rfl (.condT (by simpa using hb) (.ret ⟨zeroN, bad, false, fun h => by omega, fun _ => rfl, rfl⟩)))
  · have W : Ws (ws0 ++ [endW s]) := by
      refine ⟨by simp; omega, fun i hi w hw => ?_, fun w hw => ?_⟩
      · have hi' : i + 1 < ws0.length + 1 := by simpa using hi
        rw [List.getElem?_append_left (by omega)] at hw
        exact hok w (List.mem_of_getElem? hw)
      · simp at hw
        subst hw
        exact ⟨rfl, by show (0 : Int) ≤ (s.size : Int); omega⟩
    have hz : Inv (ws0 ++ [endW s]) ⟨0, -1, false, 0⟩ := ⟨W, by decide, by simp, by decide, by decide, by decide⟩
    have hg := wd_pv hz
    refine .condT rfl (.asInt rfl (.condF rfl (.asList rfl (.asList rfl (.condT (inB_true (by decide) (by simp)) ?_)))))
    rw [show List.getD (List.map Word.pv (ws0 ++ [endW s])) 0 default = (wd (ws0 ++ [endW s]) ⟨0, -1, false, 0⟩).pv from hg]
    exact .condT rfl (.asInt rfl (parse_L6 s _ (ws0 ++ [endW s]).length ⟨0, -1, false, 0⟩ [] hz (.inl (by show _ - (0 : Int) ≤ _; omega)) (by decide) (fun _ => ⟨fun _ h => (by cases h), by decide⟩)).in0)
end Go.Proofs.Sx.Z
