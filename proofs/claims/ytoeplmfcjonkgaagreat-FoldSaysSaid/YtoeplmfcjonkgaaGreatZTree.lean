/- Trees: the program's as the document's, and back; sizes; places. -/
import Derived.Test.YtoeplmfcjonkgaaGreatZPar4
set_option linter.unusedVariables false
set_option linter.unusedSimpArgs false
namespace Go.Proofs.Sx.Z
open Go

/-- No node has too many kids. -/
inductive Small : Node → Prop
  | mk (op name : ByteArray) (kind n a : Int) (kids : List Node) : kids.length ≤ 2000000 → (∀ x ∈ kids, Small x) → Small (.mk op name kind n a kids)

theorem pvs_get (T : TypeId) {ks : List Node} {i : Int} (h0 : 0 ≤ i) (h : i < ks.length) : (pvs T ks).getD i.toNat default = (ks[i.toNat]'(by omega)).pv T := by
  rw [pvs_map, List.getD_eq_getElem?_getD, List.getElem?_map, List.getElem?_eq_getElem (by omega)]; rfl
theorem pvs_inB (T : TypeId) {ks : List Node} {i : Int} (h0 : 0 ≤ i) (h : i < ks.length) : inB i (pvs T ks).length = true := inB_true h0 (by rw [pvs_length]; exact h)
theorem take_pvs (T : TypeId) {ks : List Node} {i : Int} (h0 : 0 ≤ i) (h : i < ks.length) : pvs T (ks.take i.toNat) ++ [(ks[i.toNat]'(by omega)).pv T] = pvs T (ks.take (i + 1).toNat) := by
  rw [show (i + 1).toNat = i.toNat + 1 by omega, List.take_succ_eq_append_getElem (by omega), pvs_append]; rfl
theorem room {n : Nat} (h : n ≤ 2000000) (b : Nat) (hb : b ≤ 1000) : (Nat.ble ((n + 1) * b) 140737488355328 && Nat.ble (n + 1) 9223372036854775807) = true := by
  simp only [Bool.and_eq_true]
  have : (n + 1) * b ≤ 2000001 * 1000 := Nat.mul_le_mul (by omega) hb
  exact ⟨Nat.ble_eq_true_of_le (by omega), Nat.ble_eq_true_of_le (by omega)⟩

def OneP (p : PV) (r : Ret) : Prop := r = ⟨[.v p], []⟩

theorem back_ev {nd : Node} (h : Small nd) : Ev P an 48 [.v (nd.pv 29)] (OneP (nd.pv 26)) := by
  induction h with
  | mk op name kind n a ks hl hk ih =>
    have loop : ∀ (f : Nat) (i : Int), 0 ≤ i → i ≤ ks.length → (ks.length : Int) - i ≤ f →
        Ev3 (fun k m0 _ => f48_L3 k m0 i op name kind n a (pvs 29 ks) ⟨#[]⟩ ⟨#[]⟩ 0 0 0 op name kind n a [] (pvs 26 (ks.take i.toNat))) (OneP ((Node.mk op name kind n a ks).pv 26)) := by
      intro f
      induction f with
      | zero =>
        intro i h0 h1 hf
        refine .loop0 (fun k m0 _ => f48_L3_eq k m0 _ _ _ _ _ _ _ _ _ _ _ _ _ _ _ _ _ _ _) (.condF (by rw [pvs_length]; simp; omega) (.ret ?_))
        rw [List.take_of_length_le (by omega)]; rfl
      | succ f ihf =>
        intro i h0 h1 hf
        refine .loop0 (fun k m0 _ => f48_L3_eq k m0 _ _ _ _ _ _ _ _ _ _ _ _ _ _ _ _ _ _ _) (.cond (fun hi => ?_) (fun hi => .ret ?_))
        · have hi := dT hi
          rw [pvs_length] at hi
          have hx := ih _ (List.getElem_mem (by omega : i.toNat < ks.length))
          have hg := take_pvs 26 h0 hi
          rw [pvs_get _ h0 hi]
          refine .condT (pvs_inB _ h0 hi) (.bR hx ?_)
          generalize ks[i.toNat]'(by omega) = x at hg ⊢
          obtain ⟨o2, n2, k2, nn2, a2, c2⟩ := x
          rintro r rfl
          refine .condT rfl (.condT rfl (.condT ?_ ?_))
          · rw [pvs_length]; exact room (by simp; omega) 80 (by decide)
          · rw [wrap64_id (by omega) (by omega)]
            have := ihf (i + 1) (by omega) (by omega) (by omega)
            rw [← hg] at this
            exact this
        · have hi := dF hi
          rw [pvs_length] at hi
          rw [List.take_of_length_le (by omega)]; rfl
    exact .fn (fun k => f48_eq k op name kind n a _) (loop ks.length 0 (by decide) (by omega) (by omega)).in0

theorem tree_ev {nd : Node} (h : Small nd) : Ev P an 16 [.v (nd.pv 26)] (OneP (nd.pv 29)) := by
  induction h with
  | mk op name kind n a ks hl hk ih =>
    have loop : ∀ (f : Nat) (i : Int), 0 ≤ i → i ≤ ks.length → (ks.length : Int) - i ≤ f →
        Ev3 (fun k m0 _ => f16_L3 k m0 i op name kind n a (pvs 26 ks) ⟨#[]⟩ ⟨#[]⟩ 0 0 0 op name kind n a [] (pvs 29 (ks.take i.toNat))) (OneP ((Node.mk op name kind n a ks).pv 29)) := by
      intro f
      induction f with
      | zero =>
        intro i h0 h1 hf
        refine .loop0 (fun k m0 _ => f16_L3_eq k m0 _ _ _ _ _ _ _ _ _ _ _ _ _ _ _ _ _ _ _) (.condF (by rw [pvs_length]; simp; omega) (.ret ?_))
        rw [List.take_of_length_le (by omega)]; rfl
      | succ f ihf =>
        intro i h0 h1 hf
        refine .loop0 (fun k m0 _ => f16_L3_eq k m0 _ _ _ _ _ _ _ _ _ _ _ _ _ _ _ _ _ _ _) (.cond (fun hi => ?_) (fun hi => .ret ?_))
        · have hi := dT hi
          rw [pvs_length] at hi
          have hx := ih _ (List.getElem_mem (by omega : i.toNat < ks.length))
          have hg := take_pvs 29 h0 hi
          rw [pvs_get _ h0 hi]
          refine .condT (pvs_inB _ h0 hi) (.bR hx ?_)
          generalize ks[i.toNat]'(by omega) = x at hg ⊢
          obtain ⟨o2, n2, k2, nn2, a2, c2⟩ := x
          rintro r rfl
          refine .condT rfl (.condT rfl (.condT ?_ ?_))
          · rw [pvs_length]; exact room (by simp; omega) 80 (by decide)
          · rw [wrap64_id (by omega) (by omega)]
            have := ihf (i + 1) (by omega) (by omega) (by omega)
            rw [← hg] at this
            exact this
        · have hi := dF hi
          rw [pvs_length] at hi
          rw [List.take_of_length_le (by omega)]; rfl
    exact .fn (fun k => f16_eq k op name kind n a _) (loop ks.length 0 (by decide) (by omega) (by omega)).in0

theorem places_ev {nd : Node} (h : Small nd) : Ev P an 15 [.v (nd.pv 29), .v (nd.pv 29)] (OneP (.bool true)) := by
  induction h with
  | mk op name kind n a ks hl hk ih =>
    have loop : ∀ (f : Nat) (i : Int), 0 ≤ i → i ≤ ks.length → (ks.length : Int) - i ≤ f →
        Ev3 (fun k m0 _ => f15_L4 k m0 i op name kind n a (pvs 29 ks) op name kind n a (pvs 29 ks)) (OneP (.bool true)) := by
      intro f
      induction f with
      | zero =>
        intro i h0 h1 hf
        exact .loop0 (fun k m0 _ => f15_L4_eq k m0 _ _ _ _ _ _ _ _ _ _ _ _ _) (.condF (by rw [pvs_length]; simp; omega) (.ret rfl))
      | succ f ihf =>
        intro i h0 h1 hf
        refine .loop0 (fun k m0 _ => f15_L4_eq k m0 _ _ _ _ _ _ _ _ _ _ _ _ _) (.cond (fun hi => ?_) (fun hi => .ret rfl))
        have hi := dT hi
        rw [pvs_length] at hi
        have hx := ih _ (List.getElem_mem (by omega : i.toNat < ks.length))
        rw [pvs_get _ h0 hi]
        refine .condT (pvs_inB _ h0 hi) (.condT (pvs_inB _ h0 hi) (.bR hx ?_))
        rintro r rfl
        rw [wrap64_id (by omega) (by omega)]
        exact .condT rfl (.asBool rfl (.condF rfl (ihf (i + 1) (by omega) (by omega) (by omega))))
    refine .fn (fun k => f15_eq k _ _ _ _ _ _ _ _ _ _ _ _) ?_
    rw [strEq_self, strEq_self]
    exact .condF rfl (.condF rfl (.condF (by simp) (.condF (by simp) (.condF (by simp) (.condF (by simp) (loop ks.length 0 (by decide) (by omega) (by omega)).in0)))))

/-- Both sizes. -/
theorem size_ev {nd : Node} (h : Small nd) : ∃ m : Int, Ev P an 18 [.v (nd.pv 26)] (OneP (.int .i64 m)) ∧ Ev P an 19 [.v (nd.pv 29)] (OneP (.int .i64 m)) := by
  induction h with
  | mk op name kind n a ks hl hk ih =>
    have loop : ∀ (f : Nat) (i s : Int), 0 ≤ i → i ≤ ks.length → (ks.length : Int) - i ≤ f →
        ∃ m : Int, Ev3 (fun k m0 _ => f18_L3 k m0 s (pvs 26 ks) ((pvs 26 ks).length : Int) i) (OneP (.int .i64 m)) ∧ Ev3 (fun k m0 _ => f19_L3 k m0 s i op name kind n a (pvs 29 ks)) (OneP (.int .i64 m)) := by
      intro f
      induction f with
      | zero =>
        intro i s h0 h1 hf
        exact ⟨s, .loop0 (fun k m0 _ => f18_L3_eq k m0 _ _ _ _) (.condF (by rw [pvs_length]; simp; omega) (.ret rfl)), .loop0 (fun k m0 _ => f19_L3_eq k m0 _ _ _ _ _ _ _ _) (.condF (by rw [pvs_length]; simp; omega) (.ret rfl))⟩
      | succ f ihf =>
        intro i s h0 h1 hf
        by_cases hi : i < ks.length
        · obtain ⟨m, ha, hb⟩ := ih _ (List.getElem_mem (by omega : i.toNat < ks.length))
          obtain ⟨m', ha', hb'⟩ := ihf (i + 1) (IntKind.wrap .i64 (s + m)) (by omega) (by omega) (by omega)
          refine ⟨m', .loop0 (fun k m0 _ => f18_L3_eq k m0 _ _ _ _) (.condT (by rw [pvs_length]; simp; omega) (.condT (pvs_inB _ h0 hi) ?_)), .loop0 (fun k m0 _ => f19_L3_eq k m0 _ _ _ _ _ _ _ _) (.condT (by rw [pvs_length]; simp; omega) (.condT (pvs_inB _ h0 hi) ?_))⟩
          · rw [pvs_get _ h0 hi, wrap64_id (n := i + 1) (by omega) (by omega)]
            generalize ks[i.toNat]'(by omega) = x at ha
            obtain ⟨o2, n2, k2, nn2, a2, c2⟩ := x
            refine .condT rfl (.bR ha ?_)
            rintro r rfl
            exact .condT rfl (.asInt rfl ha')
          · rw [pvs_get _ h0 hi, wrap64_id (n := i + 1) (by omega) (by omega)]
            refine .bR hb ?_
            rintro r rfl
            exact .condT rfl (.asInt rfl hb')
        · exact ⟨s, .loop0 (fun k m0 _ => f18_L3_eq k m0 _ _ _ _) (.condF (by rw [pvs_length]; simp; omega) (.ret rfl)), .loop0 (fun k m0 _ => f19_L3_eq k m0 _ _ _ _ _ _ _ _) (.condF (by rw [pvs_length]; simp; omega) (.ret rfl))⟩
    obtain ⟨m, ha, hb⟩ := loop ks.length 0 1 (by decide) (by omega) (by omega)
    exact ⟨m, .fn (fun k => f18_eq k _ _ _ _ _ _) ha.in0, .fn (fun k => f19_eq k _ _ _ _ _ _) hb.in0⟩

theorem IsLit.small {nd : Node} (h : IsLit nd) : Small nd := by
  obtain ⟨k, n, a, _, rfl⟩ := h
  exact .mk _ _ _ _ _ _ (by decide) (fun _ h => by cases h)
theorem WFE.small {nd : Node} (h : WFE nd) : Small nd := by
  induction h with
  | lit => exact .mk _ _ _ _ _ _ (by decide) (fun _ h => by cases h)
  | name => exact .mk _ _ _ _ _ _ (by decide) (fun _ h => by cases h)
  | one op s a x _ _ ih => exact .mk _ _ _ _ _ _ (by simp) (by simp; exact ih)
  | two op s a x y _ _ _ ih1 ih2 => exact .mk _ _ _ _ _ _ (by simp) (by simp; exact ⟨ih1, ih2⟩)
  | three a x y c _ _ _ ih1 ih2 ih3 => exact .mk _ _ _ _ _ _ (by simp) (by simp; exact ⟨ih1, ih2, ih3⟩)
theorem WFR.small {nd : Node} (h : WFR nd) : Small nd := by
  obtain ⟨a, x, y, hx, hy⟩ := h
  exact .mk _ _ _ _ _ _ (by simp) (by simp; exact ⟨hx.small, hy.small⟩)
theorem WFL.small {nd : Node} (h : WFL nd) : Small nd := by
  obtain ⟨a, x, hx⟩ := h
  exact .mk _ _ _ _ _ _ (by simp) (by simp; exact hx.small)
theorem WFD.small {nd : Node} (h : WFD nd) : Small nd := by
  cases h with
  | input => exact .mk _ _ _ _ _ _ (by decide) (fun _ h => by cases h)
  | rule s kd a e _ he => exact .mk _ _ _ _ _ _ (by simp) (by simp; exact he.small)
  | table s kd n a rows last _ _ hl hr hw =>
    refine .mk _ _ _ _ _ _ (by simp; omega) fun x hx => ?_
    rcases List.mem_append.1 hx with hx | hx
    · exact (hr x hx).small
    · rw [List.mem_singleton.1 hx]; exact hw.small
/-- A statute as the parser tells it. -/
def WFS (nd : Node) : Prop := ∃ a kids, nd = .mk sStatute s0 0 0 a kids ∧ (∀ k ∈ kids, WFD k) ∧ kids.length ≤ 1000001
theorem WFS.small {nd : Node} (h : WFS nd) : Small nd := by
  obtain ⟨a, kids, rfl, hk, hl⟩ := h
  exact .mk _ _ _ _ _ _ (by omega) fun x hx => (hk x hx).small
theorem zeroN_small : Small zeroN := .mk _ _ _ _ _ _ (by decide) (fun _ h => by cases h)

/-- What Read tells. -/
def ReadI (r : Ret) : Prop := ∃ (nd : Node) (ok : Bool), Small nd ∧ (ok = true → WFS nd) ∧ r = ⟨[.v (nd.pv 26), .v (nd.pv 29), .v (.bool ok)], []⟩
theorem read_ev (s : ByteArray) (hs : s.size ≤ 1000000) : Ev P an 13 [.v (.str s)] ReadI := by
  refine .fn (fun k => f13_eq k s) (.bR (parse_ev s hs) ?_)
  rintro r ⟨⟨op, nm, kd, n, a, ks⟩, bad, deep, h1, h2, rfl⟩
  have hsm : Small (.mk op nm kd n a ks) := by
    rcases Int.lt_or_le bad 0 with h | h
    · exact WFS.small (h1 h)
    · rw [h2 h]; exact zeroN_small
  refine .condT rfl (.condT rfl (.bR (back_ev hsm) ?_))
  rintro r rfl
  exact .condT rfl (.asInt rfl (.condT rfl (.ret ⟨.mk op nm kd n a ks, _, hsm, fun h => h1 (dT h), rfl⟩)))
end Go.Proofs.Sx.Z
