/- Statutes folded; the law, but for the operators. -/
import Derived.Test.YtoeplmfcjonkgaaGreatZFold3
set_option linter.unusedVariables false
set_option linter.unusedSimpArgs false
set_option linter.unusedSectionVars false
namespace Go.Proofs.Sx.Z
open Go

/-- What becomes of a declaration. -/
inductive RD : Node → Node → Prop
  | same (op name : ByteArray) (kind n a : Int) (kids : List Node) : strEq op sRule = false → Small (.mk op name kind n a kids) → RD (.mk op name kind n a kids) (.mk op name kind n a kids)
  | rule (s : ByteArray) (kd a : Int) (e m : Node) : EvA e m → EvB e m → Small m → Small e → RD (.mk sRule s kd 0 a [e]) (.mk sRule s kd 0 a [m])
theorem RD.small {d d' : Node} (h : RD d d') : Small d' := by
  cases h with
  | same op name kind n a kids _ h => exact h
  | rule s kd a e m _ _ h => exact small1 h
theorem rd_all (ops : OpsBoth) {d : Node} (h : WFD d) : ∃ d', RD d d' := by
  cases h with
  | input s kd a hk => exact ⟨_, .same _ _ _ _ _ _ (by decide +kernel) (WFD.input s kd a hk).small⟩
  | rule s kd a e hk he => obtain ⟨m, _, sm, ea, eb⟩ := both_all ops he; exact ⟨_, .rule _ _ _ _ m ea eb sm he.small⟩
  | table s kd n a rows last hk hn hl hr hw => exact ⟨_, .same _ _ _ _ _ _ (by decide +kernel) (WFD.table s kd n a rows last hk hn hl hr hw).small⟩
theorem rds_all (ops : OpsBoth) : ∀ {ds : List Node}, (∀ d ∈ ds, WFD d) → ∃ ds' : List Node, ∃ h : ds'.length = ds.length, ∀ (i : Nat) (hi : i < ds.length), RD ds[i] (ds'[i]'(by omega))
  | [], _ => ⟨[], rfl, fun i hi => by simp at hi⟩
  | d :: ds, hd => by
    obtain ⟨d', h1⟩ := rd_all ops (hd d (by simp))
    obtain ⟨ds', h2, h3⟩ := rds_all ops (ds := ds) (fun x hx => hd x (by simp [hx]))
    refine ⟨d' :: ds', by simp [h2], fun i hi => ?_⟩
    cases i with
    | zero => exact h1
    | succ i => exact h3 i (by simpa using hi)

/-- Some are done, some not yet. -/
def part (ds ds' : List Node) (i : Nat) : List Node := ds'.take i ++ ds.drop i
section
variable {ds ds' : List Node} (hl : ds'.length = ds.length)
include hl
theorem part_len (i : Nat) : (part ds ds' i).length = ds.length := by simp [part]; omega
theorem part_zero : part ds ds' 0 = ds := by simp [part]
theorem part_all {i : Nat} (h : ds.length ≤ i) : part ds ds' i = ds' := by
  unfold part; rw [List.take_of_length_le (by omega), List.drop_of_length_le h, List.append_nil]
theorem part_split {i : Nat} (h : i < ds.length) : part ds ds' i = ds'.take i ++ ds[i] :: ds.drop (i + 1) := by unfold part; rw [List.drop_eq_getElem_cons h]
theorem part_next {i : Nat} (h : i < ds.length) : part ds ds' (i + 1) = ds'.take i ++ (ds'[i]'(by omega)) :: ds.drop (i + 1) := by
  unfold part; rw [List.take_succ_eq_append_getElem (by omega), List.append_assoc]; rfl
theorem part_get (T : TypeId) {i : Int} (h0 : 0 ≤ i) (h : i < ds.length) : (pvs T (part ds ds' i.toNat)).getD i.toNat default = (ds[i.toNat]'(by omega)).pv T := by
  rw [part_split hl (by omega), pvs_append, List.getD_eq_getElem?_getD, List.getElem?_append_right (by rw [pvs_length, List.length_take]; omega)]
  rw [pvs_length, List.length_take, show i.toNat - min i.toNat ds'.length = 0 by omega]
  rfl
theorem part_set (T : TypeId) {i : Int} (h0 : 0 ≤ i) (h : i < ds.length) : (pvs T (part ds ds' i.toNat)).set i.toNat ((ds'[i.toNat]'(by omega)).pv T) = pvs T (part ds ds' (i + 1).toNat) := by
  rw [show (i + 1).toNat = i.toNat + 1 by omega, part_next hl (by omega), part_split hl (by omega), pvs_append, pvs_append, List.set_append_right _ _ (by rw [pvs_length, List.length_take]; omega)]
  rw [pvs_length, List.length_take, show i.toNat - min i.toNat ds'.length = 0 by omega]
  rfl
theorem part_same (T : TypeId) {i : Int} (h0 : 0 ≤ i) (h : i < ds.length) (he : ds[i.toNat]'(by omega) = ds'[i.toNat]'(by omega)) : pvs T (part ds ds' i.toNat) = pvs T (part ds ds' (i + 1).toNat) := by
  rw [show (i + 1).toNat = i.toNat + 1 by omega, part_next hl (by omega), part_split hl (by omega), he]
end

theorem clone_ev (l : List PV) (h : l.length ≤ 2000000) : Ev P an 49 [.v (.list 26 l)] (fun r => r = ⟨[.own 26 l], []⟩) := by
  refine ⟨_, 1, rfl, fun k _ _ hk _ _ => ?_⟩
  obtain ⟨k, rfl⟩ : ∃ j, k = j + 1 := ⟨k - 1, by omega⟩
  have e : sem P an (k + 1) 49 [.v (.list 26 l)] = cloneSum 26 80 [.v (.list 26 l)] := by kernel_rfl
  refine e.trans ?_
  unfold cloneSum
  have : (Nat.beq 26 26 && (Nat.ble ((0 + l.length) * 80) 140737488355328 && Nat.ble (0 + l.length) 9223372036854775807)) = true := by
    simp only [Bool.and_eq_true]
    exact ⟨rfl, Nat.ble_eq_true_of_le (by omega), Nat.ble_eq_true_of_le (by omega)⟩
  simp only [this]; rfl

theorem foldA (ds ds' : List Node) (hl : ds'.length = ds.length) (hb : ds.length ≤ 1000001) (H : ∀ (i : Nat) (h : i < ds.length), RD ds[i] (ds'[i]'(by omega))) (op name : ByteArray) (kind n a : Int) :
    Ev P an 14 [.v ((Node.mk op name kind n a ds).pv 26)] (OneP ((Node.mk op name kind n a ds').pv 26)) := by
  have loop : ∀ (f : Nat) (i : Int), 0 ≤ i → i ≤ ds.length → (ds.length : Int) - i ≤ f →
      Ev3 (fun k m0 _ => f14_L3 k m0 ((pvs 26 ds).length : Int) i op name kind n a s0 s0 0 0 0 (pvs 26 (part ds ds' i.toNat)) []) (OneP ((Node.mk op name kind n a ds').pv 26)) := by
    intro f
    induction f with
    | zero =>
      intro i h0 h1 hf
      refine .loop0 (fun k m0 _ => f14_L3_eq k m0 _ _ _ _ _ _ _ _ _ _ _ _ _ _) (.condF (by rw [pvs_length]; simp; omega) (.ret ?_))
      rw [part_all hl (by omega)]; rfl
    | succ f ih =>
      intro i h0 h1 hf
      refine .loop0 (fun k m0 _ => f14_L3_eq k m0 _ _ _ _ _ _ _ _ _ _ _ _ _ _) (.cond (fun hi => ?_) (fun hi => .ret ?_))
      · have hi := dT hi
        rw [pvs_length] at hi
        have hx := H i.toNat (by omega)
        have hset := part_set hl 26 h0 hi
        have hsame := part_same hl 26 h0 hi
        have IH := ih (i + 1) (by omega) (by omega) (by omega)
        have hB : inB i (pvs 26 (part ds ds' i.toNat)).length = true := inB_true h0 (by rw [pvs_length, part_len hl]; exact hi)
        rw [part_get hl _ h0 hi, wrap64_id (by omega) (by omega)]
        generalize ds[i.toNat]'(by omega) = x at hx hsame ⊢
        generalize ds'[i.toNat]'(by omega) = y at hx hset hsame ⊢
        cases hx with
        | same op2 nm2 kd2 n2 a2 ks2 hne _ =>
          rw [← hsame rfl] at IH
          exact .condT hB (.condT rfl (.asStr rfl (.condF hne IH)))
        | rule s kd a2 e m ea _ _ _ =>
          rw [← hset] at IH
          refine .condT hB (.condT rfl (.asStr rfl (.condT (strEq_self _) (.asList rfl (.condT rfl (.asList rfl (.condT rfl (.bR ea ?_))))))))
          obtain ⟨o3, n3, k3, nn3, a3, c3⟩ := m
          rintro r rfl
          exact .condT rfl (.condT rfl (.condT hB (.condT rfl IH)))
      · have hi := dF hi
        rw [pvs_length] at hi
        rw [part_all hl (by omega)]; rfl
  refine .fn (fun k => f14_eq k op name kind n a _) (.bR (clone_ev _ (by rw [pvs_length]; omega)) ?_)
  rintro r rfl
  have := (loop ds.length 0 (by decide) (by omega) (by omega)).in0
  rw [show (0 : Int).toNat = 0 from rfl, part_zero hl] at this
  exact .condT rfl this

theorem foldB (ds ds' : List Node) (hl : ds'.length = ds.length) (hb : ds.length ≤ 1000001) (H : ∀ (i : Nat) (h : i < ds.length), RD ds[i] (ds'[i]'(by omega))) (op name : ByteArray) (kind n a : Int) :
    Ev P an 17 [.v ((Node.mk op name kind n a ds).pv 29)] (OneP ((Node.mk op name kind n a ds').pv 29)) := by
  have loop : ∀ (f : Nat) (i : Int), 0 ≤ i → i ≤ ds.length → (ds.length : Int) - i ≤ f →
      Ev3 (fun k m0 _ => f17_L4 k m0 i op name kind n a (pvs 29 ds) s0 s0 0 0 0 op name kind n a [] (pvs 29 (ds'.take i.toNat))) (OneP ((Node.mk op name kind n a ds').pv 29)) := by
    intro f
    induction f with
    | zero =>
      intro i h0 h1 hf
      refine .loop0 (fun k m0 _ => f17_L4_eq k m0 _ _ _ _ _ _ _ _ _ _ _ _ _ _ _ _ _ _ _) (.condF (by rw [pvs_length]; simp; omega) (.ret ?_))
      rw [List.take_of_length_le (by omega)]; rfl
    | succ f ih =>
      intro i h0 h1 hf
      refine .loop0 (fun k m0 _ => f17_L4_eq k m0 _ _ _ _ _ _ _ _ _ _ _ _ _ _ _ _ _ _ _) (.cond (fun hi => ?_) (fun hi => .ret ?_))
      · have hi := dT hi
        rw [pvs_length] at hi
        have hx := H i.toNat (by omega)
        have hg := take_pvs 29 (ks := ds') h0 (by omega)
        have IH := ih (i + 1) (by omega) (by omega) (by omega)
        rw [← hg] at IH
        rw [pvs_get _ h0 hi]
        have J9 : ∀ (o2 nm2 : ByteArray) (kd2 n2 a2 : Int) (ks2 : List Node), (ds'[i.toNat]'(by omega)) = .mk o2 nm2 kd2 n2 a2 ks2 →
            Ev3 (fun k m0 _ => f17_J9 k m0 i op name kind n a (pvs 29 ds) s0 s0 0 0 0 op name kind n a (.str o2) (.str nm2) (.int .i64 kd2) (.int .i64 n2) (.int .i64 a2) (.list 29 (pvs 29 ks2)) [] (pvs 29 (ds'.take i.toNat))) (OneP ((Node.mk op name kind n a ds').pv 29)) := by
          intro o2 nm2 kd2 n2 a2 ks2 he
          rw [he] at IH
          refine .eq (fun k m0 _ => f17_J9_eq k m0 _ _ _ _ _ _ _ _ _ _ _ _ _ _ _ _ _ _ _ _ _ _ _ _ _) (.condT ?_ ?_)
          · rw [pvs_length]; exact room (by simp; omega) 80 (by decide)
          · rw [wrap64_id (by omega) (by omega)]; exact IH
        refine .condT (pvs_inB _ h0 hi) ?_
        generalize ds[i.toNat]'(by omega) = x at hx ⊢
        generalize ds'[i.toNat]'(by omega) = y at hx J9
        cases hx with
        | same op2 nm2 kd2 n2 a2 ks2 hne _ => exact .condT rfl (.asStr rfl (.condF hne (J9 _ _ _ _ _ _ rfl)))
        | rule s kd a2 e m _ eb _ _ =>
          refine .condT rfl (.asStr rfl (.condT (strEq_self _) (.asList rfl (.condT rfl (.bR eb ?_)))))
          obtain ⟨o3, n3, k3, nn3, a3, c3⟩ := m
          rintro r rfl
          exact .condT rfl (.condT rfl (J9 _ _ _ _ _ [.mk o3 n3 k3 nn3 a3 c3] rfl))
      · have hi := dF hi
        rw [pvs_length] at hi
        rw [List.take_of_length_le (by omega)]; rfl
  exact .fn (fun k => f17_eq k op name kind n a _) (loop ds.length 0 (by decide) (by omega) (by omega)).in0

/-- The sizes of rules. -/
theorem sizes_L12 (ds : List Node) (hb : ds.length ≤ 1000001) (ds' : List Node) (hl : ds'.length = ds.length) (H : ∀ (i : Nat) (h : i < ds.length), RD ds[i] (ds'[i]'(by omega))) (p1 p2 p3 p4 p5 q1 q2 q3 q4 q5 : PV) : ∀ (f : Nat) (i : Int), 0 ≤ i → i ≤ ds.length → (ds.length : Int) - i ≤ f →
    Ev3 (fun k m0 _ => f3_L12 k m0 i p1 p2 p3 p4 p5 (.list 26 (pvs 26 ds)) q1 q2 q3 q4 q5 (.list 29 (pvs 29 ds))) (OneP (.bool true)) := by
  intro f
  induction f with
  | zero =>
    intro i h0 h1 hf
    exact .loop0 (fun k m0 _ => f3_L12_eq k m0 _ _ _ _ _ _ _ _ _ _ _ _ _) (.asList rfl (.condF (by rw [pvs_length]; simp; omega) (.ret rfl)))
  | succ f ih =>
    intro i h0 h1 hf
    refine .loop0 (fun k m0 _ => f3_L12_eq k m0 _ _ _ _ _ _ _ _ _ _ _ _ _) (.asList rfl (.cond (fun hi => .asList rfl ?_) (fun hi => .ret rfl)))
    have hi := dT hi
    rw [pvs_length] at hi
    have hx := H i.toNat (by omega)
    have IH := ih (i + 1) (by omega) (by omega) (by omega)
    have gA := pvs_get 26 h0 hi
    have gB := pvs_get 29 h0 hi
    have bA := pvs_inB 26 h0 hi
    have bB := pvs_inB 29 h0 hi
    rw [gA, wrap64_id (by omega) (by omega)]
    refine .condT bA ?_
    generalize ds[i.toNat]'(by omega) = x at hx gA gB ⊢
    generalize ds'[i.toNat]'(by omega) = y at hx
    cases hx with
    | same op2 nm2 kd2 n2 a2 ks2 hne _ => exact .condT rfl (.asStr rfl (.condF hne IH))
    | rule s kd a2 e m _ _ _ se =>
      obtain ⟨z, za, zb⟩ := size_ev se
      refine .condT rfl (.asStr rfl (.condT (strEq_self _) (.asList rfl ?_)))
      rw [gA]
      refine .condT bA (.condT rfl (.asList rfl (.condT rfl (.bR za ?_))))
      rintro r rfl
      refine .condT rfl (.asList rfl ?_)
      rw [gB]
      refine .condT bB (.condT rfl (.asList rfl (.condT rfl (.bR zb ?_))))
      rintro r rfl
      exact .condT rfl (.asInt rfl (.asInt rfl (.condF (by simp) IH)))

theorem foldSays_ev (ops : OpsBoth) (aw : Ev P an 12 [] (OneP (.bool true))) (s : ByteArray) : Ev P an 3 [.v (.str s)] (OneP (.bool true)) := by
  refine .fn (fun k => f3_eq k s) (.bR aw ?_)
  rintro r rfl
  refine .condT rfl (.asBool rfl (.condF rfl (.cond (fun _ => .ret rfl) (fun hs => .bR (read_ev s (by have := dF hs; omega)) ?_))))
  rintro r ⟨⟨op, name, kind, n, a, kids⟩, ok, hsm, hok, rfl⟩
  refine .condT rfl (.condT rfl (.condT rfl (.asBool rfl (.cond (fun _ => .ret rfl) (fun ho => ?_)))))
  obtain ⟨a', ds, he, hd, hlen⟩ := hok (by simpa using ho)
  cases he
  obtain ⟨ds', hl, H⟩ := rds_all ops hd
  have hsm' : Small (.mk sStatute s0 0 0 a ds') := by
    refine .mk _ _ _ _ _ _ (by omega) fun x hx => ?_
    obtain ⟨i, hi, rfl⟩ := List.getElem_of_mem hx
    exact (H i (by omega)).small
  refine .bR (foldA kids ds' hl hlen H sStatute s0 0 0 a) ?_
  rintro r rfl
  refine .condT rfl (.condT rfl (.bR (tree_ev hsm') ?_))
  rintro r rfl
  refine .condT rfl (.bR (foldB kids ds' hl hlen H sStatute s0 0 0 a) ?_)
  rintro r rfl
  refine .condT rfl (.bR (places_ev hsm') ?_)
  rintro r rfl
  refine .condT rfl (.asBool rfl (.condF rfl (.bR (tree_ev hsm) ?_)))
  rintro r rfl
  refine .condT rfl (.bR (places_ev hsm) ?_)
  rintro r rfl
  exact .condT rfl (.asBool rfl (.condF rfl (sizes_L12 kids hlen ds' hl H _ _ _ _ _ _ _ _ _ _ kids.length 0 (by decide) (by omega) (by omega)).in0))
end Go.Proofs.Sx.Z
