/- The interpreter's operations: steps that make things, or turn them. -/
import Derived.Test.YtoeplmfcjonkgaaGreatSxOps2
set_option linter.unusedVariables false
set_option linter.unusedSimpArgs false
namespace Go.Proofs.Sx
open Go

theorem setObs_append (ob : Nat → Option Ob) : ∀ (l l' : List (Nat × Ob)), setObs ob (l ++ l') = setObs (setObs ob l) l'
  | [], _ => rfl
  | (i, o) :: l, l' => setObs_append (upd ob i (some o)) l l'
theorem setObs_one (ob : Nat → Option Ob) (i : Nat) (o : Ob) : setObs ob [(i, o)] = upd ob i (some o) := rfl
theorem setObs_other {i : Nat} : ∀ {l : List (Nat × Ob)} {ob : Nat → Option Ob}, (∀ p ∈ l, p.1 ≠ i) → setObs ob l i = ob i
  | [], _, _ => rfl
  | (j, o) :: l, ob, h => by
    rw [setObs, setObs_other (fun p hp => h p (by simp [hp])), upd_ne _ _ (Ne.symm (h (j, o) (by simp)))]
/-- What stands in a list of things at most once as a value. -/
theorem setObs_mem {i : Nat} {o : Ob} : ∀ {l : List (Nat × Ob)} {ob : Nat → Option Ob}, (i, o) ∈ l → (∀ o', (i, o') ∈ l → o' = o) → setObs ob l i = some o
  | [], _, h, _ => by simp at h
  | (j, o') :: l, ob, h, hu => by
    rw [setObs]
    by_cases hm : (i, o) ∈ l
    · exact setObs_mem hm fun o'' ho => hu o'' (by simp [ho])
    · have : (j, o') = (i, o) := by
        rcases List.mem_cons.1 h with h | h
        · exact h.symm
        · exact absurd h hm
      cases this
      rw [setObs_other, upd_same]
      rintro ⟨k, o''⟩ hp rfl
      exact hm (hu o'' (by simp [hp]) ▸ hp)

theorem memN_true {x : Nat} : ∀ {l : List Nat}, memN x l = true ↔ x ∈ l
  | [] => by simp [memN]
  | y :: ys => by
    simp only [memN]
    cases h : Nat.beq x y with
    | true => simp [Nat.eq_of_beq_eq_true h]
    | false =>
      have : x ≠ y := by rintro rfl; simp at h
      simp only [cond, List.mem_cons, this, false_or]
      exact memN_true
theorem nodupN_true {l : List Nat} : nodupN l = true → l.Nodup := by
  induction l with
  | nil => simp
  | cons x l ih =>
    intro h
    simp only [nodupN, Bool.and_eq_true, Bool.not_eq_true'] at h
    refine List.nodup_cons.2 ⟨fun hm => ?_, ih h.2⟩
    rw [memN_true.2 hm] at h; cases h.1

section
variable {P : Program} {C : Ctx} {G : Gh} {s : St} {a : Act} {w : World} {sl : Nat → AV} {ob : Nat → Option Ob} {o : Oper} {δ : Delta}
variable {an : An} {me : FuncId} {cf : FuncId → List PA → Option Ret}

theorem alloc_old (w : World) (o : Obj) {b : Nat} (h : b < w.heap.size) : (w.alloc o).heap[b]? = w.heap[b]? := by first | exact heap_alloc_old w o b h | exact heap_alloc_old w o h
theorem Same.refl (w : World) (M : Nat → Prop) : Same w w M := ⟨rfl, rfl, rfl, Nat.le_refl _, fun _ _ _ => rfl⟩
theorem Same.alloc (w : World) (o : Obj) (M : Nat → Prop) : Same w (w.alloc o) M := ⟨rfl, rfl, rfl, by simp, fun b hb _ => alloc_old w o hb⟩
theorem Same.grown {w w' : World} {row : Option Nat} (h : w.grownBy w' row) : Same w w' (fun b => row = some b) :=
  ⟨h.os, h.tape, h.output, h.size, fun b hb hne => h.block b hb (fun e => hne e.symm)⟩
theorem Same.mono {w w' : World} {M M' : Nat → Prop} (h : Same w w' M) (hM : ∀ b, M b → M' b) : Same w w' M' :=
  ⟨h.os, h.tape, h.output, h.size, fun b hb hn => h.block b hb (fun e => hn (hM b e))⟩

/-! ### Freezing -/
def FrzList (s : St) (f : List (Nat × Ob)) : Prop := ∀ i o, (i, o) ∈ f → ∃ g e xs, s.ob i = some (.row g e xs false) ∧ o = .row g e xs true
def okWith (G : Gh) (s : St) (f : List (Nat × Ob)) (b : Nat) : Prop := G.ok b ∨ ∃ i o, (i, o) ∈ f ∧ blk G i (s.ob i) = some b

theorem FrzList.nil (s : St) : FrzList s [] := fun i o h => by simp at h
theorem FrzList.append {f f' : List (Nat × Ob)} (h : FrzList s f) (h' : FrzList s f') : FrzList s (f ++ f') := fun i o hm => by
  rcases List.mem_append.1 hm with h1 | h1
  · exact h i o h1
  · exact h' i o h1

theorem frz_get {f : List (Nat × Ob)} (h : FrzList s f) {i : Nat} : (∃ o, (i, o) ∈ f ∧ setObs s.ob f i = some o) ∨ ((∀ o, (i, o) ∉ f) ∧ setObs s.ob f i = s.ob i) := by
  by_cases hm : ∃ o, (i, o) ∈ f
  · obtain ⟨o, ho⟩ := hm
    refine .inl ⟨o, ho, setObs_mem ho fun o' ho' => ?_⟩
    obtain ⟨g, e, xs, h1, rfl⟩ := h i o ho
    obtain ⟨g', e', xs', h2, rfl⟩ := h i o' ho'
    rw [h1] at h2; cases h2; rfl
  · refine .inr ⟨fun o ho => hm ⟨o, ho⟩, setObs_other ?_⟩
    rintro ⟨j, o⟩ hp rfl
    exact hm ⟨o, hp⟩

theorem RelG.freeze (R : RelG P C G s a w) {f : List (Nat × Ob)} (hf : FrzList s f) :
    RelG P C { G with ok := okWith G s f } { s with ob := setObs s.ob f } a w := by
  have key := R.step (G' := { G with ok := okWith G s f }) (fun i => ∃ o, (i, o) ∈ f) (sl' := s.sl) (ob' := setObs s.ob f) (a' := a) (w' := w)
    (fun i hi => ⟨rfl, rfl, by rcases frz_get hf (i := i) with ⟨o, h, _⟩ | ⟨_, h⟩; exact absurd ⟨o, h⟩ hi; exact h⟩)
    (Same.refl w _) (fun b hb => .inl hb)
    (fun b hb => by
      rcases hb with hb | ⟨i, o, h1, h2⟩
      · exact .inl hb
      · obtain ⟨g, e, xs, h3, _⟩ := hf i o h1
        exact .inr (.inr ⟨i, ⟨o, h1⟩, h2, by rw [h3]; rfl⟩))
    (fun b hb => by
      rcases hb with hb | ⟨i, o, h1, h2⟩
      · exact R.okS b hb
      · exact (R.own i b h2).1)
    (fun i ⟨o, ho⟩ _ => by
      rcases frz_get hf (i := i) with ⟨o', h1, h2⟩ | ⟨h1, _⟩
      · rw [h2]; rfl
      · exact absurd ho (h1 o))
    (fun i cs ⟨o, ho⟩ hx _ => by
      rcases frz_get hf (i := i) with ⟨o', h1, h2⟩ | ⟨h1, _⟩
      · obtain ⟨g, e, xs, _, rfl⟩ := hf i o' h1
        rw [h2] at hx; cases hx
      · exact absurd ho (h1 o))
    (fun i g ⟨o, ho⟩ hx _ => by
      rcases frz_get hf (i := i) with ⟨o', h1, h2⟩ | ⟨h1, _⟩
      · obtain ⟨g', e', xs', h3, rfl⟩ := hf i o' h1
        rw [h2] at hx; cases hx
        exact ⟨_, by rw [h3]; rfl, Nat.le_refl _⟩
      · exact absurd ho (h1 o))
    (fun i g e xs fr ⟨o, ho⟩ hx _ => by
      rcases frz_get hf (i := i) with ⟨o', h1, h2⟩ | ⟨h1, _⟩
      · obtain ⟨g', e', xs', h3, rfl⟩ := hf i o' h1
        rw [h2] at hx; cases hx
        exact .inr ⟨_, _, h3, rfl, rfl⟩
      · exact absurd ho (h1 o))
    (fun hL hW i o ⟨o1, ho1⟩ hx => by
      rcases frz_get hf (i := i) with ⟨o', h1, h2⟩ | ⟨h1, _⟩
      · obtain ⟨g', e', xs', h3, rfl⟩ := hf i o' h1
        rw [h2] at hx; cases hx
        have h4 := (R.ob i _ h3).1
        refine ⟨h4.mono (fun b hb => .inl hb) hW (fun b _ => rfl), fun _ b hb => .inr ⟨i, _, h1, ?_⟩⟩
        rw [h3]; exact hb
      · exact absurd ho1 (h1 o1))
    (fun i b ⟨o, ho⟩ hx => by
      rcases frz_get hf (i := i) with ⟨o', h1, h2⟩ | ⟨h1, _⟩
      · obtain ⟨g', e', xs', h3, rfl⟩ := hf i o' h1
        rw [h2] at hx
        have hb : blk G i (s.ob i) = some b := by rw [h3]; exact hx
        exact ⟨(R.own i b hb).1, .inr ⟨i, ⟨_, h1⟩, hb, by rw [h3]; rfl⟩⟩
      · exact absurd ho (h1 o))
    (fun i j b ⟨o, ho⟩ ⟨o2, ho2⟩ hi hj => by
      rcases frz_get hf (i := i) with ⟨o', h1, h2⟩ | ⟨h1, _⟩
      · rcases frz_get hf (i := j) with ⟨o'', h1', h2'⟩ | ⟨h1', _⟩
        · obtain ⟨g', e', xs', h3, rfl⟩ := hf i o' h1
          obtain ⟨g'', e'', xs'', h3', rfl⟩ := hf j o'' h1'
          rw [h2] at hi; rw [h2'] at hj
          exact R.inj i j b (by rw [h3]; exact hi) (by rw [h3']; exact hj)
        · exact absurd ho2 (h1' o2)
      · exact absurd ho (h1 o))
    (fun i b ⟨o, ho⟩ hi hfr => by
      rcases frz_get hf (i := i) with ⟨o', h1, h2⟩ | ⟨h1, _⟩
      · obtain ⟨g', e', xs', h3, rfl⟩ := hf i o' h1
        rw [h2] at hfr; cases hfr
      · exact absurd ho (h1 o))
    (fun i ⟨o, ho⟩ _ => by
      obtain ⟨g, e, xs, h1, _⟩ := hf i o ho
      exact .inl (by rw [h1]; rfl))
    R.tsz R.dfr (fun hL hW t => (R.sl t).later (G' := { G with ok := okWith G s f }) (fun b hb => .inl hb) hW hL)
  exact key

theorem rep_of_own {ok : Nat → Prop} {e : TypeId} {xs : List PV} {v : Value} (h : OwnAt P ok w e xs v) (hb : ∀ b, v.ownBlock = some b → ok b) : RepV P ok w (.list e xs) v := by
  obtain ⟨us, hl, hv, hf, ho⟩ := h
  rcases ho.2 with ⟨rfl, h0⟩ | ⟨g, cap, cur, rfl, _, hh, hc, _⟩
  · obtain rfl := List.length_eq_zero_iff.1 h0; exact .nil e none 0
  · by_cases hx : xs = []
    · subst hx; exact .nil e _ cap
    · have hsz : ∀ u ∈ us, u.cells.size = P.cellsOf e := fun u hu => (hf u hu).1
      refine .list e xs g 0 cap (fun i => us.getD i default) hx (hb g rfl) hc (fun i x hi => ?_) (fun i hi => ?_) fun i j u hi hu => ?_
      · have hlt : i < us.length := by rw [hl]; exact (List.getElem?_eq_some_iff.1 hi).1
        exact hv i x _ hi (by simp [hlt])
      · have hlt : i < us.length := by omega
        have : us.getD i default = us[i] := by simp [hlt]
        rw [this]; exact hf _ (List.getElem_mem hlt)
      · have hlt : i < us.length := by omega
        have hg : us.getD i default = us[i] := by simp [hlt]
        rw [hg] at hu
        have hj : j < P.cellsOf e := by rw [← hsz _ (List.getElem_mem hlt)]; exact (Array.getElem?_eq_some_iff.1 hu).1
        have := ho.cells (g := g) rfl (i * P.cellsOf e + j) u (by rw [cellsOfL_get hsz (List.getElem?_eq_getElem hlt) hj]; exact hu)
        rwa [addr_add] at this

/-- A value that goes where it is not written any more. -/
theorem toPV_some (R : RelG P C G s a w) (V : View s sl ob) {α : Type} {r : α} {x : AV} {K : PV → List (Nat × Ob) → Option α} (h : toPV ob x K = some r) :
    ∃ p f, K p f = some r ∧ FrzList s f ∧ ∀ v, RelAV P G s.ob w x v → ∀ ok' : Nat → Prop, (∀ b, okWith G s f b → ok' b) → RepV P ok' w p v := by
  unfold toPV at h
  split at h
  · rename_i p
    exact ⟨p, [], h, FrzList.nil s, fun v hv ok' ho => (rel_pv hv).mono (fun b hb => ho b (.inl hb)) (fun _ _ _ => rfl)⟩
  · exact ⟨_, [], h, FrzList.nil s, fun v hv ok' ho => by cases hv; exact .nil _ _ _⟩
  · rename_i id g
    split at h
    · rename_i g' e xs fr hc
      replace h := cond_some h; obtain ⟨hb, h⟩ := h
      have e1 := Nat.eq_of_beq_eq_true hb
      subst e1
      have hc' := V.ob _ _ hc
      have hro := R.ob id _ hc'
      refine ⟨_, _, h, ?_, fun v hv ok' ho => ?_⟩
      · intro i o hm
        cases fr
        · simp only [cond, List.mem_singleton, Prod.mk.injEq] at hm
          obtain ⟨rfl, rfl⟩ := hm
          exact ⟨g, e, xs, hc', rfl⟩
        · simp at hm
      · cases hv with
        | row _ _ _ h1 h0 hg hv =>
          rw [hv _ _ _ hc']
          refine rep_of_own (hro.1.mono (fun b hb => ho b (.inl hb)) (fun _ _ _ => rfl) (fun _ _ => rfl)) fun b hb => ho b ?_
          cases fr with
          | true => exact .inl (hro.2 rfl b hb)
          | false => exact .inr ⟨id, .row g e xs true, by simp [cond], by rw [hc']; exact hb⟩
    · cases h
  · cases h

theorem toPVs_some (R : RelG P C G s a w) (V : View s sl ob) {α : Type} {r : α} : ∀ {xs : List AV} {K : List PV → List (Nat × Ob) → Option α}, toPVs ob xs K = some r →
    ∃ ps f, K ps f = some r ∧ FrzList s f ∧ ps.length = xs.length ∧ ∀ (j : Nat) x p v, xs[j]? = some x → ps[j]? = some p → RelAV P G s.ob w x v → ∀ ok' : Nat → Prop, (∀ b, okWith G s f b → ok' b) → RepV P ok' w p v
  | [], K, h => ⟨[], [], h, FrzList.nil s, rfl, fun j x p v hx => by simp at hx⟩
  | x :: xs, K, h => by
    simp only [toPVs] at h
    obtain ⟨p, f, h, hf, hp⟩ := toPV_some R V h
    obtain ⟨ps, fs, h, hfs, hl, hps⟩ := toPVs_some R V h
    refine ⟨p :: ps, f ++ fs, h, hf.append hfs, by simp [hl], fun j x' p' v hx hp' hv ok' ho => ?_⟩
    cases j with
    | zero =>
      simp at hx hp'; subst hx hp'
      exact hp v hv ok' fun b hb => ho b (hb.imp id fun ⟨i, o, h1, h2⟩ => ⟨i, o, List.mem_append_left _ h1, h2⟩)
    | succ j => exact hps j x' p' v (by simpa using hx) (by simpa using hp') hv ok' fun b hb => ho b (hb.imp id fun ⟨i, o, h1, h2⟩ => ⟨i, o, List.mem_append_right _ h1, h2⟩)

theorem toPVA_some (R : RelG P C G s a w) (V : View s sl ob) {α : Type} {r : α} {x : AV} {K : PV → List (Nat × Ob) → Option α} (h : toPVA ob x K = some r) :
    ∃ p f, K p f = some r ∧ FrzList s f ∧ ∀ v, RelAV P G s.ob w x v → ∀ ok' : Nat → Prop, (∀ b, okWith G s f b → ok' b) → RepV P ok' w p v := by
  unfold toPVA at h
  split at h
  · rename_i cs
    obtain ⟨ps, fs, h, hf, hl, hp⟩ := toPVs_some R V h
    refine ⟨_, _, h, hf, fun v hv ok' ho => ?_⟩
    cases hv with
    | agg _ vs hl' hr h1 =>
      refine .agg ps vs (by omega) (fun j p v hj hv => ?_) h1
      have hlt : j < cs.length := by rw [← hl']; exact (List.getElem?_eq_some_iff.1 hv).1
      exact hp j _ p v (List.getElem?_eq_getElem hlt) hj (hr j _ v (List.getElem?_eq_getElem hlt) hv) ok' ho
  · exact toPV_some R V h

/-! ### New things -/
theorem RelG.new (R : RelG P C G s a w) {id : Nat} {ob1 : Ob} {b : Option Nat} {v : Value} {w' : World} (hfree : s.ob id = none) (hnp : s.np ≤ id) (hw : Same w w' (fun _ => False))
    (hblk : ∀ G' : Gh, G'.gb id = b.getD 0 → G'.sg id = v → blk G' id (some ob1) = b) (hb : ∀ b', b = some b' → w.heap.size ≤ b' ∧ b' < w'.heap.size) (hfr : frz (some ob1) = false)
    (hob : ∀ G' : Gh, G'.ok = G.ok → G'.gb id = b.getD 0 → G'.sg id = v → Later G G' s.ob (upd s.ob id (some ob1)) → RelOb P G' (upd s.ob id (some ob1)) w' id ob1) :
    RelG P C { G with gb := upd G.gb id (b.getD 0), sg := upd G.sg id v } { s with ob := upd s.ob id (some ob1) } a w' := by
  have h1 : upd s.ob id (some ob1) id = some ob1 := upd_same ..
  have key := R.step (G' := { G with gb := upd G.gb id (b.getD 0), sg := upd G.sg id v }) (fun i => i = id) (sl' := s.sl) (ob' := upd s.ob id (some ob1)) (a' := a) (w' := w')
    (fun i hi => ⟨upd_ne _ _ hi, upd_ne _ _ hi, upd_ne _ _ hi⟩) (hw.mono fun b h => h.elim)
    (fun b hb => hb) (fun b hb => .inl hb) (fun b hb => Nat.lt_of_lt_of_le (R.okS b hb) hw.size)
    (fun i hi h => by subst hi; rw [hfree] at h; cases h)
    (fun i cs hi _ h => by subst hi; rw [hfree] at h; cases h)
    (fun i g hi _ h => by subst hi; rw [hfree] at h; cases h)
    (fun i g e xs fr hi _ h => by subst hi; rw [hfree] at h; cases h)
    (fun hL hW i o hi hx => by
      subst hi
      rw [h1] at hx; cases hx
      exact hob _ rfl (upd_same ..) (upd_same ..) hL)
    (fun i b' hi hx => by
      subst hi
      rw [h1, hblk _ (upd_same ..) (upd_same ..)] at hx
      exact ⟨(hb b' hx).2, .inl (hb b' hx).1⟩)
    (fun i j b' hi hj _ _ => by subst hi hj; rfl)
    (fun i b' hi hx _ hk => by
      subst hi
      rw [h1, hblk _ (upd_same ..) (upd_same ..)] at hx
      have := R.okS b' hk
      have := (hb b' hx).1
      omega)
    (fun i hi hlt => by subst hi; omega)
    R.tsz R.dfr (fun hL hW t => RelAV.later (G := G) (G' := { G with gb := upd G.gb id (b.getD 0), sg := upd G.sg id v }) (fun b hb => hb) hW hL (R.sl t))
  exact key

theorem freeIds_one {i : Nat} {ob1 : Ob} (h : freeIds s [(i, ob1)] = true) : s.ob i = none ∧ s.np ≤ i := by
  simp only [freeIds, Bool.and_true, Bool.and_eq_true] at h
  refine ⟨?_, Nat.le_of_ble_eq_true h.2⟩
  cases hi : s.ob i with
  | none => rfl
  | some _ => rw [hi] at h; cases h.1

/-- A new variable. -/
theorem goal_newbox (R : RelG P C G s a w) {cs : List AV} {vs : List Value} {T : TypeId}
    (hr : (execOp a.eval o).run P w = .ok (.value (.pointer (some ⟨w.heap.size, 0, none⟩))) (w.alloc (.cells vs.toArray T)))
    (hl : vs.length = cs.length) (hv : ∀ (j : Nat) a v, cs[j]? = some a → vs[j]? = some v → RelAV P G s.ob w a v) (h1 : ∀ v ∈ vs, v.oneCell' = true) :
    OpGoal P C s a w o ⟨.ref (o.dst.getD 0) 0, [(o.dst.getD 0, .box cs)], []⟩ := by
  intro hd hf _ K Q hK
  obtain ⟨hfree, hnp⟩ := freeIds_one hf
  refine wp_of_value hr (hK _ _ ?_)
  have hW : ∀ b, G.ok b → b < w.heap.size → (w.alloc (.cells vs.toArray T)).heap[b]? = w.heap[b]? := fun b _ hb => alloc_old w _ hb
  have R1 := R.new (id := o.dst.getD 0) (ob1 := .box cs) (b := some w.heap.size) (v := .tuple #[]) (w' := w.alloc (.cells vs.toArray T)) hfree hnp (Same.alloc w _ _)
    (fun G' hg _ => by simp [blk, hg]) (fun b' hb => by cases hb; simp) rfl
    (fun G' hok hg _ hL => ⟨T, vs, by rw [hg]; exact heap_alloc_new w _, hl, fun j a' v ha hv' => (hv j a' v ha hv').later (fun b hb => hok ▸ hb) hW hL, h1⟩)
  refine ⟨_, R1.put (v := .ref (o.dst.getD 0) 0) (u := .pointer (some ⟨w.heap.size, 0, none⟩)) hd (.ref _ _ _ rfl (by simp [upd_same]) fun cs' _ => ?_)⟩
  simp [upd_same]

theorem run_newVar (t : TypeId) (v : Value) : (newVar t v).run P w = .ok ⟨w.heap.size, 0, none⟩ (w.alloc (.cells v.cells t)) := by
  simp [newVar, newRow, newObj, Sem.run]

theorem op_alloc (R : RelG P C G s a w) (V : View s sl ob) {t : TypeId} (ho : o.op = .alloc t)
    (h : act P an me cf o sl ob some = some δ) : OpGoal P C s a w o δ := by
  simp only [act, ho, forceAV_eq, forceL_eq] at h
  split at h
  · rename_i cs hz
    obtain ⟨i, z, hi, hzz, hok, hl, _, h1, hr⟩ := zeroAV_some hz
    simp only [Option.some.injEq] at h; subst h
    refine goal_newbox R (vs := z.cells.toList) (T := t) ?_ hl (hr G s.ob w) h1
    simp only [execOp, ho, Instr.alloc, Sem.run_bind, zeroValue, typeInfo, program, Sem.run, hi, hzz, Result.andThen_ok, Sem.run_pure, run_newVar, Array.toArray_toList]
  · cases h

theorem op_box (R : RelG P C G s a w) (V : View s sl ob) {t : TypeId} {x : Operand} (ho : o.op = .box t x)
    (h : act P an me cf o sl ob some = some δ) : OpGoal P C s a w o δ := by
  simp only [act, ho, forceAV_eq, forceL_eq] at h
  obtain ⟨ws, h, hok, hcells⟩ := cellsAV_some h
  obtain ⟨us, hc, hl, hlw, hr, h1, hf⟩ := hcells G s.ob _ (opd_rel R V t x)
  simp only [Option.some.injEq] at h; subst h
  refine goal_newbox R (vs := us) (T := t) ?_ hlw hr h1
  simp only [execOp, ho, Instr.box, Sem.run_bind, run_newVar, Result.andThen_ok, Sem.run_pure, hc]
end
end Go.Proofs.Sx
