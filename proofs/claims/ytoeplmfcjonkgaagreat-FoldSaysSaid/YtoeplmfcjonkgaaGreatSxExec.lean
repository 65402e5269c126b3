/- Code: what is kept of a frame, loops, all code. -/
import Derived.Test.YtoeplmfcjonkgaaGreatSxAny
set_option linter.unusedVariables false
set_option linter.unusedSimpArgs false
namespace Go.Proofs.Sx
open Go

theorem lkA_get {f : Nat → AV} : ∀ {l : List Nat} (t : Nat), lkA (l.map fun t => (t, f t)) t = .gone ∨ (t ∈ l ∧ lkA (l.map fun t => (t, f t)) t = f t)
  | [], t => .inl rfl
  | x :: l, t => by
    simp only [List.map_cons, lkA]
    cases h : Nat.beq t x with
    | true => have := Nat.eq_of_beq_eq_true h; subst this; exact .inr ⟨by simp, rfl⟩
    | false =>
      rcases lkA_get (f := f) (l := l) t with h1 | ⟨h1, h2⟩
      · exact .inl h1
      · exact .inr ⟨by simp [h1], h2⟩
theorem lkO_mem : ∀ {l : List (Nat × Ob)} {i : Nat} {o : Ob}, lkO l i = some o → (i, o) ∈ l
  | [], i, o, h => by simp [lkO] at h
  | (j, o') :: l, i, o, h => by
    simp only [lkO] at h
    cases hb : Nat.beq i j with
    | true => rw [hb] at h; have := Nat.eq_of_beq_eq_true hb; subst this; simp at h; simp [h]
    | false => rw [hb] at h; exact List.mem_cons_of_mem _ (lkO_mem h)
theorem lkO_some : ∀ {l : List (Nat × Ob)} {i : Nat}, i ∈ l.map (·.1) → (lkO l i).isSome = true
  | [], i, h => by simp at h
  | (j, o') :: l, i, h => by
    simp only [lkO]
    cases hb : Nat.beq i j with
    | true => rfl
    | false =>
      have hne : i ≠ j := by rintro rfl; simp at hb
      simp only [List.map_cons, List.mem_cons, hne, false_or] at h
      exact lkO_some h
theorem lkO_eq : ∀ {l : List (Nat × Ob)} {i : Nat} {o : Ob}, (l.map (·.1)).Nodup → (i, o) ∈ l → lkO l i = some o
  | [], i, o, _, h => by simp at h
  | (j, o') :: l, i, o, hn, h => by
    simp only [List.map_cons, List.nodup_cons] at hn
    simp only [lkO]
    rcases List.mem_cons.1 h with h1 | h1
    · cases h1; simp
    · have hne : i ≠ j := by rintro rfl; exact hn.1 (List.mem_map.2 ⟨(i, o), h1, rfl⟩)
      have : Nat.beq i j = false := by
        cases hb : Nat.beq i j
        · rfl
        · exact absurd (Nat.eq_of_beq_eq_true hb) hne
      rw [this]; exact lkO_eq hn.2 h1
theorem lkN_mem : ∀ {l : List (Nat × Nat)} {t i : Nat}, lkN l t = some i → (t, i) ∈ l
  | [], t, i, h => by simp [lkN] at h
  | (j, o') :: l, t, i, h => by
    simp only [lkN] at h
    cases hb : Nat.beq t j with
    | true => rw [hb] at h; have := Nat.eq_of_beq_eq_true hb; subst this; simp at h; simp [h]
    | false => rw [hb] at h; exact List.mem_cons_of_mem _ (lkN_mem h)
theorem lkC_mem : ∀ {l : List (Nat × Nat × Nat)} {b c i : Nat}, lkC l b c = some i → (b, c, i) ∈ l
  | [], b, c, i, h => by simp [lkC] at h
  | (b', c', i') :: l, b, c, i, h => by
    simp only [lkC] at h
    cases hb : (Nat.beq b b' && Nat.beq c c') with
    | true =>
      rw [hb] at h
      simp only [Bool.and_eq_true] at hb
      have e1 := Nat.eq_of_beq_eq_true hb.1
      have e2 := Nat.eq_of_beq_eq_true hb.2
      subst e1 e2
      simp at h; simp [h]
    | false => rw [hb] at h; exact List.mem_cons_of_mem _ (lkC_mem h)

theorem find_key {α : Type} : ∀ {l : List (α × Nat)} {a : α} {i : Nat}, (l.map (·.2)).Nodup → (a, i) ∈ l → l.find? (fun p => p.2 == i) = some (a, i)
  | [], a, i, _, h => by simp at h
  | (b, j) :: l, a, i, hn, h => by
    simp only [List.map_cons, List.nodup_cons] at hn
    rcases List.mem_cons.1 h with h | h
    · cases h; simp
    · have hne : j ≠ i := by rintro rfl; exact hn.1 (List.mem_map.2 ⟨_, h, rfl⟩)
      rw [List.find?_cons_of_neg (by simpa using hne)]
      exact find_key hn.2 h

theorem aliasOf_mem {id g i : Nat} : ∀ {es : List (AV × Nat)}, aliasOf es id g = some i → (.row id g, i) ∈ es
  | [], h => by cases h
  | (a, j) :: r, h => by
    unfold aliasOf at h
    split at h
    · rename_i id' g'
      cases hb : (Nat.beq id id' && Nat.beq g g') with
      | true =>
        rw [hb] at h
        simp only [Bool.and_eq_true] at hb
        have e1 := Nat.eq_of_beq_eq_true hb.1
        have e2 := Nat.eq_of_beq_eq_true hb.2
        subst e1 e2
        simp at h; simp [h]
      | false => rw [hb] at h; exact List.mem_cons_of_mem _ (aliasOf_mem h)
    · exact List.mem_cons_of_mem _ (aliasOf_mem h)

/-- Two values that lead to one row are one. -/
theorem src_unique : ∀ {l : List (AV × Nat)} {id g g' i j : Nat}, (l.flatMap fun p => rowSrc p.1).Nodup → (.row id g, i) ∈ l → (.row id g', j) ∈ l → i = j ∧ g = g'
  | [], id, g, g', i, j, _, h, _ => by simp at h
  | (x, k) :: l, id, g, g', i, j, hn, h, h' => by
    simp only [List.flatMap_cons, List.nodup_append] at hn
    rcases List.mem_cons.1 h with h1 | h1
    · rcases List.mem_cons.1 h' with h2 | h2
      · rw [← h1] at h2; cases h2; exact ⟨rfl, rfl⟩
      · cases h1
        exact absurd rfl (hn.2.2 id (by simp [rowSrc]) id (List.mem_flatMap.2 ⟨_, h2, by simp [rowSrc]⟩))
    · rcases List.mem_cons.1 h' with h2 | h2
      · cases h2
        exact absurd rfl (hn.2.2 id (by simp [rowSrc]) id (List.mem_flatMap.2 ⟨_, h1, by simp [rowSrc]⟩))
      · exact src_unique hn.2.1 h1 h2

section
variable {P : Program} {C : Ctx} {G : Gh} {s : St} {a : Act} {w : World} {ops : Array Oper} {o : Oper}
variable {an : An} {me : FuncId} {cf : FuncId → List PA → Option Ret}

def srcV (G : Gh) : AV → Value
  | .row id _ => G.sg id
  | _ => .slice none 0 0

/-- The meaning of what is kept. -/
def keepG (G : Gh) (l : LoopAn) (s : St) : Gh :=
  { gb := G.gb
    sg := fun i => match (ents l s).find? (fun p => p.2 == i) with | some p => srcV G p.1 | none => .nilFunc
    ok := fun b => G.ok b ∨ ∃ id g e xs fr, s.ob id = some (.row g e xs fr) ∧ id ∉ srcs l s ∧ blk G id (s.ob id) = some b }

theorem restrict_sound {l : LoopAn} (R : RelG P C G s a w) (hok : okRestrict l s = true) : RelG P C (keepG G l s) (restrict l s) a w := by
  simp only [okRestrict, Bool.and_eq_true] at hok
  obtain ⟨⟨hn1, hn2⟩, hnp⟩ := hok
  have hnd := nodupN_true hn1
  have hsrc := nodupN_true hn2
  have hndE : ((ents l s).map (·.2)).Nodup := (List.nodup_append.1 hnd).2.1
  have hsg : ∀ x i, (x, i) ∈ ents l s → (keepG G l s).sg i = srcV G x := fun x i h => by simp only [keepG]; rw [find_key hndE h]
  have hkeys : ((l.keepO.map (fun b => (b, newBox l s b)) ++ (ents l s).map fun p => (p.2, canonOb s.ob p.1)).map (·.1)).Nodup := by
    simpa [List.map_append, Function.comp_def] using hnd
  -- what stands at a number
  have hob : ∀ i o, (restrict l s).ob i = some o → (i ∈ l.keepO ∧ o = newBox l s i) ∨ ∃ x, (x, i) ∈ ents l s ∧ o = canonOb s.ob x := by
    intro i o h
    have := lkO_mem h
    rcases List.mem_append.1 this with h1 | h1
    · obtain ⟨b, hb, h2⟩ := List.mem_map.1 h1; cases h2; exact .inl ⟨hb, rfl⟩
    · obtain ⟨p, hp, h2⟩ := List.mem_map.1 h1; cases h2; exact .inr ⟨p.1, hp, rfl⟩
  have hobE : ∀ x i, (x, i) ∈ ents l s → (restrict l s).ob i = some (canonOb s.ob x) := fun x i h =>
    lkO_eq hkeys (List.mem_append_right _ (List.mem_map.2 ⟨_, h, rfl⟩))
  have hobK : ∀ i, i ∈ l.keepO → (restrict l s).ob i = some (newBox l s i) := fun i h =>
    lkO_eq hkeys (List.mem_append_left _ (List.mem_map.2 ⟨_, h, rfl⟩))
  have okM : ∀ b, G.ok b → (keepG G l s).ok b := fun b h => .inl h
  have hW : ∀ b, G.ok b → b < w.heap.size → w.heap[b]? = w.heap[b]? := fun _ _ _ => rfl
  -- a value whose row gets a number
  have hcan : ∀ x i v, (x, i) ∈ ents l s → RelAV P G s.ob w x v → RelAV P (keepG G l s) (restrict l s).ob w (canonAV s.ob i x) v := by
    intro x i v hm hv
    cases hv with
    | nilS e =>
      refine .row i 0 _ rfl (by rw [hobE _ _ hm]; rfl) (fun g' _ => Nat.zero_le _) fun e' xs' fr' _ => ?_
      rw [hsg _ _ hm]; rfl
    | row id g v h1 h0 hg hv =>
      simp only [canonAV]
      cases hc : curRow s.ob id g with
      | false => exact .gone _
      | true =>
        refine .row i 0 _ h1 (by rw [hobE _ _ hm]; rfl) (fun g' _ => Nat.zero_le _) fun e' xs' fr' _ => ?_
        rw [hsg _ _ hm]
        unfold curRow at hc
        split at hc
        · rename_i g' e xs fr ho
          have := Nat.eq_of_beq_eq_true hc
          subst this
          exact hv _ _ _ ho
        · cases hc
    | _ => exact .gone _
  -- any other value
  have hscr : ∀ x v, RelAV P G s.ob w x v → RelAV P (keepG G l s) (restrict l s).ob w (scrubAV l.keepO (srcs l s) (ents l s) s.ob x) v := by
    intro x v hv
    cases hv with
    | pv p v h => exact .pv _ _ (h.mono okM hW)
    | ref id off v h1 h0 h =>
      simp only [scrubAV]
      cases hm : memN id l.keepO with
      | false => exact .gone _
      | true =>
        have hk := memN_true.1 hm
        refine .ref _ _ _ h1 (by rw [hobK _ hk]; rfl) fun cs hcs => ?_
        rw [hobK _ hk] at hcs
        unfold newBox at hcs
        split at hcs
        · rename_i cs' ho; exact h _ ho
        · cases hcs
    | row id g v h1 h0 hg h =>
      simp only [scrubAV]
      cases hm : memN id (srcs l s) with
      | true =>
        simp only [Bool.cond_true]
        split
        · rename_i i hi
          exact hcan _ _ _ (aliasOf_mem hi) (.row id g v h1 h0 hg h)
        · exact .gone _
      | false =>
        simp only [Bool.cond_false]
        split
        · rename_i g' e xs fr ho
          cases hb : Nat.beq g g' with
          | false => exact .gone _
          | true =>
            have := Nat.eq_of_beq_eq_true hb
            subst this
            refine .pv _ _ ?_
            rw [h _ _ _ ho]
            refine rep_of_own ((R.ob id _ ho).1.mono okM hW (fun _ _ => rfl)) fun b hb => .inr ⟨id, g, e, xs, fr, ho, fun hin => ?_, by rw [ho]; exact hb⟩
            rw [memN_true.2 hin] at hm; cases hm
        · exact .gone _
    | pelem e p off b o' u hb hp hf hw => exact .pelem _ _ _ _ _ _ (okM b hb) (hp.mono okM hW) hf hw
    | nilS e => exact .pv _ _ (.nil _ _ _)
    | nilP => exact .nilP
    | undef => exact .undef
    | _ => exact .gone _
  -- a block that is held was held
  have horig : ∀ i b, blk (keepG G l s) i ((restrict l s).ob i) = some b → (i ∈ l.keepO ∧ ∃ cs, s.ob i = some (.box cs) ∧ blk G i (s.ob i) = some b ∧ (restrict l s).ob i = some (newBox l s i)) ∨
      ∃ id g e xs fr, (.row id g, i) ∈ ents l s ∧ s.ob id = some (.row g e xs fr) ∧ blk G id (s.ob id) = some b ∧ (restrict l s).ob i = some (.row 0 e xs fr) := by
    intro i b hb
    cases ho : (restrict l s).ob i with
    | none => rw [ho] at hb; cases hb
    | some o =>
      rw [ho] at hb
      rcases hob i o ho with ⟨hk, rfl⟩ | ⟨x, hx, rfl⟩
      · unfold newBox at hb
        cases hs : s.ob i with
        | none => simp [hs, blk] at hb
        | some o' =>
          cases o' with
          | box cs =>
            rw [hs] at hb
            exact .inl ⟨hk, cs, rfl, hb, ho ▸ rfl⟩
          | _ => simp [hs, blk] at hb
      · cases x with
        | nilS e => simp only [canonOb, blk, hsg _ _ hx, srcV, Value.ownBlock] at hb; cases hb
        | row id g =>
          simp only [canonOb] at hb ho
          cases hs : s.ob id with
          | none => simp [hs, blk] at hb
          | some o' =>
            cases o' with
            | row g' e xs fr =>
              simp only [hs] at hb ho
              cases hc : Nat.beq g g' with
              | false => simp [hc, blk] at hb
              | true =>
                simp only [hc, Bool.cond_true] at hb ho
                have := Nat.eq_of_beq_eq_true hc
                subst this
                simp only [blk, hsg _ _ hx, srcV] at hb
                exact .inr ⟨id, g, e, xs, fr, hx, hs, by rw [hs]; exact hb, by simp only [canonOb, hs, hc, Bool.cond_true]⟩
            | _ => simp [hs, blk] at hb
        | _ => simp [canonOb, blk] at hb
  refine ⟨R.tsz, R.dfr, fun t => ?_, fun i o ho => ?_, fun i j b hi hj => ?_, fun i b hi => ?_, fun i b hi hf hk => ?_, fun b hb => okM b (R.ok0 b hb), fun b hb => ?_, fun b hb => ?_, fun i b hb => ?_, R.same⟩
  · show RelAV P (keepG G l s) (restrict l s).ob w (lkA (l.keepS.map fun t => (t, newSl l s t)) t) _
    rcases lkA_get (f := newSl l s) (l := l.keepS) t with h | ⟨_, h⟩
    · rw [h]; exact .gone _
    · rw [h]
      unfold newSl
      split
      · rename_i i hi
        exact hcan _ _ _ (List.mem_append_left _ (List.mem_map.2 ⟨(t, i), lkN_mem hi, rfl⟩)) (R.sl t)
      · exact hscr _ _ (R.sl t)
  · rcases hob i o ho with ⟨hk, rfl⟩ | ⟨x, hx, rfl⟩
    · unfold newBox
      split
      · rename_i cs hs
        obtain ⟨T, vs, h1, h2, h3, h4⟩ := R.ob i _ hs
        refine ⟨T, vs, h1, by simp [h2], fun j a' v ha hv => ?_, h4⟩
        rw [List.getElem?_map, List.getElem?_zipIdx] at ha
        cases hc : cs[j]? with
        | none => rw [hc] at ha; cases ha
        | some c0 =>
          rw [hc] at ha
          simp at ha
          subst ha
          unfold newCell
          split
          · rename_i k hkc
            refine hcan _ _ _ (List.mem_append_right _ (List.mem_map.2 ⟨(i, j, k), lkC_mem hkc, ?_⟩)) (h3 j _ v hc hv)
            simp [cellAt, hs, hc]
          · exact hscr _ _ (h3 j _ v hc hv)
      · trivial
    · cases x with
      | nilS e =>
        refine ⟨⟨[], rfl, by simp, by simp, ?_⟩, fun h => by cases h⟩
        rw [hsg _ _ hx]; exact World.ownsRow_nil ..
      | row id g =>
        simp only [canonOb]
        split
        · rename_i g' e xs fr hs
          cases hc : Nat.beq g g' with
          | false => trivial
          | true =>
            have hro := R.ob id _ hs
            refine ⟨?_, fun hfr b hb => ?_⟩
            · rw [hsg _ _ hx]; exact hro.1.mono okM hW (fun _ _ => rfl)
            · rw [hsg _ _ hx] at hb; exact okM b (hro.2 hfr b hb)
        · trivial
      | _ => trivial
  · rcases horig i b hi with ⟨hk, cs, h1, h2, _⟩ | ⟨id, g, e, xs, fr, h1, h2, h3, _⟩ <;> rcases horig j b hj with ⟨hk', cs', h1', h2', _⟩ | ⟨id', g', e', xs', fr', h1', h2', h3', _⟩
    · exact R.inj _ _ _ h2 h2'
    · have := R.inj _ _ _ h2 h3'; subst this; rw [h1] at h2'; cases h2'
    · have := R.inj _ _ _ h3 h2'; subst this; rw [h2] at h1'; cases h1'
    · have := R.inj _ _ _ h3 h3'; subst this
      exact (src_unique hsrc h1 h1').1
  · rcases horig i b hi with ⟨_, _, _, h2, _⟩ | ⟨id, g, e, xs, fr, h1, h2, h3, _⟩
    · exact R.own _ _ h2
    · exact R.own _ _ h3
  · rcases horig i b hi with ⟨_, cs, h1, h2, ho⟩ | ⟨id, g, e, xs, fr, h1, h2, h3, ho⟩
    · rcases hk with hk | ⟨id', g', e', xs', fr', h5, _, h6⟩
      · exact R.apart i b h2 (by rw [h1]; rfl) hk
      · have := R.inj _ _ _ h2 h6; subst this; rw [h1] at h5; cases h5
    · rw [ho] at hf
      rcases hk with hk | ⟨id', g', e', xs', fr', h5, h7, h6⟩
      · exact R.apart id b h3 (by rw [h2]; exact hf) hk
      · have := R.inj _ _ _ h3 h6; subst this
        exact h7 (List.mem_flatMap.2 ⟨_, h1, by simp [rowSrc]⟩)
  · rcases hb with hb | ⟨id, g, e, xs, fr, h1, h2, h3⟩
    · exact R.okN b hb
    · exact .inr (R.own _ _ h3).2
  · rcases hb with hb | ⟨id, g, e, xs, fr, h1, h2, h3⟩
    · exact R.okS b hb
    · exact (R.own _ _ h3).1
  · obtain ⟨h1, h2⟩ := R.lent i b hb
    refine ⟨h1, fun cs hcs => ?_⟩
    rcases hob i _ hcs with ⟨hk, h3⟩ | ⟨x, hx, h3⟩
    · unfold newBox at h3
      split at h3
      · rename_i cs' hs; exact h2 _ hs
      · cases h3
    · cases x with
      | row id0 g0 =>
        simp only [canonOb] at h3
        split at h3
        · rename_i g' e xs fr hs
          cases hc : Nat.beq g0 g' <;> simp [hc] at h3
        · cases h3
      | _ => cases h3

/-! ### All code -/
def exOf : Ex → Exit
  | .normal => .normal
  | .exit i => .exit i
  | .ret => .ret

theorem wp_loop_unroll {c : Code} {Q : Exit → Act → World → Prop} {a : Act} {w : World}
    (h : ∀ (b : Frame) (k : List Item) (cs : List Frame), ∃ e a' w', Q e a' w' ∧ Arrives P (lone (b.at a (.code c :: .inLoop c :: k)) cs w) b k cs e a' w') : (Code.loop c).wp P Q a w :=
  fun b k cs => let ⟨e, a', w', hq, r⟩ := h b k cs; ⟨e, a', w', hq, .of_steps (.one step_loop) r⟩

theorem restrictK_some {α : Type} {r : α} {l : LoopAn} {K : St → Option α} (h : restrictK l s K = some r) (R : Rel P C s a w) : Rel P C (restrict l s) a w ∧ K (restrict l s) = some r := by
  unfold restrictK at h
  replace h := cond_some h; obtain ⟨hb, h⟩ := h
  obtain ⟨G, R⟩ := R
  exact ⟨⟨_, restrict_sound R hb⟩, h⟩
theorem joinK_some {α : Type} {r : α} {l : Option LoopAn} {K : St → Option α} (h : joinK l s K = some r) (R : Rel P C s a w) : ∃ s', Rel P C s' a w ∧ K s' = some r := by
  unfold joinK at h
  split at h
  · exact ⟨s, R, h⟩
  · exact ⟨_, (restrictK_some h R).1, (restrictK_some h R).2⟩

theorem iter_sound {α : Type} {r : α} {c : Code} {body : St → (Ex → St → Option α) → Option α} {l : LoopAn} {K : Ex → St → Option α} {Q : Exit → Act → World → Prop}
    (hbody : ∀ (s : St) (a : Act) (w : World) (K' : Ex → St → Option α) (Q' : Exit → Act → World → Prop), body s K' = some r → Rel P C s a w → (∀ e s' a' w', Rel P C s' a' w' → K' e s' = some r → Q' (exOf e) a' w') → c.wp P Q' a w)
    (hK : ∀ e s' a' w', Rel P C s' a' w' → K e s' = some r → Q (exOf e) a' w') :
    ∀ (m : Nat) (s : St) (a : Act) (w : World), iter body l m s K = some r → Rel P C s a w → ∀ (b : Frame) (k : List Item) (cs : List Frame),
      ∃ e a' w', Q e a' w' ∧ Arrives P (lone (b.at a (.code c :: .inLoop c :: k)) cs w) b k cs e a' w' := by
  intro m
  induction m with
  | zero => intro s a w h; cases h
  | succ m ih =>
    intro s a w h R b k cs
    simp only [iter] at h
    have h1 := hbody s a w _ (Exit.then (fun a' w' => ∃ s', Rel P C s' a' w' ∧ iter body l m s' K = some r) Q) h R (fun e s' a' w' R' h' => by
      cases e with
      | normal =>
        simp only [seqK] at h'
        exact ⟨_, restrictK_some h' R'⟩
      | exit i => exact hK _ _ _ _ R' h'
      | ret => exact hK _ _ _ _ R' h')
    obtain ⟨e, a₁, w₁, hq, harr⟩ := h1 b (.inLoop c :: k) cs
    cases e with
    | normal =>
      obtain ⟨s', R', h'⟩ := hq
      obtain ⟨e₂, a₂, w₂, hq₂, harr₂⟩ := ih s' a₁ w₁ h' R' b k cs
      exact ⟨e₂, a₂, w₂, hq₂, .of_steps (Steps.trans harr (.one step_inLoop)) harr₂⟩
    | exit id => exact ⟨_, a₁, w₁, hq, .pass (x := .inLoop c) rfl (fun _ _ => .inl (by simp)) harr⟩
    | goto l => exact ⟨_, a₁, w₁, hq, .pass (x := .inLoop c) rfl (fun _ _ => .inl (by simp)) harr⟩
    | ret => exact ⟨_, a₁, w₁, hq, .pass (x := .inLoop c) rfl (fun _ _ => .inl (by simp)) harr⟩
    | panic ch => exact ⟨_, a₁, w₁, hq, .pass (x := .inLoop c) rfl (fun _ _ => .inl (by simp)) harr⟩
    | outgrown => exact ⟨_, a₁, w₁, hq, .pass (x := .inLoop c) rfl (fun _ _ => .inl (by simp)) harr⟩

theorem exec_sound (hact : ActOK P an me cf) {α : Type} {r : α} (n : Nat) : ∀ (c : Code) (s : St) (a : Act) (w : World) (K : Ex → St → Option α) (Q : Exit → Act → World → Prop),
    exec P an me cf n c s K = some r → Rel P C s a w → (∀ e s' a' w', Rel P C s' a' w' → K e s' = some r → Q (exOf e) a' w') → c.wp P Q a w := by
  intro c
  induction c with
  | skip => intro s a w K Q h R hK; exact wp_skip (hK .normal s a w R h)
  | region id ops draw =>
    intro s a w K Q h R hK
    simp only [exec] at h
    cases draw with
    | true => exact draw_sound hact h R fun s' a' w' R' h' => hK .normal s' a' w' R' h'
    | false =>
      refine wp_region ?_
      have := runL_sound (Q := Q) hact ops.toList 0 s a w rfl h R fun s' a' w' R' h' => hK .normal s' a' w' R' h'
      rw [List.range_eq_range']
      simpa using this
  | seq x y ihx ihy =>
    intro s a w K Q h R hK
    simp only [exec] at h
    refine wp_seq (ihx s a w _ _ h R fun e s' a' w' R' h' => ?_)
    cases e with
    | normal =>
      obtain ⟨s'', R'', h''⟩ := joinK_some (show joinK (an.join me (firstReg y)) s' (fun s'' => exec P an me cf n y s'' K) = some r from h') R'
      exact ihy s'' a' w' K Q h'' R'' hK
    | exit i => exact hK _ _ _ _ R' h'
    | ret => exact hK _ _ _ _ R' h'
  | cond c x y ihx ihy =>
    intro s a w K Q h R hK
    simp only [exec] at h
    obtain ⟨b, hb, h⟩ := avBool_some h
    have R0 := R
    obtain ⟨G, RG⟩ := R
    have hc := opd_rel RG (View.self s) 0 c
    rw [hb] at hc
    have hcv := rel_bool hc
    have href : ∀ b', b' = b → refine s c b' = s := by
      rintro _ rfl
      cases c with
      | tmp t => exact refine_self hb
      | _ => rfl
    cases b with
    | true =>
      simp only [Bool.cond_true] at h
      rw [href true rfl] at h
      exact wp_cond_true hcv (ihx s a w K Q h R0 hK)
    | false =>
      simp only [Bool.cond_false] at h
      rw [href false rfl] at h
      exact wp_cond_false hcv (ihy s a w K Q h R0 hK)
  | block id c ih =>
    intro s a w K Q h R hK
    simp only [exec] at h
    refine wp_block (ih s a w _ _ h R fun e s' a' w' R' h' => ?_)
    cases e with
    | normal => exact hK .normal _ _ _ R' h'
    | exit i =>
      simp only [blockK] at h'
      by_cases hi : i = id
      · subst hi
        rw [Nat.beq_refl i] at h'
        simp only [exOf, Exit.inBlock, if_true]
        exact hK .normal _ _ _ R' h'
      · have : Nat.beq i id = false := by
          cases hb : Nat.beq i id
          · rfl
          · exact absurd (Nat.eq_of_beq_eq_true hb) hi
        rw [this] at h'
        simp only [exOf, Exit.inBlock, hi, if_false]
        exact hK (.exit i) _ _ _ R' h'
    | ret => exact hK .ret _ _ _ R' h'
  | loop c ih =>
    intro s a w K Q h R hK
    simp only [exec] at h
    obtain ⟨R', h'⟩ := restrictK_some h R
    exact wp_loop_unroll fun b k cs => iter_sound (c := c) (fun s a w K' Q' => ih s a w K' Q') hK n _ a w h' R' b k cs
  | exit id => intro s a w K Q h R hK; exact wp_exit (hK (.exit id) s a w R h)
  | ret => intro s a w K Q h R hK; exact wp_ret (hK .ret s a w R h)
  | rangeFunc f ps x y _ _ => intro s a w K Q h R hK; simp [exec] at h
  | scope b _ => intro s a w K Q h R hK; simp [exec] at h
  | label l => intro s a w K Q h R hK; simp [exec] at h
  | goto l => intro s a w K Q h R hK; simp [exec] at h
  | refuse y => intro s a w K Q h R hK; simp [exec] at h
end
end Go.Proofs.Sx
