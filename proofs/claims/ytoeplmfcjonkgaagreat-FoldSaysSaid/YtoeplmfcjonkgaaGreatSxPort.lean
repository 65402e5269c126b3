/- A call's border: what is told of arguments and results. -/
import Derived.Test.YtoeplmfcjonkgaaGreatSxExec
set_option linter.unusedVariables false
set_option linter.unusedSimpArgs false
namespace Go.Proofs.Sx
open Go

/-- A value as it is told, and the blocks that it alone leads to. -/
inductive CVRel (P : Program) (ok : Nat → Prop) (w : World) : CV → Value → List Nat → Prop
  | v (p : PV) (v : Value) (h : RepV P ok w p v) : CVRel P ok w (.v p) v []
  | own (e : TypeId) (xs : List PV) (v : Value) (h : OwnAt P ok w e xs v) : CVRel P ok w (.own e xs) v v.ownBlock.toList
inductive CVsRel (P : Program) (ok : Nat → Prop) (w : World) : List CV → List Value → List Nat → Prop
  | nil : CVsRel P ok w [] [] []
  | cons {c : CV} {v : Value} {bs : List Nat} {cs : List CV} {vs : List Value} {bs' : List Nat} (h : CVRel P ok w c v bs) (t : CVsRel P ok w cs vs bs') : CVsRel P ok w (c :: cs) (v :: vs) (bs ++ bs')
inductive PARel (P : Program) (ok : Nat → Prop) (w : World) : PA → Value → List Nat → Prop
  | v (p : PV) (v : Value) (h : RepV P ok w p v) : PARel P ok w (.v p) v []
  | own (e : TypeId) (xs : List PV) (v : Value) (h : OwnAt P ok w e xs v) : PARel P ok w (.own e xs) v v.ownBlock.toList
  | lent (cs : List CV) (b : Nat) (T : TypeId) (vs : List Value) (bs : List Nat) (hh : w.heap[b]? = some (.cells vs.toArray T (0, 0))) (h : CVsRel P ok w cs vs bs) (h1 : ∀ v ∈ vs, v.oneCell' = true) :
      PARel P ok w (.lent cs) (.pointer (some ⟨b, 0, none⟩)) (b :: bs)
inductive PAsRel (P : Program) (ok : Nat → Prop) (w : World) : List PA → List Value → List Nat → Prop
  | nil : PAsRel P ok w [] [] []
  | cons {c : PA} {v : Value} {bs : List Nat} {cs : List PA} {vs : List Value} {bs' : List Nat} (h : PARel P ok w c v bs) (t : PAsRel P ok w cs vs bs') : PAsRel P ok w (c :: cs) (v :: vs) (bs ++ bs')

section
variable {P : Program} {ok : Nat → Prop} {w : World}
theorem PARel.of_cv {c : CV} {v : Value} {bs : List Nat} (h : CVRel P ok w c v bs) : PARel P ok w (paOf c) v bs := by
  cases h with
  | v p v h => exact .v _ _ h
  | own e xs v h => exact .own _ _ _ h
theorem PARel.to_cv {c : CV} {v : Value} {bs : List Nat} (h : PARel P ok w (paOf c) v bs) : CVRel P ok w c v bs := by
  cases c with
  | v p => cases h with | v _ _ h => exact .v _ _ h
  | own e xs => cases h with | own _ _ _ h => exact .own _ _ _ h
theorem CVsRel.length {cs : List CV} {vs : List Value} {bs : List Nat} (h : CVsRel P ok w cs vs bs) : vs.length = cs.length := by
  induction h with
  | nil => rfl
  | cons _ _ ih => simp [ih]
theorem PAsRel.length {cs : List PA} {vs : List Value} {bs : List Nat} (h : PAsRel P ok w cs vs bs) : vs.length = cs.length := by
  induction h with
  | nil => rfl
  | cons _ _ ih => simp [ih]
theorem PAsRel.append {cs : List PA} {vs : List Value} {bs : List Nat} {cs' : List PA} {vs' : List Value} {bs' : List Nat} (h : PAsRel P ok w cs vs bs) (h' : PAsRel P ok w cs' vs' bs') :
    PAsRel P ok w (cs ++ cs') (vs ++ vs') (bs ++ bs') := by
  induction h with
  | nil => exact h'
  | cons h t ih => rw [List.append_assoc]; exact .cons h ih
theorem PAsRel.split {vs : List Value} {bs : List Nat} : ∀ {cs cs' : List PA} {vs bs}, PAsRel P ok w (cs ++ cs') vs bs → ∃ vs1 vs2 bs1 bs2, vs = vs1 ++ vs2 ∧ bs = bs1 ++ bs2 ∧ PAsRel P ok w cs vs1 bs1 ∧ PAsRel P ok w cs' vs2 bs2
  | [], cs', vs, bs, h => ⟨[], vs, [], bs, rfl, rfl, .nil, h⟩
  | c :: cs, cs', _, _, .cons h t => by
    obtain ⟨vs1, vs2, bs1, bs2, rfl, rfl, h1, h2⟩ := PAsRel.split (vs := []) (bs := []) t
    exact ⟨_ :: vs1, vs2, _ ++ bs1, bs2, rfl, by simp, .cons h h1, h2⟩
theorem PAsRel.to_cvs : ∀ {cs : List CV} {vs : List Value} {bs : List Nat}, PAsRel P ok w (cs.map paOf) vs bs → CVsRel P ok w cs vs bs
  | [], _, _, .nil => .nil
  | c :: cs, _, _, .cons h t => .cons h.to_cv (to_cvs t)
theorem PAsRel.of_cvs {cs : List CV} {vs : List Value} {bs : List Nat} (h : CVsRel P ok w cs vs bs) : PAsRel P ok w (cs.map paOf) vs bs := by
  induction h with
  | nil => exact .nil
  | cons h t ih => exact .cons (.of_cv h) ih
theorem PAsRel.plain : ∀ {ps : List PV} {vs : List Value}, vs.length = ps.length → (∀ (j : Nat) p v, ps[j]? = some p → vs[j]? = some v → RepV P ok w p v) → PAsRel P ok w (ps.map .v) vs []
  | [], [], _, _ => .nil
  | p :: ps, v :: vs, hl, h => .cons (bs := []) (bs' := []) (.v _ _ (h 0 p v rfl rfl)) (plain (by simpa using hl) fun j p v hp hv => h (j + 1) p v (by simpa using hp) (by simpa using hv))
  | [], _ :: _, hl, _ => by simp at hl
  | _ :: _, [], hl, _ => by simp at hl
end

section
variable {P : Program} {C : Ctx} {G : Gh} {s : St} {a : Act} {w : World} {sl : Nat → AV} {ob : Nat → Option Ob} {an : An}

/-- What becomes of a frame's things at a call's border. -/
def ExEnt (s : St) (i : Nat) (o : Ob) : Prop :=
  (∃ g e xs, s.ob i = some (.row g e xs false) ∧ (o = .row g e xs true ∨ o = .dead g)) ∨ ∃ cs, s.ob i = some (.box cs) ∧ o = hollow cs
def ExList (s : St) (f : List (Nat × Ob)) : Prop := ∀ i o, (i, o) ∈ f → ExEnt s i o
def okFrz (G : Gh) (s : St) (f : List (Nat × Ob)) (b : Nat) : Prop := G.ok b ∨ ∃ i o, (i, o) ∈ f ∧ isFrz o = true ∧ blk G i (s.ob i) = some b
/-- The blocks of what leaves. -/
def exBs (G : Gh) (s : St) (f : List (Nat × Ob)) : List Nat := (exIds f).filterMap fun i => blk G i (s.ob i)

theorem ExList.nil (s : St) : ExList s [] := fun i o h => by simp at h
theorem ExList.append {f f' : List (Nat × Ob)} (h : ExList s f) (h' : ExList s f') : ExList s (f ++ f') := fun i o hm => (List.mem_append.1 hm).elim (h i o) (h' i o)
theorem ExList.cons {i : Nat} {o : Ob} {f : List (Nat × Ob)} (h : ExEnt s i o) (h' : ExList s f) : ExList s ((i, o) :: f) := fun j o' hm => by
  rcases List.mem_cons.1 hm with e | e
  · cases e; exact h
  · exact h' j o' e
theorem FrzList.ex {f : List (Nat × Ob)} (h : FrzList s f) : ExList s f := fun i o hm => by
  obtain ⟨g, e, xs, h1, h2⟩ := h i o hm
  exact .inl ⟨g, e, xs, h1, .inl h2⟩
theorem exIds_append (f f' : List (Nat × Ob)) : exIds (f ++ f') = exIds f ++ exIds f' := by
  induction f with
  | nil => rfl
  | cons p f ih => obtain ⟨i, o⟩ := p; simp only [List.cons_append, exIds, ih]; cases isFrz o <;> simp
theorem exBs_append (G : Gh) (s : St) (f f' : List (Nat × Ob)) : exBs G s (f ++ f') = exBs G s f ++ exBs G s f' := by simp [exBs, exIds_append]
theorem FrzList.exIds {f : List (Nat × Ob)} (h : FrzList s f) : exIds f = [] := by
  induction f with
  | nil => rfl
  | cons p f ih =>
    obtain ⟨i, o⟩ := p
    obtain ⟨g, e, xs, h1, rfl⟩ := h i o (by simp)
    simp only [Sx.exIds, isFrz, cond]
    exact ih fun i o hm => h i o (by simp [hm])
theorem exIds_mem {i : Nat} : ∀ {f : List (Nat × Ob)}, i ∈ exIds f ↔ ∃ o, (i, o) ∈ f ∧ isFrz o = false
  | [] => by simp [exIds]
  | (j, o) :: f => by
    have ih := exIds_mem (i := i) (f := f)
    simp only [exIds]
    cases ho : isFrz o with
    | true =>
      simp only [cond, ih, List.mem_cons, Prod.mk.injEq]
      constructor
      · rintro ⟨o', h1, h2⟩; exact ⟨o', .inr h1, h2⟩
      · rintro ⟨o', ⟨_, rfl⟩ | h1, h2⟩
        · rw [ho] at h2; cases h2
        · exact ⟨o', h1, h2⟩
    | false =>
      simp only [cond, List.mem_cons, ih, Prod.mk.injEq]
      constructor
      · rintro (rfl | ⟨o', h1, h2⟩)
        · exact ⟨o, .inl ⟨rfl, rfl⟩, ho⟩
        · exact ⟨o', .inr h1, h2⟩
      · rintro ⟨o', ⟨rfl, _⟩ | h1, h2⟩
        · exact .inl rfl
        · exact .inr ⟨o', h1, h2⟩
theorem frzIds_mem {i : Nat} : ∀ {f : List (Nat × Ob)}, i ∈ frzIds f ↔ ∃ o, (i, o) ∈ f ∧ isFrz o = true
  | [] => by simp [frzIds]
  | (j, o) :: f => by
    have ih := frzIds_mem (i := i) (f := f)
    simp only [frzIds]
    cases ho : isFrz o with
    | false =>
      simp only [cond, ih, List.mem_cons, Prod.mk.injEq]
      constructor
      · rintro ⟨o', h1, h2⟩; exact ⟨o', .inr h1, h2⟩
      · rintro ⟨o', ⟨_, rfl⟩ | h1, h2⟩
        · rw [ho] at h2; cases h2
        · exact ⟨o', h1, h2⟩
    | true =>
      simp only [cond, List.mem_cons, ih, Prod.mk.injEq]
      constructor
      · rintro (rfl | ⟨o', h1, h2⟩)
        · exact ⟨o, .inl ⟨rfl, rfl⟩, ho⟩
        · exact ⟨o', .inr h1, h2⟩
      · rintro ⟨o', ⟨rfl, _⟩ | h1, h2⟩
        · exact .inl rfl
        · exact .inr ⟨o', h1, h2⟩

theorem okFrz_left {f f' : List (Nat × Ob)} {b : Nat} (h : okFrz G s f b) : okFrz G s (f ++ f') b := h.imp id fun ⟨i, o, h1, h2⟩ => ⟨i, o, List.mem_append_left _ h1, h2⟩
theorem okFrz_right {f f' : List (Nat × Ob)} {b : Nat} (h : okFrz G s f' b) : okFrz G s (f ++ f') b := h.imp id fun ⟨i, o, h1, h2⟩ => ⟨i, o, List.mem_append_right _ h1, h2⟩
theorem okFrz_cons {p : Nat × Ob} {f : List (Nat × Ob)} {b : Nat} (h : okFrz G s f b) : okFrz G s (p :: f) b := h.imp id fun ⟨i, o, h1, h2⟩ => ⟨i, o, List.mem_cons_of_mem _ h1, h2⟩

theorem tell1_some (R : RelG P C G s a w) (V : View s sl ob) {α : Type} {r : α} {own : Bool} {x : AV} {K : CV → List (Nat × Ob) → Option α} (h : tell1 own ob x K = some r) :
    ∃ c f, K c f = some r ∧ ExList s f ∧ (∀ i cs, (i, Ob.box cs) ∉ f) ∧ (own = true → (∃ e, x = .nilS e) ∨ ∃ q g, x = .row q g ∧ (q, Ob.dead g) ∈ f) ∧
      ∀ v, RelAV P G s.ob w x v → ∀ ok' : Nat → Prop, (∀ b, okFrz G s f b → ok' b) → CVRel P ok' w c v (exBs G s f) := by
  unfold tell1 at h
  cases own with
  | false =>
    simp only [cond] at h
    obtain ⟨p, f, h, hf, hp⟩ := toPVA_some R V h
    refine ⟨_, _, h, hf.ex, fun i cs hm => (by obtain ⟨_, _, _, _, h2⟩ := hf i _ hm; cases h2), fun h => (by cases h), fun v hv ok' ho => ?_⟩
    have : exBs G s f = [] := by simp [exBs, hf.exIds]
    rw [this]
    refine .v _ _ (hp v hv ok' fun b hb => ho b (hb.imp id fun ⟨i, o, h1, h2⟩ => ⟨i, o, h1, ?_, h2⟩))
    obtain ⟨g, e, xs, _, rfl⟩ := hf i o h1; rfl
  | true =>
    simp only [cond] at h
    split at h
    · rename_i e
      refine ⟨_, _, h, ExList.nil s, by simp, fun _ => .inl ⟨_, rfl⟩, fun v hv ok' ho => ?_⟩
      cases hv
      exact .own _ _ _ ⟨[], rfl, by simp, by simp, World.ownsRow_nil ..⟩
    · rename_i q g
      split at h
      · rename_i g' e xs hc
        replace h := cond_some h; obtain ⟨hb, h⟩ := h
        have e1 := Nat.eq_of_beq_eq_true hb
        subst e1
        have hc' := V.ob _ _ hc
        refine ⟨_, _, h, ExList.cons (.inl ⟨g, e, xs, hc', .inr rfl⟩) (ExList.nil s), by simp, fun _ => .inr ⟨_, _, rfl, by simp⟩, fun v hv ok' ho => ?_⟩
        cases hv with
        | row _ _ _ h1 h0 hg hv =>
          have hv := hv _ _ _ hc'
          subst hv
          have : exBs G s [(q, .dead g)] = (G.sg q).ownBlock.toList := by
            simp only [exBs, exIds, isFrz, cond, List.filterMap_cons, List.filterMap_nil, hc', blk]
            cases (G.sg q).ownBlock <;> rfl
          rw [this]
          exact .own _ _ _ ((R.ob q _ hc').1.mono (fun b hb => ho b (.inl hb)) (fun _ _ _ => rfl) (fun _ _ => rfl))
      · cases h
    · cases h

theorem tellCells_some (R : RelG P C G s a w) (V : View s sl ob) {α : Type} {r : α} {own : List Nat} : ∀ {xs : List AV} {j0 : Nat} {K : List CV → List (Nat × Ob) → Option α}, tellCells own ob j0 xs K = some r →
    ∃ cs f, K cs f = some r ∧ ExList s f ∧ (∀ i cs, (i, Ob.box cs) ∉ f) ∧ cs.length = xs.length ∧ (∀ j x, xs[j]? = some x → memN (j0 + j) own = true → (∃ e, x = .nilS e) ∨ ∃ q g, x = .row q g ∧ (q, Ob.dead g) ∈ f) ∧
      ∀ vs : List Value, vs.length = xs.length → (∀ (j : Nat) x v, xs[j]? = some x → vs[j]? = some v → RelAV P G s.ob w x v) → ∀ ok' : Nat → Prop, (∀ b, okFrz G s f b → ok' b) → CVsRel P ok' w cs vs (exBs G s f)
  | [], j0, K, h => ⟨[], [], h, ExList.nil s, by simp, rfl, fun j x hx => by simp at hx, fun vs hl _ ok' _ => by
      obtain rfl := List.length_eq_zero_iff.1 hl; exact .nil⟩
  | x :: xs, j0, K, h => by
    simp only [tellCells] at h
    obtain ⟨c, f, h, hf, hnb, hown, hc⟩ := tell1_some R V h
    obtain ⟨cs, fs, h, hfs, hnbs, hl, howns, hcs⟩ := tellCells_some R V h
    refine ⟨c :: cs, f ++ fs, h, hf.append hfs, fun i cs hm => (List.mem_append.1 hm).elim (hnb i cs) (hnbs i cs), by simp [hl], fun j x' hx hj => ?_, fun vs hvl hv ok' ho => ?_⟩
    · cases j with
      | zero =>
        simp at hx; subst hx
        exact (hown hj).imp (fun h => h) fun ⟨q, g, h1, h2⟩ => ⟨q, g, h1, List.mem_append_left _ h2⟩
      | succ j => exact (howns j x' (by simpa using hx) (by rw [← hj]; congr 1; omega)).imp (fun h => h) fun ⟨q, g, h1, h2⟩ => ⟨q, g, h1, List.mem_append_right _ h2⟩
    · cases vs with
      | nil => simp at hvl
      | cons v vs =>
        rw [exBs_append]
        exact .cons (hc v (hv 0 x v rfl rfl) ok' fun b hb => ho b (okFrz_left hb))
          (hcs vs (by simpa using hvl) (fun j x v hx hv' => hv (j + 1) x v (by simpa using hx) (by simpa using hv')) ok' fun b hb => ho b (okFrz_right hb))

theorem ownT_get {own : List Nat} : ∀ {as : List AV} {j0 j : Nat}, (lkN (ownT own ob j0 as) j).isSome = true → memN j own = true
  | [], j0, j, h => by simp [ownT, lkN] at h
  | a :: as, j0, j, h => by
    simp only [ownT] at h
    cases hm : memN j0 own with
    | false => simp only [hm, cond] at h; exact ownT_get h
    | true =>
      simp only [hm, cond, lkN] at h
      cases hb : Nat.beq j j0 with
      | true => rw [Nat.eq_of_beq_eq_true hb]; exact hm
      | false => simp only [hb, cond] at h; exact ownT_get h

/-- A variable that is lent. -/
structure LentOK (s : St) (fs : List (Nat × Ob)) (l : Nat × List (Nat × TypeId) × List AV) : Prop where
  box : s.ob l.1 = some (.box l.2.2)
  mem : (l.1, hollow l.2.2) ∈ fs
  own : ∀ j x, l.2.2[j]? = some x → (lkN l.2.1 j).isSome = true → (∃ e, x = .nilS e) ∨ ∃ q g, x = .row q g ∧ (q, Ob.dead g) ∈ fs

/-- The values of the variables that are lent. -/
def lentVals : List PA → List Value → List Value
  | .lent _ :: as, v :: vs => v :: lentVals as vs
  | _ :: as, _ :: vs => lentVals as vs
  | _, _ => []
def lentPAs : List PA → List (List CV)
  | [] => []
  | .lent cs :: as => cs :: lentPAs as
  | _ :: as => lentPAs as

theorem argsK_some (R : RelG P C G s a w) (V : View s sl ob) {α : Type} {r : α} {own : List Nat} : ∀ {xs : List (AV × TypeId)} {i : Nat} {K : List PA → List (Nat × Ob) → List (Nat × List (Nat × TypeId) × List AV) → Option α}, argsK P an own ob i xs K = some r →
    ∃ ps fs ls, K ps fs ls = some r ∧ ExList s fs ∧ ps.length = xs.length ∧ (∀ l ∈ ls, LentOK s fs l) ∧ (∀ i cs, (i, Ob.box cs) ∈ fs → ∃ l ∈ ls, l.1 = i) ∧ (∀ (j : Nat) id t, xs[j]? = some (.ref id 0, t) → ∃ cs, s.ob id = some (.box cs)) ∧
      ∀ vs : List Value, vs.length = xs.length → (∀ (j : Nat) x v, xs[j]? = some x → vs[j]? = some v → RelAV P G s.ob w x.1 v) →
        lentVals ps vs = ls.map (fun l => .pointer (some ⟨G.gb l.1, 0, none⟩)) ∧ ∀ ok' : Nat → Prop, (∀ b, okFrz G s fs b → ok' b) → PAsRel P ok' w ps vs (exBs G s fs)
  | [], i, K, h => ⟨[], [], [], h, ExList.nil s, rfl, fun l hl => by simp at hl, by simp, by simp, fun vs hl _ => by
      obtain rfl := List.length_eq_zero_iff.1 hl; exact ⟨rfl, fun _ _ => .nil⟩⟩
  | (x, t) :: xs, i, K, h => by
    simp only [argsK] at h
    split at h
    · rename_i id
      split at h
      · rename_i cs0 hc
        split at h
        · rename_i e ht
          have hc' := V.ob _ _ hc
          obtain ⟨cs, f, h, hf, hnb, hl, hown, hcs⟩ := tellCells_some R V h
          obtain ⟨ps, fs, ls, h, hfs, hpl, hls, hlb, hll, hps⟩ := argsK_some R V h
          refine ⟨_, _, _, h, .cons (.inr ⟨cs0, hc', rfl⟩) (hf.append hfs), by simp [hpl], fun l hl' => ?_, fun i cs1 hm => ?_, fun j id' t' hx => ?_, fun vs hvl hv => ?_⟩
          · rcases List.mem_cons.1 hl' with rfl | hl'
            · refine ⟨hc', by simp, fun j x hx hj => ?_⟩
              exact (hown j x hx (by rw [Nat.zero_add]; exact ownT_get hj)).imp (fun h => h) fun ⟨q, g, h1, h2⟩ => ⟨q, g, h1, List.mem_cons_of_mem _ (List.mem_append_left _ h2)⟩
            · have := hls l hl'
              exact ⟨this.box, List.mem_cons_of_mem _ (List.mem_append_right _ this.mem), fun j x hx hj => (this.own j x hx hj).imp (fun h => h) fun ⟨q, g, h1, h2⟩ => ⟨q, g, h1, List.mem_cons_of_mem _ (List.mem_append_right _ h2)⟩⟩
          · rcases List.mem_cons.1 hm with e | e
            · cases e; exact ⟨_, List.mem_cons_self, rfl⟩
            · rcases List.mem_append.1 e with e | e
              · exact (hnb _ _ e).elim
              · obtain ⟨l, h1, h2⟩ := hlb _ _ e; exact ⟨l, by simp [h1], h2⟩
          · cases j with
            | zero => simp at hx; obtain ⟨rfl, _⟩ := hx; exact ⟨_, hc'⟩
            | succ j => exact hll j id' t' (by simpa using hx)
          · cases vs with
            | nil => simp at hvl
            | cons v vs =>
              have hv0 := hv 0 _ v rfl rfl
              obtain ⟨hpv, hps⟩ := hps vs (by simpa using hvl) fun j x v hx hv' => hv (j + 1) x v (by simpa using hx) (by simpa using hv')
              cases hv0 with
              | ref _ _ _ h1 h0 hr =>
                have hr := hr _ hc'
                subst hr
                refine ⟨by simp [lentVals, hpv], fun ok' ho => ?_⟩
                obtain ⟨T, us, hh, hul, hu, hu1⟩ := R.ob id _ hc'
                have hx : exBs G s ((id, hollow cs0) :: (f ++ fs)) = (G.gb id :: exBs G s f) ++ exBs G s fs := by
                  rw [List.cons_append, ← exBs_append]
                  simp [exBs, exIds, isFrz, hollow, hc', blk]
                rw [hx]
                exact .cons (.lent cs _ T us _ hh (hcs us hul hu ok' fun b hb => ho b (okFrz_cons (okFrz_left hb))) hu1) (hps ok' fun b hb => ho b (okFrz_cons (okFrz_right hb)))
        · cases h
      · cases h
    · rename_i hne
      obtain ⟨c, f, h, hf, hnb, _, hc⟩ := tell1_some R V h
      obtain ⟨ps, fs, ls, h, hfs, hpl, hls, hlb, hll, hps⟩ := argsK_some R V h
      refine ⟨_, _, _, h, hf.append hfs, by simp [hpl], fun l hl' => ?_, fun i cs hm => (List.mem_append.1 hm).elim (fun e => (hnb _ _ e).elim) (hlb i cs), fun j id' t' hx => ?_, fun vs hvl hv => ?_⟩
      · have := hls l hl'
        exact ⟨this.box, List.mem_append_right _ this.mem, fun j x hx hj => (this.own j x hx hj).imp (fun h => h) fun ⟨q, g, h1, h2⟩ => ⟨q, g, h1, List.mem_append_right _ h2⟩⟩
      · cases j with
        | zero =>
          simp at hx
          exact (hne _ hx.1).elim
        | succ j => exact hll j id' t' (by simpa using hx)
      · cases vs with
        | nil => simp at hvl
        | cons v vs =>
          obtain ⟨hpv, hps⟩ := hps vs (by simpa using hvl) fun j x v hx hv' => hv (j + 1) x v (by simpa using hx) (by simpa using hv')
          refine ⟨by cases c <;> simp [lentVals, paOf, hpv], fun ok' ho => ?_⟩
          rw [exBs_append]
          exact .cons (.of_cv (hc v (hv 0 _ v rfl rfl) ok' fun b hb => ho b (okFrz_left hb))) (hps ok' fun b hb => ho b (okFrz_right hb))
end
end Go.Proofs.Sx
