/- A call's border: what comes into a frame, what leaves it. -/
import Derived.Test.YtoeplmfcjonkgaaGreatSxPort
set_option linter.unusedVariables false
set_option linter.unusedSimpArgs false
namespace Go.Proofs.Sx
open Go
section
variable {P : Program} {C : Ctx} {G : Gh} {s : St} {a : Act} {w : World}

theorem Later.refl (G : Gh) (ob : Nat → Option Ob) : Later G G ob ob :=
  ⟨fun _ h => h, fun _ cs h _ => ⟨rfl, cs, h⟩, fun _ g h _ => ⟨g, h, Nat.le_refl _⟩, fun _ g e xs fr h _ => .inr ⟨xs, fr, h, rfl, rfl⟩⟩
theorem Later.trans {G G' G'' : Gh} {ob ob' ob'' : Nat → Option Ob} (h : Later G G' ob ob') (h' : Later G' G'' ob' ob'') : Later G G'' ob ob'' := by
  refine ⟨fun id h0 => h'.live id (h.live id h0), fun id cs hx h0 => ?_, fun id g hx h0 => ?_, fun id g e xs fr hx h0 => ?_⟩
  · obtain ⟨h1, cs', h2⟩ := h'.box id cs hx (h.live id h0)
    obtain ⟨h3, h4⟩ := h.box id cs' h2 h0
    exact ⟨h1.trans h3, h4⟩
  · obtain ⟨g1, h1, h2⟩ := h'.gen id g hx (h.live id h0)
    obtain ⟨g2, h3, h4⟩ := h.gen id g1 h1 h0
    exact ⟨g2, h3, by omega⟩
  · rcases h'.row id g e xs fr hx (h.live id h0) with ⟨g1, h1, h2⟩ | ⟨xs1, fr1, h1, h2, h3⟩
    · obtain ⟨g2, h4, h5⟩ := h.gen id g1 h1 h0
      exact .inl ⟨g2, h4, by omega⟩
    · rcases h.row id g e xs1 fr1 h1 h0 with ⟨g2, h4, h5⟩ | ⟨xs2, fr2, h4, h5, h6⟩
      · exact .inl ⟨g2, h4, h5⟩
      · exact .inr ⟨xs2, fr2, h4, h5.trans h2, h3.trans h6⟩

/-- A block that is nobody's. -/
structure Spare (C : Ctx) (G : Gh) (s : St) (w : World) (b : Nat) : Prop where
  lt : b < w.heap.size
  mine : C.w0.heap.size ≤ b ∨ C.M b
  nok : ¬ G.ok b
  free : ∀ j, blk G j (s.ob j) ≠ some b

/-- A row comes in. -/
theorem RelG.adopt (R : RelG P C G s a w) {id g : Nat} {e : TypeId} {xs : List PV} {v : Value} (hfree : s.ob id = none ∨ ∃ g0, s.ob id = some (.dead g0) ∧ g0 < g)
    (hown : OwnAt P G.ok w e xs v) (hb : ∀ b, v.ownBlock = some b → Spare C G s w b) :
    RelG P C { G with sg := upd G.sg id v } { s with ob := upd s.ob id (some (.row g e xs false)) } a w ∧
    Later G { G with sg := upd G.sg id v } s.ob (upd s.ob id (some (.row g e xs false))) := by
  have h1 : upd s.ob id (some (.row g e xs false)) id = some (.row g e xs false) := upd_same ..
  have hgen : ∀ g', genOf (some (.row g e xs false)) = some g' → (s.ob id).isSome = true → ∃ g0, genOf (s.ob id) = some g0 ∧ g0 < g' := fun g' hx h0 => by
    cases hx
    rcases hfree with h | ⟨g0, h, h2⟩
    · rw [h] at h0; cases h0
    · exact ⟨g0, by rw [h]; rfl, h2⟩
  have hL : Later G { G with sg := upd G.sg id v } s.ob (upd s.ob id (some (.row g e xs false))) := by
    refine ⟨fun i h0 => ?_, fun i cs hx h0 => ?_, fun i g' hx h0 => ?_, fun i g' e' xs' fr' hx h0 => ?_⟩ <;> by_cases hi : i = id
    · subst hi; rw [h1]; rfl
    · rw [upd_ne _ _ hi]; exact h0
    · subst hi; rw [h1] at hx; cases hx
    · rw [upd_ne _ _ hi] at hx; exact ⟨rfl, cs, hx⟩
    · subst hi; rw [h1] at hx
      obtain ⟨g0, h2, h3⟩ := hgen g' hx h0
      exact ⟨g0, h2, by omega⟩
    · rw [upd_ne _ _ hi] at hx; exact ⟨g', hx, Nat.le_refl _⟩
    · subst hi; rw [h1] at hx
      obtain ⟨g0, h2, h3⟩ := hgen g' (by cases hx; rfl) h0
      exact .inl ⟨g0, h2, h3⟩
    · rw [upd_ne _ _ hi] at hx; exact .inr ⟨xs', fr', hx, rfl, upd_ne _ _ hi⟩
  refine ⟨?_, hL⟩
  have key := R.stepG (G' := { G with sg := upd G.sg id v }) (fun i => i = id) (sl' := s.sl) (ob' := upd s.ob id (some (.row g e xs false))) (a' := a) (w' := w)
    (fun i hi => ⟨rfl, upd_ne _ _ hi, upd_ne _ _ hi⟩) (Same.refl w _)
    (fun b hb => hb) (fun b hb => .inl hb) (fun b hb => R.okS b hb)
    (fun i hi _ => by subst hi; rw [h1]; rfl)
    (fun i cs hi hx _ => by subst hi; rw [h1] at hx; cases hx)
    (fun i g' hi hx h0 => hL.gen i g' hx h0)
    (fun i g' e' xs' fr' hi hx h0 => hL.row i g' e' xs' fr' hx h0)
    (fun hL hW i o hi hx => by
      subst hi
      rw [h1] at hx; cases hx
      refine ⟨?_, fun h => by cases h⟩
      show OwnAt P G.ok w e xs (upd G.sg i v i)
      rw [upd_same]; exact hown)
    (fun i b hi hx => by
      subst hi
      rw [h1] at hx
      have := hb b (by simpa [blk, upd_same] using hx)
      exact ⟨this.lt, this.mine, fun j _ => this.free j⟩)
    (fun i j b hi hj _ _ => by subst hi hj; rfl)
    (fun i b hi hx _ => by
      subst hi
      rw [h1] at hx
      exact (hb b (by simpa [blk, upd_same] using hx)).nok)
    (fun i b cs hi _ hcs => by subst hi; rw [h1] at hcs; cases hcs)
    R.tsz R.dfr (fun hL hW t => RelAV.later (G := G) (G' := { G with sg := upd G.sg id v }) (fun b hb => hb) hW hL (R.sl t))
  exact key

/-- A variable comes in. -/
theorem RelG.adoptBox (R : RelG P C G s a w) {id : Nat} {cs : List AV} {b : Nat} (hfree : s.ob id = none) (hb : Spare C G s w b)
    {T : TypeId} {vs : List Value} (hh : w.heap[b]? = some (.cells vs.toArray T (0, 0))) (hl : vs.length = cs.length)
    (hv : ∀ (j : Nat) x v, cs[j]? = some x → vs[j]? = some v → RelAV P G s.ob w x v) (h1' : ∀ v ∈ vs, v.oneCell' = true) (hlent : ∀ b', C.lent id = some b' → b' = b) :
    RelG P C { G with gb := upd G.gb id b } { s with ob := upd s.ob id (some (.box cs)) } a w ∧ Later G { G with gb := upd G.gb id b } s.ob (upd s.ob id (some (.box cs))) := by
  have h1 : upd s.ob id (some (.box cs)) id = some (.box cs) := upd_same ..
  have hno : ∀ i, i = id → (s.ob i).isSome = true → False := fun i hi h => by subst hi; rw [hfree] at h; cases h
  have hL : Later G { G with gb := upd G.gb id b } s.ob (upd s.ob id (some (.box cs))) := by
    refine ⟨fun i h0 => ?_, fun i cs hx h0 => ?_, fun i g' hx h0 => ?_, fun i g' e' xs' fr' hx h0 => ?_⟩ <;> by_cases hi : i = id
    · exact (hno i hi h0).elim
    · rw [upd_ne _ _ hi]; exact h0
    · exact (hno i hi h0).elim
    · rw [upd_ne _ _ hi] at hx; exact ⟨upd_ne _ _ hi, cs, hx⟩
    · exact (hno i hi h0).elim
    · rw [upd_ne _ _ hi] at hx; exact ⟨g', hx, Nat.le_refl _⟩
    · exact (hno i hi h0).elim
    · rw [upd_ne _ _ hi] at hx; exact .inr ⟨xs', fr', hx, rfl, rfl⟩
  refine ⟨?_, hL⟩
  have key := R.stepG (G' := { G with gb := upd G.gb id b }) (fun i => i = id) (sl' := s.sl) (ob' := upd s.ob id (some (.box cs))) (a' := a) (w' := w)
    (fun i hi => ⟨upd_ne _ _ hi, rfl, upd_ne _ _ hi⟩) (Same.refl w _)
    (fun b hb => hb) (fun b hb => .inl hb) (fun b hb => R.okS b hb)
    (fun i hi h => (hno i hi h).elim)
    (fun i cs hi hx h => (hno i hi h).elim)
    (fun i g' hi hx h0 => (hno i hi h0).elim)
    (fun i g' e' xs' fr' hi hx h0 => (hno i hi h0).elim)
    (fun hL hW i o hi hx => by
      subst hi
      rw [h1] at hx; cases hx
      refine ⟨T, vs, ?_, hl, fun j x v hx hv' => RelAV.later (G := G) (G' := { G with gb := upd G.gb i b }) (fun b hb => hb) hW hL (hv j x v hx hv'), h1'⟩
      show w.heap[upd G.gb i b i]? = _
      rw [upd_same]; exact hh)
    (fun i b' hi hx => by
      subst hi
      rw [h1] at hx
      simp only [blk, upd_same, Option.some.injEq] at hx
      subst hx
      exact ⟨hb.lt, hb.mine, fun j _ => hb.free j⟩)
    (fun i j b hi hj _ _ => by subst hi hj; rfl)
    (fun i b' hi hx _ => by
      subst hi
      rw [h1] at hx
      simp only [blk, upd_same, Option.some.injEq] at hx
      subst hx
      exact hb.nok)
    (fun i b' cs hi hb' hcs => by subst hi; rw [hlent b' hb']; exact upd_same ..)
    R.tsz R.dfr (fun hL hW t => RelAV.later (G := G) (G' := { G with gb := upd G.gb id b }) (fun b hb => hb) hW hL (R.sl t))
  exact key

/-- A variable gets its cells. -/
theorem RelG.fill (R : RelG P C G s a w) {id : Nat} {cs0 cs : List AV} (hob : s.ob id = some (.box cs0))
    {T : TypeId} {vs : List Value} (hh : w.heap[G.gb id]? = some (.cells vs.toArray T (0, 0))) (hl : vs.length = cs.length)
    (hv : ∀ (j : Nat) x v, cs[j]? = some x → vs[j]? = some v → RelAV P G s.ob w x v) (h1' : ∀ v ∈ vs, v.oneCell' = true) :
    RelG P C G { s with ob := upd s.ob id (some (.box cs)) } a w ∧ Later G G s.ob (upd s.ob id (some (.box cs))) := by
  have h1 : upd s.ob id (some (.box cs)) id = some (.box cs) := upd_same ..
  have hL : Later G G s.ob (upd s.ob id (some (.box cs))) := by
    refine ⟨fun i h0 => ?_, fun i cs hx h0 => ?_, fun i g' hx h0 => ?_, fun i g' e' xs' fr' hx h0 => ?_⟩ <;> by_cases hi : i = id
    · subst hi; rw [h1]; rfl
    · rw [upd_ne _ _ hi]; exact h0
    · subst hi; exact ⟨rfl, cs0, hob⟩
    · rw [upd_ne _ _ hi] at hx; exact ⟨rfl, cs, hx⟩
    · subst hi; rw [h1] at hx; cases hx
    · rw [upd_ne _ _ hi] at hx; exact ⟨g', hx, Nat.le_refl _⟩
    · subst hi; rw [h1] at hx; cases hx
    · rw [upd_ne _ _ hi] at hx; exact .inr ⟨xs', fr', hx, rfl, rfl⟩
  refine ⟨?_, hL⟩
  have hbk : blk G id (some (.box cs)) = blk G id (s.ob id) := by rw [hob]; rfl
  have key := R.stepG (G' := G) (fun i => i = id) (sl' := s.sl) (ob' := upd s.ob id (some (.box cs))) (a' := a) (w' := w)
    (fun i hi => ⟨rfl, rfl, upd_ne _ _ hi⟩) (Same.refl w _)
    (fun b hb => hb) (fun b hb => .inl hb) (fun b hb => R.okS b hb)
    (fun i hi h => hL.live i h)
    (fun i cs hi hx h => hL.box i cs hx h)
    (fun i g' hi hx h0 => hL.gen i g' hx h0)
    (fun i g' e' xs' fr' hi hx h0 => hL.row i g' e' xs' fr' hx h0)
    (fun hL hW i o hi hx => by
      subst hi
      rw [h1] at hx; cases hx
      exact ⟨T, vs, hh, hl, fun j x v hx hv' => (hv j x v hx hv').later (fun b hb => hb) hW hL, h1'⟩)
    (fun i b' hi hx => by
      subst hi
      rw [h1, hbk] at hx
      exact ⟨(R.own _ _ hx).1, (R.own _ _ hx).2, fun j hj hjb => hj (R.inj _ _ _ hjb hx)⟩)
    (fun i j b hi hj _ _ => by subst hi hj; rfl)
    (fun i b' hi hx _ => by
      subst hi
      rw [h1, hbk] at hx
      exact R.apart i b' hx (by rw [hob]; rfl))
    (fun i b' cs hi hb' hcs => by subst hi; exact (R.lent _ _ hb').2 _ hob)
    R.tsz R.dfr (fun hL hW t => RelAV.later (G := G) (G' := G) (fun b hb => hb) hW hL (R.sl t))
  exact key

/-! ### Cells that come in -/
def placeAV : CV → Option (Nat × Nat) → AV
  | .v p, _ => .pv p
  | .own _ _, some (i, g) => .row i g
  | .own _ _, none => .gone
def placeOb : CV → Option (Nat × Nat) → List (Nat × Ob)
  | .own e xs, some (i, g) => [(i, .row g e xs false)]
  | _, _ => []
def placeAVs : List CV → List (Option (Nat × Nat)) → List AV
  | c :: cs, p :: ps => placeAV c p :: placeAVs cs ps
  | _, _ => []
def placeObs : List CV → List (Option (Nat × Nat)) → List (Nat × Ob)
  | c :: cs, p :: ps => placeOb c p ++ placeObs cs ps
  | _, _ => []

def Free (s : St) (l : List (Nat × Ob)) : Prop := ∀ i o, (i, o) ∈ l → s.ob i = none ∨ ∃ g0 g e xs fr, s.ob i = some (.dead g0) ∧ o = .row g e xs fr ∧ g0 < g


theorem place_sound {ok : Nat → Prop} : ∀ {cs : List CV} {vs : List Value} {bs : List Nat}, CVsRel P ok w cs vs bs → ∀ {pl : List (Option (Nat × Nat))}, pl.length = cs.length →
    ∀ {G : Gh} {s : St}, RelG P C G s a w → G.ok = ok → bs.Nodup → (∀ b ∈ bs, Spare C G s w b) → ((placeObs cs pl).map (·.1)).Nodup → Free s (placeObs cs pl) →
    ∃ sg', RelG P C { G with sg := sg' } { s with ob := setObs s.ob (placeObs cs pl) } a w ∧ Later G { G with sg := sg' } s.ob (setObs s.ob (placeObs cs pl)) ∧
      (∀ (j : Nat) x v, (placeAVs cs pl)[j]? = some x → vs[j]? = some v → RelAV P { G with sg := sg' } (setObs s.ob (placeObs cs pl)) w x v) ∧
      ∀ b, Spare C G s w b → b ∉ bs → Spare C { G with sg := sg' } { s with ob := setObs s.ob (placeObs cs pl) } w b
  | [], _, _, .nil, pl, hl, G, s, R, hok, hnd, hsp, hids, hfr => by
    obtain rfl := List.length_eq_zero_iff.1 hl
    exact ⟨G.sg, R, Later.refl _ _, fun j x v hx => by simp [placeAVs] at hx, fun b hb _ => hb⟩
  | c :: cs, v :: vs, _, .cons (bs := b1) (bs' := b2) h t, [], hl, G, s, R, hok, hnd, hsp, hids, hfr => by simp at hl
  | c :: cs, v :: vs, _, .cons (bs := b1) (bs' := b2) h t, p :: pl, hl, G, s, R, hok, hnd, hsp, hids, hfr => by
    have hl' : pl.length = cs.length := by simpa using hl
    rw [List.nodup_append] at hnd
    have hskip : placeOb c p = [] → RelAV P G s.ob w (placeAV c p) v → ∃ sg', RelG P C { G with sg := sg' } { s with ob := setObs s.ob (placeObs (c :: cs) (p :: pl)) } a w ∧ Later G { G with sg := sg' } s.ob (setObs s.ob (placeObs (c :: cs) (p :: pl))) ∧
      (∀ (j : Nat) x v', (placeAVs (c :: cs) (p :: pl))[j]? = some x → (v :: vs)[j]? = some v' → RelAV P { G with sg := sg' } (setObs s.ob (placeObs (c :: cs) (p :: pl))) w x v') ∧
      ∀ b, Spare C G s w b → b ∉ b1 ++ b2 → Spare C { G with sg := sg' } { s with ob := setObs s.ob (placeObs (c :: cs) (p :: pl)) } w b := by
      intro h0 hrel
      have hE : placeObs (c :: cs) (p :: pl) = placeObs cs pl := by simp [placeObs, h0]
      rw [hE] at hids hfr ⊢
      obtain ⟨sg', R', hL, hv, hs⟩ := place_sound t hl' R hok hnd.2.1 (fun b hb => hsp b (List.mem_append_right _ hb)) hids hfr
      refine ⟨sg', R', hL, fun j x v' hx hv' => ?_, fun b hb hn => hs b hb fun h => hn (List.mem_append_right _ h)⟩
      cases j with
      | zero =>
        simp [placeAVs] at hx hv'; subst hx hv'
        exact RelAV.later (G := G) (G' := { G with sg := sg' }) (fun b hb => hb) (fun _ _ _ => rfl) hL hrel
      | succ j => exact hv j x v' (by simpa [placeAVs] using hx) (by simpa using hv')
    cases h with
    | v pv _ h => exact hskip rfl (.pv _ _ (hok ▸ h))
    | own e xs _ h =>
      cases p with
      | none => exact hskip rfl (.gone _)
      | some p =>
        obtain ⟨i, g⟩ := p
        have hE : placeObs (.own e xs :: cs) (some (i, g) :: pl) = (i, .row g e xs false) :: placeObs cs pl := rfl
        rw [hE] at hids hfr ⊢
        simp only [List.map_cons, List.nodup_cons] at hids
        have hfi : s.ob i = none ∨ ∃ g0, s.ob i = some (.dead g0) ∧ g0 < g := by
          rcases hfr i (.row g e xs false) (by simp) with h1 | ⟨g0, g1, _, _, _, h1, h2, h3⟩
          · exact .inl h1
          · cases h2; exact .inr ⟨g0, h1, h3⟩
        obtain ⟨R1, L1⟩ := R.adopt (id := i) (g := g) hfi (hok ▸ h) fun b hb => hsp b (List.mem_append_left _ (by simp [hb]))
        have hspare : ∀ b, Spare C G s w b → v.ownBlock ≠ some b → Spare C { G with sg := upd G.sg i v } { s with ob := upd s.ob i (some (.row g e xs false)) } w b := fun b hb hne => by
          refine ⟨hb.lt, hb.mine, hb.nok, fun j => ?_⟩
          by_cases hj : j = i
          · subst hj
            simp only [upd_same, blk]; exact hne
          · have := hb.free j
            simp only [upd_ne _ _ hj]
            cases ho : s.ob j with
            | none => simp [blk]
            | some o => rw [ho] at this; cases o <;> simp_all [blk, upd_ne]
        obtain ⟨sg', R', hL, hv, hs⟩ := place_sound t hl' R1 hok hnd.2.1
          (fun b hb => hspare b (hsp b (List.mem_append_right _ hb)) fun hx => hnd.2.2 b (by simp [hx]) b hb rfl) hids.2
          (fun i' o hm => by
            have hne : i' ≠ i := by rintro rfl; exact hids.1 (List.mem_map.2 ⟨_, hm, rfl⟩)
            have := hfr i' o (List.mem_cons_of_mem _ hm)
            simp only [upd_ne _ _ hne]; exact this)
        refine ⟨sg', R', L1.trans hL, fun j x v' hx hv' => ?_, fun b hb hn => hs b (hspare b hb fun hx => hn (by simp [hx])) fun h => hn (List.mem_append_right _ h)⟩
        cases j with
        | zero =>
          simp [placeAVs, placeAV] at hx hv'; subst hx hv'
          refine RelAV.later (G := { G with sg := upd G.sg i v }) (G' := { G with sg := sg' }) (fun b hb => hb) (fun _ _ _ => rfl) hL ?_
          refine .row _ _ _ (own_slice h) (by simp [upd_same]) (fun g' hg' => ?_) fun e' xs' fr' hx => ?_
          · simp only [upd_same] at hg'; cases hg'; exact Nat.le_refl _
          · simp [upd_same]
        | succ j => exact hv j x v' (by simpa [placeAVs] using hx) (by simpa using hv')
end
end Go.Proofs.Sx
