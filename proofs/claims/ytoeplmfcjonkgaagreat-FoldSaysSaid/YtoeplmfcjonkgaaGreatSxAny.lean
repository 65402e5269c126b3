/- Regions whose order is open. -/
import Derived.Test.YtoeplmfcjonkgaaGreatSxRun
set_option linter.unusedVariables false
set_option linter.unusedSimpArgs false
namespace Go.Proofs.Sx
open Go
section
variable {P : Program} {C : Ctx} {G : Gh} {s : St} {a : Act} {w : World} {ops : Array Oper} {o : Oper}
variable {an : An} {me : FuncId} {cf : FuncId → List PA → Option Ret}

/-- Operations run one behind the other, each touching what stands beside it. -/
inductive Run (P : Program) (an : An) (me : FuncId) (cf : FuncId → List PA → Option Ret) (ops : Array Oper) : List (Nat × Fp) → St → St → Prop
  | nil (s : St) : Run P an me cf ops [] s s
  | cons (i : Nat) (f : Fp) (l : List (Nat × Fp)) (o : Oper) (s s1 s2 : St) (hi : ops[i]? = some o) (h : stepN P an me cf ops o s = some (f, s1)) (hr : Run P an me cf ops l s1 s2) : Run P an me cf ops ((i, f) :: l) s s2

theorem disjN_true {xs ys : List Nat} (h : disjN xs ys = true) : ∀ x, x ∈ xs → x ∉ ys := by
  intro x hx hy
  have := List.all_eq_true.1 h x hx
  rw [memN_true.2 hy] at this
  cases this

theorem St.ext' {s s' : St} (h1 : s.n = s'.n) (h2 : s.np = s'.np) (h3 : ∀ t, s.sl t = s'.sl t) (h4 : ∀ i, s.ob i = s'.ob i) : s = s' := by
  cases s; cases s'; simp only [St.mk.injEq]
  exact ⟨h1, h2, funext h3, funext h4⟩

/-- Two operations that don't meet change places. -/
theorem swap {oi oj : Oper} {fi fj : Fp} {s s1 s2 : St} (hj : stepN P an me cf ops oj s = some (fj, s1)) (hi : stepN P an me cf ops oi s1 = some (fi, s2)) (hind : indep fj fi = true) (hap : oj.apart ops oi = true) :
    ∃ s1', stepN P an me cf ops oi s = some (fi, s1') ∧ stepN P an me cf ops oj s1' = some (fj, s2) := by
  obtain ⟨ha1, ha2, ha3⟩ := Oper.apart_spec hap
  simp only [indep, Bool.and_eq_true] at hind
  have hww := disjN_true hind.1.1
  have hjr := disjN_true hind.1.2
  have hir := disjN_true hind.2
  -- what oj does to s
  obtain ⟨_, _, _, _, hjn, hjnp, hjs, hjo⟩ := stepN_alike (s' := s) hj ⟨rfl, rfl, fun _ _ => rfl, fun _ _ => rfl⟩
  have A1 : Alike s1 s (oi.looksAt ops) (fi.rd ++ fi.wr) := by
    refine ⟨hjn.symm, hjnp.symm, fun t ht => ?_, fun i hi' => ?_⟩
    · by_cases hd : some t = oj.dst
      · exact absurd ht (ha1 t hd.symm)
      · exact ((hjs t).2 hd).2.symm
    · have : i ∉ fj.wr := fun hm => by
        rcases List.mem_append.1 hi' with h | h
        · exact hjr i hm h
        · exact hww i hm h
      exact ((hjo i).2 this).2.symm
  obtain ⟨s1', hi1, hn1, hnp1, hin, hinp, his, hio⟩ := stepN_alike hi A1
  have A2 : Alike s s1' (oj.looksAt ops) (fj.rd ++ fj.wr) := by
    refine ⟨hn1, hnp1, fun t ht => ?_, fun i hi' => ?_⟩
    · by_cases hd : some t = oi.dst
      · exact absurd ht (ha3 t hd.symm)
      · exact ((his t).2 hd).1
    · have : i ∉ fi.wr := fun hm => by
        rcases List.mem_append.1 hi' with h | h
        · exact hir i hm h
        · exact hww i h hm
      exact ((hio i).2 this).1
  obtain ⟨s2', hj1, hn2, hnp2, _, _, hjs2, hjo2⟩ := stepN_alike hj A2
  have : s2' = s2 := by
    refine St.ext' (by rw [hn2, hn1, hin, hjn]) (by rw [hnp2, hnp1, hinp, hjnp]) (fun t => ?_) (fun i => ?_)
    · by_cases hdj : some t = oj.dst
      · have hdi : some t ≠ oi.dst := fun h => ha2 t hdj.symm h.symm
        rw [(hjs2 t).1 hdj, ((his t).2 hdi).2]
      · rw [((hjs2 t).2 hdj).1]
        by_cases hdi : some t = oi.dst
        · rw [(his t).1 hdi]
        · rw [((his t).2 hdi).1, ((his t).2 hdi).2, ((hjs t).2 hdj).2]
    · by_cases hdj : i ∈ fj.wr
      · have hdi : i ∉ fi.wr := hww i hdj
        rw [(hjo2 i).1 hdj, ((hio i).2 hdi).2]
      · rw [((hjo2 i).2 hdj).1]
        by_cases hdi : i ∈ fi.wr
        · rw [(hio i).1 hdi]
        · rw [((hio i).2 hdi).1, ((hio i).2 hdi).2, ((hjo i).2 hdj).2]
  subst this
  exact ⟨s1', hi1, hj1⟩

/-- An operation that meets none of those ahead goes to the front. -/
theorem Run.front {i : Nat} {f : Fp} {oi : Oper} (hoi : ops[i]? = some oi) : ∀ {pre post : List (Nat × Fp)} {s s' : St}, Run P an me cf ops (pre ++ (i, f) :: post) s s' →
    (∀ j fj, (j, fj) ∈ pre → ∃ oj, ops[j]? = some oj ∧ indep fj f = true ∧ oj.apart ops oi = true) → ∃ s1, stepN P an me cf ops oi s = some (f, s1) ∧ Run P an me cf ops (pre ++ post) s1 s'
  | [], post, s, s', h, _ => by
    cases h with
    | cons _ _ _ o _ s1 _ hi h hr => rw [hoi] at hi; cases hi; exact ⟨s1, h, hr⟩
  | (j, fj) :: pre, post, s, s', h, hp => by
    cases h with
    | cons _ _ _ oj _ s1 _ hj h hr =>
      obtain ⟨s2, h2, hr2⟩ := Run.front hoi hr fun k fk hk => hp k fk (by simp [hk])
      obtain ⟨oj', hj', hind, hap⟩ := hp j fj (by simp)
      rw [hj] at hj'; cases hj'
      obtain ⟨s1', h3, h4⟩ := swap h h2 hind hap
      exact ⟨s1', h3, .cons j fj _ oj _ _ _ hj h4 hr2⟩

/-- Those behind that could change places with those ahead don't meet them. -/
def Fine (ops : Array Oper) (l : List (Nat × Fp)) : Prop := l.Pairwise fun x y => pairOk ops x.1 y.1 x.2 y.2 = true

theorem Run.there {l : List (Nat × Fp)} {s s' : St} (h : Run P an me cf ops l s s') : ∀ i f, (i, f) ∈ l → ∃ o, ops[i]? = some o := by
  induction h with
  | nil s => intro i f h; simp at h
  | cons i f l o s s1 s2 hi h hr ih =>
    intro j g hj
    rcases List.mem_cons.1 hj with h | h
    · cases h; exact ⟨o, hi⟩
    · exact ih j g h

/-- What is done, is done with all that it stands behind. -/
def Down (ops : Array Oper) (listed : Array Bool) : Prop :=
  ∀ k o, ops[k]? = some o → listed.getD k true = true → ∀ e ∈ o.after, Region.binds .any e = true → listed.getD e.on true = true

theorem reach_listed {listed : Array Bool} (hd : Down ops listed) : ∀ (n : Nat) {j i : Nat} {o : Oper}, reach ops n j i = true → ops[i]? = some o →
    (∀ e ∈ o.after, Region.binds .any e = true → listed.getD e.on true = true) → listed.getD j true = true
  | 0, j, i, o, h, _, _ => by cases h
  | n + 1, j, i, o, h, ho, hall => by
    simp only [reach, ho, List.any_eq_true, Bool.and_eq_true, Bool.or_eq_true] at h
    obtain ⟨e, he, hb, h1 | h1⟩ := h
    · rw [← Nat.eq_of_beq_eq_true h1]; exact hall e (by simpa using he) hb
    · have h2 := hall e (by simpa using he) hb
      cases hk : ops[e.on]? with
      | none => cases n <;> simp [reach, hk] at h1
      | some ok => exact reach_listed hd n h1 hk (hd _ _ hk h2)

theorem any_sound (hact : ActOK P an me cf) (haf : afterOk ops = true) {Q : Exit → Act → World → Prop} {s' : St} (hQ : ∀ a w, Rel P C s' a w → Q .normal a w) :
    ∀ (fuel : Nat) (l : List (Nat × Fp)) (listed : Array Bool) (s : St) (a : Act) (w : World), l.length = fuel → Run P an me cf ops l s s' → Fine ops l →
      (∀ i, i < ops.size → (listed.getD i true = false ↔ i ∈ l.map (·.1))) → listed.size = ops.size → Down ops listed → (l.map (·.1)).Pairwise (· < ·) → Rel P C s a w → wpAny P .any ops Q fuel listed a w := by
  intro fuel
  induction fuel with
  | zero =>
    intro l listed s a w hl hr hf hli hsz hdn hsort R
    obtain rfl := List.length_eq_zero_iff.1 hl
    cases hr
    refine ⟨?_, hQ a w R⟩
    rw [List.eq_nil_iff_forall_not_mem]
    intro i hi
    obtain ⟨h1, o, ho, _⟩ := mem_ready.1 hi
    have := (hli i (Array.getElem?_eq_some_iff.1 ho).1).1 h1
    simp at this
  | succ fuel ih =>
    intro l listed s a w hl hr hf hli hsz hdn hsort R
    refine ⟨fun hn => ?_, fun i hi => ?_⟩
    · exfalso
      cases hr with
      | nil => simp at hl
      | cons i f l o _ s1 _ hi h hr =>
        have hlt : i < ops.size := (Array.getElem?_eq_some_iff.1 hi).1
        have h1 : listed.getD i true = false := (hli i hlt).2 (by simp)
        have : i ∈ Region.ready .any ops listed := by
          refine mem_ready.2 ⟨h1, o, hi, fun e he hb => ?_⟩
          have h2 : e.on < i := by
            unfold afterOk at haf
            have h3 := List.all_eq_true.1 haf (o, i) (by
              rw [List.mem_zipIdx_iff_getElem?]
              simpa using hi)
            have h4 := List.all_eq_true.1 h3 e (by simpa using he)
            simp only [hb, Bool.not_true, Bool.false_or] at h4
            exact Nat.le_of_ble_eq_true h4
          have h5 : e.on ∉ (((i, f) :: l).map (·.1)) := by
            intro hm
            simp only [List.map_cons, List.pairwise_cons] at hsort
            simp only [List.map_cons, List.mem_cons] at hm
            rcases hm with hm | hm
            · omega
            · have := hsort.1 _ hm; omega
          have h6 : ¬ listed.getD e.on true = false := fun h => h5 ((hli e.on (by omega)).1 h)
          have h7 : e.on < listed.size := by omega
          simp only [Array.getD, h7, dite_true] at h6 ⊢
          simpa using h6
        rw [hn] at this; cases this
    · obtain ⟨h1, oi, ho, hall⟩ := mem_ready.1 hi
      have hall' : ∀ e ∈ oi.after, Region.binds .any e = true → listed.getD e.on true = true := fun e he hb => by
        have h8 := hall e he hb
        by_cases h7 : e.on < listed.size
        · simp only [Array.getD, h7, dite_true] at h8 ⊢; exact h8
        · simp [Array.getD, h7]
      have hlt : i < ops.size := (Array.getElem?_eq_some_iff.1 ho).1
      have hm := (hli i hlt).1 h1
      obtain ⟨⟨i', f⟩, hmem, rfl⟩ := List.mem_map.1 hm
      obtain ⟨pre, post, rfl⟩ := List.append_of_mem hmem
      have hpre : ∀ j fj, (j, fj) ∈ pre → ∃ oj, ops[j]? = some oj ∧ indep fj f = true ∧ oj.apart ops oi = true := by
        intro j fj hj
        obtain ⟨oj, hoj⟩ := hr.there j fj (by simp [hj])
        have hp : pairOk ops j i' fj f = true := by
          have := List.pairwise_append.1 hf
          exact this.2.2 _ hj (i', f) (by simp)
        simp only [pairOk, hoj, ho, Bool.or_eq_true, Bool.and_eq_true] at hp
        rcases hp with hp | hp
        · exact ⟨oj, hoj, hp.1, hp.2⟩
        · exfalso
          have hjlt : j < ops.size := (Array.getElem?_eq_some_iff.1 hoj).1
          have h10 : listed.getD j true = false := (hli j hjlt).2 (List.mem_map.2 ⟨(j, fj), by simp [hj], rfl⟩)
          rw [reach_listed hdn _ hp ho hall'] at h10; cases h10
      obtain ⟨s1, h2, hr2⟩ := Run.front ho hr hpre
      refine stepN_sound hact h2 R ho fun a' w' R' => ih (pre ++ post) _ s1 a' w' (by simp at hl ⊢; omega) hr2 ?_ ?_ (by simpa using hsz) ?_ ?_ R'
      · have := List.pairwise_append.1 hf
        exact List.pairwise_append.2 ⟨this.1, (List.pairwise_cons.1 this.2.1).2, fun x hx y hy => this.2.2 x hx y (by simp [hy])⟩
      · intro k hk
        have hnd : ((pre ++ (i', f) :: post).map (·.1)).Nodup := hsort.imp fun h => by omega
        by_cases hki : i' = k
        · subst hki
          have : (listed.setIfInBounds i' true).getD i' true = true := by simp [Array.getD]
          rw [this]
          simp only [reduceCtorEq, false_iff]
          intro hm2
          simp only [List.map_append, List.map_cons, List.nodup_append, List.nodup_cons] at hnd
          simp only [List.map_append, List.mem_append] at hm2
          rcases hm2 with h | h
          · exact hnd.2.2 _ h _ (by simp) rfl
          · exact hnd.2.1.1 h
        · rw [getD_set_ne true hki, hli k hk]
          simp only [List.map_append, List.map_cons, List.mem_append, List.mem_cons]
          constructor
          · rintro (h | h | h)
            · exact .inl h
            · exact absurd h.symm hki
            · exact .inr h
          · rintro (h | h)
            · exact .inl h
            · exact .inr (.inr h)
      · intro k ok hk hkl e he hb
        have hmono : ∀ x, listed.getD x true = true → (listed.setIfInBounds i' true).getD x true = true := fun x hx => by
          by_cases hxi : i' = x
          · subst hxi; simp [Array.getD]
          · rw [getD_set_ne true hxi]; exact hx
        by_cases hki : i' = k
        · subst hki
          rw [ho] at hk; cases hk
          exact hmono _ (hall' e he hb)
        · rw [getD_set_ne true hki] at hkl
          exact hmono _ (hdn k ok hk hkl e he hb)
      · rw [List.map_append, List.map_cons] at hsort
        rw [List.map_append]
        have := List.pairwise_append.1 hsort
        exact List.pairwise_append.2 ⟨this.1, (List.pairwise_cons.1 this.2.1).2, fun x hx y hy => this.2.2 x hx y (by simp [hy])⟩

theorem RelG.drawn (R : RelG P C G s a w) (n : Nat) : RelG P C G s a { w with drawn := n } := by
  have hw : ∀ b, G.ok b → b < w.heap.size → ({ w with drawn := n } : World).heap[b]? = w.heap[b]? := fun _ _ _ => rfl
  have hL : Later G G s.ob s.ob := ⟨fun _ h => h, fun id cs h _ => ⟨rfl, cs, h⟩, fun id g h _ => ⟨g, h, Nat.le_refl _⟩, fun id g e xs fr h _ => .inr ⟨xs, fr, h, rfl, rfl⟩⟩
  exact ⟨R.tsz, R.dfr, fun t => (R.sl t).later (fun _ h => h) hw hL, fun id o ho => (R.ob id o ho).later (fun _ h => h) hw hL rfl rfl (fun _ _ => rfl), R.inj, R.own, R.apart, R.ok0, R.okN, R.okS, R.lent,
    ⟨R.same.os, R.same.tape, R.same.output, R.same.size, R.same.block⟩⟩

/-- The steps in the text's order. -/
theorem runD_some {α : Type} {r : α} {K : List (Nat × Fp) → St → Option α} : ∀ (l : List Nat) (acc : List (Nat × Fp)) (s : St), runD P an me cf ops l acc s K = some r →
    ∃ (l' : List (Nat × Fp)) (s' : St), Run P an me cf ops l' s s' ∧ l'.map (·.1) = l ∧ K (l'.reverse ++ acc) s' = some r
  | [], acc, s, h => ⟨[], s, .nil s, rfl, h⟩
  | i :: l, acc, s, h => by
    simp only [runD] at h
    split at h
    · rename_i o ho
      obtain ⟨f, s1, h1, h⟩ := stepM_some h
      obtain ⟨l', s', hr, hm, hK⟩ := runD_some l _ s1 h
      exact ⟨(i, f) :: l', s', .cons i f l' o _ _ _ ho h1 hr, by simp [hm], by simpa using hK⟩
    · cases h

theorem pairs_fine : ∀ {l : List (Nat × Fp)}, pairsOk ops l = true → Fine ops l.reverse := by
  intro l
  unfold Fine
  rw [List.pairwise_reverse]
  induction l with
  | nil => intro _; exact .nil
  | cons x l ih =>
    obtain ⟨j, fj⟩ := x
    intro h
    simp only [pairsOk, Bool.and_eq_true, List.all_eq_true] at h
    exact .cons (fun ⟨i, fi⟩ hi => h.1 (i, fi) hi) (ih h.2)

theorem draw_sound (hact : ActOK P an me cf) {α : Type} {r : α} {K : St → Option α} {id : Nat} (h : (runD P an me cf ops (List.range ops.size) [] s fun acc s' => cond (pairsOk ops acc && afterOk ops && P.follows .mixedOrders) (K s') none) = some r)
    (R : Rel P C s a w) {Q : Exit → Act → World → Prop} (hK : ∀ s' a' w', Rel P C s' a' w' → K s' = some r → Q .normal a' w') : (Code.region id ops true).wp P Q a w := by
  obtain ⟨l, s', hr, hm, h⟩ := runD_some _ _ _ h
  replace h := cond_some h; obtain ⟨hb, h⟩ := h
  simp only [Bool.and_eq_true, List.append_nil] at hb
  have hfine := pairs_fine hb.1.1
  rw [List.reverse_reverse] at hfine
  obtain ⟨G, R⟩ := R
  refine wp_region_any hb.2 (any_sound hact hb.1.2 (C := C) (fun a' w' R' => hK s' a' w' R' h) ops.size l _ s a _ ?_ hr hfine ?_ (by simp) ?_ ?_ ⟨G, R.drawn _⟩)
  · have := congrArg List.length hm; simpa using this
  · intro i hi
    rw [hm]
    simp [Array.getD, hi]
  · intro k o hk hkl
    have hlt : k < ops.size := (Array.getElem?_eq_some_iff.1 hk).1
    simp [Array.getD, hlt] at hkl
  · rw [hm]; exact List.pairwise_lt_range
end
end Go.Proofs.Sx
