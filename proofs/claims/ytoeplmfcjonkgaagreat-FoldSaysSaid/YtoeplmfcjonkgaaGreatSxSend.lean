/- A call's border: the frame while a call runs, and the variables that come back. -/
import Derived.Test.YtoeplmfcjonkgaaGreatSxPlace
set_option linter.unusedVariables false
set_option linter.unusedSimpArgs false
namespace Go.Proofs.Sx
open Go
section
variable {P : Program} {C : Ctx} {G : Gh} {s : St} {a : Act} {w : World}

theorem ExEnt.alike {i : Nat} {o o' : Ob} (h : ExEnt s i o) (h' : ExEnt s i o') (hf : isFrz o = isFrz o') : o = o' := by
  rcases h with ⟨g, e, xs, h1, h2⟩ | ⟨cs, h1, rfl⟩ <;> rcases h' with ⟨g', e', xs', h1', h2'⟩ | ⟨cs', h1', rfl⟩ <;> rw [h1] at h1' <;> cases h1'
  · rcases h2 with rfl | rfl <;> rcases h2' with rfl | rfl <;> first | rfl | cases hf
  · rfl

/-- A list that tells of nothing two things. -/
def Plainly (f : List (Nat × Ob)) : Prop := ∀ i o o', (i, o) ∈ f → (i, o') ∈ f → isFrz o = isFrz o'

theorem okEx_true {f : List (Nat × Ob)} (h : okEx f = true) : (exIds f).Nodup ∧ Plainly f := by
  simp only [okEx, Bool.and_eq_true, List.all_eq_true, Bool.not_eq_true'] at h
  refine ⟨nodupN_true h.1, fun i o o' h1 h2 => ?_⟩
  have key : ∀ o o', (i, o) ∈ f → (i, o') ∈ f → isFrz o = true → isFrz o' = false → False := fun o o' h1 h2 h3 h4 => by
    have := h.2 i (frzIds_mem.2 ⟨o, h1, h3⟩)
    rw [memN_true.2 (exIds_mem.2 ⟨o', h2, h4⟩)] at this
    cases this
  cases e : isFrz o <;> cases e' : isFrz o'
  · rfl
  · exact (key o' o h2 h1 e' e).elim
  · exact (key o o' h1 h2 e e').elim
  · rfl

theorem nodup_filterMap {α β : Type} {f : α → Option β} : ∀ {l : List α}, l.Nodup → (∀ x y b, x ∈ l → y ∈ l → f x = some b → f y = some b → x = y) → (l.filterMap f).Nodup
  | [], _, _ => by simp
  | x :: l, h, hi => by
    rw [List.nodup_cons] at h
    have ih := nodup_filterMap (f := f) h.2 fun x y b hx hy => hi x y b (List.mem_cons_of_mem _ hx) (List.mem_cons_of_mem _ hy)
    cases hx : f x with
    | none => rw [List.filterMap_cons_none hx]; exact ih
    | some b =>
      rw [List.filterMap_cons_some hx, List.nodup_cons]
      refine ⟨fun hm => ?_, ih⟩
      obtain ⟨y, hy, hyb⟩ := List.mem_filterMap.1 hm
      have := hi x y b (by simp) (List.mem_cons_of_mem _ hy) hx hyb
      subst this
      exact h.1 hy

theorem exBs_mem {f : List (Nat × Ob)} {b : Nat} : b ∈ exBs G s f ↔ ∃ i o, (i, o) ∈ f ∧ isFrz o = false ∧ blk G i (s.ob i) = some b := by
  simp only [exBs, List.mem_filterMap]
  constructor
  · rintro ⟨i, hi, hb⟩
    obtain ⟨o, h1, h2⟩ := exIds_mem.1 hi
    exact ⟨i, o, h1, h2, hb⟩
  · rintro ⟨i, o, h1, h2, h3⟩
    exact ⟨i, exIds_mem.2 ⟨o, h1, h2⟩, h3⟩

theorem ex_frz {f : List (Nat × Ob)} (hf : ExList s f) {i : Nat} {o : Ob} (h : (i, o) ∈ f) : frz (s.ob i) = false := by
  rcases hf i o h with ⟨g, e, xs, h1, _⟩ | ⟨cs, h1, _⟩ <;> rw [h1] <;> rfl

/-- What leaves is nobody's else. -/
theorem ex_out (R : RelG P C G s a w) {f : List (Nat × Ob)} (hf : ExList s f) (hx : okEx f = true) :
    (exBs G s f).Nodup ∧ ∀ b ∈ exBs G s f, ¬ okFrz G s f b ∧ b < w.heap.size ∧ (C.w0.heap.size ≤ b ∨ C.M b) := by
  obtain ⟨h1, h2⟩ := okEx_true hx
  refine ⟨nodup_filterMap h1 fun i j b _ _ => R.inj i j b, fun b hb => ?_⟩
  obtain ⟨i, o, hm, ho, hbk⟩ := exBs_mem.1 hb
  refine ⟨?_, R.own i b hbk⟩
  rintro (hk | ⟨j, o', hm', ho', hbk'⟩)
  · exact R.apart i b hbk (ex_frz hf hm) hk
  · have := R.inj _ _ _ hbk hbk'
    subst this
    rw [h2 _ _ _ hm hm', ho'] at ho; cases ho

theorem okFrz_S (R : RelG P C G s a w) {f : List (Nat × Ob)} {b : Nat} (h : okFrz G s f b) : b < w.heap.size := by
  rcases h with h | ⟨i, o, _, _, h⟩
  · exact R.okS b h
  · exact (R.own _ _ h).1

theorem ex_get {f : List (Nat × Ob)} (hf : ExList s f) (hp : Plainly f) (i : Nat) : (∃ o, (i, o) ∈ f ∧ setObs s.ob f i = some o) ∨ ((∀ o, (i, o) ∉ f) ∧ setObs s.ob f i = s.ob i) := by
  by_cases hm : ∃ o, (i, o) ∈ f
  · obtain ⟨o, ho⟩ := hm
    exact .inl ⟨o, ho, setObs_mem ho fun o' ho' => (hf i o' ho').alike (hf i o ho) (hp i o' o ho' ho)⟩
  · refine .inr ⟨fun o ho => hm ⟨o, ho⟩, setObs_other ?_⟩
    rintro ⟨j, o⟩ hp rfl
    exact hm ⟨o, hp⟩

/-- The frame behind a call: what was handed over is gone, the variables that were lent are empty. -/
theorem RelG.send (R : RelG P C G s a w) {l : List (Nat × Ob)} (hl : ExList s l) (hp : Plainly l) {bs : List Nat} {w' : World} {ok2 : Nat → Prop}
    (hw : Same w w' (· ∈ bs)) (hbs : ∀ b ∈ bs, ∃ i o, (i, o) ∈ l ∧ isFrz o = false ∧ blk G i (s.ob i) = some b)
    (hok : ∀ b, G.ok b → ok2 b) (hfrz : ∀ i o b, (i, o) ∈ l → isFrz o = true → blk G i (s.ob i) = some b → ok2 b)
    (hokN : ∀ b, ok2 b → okFrz G s l b ∨ w.heap.size ≤ b ∨ b ∈ bs) (hokS : ∀ b, ok2 b → b < w'.heap.size)
    (hbox : ∀ i cs, (i, hollow cs) ∈ l → ∃ (T : TypeId) (vs : List Value), w'.heap[G.gb i]? = some (.cells vs.toArray T (0, 0)) ∧ vs.length = cs.length ∧ (∀ v ∈ vs, v.oneCell' = true) ∧ ¬ ok2 (G.gb i)) :
    RelG P C { G with ok := ok2 } { s with ob := setObs s.ob l } a w' ∧
      ∀ b, b < w'.heap.size → (w.heap.size ≤ b ∨ b ∈ bs) → ¬ ok2 b → (∀ i cs, (i, hollow cs) ∈ l → G.gb i ≠ b) → Spare C { G with ok := ok2 } { s with ob := setObs s.ob l } w' b := by
  have hfz : ∀ i o b, (i, o) ∈ l → isFrz o = true → blk G i (s.ob i) = some b → b ∉ bs := fun i o b hm ho hb hbm => by
    obtain ⟨j, o', h1, h2, h3⟩ := hbs b hbm
    have := R.inj _ _ _ hb h3
    subst this
    rw [hp _ _ _ hm h1, h2] at ho; cases ho
  have hturn : ∀ b, b ∈ bs → Turned G s.ob (fun i => ∃ o, (i, o) ∈ l) b := fun b hb => by
    obtain ⟨i, o, h1, h2, h3⟩ := hbs b hb
    exact ⟨i, ⟨o, h1⟩, h3, ex_frz hl h1⟩
  -- what a thing is behind it
  have hget : ∀ i, (∃ o, (i, o) ∈ l) → ∃ o, (i, o) ∈ l ∧ setObs s.ob l i = some o := fun i hi => by
    rcases ex_get hl hp i with h | ⟨h, _⟩
    · exact h
    · obtain ⟨o, ho⟩ := hi; exact (h o ho).elim
  have hblk : ∀ i b, (∃ o, (i, o) ∈ l) → blk G i (setObs s.ob l i) = some b → blk G i (s.ob i) = some b ∧ ((∃ o, (i, o) ∈ l ∧ isFrz o = true) ∨ ∃ cs, (i, hollow cs) ∈ l ∧ G.gb i = b) := fun i b hi hb => by
    obtain ⟨o, ho, he⟩ := hget i hi
    rw [he] at hb
    rcases hl i o ho with ⟨g, e, xs, h1, rfl | rfl⟩ | ⟨cs, h1, rfl⟩
    · exact ⟨by rw [h1]; exact hb, .inl ⟨_, ho, rfl⟩⟩
    · simp [blk] at hb
    · refine ⟨by rw [h1]; exact hb, .inr ⟨cs, ho, ?_⟩⟩
      simpa [blk, hollow] using hb
  refine ⟨?_, fun b hlt hb hk hnb => ?_⟩
  · have key := R.step (G' := { G with ok := ok2 }) (fun i => ∃ o, (i, o) ∈ l) (sl' := s.sl) (ob' := setObs s.ob l) (a' := a) (w' := w')
      (fun i hi => ⟨rfl, rfl, by rcases ex_get hl hp i with ⟨o, h, _⟩ | ⟨_, h⟩; exact absurd ⟨o, h⟩ hi; exact h⟩)
      (hw.mono hturn) hok
      (fun b hb => by
        rcases hokN b hb with (h | ⟨i, o, h1, h2, h3⟩) | h | h
        · exact .inl h
        · exact .inr (.inr ⟨i, ⟨o, h1⟩, h3, ex_frz hl h1⟩)
        · exact .inr (.inl h)
        · exact .inr (.inr (hturn b h)))
      hokS
      (fun i hi _ => by obtain ⟨o, _, he⟩ := hget i hi; rw [he]; rfl)
      (fun i cs hi hx _ => by
        obtain ⟨o, ho, he⟩ := hget i hi
        rw [he] at hx; cases hx
        rcases hl i _ ho with ⟨g, e, xs, h1, h2 | h2⟩ | ⟨cs', h1, h2⟩
        · cases h2
        · cases h2
        · exact ⟨rfl, cs', h1⟩)
      (fun i g hi hx _ => by
        obtain ⟨o, ho, he⟩ := hget i hi
        rw [he] at hx
        rcases hl i _ ho with ⟨g', e, xs, h1, rfl | rfl⟩ | ⟨cs', h1, rfl⟩
        · cases hx; exact ⟨_, by rw [h1]; rfl, Nat.le_refl _⟩
        · cases hx; exact ⟨_, by rw [h1]; rfl, Nat.le_refl _⟩
        · cases hx)
      (fun i g e xs fr hi hx _ => by
        obtain ⟨o, ho, he⟩ := hget i hi
        rw [he] at hx; cases hx
        rcases hl i _ ho with ⟨g', e', xs', h1, h2 | h2⟩ | ⟨cs', h1, h2⟩
        · cases h2; exact .inr ⟨_, _, h1, rfl, rfl⟩
        · cases h2
        · cases h2)
      (fun hL hW i o hi hx => by
        obtain ⟨o', ho, he⟩ := hget i hi
        rw [he] at hx; cases hx
        rcases hl i _ ho with ⟨g', e', xs', h1, rfl | rfl⟩ | ⟨cs', h1, rfl⟩
        · have h4 := (R.ob i _ h1).1
          refine ⟨h4.mono hok hW (fun b hb => ?_), fun _ b hb => hfrz i _ b ho rfl (by rw [h1]; exact hb)⟩
          have hb' : blk G i (s.ob i) = some b := by rw [h1]; exact hb
          exact hw.block b (R.own _ _ hb').1 (hfz i _ b ho rfl hb')
        · trivial
        · obtain ⟨T, vs, h2, h3, h4, _⟩ := hbox i cs' ho
          refine ⟨T, vs, h2, by simp [h3], fun j x v hx hv => ?_, h4⟩
          rw [List.getElem?_map] at hx
          obtain ⟨_, _, rfl⟩ := Option.map_eq_some_iff.1 hx
          exact .gone _)
      (fun i b hi hx => by
        have h1 := (hblk i b hi hx).1
        refine ⟨?_, .inr ⟨i, hi, h1, ?_⟩⟩
        · exact Nat.lt_of_lt_of_le (R.own _ _ h1).1 hw.size
        · obtain ⟨o, ho⟩ := hi; exact ex_frz hl ho)
      (fun i j b hi hj hxi hxj => R.inj i j b (hblk i b hi hxi).1 (hblk j b hj hxj).1)
      (fun i b hi hx hf => by
        obtain ⟨o, ho, he⟩ := hget i hi
        rw [he] at hx hf
        rcases hl i _ ho with ⟨g', e', xs', h1, rfl | rfl⟩ | ⟨cs', h1, rfl⟩
        · cases hf
        · simp [blk] at hx
        · simp only [hollow, blk, Option.some.injEq] at hx
          subst hx
          obtain ⟨T, vs, _, _, _, h5⟩ := hbox i cs' ho
          exact h5)
      (fun i ⟨o, ho⟩ _ => by
        rcases hl i _ ho with ⟨g', e', xs', h1, _⟩ | ⟨cs', h1, _⟩ <;> exact .inl (by rw [h1]; rfl))
      R.tsz R.dfr (fun hL hW t => (R.sl t).later (G' := { G with ok := ok2 }) hok hW hL)
    exact key
  · refine ⟨hlt, ?_, hk, fun j hj => ?_⟩
    · rcases hb with hb | hb
      · exact .inl (Nat.le_trans R.same.size hb)
      · obtain ⟨i, o, _, _, h3⟩ := hbs b hb; exact (R.own _ _ h3).2
    · have hj : blk G j (setObs s.ob l j) = some b := by
        rw [← hj]; exact (blk_congr (G := G) (G' := { G with ok := ok2 }) rfl rfl).symm
      by_cases hm : ∃ o, (j, o) ∈ l
      · obtain ⟨h1, ⟨o, h2, h3⟩ | ⟨cs, h2, h3⟩⟩ := hblk j b hm hj
        · exact hk (hfrz j o b h2 h3 h1)
        · exact hnb j cs h2 h3
      · have : setObs s.ob l j = s.ob j := by
          rcases ex_get hl hp j with ⟨o, h, _⟩ | ⟨_, h⟩
          · exact absurd ⟨o, h⟩ hm
          · exact h
        rw [this] at hj
        rcases hb with hb | hb
        · have := (R.own _ _ hj).1; omega
        · obtain ⟨i, o, h1, _, h3⟩ := hbs b hb
          have := R.inj _ _ _ hj h3
          subst this
          exact hm ⟨o, h1⟩

/-! ### The variables that come back -/
theorem setObs_comm_one {ob : Nat → Option Ob} {i j : Nat} {o o' : Ob} (h : i ≠ j) : upd (upd ob i (some o)) j (some o') = upd (upd ob j (some o')) i (some o) := by
  funext k
  by_cases h1 : k = i
  · subst h1; rw [upd_ne _ _ h, upd_same, upd_same]
  · by_cases h2 : k = j
    · subst h2; rw [upd_same, upd_ne _ _ h1, upd_same]
    · rw [upd_ne _ _ h2, upd_ne _ _ h1, upd_ne _ _ h1, upd_ne _ _ h2]
theorem setObs_perm {l l' : List (Nat × Ob)} (h : l.Perm l') : ∀ {ob : Nat → Option Ob}, (l.map (·.1)).Nodup → setObs ob l = setObs ob l' := by
  induction h with
  | nil => intro ob _; rfl
  | cons x _ ih =>
    intro ob hn
    obtain ⟨i, o⟩ := x
    simp only [List.map_cons, List.nodup_cons] at hn
    exact ih hn.2
  | swap x y l =>
    intro ob hn
    obtain ⟨i, o⟩ := x
    obtain ⟨j, o'⟩ := y
    simp only [List.map_cons, List.nodup_cons, List.mem_cons, not_or] at hn
    simp only [setObs]
    rw [setObs_comm_one hn.1.1]
  | trans h1 _ ih1 ih2 =>
    intro ob hn
    rw [ih1 hn, ih2 ((h1.map (·.1)).nodup_iff.1 hn)]

theorem old_new_perm : ∀ l : List (Nat × Ob), l.Perm (oldIn l ++ newIn l)
  | [] => .nil
  | (i, o) :: l => by
    have ih := old_new_perm l
    simp only [oldIn, newIn]
    cases isOld o with
    | true => exact ih.cons _
    | false => exact (ih.cons _).trans List.perm_middle.symm

/-- The rows and the variables in the order in which they come back. -/
def backSeq (r : Ret) : Nat → List (Nat × List (Nat × TypeId) × List AV) → List (Nat × Ob)
  | _, [] => []
  | i, (id, own, cs) :: ls => (backCells own id r i 0 cs).2 ++ (id, .box (backCells own id r i 0 cs).1) :: backSeq r (i + 1) ls
theorem backSeq_perm (r : Ret) : ∀ (ls : List (Nat × List (Nat × TypeId) × List AV)) (i : Nat), (backSeq r i ls).Perm (backRows r i ls ++ backBoxes r i ls)
  | [], i => .nil
  | (id, own, cs) :: ls, i => by
    have ih := backSeq_perm r ls (i + 1)
    simp only [backSeq, backRows, backBoxes, List.append_assoc]
    refine List.Perm.append_left _ ?_
    exact ((ih.cons _).trans List.perm_middle.symm)

/-- Where the cells' rows come to stand. -/
def backPl (own : List (Nat × TypeId)) (id : Nat) : Nat → List AV → List (Option (Nat × Nat))
  | _, [] => []
  | j, a :: as => (match lkN own j with | some _ => (match a with | .row q g => some (q, g + 1) | _ => some (cellId id j, 0)) | none => none) :: backPl own id (j + 1) as
theorem backPl_length (own : List (Nat × TypeId)) (id : Nat) : ∀ (as : List AV) (j : Nat), (backPl own id j as).length = as.length
  | [], _ => rfl
  | a :: as, j => by simp [backPl, backPl_length own id as (j + 1)]

theorem okCV_v {own : List (Nat × TypeId)} {j n : Nat} {p : PV} {cs : List CV} (h : okCV own j (n + 1) (.v p :: cs) = true) : lkN own j = none ∧ okCV own (j + 1) n cs = true := by
  simp only [okCV] at h
  split at h
  · cases h
  · rename_i hm; exact ⟨hm, h⟩
theorem okCV_own {own : List (Nat × TypeId)} {j n : Nat} {e : TypeId} {xs : List PV} {cs : List CV} (h : okCV own j (n + 1) (.own e xs :: cs) = true) : lkN own j = some e ∧ okCV own (j + 1) n cs = true := by
  simp only [okCV] at h
  split at h
  · rename_i e' hm
    cases hb : Nat.beq e e' with
    | true => rw [hb] at h; rw [Nat.eq_of_beq_eq_true hb]; exact ⟨hm, h⟩
    | false => rw [hb] at h; cases h
  · cases h
theorem okCV_length {own : List (Nat × TypeId)} : ∀ {n j : Nat} {cs : List CV}, okCV own j n cs = true → cs.length = n
  | 0, j, [], _ => rfl
  | n + 1, j, .v p :: cs, h => by simp [okCV_length (okCV_v h).2]
  | n + 1, j, .own e xs :: cs, h => by simp [okCV_length (okCV_own h).2]
  | 0, _, _ :: _, h => by simp [okCV] at h
  | _ + 1, _, [], h => by simp [okCV] at h

theorem backCells_place {own : List (Nat × TypeId)} {id i : Nat} {r : Ret} : ∀ {as : List AV} {j : Nat} {cs : List CV}, okCV own j as.length cs = true → (∀ m c, cs[m]? = some c → lentC i (j + m) r = c) →
    backCells own id r i j as = (placeAVs cs (backPl own id j as), placeObs cs (backPl own id j as))
  | [], j, [], _, _ => rfl
  | [], j, _ :: _, h, _ => by simp [okCV] at h
  | a :: as, j, [], h, _ => by simp [okCV] at h
  | a :: as, j, c :: cs, h, hc => by
    have h0 : lentC i j r = c := hc 0 c rfl
    have hc' : ∀ m c', cs[m]? = some c' → lentC i (j + 1 + m) r = c' := fun m c' hmc => by rw [← hc (m + 1) c' (by simpa using hmc)]; congr 1; omega
    cases c with
    | v p =>
      obtain ⟨hm, h⟩ := okCV_v (n := as.length) h
      have ih := backCells_place (id := id) (i := i) (r := r) h hc'
      simp [backCells, backPl, placeAVs, placeObs, placeAV, placeOb, hm, ih, h0, cvP]
    | own e xs =>
      obtain ⟨hm, h⟩ := okCV_own (n := as.length) h
      have ih := backCells_place (id := id) (i := i) (r := r) h hc'
      cases a <;> simp [backCells, backPl, placeAVs, placeObs, placeAV, placeOb, hm, ih, h0, cvL]

def resPl (own : List (Nat × TypeId)) (d : Nat) : Nat → Nat → List (Option (Nat × Nat))
  | _, 0 => []
  | j, n + 1 => (match lkN own j with | some _ => some (rid d j, 0) | none => none) :: resPl own d (j + 1) n
theorem resPl_length (own : List (Nat × TypeId)) (d : Nat) : ∀ (n j : Nat), (resPl own d j n).length = n
  | 0, _ => rfl
  | n + 1, j => by simp [resPl, resPl_length own d n (j + 1)]
theorem res_place {own : List (Nat × TypeId)} {d : Nat} {r : Ret} : ∀ {n j : Nat} {cs : List CV}, okCV own j n cs = true → (∀ m c, cs[m]? = some c → resC (j + m) r = c) →
    resAVs own d r j n = placeAVs cs (resPl own d j n) ∧ resNew own d r j n = placeObs cs (resPl own d j n)
  | 0, j, [], _, _ => ⟨rfl, rfl⟩
  | 0, j, _ :: _, h, _ => by simp [okCV] at h
  | n + 1, j, [], h, _ => by simp [okCV] at h
  | n + 1, j, c :: cs, h, hc => by
    have h0 : resC j r = c := hc 0 c rfl
    have hc' : ∀ m c', cs[m]? = some c' → resC (j + 1 + m) r = c' := fun m c' hmc => by rw [← hc (m + 1) c' (by simpa using hmc)]; congr 1; omega
    cases c with
    | v p =>
      obtain ⟨hm, h⟩ := okCV_v h
      have ih := res_place (d := d) (r := r) h hc'
      simp [resAVs, resNew, resPl, placeAVs, placeObs, placeAV, placeOb, hm, ih, h0, cvP]
    | own e xs =>
      obtain ⟨hm, h⟩ := okCV_own h
      have ih := res_place (d := d) (r := r) h hc'
      simp [resAVs, resNew, resPl, placeAVs, placeObs, placeAV, placeOb, hm, ih, h0, cvL]

theorem setObs_keys {l : List (Nat × Ob)} {ob : Nat → Option Ob} {i : Nat} (h : i ∉ l.map (·.1)) : setObs ob l i = ob i :=
  setObs_other fun p hp he => h (List.mem_map.2 ⟨p, hp, he⟩)

theorem backs_sound {ok : Nat → Prop} {r : Ret} : ∀ {ls : List (Nat × List (Nat × TypeId) × List AV)} {k : Nat} {rl : List (List CV)} {bs : List Nat} {G : Gh} {s : St},
    (∀ m cs, rl[m]? = some cs → r.lent.getD (k + m) [] = cs) → okLents (ls.map fun l => (l.2.1, l.2.2.length)) rl = true →
    PAsRel P ok w (rl.map .lent) (ls.map fun l => .pointer (some ⟨G.gb l.1, 0, none⟩)) bs → RelG P C G s a w → G.ok = ok → bs.Nodup →
    (∀ b ∈ bs, b ∈ ls.map (fun l => G.gb l.1) ∨ Spare C G s w b) → (∀ l ∈ ls, ∃ cs0, s.ob l.1 = some (.box cs0)) →
    ((backRows r k ls ++ backBoxes r k ls).map (·.1)).Nodup → Free s (backRows r k ls) →
    ∃ sg', RelG P C { G with sg := sg' } { s with ob := setObs s.ob (backSeq r k ls) } a w ∧ Later G { G with sg := sg' } s.ob (setObs s.ob (backSeq r k ls))
  | [], k, rl, bs, G, s, hr, ho, h, R, hok, hnd, hsp, hbx, hids, hfr => ⟨G.sg, R, Later.refl _ _⟩
  | (id, own, cs0) :: ls, k, [], bs, G, s, hr, ho, h, R, hok, hnd, hsp, hbx, hids, hfr => by simp [okLents] at ho
  | (id, own, cs0) :: ls, k, cs :: rl, _, G, s, hr, ho, .cons (bs := b1) (bs' := b2) h t, R, hok, hnd, hsp, hbx, hids, hfr => by
    simp only [List.map_cons, okLents, Bool.and_eq_true] at ho
    have hcs : r.lent.getD k [] = cs := by simpa using hr 0 cs rfl
    have hE := backCells_place (own := own) (id := id) (i := k) (r := r) (as := cs0) (j := 0) ho.1 fun m c hm => by
      simp only [lentC, hcs, Nat.zero_add]; simp [List.getD, hm]
    simp only [backSeq, backRows, backBoxes, hE] at hids hfr ⊢
    cases h with
    | lent _ b T us bs1 hh hcv h1 =>
      rw [List.nodup_append] at hnd
      obtain ⟨hnd1, hnd2, hnd3⟩ := hnd
      rw [List.nodup_cons] at hnd1
      have hgb : ∀ l ∈ ls, (G.gb l.1) ∈ b2 := by
        have : ∀ {rl : List (List CV)} {ls : List (Nat × List (Nat × TypeId) × List AV)} {bs : List Nat}, PAsRel P ok w (rl.map .lent) (ls.map fun l => .pointer (some ⟨G.gb l.1, 0, none⟩)) bs → ∀ l ∈ ls, G.gb l.1 ∈ bs := by
          intro rl
          induction rl with
          | nil => intro ls bs h l hl; cases ls with | nil => simp at hl | cons _ _ => cases h
          | cons _ _ ih =>
            intro ls bs h l hl
            cases ls with
            | nil => simp at hl
            | cons l0 ls =>
              cases h with
              | cons h t =>
                rcases List.mem_cons.1 hl with rfl | hl
                · cases h; simp
                · exact List.mem_append_right _ (ih t l hl)
        exact this t
      have hspare1 : ∀ b' ∈ bs1, Spare C G s w b' := fun b' hb' => by
        rcases hsp b' (by simp [hb']) with h2 | h2
        · exfalso
          simp only [List.map_cons, List.mem_cons] at h2
          rcases h2 with h2 | h2
          · exact hnd1.1 (h2 ▸ hb')
          · obtain ⟨l, hl, rfl⟩ := List.mem_map.1 h2
            exact hnd3 _ (by simp [hb']) _ (hgb l hl) rfl
        · exact h2
      have hids' := hids
      simp only [List.map_append, List.append_assoc, List.map_cons] at hids'
      have hn1 : ((placeObs cs (backPl own id 0 cs0)).map (·.1)).Nodup := (List.nodup_append.1 hids').1
      obtain ⟨cs1, hob⟩ := hbx _ (by simp : (id, own, cs0) ∈ (id, own, cs0) :: ls)
      have hlen : (backPl own id 0 cs0).length = cs.length := by rw [backPl_length, okCV_length ho.1]
      obtain ⟨sg1, R1, L1, hv1, hs1⟩ := place_sound hcv hlen R hok hnd1.2 hspare1 hn1 fun i o hm => hfr i o (List.mem_append_left _ hm)
      have hidn : id ∉ (placeObs cs (backPl own id 0 cs0)).map (·.1) := fun hm => (List.nodup_append.1 hids').2.2 _ hm _ (by simp) rfl
      have hob1 : setObs s.ob (placeObs cs (backPl own id 0 cs0)) id = some (.box cs1) := by rw [setObs_keys hidn]; exact hob
      have havl : us.length = (placeAVs cs (backPl own id 0 cs0)).length := by
        have : ∀ (cs : List CV) (pl : List (Option (Nat × Nat))), pl.length = cs.length → (placeAVs cs pl).length = cs.length := by
          intro cs
          induction cs with
          | nil => intro pl _; cases pl <;> rfl
          | cons c cs ih => intro pl hl; cases pl with | nil => simp at hl | cons p pl => simp [placeAVs, ih pl (by simpa using hl)]
        rw [this cs _ hlen]; exact hcv.length
      obtain ⟨R2, L2⟩ := R1.fill (cs := placeAVs cs (backPl own id 0 cs0)) hob1 (T := T) (vs := us) hh havl hv1 h1
      have L12 := L1.trans L2
      -- the others
      have hids2 : ((backRows r (k + 1) ls ++ backBoxes r (k + 1) ls).map (·.1)).Nodup := by
        rw [List.map_append]
        have h3 := (List.nodup_append.1 hids').2.1
        have h4 : ((List.map (·.1) (backRows r (k + 1) ls)) ++ List.map (·.1) (backBoxes r (k + 1) ls)).Sublist (List.map (·.1) (backRows r (k + 1) ls) ++ id :: List.map (·.1) (backBoxes r (k + 1) ls)) :=
          List.Sublist.append_left (List.sublist_cons_self _ _) _
        exact h4.nodup h3
      have hout : ∀ i, (i ∈ (backRows r (k + 1) ls).map (·.1) ∨ i ∈ (backBoxes r (k + 1) ls).map (·.1)) → upd (setObs s.ob (placeObs cs (backPl own id 0 cs0))) id (some (.box (placeAVs cs (backPl own id 0 cs0)))) i = s.ob i := fun i hi => by
        have h3 := (List.nodup_append.1 hids').2
        have hne : i ≠ id := by
          rintro rfl
          have h4 := List.nodup_append.1 h3.1
          rcases hi with hi | hi
          · exact h4.2.2 _ hi _ (by simp) rfl
          · exact (List.nodup_cons.1 h4.2.1).1 hi
        rw [upd_ne _ _ hne, setObs_keys fun hm => h3.2 _ hm i (by rcases hi with hi | hi <;> simp [hi]) rfl]
      have hboxid : ∀ l ∈ ls, l.1 ∈ (backBoxes r (k + 1) ls).map (·.1) := by
        have : ∀ (ls : List (Nat × List (Nat × TypeId) × List AV)) (k : Nat), ∀ l ∈ ls, l.1 ∈ (backBoxes r k ls).map (·.1) := by
          intro ls
          induction ls with
          | nil => intro k l hl; simp at hl
          | cons l0 ls ih =>
            intro k l hl
            obtain ⟨i0, o0, c0⟩ := l0
            rcases List.mem_cons.1 hl with rfl | hl
            · simp [backBoxes]
            · simp only [backBoxes, List.map_cons, List.mem_cons]; exact .inr (ih (k + 1) l hl)
        exact this ls _
      obtain ⟨sg2, R3, L3⟩ := backs_sound (r := r) (ls := ls) (k := k + 1) (rl := rl) (bs := b2) (G := { G with sg := sg1 })
        (s := { s with ob := upd (setObs s.ob (placeObs cs (backPl own id 0 cs0))) id (some (.box (placeAVs cs (backPl own id 0 cs0)))) })
        (fun m c hm => by rw [← hr (m + 1) c (by simpa using hm)]; congr 1; omega) ho.2 t R2 hok hnd2
        (fun b' hb' => by
          rcases hsp b' (List.mem_append_right _ hb') with h2 | h2
          · simp only [List.map_cons, List.mem_cons] at h2
            rcases h2 with h2 | h2
            · exact (hnd3 b' (by simp [h2]) b' hb' rfl).elim
            · exact .inl h2
          · refine .inr ?_
            have h3 := hs1 b' h2 fun hm => hnd3 b' (by simp [hm]) b' hb' rfl
            refine ⟨h3.lt, h3.mine, h3.nok, fun j hj => ?_⟩
            by_cases hji : j = id
            · subst hji
              have h4 := h3.free j
              simp only [hob1] at h4
              simp only [upd_same] at hj
              exact h4 hj
            · simp only [upd_ne _ _ hji] at hj
              exact h3.free j hj)
        (fun l hl => by
          obtain ⟨c1, h2⟩ := hbx l (List.mem_cons_of_mem _ hl)
          exact ⟨c1, by rw [← h2]; exact hout _ (.inr (hboxid l hl))⟩)
        hids2
        (fun i o hm => by
          have := hfr i o (List.mem_append_right _ hm)
          simp only [hout i (.inl (List.mem_map.2 ⟨_, hm, rfl⟩))]; exact this)
      refine ⟨sg2, ?_, ?_⟩
      · rw [setObs_append]; exact R3
      · rw [setObs_append]; exact L12.trans L3
end
end Go.Proofs.Sx
