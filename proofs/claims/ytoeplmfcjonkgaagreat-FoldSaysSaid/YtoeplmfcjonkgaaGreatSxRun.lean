/- Regions: in the text's order, or in any. -/
import Derived.Test.YtoeplmfcjonkgaaGreatSxNat
set_option linter.unusedVariables false
set_option linter.unusedSimpArgs false
namespace Go.Proofs.Sx
open Go
section
variable {P : Program} {C : Ctx} {G : Gh} {s : St} {a : Act} {w : World} {ops : Array Oper} {o : Oper}
variable {an : An} {me : FuncId} {cf : FuncId → List PA → Option Ret}

/-- What is asked of a frame's calls: each operation does what the interpreter says. -/
def ActOK (P : Program) (an : An) (me : FuncId) (cf : FuncId → List PA → Option Ret) : Prop :=
  ∀ (C : Ctx) (G : Gh) (s : St) (a : Act) (w : World) (sl : Nat → AV) (ob : Nat → Option Ob) (o : Oper) (δ : Delta), RelG P C G s a w → View s sl ob →
    act P an me cf o sl ob some = some δ → OpGoal P C s a w o δ

theorem upd_eta {α : Type} {f : Nat → α} {i : Nat} {v : α} (h : f i = v) : upd f i v = f := by
  funext j
  by_cases e : j = i
  · subst e; rw [upd_same, h]
  · rw [upd_ne _ _ e]

theorem refine_self {t : Nat} {b : Bool} (h : s.sl t = .pv (.bool b)) : refine s (.tmp t) b = s := by
  unfold refine; simp only [upd_eta h]

/-- A guard: it lets the operation run, or not. -/
theorem guard_some {α : Type} {r : α} {yes no : St → Option α} (h : guardK ops o s yes no = some r) :
    (yes s = some r ∧ ∀ a : Act, (∀ G C w, RelG P C G s a w → Region.wanted o (yielded ops a.tmps) = true)) ∨
    (no s = some r ∧ ∀ a : Act, (∀ G C w, RelG P C G s a w → Region.wanted o (yielded ops a.tmps) = false)) := by
  unfold guardK at h
  split at h
  · rename_i hg
    exact .inl ⟨h, fun a G C w R => by simp [Region.wanted, hg]⟩
  · rename_i j want hg
    split at h
    · rename_i t ht
      have hy : ∀ (a : Act), yielded ops a.tmps j = match a.tmps[t]? with | some (.bool b) => some b | _ => none := fun a => by unfold yielded; rw [ht]; rfl
      split at h
      · rename_i hv
        refine .inr ⟨h, fun a G C w R => ?_⟩
        have hr := R.sl t
        rw [hv] at hr
        simp only [Region.wanted, hg, hy]
        cases ha : a.tmps[t]? with
        | none => rfl
        | some u =>
          have : a.tmps.getD t Go.undef = u := by simp [Array.getD_eq_getD_getElem?, ha]
          rw [this] at hr
          cases hr; rfl
      · rename_i p hv
        replace h := asBool_some h; obtain ⟨b, rfl, h⟩ := h
        have hw : ∀ a : Act, ∀ G C w, RelG P C G s a w → Region.wanted o (yielded ops a.tmps) = (b == want) := fun a G C w R => by
          have hr := rel_bool (hv ▸ R.sl t)
          simp only [Region.wanted, hg, hy]
          cases ha : a.tmps[t]? with
          | none => simp [Array.getD_eq_getD_getElem?, ha, Go.undef] at hr
          | some u =>
            have : a.tmps.getD t Go.undef = u := by simp [Array.getD_eq_getD_getElem?, ha]
            rw [this] at hr
            subst hr
            cases b <;> cases want <;> rfl
        cases b <;> cases want <;> simp only [Bool.cond_true, Bool.cond_false, refine_self hv] at h
        · exact .inl ⟨h, fun a G C w R => hw a G C w R⟩
        · exact .inr ⟨h, fun a G C w R => hw a G C w R⟩
        · exact .inr ⟨h, fun a G C w R => hw a G C w R⟩
        · exact .inl ⟨h, fun a G C w R => hw a G C w R⟩
      · cases h
    · cases h

theorem applyD_some {α : Type} {r : α} {dst : Option Nat} {δ : Delta} {K : St → Option α} (h : applyD s dst δ K = some r) :
    okDst s dst = true ∧ freeIds s δ.new = true ∧ nodupN (δ.new.map (·.1)) = true ∧ K (after s dst δ) = some r := by
  unfold applyD at h
  replace h := cond_some h; obtain ⟨hb, h⟩ := h
  simp only [Bool.and_eq_true] at hb
  exact ⟨hb.1.1, hb.1.2, hb.2, h⟩

theorem stepK_sound (hact : ActOK P an me cf) {α : Type} {r : α} {K : St → Option α} (h : stepK P an me cf ops o s K = some r) (R : Rel P C s a w) {i : Nat} (hi : ops[i]? = some o)
    {Kc : Act → World → Prop} {Q : Exit → Act → World → Prop} (hK : ∀ s' a' w', Rel P C s' a' w' → K s' = some r → Kc a' w') : wpOp P ops Q i Kc a w := by
  obtain ⟨G, R⟩ := R
  unfold wpOp
  simp only [hi]
  unfold stepK at h
  rcases guard_some (P := P) h with ⟨h, hw⟩ | ⟨h, hw⟩
  · rw [hw a G C w R]
    simp only [if_true]
    obtain ⟨δ, hδ, h⟩ := act_some h
    obtain ⟨h1, h2, h3, h⟩ := applyD_some h
    exact .inl (hact C G s a w s.sl s.ob o δ R (View.self s) hδ h1 h2 h3 Kc Q fun a' w' hR => hK _ a' w' hR h)
  · rw [hw a G C w R]
    simp only [Bool.false_eq_true, if_false]
    replace h := cond_some h; obtain ⟨hd, h⟩ := h
    exact hK _ _ _ ⟨G, R.put hd .undef⟩ h

theorem runL_sound (hact : ActOK P an me cf) {α : Type} {r : α} {K : St → Option α} {Q : Exit → Act → World → Prop} : ∀ (l : List Oper) (k : Nat) (s : St) (a : Act) (w : World),
    ops.toList.drop k = l → runL P an me cf ops l s K = some r → Rel P C s a w → (∀ s' a' w', Rel P C s' a' w' → K s' = some r → Q .normal a' w') → wpOps P ops Q (List.range' k l.length) a w
  | [], k, s, a, w, hl, h, R, hK => hK s a w R h
  | o :: l, k, s, a, w, hl, h, R, hK => by
    have hk : ops[k]? = some o := by
      have := congrArg (·[0]?) hl
      simpa using this
    have hl' : ops.toList.drop (k + 1) = l := by
      have := congrArg List.tail hl
      simpa using this
    rw [List.length_cons, List.range'_succ, wpOps_cons]
    exact stepK_sound hact h R hk fun s' a' w' R' h' => runL_sound hact l (k + 1) s' a' w' hl' h' R' hK

/-! ### Any order -/
/-- A step that sees what it looks at alone: what it touches, and the frame behind it. -/
def stepN (P : Program) (an : An) (me : FuncId) (cf : FuncId → List PA → Option Ret) (ops : Array Oper) (o : Oper) (s : St) : Option (Fp × St) :=
  stepM P an me cf ops o s fun f s' => some (f, s')

theorem applyD_bind {α β : Type} (k : β → Option α) (s : St) (dst : Option Nat) (δ : Delta) (F : St → Option β) : (applyD s dst δ F).bind k = applyD s dst δ fun s' => (F s').bind k := by
  unfold applyD; simp only [cond_bind]; rfl
theorem guardK_bind {α β : Type} (k : β → Option α) (ops : Array Oper) (o : Oper) (s : St) (F F' : St → Option β) : (guardK ops o s F F').bind k = guardK ops o s (fun s' => (F s').bind k) (fun s' => (F' s').bind k) := by
  unfold guardK
  split
  · rfl
  · split
    · split
      · rfl
      · simp only [asBool_bind, cond_bind]
      · rfl
    · rfl
theorem stepM_some {α : Type} {r : α} {K : Fp → St → Option α} (h : stepM P an me cf ops o s K = some r) : ∃ f s', stepN P an me cf ops o s = some (f, s') ∧ K f s' = some r := by
  have : stepM P an me cf ops o s K = (stepN P an me cf ops o s).bind fun x => K x.1 x.2 := by
    unfold stepN stepM
    rw [guardK_bind]
    simp only [act_bind, applyD_bind, cond_bind, Option.bind_some, Option.bind_none]
  rw [this] at h
  obtain ⟨⟨f, s'⟩, h1, h2⟩ := Option.bind_eq_some_iff.1 h
  exact ⟨f, s', h1, h2⟩

theorem view_mask (s : St) (ts is : List Nat) : View s (maskS ts s.sl) (maskO is s.ob) := by
  refine ⟨fun t => ?_, fun i o h => ?_⟩
  · unfold maskS; cases memN t ts <;> simp
  · unfold maskO at h; cases hm : memN i is <;> simp [hm] at h; exact h

theorem stepN_sound (hact : ActOK P an me cf) {f : Fp} {s' : St} (h : stepN P an me cf ops o s = some (f, s')) (R : Rel P C s a w) {i : Nat} (hi : ops[i]? = some o)
    {Kc : Act → World → Prop} {Q : Exit → Act → World → Prop} (hK : ∀ a' w', Rel P C s' a' w' → Kc a' w') : wpOp P ops Q i Kc a w := by
  obtain ⟨G, R⟩ := R
  unfold wpOp
  simp only [hi]
  unfold stepN stepM at h
  rcases guard_some (P := P) h with ⟨h, hw⟩ | ⟨h, hw⟩
  · rw [hw a G C w R]
    simp only [if_true]
    obtain ⟨δ, hδ, h⟩ := act_some h
    obtain ⟨h1, h2, h3, h⟩ := applyD_some h
    simp only [Option.some.injEq, Prod.mk.injEq] at h
    obtain ⟨_, rfl⟩ := h
    exact .inl (hact C G s a w _ _ o δ R (view_mask ..) hδ h1 h2 h3 Kc Q hK)
  · rw [hw a G C w R]
    simp only [Bool.false_eq_true, if_false]
    replace h := cond_some h; obtain ⟨hd, h⟩ := h
    simp only [Option.some.injEq, Prod.mk.injEq] at h
    obtain ⟨_, rfl⟩ := h
    exact hK _ _ ⟨G, R.put hd .undef⟩

/-- Two frames that are alike at slots and things. -/
structure Alike (s s' : St) (ts is : List Nat) : Prop where
  n : s'.n = s.n
  np : s'.np = s.np
  sl : ∀ t, t ∈ ts → s'.sl t = s.sl t
  ob : ∀ i, i ∈ is → s'.ob i = s.ob i

theorem mask_eq {s s' : St} {ts is : List Nat} (h : Alike s s' ts is) : maskS ts s'.sl = maskS ts s.sl ∧ maskO is s'.ob = maskO is s.ob := by
  refine ⟨funext fun t => ?_, funext fun i => ?_⟩
  · unfold maskS
    cases hm : memN t ts with
    | true => simp only [Bool.cond_true]; exact h.sl t (memN_true.1 hm)
    | false => rfl
  · unfold maskO
    cases hm : memN i is with
    | true => simp only [Bool.cond_true]; exact h.ob i (memN_true.1 hm)
    | false => rfl

theorem flatMap_congr' {α β : Type} {l : List α} {f g : α → List β} (h : ∀ x ∈ l, f x = g x) : l.flatMap f = l.flatMap g := by
  induction l with
  | nil => rfl
  | cons x l ih => simp only [List.flatMap_cons]; rw [h x (by simp), ih fun y hy => h y (by simp [hy])]

theorem need_eq {s s' : St} {ts : List Nat} (h : Alike s s' ts (needIds s.sl s.ob ts)) : needIds s'.sl s'.ob ts = needIds s.sl s.ob ts := by
  unfold needIds
  have h1 : ts.flatMap (fun t => avIds (s'.sl t)) = ts.flatMap fun t => avIds (s.sl t) := flatMap_congr' fun t ht => by rw [h.sl t ht]
  simp only [h1]
  congr 1
  refine flatMap_congr' fun i hi => ?_
  rw [h.ob i (List.mem_append_left _ hi)]

theorem setObs_ids {l : List (Nat × Ob)} : ∀ {ob ob' : Nat → Option Ob} {i : Nat}, i ∈ l.map (·.1) → setObs ob l i = setObs ob' l i := by
  induction l with
  | nil => intro ob ob' i h; simp at h
  | cons p l ih =>
    intro ob ob' i h
    obtain ⟨j, o⟩ := p
    simp only [setObs]
    by_cases hm : i ∈ l.map (·.1)
    · exact ih hm
    · have hji : i = j := by simp at h hm; rcases h with h | ⟨x, h⟩; exact h; exact absurd h (hm x)
      have hne : ∀ p ∈ l, p.1 ≠ i := fun p hp he => hm (List.mem_map.2 ⟨p, hp, he⟩)
      subst hji
      rw [setObs_other hne, setObs_other hne, upd_same, upd_same]

theorem freeIds_congr {s s' : St} (hnp : s'.np = s.np) : ∀ {l : List (Nat × Ob)}, (∀ i, i ∈ l.map (·.1) → s'.ob i = s.ob i) → freeIds s' l = freeIds s l
  | [], _ => rfl
  | (i, o) :: l, h => by
    simp only [freeIds]
    rw [h i (by simp), hnp, freeIds_congr hnp fun j hj => h j (by simp at hj ⊢; exact .inr hj)]

/-- A step is the same in a frame that is alike where it looks and where it touches. -/
theorem stepN_alike {f : Fp} {s s1 s' : St} (h : stepN P an me cf ops o s = some (f, s1)) (hA : Alike s s' (o.looksAt ops) (f.rd ++ f.wr)) :
    ∃ s1', stepN P an me cf ops o s' = some (f, s1') ∧ s1'.n = s'.n ∧ s1'.np = s'.np ∧ s1.n = s.n ∧ s1.np = s.np ∧
      (∀ t, (some t = o.dst → s1'.sl t = s1.sl t) ∧ (some t ≠ o.dst → s1'.sl t = s'.sl t ∧ s1.sl t = s.sl t)) ∧
      (∀ i, (i ∈ f.wr → s1'.ob i = s1.ob i) ∧ (i ∉ f.wr → s1'.ob i = s'.ob i ∧ s1.ob i = s.ob i)) := by
  have hput : ∀ (x : St) (v : AV) (t : Nat), (some t = o.dst → (putS x o.dst v).sl t = v) ∧ (some t ≠ o.dst → (putS x o.dst v).sl t = x.sl t) := by
    intro x v t
    cases hd : o.dst with
    | none => exact ⟨(fun h => by cases h), fun _ => rfl⟩
    | some d =>
      refine ⟨(fun h => by cases h; exact upd_same ..), (fun h => upd_ne _ _ (fun e => h (by rw [e])))⟩
  have hg : ∀ {β : Type} (F F' : St → Option β), (∃ b : Bool, ∀ (x : St), (∀ t, t ∈ o.looksAt ops → x.sl t = s.sl t) → ∀ {γ : Type} (F F' : St → Option γ), guardK ops o x F F' = cond b (F x) (F' x)) ∨ guardK ops o s F F' = none := by
    intro β F F'
    cases hgd : o.guard with
    | none => exact .inl ⟨true, fun x _ γ F F' => by simp [guardK, hgd]⟩
    | some jw =>
      obtain ⟨j, want⟩ := jw
      cases ht : (ops[j]?).bind (·.dst) with
      | none => exact .inr (by simp [guardK, hgd, ht])
      | some t =>
        have hmem : t ∈ o.looksAt ops := by simp [Oper.looksAt, hgd, ht]
        cases hv : s.sl t with
        | undef => exact .inl ⟨false, fun x hx γ F F' => by simp [guardK, hgd, ht, hx t hmem, hv]⟩
        | pv p =>
          cases p with
          | bool b =>
            refine .inl ⟨b == want, fun x hx γ F F' => ?_⟩
            have hxv : x.sl t = .pv (.bool b) := by rw [hx t hmem, hv]
            simp only [guardK, hgd, ht, hxv, asBool]
            cases b <;> cases want <;> simp [refine_self hxv]
          | _ => exact .inr (by simp [guardK, hgd, ht, hv, asBool])
        | _ => exact .inr (by simp [guardK, hgd, ht, hv])
  unfold stepN stepM at h ⊢
  rcases hg (β := Fp × St) _ _ with ⟨b, hb⟩ | hb
  · rw [hb s (fun _ _ => rfl)] at h
    rw [hb s' (fun t ht => hA.sl t ht)]
    cases b with
    | false =>
      simp only [Bool.cond_false] at h ⊢
      replace h := cond_some h; obtain ⟨hd, h⟩ := h
      simp only [Option.some.injEq, Prod.mk.injEq] at h
      obtain ⟨rfl, rfl⟩ := h
      have hd' : okDst s' o.dst = true := by unfold okDst at hd ⊢; rw [hA.n]; exact hd
      refine ⟨putS s' o.dst .undef, by rw [hd']; rfl, putS_n .., putS_np .., putS_n .., putS_np .., fun t => ⟨fun ht => ?_, fun ht => ⟨(hput _ _ t).2 ht, (hput _ _ t).2 ht⟩⟩, fun i => ⟨fun hi => by simp at hi, fun _ => ⟨by rw [putS_ob], by rw [putS_ob]⟩⟩⟩
      rw [(hput _ _ t).1 ht, (hput _ _ t).1 ht]
    | true =>
      simp only [Bool.cond_true] at h ⊢
      obtain ⟨δ, hδ, h⟩ := act_some h
      obtain ⟨h1, h2, h3, h⟩ := applyD_some h
      simp only [Option.some.injEq, Prod.mk.injEq] at h
      obtain ⟨hf, rfl⟩ := h
      subst hf
      simp only at hA
      have hA1 : Alike s s' (o.looksAt ops) (needIds s.sl s.ob (o.looksAt ops)) := ⟨hA.n, hA.np, hA.sl, fun i hi => hA.ob i (List.mem_append_left _ hi)⟩
      have hn := need_eq hA1
      obtain ⟨hm1, hm2⟩ := mask_eq hA1
      have hw : ∀ i, i ∈ (δ.new ++ δ.set).map (·.1) → s'.ob i = s.ob i := fun i hi => hA.ob i (List.mem_append_right _ hi)
      have hd' : okDst s' o.dst = true := by unfold okDst at h1 ⊢; rw [hA.n]; exact h1
      have hfr : freeIds s' δ.new = true := by rw [freeIds_congr hA.np fun i hi => hw i (by rw [List.map_append]; exact List.mem_append_left _ hi)]; exact h2
      have hact' : act P an me cf o (maskS (o.looksAt ops) s'.sl) (maskO (needIds s'.sl s'.ob (o.looksAt ops)) s'.ob) some = some δ := by rw [hn, hm1, hm2]; exact hδ
      have hbind := act_bind (fun δ => applyD s' o.dst δ fun s'' => some ((⟨needIds s'.sl s'.ob (o.looksAt ops), (δ.new ++ δ.set).map (·.1)⟩ : Fp), s'')) P an me cf o (maskS (o.looksAt ops) s'.sl) (maskO (needIds s'.sl s'.ob (o.looksAt ops)) s'.ob) some
      simp only [Option.bind_some] at hbind
      rw [hact'] at hbind
      simp only [Option.bind_some] at hbind
      refine ⟨after s' o.dst δ, ?_, ?_⟩
      · rw [← hbind]
        unfold applyD
        rw [hd', hfr, h3, hn]
        rfl
      · have hob : ∀ x : St, (after x o.dst δ).ob = setObs x.ob (δ.set ++ δ.new) := fun x => by unfold after; rw [putS_ob]
        refine ⟨by unfold after; rw [putS_n], by unfold after; rw [putS_np], by unfold after; rw [putS_n], by unfold after; rw [putS_np], fun t => ⟨fun ht => ?_, fun ht => ⟨(hput _ _ t).2 ht, (hput _ _ t).2 ht⟩⟩, fun i => ⟨fun hi => ?_, fun hi => ?_⟩⟩
        · unfold after; rw [(hput _ _ t).1 ht, (hput _ _ t).1 ht]
        · rw [hob, hob]
          exact setObs_ids (by simp only [List.map_append, List.mem_append] at hi ⊢; exact hi.symm)
        · have hne : ∀ p ∈ δ.set ++ δ.new, p.1 ≠ i := fun p hp he => hi (List.mem_map.2 ⟨p, by simp only [List.mem_append] at hp ⊢; exact hp.symm, he⟩)
          rw [hob, hob, setObs_other hne, setObs_other hne]
          exact ⟨rfl, rfl⟩
  · rw [hb] at h; cases h
end
end Go.Proofs.Sx
