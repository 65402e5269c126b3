/- The interpreter is right: what it tells of a call holds. -/
import Derived.Test.YtoeplmfcjonkgaaGreatSxCall
set_option linter.unusedVariables false
set_option linter.unusedSimpArgs false
namespace Go.Proofs.Sx
open Go
section
variable {P : Program} {C : Ctx} {G : Gh} {s : St} {a : Act} {w : World} {sl : Nat → AV} {ob : Nat → Option Ob} {o : Oper} {δ : Delta}
variable {an : An} {me : FuncId} {cf : FuncId → List PA → Option Ret}

theorem act_ok (hcf : ∀ f args r, cf f args = some r → Spec P f args r) : ActOK P an me cf := by
  intro C G s a w sl ob o δ R V h
  cases ho : o.op with
  | move x => simp only [act, ho, forceAV_eq, Option.some.injEq] at h; subst h; exact op_move R V (.inl ho)
  | assign x => simp only [act, ho, forceAV_eq, Option.some.injEq] at h; subst h; exact op_move R V (.inr ho)
  | pick c x y => exact op_pick R V ho (by simpa only [act, ho] using h)
  | alloc t => exact op_alloc R V ho h
  | box t x => exact op_box R V ho h
  | build t ps => exact op_build R V ho h
  | buildSlice t l ps => exact op_buildSlice R V ho h
  | load t x => exact op_load R V ho h
  | store t x y => exact op_store R V ho h
  | nilCheck x => exact op_nil R V ho h
  | binOp op t x y yt => exact op_bin R V ho (by simpa only [act, ho] using h)
  | unOp op t x => exact op_un R V ho h
  | convert t t' x => exact op_convert R V ho h
  | makeFunc f fi ca => cases f with
    | func f => exact op_makeFunc R V ho h
    | _ => simp only [act, ho, forceAV_eq, forceL_eq] at h; cases h
  | makeSlice t x y => exact op_makeSlice R V ho h
  | slice t x lo hi mx => exact op_slice R V ho h
  | fieldAddr t x f => exact op_fieldAddr R V ho h
  | field t x f => exact op_field R V ho h
  | indexAddr t x i => exact op_indexAddr R V ho h
  | index t x i => exact op_index R V ho h
  | extract x i => exact op_extract R V ho h
  | call c =>
    cases hc : c.callee with
    | value fo => exact op_call hcf R V hc ho h
    | invoke r n => simp only [act, ho, hc, forceAV_eq, forceL_eq] at h; cases h
    | builtin b => cases b with
      | len => exact op_len R V hc ho h
      | append => exact op_append R V hc ho h
      | min => exact op_minmax R V (.inl rfl) hc ho h
      | max => exact op_minmax R V (.inr rfl) hc ho h
      | _ => simp only [act, ho, hc, forceAV_eq, forceL_eq] at h; cases h
  | _ => simp only [act, ho, forceAV_eq, forceL_eq] at h; cases h

/-! ### A frame's start -/
theorem Spare.row {b : Nat} (h : Spare C G s w b) {id g : Nat} {e : TypeId} {xs : List PV} {v : Value} (hne : v.ownBlock ≠ some b) :
    Spare C { G with sg := upd G.sg id v } { s with ob := upd s.ob id (some (.row g e xs false)) } w b := by
  refine ⟨h.lt, h.mine, h.nok, fun j => ?_⟩
  by_cases hj : j = id
  · subst hj
    simp only [upd_same, blk]; exact hne
  · have := h.free j
    simp only [upd_ne _ _ hj]
    cases ho : s.ob j with
    | none => simp [blk]
    | some o => rw [ho] at this; cases o <;> simp_all [blk, upd_ne]
theorem Spare.box {b : Nat} (h : Spare C G s w b) {id b' : Nat} {cs : List AV} (hne : b' ≠ b) :
    Spare C { G with gb := upd G.gb id b' } { s with ob := upd s.ob id (some (.box cs)) } w b := by
  refine ⟨h.lt, h.mine, h.nok, fun j => ?_⟩
  by_cases hj : j = id
  · subst hj
    simp only [upd_same, blk]; simpa using hne
  · have := h.free j
    simp only [upd_ne _ _ hj]
    cases ho : s.ob j with
    | none => simp [blk]
    | some o => rw [ho] at this; cases o <;> simp_all [blk, upd_ne]

def entPl (i : Nat) : Nat → List CV → List (Option (Nat × Nat))
  | _, [] => []
  | j, _ :: cs => some (cellId i j, 0) :: entPl i (j + 1) cs
theorem ent_place (i : Nat) : ∀ (cs : List CV) (j : Nat), entCells i j cs = placeAVs cs (entPl i j cs) ∧ entRows i j cs = placeObs cs (entPl i j cs) ∧ (entPl i j cs).length = cs.length
  | [], j => ⟨rfl, rfl, rfl⟩
  | .v p :: cs, j => by
    obtain ⟨h1, h2, h3⟩ := ent_place i cs (j + 1)
    exact ⟨by simp [entCells, entPl, placeAVs, placeAV, h1], by simp [entRows, entPl, placeObs, placeOb, h2], by simp [entPl, h3]⟩
  | .own e xs :: cs, j => by
    obtain ⟨h1, h2, h3⟩ := ent_place i cs (j + 1)
    exact ⟨by simp [entCells, entPl, placeAVs, placeAV, h1], by simp [entRows, entPl, placeObs, placeOb, h2], by simp [entPl, h3]⟩

def entAV (i : Nat) : PA → AV
  | .v p => .pv p
  | .own _ _ => .row i 0
  | .lent _ => .ref i 0

theorem ents_sound {ok : Nat → Prop} : ∀ {as : List PA} {vals : List Value} {bs : List Nat}, PAsRel P ok w as vals bs → ∀ {i : Nat} {G : Gh} {s : St}, RelG P C G s a w → G.ok = ok → bs.Nodup → (∀ b ∈ bs, Spare C G s w b) →
    ((entO i as).map (·.1)).Nodup → (∀ k o, (k, o) ∈ entO i as → s.ob k = none) →
    (∀ (j : Nat) c v, as[j]? = some (.lent c) → vals[j]? = some v → ∀ b, C.lent (i + j) = some b → v = .pointer (some ⟨b, 0, none⟩)) →
    ∃ G', RelG P C G' { s with ob := setObs s.ob (entO i as) } a w ∧ Later G G' s.ob (setObs s.ob (entO i as)) ∧ G'.ok = ok ∧
      ∀ (j : Nat) x v, as[j]? = some x → vals[j]? = some v → RelAV P G' (setObs s.ob (entO i as)) w (entAV (i + j) x) v
  | [], _, _, .nil, i, G, s, R, hok, hnd, hsp, hids, hfr, hle => ⟨G, R, Later.refl _ _, hok, fun j x v hx => by simp at hx⟩
  | x :: as, v :: vals, _, .cons (bs := b1) (bs' := b2) h t, i, G, s, R, hok, hnd, hsp, hids, hfr, hle => by
    rw [List.nodup_append] at hnd
    have hle' : ∀ (j : Nat) c v, as[j]? = some (.lent c) → vals[j]? = some v → ∀ b, C.lent (i + 1 + j) = some b → v = .pointer (some ⟨b, 0, none⟩) := fun j c v h1 h2 b hb =>
      hle (j + 1) c v (by simpa using h1) (by simpa using h2) b (by rw [← hb]; congr 1; omega)
    have fin : ∀ {G1 : Gh} {ob1 : Nat → Option Ob}, Later G G1 s.ob ob1 → G1.ok = ok → RelG P C G1 { s with ob := ob1 } a w → (∀ b ∈ b2, Spare C G1 { s with ob := ob1 } w b) →
        ((entO (i + 1) as).map (·.1)).Nodup → (∀ k o, (k, o) ∈ entO (i + 1) as → ob1 k = none) → (hv : RelAV P G1 ob1 w (entAV i x) v) →
        ∃ G', RelG P C G' { s with ob := setObs ob1 (entO (i + 1) as) } a w ∧ Later G G' s.ob (setObs ob1 (entO (i + 1) as)) ∧ G'.ok = ok ∧
          ∀ (j : Nat) x' v', (x :: as)[j]? = some x' → (v :: vals)[j]? = some v' → RelAV P G' (setObs ob1 (entO (i + 1) as)) w (entAV (i + j) x') v' := by
      intro G1 ob1 L1 hok1 R1 hsp1 hids1 hfr1 hv
      obtain ⟨G2, R2, L2, hok2, hv2⟩ := ents_sound t (i := i + 1) R1 hok1 hnd.2.1 hsp1 hids1 hfr1 hle'
      refine ⟨G2, R2, L1.trans L2, hok2, fun j x' v' hx hv' => ?_⟩
      cases j with
      | zero =>
        simp at hx hv'; subst hx hv'
        exact RelAV.later (G := G1) (G' := G2) (w := w) (w' := w) (fun b hb => by rw [hok2, ← hok1]; exact hb) (fun _ _ _ => rfl) L2 hv
      | succ j =>
        have := hv2 j x' v' (by simpa using hx) (by simpa using hv')
        rw [show i + (j + 1) = i + 1 + j by omega]; exact this
    cases h with
    | v p _ h => exact fin (Later.refl _ _) hok R (fun b hb => hsp b (List.mem_append_right _ hb)) hids hfr (.pv _ _ (hok ▸ h))
    | own e xs _ h =>
      simp only [entO, List.map_cons, List.nodup_cons] at hids hfr ⊢
      obtain ⟨R1, L1⟩ := R.adopt (id := i) (g := 0) (.inl (hfr i _ (List.mem_cons_self ..))) (hok ▸ h) fun b hb => hsp b (List.mem_append_left _ (by simp [hb]))
      refine fin L1 hok R1 (fun b hb => (hsp b (List.mem_append_right _ hb)).row fun hx => hnd.2.2 b (by simp [hx]) b hb rfl) hids.2 (fun k o hm => ?_) ?_
      · have hne : k ≠ i := by rintro rfl; exact hids.1 (List.mem_map.2 ⟨_, hm, rfl⟩)
        rw [upd_ne _ _ hne]; exact hfr k o (List.mem_cons_of_mem _ hm)
      · refine .row _ _ _ (own_slice h) (by simp [upd_same]) (fun g' _ => Nat.zero_le _) fun e' xs' fr' hx => ?_
        simp [upd_same]
    | lent cs b T us bs1 hh hcv h1 =>
      obtain ⟨he1, he2, he3⟩ := ent_place i cs 0
      have hO : entO i (.lent cs :: as) = placeObs cs (entPl i 0 cs) ++ ((i, .box (entCells i 0 cs)) :: entO (i + 1) as) := by simp [entO, he2]
      rw [hO] at hids hfr ⊢
      rw [List.map_append, List.map_cons] at hids
      have hn := List.nodup_append.1 hids
      have hnd1 := List.nodup_cons.1 hnd.1
      obtain ⟨sg1, R1, L1, hv1, hs1⟩ := place_sound hcv he3 R hok hnd1.2 (fun b' hb' => hsp b' (by simp [hb'])) hn.1 fun k o hm => .inl (hfr k o (List.mem_append_left _ hm))
      have hik : i ∉ (placeObs cs (entPl i 0 cs)).map (·.1) := fun hm => hn.2.2 i hm i (by simp) rfl
      have hi : setObs s.ob (placeObs cs (entPl i 0 cs)) i = none := by rw [setObs_keys hik]; exact hfr i _ (List.mem_append_right _ List.mem_cons_self)
      obtain ⟨R2, L2⟩ := R1.adoptBox (id := i) (cs := entCells i 0 cs) (b := b) hi (hs1 b (hsp b (by simp)) hnd1.1) hh (by rw [he1, placeAVs_length he3]; exact hcv.length) (by rw [he1]; exact hv1) h1
        fun b' hb' => by
          have := hle 0 cs _ rfl rfl b' hb'
          simp only [Value.pointer.injEq, Option.some.injEq, Addr.mk.injEq] at this
          exact this.1.symm
      rw [setObs_append]
      refine fin (L1.trans L2) hok R2 (fun b' hb' => (hs1 b' (hsp b' (List.mem_append_right _ hb')) fun hm => hnd.2.2 b' (by simp [hm]) b' hb' rfl).box fun he => hnd.2.2 b (by simp) b' hb' he)
        (List.nodup_cons.1 hn.2.1).2 (fun k o hm => ?_) ?_
      · have hkm : k ∈ (entO (i + 1) as).map (·.1) := List.mem_map.2 ⟨_, hm, rfl⟩
        have hne : k ≠ i := by rintro rfl; exact (List.nodup_cons.1 hn.2.1).1 hkm
        show upd _ _ _ k = none
        rw [upd_ne _ _ hne]
        show setObs s.ob _ k = none
        rw [setObs_keys fun hm' => hn.2.2 k hm' k (by simp [hkm]) rfl]
        exact hfr k o (List.mem_append_right _ (List.mem_cons_of_mem _ hm))
      · refine .ref _ _ _ rfl (by simp [upd_same]) fun cs' _ => ?_
        simp [upd_same]

theorem lkU_ent : ∀ (as : List PA) (i t : Nat), lkU (entS i as) t = (if i ≤ t then match as[t - i]? with | some x => entAV t x | none => .undef else .undef)
  | [], i, t => by simp [entS, lkU]
  | x :: as, i, t => by
    have ih := lkU_ent as (i + 1) t
    have hE : lkU (entS i (x :: as)) t = cond (Nat.beq t i) (entAV i x) (lkU (entS (i + 1) as) t) := by cases x <;> rfl
    rw [hE, ih]
    by_cases h : t = i
    · subst h; simp
    · have : Nat.beq t i = false := by
        cases hb : Nat.beq t i
        · rfl
        · exact absurd (Nat.eq_of_beq_eq_true hb) h
      rw [this]
      simp only [cond]
      by_cases h1 : i ≤ t
      · have h2 : i + 1 ≤ t := by omega
        rw [if_pos h1, if_pos h2, show t - i = (t - (i + 1)) + 1 by omega, List.getElem?_cons_succ]
      · rw [if_neg h1, if_neg (by omega)]

def lentAt (as : List PA) (vals : List Value) (i : Nat) : Option Nat :=
  match as[i]?, vals[i]? with
  | some (.lent _), some (.pointer (some a)) => some a.block
  | _, _ => none

theorem lkO_setObs : ∀ (l : List (Nat × Ob)), (l.map (·.1)).Nodup → lkO l = setObs (fun _ => none) l
  | [], _ => rfl
  | (i, o) :: l, h => by
    rw [List.map_cons, List.nodup_cons] at h
    funext t
    have ih := congrFun (lkO_setObs l h.2) t
    show cond (Nat.beq t i) (some o) (lkO l t) = setObs (upd (fun _ => none) i (some o)) l t
    by_cases ht : t = i
    · subst ht
      rw [setObs_keys h.1, upd_same]; simp
    · have : Nat.beq t i = false := by
        cases hb : Nat.beq t i
        · rfl
        · exact absurd (Nat.eq_of_beq_eq_true hb) ht
      rw [this]
      simp only [cond, ih]
      by_cases hm : t ∈ l.map (·.1)
      · exact setObs_ids hm
      · rw [setObs_keys hm, setObs_keys hm, upd_ne _ _ ht]

theorem pas_get {ok : Nat → Prop} : ∀ {as : List PA} {vals : List Value} {bs : List Nat}, PAsRel P ok w as vals bs → ∀ (j : Nat) x v, as[j]? = some x → vals[j]? = some v → ∃ b, PARel P ok w x v b
  | _ :: _, _ :: _, _, .cons h t, j, x, v, hx, hv => by
    cases j with
    | zero => simp at hx hv; subst hx hv; exact ⟨_, h⟩
    | succ j => exact pas_get t j x v (by simpa using hx) (by simpa using hv)
  | [], [], _, .nil, j, x, v, hx, _ => by simp at hx

theorem entry_sound {ok : Nat → Prop} {args : List PA} {vals : List Value} {bs : List Nat} (h : Pre P ok w args vals bs) {fn : Func} (hids : nodupN ((entO 0 args).map (·.1)) = true) :
    Rel P ⟨w, ok, (· ∈ bs), lentAt args vals⟩ (ent0 fn args) { tmps := vals.toArray ++ Array.replicate (fn.ntmps - vals.toArray.size) undef, defers := [] } w := by
  have hn := nodupN_true hids
  have hlen := h.rel.length
  let a0 : Act := { tmps := vals.toArray ++ Array.replicate (fn.ntmps - vals.toArray.size) undef, defers := [] }
  let s0 : St := { n := max args.length fn.ntmps, np := args.length, sl := fun _ => .gone, ob := fun _ => none }
  have R0 : RelG P ⟨w, ok, (· ∈ bs), lentAt args vals⟩ ⟨fun _ => 0, fun _ => undef, ok⟩ s0 a0 w := by
    refine ⟨?_, rfl, fun t => .gone _, fun i o ho => (by cases ho), fun i j b hb => (by cases hb), fun i b hb => (by cases hb), fun i b hb => (by cases hb), fun b hb => hb, fun b hb => .inl hb, h.okS, fun i b hb => ?_, Same.refl w _⟩
    · simp [a0, s0]; omega
    · refine ⟨?_, fun cs hcs => by cases hcs⟩
      simp only [lentAt] at hb
      split at hb
      · rename_i ha _; exact (List.getElem?_eq_some_iff.1 ha).1
      · cases hb
  obtain ⟨G, R1, _, hok, hv⟩ := ents_sound (i := 0) h.rel R0 rfl h.nd (fun b hb => ⟨h.lt b hb, .inr hb, h.nok b hb, fun j hj => by cases hj⟩) hn (fun k o _ => rfl) fun j c v hx hv b hb => by
    obtain ⟨bb, hp⟩ := pas_get h.rel j _ v hx hv
    cases hp with
    | lent _ b' T us bs1 hh hcv h1 =>
      simp [lentAt, hx, hv] at hb
      rw [hb]
  have hob : (ent0 fn args).ob = setObs s0.ob (entO 0 args) := lkO_setObs _ hn
  refine ⟨G, ⟨R1.tsz, R1.dfr, fun t => ?_, ?_, ?_, ?_, ?_, R1.ok0, R1.okN, R1.okS, ?_, R1.same⟩⟩
  · rw [hob]
    show RelAV P G _ w (lkU (entS 0 args) t) (a0.tmps.getD t Go.undef)
    rw [lkU_ent, if_pos (Nat.zero_le _), Nat.sub_zero]
    cases hx : args[t]? with
    | none =>
      have h1 : vals.length ≤ t := by rw [hlen]; exact List.getElem?_eq_none_iff.1 hx
      have : a0.tmps.getD t Go.undef = Go.undef := by
        simp only [a0, Array.getD_eq_getD_getElem?]
        rw [Array.getElem?_append_right (by simpa using h1)]
        simp only [List.size_toArray, Array.getElem?_replicate]
        split <;> rfl
      rw [this]; exact .undef
    | some x =>
      have hlt : t < vals.length := by rw [hlen]; exact (List.getElem?_eq_some_iff.1 hx).1
      have : a0.tmps.getD t Go.undef = vals[t] := by
        simp only [a0, Array.getD_eq_getD_getElem?]
        rw [Array.getElem?_append_left (by simpa using hlt)]
        simp [hlt]
      rw [this]
      have := hv t x vals[t] hx (List.getElem?_eq_getElem hlt)
      rwa [Nat.zero_add] at this
  all_goals rw [hob]
  · exact R1.ob
  · exact R1.inj
  · exact R1.own
  · exact R1.apart
  · exact R1.lent

/-! ### A frame's end -/
def resOne (tmps : Array Value) : ResultVar → Sem Value
  | .tmp t => pure (tmps.getD t undef)
  | .cell a t => do loadVar t (← asAddr (tmps.getD a undef))
theorem results_eq (fn : Func) (tmps : Array Value) : results fn tmps = (do
    let vs ← fn.results.mapM (resOne tmps)
    pure (if h : vs.size = 1 then vs[0] else .tuple vs)) := rfl
theorem resVals_some (R : RelG P C G s a w) {α : Type} {r : α} : ∀ {rs : List ResultVar} {K : List (AV × TypeId) → Option α}, resVals P s.sl s.ob rs K = some r →
    ∃ (as : List (AV × TypeId)) (vs : List Value), K as = some r ∧ vs.length = as.length ∧ (∀ (j : Nat) x v, as[j]? = some x → vs[j]? = some v → RelAV P G s.ob w x.1 v) ∧
      (rs.mapM (resOne a.tmps)).run P w = .ok vs w
  | [], K, h => ⟨[], [], h, rfl, fun j x v hx => by simp at hx, by simp⟩
  | .tmp t :: rs, K, h => by
    simp only [resVals] at h
    obtain ⟨as, vs, h, hl, hv, hr⟩ := resVals_some R h
    refine ⟨_, a.tmps.getD t undef :: vs, h, by simp [hl], fun j x v hx hv' => ?_, ?_⟩
    · cases j with
      | zero => simp only [List.getElem?_cons_zero, Option.some.injEq] at hx hv'; subst hx hv'; exact R.sl t
      | succ j => exact hv j x v (by simpa using hx) (by simpa using hv')
    · simp only [List.mapM_cons, resOne, Sem.run_bind, Sem.run_pure, Result.andThen_ok, hr]
  | .cell t ty :: rs, K, h => by
    simp only [resVals] at h
    have hx := R.sl t
    split at h
    · rename_i id off hv
      rw [hv] at hx
      split at h
      · rename_i cs hc
        obtain ⟨T, us, hh, hl, hr, h1⟩ := R.ob id _ hc
        obtain ⟨a', v, h, hok, hav, hv1, hv2⟩ := run_part (G := G) (ob := s.ob) hl hr h1 h
        obtain ⟨as, vs, h, hl', hvs, hrs⟩ := resVals_some R h
        generalize hev : a.tmps.getD t undef = ev at hx
        cases hx with
        | ref _ _ _ _ h0 hr' =>
          have := hr' cs hc
          subst this
          have hrun := run_loadVar (P := P) (w := w) (b := G.gb id) (o := 0) hok (us := us) (fun j u hu => by rw [Nat.zero_add, cell_of_row w _ j _ _ _ hh]; simpa using hu) hv1 hv2
          rw [Nat.zero_add] at hrun
          refine ⟨_, v :: vs, h, by simp [hl'], fun j x v' hx hv' => ?_, ?_⟩
          · cases j with
            | zero => simp only [List.getElem?_cons_zero, Option.some.injEq] at hx hv'; subst hx hv'; exact hav
            | succ j => exact hvs j x v' (by simpa using hx) (by simpa using hv')
          · simp only [List.mapM_cons, resOne, Sem.run_bind, hev, asAddr, Sem.run_pure, Result.andThen_ok, hrun, hrs]
      · cases h
    · cases h

theorem results_pack {fn : Func} {tmps : Array Value} {vs : List Value}
    (h : (fn.results.toList.mapM (resOne tmps)).run P w = .ok vs w) : (results fn tmps).run P w = .ok (pack vs) w := by
  rw [results_eq, Array.mapM_eq_mapM_toList]
  simp only [map_eq_pure_bind, Sem.run_bind, h, Result.andThen_ok, Sem.run_pure]
  congr 1
  match vs with
  | [] => rfl
  | [v] => rfl
  | u :: v :: vs => simp [pack]

theorem cvsOf_some : ∀ {l : List PA} {cs : List CV}, cvsOf l = some cs → l = cs.map paOf
  | [], cs, h => by cases h; rfl
  | .v p :: l, cs, h => by
    simp only [cvsOf] at h
    split at h
    · rename_i cs' hc; cases h; simp [cvsOf_some hc, paOf]
    · cases h
  | .own e xs :: l, cs, h => by
    simp only [cvsOf] at h
    split at h
    · rename_i cs' hc; cases h; simp [cvsOf_some hc, paOf]
    · cases h
  | .lent _ :: _, cs, h => by cases h
theorem lentsOf_some : ∀ {l : List PA} {cs : List (List CV)}, lentsOf l = some cs → l = cs.map .lent
  | [], cs, h => by cases h; rfl
  | .lent c :: l, cs, h => by
    simp only [lentsOf] at h
    split at h
    · rename_i cs' hc; cases h; simp [lentsOf_some hc]
    · cases h
  | .v _ :: _, cs, h => by cases h
  | .own _ _ :: _, cs, h => by cases h

theorem lentParams_get {ps : Array TypeId} : ∀ {as : List PA} {vals : List Value} {i : Nat}, vals.length = as.length → (lentVals as vals).length = (lentParams ps i as).length ∧
    ∀ (m : Nat) x v, (lentParams ps i as)[m]? = some x → (lentVals as vals)[m]? = some v → ∃ j c t, as[j]? = some (.lent c) ∧ vals[j]? = some v ∧ x = (.ref (i + j) 0, t)
  | [], [], i, _ => ⟨rfl, fun m x v h => by simp [lentParams] at h⟩
  | a :: as, v :: vals, i, hl => by
    obtain ⟨h1, h2⟩ := lentParams_get (ps := ps) (as := as) (vals := vals) (i := i + 1) (by simpa using hl)
    have hstep : ∀ (m : Nat) x v', (lentParams ps (i + 1) as)[m]? = some x → (lentVals as vals)[m]? = some v' → ∃ j c t, (a :: as)[j]? = some (.lent c) ∧ (v :: vals)[j]? = some v' ∧ x = (.ref (i + j) 0, t) := fun m x v' hx hv => by
      obtain ⟨j, c, t, h3, h4, h5⟩ := h2 m x v' hx hv
      exact ⟨j + 1, c, t, by simpa using h3, by simpa using h4, by rw [h5, show i + 1 + j = i + (j + 1) by omega]⟩
    cases a with
    | v p => exact ⟨h1, hstep⟩
    | own e xs => exact ⟨h1, hstep⟩
    | lent c =>
      refine ⟨by simp [lentVals, lentParams, h1], fun m x v' hx hv => ?_⟩
      cases m with
      | zero =>
        simp [lentParams, lentVals] at hx hv
        exact ⟨0, c, _, rfl, by simpa using hv, hx.symm⟩
      | succ m => exact hstep m x v' (by simpa [lentParams] using hx) (by simpa [lentVals] using hv)
  | [], _ :: _, _, hl => by simp at hl
  | _ :: _, [], _, hl => by simp at hl

theorem exit_sound {w0 : World} {ok : Nat → Prop} {args : List PA} {vals : List Value} {bs : List Nat} {f : FuncId} {fn : Func} {r : Ret} (hargs : PAsRel P ok w0 args vals bs)
    (R : Rel P ⟨w0, ok, (· ∈ bs), lentAt args vals⟩ s a w) (h : mkRet P an f fn.results.toList (lentParams fn.params 0 args) s = some r) :
    ∃ u, (results fn a.tmps).run P w = .ok u w ∧ ∃ vs ok' bs', Post P ok w0 bs (lentVals args vals) r u w vs ok' bs' := by
  obtain ⟨G, R⟩ := R
  unfold mkRet at h
  obtain ⟨as, vs, h, hl, hv, hr⟩ := resVals_some R h
  obtain ⟨ps, fs, ls, h, hex, hpl, hls, hlb, hbx, hps⟩ := argsK_some R (View.self s) h
  replace h := cond_some h; obtain ⟨hokx, h⟩ := h
  split at h
  · rename_i cs ls' hcs hls'
    simp only [Option.some.injEq] at h; subst h
    have e1 := cvsOf_some hcs
    have e2 := lentsOf_some hls'
    obtain ⟨hlp, hlg⟩ := lentParams_get (ps := fn.params) (as := args) (vals := vals) (i := 0) hargs.length
    have hall : ∀ (j : Nat) (x : AV × TypeId) (v : Value), (as ++ lentParams fn.params 0 args)[j]? = some x → (vs ++ lentVals args vals)[j]? = some v → RelAV P G s.ob w x.1 v := by
      intro j x v hx hv'
      by_cases hj : j < as.length
      · rw [List.getElem?_append_left hj] at hx
        rw [List.getElem?_append_left (by omega)] at hv'
        exact hv j x v hx hv'
      · have hxx := hx
        rw [List.getElem?_append_right (by omega)] at hx
        rw [List.getElem?_append_right (by omega), hl] at hv'
        obtain ⟨m, c, t, h1, h2, rfl⟩ := hlg _ x v hx hv'
        obtain ⟨cs', hc'⟩ := hbx j _ t hxx
        obtain ⟨bb, hp⟩ := pas_get hargs m _ v h1 h2
        cases hp with
        | lent _ b T us bs1 hh hcv h1' =>
          refine .ref _ _ _ rfl (by rw [hc']; rfl) fun cs'' hcs'' => ?_
          have : lentAt args vals (0 + m) = some b := by simp [lentAt, h1, h2]
          rw [(R.lent _ b this).2 _ hcs'']
    obtain ⟨hlv, hps⟩ := hps (vs ++ lentVals args vals) (by simp [hl, hlp]) hall
    have hpre := hps (okFrz G s fs) fun b hb => hb
    obtain ⟨hbn, hbs⟩ := ex_out R hex hokx
    have hlen1 : vs.length = cs.length := by
      have : (ps.take as.length).length = as.length := by simp [hpl]
      rw [e1] at this
      simp at this
      omega
    refine ⟨pack vs, results_pack hr, vs, okFrz G s fs, exBs G s fs, rfl, ⟨?_, hbn, fun b hb => (hbs b hb).1, fun b hb => (hbs b hb).2.1, fun b hb => okFrz_S R hb⟩, hlen1, fun b hb => .inl (R.ok0 b hb), fun b hb => ?_, fun b hb => (hbs b hb).2.2, R.same⟩
    · have : ps = retPAs ⟨cs, ls'⟩ := by rw [← List.take_append_drop as.length ps, e1, e2]; rfl
      rw [← this]; exact hpre
    · rcases hb with hb | ⟨i, o, _, _, hb⟩
      · exact R.okN b hb
      · exact .inr (R.own _ _ hb).2
  · cases h

/-! ### All functions -/
theorem run_enter {f : FuncId} {fn : Func} {c : Code} (hf : P.funcs[f]? = some fn) (hname : (fn.name == "runtime.NumGoroutine") = false) (hb : fn.body = some c) (args : Array Value) (w : World) :
    (callFunc f args).run P w = .ok (.enter f args) w := by
  have h1 : fn.name ≠ "runtime.NumGoroutine" := by simpa using hname
  simp [callFunc, hf, h1, hb]

theorem goes_of_calls {f : FuncId} {fn : Func} {c : Code} (hf : P.funcs[f]? = some fn) (hname : (fn.name == "runtime.NumGoroutine") = false) (hb : fn.body = some c) {args : Array Value} {w : World} {K : Value → World → Prop}
    (h : Calls P f args w fun | .returned v, w' => K v w' | _, _ => False) : Goes P f args w K := by
  unfold Goes
  rw [run_enter hf hname hb]
  exact Calls.mono h fun e w' h => by cases e <;> exact h
theorem calls_of_goes {f : FuncId} {fn : Func} {c : Code} (hf : P.funcs[f]? = some fn) (hname : (fn.name == "runtime.NumGoroutine") = false) (hb : fn.body = some c) {args : Array Value} {w : World} {K : Value → World → Prop}
    (h : Goes P f args w K) : Calls P f args w fun | .returned v, w' => K v w' | _, _ => False := by
  unfold Goes at h
  rw [run_enter hf hname hb] at h
  exact Calls.mono h fun e w' h => by cases e <;> exact h

/-- WHAT THE INTERPRETER TELLS HOLDS. -/
theorem sem_sound (hN : ∀ (f : FuncId) (fn : Func), P.funcs[f]? = some fn → (fn.name == "runtime.NumGoroutine") = false) (hsum : ∀ f h args r, an.sum f = some h → h args = some r → Spec P f args r) :
    ∀ (n : Nat) (f : FuncId) (args : List PA) (r : Ret), sem P an n f args = some r → Spec P f args r := by
  intro n
  induction n with
  | zero => intro f args r h; cases h
  | succ n ih =>
    intro f args r h
    simp only [sem] at h
    split at h
    · rename_i g hg; exact hsum f g args r hg h
    · split at h
      · rename_i fn hfn
        split at h
        · rename_i c hc
          replace h := cond_some h; obtain ⟨hids, h⟩ := h
          intro w ok vals bs hpre
          refine goes_of_calls hfn (hN f fn hfn) hc (calls_of_wp hfn hc ?_)
          refine exec_sound (act_ok ih) n c _ _ _ _ _ h (entry_sound hpre hids) fun e s' a' w' hR hk => ?_
          have key : mkRet P an f fn.results.toList (lentParams fn.params 0 args) s' = some r → a'.defers = [] ∧ ∃ v, (results fn a'.tmps).run P w' = .ok v w' ∧ ∃ vs ok' bs', Post P ok w bs (lentVals args vals) r v w' vs ok' bs' := fun hk =>
            ⟨by obtain ⟨G, R⟩ := hR; exact R.dfr, exit_sound hpre.rel hR hk⟩
          cases e with
          | normal => exact key hk
          | ret => exact key hk
          | exit i => cases hk
        · cases h
      · cases h
end
end Go.Proofs.Sx
