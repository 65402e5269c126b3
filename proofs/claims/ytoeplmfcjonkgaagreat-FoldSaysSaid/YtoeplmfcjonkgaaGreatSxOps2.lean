/- The interpreter's operations do what the model's do: the others that only read. -/
import Derived.Test.YtoeplmfcjonkgaaGreatSxMem
set_option linter.unusedVariables false
set_option linter.unusedSimpArgs false
namespace Go.Proofs.Sx
open Go
section
variable {P : Program} {C : Ctx} {G : Gh} {s : St} {a : Act} {w : World} {sl : Nat → AV} {ob : Nat → Option Ob} {o : Oper} {δ : Delta}
variable {an : An} {me : FuncId} {cf : FuncId → List PA → Option Ret}

theorem intT_under {t : TypeId} {k : IntKind} (h : intT P t = some k) : P.underlying t = some (.int k) := by
  unfold intT at h; split at h
  · rename_i k' hk; cases h; exact hk
  · cases h
theorem strT_under {t : TypeId} (h : strT P t = true) : P.underlying t = some .string := by
  unfold strT at h; split at h
  · assumption
  · cases h
theorem sliceT_under {t e : TypeId} (h : sliceT P t = some e) : P.underlying t = some (.slice e) := by
  unfold sliceT at h; split at h
  · rename_i k' hk; cases h; exact hk
  · cases h

theorem op_un (R : RelG P C G s a w) (V : View s sl ob) {op : UnOp} {t : TypeId} {x : Operand} (ho : o.op = .unOp op t x)
    (h : act P an me cf o sl ob some = some δ) : OpGoal P C s a w o δ := by
  have hx := opd_rel R V t x
  simp only [act, ho, forceAV_eq, forceL_eq] at h
  split at h
  · rename_i p hp
    rw [hp] at hx
    replace h := asBool_some h; obtain ⟨b, rfl, h⟩ := h
    have ex := rel_bool hx
    simp only [Option.some.injEq] at h; subst h
    exact goal_pure R (by simp [execOp, ho, ex, Op.unary]) (.pv _ _ (.bool _))
  · rename_i p hp
    rw [hp] at hx
    split at h
    · rename_i k _
      replace h := asInt_some h; obtain ⟨n, rfl, h⟩ := h
      have ex := rel_int hx
      simp only [Option.some.injEq] at h; subst h
      exact goal_pure R (by simp [execOp, ho, ex, Op.unary, Op.intArith]) (.pv _ _ (.int _ _))
    · cases h
  · cases h

theorem op_convert (R : RelG P C G s a w) (V : View s sl ob) {t t' : TypeId} {x : Operand} (ho : o.op = .convert t t' x)
    (h : act P an me cf o sl ob some = some δ) : OpGoal P C s a w o δ := by
  have hx := opd_rel R V t x
  simp only [act, ho, forceAV_eq, forceL_eq] at h
  split at h
  · rename_i k k' hk hk'
    replace h := avInt_some h; obtain ⟨n, hn, h⟩ := h
    rw [hn] at hx
    have ex := rel_int hx
    simp only [Option.some.injEq] at h; subst h
    exact goal_pure R (by simp [execOp, ho, ex, convert, run_underlying (intT_under hk), run_underlying (intT_under hk'), Conv.intToInt]) (.pv _ _ (.int _ _))
  · replace h := cond_some h; obtain ⟨hb, h⟩ := h
    simp only [Bool.and_eq_true] at hb
    split at h
    · rename_i p hp
      rw [hp] at hx
      replace h := asStr_some h; obtain ⟨n, rfl, h⟩ := h
      have ex := rel_str hx
      simp only [Option.some.injEq] at h; subst h
      exact goal_pure R (by simp [execOp, ho, ex, convert, run_underlying (strT_under hb.1), run_underlying (strT_under hb.2)]) (.pv _ _ (.str _))
    · cases h

theorem op_extract (R : RelG P C G s a w) (V : View s sl ob) {i : Nat} {x : Operand} (ho : o.op = .extract x i)
    (h : act P an me cf o sl ob some = some δ) : OpGoal P C s a w o δ := by
  have hx := opd_rel R V 0 x
  simp only [act, ho, forceAV_eq, forceL_eq] at h
  split at h
  · rename_i vs hv
    rw [hv] at hx
    split at h
    · rename_i c hc
      simp only [Option.some.injEq] at h; subst h
      generalize hev : a.eval x = ev at hx
      cases hx with
      | tup _ us hl hr =>
        have hlt : i < us.length := by rw [hl]; exact (List.getElem?_eq_some_iff.1 hc).1
        exact goal_pure R (u := us[i]) (by simp [execOp, ho, hev, Instr.extract, hlt]) (hr i c _ hc (List.getElem?_eq_getElem hlt))
    · cases h
  · cases h

theorem inB_some {n : Int} {k : Nat} (h : inB n k = true) : 0 ≤ n ∧ n < k ∧ n.toNat < k := by
  simp only [inB, Bool.and_eq_true, decide_eq_true_eq] at h
  omega

theorem op_index (R : RelG P C G s a w) (V : View s sl ob) {t : TypeId} {x i : Operand} (ho : o.op = .index t x i)
    (h : act P an me cf o sl ob some = some δ) : OpGoal P C s a w o δ := by
  have hx := opd_rel R V t x
  have hi := opd_rel R V 0 i
  simp only [act, ho, forceAV_eq, forceL_eq] at h
  replace h := cond_some h; obtain ⟨hs, h⟩ := h
  split at h
  · rename_i p hp
    rw [hp] at hx
    replace h := asStr_some h; obtain ⟨b, rfl, h⟩ := h
    have ex := rel_str hx
    replace h := avIdx_some h; obtain ⟨ik, n, hn, h⟩ := h
    rw [hn] at hi
    have ei := rel_int hi
    replace h := cond_some h; obtain ⟨hb, h⟩ := h
    obtain ⟨h0, h1, h2⟩ := inB_some hb
    simp only [Option.some.injEq] at h; subst h
    have hg : (if 0 ≤ n then b[n.toNat]? else none) = some b[n.toNat] := by rw [if_pos h0]; exact getElem?_pos b n.toNat h2
    refine goal_pure R (u := .int .u8 (b[n.toNat].toNat)) ?_ (.pv _ _ ?_)
    · simp [execOp, ho, ex, ei, Instr.index, asIntOf, run_underlying (strT_under hs), hg]
    · have : byteP b n.toNat = (b[n.toNat].toNat : Int) := by
        unfold byteP
        have : b.data.getD n.toNat 0 = b[n.toNat] := by
          have h3 : n.toNat < b.data.size := h2
          unfold Array.getD; rw [dif_pos h3]; rfl
        rw [this]
      rw [this]; exact .int _ _
  · cases h

theorem op_nil (R : RelG P C G s a w) (V : View s sl ob) {x : Operand} (ho : o.op = .nilCheck x)
    (h : act P an me cf o sl ob some = some δ) : OpGoal P C s a w o δ := by
  have hx := opd_rel R V 0 x
  simp only [act, ho, forceAV_eq, forceL_eq] at h
  split at h
  · rename_i id off hv
    rw [hv] at hx
    split at h
    · rename_i cs hc
      simp only [Option.some.injEq] at h; subst h
      have hx' := hx
      generalize hev : a.eval x = ev at hx
      cases hx with
      | ref _ _ _ h1 h0 hr =>
        have := hr cs (V.ob _ _ hc)
        subst this
        exact goal_pure R (u := .pointer (some ⟨G.gb id, off, none⟩)) (by simp [execOp, ho, hev]) (hev ▸ hx')
    · cases h
  · rename_i e p off hv
    rw [hv] at hx
    simp only [Option.some.injEq] at h; subst h
    have hx' := hx
    generalize hev : a.eval x = ev at hx
    cases hx with
    | pelem _ _ _ b o' u hb hp hf hw => exact goal_pure R (u := .pointer (some ⟨b, o' + off, none⟩)) (by simp [execOp, ho, hev]) (hev ▸ hx')
  · rename_i id g i off hv
    rw [hv] at hx
    split at h
    · rename_i g' e xs fr hc
      replace h := cond_some h; obtain ⟨hb, h⟩ := h
      have e1 := Nat.eq_of_beq_eq_true hb
      subst e1
      simp only [Option.some.injEq] at h; subst h
      have hx' := hx
      generalize hev : a.eval x = ev at hx
      cases hx with
      | elem _ _ _ _ _ h1 h0 hg hr =>
        obtain ⟨_, b, _, rfl⟩ := hr _ _ _ (V.ob _ _ hc)
        exact goal_pure R (u := .pointer (some ⟨b, i * P.cellsOf e + off, none⟩)) (by simp [execOp, ho, hev]) (hev ▸ hx')
    · cases h
  · rename_i p hv
    rw [hv] at hx
    replace h := asFunc_some h; obtain ⟨f, cs, rfl, h⟩ := h
    simp only [Option.some.injEq] at h; subst h
    have hx' := hx
    generalize hev : a.eval x = ev at hx
    have h2 := rel_pv hx
    cases h2 with
    | func _ _ vs hl hv => exact goal_pure R (u := .func (.func f) #[] vs.toArray) (by simp [execOp, ho, hev]) (hev ▸ hx')
  · cases h

theorem fieldT_under {t : TypeId} {f : Nat} {fd : Field} (h : fieldT P t f = some fd) : ∃ fs, P.underlying t = some (.struct fs) ∧ fs[f]? = some fd := by
  unfold fieldT at h; split at h
  · rename_i fs hfs; exact ⟨fs, hfs, h⟩
  · cases h

theorem run_fieldAt {t : TypeId} {f : Nat} {fd : Field} (hf : fieldT P t f = some fd) (hz : Nat.beq (sizeT P fd.type) 0 = false) (hi : okT P fd.type = true) (b off : Nat) :
    (Instr.fieldAt t (.pointer (some ⟨b, off, none⟩)) f).run P w = .ok (.pointer (some ⟨b, off + fd.offset, none⟩)) w := by
  obtain ⟨fs, h1, h2⟩ := fieldT_under hf
  have h3 : P.cellsOf fd.type ≠ 0 := by intro h; simp [sizeT, h] at hz
  simp [Instr.fieldAt, run_underlying h1, h2, Instr.sureAddr, fieldPlace, run_sizeOf hi, h3, addr_add]

theorem okT_of_size {t : TypeId} (h : okT P t = true) : okT P t = true := h

theorem op_fieldAddr (R : RelG P C G s a w) (V : View s sl ob) {t : TypeId} {f : Nat} {x : Operand} (ho : o.op = .fieldAddr t x f)
    (h : act P an me cf o sl ob some = some δ) : OpGoal P C s a w o δ := by
  have hx := opd_rel R V 0 x
  simp only [act, ho, forceAV_eq, forceL_eq] at h
  split at h
  · rename_i fd hfd
    replace h := cond_some h; obtain ⟨hok, h⟩ := h
    replace h := cond_none h; obtain ⟨hz, h⟩ := h
    split at h
    · rename_i id off hv
      rw [hv] at hx
      split at h
      · rename_i cs hc
        simp only [Option.some.injEq] at h; subst h
        generalize hev : a.eval x = ev at hx
        cases hx with
        | ref _ _ _ h1 h0 hr =>
          have := hr cs (V.ob _ _ hc)
          subst this
          refine goal_pure R (u := .pointer (some ⟨G.gb id, off + fd.offset, none⟩)) (by simp [execOp, ho, hev, run_fieldAt hfd hz hok]) (.ref _ _ _ rfl h0 fun cs' _ => rfl)
      · cases h
    · rename_i e p off hv
      rw [hv] at hx
      simp only [Option.some.injEq] at h; subst h
      generalize hev : a.eval x = ev at hx
      cases hx with
      | pelem _ _ _ b o' u hb hp hf hw =>
        have h2 := RelAV.pelem (P := P) (G := G) (ob := s.ob) (w := w) e p (off + fd.offset) b o' u hb hp hf hw
        rw [← Nat.add_assoc] at h2
        exact goal_pure R (by simp [execOp, ho, hev, run_fieldAt hfd hz hok]) h2
    · rename_i id g i off hv
      rw [hv] at hx
      split at h
      · rename_i g' e xs fr hc
        replace h := cond_some h; obtain ⟨hb, h⟩ := h
        have e1 := Nat.eq_of_beq_eq_true hb
        subst e1
        simp only [Option.some.injEq] at h; subst h
        generalize hev : a.eval x = ev at hx
        cases hx with
        | elem _ _ _ _ _ h1 h0 hg hr =>
          obtain ⟨_, b, _, rfl⟩ := hr _ _ _ (V.ob _ _ hc)
          refine goal_pure R (u := .pointer (some ⟨b, i * P.cellsOf e + off + fd.offset, none⟩)) (by simp [execOp, ho, hev, run_fieldAt hfd hz hok]) (.elem _ _ _ _ _ rfl h0 hg fun e' xs' fr' hx' => ?_)
          obtain ⟨h3, b', h4, h5⟩ := hr e' xs' fr' hx'
          refine ⟨h3, b', h4, ?_⟩
          simp only [Value.pointer.injEq, Option.some.injEq, Addr.mk.injEq, and_true] at h5 ⊢
          omega
      · cases h
    · cases h
  · cases h

theorem op_field (R : RelG P C G s a w) (V : View s sl ob) {t : TypeId} {f : Nat} {x : Operand} (ho : o.op = .field t x f)
    (h : act P an me cf o sl ob some = some δ) : OpGoal P C s a w o δ := by
  have hx := opd_rel R V t x
  simp only [act, ho, forceAV_eq, forceL_eq] at h
  split at h
  · rename_i fd hfd
    obtain ⟨fs, hu, hfs⟩ := fieldT_under hfd
    have hA : aggT P t = true := by simp [aggT, hu]
    obtain ⟨ws, h, hok, hcells⟩ := cellsAV_some h
    obtain ⟨us, hc, hl, hlw, hr, h1, hf⟩ := hcells G s.ob _ hx
    obtain ⟨a', v, h, hok', hav, hv1, hv2⟩ := run_part (G := G) (ob := s.ob) hlw hr h1 h
    simp only [Option.some.injEq] at h; subst h
    have h2 := hf.2
    rw [hA] at h2
    obtain ⟨cs, hcs⟩ := h2
    have : a.eval x = .agg us.toArray := by rw [hcs] at hc ⊢; simp only [Value.cells] at hc; rw [hc]
    refine goal_pure R (u := v) ?_ hav
    simp [execOp, ho, this, Instr.field, run_underlying hu, hfs, asAgg, run_part_of hok' hv1 hv2]
  · cases h

theorem op_load (R : RelG P C G s a w) (V : View s sl ob) {t : TypeId} {x : Operand} (ho : o.op = .load t x)
    (h : act P an me cf o sl ob some = some δ) : OpGoal P C s a w o δ := by
  have hx := opd_rel R V 0 x
  simp only [act, ho, forceAV_eq, forceL_eq] at h
  split at h
  · rename_i id off hv
    rw [hv] at hx
    split at h
    · rename_i cs hc
      have hc' := V.ob _ _ hc
      obtain ⟨T, vs, hh, hl, hr, h1⟩ := R.ob id _ hc'
      obtain ⟨a', v, h, hok, hav, hv1, hv2⟩ := run_part (G := G) (ob := s.ob) hl hr h1 h
      simp only [Option.some.injEq] at h; subst h
      generalize hev : a.eval x = ev at hx
      cases hx with
      | ref _ _ _ _ h0 hr' =>
        have := hr' cs hc'
        subst this
        have hrun := run_loadVar (P := P) (w := w) (b := G.gb id) (o := 0) hok (us := vs) (fun j u hu => by rw [Nat.zero_add, cell_of_row w _ j _ _ _ hh]; simpa using hu) hv1 hv2
        rw [Nat.zero_add] at hrun
        exact goal_pure R (by simp [execOp, ho, hev, Instr.loadAt, Instr.sureAddr, hrun]) hav
    · cases h
  · rename_i e p off hv
    rw [hv] at hx
    obtain ⟨q, h, hok, hq⟩ := partPV_some (w := w) h
    simp only [Option.some.injEq] at h; subst h
    generalize hev : a.eval x = ev at hx
    cases hx with
    | pelem _ _ _ b o' u hb hp hf hw =>
      obtain ⟨v, hrep, hv1, hv2⟩ := hq _ u hp hf
      have hrun := run_loadVar (P := P) (w := w) (b := b) (o := o') hok (us := u.cells.toList) (fun j c hj => hw j c (by simpa using hj)) hv1 hv2
      exact goal_pure R (by simp [execOp, ho, hev, Instr.loadAt, Instr.sureAddr, hrun]) (.pv _ _ hrep)
  · rename_i id g i off hv
    rw [hv] at hx
    split at h
    · rename_i g' e xs fr hc
      replace h := cond_some h; obtain ⟨hb, h⟩ := h
      have e1 := Nat.eq_of_beq_eq_true hb
      subst e1
      have hc' := V.ob _ _ hc
      obtain ⟨q, h, hok, hq⟩ := partPV_some (w := w) h
      simp only [Option.some.injEq] at h; subst h
      generalize hev : a.eval x = ev at hx
      cases hx with
      | elem _ _ _ _ _ h1 h0 hg hr =>
        obtain ⟨hi, b, hbk, rfl⟩ := hr _ _ _ hc'
        obtain ⟨us, hl, hrep, hfit, hown⟩ := (R.ob id _ hc').1
        have hiu : i < us.length := by omega
        have hcells : ∀ k u, (cellsOfL us)[k]? = some u → w.cell? ⟨b, 0 + k, none⟩ = some u := fun k u hu => by
          have := hown.cells hbk k u hu
          rwa [addr_add] at this
        have hel := elem_cells (ok := G.ok) (xs := xs) hfit hcells (List.getElem?_eq_getElem hiu)
        obtain ⟨v, hrv, hv1, hv2⟩ := hq _ us[i] (hrep i _ _ (by simp [hi]) (List.getElem?_eq_getElem hiu)) (hfit _ (List.getElem_mem hiu))
        have hrun := run_loadVar (P := P) (w := w) (b := b) (o := 0 + i * P.cellsOf e) hok (us := us[i].cells.toList) hel hv1 hv2
        rw [Nat.zero_add] at hrun
        exact goal_pure R (by simp [execOp, ho, hev, Instr.loadAt, Instr.sureAddr, hrun]) (.pv _ _ hrv)
    · cases h
  · cases h

theorem op_indexAddr (R : RelG P C G s a w) (V : View s sl ob) {t : TypeId} {x i : Operand} (ho : o.op = .indexAddr t x i)
    (h : act P an me cf o sl ob some = some δ) : OpGoal P C s a w o δ := by
  have hx := opd_rel R V t x
  have hi := opd_rel R V 0 i
  simp only [act, ho, forceAV_eq, forceL_eq] at h
  split at h
  · rename_i e he
    replace h := cond_some h; obtain ⟨hok, h⟩ := h
    replace h := avInt_some h; obtain ⟨n, hn, h⟩ := h
    rw [hn] at hi
    have ei := rel_int hi
    have run : ∀ (b o' c len : Nat), a.eval x = .slice (some ⟨b, o', none⟩) len c → 0 ≤ n → n < len →
        (execOp a.eval o).run P w = .ok (.value (.pointer (some ⟨b, o' + n.toNat * P.cellsOf e, none⟩))) w := by
      intro b o' c len hev h0 h1
      simp [execOp, ho, hev, ei, Instr.indexAt, asIntOf, run_underlying (sliceT_under he), h0, h1, run_sizeOf hok, addr_add]
    split at h
    · rename_i p hp
      rw [hp] at hx
      replace h := asList_some h; obtain ⟨xs, rfl, h⟩ := h
      replace h := cond_some h; obtain ⟨hb, h⟩ := h
      obtain ⟨h0, h1, h2⟩ := inB_some hb
      simp only [Option.some.injEq] at h; subst h
      have hrep := rel_pv hx
      generalize hev : a.eval x = ev at hrep
      cases hrep with
      | nil _ a' c => simp at h2
      | list _ _ b o' c vs hx' hokb hc hv hf hw =>
        refine goal_pure R (run b o' c _ hev h0 h1) ?_
        have h3 := RelAV.pelem (P := P) (G := G) (ob := s.ob) (w := w) e (xs.getD n.toNat default) 0 b (o' + n.toNat * P.cellsOf e) (vs n.toNat) hokb
          (hv _ _ (by simp [h2])) (hf _ h2) (fun j c hj => by rw [Nat.add_assoc]; exact hw _ _ _ h2 hj)
        exact h3
    · rename_i id g hp
      rw [hp] at hx
      split at h
      · rename_i g' e' xs fr hc
        replace h := cond_some h; obtain ⟨hb, h⟩ := h
        simp only [Bool.and_eq_true] at hb
        have e1 := Nat.eq_of_beq_eq_true hb.1
        have e2 := Nat.eq_of_beq_eq_true hb.2
        subst e1 e2
        replace h := cond_some h; obtain ⟨hb2, h⟩ := h
        obtain ⟨h0, h1, h2⟩ := inB_some hb2
        simp only [Option.some.injEq] at h; subst h
        have hc' := V.ob _ _ hc
        generalize hev : a.eval x = ev at hx
        cases hx with
        | row _ _ _ hone h0' hg hr =>
          have hsg := hr _ _ _ hc'
          obtain ⟨us, hl, hrep, hfit, hown⟩ := (R.ob id _ hc').1
          rcases hown.2 with ⟨h3, h4⟩ | ⟨b, cap, cur, h3, _⟩
          · omega
          · have hbk : (G.sg id).ownBlock = some b := by rw [h3]; rfl
            have hev' : a.eval x = .slice (some ⟨b, 0, none⟩) xs.length cap := by rw [hev, hsg, h3]
            have hr2 := run b 0 cap _ hev' h0 h1
            rw [Nat.zero_add] at hr2
            refine goal_pure R hr2 (.elem _ _ _ _ _ rfl h0' hg fun e' xs' fr' hx' => ?_)
            rw [hc'] at hx'
            cases hx'
            exact ⟨h2, b, hbk, rfl⟩
      · cases h
    · cases h
  · cases h

/-! ### Structs that are built -/
theorem zeroOf_rel (G : Gh) (ob : Nat → Option Ob) (w : World) (t : TypeId) (v : Value) : RelAV P G ob w (zeroOf P t v) v := by
  unfold zeroOf
  split
  · exact .pv _ _ (.int ..)
  · exact .pv _ _ (.bool ..)
  · exact .pv _ _ (.str ..)
  · exact .nilS _
  · exact .nilP
  · exact .gone _

theorem zeroAV_some {t : TypeId} {cs : List AV} (h : zeroAV P t = some cs) : ∃ (i : TypeInfo) (z : Value), P.info? t = some i ∧ i.zero = some z ∧ okT P t = true ∧ z.cells.toList.length = cs.length ∧
    cs.length = P.cellsOf t ∧ (∀ v ∈ z.cells.toList, v.oneCell' = true) ∧ ∀ (G : Gh) (ob : Nat → Option Ob) (w : World) (j : Nat) a v, cs[j]? = some a → z.cells.toList[j]? = some v → RelAV P G ob w a v := by
  unfold zeroAV at h
  split at h
  · rename_i z hz
    cases hi : P.info? t with
    | none => simp [hi] at hz
    | some i =>
      rw [hi] at hz
      simp only [Option.bind_some] at hz
      replace h := cond_some h; obtain ⟨hb, h⟩ := h
      simp only [Bool.and_eq_true, List.all_eq_true] at hb
      simp only [Option.some.injEq] at h
      subst h
      refine ⟨i, z, rfl, hz, hb.2, by simp, by simpa [sizeT] using Nat.eq_of_beq_eq_true hb.1.1, hb.1.2, fun G ob w j a v ha hv => ?_⟩
      rw [List.getElem?_map, List.getElem?_zipIdx, hv] at ha
      simp at ha
      subst ha
      exact zeroOf_rel ..
  · cases h

theorem putCells_get (cs : List AV) (off : Nat) (ws : List AV) (h : off + ws.length ≤ cs.length) (j : Nat) :
    (putCells cs off ws)[j]? = if j < off then cs[j]? else if j < off + ws.length then ws[j - off]? else cs[j]? := by
  unfold putCells
  have hl : (cs.take off).length = off := by simp; omega
  by_cases h1 : j < off
  · rw [if_pos h1, List.append_assoc, List.getElem?_append_left (by omega), List.getElem?_take, if_pos h1]
  · rw [if_neg h1]
    by_cases h2 : j < off + ws.length
    · rw [if_pos h2, List.append_assoc, List.getElem?_append_right (by omega), List.getElem?_append_left (by omega), hl]
    · rw [if_neg h2, List.getElem?_append_right (by simp; omega), List.getElem?_drop]
      congr 1
      simp; omega
theorem putCells_length (cs : List AV) (off : Nat) (ws : List AV) (h : off + ws.length ≤ cs.length) : (putCells cs off ws).length = cs.length := by
  simp [putCells]; omega

/-- Cells written one by one. -/
theorem foldl_put : ∀ (vs : List Value) (k off : Nat) (cs : Array Value) (j : Nat), off + k + vs.length ≤ cs.size →
    ((vs.zipIdx k).foldl (fun cs (p : Value × Nat) => cs.setIfInBounds (off + p.2) p.1) cs)[j]? = if j < off + k then cs[j]? else if j < off + k + vs.length then vs[j - (off + k)]? else cs[j]? := by
  intro vs
  induction vs with
  | nil => intro k off cs j h; simp only [List.zipIdx_nil, List.foldl_nil, List.length_nil, Nat.add_zero]; split <;> rfl
  | cons v vs ih =>
    intro k off cs j h
    simp only [List.length_cons] at h
    rw [List.zipIdx_cons, List.foldl_cons, ih (k + 1) off _ j (by simp; omega)]
    simp only [List.length_cons]
    by_cases h1 : j < off + k
    · rw [if_pos (by omega), if_pos h1, Array.getElem?_setIfInBounds_ne (by omega)]
    · rw [if_neg h1]
      by_cases h2 : j = off + k
      · subst h2
        rw [if_pos (by omega), if_pos (by omega), Nat.sub_self]
        simp [Array.getElem?_setIfInBounds]; omega
      · rw [if_neg (by omega)]
        by_cases h3 : j < off + k + (vs.length + 1)
        · rw [if_pos (by omega), if_pos h3]
          have : j - (off + k) = (j - (off + (k + 1))) + 1 := by omega
          rw [this, List.getElem?_cons_succ]
        · rw [if_neg (by omega), if_neg h3, Array.getElem?_setIfInBounds_ne (by omega)]
theorem foldl_put_size (vs : List Value) : ∀ (k off : Nat) (cs : Array Value), ((vs.zipIdx k).foldl (fun cs (p : Value × Nat) => cs.setIfInBounds (off + p.2) p.1) cs).size = cs.size := by
  induction vs with
  | nil => intro k off cs; rfl
  | cons v vs ih => intro k off cs; rw [List.zipIdx_cons, List.foldl_cons, ih]; simp

/-- Fields put into a struct. -/
theorem fill_some (R : RelG P C G s a w) (V : View s sl ob) {fs : Array Field} (hfs : fs.toList.all (fun f => okT P f.type) = true) {α : Type} {r : α} :
    ∀ (ps : List (Nat × Operand)) (cs : List AV) (us : List Value) (K : List AV → Option α), fillAV P fs sl ps cs K = some r → us.length = cs.length →
      (∀ (j : Nat) a v, cs[j]? = some a → us[j]? = some v → RelAV P G s.ob w a v) → (∀ v ∈ us, v.oneCell' = true) →
      ∃ (cs' : List AV) (us' : List Value), K cs' = some r ∧ Instr.fill ((fs.map fun f => (f.offset, P.cellsOf f.type))[·]?) us.toArray (ps.map fun p => (p.1, a.eval p.2)) = some us'.toArray ∧
        us'.length = cs'.length ∧ (∀ (j : Nat) a v, cs'[j]? = some a → us'[j]? = some v → RelAV P G s.ob w a v) ∧ (∀ v ∈ us', v.oneCell' = true) := by
  intro ps
  induction ps with
  | nil => intro cs us K h hl hr h1; exact ⟨cs, us, h, rfl, hl, hr, h1⟩
  | cons p ps ih =>
    obtain ⟨i, x⟩ := p
    intro cs us K h hl hr h1
    simp only [fillAV] at h
    split at h
    · rename_i f hf
      obtain ⟨ws, h, hok, hcells⟩ := cellsAV_some h
      replace h := cond_some h; obtain ⟨hb, h⟩ := h
      have hle := Nat.le_of_ble_eq_true hb
      obtain ⟨vs, hc, hl2, hlw, hr2, h12, hfit⟩ := hcells G s.ob _ (opd_rel R V f.type x)
      have hE : ∃ us' : List Value, (vs.zipIdx.foldl (fun cs (p : Value × Nat) => cs.setIfInBounds (f.offset + p.2) p.1) us.toArray) = us'.toArray := ⟨_, (Array.toArray_toList ..).symm⟩
      obtain ⟨us', hus'⟩ := hE
      have hget : ∀ j, us'[j]? = if j < f.offset then us[j]? else if j < f.offset + vs.length then vs[j - f.offset]? else us[j]? := fun j => by
        have := foldl_put vs 0 f.offset us.toArray j (by simp; omega)
        rw [hus'] at this
        simpa using this
      have hlen : us'.length = us.length := by
        have := foldl_put_size vs 0 f.offset us.toArray
        rw [hus'] at this
        simpa using this
      have hput := putCells_get cs f.offset ws hle
      have hr' : ∀ (j : Nat) a v, (putCells cs f.offset ws)[j]? = some a → us'[j]? = some v → RelAV P G s.ob w a v := by
        intro j a' v' ha hv
        rw [hput] at ha
        rw [hget, hlw] at hv
        by_cases c1 : j < f.offset
        · rw [if_pos c1] at ha hv; exact hr j _ _ ha hv
        · rw [if_neg c1] at ha hv
          by_cases c2 : j < f.offset + ws.length
          · rw [if_pos c2] at ha hv; exact hr2 _ _ _ ha hv
          · rw [if_neg c2] at ha hv; exact hr j _ _ ha hv
      have h1' : ∀ v ∈ us', v.oneCell' = true := by
        intro v hv
        obtain ⟨j, hj⟩ := List.mem_iff_getElem?.1 hv
        rw [hget] at hj
        split at hj
        · exact h1 v (List.mem_of_getElem? hj)
        · split at hj
          · exact h12 v (List.mem_of_getElem? hj)
          · exact h1 v (List.mem_of_getElem? hj)
      obtain ⟨cs', us'', hK, hfill, h3, h4, h5⟩ := ih (putCells cs f.offset ws) us' K h (by rw [hlen, putCells_length _ _ _ hle]; exact hl) hr' h1'
      refine ⟨cs', us'', hK, ?_, h3, h4, h5⟩
      simp only [List.map_cons, Instr.fill, Array.getElem?_map, hf, Option.map_some, hc, List.size_toArray, hl2, ne_eq, not_true_eq_false, decide_false, Bool.false_or]
      rw [if_neg (by simp; omega)]
      have : (vs.toArray.zipIdx.foldl (fun cs (x : Value × Nat) => cs.setIfInBounds (f.offset + x.2) x.1) us.toArray) = us'.toArray := by
        rw [← hus', ← Array.foldl_toList]
        simp
      rw [this]
      simpa using hfill
    · cases h

theorem run_places' (w : World) {fs : List Field} (h : fs.all (fun f => okT P f.type) = true) : (fs.mapM fun (f : Field) => do pure (f.offset, ← sizeOf f.type)).run P w = .ok (fs.map fun f => (f.offset, P.cellsOf f.type)) w := by
  induction fs with
  | nil => simp
  | cons f fs ih =>
    simp only [List.all_cons, Bool.and_eq_true] at h
    simp only [List.mapM_cons, Sem.run_bind, run_sizeOf h.1, Result.andThen_ok, Sem.run_pure, ih h.2, List.map_cons]

theorem op_build (R : RelG P C G s a w) (V : View s sl ob) {t : TypeId} {ps : Array (Nat × Operand)} (ho : o.op = .build t ps)
    (h : act P an me cf o sl ob some = some δ) : OpGoal P C s a w o δ := by
  simp only [act, ho, forceAV_eq, forceL_eq] at h
  split at h
  · rename_i fs cs hu hz
    replace h := cond_some h; obtain ⟨hfs, h⟩ := h
    obtain ⟨i, z, hi, hzz, hok, hl, _, h1, hr⟩ := zeroAV_some hz
    obtain ⟨cs', us', h, hfill, h3, h4, h5⟩ := fill_some R V hfs ps.toList cs z.cells.toList _ h hl (hr G s.ob w) h1
    simp only [Option.some.injEq] at h; subst h
    refine goal_pure R (u := .agg us'.toArray) ?_ (.agg _ _ h3 h4 h5)
    have hp : (ps.map fun (x : Nat × Operand) => (x.1, a.eval x.2)).toList = ps.toList.map fun p => (p.1, a.eval p.2) := by simp
    have hpl : (fs.mapM fun (f : Field) => do pure (f.offset, ← sizeOf f.type)).run P w = .ok (fs.map fun f => (f.offset, P.cellsOf f.type)) w := by
      rw [Array.mapM_eq_mapM_toList]
      simp only [Sem.run_map, run_places' w hfs, Result.andThen_ok]
      congr 1
      apply Array.ext'
      simp
    simp only [execOp, ho, Instr.build, Sem.run_bind, zeroValue, typeInfo, program, Sem.run, hi, hzz, Result.andThen_ok, Sem.run_pure, run_underlying hu, hpl, hp]
    simp only [Array.toArray_toList] at hfill
    rw [hfill]
    simp
  · cases h
end
end Go.Proofs.Sx
