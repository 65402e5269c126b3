/- The interpreter's operations: stores. -/
import Derived.Test.YtoeplmfcjonkgaaGreatSxRow4
set_option linter.unusedVariables false
set_option linter.unusedSimpArgs false
namespace Go.Proofs.Sx
open Go

/-- Cells with some of them written over. -/
def over (l : List Value) (k : Nat) (vs : List Value) : List Value := l.take k ++ vs ++ l.drop (k + vs.length)
theorem over_length {l : List Value} {k : Nat} {vs : List Value} (h : k + vs.length ≤ l.length) : (over l k vs).length = l.length := by simp [over]; omega
theorem over_get {l : List Value} {k : Nat} {vs : List Value} (h : k + vs.length ≤ l.length) (j : Nat) :
    (over l k vs)[j]? = if j < k then l[j]? else if j < k + vs.length then vs[j - k]? else l[j]? := by
  have hl : (l.take k).length = k := by simp; omega
  unfold over
  by_cases h1 : j < k
  · rw [if_pos h1, List.append_assoc, List.getElem?_append_left (by omega), List.getElem?_take, if_pos h1]
  · rw [if_neg h1]
    by_cases h2 : j < k + vs.length
    · rw [if_pos h2, List.append_assoc, List.getElem?_append_right (by omega), List.getElem?_append_left (by omega), hl]
    · rw [if_neg h2, List.getElem?_append_right (by simp; omega), List.getElem?_drop]
      congr 1
      simp; omega

section
variable {P : Program} {C : Ctx} {G : Gh} {s : St} {a : Act} {w : World} {sl : Nat → AV} {ob : Nat → Option Ob} {o : Oper} {δ : Delta}
variable {an : An} {me : FuncId} {cf : FuncId → List PA → Option Ret}

theorem run_storeVar {t : TypeId} {T : TypeId} {v : Value} {us cur : List Value} {b off : Nat} (hok : okT P t = true) (hc : v.cells = us.toArray) (hl : us.length = P.cellsOf t) (h1 : ∀ u ∈ us, u.oneCell' = true)
    (hh : w.heap[b]? = some (.cells cur.toArray T (0, 0))) (hle : off + us.length ≤ cur.length) :
    (storeVar t ⟨b, off, none⟩ v).run P w = .ok () (w.setRow b (over cur off us).toArray) := by
  have hst := run_storeCells_at P b off T us 0 cur.toArray w hh (by simpa using hle) h1
  simp only [Nat.add_zero, List.toList_toArray] at hst
  unfold storeVar
  simp only [Sem.run_bind, run_sizeOf hok, Result.andThen_ok, hc, List.size_toArray, hl, ne_eq, not_true_eq_false, if_false, hst, over]

theorem Same.setRow {w : World} {b : Nat} {cs cur : Array Value} {T : TypeId} {fr : Nat × Nat} (hh : w.heap[b]? = some (.cells cur T fr)) (M : Nat → Prop) (hM : M b) : Same w (w.setRow b cs) M :=
  ⟨rfl, rfl, rfl, by simp, fun k _ hk => setRow_other w b k _ (fun e => hk (by first | exact e ▸ hM | exact e.symm ▸ hM))⟩

theorem goal_skip {w' : World} {G' : Gh} {s' : St} (hr : (execOp a.eval o).run P w = .ok .skip w') (R' : RelG P C G' s' a w') (hd : okDst s' o.dst = true) {K : Act → World → Prop} {Q : Exit → Act → World → Prop}
    (hK : ∀ a' w', Rel P C (putS s' o.dst .undef) a' w' → K a' w') : o.wp P a w K Q :=
  wp_of_skip hr (hK _ _ ⟨G', R'.put hd .undef⟩)

/-- An element with a part of it turned. -/
theorem turnPV_some {α : Type} {r : α} {e t : TypeId} {p q : PV} {off : Nat} {K : PV → Option α} (h : turnPV P e t p off q K = some r) :
    ∃ p', K p' = some r ∧ ∀ (ok : Nat → Prop) (u v : Value), RepV P ok w p u → Fits P e u → RepV P ok w q v → Fits P t v → ∃ u', RepV P ok w p' u' ∧ Fits P e u' ∧
      off + v.cells.toList.length ≤ u.cells.toList.length ∧ u'.cells.toList = over u.cells.toList off v.cells.toList := by
  unfold turnPV at h
  cases hb : (Nat.beq t e && Nat.beq off 0) with
  | true =>
    rw [hb] at h
    simp only [Bool.and_eq_true] at hb
    have e1 := Nat.eq_of_beq_eq_true hb.1
    have e2 := Nat.eq_of_beq_eq_true hb.2
    subst e1 e2
    refine ⟨q, h, fun ok u v hu hf hv hfv => ⟨v, hv, hfv, ?_, ?_⟩⟩
    · have h1 := hf.1; have h2 := hfv.1; simp; omega
    · have h1 := hf.1; have h2 := hfv.1
      unfold over
      rw [List.drop_of_length_le (by simp; omega)]
      simp
  | false =>
    rw [hb] at h
    simp only [Bool.cond_true, Bool.cond_false] at h
    replace h := cond_some h; obtain ⟨hb2, h⟩ := h
    simp only [Bool.and_eq_true] at hb2
    obtain ⟨hAe, hN⟩ := hb2
    obtain ⟨ps, rfl, hn⟩ := isAggN_some hN
    simp only [sizeT] at hn h
    have mk : ∀ (ok : Nat → Prop) (ps' : List PV) (us vs : List Value) (u v : Value), us.length = ps.length → u = .agg us.toArray → v.cells.toList = vs → ps'.length = ps.length → off + vs.length ≤ us.length →
        (∀ (j : Nat) p v, ps'[j]? = some p → (over us off vs)[j]? = some v → RepV P ok w p v) → (∀ v ∈ us, v.oneCell' = true) → (∀ v ∈ vs, v.oneCell' = true) →
        ∃ u', RepV P ok w (.agg ps') u' ∧ Fits P e u' ∧ off + v.cells.toList.length ≤ u.cells.toList.length ∧ u'.cells.toList = over u.cells.toList off v.cells.toList := by
      intro ok ps' us vs u v hul hu hv hpl hle hrep h1 h2
      subst hu
      have hol := over_length hle
      have hus : (Value.agg us.toArray).cells.toList = us := rfl
      rw [hv, hus]
      refine ⟨.agg (over us off vs).toArray, .agg _ _ (by rw [hol, hul, hpl]) hrep ?_, ⟨?_, by rw [hAe]; exact ⟨_, rfl⟩⟩, hle, rfl⟩
      rotate_left
      · show (over us off vs).toArray.size = P.cellsOf e
        rw [List.size_toArray, hol, hul, hn]
      intro x hx
      obtain ⟨j, hj⟩ := List.mem_iff_getElem?.1 hx
      rw [over_get hle] at hj
      split at hj
      · exact h1 x (List.mem_of_getElem? hj)
      · split at hj
        · exact h2 x (List.mem_of_getElem? hj)
        · exact h1 x (List.mem_of_getElem? hj)
    cases hA : aggT P t with
    | true =>
      rw [hA] at h
      simp only [Bool.cond_true, Bool.cond_false] at h
      replace h := cond_some h; obtain ⟨hb3, h⟩ := h
      simp only [Bool.and_eq_true] at hb3
      obtain ⟨qs, rfl, hqn⟩ := isAggN_some hb3.1
      have hle := Nat.le_of_ble_eq_true hb3.2
      rw [cellsP_agg hn, cellsP_agg hqn] at h
      refine ⟨_, h, fun ok u v hu hf hv hfv => ?_⟩
      obtain ⟨us, rfl, hl, hr, h1⟩ := rep_agg hu
      obtain ⟨vs, rfl, hl', hr', h1'⟩ := rep_agg hv
      have hle' : off + vs.length ≤ us.length := by omega
      refine mk ok _ us vs _ _ hl rfl (by simp [Value.cells]) (by simp; omega) hle' (fun j p v hp hv => ?_) h1 h1'
      rw [over_get hle'] at hv
      have hp' : (ps.take off ++ qs ++ ps.drop (off + P.cellsOf t))[j]? = if j < off then ps[j]? else if j < off + vs.length then qs[j - off]? else ps[j]? := by
        have hl0 : (ps.take off).length = off := by simp; omega
        by_cases c1 : j < off
        · rw [if_pos c1, List.append_assoc, List.getElem?_append_left (by omega), List.getElem?_take, if_pos c1]
        · rw [if_neg c1]
          by_cases c2 : j < off + vs.length
          · rw [if_pos c2, List.append_assoc, List.getElem?_append_right (by omega), List.getElem?_append_left (by omega), hl0]
          · rw [if_neg c2, List.getElem?_append_right (by simp; omega), List.getElem?_drop]
            congr 1
            simp; omega
      rw [hp'] at hp
      split at hp
      · rename_i c1; rw [if_pos c1] at hv; exact hr j p v hp hv
      · rename_i c1
        rw [if_neg c1] at hv
        split at hp
        · rename_i c2; rw [if_pos c2] at hv; exact hr' _ p v hp hv
        · rename_i c2; rw [if_neg c2] at hv; exact hr j p v hp hv
    | false =>
      rw [hA] at h
      simp only [Bool.cond_true, Bool.cond_false] at h
      replace h := cond_some h; obtain ⟨hb3, h⟩ := h
      have hlt : off < ps.length := by rw [hn]; exact Nat.le_of_ble_eq_true hb3
      rw [cellsP_agg hn] at h
      refine ⟨_, h, fun ok u v hu hf hv hfv => ?_⟩
      obtain ⟨us, rfl, hl, hr, h1⟩ := rep_agg hu
      have hone : v.oneCell' = true := by have h2 := hfv.2; rw [hA] at h2; simpa using h2
      have hvc : v.cells.toList = [v] := by rw [oneCell_cells hone]
      have hle' : off + [v].length ≤ us.length := by simp; omega
      refine mk ok _ us [v] _ v hl rfl hvc (by simp) hle' (fun j p v' hp hv' => ?_) h1 (by simpa using hone)
      rw [over_get hle'] at hv'
      rw [List.getElem?_set] at hp
      by_cases c1 : off = j
      · subst c1
        simp [hlt] at hp
        simp at hv'
        subst hp hv'
        exact hv
      · rw [if_neg c1] at hp
        have : (if j < off then us[j]? else if j < off + [v].length then [v][j - off]? else us[j]?) = us[j]? := by
          by_cases c2 : j < off
          · rw [if_pos c2]
          · rw [if_neg c2, if_neg (by simp; omega)]
        rw [this] at hv'
        exact hr j p v' hp hv'

theorem op_store (R : RelG P C G s a w) (V : View s sl ob) {t : TypeId} {x y : Operand} (ho : o.op = .store t x y)
    (h : act P an me cf o sl ob some = some δ) : OpGoal P C s a w o δ := by
  have hx := opd_rel R V 0 x
  have hy := opd_rel R V t y
  simp only [act, ho, forceAV_eq, forceL_eq] at h
  split at h
  · rename_i id off hxv
    rw [hxv] at hx
    split at h
    · rename_i cs hc
      have hc' := V.ob _ _ hc
      obtain ⟨ws, h, hok, hcells⟩ := cellsAV_some h
      obtain ⟨us, hcu, hl, hlw, hr, h1, hf⟩ := hcells G s.ob _ hy
      replace h := cond_some h; obtain ⟨hb, h⟩ := h
      have hle := Nat.le_of_ble_eq_true hb
      simp only [Option.some.injEq] at h; subst h
      obtain ⟨T, vs, hh, hvl, hvr, hv1⟩ := R.ob id _ hc'
      have hxe : a.eval x = .pointer (some ⟨G.gb id, off, none⟩) := by
        generalize a.eval x = ev at hx
        cases hx with | ref _ _ _ _ _ hr => exact hr _ hc'
      have hrun := run_storeVar (P := P) (w := w) (b := G.gb id) (off := off) hok hcu hl h1 hh (by omega)
      intro hd _ _ K Q hK
      have hover := over_length (l := vs) (k := off) (vs := us) (by omega)
      have R1 := R.turn (id := id) (o1 := .box cs) (o2 := .box (putCells cs off ws)) hc' rfl (v := G.sg id) (w' := w.setRow (G.gb id) (over vs off us).toArray) (Same.setRow hh _ rfl)
        (fun _ _ => ⟨_, rfl⟩) (fun g h => by cases h) (fun g e xs fr h => by cases h)
        (fun b hb => by
          simp only [blk, Option.some.injEq] at hb
          subst hb
          exact ⟨by simpa using (Array.getElem?_eq_some_iff.1 hh).1, .inr rfl⟩)
        (fun G' hok' hgb hsg hL hW => by
          refine ⟨T, over vs off us, by rw [hgb]; exact setRow_heap w _ _ _ _ _ hh, by rw [hover, putCells_length _ _ _ hle, hvl], fun j a' v' ha hv => ?_, fun v' hv => ?_⟩
          · rw [putCells_get _ _ _ hle] at ha
            rw [over_get (by omega), hlw] at hv
            split at ha
            · rename_i c1; rw [if_pos c1] at hv; exact (hvr j a' v' ha hv).later (fun b hb => by rw [hok']; exact hb) hW hL
            · rename_i c1
              rw [if_neg c1] at hv
              split at ha
              · rename_i c2; rw [if_pos c2] at hv; exact (hr _ a' v' ha hv).later (fun b hb => by rw [hok']; exact hb) hW hL
              · rename_i c2; rw [if_neg c2] at hv; exact (hvr j a' v' ha hv).later (fun b hb => by rw [hok']; exact hb) hW hL
          · obtain ⟨j, hj⟩ := List.mem_iff_getElem?.1 hv
            rw [over_get (by omega)] at hj
            split at hj
            · exact hv1 _ (List.mem_of_getElem? hj)
            · split at hj
              · exact h1 _ (List.mem_of_getElem? hj)
              · exact hv1 _ (List.mem_of_getElem? hj))
      refine goal_skip (by simp [execOp, ho, Instr.storeAt, Instr.sureAddr, hxe, hrun]) R1 hd fun a' w' hR => hK a' w' ?_
      have hE : after s o.dst ⟨.undef, [], [(id, .box (putCells cs off ws))]⟩ = putS { s with ob := upd s.ob id (some (.box (putCells cs off ws))) } o.dst .undef := by
        simp only [after, List.append_nil, setObs_one]
      rw [hE]; exact hR
    · cases h
  · rename_i id g i off hxv
    rw [hxv] at hx
    split at h
    · rename_i g' e xs hc
      have hc' := V.ob _ _ hc
      replace h := cond_some h; obtain ⟨hb, h⟩ := h
      have e1 := Nat.eq_of_beq_eq_true hb
      subst e1
      obtain ⟨ws, h, hok, hcells⟩ := cellsAV_some h
      obtain ⟨vs, hcu, hl, hlw, hr, h1, hfv⟩ := hcells G s.ob _ hy
      obtain ⟨q, f, h, hf, hq⟩ := toPVA_some R V h
      obtain ⟨p, h, hturn⟩ := turnPV_some (w := w) h
      replace h := cond_none h; obtain ⟨hnm, h⟩ := h
      simp only [Option.some.injEq] at h; subst h
      have hidf : setObs s.ob f id = some (.row g e xs false) := by
        rw [setObs_other, hc']
        rintro ⟨j, o'⟩ hp rfl
        have : memN j (f.map (·.1)) = true := memN_true.2 (List.mem_map.2 ⟨_, hp, rfl⟩)
        rw [hnm] at this; cases this
      have RF := R.freeze hf
      generalize hGF : ({ G with ok := okWith G s f } : Gh) = GF at RF
      have hgb : GF.gb = G.gb := by rw [← hGF]
      have hsg : GF.sg = G.sg := by rw [← hGF]
      have hokF : GF.ok = okWith G s f := by rw [← hGF]
      obtain ⟨hi, b, hbk, hxe⟩ : i < xs.length ∧ ∃ b, (G.sg id).ownBlock = some b ∧ a.eval x = .pointer (some ⟨b, i * P.cellsOf e + off, none⟩) := by
        generalize a.eval x = ev at hx
        cases hx with | elem _ _ _ _ _ _ _ _ hr => exact hr _ _ _ hc'
      obtain ⟨us, hul, hrep, hfit, hown⟩ := (RF.ob id _ hidf).1
      rw [hsg] at hown
      have hiu : i < us.length := by omega
      obtain ⟨u', hru', hfu', hoff, hcu'⟩ := hturn GF.ok us[i] (a.eval y) (hrep i _ _ (by simp [hi]) (List.getElem?_eq_getElem hiu)) (hfit _ (List.getElem_mem hiu)) (hq _ hy _ (fun b hb => by rw [hokF]; exact hb)) hfv
      have hvl : (a.eval y).cells.toList = vs := by rw [hcu]
      rw [hvl] at hoff hcu'
      have hsz : ∀ u ∈ us, u.cells.size = P.cellsOf e := fun u hu => (hfit u hu).1
      have hui : us[i].cells.toList.length = P.cellsOf e := by simpa using hsz _ (List.getElem_mem hiu)
      rcases hown.2 with ⟨hsv, h0⟩ | ⟨b', cap, cur, hsv, hbb, hh, hnc, hcm, hcs, htk⟩
      · omega
      · have : b' = b := by rw [hsv] at hbk; simpa [Value.ownBlock] using hbk
        subst this
        have hin : i * P.cellsOf e + P.cellsOf e ≤ xs.length * P.cellsOf e := by rw [← Nat.succ_mul]; exact Nat.mul_le_mul_right _ hi
        have hcap : xs.length * P.cellsOf e ≤ cap * P.cellsOf e := Nat.mul_le_mul_right _ hnc
        have hkl : i * P.cellsOf e + off + vs.length ≤ cur.toList.length := by simp; omega
        have hrun := run_storeVar (P := P) (w := w) (b := b') (off := i * P.cellsOf e + off) (cur := cur.toList) hok hcu hl h1 (T := e) (by simpa using hh) hkl
        intro hd _ _ K Q hK
        have hbl : blk GF id (some (.row g e xs false)) = some b' := by simp only [blk, hsg]; exact hbk
        have R1 := RF.turn (id := id) (o1 := .row g e xs false) (o2 := .row g e (xs.set i p) false) hidf rfl (v := G.sg id) (w' := w.setRow b' (over cur.toList (i * P.cellsOf e + off) vs).toArray)
          (Same.setRow hh _ hbl)
          (fun cs h => by cases h) (fun g2 h => by cases h; exact ⟨g, rfl, Nat.le_refl _⟩) (fun g2 e2 xs2 fr2 h => by cases h; exact .inr ⟨_, _, rfl, by simp, by rw [hsg]⟩)
          (fun b2 hb2 => by
            simp only [blk, upd_same] at hb2
            rw [hbk] at hb2; cases hb2
            exact ⟨by simpa using (Array.getElem?_eq_some_iff.1 hh).1, .inr hbl⟩)
          (fun G' hok' hgb' hsg' hL hW => by
            refine ⟨⟨us.set i u', by simp [hul], fun j x' u hj hu => ?_, fun u hu => ?_, ?_⟩, fun h => by cases h⟩
            · rw [hok']
              by_cases hji : j = i
              · subst hji
                rw [List.getElem?_set_self hi] at hj
                rw [List.getElem?_set_self hiu] at hu
                cases hj; cases hu
                exact hru'.mono (fun b hb => hb) hW
              · rw [List.getElem?_set_ne (Ne.symm hji)] at hj hu
                exact (hrep j x' u hj hu).mono (fun b hb => hb) hW
            · rcases List.mem_or_eq_of_mem_set hu with h | rfl
              · exact hfit u h
              · exact hfu'
            · rw [hsg', upd_same, List.length_set]
              have hsz' : ∀ u ∈ us.set i u', u.cells.size = P.cellsOf e := fun u hu => by
                rcases List.mem_or_eq_of_mem_set hu with h | rfl
                · exact hsz u h
                · exact hfu'.1
              have hlen' := cellsOfL_length hsz'
              rw [List.length_set, hul] at hlen'
              refine ⟨hlen', .inr ⟨b', cap, _, hsv, Nat.zero_le _, setRow_heap w _ _ _ _ _ hh, hnc, hcm, by simp [over_length hkl, hcs], ?_⟩⟩
              apply List.ext_getElem?
              intro j
              rw [List.toList_toArray, List.getElem?_take]
              by_cases hj : j < xs.length * P.cellsOf e
              · have hpos : 0 < P.cellsOf e := Nat.pos_of_ne_zero (fun h0 => by rw [h0, Nat.mul_zero] at hj; omega)
                rw [if_pos hj, over_get hkl, cellsOfL_set hpos hsz hfu'.1 hiu]
                have hcurj : cur.toList[j]? = (cellsOfL us)[j]? := by rw [← htk, List.getElem?_take, if_pos hj]
                by_cases c1 : j < i * P.cellsOf e
                · rw [if_pos (show j < i * P.cellsOf e + off by omega), if_pos c1, hcurj]
                · rw [if_neg c1]
                  by_cases c2 : j < i * P.cellsOf e + P.cellsOf e
                  · rw [if_pos c2]
                    have h9 : u'.cells[j - i * P.cellsOf e]? = (over us[i].cells.toList off vs)[j - i * P.cellsOf e]? := by rw [← hcu']; simp
                    rw [h9, over_get hoff]
                    have h10 := cellsOfL_get hsz (i := i) (j := j - i * P.cellsOf e) (List.getElem?_eq_getElem hiu) (by omega)
                    rw [show i * P.cellsOf e + (j - i * P.cellsOf e) = j by omega] at h10
                    by_cases c3 : j < i * P.cellsOf e + off
                    · rw [if_pos c3, if_pos (show j - i * P.cellsOf e < off by omega), hcurj, h10]; simp
                    · rw [if_neg c3, if_neg (show ¬ j - i * P.cellsOf e < off by omega)]
                      by_cases c4 : j < i * P.cellsOf e + off + vs.length
                      · rw [if_pos c4, if_pos (show j - i * P.cellsOf e < off + vs.length by omega)]
                        congr 1
                        omega
                      · rw [if_neg c4, if_neg (show ¬ j - i * P.cellsOf e < off + vs.length by omega), hcurj, h10]; simp
                  · rw [if_neg c2, if_neg (show ¬ j < i * P.cellsOf e + off by omega), if_neg (show ¬ j < i * P.cellsOf e + off + vs.length by omega), hcurj]
              · rw [if_neg hj, List.getElem?_eq_none (by omega)])
        refine goal_skip (by simp [execOp, ho, Instr.storeAt, Instr.sureAddr, hxe, hrun]) R1 hd fun a' w' hR => hK a' w' ?_
        have hE : after s o.dst ⟨.undef, [], f ++ [(id, .row g e (xs.set i p) false)]⟩ = putS { s with ob := upd (setObs s.ob f) id (some (.row g e (xs.set i p) false)) } o.dst .undef := by
          simp only [after, List.append_nil, setObs_append, setObs_one]
        rw [hE]; exact hR
    · cases h
  · cases h
end
end Go.Proofs.Sx
