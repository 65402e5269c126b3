/- The interpreter's operations do what the model's do: operations that only read. -/
import Derived.Test.YtoeplmfcjonkgaaGreatSxRel
import Derived.Laws.Small
set_option linter.unusedVariables false
set_option linter.unusedSimpArgs false
namespace Go.Proofs.Sx
open Go

/-! ### What a look at a value tells -/
section
variable {α : Type} {r : α}
theorem asInt_some {k : IntKind} {p : PV} {K : Int → Option α} (h : asInt k p K = some r) : ∃ n, p = .int k n ∧ K n = some r := by
  unfold asInt at h
  split at h
  · rename_i k' n
    by_cases e : k' = k
    · subst e; exact ⟨n, rfl, by simpa using h⟩
    · simp [e] at h
  · cases h
theorem asBool_some {p : PV} {K : Bool → Option α} (h : asBool p K = some r) : ∃ b, p = .bool b ∧ K b = some r := by
  unfold asBool at h; split at h
  · exact ⟨_, rfl, h⟩
  · cases h
theorem asStr_some {p : PV} {K : ByteArray → Option α} (h : asStr p K = some r) : ∃ b, p = .str b ∧ K b = some r := by
  unfold asStr at h; split at h
  · exact ⟨_, rfl, h⟩
  · cases h
theorem asList_some {e : TypeId} {p : PV} {K : List PV → Option α} (h : asList e p K = some r) : ∃ xs, p = .list e xs ∧ K xs = some r := by
  unfold asList at h; split at h
  · rename_i e' xs
    cases hb : Nat.beq e' e with
    | true => rw [hb] at h; exact ⟨xs, by rw [Nat.eq_of_beq_eq_true hb], h⟩
    | false => rw [hb] at h; cases h
  · cases h
theorem asFunc_some {p : PV} {K : FuncId → List PV → Option α} (h : asFunc p K = some r) : ∃ f cs, p = .func f cs ∧ K f cs = some r := by
  unfold asFunc at h; split at h
  · exact ⟨_, _, rfl, h⟩
  · cases h
theorem avInt_some {k : IntKind} {a : AV} {K : Int → Option α} (h : avInt k a K = some r) : ∃ n, a = .pv (.int k n) ∧ K n = some r := by
  unfold avInt at h; split at h
  · replace h := asInt_some h; obtain ⟨n, rfl, h⟩ := h; exact ⟨n, rfl, h⟩
  · cases h
theorem avIdx_some {a : AV} {K : Int → Option α} (h : avIdx a K = some r) : ∃ k n, a = .pv (.int k n) ∧ K n = some r := by
  unfold avIdx at h
  split at h
  · exact ⟨_, _, rfl, h⟩
  · cases h
theorem avBool_some {a : AV} {K : Bool → Option α} (h : avBool a K = some r) : ∃ b, a = .pv (.bool b) ∧ K b = some r := by
  unfold avBool at h; split at h
  · replace h := asBool_some h; obtain ⟨n, rfl, h⟩ := h; exact ⟨n, rfl, h⟩
  · cases h
theorem cond_some {b : Bool} {x : Option α} (h : cond b x none = some r) : b = true ∧ x = some r := by
  cases b
  · cases h
  · exact ⟨rfl, h⟩
theorem cond_none {b : Bool} {x : Option α} (h : cond b none x = some r) : b = false ∧ x = some r := by
  cases b
  · exact ⟨rfl, h⟩
  · cases h
end

/-! ### Views -/

/-- What an operation sees of a frame: part of it. -/
structure View (s : St) (sl : Nat → AV) (ob : Nat → Option Ob) : Prop where
  sl : ∀ t, sl t = .gone ∨ sl t = s.sl t
  ob : ∀ i o, ob i = some o → s.ob i = some o

theorem View.self (s : St) : View s s.sl s.ob := ⟨fun _ => .inr rfl, fun _ _ h => h⟩

section
variable {P : Program} {C : Ctx} {G : Gh} {s : St} {a : Act} {w : World} {sl : Nat → AV} {ob : Nat → Option Ob}

theorem relAV_const (t : TypeId) (v : Value) : RelAV P G ob w (constAV P t v) v := by
  unfold constAV
  split
  · exact .pv _ _ (.int ..)
  · exact .pv _ _ (.bool ..)
  · exact .pv _ _ (.str ..)
  · exact .nilS _
  · exact .nilP
  · exact .gone _

theorem opd_rel (R : RelG P C G s a w) (V : View s sl ob) (t : TypeId) (x : Operand) : RelAV P G s.ob w (opd P sl t x) (a.eval x) := by
  cases x with
  | tmp i =>
    show RelAV P G s.ob w (sl i) (a.tmps.getD i Go.undef)
    rcases V.sl i with h | h
    · rw [h]; exact .gone _
    · rw [h]; exact R.sl i
  | const v => exact relAV_const t v
  | func f => exact .pv _ _ (.func f [] [] rfl (fun j p v h => by simp at h))
  | global g => exact .gone _

theorem rel_pv {p : PV} {v : Value} (h : RelAV P G ob w (.pv p) v) : RepV P G.ok w p v := by cases h; assumption
theorem rel_int {k : IntKind} {n : Int} {v : Value} (h : RelAV P G ob w (.pv (.int k n)) v) : v = .int k n := by cases rel_pv h; rfl
theorem rel_bool {b : Bool} {v : Value} (h : RelAV P G ob w (.pv (.bool b)) v) : v = .bool b := by cases rel_pv h; rfl
theorem rel_str {b : ByteArray} {v : Value} (h : RelAV P G ob w (.pv (.str b)) v) : v = .string b := by cases rel_pv h; rfl

theorem setObs_nil (ob : Nat → Option Ob) : setObs ob [] = ob := rfl

/-- The frame behind a step. -/
def after (s : St) (dst : Option Nat) (δ : Delta) : St := putS { s with ob := setObs s.ob (δ.set ++ δ.new) } dst δ.v

theorem upd_same {α : Type} (f : Nat → α) (i : Nat) (v : α) : upd f i v i = v := by simp [upd]
theorem upd_ne {α : Type} (f : Nat → α) {i j : Nat} (v : α) (h : j ≠ i) : upd f i v j = f j := by
  have : Nat.beq j i = false := by
    cases hb : Nat.beq j i
    · rfl
    · exact absurd (Nat.eq_of_beq_eq_true hb) h
  simp [upd, this]

theorem put_tmps_size (a : Act) (dst : Option Tmp) (u : Value) : (a.put dst u).tmps.size = a.tmps.size := by cases dst <;> simp [Act.put]
theorem put_defers (a : Act) (dst : Option Tmp) (u : Value) : (a.put dst u).defers = a.defers := by cases dst <;> rfl

theorem putS_rel {sl' : Nat → AV} {ob' : Nat → Option Ob} {w' : World} {G' : Gh} {dst : Option Nat} {v : AV} {u : Value} (hd : okDst s dst = true) (hts : a.tmps.size = s.n)
    (h : ∀ t, RelAV P G' ob' w' (sl' t) (a.tmps.getD t Go.undef)) (hv : RelAV P G' ob' w' v u) (t : Nat) :
    RelAV P G' ob' w' ((putS { s with sl := sl', ob := ob' } dst v).sl t) ((a.put dst u).tmps.getD t Go.undef) := by
  cases dst with
  | none => exact h t
  | some d =>
    have hlt : d < a.tmps.size := by rw [hts]; simpa [okDst] using hd
    simp only [putS, Act.put]
    by_cases e : t = d
    · subst e; rw [upd_same]; simpa [Array.getElem?_setIfInBounds, hlt] using hv
    · rw [upd_ne _ _ e]
      have : (a.tmps.setIfInBounds d u).getD t Go.undef = a.tmps.getD t Go.undef := by
        simp [Array.getElem?_setIfInBounds_ne (Ne.symm e)]
      rw [this]; exact h t

theorem putS_ob (s : St) (dst : Option Nat) (v : AV) : (putS s dst v).ob = s.ob := by cases dst <;> rfl
theorem putS_n (s : St) (dst : Option Nat) (v : AV) : (putS s dst v).n = s.n := by cases dst <;> rfl
theorem putS_np (s : St) (dst : Option Nat) (v : AV) : (putS s dst v).np = s.np := by cases dst <;> rfl
theorem putS_eta (s : St) (dst : Option Nat) (v : AV) : putS s dst v = { s with sl := (putS s dst v).sl } := by cases dst <;> rfl

theorem RelG.put (R : RelG P C G s a w) {dst : Option Nat} {v : AV} {u : Value} (hd : okDst s dst = true) (hv : RelAV P G s.ob w v u) :
    RelG P C G (putS s dst v) (a.put dst u) w := by
  have h := putS_rel (s := s) (sl' := s.sl) (ob' := s.ob) (w' := w) (G' := G) (a := a) hd R.tsz R.sl hv
  refine ⟨by rw [put_tmps_size, putS_n]; exact R.tsz, by rw [put_defers]; exact R.dfr, fun t => ?_, ?_, ?_, ?_, ?_, R.ok0, R.okN, R.okS, ?_, R.same⟩
  · rw [putS_ob]; exact h t
  all_goals rw [putS_ob]
  · exact R.ob
  · exact R.inj
  · exact R.own
  · exact R.apart
  · intro i b hb; rw [putS_np]; exact R.lent i b hb

/-- What is asked of an operation. -/
def OpGoal (P : Program) (C : Ctx) (s : St) (a : Act) (w : World) (o : Oper) (δ : Delta) : Prop :=
  okDst s o.dst = true → freeIds s δ.new = true → nodupN (δ.new.map (·.1)) = true → ∀ (K : Act → World → Prop) (Q : Exit → Act → World → Prop),
    (∀ a' w', Rel P C (after s o.dst δ) a' w' → K a' w') → o.wp P a w K Q

theorem wp_of_value {o : Oper} {u : Value} {w' : World} {K : Act → World → Prop} {Q : Exit → Act → World → Prop} (hr : (execOp a.eval o).run P w = .ok (.value u) w') (h : K (a.put o.dst u) w') :
    o.wp P a w K Q := by unfold Oper.wp; rw [hr]; exact h
theorem wp_of_skip {o : Oper} {w' : World} {K : Act → World → Prop} {Q : Exit → Act → World → Prop} (hr : (execOp a.eval o).run P w = .ok .skip w') (h : K (a.put o.dst Go.undef) w') :
    o.wp P a w K Q := by unfold Oper.wp; rw [hr]; exact h

theorem goal_pure {o : Oper} {v : AV} {u : Value} (R : RelG P C G s a w) (hr : (execOp a.eval o).run P w = .ok (.value u) w) (hv : RelAV P G s.ob w v u) :
    OpGoal P C s a w o ⟨v, [], []⟩ := by
  intro hd _ _ K Q hK
  exact wp_of_value hr (hK _ _ ⟨G, R.put hd hv⟩)

/-! ### Operations that look at numbers, bools, texts -/
variable {o : Oper} {δ : Delta}

theorem op_move (R : RelG P C G s a w) (V : View s sl ob) {x : Operand} (ho : o.op = .move x ∨ o.op = .assign x) : OpGoal P C s a w o ⟨opd P sl o.type x, [], []⟩ :=
  goal_pure R (by rcases ho with ho | ho <;> simp [execOp, ho]) (opd_rel R V _ _)

theorem op_pick (R : RelG P C G s a w) (V : View s sl ob) {c x y : Operand} (ho : o.op = .pick c x y)
    (h : (avBool (opd P sl 0 c) fun bb => cond bb (some ⟨opd P sl o.type x, [], []⟩) (some ⟨opd P sl o.type y, [], []⟩)) = some δ) : OpGoal P C s a w o δ := by
  obtain ⟨b, hb, h⟩ := avBool_some h
  have hc := opd_rel R V 0 c
  rw [hb] at hc
  have hc := rel_bool hc
  cases b <;> (simp only [cond, Option.some.injEq] at h; subst h)
  · exact goal_pure R (by simp [execOp, ho, asBool, hc, Go.asBool]) (opd_rel R V _ _)
  · exact goal_pure R (by simp [execOp, ho, asBool, hc, Go.asBool]) (opd_rel R V _ _)

theorem eqGuard_int (op : BinOp) (t : TypeId) (x y : Operand) (k k' : IntKind) (m n : Int) : (eqGuard op t x y (.int k m) (.int k' n)).run P w = .ok () w := by
  unfold eqGuard; cases op <;> simp
theorem eqGuard_str (op : BinOp) (t : TypeId) (x y : Operand) (m n : ByteArray) : (eqGuard op t x y (.string m) (.string n)).run P w = .ok () w := by
  unfold eqGuard; cases op <;> simp
theorem eqGuard_bool (op : BinOp) (t : TypeId) (x y : Operand) (m n : Bool) : (eqGuard op t x y (.bool m) (.bool n)).run P w = .ok () w := by
  unfold eqGuard; cases op <;> simp

theorem run_binInt {op : BinOp} {t : TypeId} {k : IntKind} {m n : Int} {p : PV} (hs : isShift op = false) (h : binInt op k m n some = some p) :
    ∃ u, (Go.binOp op t (.int k m) (.int k n)).run P w = .ok u w ∧ RepV P G.ok w p u := by
  cases op <;> simp only [binInt, isShift, cond, Bool.true_eq_false] at h hs
  all_goals first
    | (simp only [Option.some.injEq] at h; subst h; refine ⟨_, ?_, by first | exact .int _ _ | exact .bool _⟩; simp [Go.binOp, Op.intArith, Op.intCmp, Op.intBits]; done)
    | (split at h
       · cases h
       · rename_i hy
         simp only [Option.some.injEq] at h; subst h
         simp only [decide_eq_false_iff_not] at hy
         exact ⟨_, by simp [Go.binOp, Op.intDiv, hy], .int _ _⟩)
    | cases h

theorem run_binStr {op : BinOp} {t : TypeId} {m n : ByteArray} {p : PV} (h : binStr op m n some = some p) :
    ∃ u, (Go.binOp op t (.string m) (.string n)).run P w = .ok u w ∧ RepV P G.ok w p u := by
  cases op <;> simp only [binStr] at h
  case add =>
    replace h := cond_some h; obtain ⟨hb, h⟩ := h
    simp only [Option.some.injEq] at h; subst h
    have hle := Nat.le_of_ble_eq_true hb
    refine ⟨_, ?_, .str _⟩
    have : ¬ (((m.size + n.size : Nat) : Int) > IntKind.i64.max) := by simp [IntKind.max, IntKind.signed, IntKind.bits]; omega
    simp only [Go.binOp, Op.stringOp]
    rw [if_neg this]; rfl
  all_goals first
    | (simp only [Option.some.injEq] at h; subst h; exact ⟨_, by simp [Go.binOp, Op.stringOp, strEq, strLt], .bool _⟩)
    | cases h

theorem run_binShift {op : BinOp} {t : TypeId} {k k' : IntKind} {m n : Int} {p : PV} (h : binShift op k m n some = some p) :
    ∃ u, (Go.binOp op t (.int k m) (.int k' n)).run P w = .ok u w ∧ RepV P G.ok w p u := by
  replace h := cond_none h; obtain ⟨hn, h⟩ := h
  simp only [decide_eq_false_iff_not] at hn
  cases op <;> simp only [Option.some.injEq, reduceCtorEq] at h
  all_goals (subst h; exact ⟨_, by simp [Go.binOp, Op.shift, hn], .int _ _⟩)

theorem run_binBool {op : BinOp} {t : TypeId} {m n : Bool} {p : PV} (ht : boolT P t = true) (h : binBool op m n some = some p) :
    ∃ u, (Go.binOp op t (.bool m) (.bool n)).run P w = .ok u w ∧ RepV P G.ok w p u := by
  have hu : P.underlying t = some .bool := by
    unfold boolT at ht; split at ht
    · assumption
    · cases ht
  cases op <;> simp only [binBool, Option.some.injEq, reduceCtorEq] at h
  · subst h; exact ⟨_, run_eql_bool w t m n hu, .bool _⟩
  · subst h; exact ⟨_, run_neq_bool w t m n hu, .bool _⟩

theorem op_bin (R : RelG P C G s a w) (V : View s sl ob) {op : BinOp} {t yt : TypeId} {x y : Operand} (ho : o.op = .binOp op t x y yt)
    (h : (binAV P op t yt (opd P sl t x) (opd P sl (cond (isShift op) yt t) y) fun p => some ⟨.pv p, [], []⟩) = some δ) : OpGoal P C s a w o δ := by
  have hx := opd_rel R V t x
  have hy := opd_rel R V (cond (isShift op) yt t) y
  unfold binAV at h
  split at h
  · rename_i p q hp hq
    rw [hp] at hx; rw [hq] at hy
    have fin : ∀ (p' : PV), δ = ⟨.pv p', [], []⟩ → (∃ u, (Go.binOp op t (a.eval x) (a.eval y)).run P w = .ok u w ∧ RepV P G.ok w p' u) →
        (eqGuard op t x y (a.eval x) (a.eval y)).run P w = .ok () w → OpGoal P C s a w o δ := by
      rintro p' rfl ⟨u, hu, hr⟩ hg
      exact goal_pure R (by simp [execOp, ho, hg, hu]) (.pv _ _ hr)
    cases hk : intT P t with
    | some k =>
      simp only [hk] at h
      cases hs : isShift op with
      | true =>
        simp only [hs, cond] at h
        split at h
        · rename_i k' _
          replace h := asInt_some h; obtain ⟨m, rfl, h⟩ := h
          replace h := asInt_some h; obtain ⟨n, rfl, h⟩ := h
          have ex := rel_int hx; have ey := rel_int hy
          rw [ex, ey] at fin
          cases hb : binShift op k m n some with
          | none => 
            exfalso
            unfold binShift at h hb
            cases hd : decide (n < 0) <;> simp only [hd, cond] at h hb
            · cases op <;> simp at h hb
            · cases h
          | some p' =>
            have : δ = ⟨.pv p', [], []⟩ := by
              unfold binShift at h hb
              cases hd : decide (n < 0) <;> simp only [hd, cond] at h hb
              · cases op <;> simp at h hb <;> (subst hb; exact h.symm)
              · cases h
            exact fin p' this (run_binShift hb) (eqGuard_int ..)
        · cases h
      | false =>
        simp only [hs, cond] at h
        replace h := asInt_some h; obtain ⟨m, rfl, h⟩ := h
        replace h := asInt_some h; obtain ⟨n, rfl, h⟩ := h
        have ex := rel_int hx; have ey := rel_int hy
        rw [ex, ey] at fin
        cases hb : binInt op k m n some with
        | none =>
          exfalso
          cases op <;> simp only [binInt, reduceCtorEq] at h hb
          all_goals (cases hd : decide (n = 0) <;> simp [hd] at h hb)
        | some p' =>
          have : δ = ⟨.pv p', [], []⟩ := by
            cases op <;> simp only [binInt, reduceCtorEq] at h hb
            all_goals first
              | (simp only [Option.some.injEq] at h hb; subst hb; exact h.symm)
              | (cases hd : decide (n = 0) <;> simp [hd] at h hb; subst hb; exact h.symm)
          exact fin p' this (run_binInt hs hb) (eqGuard_int ..)
    | none =>
      cases hst : strT P t with
      | true =>
        simp only [hk, hst] at h
        replace h := asStr_some h; obtain ⟨m, rfl, h⟩ := h
        replace h := asStr_some h; obtain ⟨n, rfl, h⟩ := h
        have ex := rel_str hx; have ey := rel_str hy
        rw [ex, ey] at fin
        cases hb : binStr op m n some with
        | none =>
          exfalso
          cases op <;> simp only [binStr, reduceCtorEq] at h hb
          cases hd : Nat.ble (m.size + n.size) 9223372036854775807 <;> simp [hd] at h hb
        | some p' =>
          have : δ = ⟨.pv p', [], []⟩ := by
            cases op <;> simp only [binStr, reduceCtorEq] at h hb
            all_goals first
              | (simp only [Option.some.injEq] at h hb; subst hb; exact h.symm)
              | (cases hd : Nat.ble (m.size + n.size) 9223372036854775807 <;> simp [hd] at h hb; subst hb; exact h.symm)
          exact fin p' this (run_binStr hb) (eqGuard_str ..)
      | false =>
        cases hbt : boolT P t with
        | false => simp [hk, hst, hbt] at h
        | true =>
          simp only [hk, hst, hbt] at h
          replace h := asBool_some h; obtain ⟨m, rfl, h⟩ := h
          replace h := asBool_some h; obtain ⟨n, rfl, h⟩ := h
          have ex := rel_bool hx; have ey := rel_bool hy
          rw [ex, ey] at fin
          cases hb : binBool op m n some with
          | none => exfalso; cases op <;> simp [binBool] at h hb
          | some p' =>
            have : δ = ⟨.pv p', [], []⟩ := by
              cases op <;> simp only [binBool, reduceCtorEq, Option.some.injEq] at h hb
              all_goals (subst hb; exact h.symm)
            exact fin p' this (run_binBool hbt hb) (eqGuard_bool ..)
  · cases h
end
end Go.Proofs.Sx
