/- What is told with what follows is told without it. -/
import Derived.Test.YtoeplmfcjonkgaaGreatSxStore
set_option linter.unusedVariables false
set_option linter.unusedSimpArgs false
namespace Go.Proofs.Sx
open Go
section
variable {α β : Type} (k : β → Option α)

theorem cond_bind (b : Bool) (x y : Option β) : (cond b x y).bind k = cond b (x.bind k) (y.bind k) := by cases b <;> rfl
theorem asInt_bind (kd : IntKind) (p : PV) (F : Int → Option β) : (asInt kd p F).bind k = asInt kd p fun n => (F n).bind k := by unfold asInt; split <;> simp [cond_bind]
theorem asBool_bind (p : PV) (F : Bool → Option β) : (asBool p F).bind k = asBool p fun n => (F n).bind k := by unfold asBool; split <;> rfl
theorem asStr_bind (p : PV) (F : ByteArray → Option β) : (asStr p F).bind k = asStr p fun n => (F n).bind k := by unfold asStr; split <;> rfl
theorem asList_bind (e : TypeId) (p : PV) (F : List PV → Option β) : (asList e p F).bind k = asList e p fun n => (F n).bind k := by unfold asList; split <;> simp [cond_bind]
theorem asFunc_bind (p : PV) (F : FuncId → List PV → Option β) : (asFunc p F).bind k = asFunc p fun n m => (F n m).bind k := by unfold asFunc; split <;> rfl
theorem avInt_bind (kd : IntKind) (a : AV) (F : Int → Option β) : (avInt kd a F).bind k = avInt kd a fun n => (F n).bind k := by unfold avInt; split <;> simp [asInt_bind]
theorem avIdx_bind (a : AV) (F : Int → Option β) : (avIdx a F).bind k = avIdx a fun n => (F n).bind k := by unfold avIdx; split <;> rfl
theorem avBool_bind (a : AV) (F : Bool → Option β) : (avBool a F).bind k = avBool a fun n => (F n).bind k := by unfold avBool; split <;> simp [asBool_bind]
theorem asRow_bind (ob : Nat → Option Ob) (e : TypeId) (a : AV) (F : List PV → Option β) : (asRow ob e a F).bind k = asRow ob e a fun n => (F n).bind k := by
  unfold asRow; split
  · exact asList_bind ..
  · rfl
  · split <;> simp [cond_bind]
  · rfl
theorem toPV_bind (ob : Nat → Option Ob) (a : AV) (F : PV → List (Nat × Ob) → Option β) : (toPV ob a F).bind k = toPV ob a fun p f => (F p f).bind k := by
  unfold toPV; split
  · rfl
  · rfl
  · split <;> simp [cond_bind]
  · rfl
theorem toPVs_bind (ob : Nat → Option Ob) : ∀ (l : List AV) (F : List PV → List (Nat × Ob) → Option β), (toPVs ob l F).bind k = toPVs ob l fun p f => (F p f).bind k
  | [], F => rfl
  | a :: as, F => by simp only [toPVs, toPV_bind, toPVs_bind ob as]
theorem toPVA_bind (ob : Nat → Option Ob) (a : AV) (F : PV → List (Nat × Ob) → Option β) : (toPVA ob a F).bind k = toPVA ob a fun p f => (F p f).bind k := by
  unfold toPVA; split
  · exact toPVs_bind ..
  · exact toPV_bind ..
theorem normPV_bind (P : Program) (t : TypeId) (p : PV) (F : PV → Option β) : (normPV P t p F).bind k = normPV P t p fun q => (F q).bind k := by
  unfold normPV; split <;> simp [asInt_bind, asBool_bind, asStr_bind, asList_bind, asFunc_bind]
theorem cellsAV_bind (P : Program) (t : TypeId) (a : AV) (F : List AV → Option β) : (cellsAV P t a F).bind k = cellsAV P t a fun q => (F q).bind k := by
  unfold cellsAV
  simp only [cond_bind]
  congr 1
  congr 1
  · split <;> simp [cond_bind]
  · congr 1; split <;> simp [normPV_bind]
theorem binInt_bind (op : BinOp) (kd : IntKind) (x y : Int) (F : PV → Option β) : (binInt op kd x y F).bind k = binInt op kd x y fun q => (F q).bind k := by
  cases op <;> simp [binInt, cond_bind]
theorem binStr_bind (op : BinOp) (x y : ByteArray) (F : PV → Option β) : (binStr op x y F).bind k = binStr op x y fun q => (F q).bind k := by
  cases op <;> simp [binStr, cond_bind]
theorem binShift_bind (op : BinOp) (kd : IntKind) (x y : Int) (F : PV → Option β) : (binShift op kd x y F).bind k = binShift op kd x y fun q => (F q).bind k := by
  cases op <;> simp [binShift, cond_bind]
theorem binBool_bind (op : BinOp) (x y : Bool) (F : PV → Option β) : (binBool op x y F).bind k = binBool op x y fun q => (F q).bind k := by
  cases op <;> simp [binBool]
theorem binAV_bind (P : Program) (op : BinOp) (t yt : TypeId) (a b : AV) (F : PV → Option β) : (binAV P op t yt a b F).bind k = binAV P op t yt a b fun q => (F q).bind k := by
  unfold binAV
  split
  · split
    · simp only [cond_bind]
      congr 1
      · split <;> simp [asInt_bind, binShift_bind]
      · simp [asInt_bind, binInt_bind]
    · simp [asStr_bind, binStr_bind]
    · simp [asBool_bind, binBool_bind]
    · rfl
  · rfl
theorem fillAV_bind (P : Program) (fs : Array Field) (sl : Nat → AV) : ∀ (l : List (Nat × Operand)) (cs : List AV) (F : List AV → Option β), (fillAV P fs sl l cs F).bind k = fillAV P fs sl l cs fun q => (F q).bind k
  | [], cs, F => rfl
  | (i, x) :: l, cs, F => by
    simp only [fillAV]
    split
    · simp only [cellsAV_bind, cond_bind, fillAV_bind P fs sl l]; rfl
    · rfl
theorem fillPV_bind (P : Program) (e : TypeId) (ob : Nat → Option Ob) (sl : Nat → AV) : ∀ (l : List (Nat × Operand)) (cs : List PV) (F : List PV → List (Nat × Ob) → Option β), (fillPV P e ob sl l cs F).bind k = fillPV P e ob sl l cs fun q f => (F q f).bind k
  | [], cs, F => rfl
  | (i, x) :: l, cs, F => by
    simp only [fillPV, cond_bind, cellsAV_bind, toPVA_bind, fillPV_bind P e ob sl l]; rfl
theorem partAV_bind (P : Program) (t : TypeId) (cs : List AV) (off : Nat) (F : AV → Option β) : (partAV P t cs off F).bind k = partAV P t cs off fun q => (F q).bind k := by
  unfold partAV
  simp only [cond_bind]
  congr 1
  congr 1
  split <;> rfl
theorem partPV_bind (P : Program) (e t : TypeId) (p : PV) (off : Nat) (F : PV → Option β) : (partPV P e t p off F).bind k = partPV P e t p off fun q => (F q).bind k := by
  unfold partPV; simp only [cond_bind]; rfl
theorem turnPV_bind (P : Program) (e t : TypeId) (p : PV) (off : Nat) (q : PV) (F : PV → Option β) : (turnPV P e t p off q F).bind k = turnPV P e t p off q fun q => (F q).bind k := by
  unfold turnPV; simp only [cond_bind]; rfl
theorem tell1_bind (own : Bool) (ob : Nat → Option Ob) (a : AV) (F : CV → List (Nat × Ob) → Option β) : (tell1 own ob a F).bind k = tell1 own ob a fun q f => (F q f).bind k := by
  unfold tell1
  simp only [cond_bind, toPVA_bind]
  congr 1
  split
  · rfl
  · split <;> simp [cond_bind]
  · rfl
theorem tellCells_bind (own : List Nat) (ob : Nat → Option Ob) : ∀ (l : List AV) (j : Nat) (F : List CV → List (Nat × Ob) → Option β), (tellCells own ob j l F).bind k = tellCells own ob j l fun q f => (F q f).bind k
  | [], j, F => rfl
  | a :: as, j, F => by simp only [tellCells, tell1_bind, tellCells_bind own ob as (j + 1)]
theorem argsK_bind (P : Program) (an : An) (own : List Nat) (ob : Nat → Option Ob) : ∀ (l : List (AV × TypeId)) (i : Nat) (F : List PA → List (Nat × Ob) → List (Nat × List (Nat × TypeId) × List AV) → Option β),
    (argsK P an own ob i l F).bind k = argsK P an own ob i l fun a b c => (F a b c).bind k
  | [], i, F => rfl
  | (x, t) :: l, i, F => by
    have ih := argsK_bind P an own ob l (i + 1)
    simp only [argsK]
    split
    · split
      · split
        · simp only [tellCells_bind, ih]
        · rfl
      · rfl
    · simp only [tell1_bind, ih]
theorem bR_bind (r : Option Ret) (F : Ret → Option β) : (bR r F).bind k = bR r fun q => (F q).bind k := by unfold bR; split <;> rfl
theorem callK_bind (P : Program) (an : An) (cf : FuncId → List PA → Option Ret) (f : FuncId) (caps : List PV) (ob : Nat → Option Ob) (args : List (AV × TypeId)) (d : Nat) (F : Delta → Option β) :
    (callK P an cf f caps ob args d F).bind k = callK P an cf f caps ob args d fun δ => (F δ).bind k := by
  unfold callK
  split
  · simp only [forceAV_eq, argsK_bind, cond_bind, bR_bind, Option.bind_none]
  · rfl
theorem boundK_bind (P : Program) (sl : Nat → AV) (x : Option Operand) (n : Nat) (F : Int → Option β) : (boundK P sl x n F).bind k = boundK P sl x n fun q => (F q).bind k := by
  unfold boundK; split
  · rfl
  · exact avInt_bind ..

theorem act_bind (P : Program) (an : An) (me : FuncId) (cf : FuncId → List PA → Option Ret) (o : Oper) (sl : Nat → AV) (ob : Nat → Option Ob) (F : Delta → Option β) :
    (act P an me cf o sl ob F).bind k = act P an me cf o sl ob fun δ => (F δ).bind k := by
  unfold act
  simp only
  split <;> (repeat' (first | rfl | (simp only [forceAV_eq, forceL_eq, cond_bind, asInt_bind, asBool_bind, asStr_bind, asList_bind, asFunc_bind, avInt_bind, avIdx_bind, avBool_bind, asRow_bind, toPV_bind, toPVs_bind, toPVA_bind, cellsAV_bind, binAV_bind, fillAV_bind, fillPV_bind, partAV_bind, partPV_bind, turnPV_bind, callK_bind, boundK_bind, Option.bind_none]; done) | split | simp only [cond_bind, asInt_bind, asBool_bind, asStr_bind, asList_bind, asFunc_bind, avInt_bind, avIdx_bind, avBool_bind, asRow_bind, toPV_bind, toPVs_bind, toPVA_bind, cellsAV_bind, binAV_bind, fillAV_bind, fillPV_bind, partAV_bind, partPV_bind, turnPV_bind, callK_bind, boundK_bind, Option.bind_none] | congr 1))
theorem act_some {P : Program} {an : An} {me : FuncId} {cf : FuncId → List PA → Option Ret} {o : Oper} {sl : Nat → AV} {ob : Nat → Option Ob} {F : Delta → Option α} {r : α} (h : act P an me cf o sl ob F = some r) :
    ∃ δ, act P an me cf o sl ob some = some δ ∧ F δ = some r := by
  have := act_bind F P an me cf o sl ob some
  simp only [Option.bind_some] at this
  rw [← this] at h
  exact Option.bind_eq_some_iff.1 h
end
end Go.Proofs.Sx
