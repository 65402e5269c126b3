/- Code that runs with what surrounds it as data: places (joins, loops) are leaves. -/
import Derived.Test.YtoeplmfcjonkgaaGreatSxTab
set_option linter.unusedVariables false
namespace Go.Proofs.Sx
open Go

inductive Ins where
  | run (c : Code)
  | fin (e : Ex)

section
variable (P : Program) (an : An) (me : FuncId) (cf : FuncId → List PA → Option Ret) (n : Nat) (rs : List ResultVar) (lp : List (AV × TypeId))

def placeK (b : Code) (s : St) (fr : List Fr) : Option Ret := exec P an me cf n b s (contK P an me cf n rs lp fr)
def loopK (b : Code) (m : Nat) (s : St) (fr : List Fr) : Option Ret := iter (fun s K => exec P an me cf n b s K) (an.loop me (firstReg b)) m s (contK P an me cf n rs lp fr)

variable (J : Code → St → List Fr → Option Ret) (JL : Code → Nat → St → List Fr → Option Ret)

def mach : Nat → Ins → St → List Fr → Option Ret
  | 0, .run c, s, fr => placeK P an me cf n rs lp c s fr
  | 0, .fin e, s, fr => contK P an me cf n rs lp fr e s
  | m + 1, .run c, s, fr =>
    match c with
    | .skip => mach m (.fin .normal) s fr
    | .region _ ops draw =>
      cond draw
        (runD P an me cf ops (List.range ops.size) [] s fun acc s' => cond (pairsOk ops acc && afterOk ops && P.follows .mixedOrders) (mach m (.fin .normal) s' fr) none)
        (runL P an me cf ops ops.toList s fun s' => mach m (.fin .normal) s' fr)
    | .seq a b => mach m (.run a) s (.seq b :: fr)
    | .cond c x y => avBool (opd P s.sl 0 c) fun b => cond b (mach m (.run x) (refine s c true) fr) (mach m (.run y) (refine s c false) fr)
    | .block id b => mach m (.run b) s (.block id :: fr)
    | .loop b => restrictK (an.loop me (firstReg b)) s fun s => JL b n s fr
    | .exit id => mach m (.fin (.exit id)) s fr
    | .ret => mach m (.fin .ret) s fr
    | _ => none
  | m + 1, .fin e, s, fr =>
    match fr with
    | [] =>
      match e with
      | .exit _ => none
      | _ => mkRet P an me rs lp s
    | .seq b :: fr =>
      match e with
      | .normal =>
        match an.join me (firstReg b) with
        | none => mach m (.run b) s fr
        | some l => restrictK l s fun s' => J b s' fr
      | .exit i => mach m (.fin (.exit i)) s fr
      | .ret => mach m (.fin .ret) s fr
    | .block id :: fr =>
      match e with
      | .normal => mach m (.fin .normal) s fr
      | .exit i => cond (Nat.beq i id) (mach m (.fin .normal) s fr) (mach m (.fin (.exit i)) s fr)
      | .ret => mach m (.fin .ret) s fr
    | .loop b k :: fr =>
      match e with
      | .normal => restrictK (an.loop me (firstReg b)) s fun s' => JL b k s' fr
      | .exit i => mach m (.fin (.exit i)) s fr
      | .ret => mach m (.fin .ret) s fr

theorem mach_eq (hJ : ∀ b s fr, J b s fr = placeK P an me cf n rs lp b s fr) (hL : ∀ b m s fr, JL b m s fr = loopK P an me cf n rs lp b m s fr) :
    ∀ m, (∀ c s fr, mach P an me cf n rs lp J JL m (.run c) s fr = placeK P an me cf n rs lp c s fr) ∧ (∀ e s fr, mach P an me cf n rs lp J JL m (.fin e) s fr = contK P an me cf n rs lp fr e s) := by
  intro m
  induction m with
  | zero => exact ⟨fun _ _ _ => rfl, fun _ _ _ => rfl⟩
  | succ m ih =>
    constructor
    · intro c s fr
      cases c <;> simp only [mach, ih.1, ih.2, placeK, exec, hL, loopK]
      case seq a b => rfl
      case block id b => rfl
    · intro e s fr
      cases fr with
      | nil => cases e <;> simp only [mach, contK]
      | cons f fr =>
        cases f with
        | seq b =>
          cases e <;> simp only [mach, contK, seqK, ih.1, ih.2]
          cases h : an.join me (firstReg b) <;> simp only [joinK, hJ, placeK]
        | block id => cases e <;> simp only [mach, contK, blockK, ih.2]
        | loop b k => cases e <;> simp only [mach, contK, seqK, ih.2, hL, loopK]

theorem ex_place : ∃ J : Code → St → List Fr → Option Ret, ∀ b s fr, J b s fr = placeK P an me cf n rs lp b s fr := ⟨_, fun _ _ _ => rfl⟩
theorem ex_loop : ∃ J : Code → Nat → St → List Fr → Option Ret, ∀ b m s fr, J b m s fr = loopK P an me cf n rs lp b m s fr := ⟨_, fun _ _ _ _ => rfl⟩
/-- The same, not to be looked into. -/
noncomputable def plc : Code → St → List Fr → Option Ret := Classical.choose (ex_place P an me cf n rs lp)
noncomputable def lp_ : Code → Nat → St → List Fr → Option Ret := Classical.choose (ex_loop P an me cf n rs lp)
theorem plc_eq (b s fr) : plc P an me cf n rs lp b s fr = placeK P an me cf n rs lp b s fr := Classical.choose_spec (ex_place P an me cf n rs lp) b s fr
theorem lp_eq (b m s fr) : lp_ P an me cf n rs lp b m s fr = loopK P an me cf n rs lp b m s fr := Classical.choose_spec (ex_loop P an me cf n rs lp) b m s fr

theorem plc_run {c : Code} {s : St} {fr : List Fr} {t : Option Ret} (h : mach P an me cf n rs lp (plc P an me cf n rs lp) (lp_ P an me cf n rs lp) 100000 (.run c) s fr = t) :
    plc P an me cf n rs lp c s fr = t := by
  rw [← h, (mach_eq P an me cf n rs lp _ _ (plc_eq P an me cf n rs lp) (lp_eq P an me cf n rs lp) 100000).1, plc_eq]
theorem lp_run {b : Code} {m : Nat} {s : St} {fr : List Fr} {t : Option Ret} (h : mach P an me cf n rs lp (plc P an me cf n rs lp) (lp_ P an me cf n rs lp) 100000 (.run b) s (.loop b m :: fr) = t) :
    lp_ P an me cf n rs lp b (m + 1) s fr = t := by
  rw [← h, (mach_eq P an me cf n rs lp _ _ (plc_eq P an me cf n rs lp) (lp_eq P an me cf n rs lp) 100000).1, lp_eq]
  rfl
theorem lp_zero {b : Code} {s : St} {fr : List Fr} : lp_ P an me cf n rs lp b 0 s fr = none := by
  rw [lp_eq]; rfl
end

theorem sem_run {P : Program} {an : An} {f : FuncId} {fn : Func} {c : Code} {args : List PA} {k : Nat} {t : Option Ret} (hf : P.funcs[f]? = some fn) (hb : fn.body = some c) (hs : an.sum f = none)
    (hn : nodupN ((entO 0 args).map (·.1)) = true)
    (h : mach P an f (sem P an k) k fn.results.toList (lentParams fn.params 0 args) (plc P an f (sem P an k) k fn.results.toList (lentParams fn.params 0 args)) (lp_ P an f (sem P an k) k fn.results.toList (lentParams fn.params 0 args)) 100000 (.run c) (ent0 fn args) [] = t) :
    sem P an (k + 1) f args = t := by
  rw [← h, (mach_eq P an f _ k _ _ _ _ (plc_eq P an f _ k _ _) (lp_eq P an f _ k _ _) 100000).1]
  simp only [sem, hs, hf, hb, hn, cond, placeK]
end Go.Proofs.Sx
