/- What is told of functions by hand, holds; and so what the interpreter tells. -/
import Derived.Test.YtoeplmfcjonkgaaGreatSxClone
import Derived.Test.YtoeplmfcjonkgaaGreatZEqB
import Derived.KernelRfl
set_option linter.unusedVariables false
set_option linter.unusedSimpArgs false
namespace Go.Proofs.Sx.Z
open Go
theorem hN (f : FuncId) (fn : Func) (hf : P.funcs[f]? = some fn) : (fn.name == "runtime.NumGoroutine") = false := by
  have h : P.funcs.all (fun fn => !(fn.name == "runtime.NumGoroutine")) = true := by kernel_rfl
  obtain ⟨hi, rfl⟩ := Array.getElem?_eq_some_iff.1 hf
  have := (Array.all_eq_true.1 h) f hi
  simpa using this

def clA : Oper := { dst := some 2, op := .assign (.const (.slice none 0 0)), type := 24, pos := "slices.go:355", after := #[], guard := none }
def cl0 : Oper := { dst := some 3, op := .move (.tmp 0), type := 24, pos := "slices.go:357", after := #[], guard := none }
def cl1 : Oper := { dst := some 4, op := .binOp .eql 24 (.tmp 3) (.const (.slice none 0 0)) 24, type := 4, pos := "slices.go:357", after := #[{ on := 0, ground := .data }], guard := none }
noncomputable def clX : Code := subc (bodyOf P 49) [1, 0, 1, 0]
noncomputable def clY : Code := subc (bodyOf P 49) [1, 1]
theorem clBody : Tryz.f49.body = some (.seq (.region 0 #[clA] false) (.seq (.seq (.region 1 #[cl0, cl1] false) (.cond (.tmp 4) clX .skip)) clY)) := by kernel_rfl

theorem cl_chain (xs : List PV) :
    (stepK P an 49 (fun _ _ => none) #[clA] clA (ent0 Tryz.f49 [.v (.list 26 xs)]) fun s1 =>
      stepK P an 49 (fun _ _ => none) #[cl0, cl1] cl0 s1 (cloneK P an 49 (fun _ _ => none) Tryz.f49.results.toList (lentParams Tryz.f49.params 0 [.v (.list 26 xs)]) clX clY)) =
    (cond (Nat.ble ((0 + xs.length) * 80) 140737488355328 && Nat.ble (0 + xs.length) 9223372036854775807) (some (⟨[.own 26 ([] ++ xs)], []⟩ : Ret)) none).bind fun r2 => some (xs, ⟨[.own 26 []], []⟩, r2) := by kernel_rfl

theorem actNone : ActOK P an 49 (fun _ _ => none) := act_ok fun _ _ _ h => by cases h

theorem cond_some' {α : Type} {b : Bool} {x : Option α} {r : α} (h : cond b x none = some r) : b = true ∧ x = some r := by
  cases b with
  | true => exact ⟨rfl, h⟩
  | false => cases h
set_option maxRecDepth 100000 in
theorem clone_spec {args : List PA} {r : Ret} (h : cloneSum 26 80 args = some r) : Spec P 49 args r := by
  unfold cloneSum at h
  split at h
  · rename_i e' xs
    obtain ⟨hb, h⟩ := cond_some' h
    simp only [Option.some.injEq] at h
    subst h
    rw [Bool.and_eq_true] at hb
    obtain ⟨he, hb⟩ := hb
    have := Nat.eq_of_beq_eq_true he
    subst this
    refine clone_sound actNone Tryz.func49 (hN _ _ Tryz.func49) clBody Tryz.underlying24 rfl rfl rfl rfl ?_
    rw [cl_chain, hb]
    rfl
  · cases h

theorem three_u64 {ok : Nat → Prop} {w : World} {vals : List Value} {bs : List Nat} {x y c : Int} (h : PAsRel P ok w [.v (.int .u64 x), .v (.int .u64 y), .v (.int .u64 c)] vals bs) :
    vals = [.int .u64 x, .int .u64 y, .int .u64 c] ∧ bs = [] := by
  cases h with
  | cons h1 t => cases t with
    | cons h2 t => cases t with
      | cons h3 t => cases t with
        | nil =>
          cases h1 with | v _ _ h1 =>
          cases h2 with | v _ _ h2 =>
          cases h3 with | v _ _ h3 =>
          cases h1; cases h2; cases h3
          exact ⟨rfl, rfl⟩
theorem two_rel {ok : Nat → Prop} {w : World} {a b : Int} : PAsRel P ok w [.v (.int .u64 a), .v (.int .u64 b)] [.int .u64 a, .int .u64 b] [] :=
  PAsRel.cons (bs := []) (bs' := []) (.v _ _ (.int ..)) (PAsRel.cons (bs := []) (bs' := []) (.v _ _ (.int ..)) .nil)

def thr (n : String) (x y : Int) (c : Nat) : Sem (Nat × Nat × Nat) := do
  if c > 1 then unsupported (.noEntry ("extern/math/bits." ++ n ++ ": a carry that is neither 0 nor 1"))
  pure ((← Go.asInt (.int .u64 x)).toNat, (← Go.asInt (.int .u64 y)).toNat, c)
theorem three_eq (n : String) (x y c : Int) : Extern.MathBitsCarry.three n [Value.int .u64 x, .int .u64 y, .int .u64 c].toArray = (Go.asInt (.int .u64 c) >>= fun c => thr n x y c.toNat) := rfl
theorem asInt_run (n : Int) (w : World) : (Go.asInt (.int .u64 n)).run P w = .ok n w := rfl
theorem three_run (n : String) (x y c : Int) (hc : c.toNat ≤ 1) (w : World) : (Extern.MathBitsCarry.three n [Value.int .u64 x, .int .u64 y, .int .u64 c].toArray).run P w = .ok (x.toNat, y.toNat, c.toNat) w := by
  rw [three_eq]
  have h : ∀ k, k ≤ 1 → (thr n x y k).run P w = .ok (x.toNat, y.toNat, k) w := by
    intro k hk
    unfold thr
    rw [if_neg (by omega)]
    simp only [Sem.run_bind, asInt_run, Result.andThen_ok]
    rfl
  simp only [Sem.run_bind, asInt_run, Result.andThen_ok, h _ hc]
set_option maxRecDepth 100000 in
theorem add64_spec {args : List PA} {r : Ret} (h : add64Sum args = some r) : Spec P 222 args r := by
  unfold add64Sum at h
  split at h
  · rename_i x y c
    obtain ⟨hb, h⟩ := cond_some' h
    simp only [Option.some.injEq] at h
    subst h
    have hc := Nat.le_of_ble_eq_true hb
    refine extern_sound Tryz.func222 (hN _ _ Tryz.func222) (by kernel_rfl) (by kernel_rfl) (row := fun args => do
      let (x, y, c) ← Extern.MathBitsCarry.three "Add64" args
      pure (Extern.MathBitsCarry.pair ((x + y + c) % Extern.MathBitsCarry.m64) ((x + y + c) / Extern.MathBitsCarry.m64))) (by kernel_rfl) fun w ok vals bs hr => ?_
    obtain ⟨rfl, rfl⟩ := three_u64 hr
    refine ⟨rfl, [.int .u64 _, .int .u64 _], ?_, two_rel, rfl⟩
    simp only [Sem.run_bind, three_run _ _ _ _ hc, Result.andThen_ok]
    rfl
  · cases h
set_option maxRecDepth 100000 in
theorem sub64_spec {args : List PA} {r : Ret} (h : sub64Sum args = some r) : Spec P 220 args r := by
  unfold sub64Sum at h
  split at h
  · rename_i x y c
    obtain ⟨hb, h⟩ := cond_some' h
    simp only [Option.some.injEq] at h
    subst h
    have hc := Nat.le_of_ble_eq_true hb
    refine extern_sound Tryz.func220 (hN _ _ Tryz.func220) (by kernel_rfl) (by kernel_rfl) (row := fun args => do
      let (x, y, b) ← Extern.MathBitsCarry.three "Sub64" args
      pure (Extern.MathBitsCarry.pair ((x + Extern.MathBitsCarry.m64 - y - b) % Extern.MathBitsCarry.m64) (if x < y + b then 1 else 0))) (by kernel_rfl) fun w ok vals bs hr => ?_
    obtain ⟨rfl, rfl⟩ := three_u64 hr
    refine ⟨rfl, [.int .u64 _, .int .u64 _], ?_, two_rel, rfl⟩
    simp only [Sem.run_bind, three_run _ _ _ _ hc, Result.andThen_ok]
    cases hlt : Nat.blt x.toNat (y.toNat + c.toNat) with
    | true => rw [if_pos (by simp [Nat.blt] at hlt; omega)]; rfl
    | false => rw [if_neg (by intro h; have h2 : Nat.blt x.toNat (y.toNat + c.toNat) = true := Nat.ble_eq_true_of_le h; rw [hlt] at h2; cases h2)]; rfl
  · cases h

set_option maxRecDepth 100000 in
theorem sums_sound (f : FuncId) (h : List PA → Option Ret) (args : List PA) (r : Ret) (hf : an.sum f = some h) (hr : h args = some r) : Spec P f args r := by
  have hf : lkR none sums f = some h := hf
  unfold sums at hf
  simp only [lkR] at hf
  cases h1 : Nat.beq 49 f <;> rw [h1] at hf <;> simp only [cond] at hf
  · cases h2 : Nat.beq 222 f <;> rw [h2] at hf <;> simp only [cond] at hf
    · cases h3 : Nat.beq 220 f <;> rw [h3] at hf <;> simp only [cond] at hf
      · cases hf
      · cases hf; have := Nat.eq_of_beq_eq_true h3; subst this; exact sub64_spec hr
    · cases hf; have := Nat.eq_of_beq_eq_true h2; subst this; exact add64_spec hr
  · cases hf; have := Nat.eq_of_beq_eq_true h1; subst this; exact clone_spec hr

set_option maxRecDepth 100000 in
/-- WHAT THE INTERPRETER TELLS OF THE PROGRAM HOLDS. -/
theorem told {n : Nat} {f : FuncId} {args : List PA} {r : Ret} (h : sem P an n f args = some r) : Spec P f args r := sem_sound (P := P) (an := an) hN sums_sound n f args r h
end Go.Proofs.Sx.Z
