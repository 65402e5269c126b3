/- slices.Clone; math/bits' Add64, Sub64: what is told of them holds. -/
import Derived.Test.YtoeplmfcjonkgaaGreatSxSum
import Derived.Test.YtoeplmfcjonkgaaGreatSxTab
import GoSem.Extern.Table
set_option linter.unusedVariables false
set_option linter.unusedSimpArgs false
namespace Go.Proofs.Sx
open Go
section
variable {P : Program} {C : Ctx} {G : Gh} {s : St} {a : Act} {w : World}
variable {an : An} {me : FuncId} {cf : FuncId → List PA → Option Ret}

def isNilB : Value → Bool
  | .slice none _ _ => true
  | _ => false
theorem eql_nil {T E : TypeId} (hT : P.underlying T = some (.slice E)) {a0 : Option Addr} {n c : Nat} {x : Operand} {o : Oper} (ho : o.op = .binOp .eql T x (.const (.slice none 0 0)) T) (hx : a.eval x = .slice a0 n c) :
    (execOp a.eval o).run P w = .ok (.value (.bool a0.isNone)) w := by
  have h0 : ∀ d, (Op.equalIn (d + 1) T (.slice a0 n c) (.slice none 0 0)).run P w = .ok a0.isNone w := by
    intro d
    have hu : (underlying T).run P w = .ok (.slice E) w := by simp [underlying, hT]
    unfold Op.equalIn
    cases a0 <;> simp [hu]
  have h1 : (Go.binOp .eql T (.slice a0 n c) (.slice none 0 0)).run P w = .ok (.bool a0.isNone) w := by
    have h2 := h0 9999
    rw [show Go.binOp .eql T (.slice a0 n c) (.slice none 0 0) = (do pure (.bool (← Op.equalIn (9999 + 1) T (.slice a0 n c) (.slice none 0 0)))) from rfl]
    simp [h2]
  have hc : a.eval (.const (.slice none 0 0)) = .slice none 0 0 := rfl
  simp [execOp, ho, hx, hc, eqGuard, h1]

def cloneF (P : Program) (an : An) (me : FuncId) (cf : FuncId → List PA → Option Ret) (rs : List ResultVar) (lp : List (AV × TypeId)) (X Y : Code) (b : Bool) (s2 : St) : Option Ret :=
  applyD s2 (some 4) ⟨.pv (.bool b), [], []⟩ fun s3 => exec P an me cf 5 (.cond (.tmp 4) X .skip) s3 fun e s' => match e with
    | .normal => exec P an me cf 5 Y s' fun e s' => match e with
      | .exit _ => none
      | _ => mkRet P an me rs lp s'
    | .ret => mkRet P an me rs lp s'
    | .exit _ => none
def cloneK (P : Program) (an : An) (me : FuncId) (cf : FuncId → List PA → Option Ret) (rs : List ResultVar) (lp : List (AV × TypeId)) (X Y : Code) (s2 : St) : Option (List PV × Ret × Ret) :=
  match s2.sl 3 with
  | .pv (.list _ xs) => (cloneF P an me cf rs lp X Y true s2).bind fun r1 => (cloneF P an me cf rs lp X Y false s2).bind fun r2 => some (xs, r1, r2)
  | _ => none

theorem clone_sound (hact : ActOK P an me cf) {fn : Func} {iA iB : Nat} {oA o0 o1 : Oper} {X Y : Code} {T E e : TypeId} {xs : List PV}
    (hf : P.funcs[me]? = some fn) (hname : (fn.name == "runtime.NumGoroutine") = false)
    (hb : fn.body = some (.seq (.region iA #[oA] false) (.seq (.seq (.region iB #[o0, o1] false) (.cond (.tmp 4) X .skip)) Y)))
    (hT : P.underlying T = some (.slice E)) (h1 : o1.op = .binOp .eql T (.tmp 3) (.const (.slice none 0 0)) T) (h1g : o1.guard = none) (h1d : o1.dst = some 4)
    (hids : nodupN ((entO 0 [PA.v (.list e xs)]).map (·.1)) = true)
    (hF : (stepK P an me cf #[oA] oA (ent0 fn [.v (.list e xs)]) fun s1 => stepK P an me cf #[o0, o1] o0 s1 (cloneK P an me cf fn.results.toList (lentParams fn.params 0 [.v (.list e xs)]) X Y)) = some (xs, ⟨[.own e []], []⟩, ⟨[.own e xs], []⟩)) :
    Spec P me [.v (.list e xs)] ⟨[.own e xs], []⟩ := by
  intro w ok vals bs hpre
  refine goes_of_calls hf hname hb (calls_of_wp hf hb ?_)
  have fin : ∀ {s' a' w'} {r : Ret} (hr : r = ⟨[.own e xs], []⟩), Rel P ⟨w, ok, (· ∈ bs), lentAt [.v (.list e xs)] vals⟩ s' a' w' → mkRet P an me fn.results.toList (lentParams fn.params 0 [.v (.list e xs)]) s' = some r →
      a'.defers = [] ∧ ∃ v, (results fn a'.tmps).run P w' = .ok v w' ∧ ∃ vs ok' bs', Post P ok w bs (lentVals [.v (.list e xs)] vals) ⟨[.own e xs], []⟩ v w' vs ok' bs' := by
    rintro s' a' w' r rfl hR hk
    exact ⟨by obtain ⟨G, R⟩ := hR; exact R.dfr, exit_sound hpre.rel hR hk⟩
  refine wp_seq (wp_region ?_)
  show wpOps P #[oA] _ [0] _ _
  rw [wpOps_cons]
  refine stepK_sound hact hF (entry_sound hpre hids) rfl fun s1 a1 w1 R1 h2 => ?_
  show Code.wp _ _ _ _ _
  refine wp_seq (wp_seq (wp_region ?_))
  show wpOps P #[o0, o1] _ [0, 1] _ _
  rw [wpOps_cons]
  refine stepK_sound hact h2 R1 rfl fun s2 a2 w2 R2 h3 => ?_
  rw [wpOps_cons]
  unfold cloneK at h3
  split at h3
  · rename_i e' xs' hsl
    obtain ⟨r1, hr1, h3⟩ := Option.bind_eq_some_iff.1 h3
    obtain ⟨r2, hr2, h3⟩ := Option.bind_eq_some_iff.1 h3
    simp only [Option.some.injEq, Prod.mk.injEq] at h3
    obtain ⟨rfl, rfl, rfl⟩ := h3
    obtain ⟨G2, RG2⟩ := R2
    have hv : RepV P G2.ok w2 (.list e' xs') (a2.eval (.tmp 3)) := by
      have := RG2.sl 3
      rw [hsl] at this
      exact rel_pv this
    obtain ⟨a0, n, c, he, hn⟩ : ∃ a0 n c, a2.eval (.tmp 3) = .slice a0 n c ∧ (a0 = none → xs' = []) := by
      generalize a2.eval (.tmp 3) = u at hv
      cases hv with
      | nil _ a0 c => exact ⟨_, _, _, rfl, fun _ => rfl⟩
      | list _ _ b o c vs hx => exact ⟨_, _, _, rfl, fun h => by cases h⟩
    have hop := eql_nil (w := w2) hT h1 he
    -- whatever the compare says
    obtain ⟨b, hb2⟩ : ∃ b, a0.isNone = b := ⟨_, rfl⟩
    have hcl : ∃ r, cloneF P an me cf fn.results.toList (lentParams fn.params 0 [.v (.list e xs')]) X Y b s2 = some r ∧ r = ⟨[.own e xs'], []⟩ := by
      cases b with
      | true =>
        have := hn (by simpa using hb2)
        subst this
        exact ⟨_, hr1, rfl⟩
      | false => exact ⟨_, hr2, rfl⟩
    obtain ⟨r, hcl, hr⟩ := hcl
    unfold cloneF at hcl
    obtain ⟨k1, k2, k3, h4⟩ := applyD_some hcl
    unfold wpOp
    show if Region.wanted o1 _ = true then _ else _
    have hw : Region.wanted o1 (yielded #[o0, o1] a2.tmps) = true := by simp [Region.wanted, h1g]
    rw [if_pos hw]
    have hgoal := goal_pure (C := ⟨w, ok, (· ∈ bs), lentAt [.v (.list e xs')] vals⟩) (o := o1) RG2 hop (.pv (.bool a0.isNone) _ (.bool _))
    rw [hb2] at hgoal
    refine .inl (hgoal (by rw [h1d]; exact k1) k2 k3 _ _ fun a3 w3 R3 => ?_)
    rw [h1d] at R3
    refine exec_sound hact 5 _ _ _ _ _ _ h4 R3 fun ex s' a' w' R' h5 => ?_
    cases ex with
    | normal =>
      refine exec_sound hact 5 _ _ _ _ _ _ h5 R' fun ex s' a' w' R' h6 => ?_
      cases ex with
      | normal => exact fin hr R' h6
      | ret => exact fin hr R' h6
      | exit i => cases h6
    | ret => exact fin hr R' h5
    | exit i => cases h5
  · cases h3

/-- A function without a body, of numbers alone. -/
theorem extern_sound {f : FuncId} {fn : Func} {args : List PA} {r : Ret} (hf : P.funcs[f]? = some fn) (hname : (fn.name == "runtime.NumGoroutine") = false) (hb : fn.body = none) (hn : Extern.findNext fn = none) {row : Array Value → Sem Value}
    (he : Extern.find fn = some row) (h : ∀ (w : World) (ok : Nat → Prop) (vals : List Value) (bs : List Nat), PAsRel P ok w args vals bs → bs = [] ∧ ∃ vs, (row vals.toArray).run P w = .ok (pack vs) w ∧ PAsRel P ok w (retPAs r) (vs ++ lentVals args vals) [] ∧ vs.length = r.res.length) :
    Spec P f args r := by
  intro w ok vals bs hpre
  obtain ⟨rfl, vs, hrun, hrel, hl⟩ := h w ok vals bs hpre.rel
  unfold Goes
  have h1 : fn.name ≠ "runtime.NumGoroutine" := by simpa using hname
  have hr : (callFunc f vals.toArray).run P w = .ok (.value (pack vs)) w := by
    simp [callFunc, hf, h1, hb, hn, he, hrun]
  rw [hr]
  exact ⟨vs, ok, [], rfl, ⟨hrel, List.nodup_nil, fun b hb => by simp at hb, fun b hb => by simp at hb, hpre.okS⟩, hl, fun b h => h, fun b h => .inl h, fun b hb => by simp at hb, Same.refl w _⟩
end
end Go.Proofs.Sx
