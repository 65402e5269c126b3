/-
  PROVED HERE: 'Rows.FoldSaysSaid' ('publican/publicanlaw15.FoldSays'): for every string the call returns true, and the string reads afterwards as it read before. No condition: whatever the string.
  The frame of this text began as the kit's shell (proof-skeleton.mjs); the walk is by the interpreter of the texts ahead.
-/
import Derived.Test.YtoeplmfcjonkgaaGreatRows
import Derived.WalkKit
import Derived.ProofKit
import Derived.OpenShut
import Derived.ShutString
import Derived.Below
import Derived.Test.YtoeplmfcjonkgaaGreatZAwake
import Derived.Test.YtoeplmfcjonkgaaGreatZSums
namespace Go.Proofs.YtoeplmfcjonkgaaGreat.foldSays
open Go.ChangeShapes Go.WideShapes Go.ChangeAt Go.RowKit
open Go.ChangeMaps (open_string shut_string)
open Go.Proofs
set_option linter.unusedVariables false      -- a walk need not use every 'w<i>' (that an integer argument fits its kind)

theorem own : ownKnob Tryz.prog.godebug = none := by kernel_rfl

open Go.Proofs.Sx in
set_option maxRecDepth 100000 in
/-- The walk: the interpreter tells it. -/
theorem walk (a0 : ByteArray) (w : World) : Calls Tryz.prog 3 #[.string a0] w fun e w' => e = .returned (.bool true) ∧ Below w.heap.size w w' := by
  obtain ⟨r, n, rfl, h⟩ := (Sx.Z.foldSays_sem a0).sound
  have hs := Sx.Z.told h w (fun _ => False) [.string a0] [] ⟨.cons (bs := []) (bs' := []) (.v _ _ (.str _)) .nil, List.nodup_nil, fun b hb => by simp at hb, fun b hb => by simp at hb, fun b hb => hb.elim⟩
  refine (calls_of_goes Tryz.func3 (Sx.Z.hN _ _ Tryz.func3) rfl hs).mono fun e w' h => ?_
  cases e with
  | returned v =>
    obtain ⟨vs, ok', bs', h⟩ := h
    have hp := h.pre.rel
    have hv := h.val
    have hl := h.len
    have hsame := h.same
    refine ⟨?_, ⟨hsame.os, hsame.tape, hsame.output, hsame.size, fun k hk => hsame.block k hk (by simp)⟩⟩
    match vs, hl with
    | [u], _ =>
      cases hp with
      | cons h1 _ =>
        cases h1 with
        | v _ _ h1 =>
          cases h1
          rw [hv]; rfl
  | panicked c => exact h.elim
  | outgrown => exact h.elim

set_option maxRecDepth 100000 in
theorem lifted (os : Os) (started : os.Started) (H : Type) (enc : TypeId × Value → H) :
    ReturnsInHanded {} Tryz.checked os 3 .any (Rows.foldSaysSpec.pre6 enc Tryz.prog Tryz.f3 Rows.foldSaysRow.domain false) (Rows.foldSaysSpec.post enc Tryz.prog Tryz.f3 false true false false) := by
  refine returnsInHanded_of_change (C := Tryz.checked) own started (by kernel_rfl) Tryz.func3
    (ChangeSpec.witness6 (enc := enc) (C := Tryz.checked) false ⟨#[], #[.string ByteArray.empty], []⟩ 8 (by kernel_rfl) (by kernel_rfl) (by kernel_rfl) (by kernel_rfl)) ?_
  intro W base args ds gs before hval0 hW hcnd _
  have hval : ∀ (j : Nat) t v, Tryz.f3.params[j]? = some t → args[j]? = some v → Value.okWide Tryz.prog W .any base t v := hval0
  have hW' := hW
  obtain ⟨p, q, hA0, hV, rfl, hfz, hnd⟩ := hW
  have hA : DataW.TrodAll enc Tryz.prog W 0 (fun _ => true) true Tryz.f3.params.toList args.toList ds p := hA0
  rw [Tryz.params3] at hA hval
  obtain ⟨v0, vs0, d0, ds0, p0, q0, hargs, rfl, rfl, h0, r0⟩ := trodAll_cons hA
  obtain ⟨rfl, rfl, rfl⟩ := trodAll_nil r0
  obtain rfl : args = #[v0] := by cases args; simp_all
  obtain ⟨rfl, rfl⟩ := trodVars_none hV
  obtain ⟨a0, rfl, rfl, rfl, w0⟩ := open_string Tryz.underlying9 (hval 0 9 v0 rfl rfl) h0
  clear hA0 hval0
  simp only [List.append_nil] at hW'
  refine (walk a0 W).mono fun e W' ⟨he, bel⟩ => ?_
  subst he
  exact ⟨_, rfl, _, _, _, [], _, [], hW', trodAll_mk1 (shut_bool Tryz.underlying4 _), (trodAll_cons_mk (shut_string Tryz.underlying9 w0) trodAll_mk0), rfl, bel.frame _, fun h => by cases h⟩

theorem over : Rows.foldSaysRow.holds Tryz.pinned (OpenSpec.ofChange Rows.foldSaysSpec) :=
  OpenClaim.holds_of_wide 3 Tryz.f3 rfl rfl rfl rfl rfl rfl rfl ⟨rfl, rfl, rfl, rfl, rfl⟩ rfl rfl rfl rfl rfl (by kernel_rfl) Tryz.func3 (by kernel_rfl)
    (of_decide_eq_true (by kernel_rfl)) (by unfold Func.isWrapper; first | (rw [if_pos (by decide +kernel)]; kernel_rfl) | (rw [if_neg (by decide +kernel)]; exact ⟨rfl, rfl⟩))
    (fun os started H enc _ => lifted os started H enc)

/-- ████ THE STATEMENT ████ -/
theorem proved : Rows.FoldSaysSaid :=
  over
#print axioms proved
end Go.Proofs.YtoeplmfcjonkgaaGreat.foldSays
