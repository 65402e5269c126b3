/- Tables of what is told ahead of a program's functions. -/
import Derived.Test.YtoeplmfcjonkgaaGreatSxSem
import Derived.KernelRfl
namespace Go.Proofs.Sx
open Go
def noLoop : LoopAn := ⟨[], [], [], []⟩
def lkR {α : Type} (d : α) (l : List (Nat × α)) (r : Nat) : α :=
  match l with
  | [] => d
  | (i, a) :: l => cond (Nat.beq i r) a (lkR d l r)
def lkF {α : Type} (d : α) (l : List (Nat × List (Nat × α))) (f r : Nat) : α := lkR d (lkR [] l f) r
end Go.Proofs.Sx
