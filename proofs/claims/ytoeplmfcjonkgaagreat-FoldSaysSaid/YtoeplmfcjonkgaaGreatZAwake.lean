/- The law's watch over the reference. -/
import Derived.Test.YtoeplmfcjonkgaaGreatZFold4
import Derived.Test.YtoeplmfcjonkgaaGreatZOps3
import Derived.KernelRfl
namespace Go.Proofs.Sx.Z
open Go
theorem awake_sem (j : Nat) : sem P an (j + 100) 12 [] = some ⟨[.v (.bool true)], []⟩ := by kernel_rfl
theorem awake_ev : Ev P an 12 [] (OneP (.bool true)) := ⟨⟨[.v (.bool true)], []⟩, 100, rfl, fun k _ _ hk _ _ => by obtain ⟨j, rfl⟩ : ∃ j, k = j + 100 := ⟨k - 100, by omega⟩; exact awake_sem j⟩
theorem foldSays_sem (s : ByteArray) : Ev P an 3 [.v (.str s)] (OneP (.bool true)) := foldSays_ev ops_both awake_ev s
end Go.Proofs.Sx.Z
