/- What is told by hand of functions that the interpreter doesn't follow. -/
import Derived.Test.YtoeplmfcjonkgaaGreatSxMach
namespace Go.Proofs.Sx
open Go
/-- slices.Clone: a row of one's own. -/
def cloneSum (e by_ : Nat) (args : List PA) : Option Ret :=
  match args with
  | [.v (.list e' xs)] => cond (Nat.beq e' e && (Nat.ble ((0 + xs.length) * by_) 140737488355328 && Nat.ble (0 + xs.length) 9223372036854775807)) (some ⟨[.own e xs], []⟩) none
  | _ => none
def two64 : Nat := 18446744073709551616
/-- bits.Add64, bits.Sub64. -/
def add64Sum (args : List PA) : Option Ret :=
  match args with
  | [.v (.int .u64 x), .v (.int .u64 y), .v (.int .u64 c)] =>
    cond (Nat.ble c.toNat 1) (some ⟨[.v (.int .u64 (((x.toNat + y.toNat + c.toNat) % two64 : Nat) : Int)), .v (.int .u64 (((x.toNat + y.toNat + c.toNat) / two64 : Nat) : Int))], []⟩) none
  | _ => none
def sub64Sum (args : List PA) : Option Ret :=
  match args with
  | [.v (.int .u64 x), .v (.int .u64 y), .v (.int .u64 b)] =>
    cond (Nat.ble b.toNat 1) (some ⟨[.v (.int .u64 (((x.toNat + two64 - y.toNat - b.toNat) % two64 : Nat) : Int)), .v (.int .u64 (cond (Nat.blt x.toNat (y.toNat + b.toNat)) 1 0))], []⟩) none
  | _ => none
end Go.Proofs.Sx
