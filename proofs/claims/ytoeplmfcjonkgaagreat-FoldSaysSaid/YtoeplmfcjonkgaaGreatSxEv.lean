/- What a computation comes to, with fuel enough: rules for the printed trees. -/
import Derived.Test.YtoeplmfcjonkgaaGreatSxSum
namespace Go.Proofs.Sx
open Go

/-- With fuel enough it comes to a result of which Q holds. -/
def Ev3 (F : Nat → Nat → Nat → Option Ret) (Q : Ret → Prop) : Prop := ∃ r n, Q r ∧ ∀ k m0 m1, n ≤ k → n ≤ m0 → n ≤ m1 → F k m0 m1 = some r

section
variable {F G X Y : Nat → Nat → Nat → Option Ret} {Q Q' : Ret → Prop}
theorem Ev3.mono (h : Ev3 F Q) (hq : ∀ r, Q r → Q' r) : Ev3 F Q' := let ⟨r, n, h1, h2⟩ := h; ⟨r, n, hq r h1, h2⟩
theorem Ev3.ret {r : Ret} (h : Q r) : Ev3 (fun _ _ _ => some r) Q := ⟨r, 0, h, fun _ _ _ _ _ _ => rfl⟩
theorem Ev3.fn {F G : Nat → Option Ret} (he : ∀ k, F (k + 1) = G k) (h : Ev3 (fun k _ _ => G k) Q) : Ev3 (fun k _ _ => F k) Q := by
  obtain ⟨r, n, h1, h2⟩ := h
  refine ⟨r, n + 1, h1, fun k m0 m1 hk _ _ => ?_⟩
  obtain ⟨k, rfl⟩ : ∃ j, k = j + 1 := ⟨k - 1, by omega⟩
  exact (he k).trans (h2 k (n + 1) (n + 1) (by omega) (by omega) (by omega))
theorem Ev3.eq (he : ∀ k m0 m1, F k m0 m1 = G k m0 m1) (h : Ev3 G Q) : Ev3 F Q := by
  obtain ⟨r, n, h1, h2⟩ := h
  exact ⟨r, n, h1, fun k m0 m1 a b c => (he k m0 m1).trans (h2 k m0 m1 a b c)⟩
theorem Ev3.loop0 (he : ∀ k m0 m1, F k (m0 + 1) m1 = G k m0 m1) (h : Ev3 G Q) : Ev3 F Q := by
  obtain ⟨r, n, h1, h2⟩ := h
  refine ⟨r, n + 1, h1, fun k m0 m1 hk hm hm1 => ?_⟩
  obtain ⟨m0, rfl⟩ : ∃ j, m0 = j + 1 := ⟨m0 - 1, by omega⟩
  exact (he k m0 m1).trans (h2 k m0 m1 (by omega) (by omega) (by omega))
theorem Ev3.loop1 (he : ∀ k m0 m1, F k m0 (m1 + 1) = G k m0 m1) (h : Ev3 G Q) : Ev3 F Q := by
  obtain ⟨r, n, h1, h2⟩ := h
  refine ⟨r, n + 1, h1, fun k m0 m1 hk hm hm1 => ?_⟩
  obtain ⟨m1, rfl⟩ : ∃ j, m1 = j + 1 := ⟨m1 - 1, by omega⟩
  exact (he k m0 m1).trans (h2 k m0 m1 (by omega) (by omega) (by omega))
/-- A loop is entered. -/
theorem Ev3.in0 {F : Nat → Nat → Nat → Option Ret} (h : Ev3 F Q) : Ev3 (fun k _ m1 => F k k m1) Q := by
  obtain ⟨r, n, h1, h2⟩ := h
  exact ⟨r, n, h1, fun k _ m1 a _ c => h2 k k m1 a a c⟩
theorem Ev3.in1 {F : Nat → Nat → Nat → Option Ret} (h : Ev3 F Q) : Ev3 (fun k m0 _ => F k m0 k) Q := by
  obtain ⟨r, n, h1, h2⟩ := h
  exact ⟨r, n, h1, fun k m0 _ a b _ => h2 k m0 k a b a⟩
/-- What hangs on the first fuel alone. -/
theorem Ev3.lift {F : Nat → Option Ret} {H : Nat → Nat → Nat → Option Ret} (hH : ∀ k m0 m1, H k m0 m1 = F k) (h : Ev3 (fun k _ _ => F k) Q) : Ev3 H Q := .eq hH h
theorem Ev3.bR {H : Nat → Nat → Nat → Ret → Option Ret} (h : Ev3 F Q') (hG : ∀ r, Q' r → Ev3 (fun k m0 m1 => H k m0 m1 r) Q) : Ev3 (fun k m0 m1 => bR (F k m0 m1) (H k m0 m1)) Q := by
  obtain ⟨r, n, h1, h2⟩ := h
  obtain ⟨r', n', h1', h2'⟩ := hG r h1
  refine ⟨r', max n n', h1', fun k m0 m1 a b c => ?_⟩
  show Sx.bR (F k m0 m1) _ = _
  rw [h2 k m0 m1 (by omega) (by omega) (by omega)]
  exact h2' k m0 m1 (by omega) (by omega) (by omega)
theorem Ev3.cond {b : Bool} (hx : b = true → Ev3 X Q) (hy : b = false → Ev3 Y Q) : Ev3 (fun k m0 m1 => _root_.cond b (X k m0 m1) (Y k m0 m1)) Q := by
  cases b with
  | true => exact hx rfl
  | false => exact hy rfl
theorem Ev3.condT {b : Bool} (hb : b = true) (hx : Ev3 X Q) : Ev3 (fun k m0 m1 => _root_.cond b (X k m0 m1) (Y k m0 m1)) Q := by subst hb; exact hx
theorem Ev3.condF {b : Bool} (hb : b = false) (hy : Ev3 Y Q) : Ev3 (fun k m0 m1 => _root_.cond b (X k m0 m1) (Y k m0 m1)) Q := by subst hb; exact hy
theorem Ev3.asInt {k : IntKind} {p : PV} {n : Int} {H : Nat → Nat → Nat → Int → Option Ret} (hp : p = .int k n) (h : Ev3 (fun k m0 m1 => H k m0 m1 n) Q) : Ev3 (fun k' m0 m1 => Sx.asInt k p (H k' m0 m1)) Q := by
  subst hp; simpa [Sx.asInt] using h
theorem Ev3.asBool {p : PV} {n : Bool} {H : Nat → Nat → Nat → Bool → Option Ret} (hp : p = .bool n) (h : Ev3 (fun k m0 m1 => H k m0 m1 n) Q) : Ev3 (fun k' m0 m1 => Sx.asBool p (H k' m0 m1)) Q := by
  subst hp; simpa [Sx.asBool] using h
theorem Ev3.asStr {p : PV} {n : ByteArray} {H : Nat → Nat → Nat → ByteArray → Option Ret} (hp : p = .str n) (h : Ev3 (fun k m0 m1 => H k m0 m1 n) Q) : Ev3 (fun k' m0 m1 => Sx.asStr p (H k' m0 m1)) Q := by
  subst hp; simpa [Sx.asStr] using h
theorem Ev3.asList {e : TypeId} {p : PV} {n : List PV} {H : Nat → Nat → Nat → List PV → Option Ret} (hp : p = .list e n) (h : Ev3 (fun k m0 m1 => H k m0 m1 n) Q) : Ev3 (fun k' m0 m1 => Sx.asList e p (H k' m0 m1)) Q := by
  subst hp; simpa [Sx.asList] using h
end

/-- A function comes to a result of which Q holds. -/
def Ev (P : Program) (an : An) (f : FuncId) (args : List PA) (Q : Ret → Prop) : Prop := Ev3 (fun k _ _ => sem P an k f args) Q
theorem Ev.sound {P : Program} {an : An} {f : FuncId} {args : List PA} {Q : Ret → Prop} (h : Ev P an f args Q) : ∃ r n, Q r ∧ sem P an n f args = some r :=
  let ⟨r, n, h1, h2⟩ := h; ⟨r, n, h1, h2 n n n (Nat.le_refl _) (Nat.le_refl _) (Nat.le_refl _)⟩
/-- The same results as a closed evaluation gave. -/
theorem Ev3.unique {F : Nat → Nat → Nat → Option Ret} {Q Q' : Ret → Prop} (h : Ev3 F Q) (h' : Ev3 F Q') : Ev3 F fun r => Q r ∧ Q' r := by
  obtain ⟨r, n, h1, h2⟩ := h
  obtain ⟨r', n', h1', h2'⟩ := h'
  have := (h2 (max n n') (max n n') (max n n') (by omega) (by omega) (by omega)).symm.trans (h2' (max n n') (max n n') (max n n') (by omega) (by omega) (by omega))
  cases this
  exact ⟨r, n, ⟨h1, h1'⟩, h2⟩

/-! ### Numbers -/
theorem wrap64_id {n : Int} (h1 : -9223372036854775808 ≤ n) (h2 : n ≤ 9223372036854775807) : IntKind.wrap .i64 n = n := by
  unfold IntKind.wrap; simp [IntKind.bits, IntKind.signed]; omega
theorem wrapu64_id {n : Int} (h1 : 0 ≤ n) (h2 : n < 18446744073709551616) : IntKind.wrap .u64 n = n := by
  unfold IntKind.wrap; simp [IntKind.bits, IntKind.signed]; omega
theorem wrapu8_id {n : Int} (h1 : 0 ≤ n) (h2 : n < 256) : IntKind.wrap .u8 n = n := by
  unfold IntKind.wrap; simp [IntKind.bits, IntKind.signed]; omega
theorem inB_true {i : Int} {n : Nat} (h1 : 0 ≤ i) (h2 : i < n) : inB i n = true := by simp [inB, h1, h2]
theorem byteP_lt (s : ByteArray) (n : Nat) : 0 ≤ byteP s n ∧ byteP s n < 256 := by
  unfold byteP
  have := (s.data.getD n 0).toNat_lt
  omega
theorem strEq_self (x : ByteArray) : strEq x x = true := by simp [strEq]
theorem strEq_true {x y : ByteArray} (h : strEq x y = true) : x.toList = y.toList := by simpa [strEq] using h
end Go.Proofs.Sx
