/- The reference's words: numbers, days, signs. -/
import Derived.Test.YtoeplmfcjonkgaaGreatZLex
set_option linter.unusedVariables false
set_option linter.unusedSimpArgs false
namespace Go.Proofs.Sx.Z
open Go

theorem readDay_J16 (a b c : Int) : Ev3 (fun k _ _ => f179_J16 k [.int .i64 a, .int .i64 b, .int .i64 c]) (IntB fun n _ => 0 ≤ n ∧ n ≤ 109572) := by
  refine .eq (fun k _ _ => f179_J16_eq k _) (.condT rfl (.condT rfl (.condT rfl (.bR (day_ev a b c) ?_))))
  rintro r ⟨n, b, h, rfl⟩
  exact .condT rfl (.ret ⟨_, _, h, rfl⟩)
theorem readDay_L5 (s : ByteArray) (hs : s.size = 10) : ∀ (f : Nat) (i : Int) (a b c : Int), 0 ≤ i → i ≤ 10 → 10 - i ≤ f →
    Ev3 (fun k m0 _ => f179_L5 k m0 s i [.int .i64 a, .int .i64 b, .int .i64 c]) (IntB fun n _ => 0 ≤ n ∧ n ≤ 109572) := by
  intro f
  induction f with
  | zero =>
    intro i a b c h0 h1 h2
    exact .loop0 (fun k m0 _ => f179_L5_eq k m0 s _ _) (.condF (by simp; omega) (readDay_J16 a b c))
  | succ f ih =>
    intro i a b c h0 h1 h2
    have next : i < 10 → ∀ a b c, Ev3 (fun k m0 _ => f179_L5 k m0 s (IntKind.wrap .i64 (i + 1)) [.int .i64 a, .int .i64 b, .int .i64 c]) (IntB fun n _ => 0 ≤ n ∧ n ≤ 109572) := fun h a b c => by
      rw [wrap64_id (by omega) (by omega)]; exact ih _ _ _ _ (by omega) (by omega) (by omega)
    have no : Ev3 (fun _ _ _ => some ⟨[.v (.int .i64 0), .v (.bool false)], []⟩) (IntB fun n _ => 0 ≤ n ∧ n ≤ 109572) := .ret ⟨_, _, by decide, rfl⟩
    have j15 : i < 10 → ∀ j : Int, j = 0 ∨ j = 1 ∨ j = 2 → Ev3 (fun k m0 _ => f179_J15 k m0 s i j [.int .i64 a, .int .i64 b, .int .i64 c]) (IntB fun n _ => 0 ≤ n ∧ n ≤ 109572) := by
      intro hi j hj
      have hb : inB i s.size = true := inB_true h0 (by omega)
      refine .eq (fun k m0 _ => f179_J15_eq k m0 s i j _) ?_
      rcases hj with rfl | rfl | rfl
      · exact .condT rfl (.asInt rfl (.condT hb (.condT rfl (next hi _ _ _))))
      · exact .condT rfl (.asInt rfl (.condT hb (.condT rfl (next hi _ _ _))))
      · exact .condT rfl (.asInt rfl (.condT hb (.condT rfl (next hi _ _ _))))
    have j13 : i < 10 → ∀ j : Int, j = 0 ∨ j = 1 → Ev3 (fun k m0 _ => f179_J13 k m0 s i j [.int .i64 a, .int .i64 b, .int .i64 c]) (IntB fun n _ => 0 ≤ n ∧ n ≤ 109572) := fun hi j hj =>
      .eq (fun k m0 _ => f179_J13_eq k m0 s i j _) (.cond (fun _ => j15 hi 2 (by omega)) (fun _ => j15 hi j (by omega)))
    refine .loop0 (fun k m0 _ => f179_L5_eq k m0 s _ _) (.cond (fun h => ?_) (fun _ => readDay_J16 a b c))
    have hi := dT h
    have hb : inB i s.size = true := inB_true h0 (by omega)
    exact .cond (fun _ => next hi _ _ _) (fun _ => .cond (fun _ => next hi _ _ _) (fun _ => .condT hb (.cond (fun _ => no) (fun _ => .condT hb (.cond (fun _ => no) (fun _ => .cond (fun _ => j13 hi 1 (by omega)) (fun _ => j13 hi 0 (by omega))))))))
theorem readDay_ev (s : ByteArray) : Ev P an 179 [.v (.str s)] (IntB fun n _ => 0 ≤ n ∧ n ≤ 109572) := by
  have no : Ev3 (fun _ _ _ => some ⟨[.v (.int .i64 0), .v (.bool false)], []⟩) (IntB fun n _ => 0 ≤ n ∧ n ≤ 109572) := .ret ⟨_, _, by decide, rfl⟩
  refine .fn (fun k => f179_eq k s) (.cond (fun _ => no) (fun h => ?_))
  have hs : s.size = 10 := by simp at h; omega
  refine .condT (inB_true (by decide) (by omega)) (.cond (fun _ => no) (fun _ => .condT (inB_true (by decide) (by omega)) (.cond (fun _ => no) (fun _ => ?_))))
  exact (readDay_L5 s hs 10 0 0 0 0 (by decide) (by decide) (by decide)).in0

theorem wrapu8_range (x : Int) : 0 ≤ IntKind.wrap .u8 x ∧ IntKind.wrap .u8 x < 256 := by
  unfold IntKind.wrap; simp [IntKind.bits, IntKind.signed]; omega
theorem number_L (s : ByteArray) (hs : s.size ≤ 1000000) (most : Int) (hm : 0 ≤ most ∧ most ≤ 1000000000000000000) : ∀ (f : Nat) (v i : Int), 0 ≤ v → v ≤ most → 0 ≤ i → i ≤ s.size → (s.size : Int) - i ≤ f →
    Ev3 (fun k m0 _ => f181_L3 k m0 s most v i) (IntB fun n _ => 0 ≤ n ∧ n ≤ most) := by
  have no : Ev3 (fun _ _ _ => some ⟨[.v (.int .i64 0), .v (.bool false)], []⟩) (IntB fun n _ => 0 ≤ n ∧ n ≤ most) := .ret ⟨_, _, ⟨by decide, hm.1⟩, rfl⟩
  intro f
  induction f with
  | zero =>
    intro v i hv1 hv2 h0 h1 h2
    exact .loop0 (fun k m0 _ => f181_L3_eq k m0 s most _ _) (.condF (by simp; omega) (.ret ⟨_, _, ⟨hv1, hv2⟩, rfl⟩))
  | succ f ih =>
    intro v i hv1 hv2 h0 h1 h2
    refine .loop0 (fun k m0 _ => f181_L3_eq k m0 s most _ _) (.cond (fun h => ?_) (fun _ => .ret ⟨_, _, ⟨hv1, hv2⟩, rfl⟩))
    have h := dT h
    refine .cond (fun _ => no) (fun h3 => .condT (inB_true h0 h) ?_)
    have h3 := dF h3
    have hq : Int.tdiv most 10 = most / 10 := Int.tdiv_eq_ediv_of_nonneg hm.1
    rw [hq, wrap64_id (by omega) (by omega)] at h3
    have hd := wrapu8_range (byteP s i.toNat - 48)
    rw [wrap64_id (n := 10 * v) (by omega) (by omega), wrap64_id (n := IntKind.wrap .u8 (byteP s i.toNat - 48)) (by omega) (by omega), wrap64_id (n := 10 * v + IntKind.wrap .u8 (byteP s i.toNat - 48)) (by omega) (by omega), wrap64_id (n := i + 1) (by omega) (by omega)]
    refine .cond (fun _ => no) (fun h4 => ?_)
    have h4 := dF h4
    exact ih _ _ (by omega) (by omega) (by omega) (by omega) (by omega)
theorem number_ev (s : ByteArray) (hs : s.size ≤ 1000000) (most : Int) (hm : 0 ≤ most ∧ most ≤ 1000000000000000000) : Ev P an 181 [.v (.str s), .v (.int .i64 most)] (IntB fun n _ => 0 ≤ n ∧ n ≤ most) :=
  .fn (fun k => f181_eq k s most) (number_L s hs most hm s.size 0 0 (by omega) hm.1 (by omega) (by omega) (by omega)).in0

theorem percent_J3 (s t : ByteArray) (hs : s.size ≤ 1000000) (ht : t.size ≤ 1000000) : Ev3 (fun k _ _ => f180_J3 k s t) (IntB fun n _ => 0 ≤ n ∧ n ≤ 1000000000000) := by
  have no : Ev3 (fun _ _ _ => some ⟨[.v (.int .i64 0), .v (.bool false)], []⟩) (IntB fun n _ => 0 ≤ n ∧ n ≤ 1000000000000) := .ret ⟨_, _, by decide, rfl⟩
  refine .eq (fun k _ _ => f180_J3_eq k s t) (.bR (number_ev s hs _ (by decide)) ?_)
  rintro r ⟨v, b, hv, rfl⟩
  refine .condT rfl (.bR (number_ev t ht _ (by decide)) ?_)
  rintro r ⟨p, b', hp, rfl⟩
  refine .condT rfl (.asBool rfl (.cond (fun _ => no) (fun _ => .asInt rfl (.cond (fun _ => no) (fun h2 => .asInt rfl (.asInt rfl ?_))))))
  have h2 := dF h2
  rw [wrap64_id (n := 10000 * v) (by omega) (by omega), wrap64_id (n := 10000 * v + p) (by omega) (by omega)]
  refine .cond (fun _ => no) (fun h3 => .asInt rfl (.asInt rfl ?_))
  have h3 := dF h3
  rw [wrap64_id (n := 10000 * v) (by omega) (by omega), wrap64_id (n := 10000 * v + p) (by omega) (by omega)]
  exact .ret ⟨_, _, ⟨by omega, by omega⟩, rfl⟩
theorem size_append (a b : ByteArray) : (a ++ b).size = a.size + b.size := ByteArray.size_append
theorem percent_L1 (s : ByteArray) (hs : s.size ≤ 1000000) : ∀ (f : Nat) (t : ByteArray), t.size ≤ 1000000 → 4 - (t.size : Int) ≤ f → Ev3 (fun k m0 _ => f180_L1 k m0 s t) (IntB fun n _ => 0 ≤ n ∧ n ≤ 1000000000000) := by
  intro f
  induction f with
  | zero =>
    intro t ht hf
    exact .loop0 (fun k m0 _ => f180_L1_eq k m0 s _) (.condF (by simp; omega) (percent_J3 s t hs ht))
  | succ f ih =>
    intro t ht hf
    refine .loop0 (fun k m0 _ => f180_L1_eq k m0 s _) (.cond (fun h => ?_) (fun _ => percent_J3 s t hs ht))
    have h := dT h
    have e : (t ++ (⟨#[48]⟩ : ByteArray)).size = t.size + 1 := by rw [size_append]; rfl
    refine .condT (Nat.ble_eq_true_of_le ?_) (ih _ (by omega) (by omega))
    show t.size + 1 ≤ _
    omega
theorem percent_ev (s t : ByteArray) (hs : s.size ≤ 1000000) (ht : t.size ≤ 1000000) : Ev P an 180 [.v (.str s), .v (.str t)] (IntB fun n _ => 0 ≤ n ∧ n ≤ 1000000000000) :=
  .fn (fun k => f180_eq k s t) (percent_L1 s hs 4 t ht (by omega)).in0
theorem money_ev (s t : ByteArray) (hs : s.size ≤ 1000000) (ht : t.size ≤ 1000000) : Ev P an 151 [.v (.str s), .v (.str t)] (IntB fun n _ => 0 ≤ n ∧ n ≤ 4503599627370496) := by
  have no : Ev3 (fun _ _ _ => some ⟨[.v (.int .i64 0), .v (.bool false)], []⟩) (IntB fun n _ => 0 ≤ n ∧ n ≤ 4503599627370496) := .ret ⟨_, _, by decide, rfl⟩
  refine .fn (fun k => f151_eq k s t) (.bR (number_ev s hs _ (by decide)) ?_)
  rintro r ⟨v, b, hv, rfl⟩
  refine .condT rfl (.bR (number_ev t ht _ (by decide)) ?_)
  rintro r ⟨p, b', hp, rfl⟩
  refine .condT rfl (.asBool rfl (.cond (fun _ => no) (fun _ => .asInt rfl (.cond (fun _ => no) (fun h2 => .asInt rfl (.asInt rfl ?_))))))
  have h2 := dF h2
  rw [wrap64_id (n := 100 * v) (by omega) (by omega), wrap64_id (n := 100 * v + p) (by omega) (by omega)]
  refine .cond (fun _ => no) (fun h3 => .asInt rfl (.asInt rfl ?_))
  have h3 := dF h3
  rw [wrap64_id (n := 100 * v) (by omega) (by omega), wrap64_id (n := 100 * v + p) (by omega) (by omega)]
  exact .ret ⟨_, _, ⟨by omega, by omega⟩, rfl⟩

theorem sign_L9 (s t : ByteArray) (hs : 0 < s.size) (ht : t.size ≤ 100) : ∀ (f : Nat) (i : Int), 0 ≤ i → (t.size : Int) - i ≤ f → Ev3 (fun k m0 _ => f152_L9 k m0 s t i) (OneS fun u => u.size ≤ s.size) := by
  intro f
  induction f with
  | zero =>
    intro i h0 hf
    exact .loop0 (fun k m0 _ => f152_L9_eq k m0 s t _) (.condF (by simp; omega) (.ret ⟨_, Nat.zero_le _, rfl⟩))
  | succ f ih =>
    intro i h0 hf
    refine .loop0 (fun k m0 _ => f152_L9_eq k m0 s t _) (.cond (fun h => ?_) (fun _ => .ret ⟨_, Nat.zero_le _, rfl⟩))
    have h := dT h
    refine .condT (inB_true (by decide) (by omega)) (.condT (inB_true h0 h) (.cond (fun _ => .condT (by simp; omega) (.ret ⟨_, ?_, rfl⟩)) (fun _ => ?_)))
    · show (ByteArray.extract _ _ _).size ≤ _
      rw [ByteArray.size_extract]; omega
    · rw [wrap64_id (by omega) (by omega)]; exact ih _ (by omega) (by omega)
theorem sign_J7 (s : ByteArray) (hs : 0 < s.size) : Ev3 (fun k _ _ => f152_J7 k s) (OneS fun u => u.size ≤ s.size) :=
  .eq (fun k _ _ => f152_J7_eq k s) (sign_L9 s _ hs (by decide) 16 0 (by decide) (by decide)).in0
theorem sign_L3 (s : ByteArray) (hs : 0 < s.size) (l : List ByteArray) (hl : l.length ≤ 100) (h2 : ∀ x ∈ l, x.size = 2) : ∀ (f : Nat) (i : Int), 0 ≤ i → (l.length : Int) - i ≤ f →
    Ev3 (fun k m0 _ => f152_L3 k m0 s i (l.map .str)) (OneS fun u => u.size ≤ s.size) := by
  intro f
  induction f with
  | zero =>
    intro i h0 hf
    exact .loop0 (fun k m0 _ => f152_L3_eq k m0 s _ _) (.condF (by simp; omega) (sign_J7 s hs))
  | succ f ih =>
    intro i h0 hf
    refine .loop0 (fun k m0 _ => f152_L3_eq k m0 s _ _) (.cond (fun h => ?_) (fun _ => sign_J7 s hs))
    have h := dT h
    rw [List.length_map] at h
    have hi : i.toNat < l.length := by omega
    have hg : (l.map PV.str).getD i.toNat default = .str l[i.toNat] := by simp [List.getD_eq_getElem?_getD, hi]
    have hb : inB i (l.map PV.str).length = true := inB_true h0 (by simpa using h)
    have nx : Ev3 (fun k m0 _ => f152_L3 k m0 s (IntKind.wrap .i64 (i + 1)) (l.map .str)) (OneS fun u => u.size ≤ s.size) := by
      rw [wrap64_id (by omega) (by omega)]; exact ih _ (by omega) (by omega)
    refine .cond (fun h3 => ?_) (fun _ => nx)
    have h3 := dT h3
    refine .condT (by simp; omega) (.condT hb (.asStr hg (.cond (fun _ => .condT hb ?_) (fun _ => nx))))
    rw [hg]
    exact .ret ⟨_, by show (l[i.toNat]).size ≤ _; rw [h2 _ (List.getElem_mem hi)]; omega, rfl⟩
theorem sign_ev (s : ByteArray) (hs : 0 < s.size) : Ev P an 152 [.v (.str s)] (OneS fun u => u.size ≤ s.size) :=
  .fn (fun k => f152_eq k s) (sign_L3 s hs [_, _, _, _] (by decide) (by simp; decide) 4 0 (by decide) (by decide)).in0
end Go.Proofs.Sx.Z
