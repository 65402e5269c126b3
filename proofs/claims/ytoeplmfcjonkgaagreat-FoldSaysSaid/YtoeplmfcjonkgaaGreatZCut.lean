/- The reference's words: any text is cut, or is not; the numbers of words fit their kinds. -/
import Derived.Test.YtoeplmfcjonkgaaGreatZLex2
set_option linter.unusedVariables false
set_option linter.unusedSimpArgs false
namespace Go.Proofs.Sx.Z
open Go

def wordP (kind : Int) (text : ByteArray) (n at_ : Int) : PV := .agg [.int .i64 kind, .str text, .int .i64 n, .int .i64 at_]
def LitOK (kind n : Int) : Prop := (kind = 3 → 0 ≤ n ∧ n ≤ 4503599627370496) ∧ (kind = 4 → 0 ≤ n ∧ n ≤ 4503599627370496) ∧ (kind = 5 → 0 ≤ n ∧ n ≤ 1000000000000) ∧ (kind = 6 → 0 ≤ n ∧ n ≤ 109572) ∧ (kind = 2 → n = 0) ∧ (kind = 7 → n = 0)
structure Word where
  kind : Int
  text : ByteArray
  n : Int
  at_ : Int
def Word.pv (w : Word) : PV := wordP w.kind w.text w.n w.at_
def Word.ok (w : Word) : Prop := 1 ≤ w.kind ∧ w.kind ≤ 7 ∧ LitOK w.kind w.n ∧ 0 ≤ w.at_
theorem Word.okI {k n a : Int} {t : ByteArray} (h1 : 1 ≤ k) (h2 : k ≤ 7) (h3 : LitOK k n) (h4 : 0 ≤ a) : (⟨k, t, n, a⟩ : Word).ok := ⟨h1, h2, h3, h4⟩
theorem ext_le (s : ByteArray) (a b : Nat) : (s.extract a b).size ≤ s.size := by rw [ByteArray.size_extract]; omega

/-- A word and how many bytes it takes (0: it is none). -/
def WordI (s : ByteArray) (at_ : Int) (r : Ret) : Prop := ∃ (w : Word) (n : Int), 0 ≤ n ∧ at_ + n ≤ s.size ∧ (n ≠ 0 → w.ok) ∧ r = ⟨[.v w.pv, .v (.int .i64 n)], []⟩

theorem digits_J12 (s : ByteArray) (hs : s.size ≤ 1000000) (at_ : Int) (h0 : 0 ≤ at_) (n to : Int) (hn : 0 ≤ n) (hn2 : at_ + n ≤ s.size) (ht : at_ ≤ to) (ht2 : to ≤ s.size) (part : ByteArray) (hp : part.size ≤ 1000000) (x y : Int) (z : ByteArray) (u v : Int) :
    Ev3 (fun k _ _ => f149_J12 k s at_ (.int .i64 n) part to x z u v) (WordI s at_) := by
  have no : Ev3 (fun _ _ _ => some ⟨[.v (.agg [.int .i64 0, .str ⟨#[]⟩, .int .i64 0, .int .i64 0]), .v (.int .i64 0)], []⟩) (WordI s at_) := .ret ⟨⟨0, ⟨#[]⟩, 0, 0⟩, 0, by decide, by omega, fun h => absurd rfl h, rfl⟩
  have e1 : IntKind.wrap .i64 (at_ + n) = at_ + n := wrap64_id (by omega) (by omega)
  have num : ∀ {Y : Nat → Nat → Nat → Option Ret}, Ev3 (fun k m0 m1 => asInt .i64 (.int .i64 n) fun n122 => cond (decide (0 ≤ at_) && decide (at_ ≤ IntKind.wrap .i64 (at_ + n122)) && decide (IntKind.wrap .i64 (at_ + n122) ≤ (s.size : Int))) (bR (sem P an k 181 [(.v (PV.str (s.extract at_.toNat (IntKind.wrap .i64 (at_ + n122)).toNat))), (.v (PV.int .i64 4503599627370496))]) fun r123 => cond (okCV [] 0 2 r123.res && okLents [] r123.lent && r123.res.all isFlatCV) (asBool (cvP (resC 1 r123)) fun b124 => cond (!b124) (some ⟨[.v (PV.agg [(PV.int .i64 0), (PV.str (⟨#[]⟩ : ByteArray)), (PV.int .i64 0), (PV.int .i64 0)]), .v (PV.int .i64 0)], []⟩) (asInt .i64 (.int .i64 n) fun n125 => cond (decide (0 ≤ at_) && decide (at_ ≤ IntKind.wrap .i64 (at_ + n125)) && decide (IntKind.wrap .i64 (at_ + n125) ≤ (s.size : Int))) (asInt .i64 (cvP (resC 0 r123)) fun n126 => some ⟨[.v (PV.agg [(PV.int .i64 3), (PV.str (s.extract at_.toNat (IntKind.wrap .i64 (at_ + n125)).toNat)), (PV.int .i64 n126), (PV.int .i64 at_)]), .v (.int .i64 n)], []⟩) (none))) (none)) (none)) (WordI s at_) := by
    intro _
    refine .asInt rfl ?_
    rw [e1]
    refine .condT (by simp; omega) (.bR (number_ev _ (Nat.le_trans (ext_le _ _ _) hs) _ (by decide)) ?_)
    rintro r ⟨v, b, hv, rfl⟩
    refine .condT rfl (.asBool rfl (.cond (fun _ => no) (fun _ => .asInt rfl ?_)))
    rw [e1]
    exact .condT (by simp; omega) (.asInt rfl (.ret ⟨⟨3, _, v, at_⟩, n, hn, hn2, fun _ => Word.okI (by decide) (by decide) (by simp [LitOK]; omega) h0, rfl⟩))
  refine .eq (fun k _ _ => f149_J12_eq k s at_ _ part to x z u v) (.cond (fun h => ?_) (fun _ => num (Y := fun _ _ _ => none)))
  have h := dT h
  refine .condT (inB_true (by omega) h) (.cond (fun _ => .asInt rfl ?_) (fun _ => num (Y := fun _ _ _ => none)))
  rw [e1]
  refine .condT (by simp; omega) (.bR (percent_ev _ _ (Nat.le_trans (ext_le _ _ _) hs) hp) ?_)
  rintro r ⟨v, b, hv, rfl⟩
  have e2 : IntKind.wrap .i64 (to + 1) = to + 1 := wrap64_id (by omega) (by omega)
  have e3 : IntKind.wrap .i64 (to + 1 - at_) = to + 1 - at_ := wrap64_id (by omega) (by omega)
  rw [e2, e3]
  refine .condT rfl (.asBool rfl (.cond (fun _ => no) (fun _ => .condT (by simp; omega) (.asInt rfl (.ret ⟨⟨5, _, v, at_⟩, _, by omega, by omega, fun _ => Word.okI (by decide) (by decide) (by simp [LitOK]; omega) h0, rfl⟩)))))

theorem digits_J5 (s : ByteArray) (hs : s.size ≤ 1000000) (at_ : Int) (h0 : 0 ≤ at_) (h1 : at_ ≤ s.size) (x : Int) (z : ByteArray) (u v : Int) :
    Ev3 (fun k _ _ => f149_J5 k s at_ x z u v) (WordI s at_) := by
  refine .eq (fun k _ _ => f149_J5_eq k s at_ x z u v) (.bR (run_ev s hs at_ h0 h1) ?_)
  rintro r ⟨n, ⟨hn, hn2⟩, rfl⟩
  have e1 : IntKind.wrap .i64 (at_ + n) = at_ + n := wrap64_id (by omega) (by omega)
  have fin : ∀ (part : ByteArray) (to : Int), part.size ≤ 1000000 → at_ ≤ to → to ≤ s.size → Ev3 (fun k _ _ => f149_J12 k s at_ (cvP (resC 0 ⟨[.v (.int .i64 n)], []⟩)) part to x z u v) (WordI s at_) :=
    fun part to hp a b => digits_J12 s hs at_ h0 n to hn hn2 a b part hp x 0 z u v
  refine .condT rfl (.asInt rfl ?_)
  rw [e1]
  refine .cond (fun h => ?_) (fun _ => fin _ _ (by decide) (by omega) (by omega))
  have h := dT h
  refine .condT (inB_true (by omega) h) (.cond (fun _ => ?_) (fun _ => fin _ _ (by decide) (by omega) (by omega)))
  have e2 : IntKind.wrap .i64 (at_ + n + 1) = at_ + n + 1 := wrap64_id (by omega) (by omega)
  rw [e2]
  refine .bR (run_ev s hs (at_ + n + 1) (by omega) (by omega)) ?_
  rintro r ⟨m, ⟨hm, hm2⟩, rfl⟩
  have e3 : IntKind.wrap .i64 (at_ + n + 1 + m) = at_ + n + 1 + m := wrap64_id (by omega) (by omega)
  refine .condT rfl (.asInt rfl (.cond (fun _ => .asInt rfl (.cond (fun _ => .asInt rfl ?_) (fun _ => fin _ _ (by decide) (by omega) (by omega)))) (fun _ => fin _ _ (by decide) (by omega) (by omega))))
  rw [e3]
  refine .condT (by simp; omega) (.asInt rfl ?_)
  rw [e3]
  exact fin _ _ (Nat.le_trans (ext_le _ _ _) hs) (by omega) (by omega)

theorem digits_ev (s : ByteArray) (hs : s.size ≤ 1000000) (at_ : Int) (h0 : 0 ≤ at_) (h1 : at_ ≤ s.size) : Ev P an 149 [.v (.str s), .v (.int .i64 at_)] (WordI s at_) := by
  refine .fn (fun k => f149_eq k s at_) ?_
  have e1 : IntKind.wrap .i64 (at_ + 10) = at_ + 10 := wrap64_id (by omega) (by omega)
  rw [e1]
  have J := digits_J5 s hs at_ h0 h1 0 ⟨#[]⟩ 0 0
  refine .cond (fun h => ?_) (fun _ => J)
  have h := dT h
  have hb : (decide (0 ≤ at_) && decide (at_ ≤ at_ + 10) && decide (at_ + 10 ≤ (s.size : Int))) = true := by simp; omega
  refine .cond (fun _ => .condT hb (.bR (readDay_ev _) ?_)) (fun hne => ?_)
  · rintro r ⟨d, b, hd, rfl⟩
    exact .condT rfl (.asBool rfl (.cond (fun _ => .condT hb (.asInt rfl (.ret ⟨⟨6, _, d, at_⟩, 10, by decide, h, fun _ => Word.okI (by decide) (by decide) (by simp [LitOK]; omega) h0, rfl⟩))) (fun _ => J)))
  · have hne := eF hne
    refine .condT (inB_true (by omega) (by omega)) (.bR (digit_ev _) ?_)
    rintro r ⟨b, rfl⟩
    refine .condT rfl (.asBool rfl (.cond (fun _ => .condT hb (.bR (readDay_ev _) ?_)) (fun _ => J)))
    rintro r ⟨d, b, hd, rfl⟩
    exact .condT rfl (.asBool rfl (.cond (fun _ => .condT hb (.asInt rfl (.ret ⟨⟨6, _, d, at_⟩, 10, by decide, h, fun _ => Word.okI (by decide) (by decide) (by simp [LitOK]; omega) h0, rfl⟩))) (fun _ => J)))

def endW (s : ByteArray) : Word := ⟨0, ⟨#[]⟩, 0, s.size⟩
/-- What Cut tells: where it fails, or the words, and the end. -/
def CutI (s : ByteArray) (r : Ret) : Prop :=
  (∃ bad : Int, 0 ≤ bad ∧ r = ⟨[.v (.list 160 []), .v (.int .i64 bad)], []⟩) ∨
  ∃ ws : List Word, (∀ w ∈ ws, w.ok) ∧ ws.length ≤ s.size ∧ r = ⟨[.v (.list 160 ((ws ++ [endW s]).map Word.pv)), .v (.int .i64 (-1))], []⟩

theorem cut_J40 (s : ByteArray) (hs : s.size ≤ 1000000) (ws : List Word) (h1 : ∀ w ∈ ws, w.ok) (h2 : ws.length ≤ s.size) : Ev3 (fun k _ _ => f109_J40 k s (ws.map Word.pv)) (CutI s) := by
  refine .eq (fun k _ _ => f109_J40_eq k s _) (.condT ?_ (.ret (.inr ⟨ws, h1, h2, ?_⟩)))
  · simp only [List.length_map, List.length_cons, List.length_nil, Bool.and_eq_true]
    exact ⟨Nat.ble_eq_true_of_le (by omega), Nat.ble_eq_true_of_le (by omega)⟩
  · simp only [List.map_append]; rfl

/-- A place in the text, and the words up to there. -/
theorem cut_L3 (s : ByteArray) (hs : s.size ≤ 1000000) : ∀ (f : Nat) (at_ : Int) (ws : List Word), 0 ≤ at_ → at_ ≤ s.size → (∀ w ∈ ws, w.ok) → (ws.length : Int) ≤ at_ → (s.size : Int) - at_ ≤ f →
    Ev3 (fun k m0 _ => f109_L3 k m0 s at_ (ws.map Word.pv)) (CutI s) := by
  intro f
  induction f with
  | zero =>
    intro at_ ws h0 h1 hw hl hf
    exact .loop0 (fun k m0 _ => f109_L3_eq k m0 s _ _) (.condF (by simp; omega) (cut_J40 s hs ws hw (by omega)))
  | succ f ih =>
    intro at_ ws h0 h1 hw hl hf
    refine .loop0 (fun k m0 _ => f109_L3_eq k m0 s _ _) (.cond (fun h => ?_) (fun _ => cut_J40 s hs ws hw (by omega)))
    have h := dT h
    have hb : inB at_ s.size = true := inB_true h0 h
    have e1 : IntKind.wrap .i64 (at_ + 1) = at_ + 1 := wrap64_id (by omega) (by omega)
    rw [e1]
    have nx : ∀ at2 : Int, at_ < at2 → at2 ≤ s.size → Ev3 (fun k m0 _ => f109_L3 k m0 s at2 (ws.map Word.pv)) (CutI s) := fun at2 a b => ih at2 ws (by omega) b hw (by omega) (by omega)
    -- the end of a word
    have j36 : ∀ (n : Int) (w : Word), 0 ≤ n → at_ + n ≤ s.size → (n ≠ 0 → w.ok) → Ev3 (fun k m0 _ => f109_J36 k m0 s at_ (.int .i64 n) (.int .i64 w.kind) (.str w.text) (.int .i64 w.n) (.int .i64 w.at_) (ws.map Word.pv)) (CutI s) := by
      intro n w hn hn2 hok
      refine .eq (fun k m0 _ => f109_J36_eq k m0 s at_ _ _ _ _ _ _) (.asInt rfl (.cond (fun _ => .ret (.inl ⟨at_, h0, rfl⟩)) (fun hne => .condT ?_ (.asInt rfl ?_))))
      · simp only [List.length_map, List.length_cons, List.length_nil, Bool.and_eq_true]
        exact ⟨Nat.ble_eq_true_of_le (by omega), Nat.ble_eq_true_of_le (by omega)⟩
      · have hne := eF hne
        rw [wrap64_id (by omega) (by omega)]
        have := ih (at_ + n) (ws ++ [w]) (by omega) hn2 (fun x hx => (List.mem_append.1 hx).elim (hw x) (fun hx => by rw [List.mem_singleton.1 hx]; exact hok hne)) (by simp; omega) (by omega)
        rw [List.map_append] at this
        exact this
    -- a remark
    have l8 : ∀ (g : Nat) (i : Int), at_ ≤ i → (i = at_ → byteP s at_.toNat = 35) → i ≤ s.size → (s.size : Int) - i ≤ g → Ev3 (fun k m0 m1 => f109_L8 k m0 m1 s i (ws.map Word.pv)) (CutI s) := by
      intro g
      induction g with
      | zero =>
        intro i a b c d
        exact .loop1 (fun k m0 m1 => f109_L8_eq k m0 m1 s _ _) (.condF (by simp; omega) (nx i (by omega) c))
      | succ g ihg =>
        intro i a b c d
        refine .loop1 (fun k m0 m1 => f109_L8_eq k m0 m1 s _ _) (.cond (fun hi => ?_) (fun hi => nx i (by have := dF hi; omega) c))
        have hi := dT hi
        refine .condT (inB_true (by omega) hi) (.cond (fun _ => ?_) (fun h10 => nx i ?_ c))
        · rw [wrap64_id (by omega) (by omega)]
          exact ihg (i + 1) (by omega) (by omega) (by omega) (by omega)
        · rcases Int.lt_or_eq_of_le a with h2 | h2
          · exact h2
          · have h35 := b h2.symm
            rw [← h2, h35] at h10
            simp at h10
    -- a name
    have j17 : ∀ (n : Int) (x : Int) (y : ByteArray), 0 ≤ n → at_ + n ≤ s.size → Ev3 (fun k m0 _ => f109_J17 k m0 s at_ n x y 0 at_ (ws.map Word.pv)) (CutI s) := by
      intro n x y hn hn2
      refine .eq (fun k m0 _ => f109_J17_eq k m0 s at_ n x y 0 at_ _) ?_
      have e2 : IntKind.wrap .i64 (at_ + n) = at_ + n := wrap64_id (by omega) (by omega)
      rw [e2]
      refine .condT (by simp; omega) (.bR (kept_ev _) ?_)
      rintro r ⟨b, rfl⟩
      have ok2 : ∀ t, (⟨2, t, 0, at_⟩ : Word).ok := fun t => Word.okI (by decide) (by decide) (by simp [LitOK]) h0
      have ok1 : ∀ t, (⟨1, t, 0, at_⟩ : Word).ok := fun t => Word.okI (by decide) (by decide) (by simp [LitOK]) h0
      exact .condT rfl (.asBool rfl (.cond (fun _ => .cond (fun _ => j36 0 ⟨2, _, 0, at_⟩ (by decide) (by omega) (fun _ => ok2 _)) (fun _ => j36 n ⟨2, _, 0, at_⟩ hn hn2 (fun _ => ok2 _)))
        (fun _ => .cond (fun _ => j36 0 ⟨1, _, 0, at_⟩ (by decide) (by omega) (fun _ => ok1 _)) (fun _ => j36 n ⟨1, _, 0, at_⟩ hn hn2 (fun _ => ok1 _)))))
    have l15 : ∀ (g : Nat) (n : Int) (x : Int) (y : ByteArray), 0 ≤ n → at_ + n ≤ s.size → (s.size : Int) - (at_ + n) ≤ g → Ev3 (fun k m0 m1 => f109_L15 k m0 m1 s at_ n x y 0 at_ (ws.map Word.pv)) (CutI s) := by
      intro g
      induction g with
      | zero =>
        intro n x y hn hn2 hg
        refine .loop1 (fun k m0 m1 => f109_L15_eq k m0 m1 s _ _ _ _ _ _ _) ?_
        rw [wrap64_id (n := at_ + n) (by omega) (by omega)]
        exact .condF (by simp; omega) (j17 n x y hn hn2)
      | succ g ihg =>
        intro n x y hn hn2 hg
        refine .loop1 (fun k m0 m1 => f109_L15_eq k m0 m1 s _ _ _ _ _ _ _) ?_
        rw [wrap64_id (n := at_ + n) (by omega) (by omega), wrap64_id (n := n + 1) (by omega) (by omega)]
        refine .cond (fun hi => ?_) (fun _ => j17 n x y hn hn2)
        have hi := dT hi
        have hb2 : inB (at_ + n) s.size = true := inB_true (by omega) hi
        have go := ihg (n + 1) x y (by omega) (by omega) (by omega)
        refine .condT hb2 (.bR (letter_ev _) ?_)
        rintro r ⟨b, rfl⟩
        refine .condT rfl (.asBool rfl (.cond (fun _ => go) (fun _ => .condT hb2 (.bR (digit_ev _) ?_))))
        rintro r ⟨b, rfl⟩
        exact .condT rfl (.asBool rfl (.cond (fun _ => go) (fun _ => .condT hb2 (.cond (fun _ => go) (fun _ => j17 n x y hn hn2)))))
    -- a money
    have j32 : ∀ (n m : Int) (c : ByteArray) (x : Int) (y : ByteArray) (u v : Int), 0 ≤ n → 0 ≤ m → at_ + n ≤ s.size → at_ + 1 + m ≤ s.size → 1 + m ≤ n → c.size ≤ 1000000 →
        Ev3 (fun k m0 _ => f109_J32 k m0 s at_ n (.int .i64 m) c x y u v (ws.map Word.pv)) (CutI s) := by
      intro n m c x y u v hn hm hn2 hm2 hnm hc
      refine .eq (fun k m0 _ => f109_J32_eq k m0 s at_ n _ c x y u v _) (.asInt rfl ?_)
      rw [e1, wrap64_id (n := at_ + 1 + m) (by omega) (by omega), wrap64_id (n := at_ + n) (by omega) (by omega)]
      refine .condT (by simp; omega) (.bR (money_ev _ _ (Nat.le_trans (ext_le _ _ _) hs) hc) ?_)
      rintro r ⟨a, b, ha, rfl⟩
      have z := j36 0 ⟨x, y, u, v⟩ (by decide) (by omega) (fun h => absurd rfl h)
      exact .condT rfl (.asInt rfl (.cond (fun _ => z) (fun _ => .asBool rfl (.cond (fun _ => z) (fun _ => .condT (by simp; omega) (.asInt rfl
        (j36 n ⟨4, _, a, at_⟩ hn hn2 (fun _ => Word.okI (by decide) (by decide) (by simp [LitOK]; omega) h0))))))))
    refine .condT hb (.cond (fun _ => nx _ (by omega) (by omega)) (fun _ => .cond (fun _ => nx _ (by omega) (by omega)) (fun _ => .cond (fun _ => nx _ (by omega) (by omega)) (fun _ => .cond (fun _ => nx _ (by omega) (by omega)) (fun _ =>
      .cond (fun h35 => (l8 s.size at_ (by omega) (fun _ => eT h35) h1 (by omega)).in1) (fun _ => .bR (letter_ev _) ?_))))))
    rintro r ⟨b, rfl⟩
    refine .condT rfl (.asBool rfl (.cond (fun _ => (l15 s.size 0 0 _ (by decide) (by omega) (by omega)).in1) (fun _ => .bR (digit_ev _) ?_)))
    rintro r ⟨b, rfl⟩
    refine .condT rfl (.asBool rfl (.cond (fun _ => .bR (digits_ev s hs at_ h0 h1) ?_) (fun _ => .cond (fun _ => ?_) (fun _ => .condT (by simp; omega) (.bR (sign_ev _ ?_) ?_)))))
    · rintro r ⟨w, n, a, b, c, rfl⟩
      exact .condT rfl (.condT rfl (j36 n w a b c))
    · refine .bR (run_ev s hs (at_ + 1) (by omega) (by omega)) ?_
      rintro r ⟨m, ⟨hm, hm2⟩, rfl⟩
      have e2 : IntKind.wrap .i64 (1 + m) = 1 + m := wrap64_id (by omega) (by omega)
      have e3 : IntKind.wrap .i64 (at_ + (1 + m)) = at_ + (1 + m) := wrap64_id (by omega) (by omega)
      have e4 : IntKind.wrap .i64 (1 + m + 3) = 1 + m + 3 := wrap64_id (by omega) (by omega)
      have plain := j32 (1 + m) m ⟨#[]⟩ 0 ⟨#[]⟩ 0 at_ (by omega) hm (by omega) (by omega) (by omega) (by decide)
      refine .condT rfl (.asInt rfl (.asInt rfl ?_))
      rw [e2, e3, e4]
      refine .cond (fun _ => .cond (fun h5 => ?_) (fun _ => plain)) (fun _ => plain)
      have h5 := dT h5
      have e5 : IntKind.wrap .i64 (at_ + (1 + m) + 1) = at_ + (1 + m) + 1 := wrap64_id (by omega) (by omega)
      have e6 : IntKind.wrap .i64 (at_ + (1 + m) + 3) = at_ + (1 + m) + 3 := wrap64_id (by omega) (by omega)
      rw [e5, e6]
      refine .condT (inB_true (by omega) h5) (.cond (fun _ => .bR (run_ev s hs (at_ + (1 + m) + 1) (by omega) (by omega)) ?_) (fun _ => plain))
      rintro r ⟨q, ⟨hq, hq2⟩, rfl⟩
      refine .condT rfl (.asInt rfl (.cond (fun h6 => ?_) (fun _ => plain)))
      have h6 := eT h6
      exact .condT (by simp; omega) (j32 (1 + m + 3) m _ 0 ⟨#[]⟩ 0 at_ (by omega) hm (by omega) (by omega) (by omega) (Nat.le_trans (ext_le _ _ _) hs))
    · rw [ByteArray.size_extract]; omega
    · rintro r ⟨t, ht, rfl⟩
      have ht : t.size ≤ (s.extract at_.toNat (s.size : Int).toNat).size := ht
      rw [ByteArray.size_extract] at ht
      exact .condT rfl (.asStr rfl (j36 t.size ⟨7, t, 0, at_⟩ (by omega) (by omega) (fun _ => Word.okI (by decide) (by decide) (by simp [LitOK]) h0)))
theorem cut_ev (s : ByteArray) (hs : s.size ≤ 1000000) : Ev P an 109 [.v (.str s)] (CutI s) :=
  .fn (fun k => f109_eq k s) (.condT rfl (cut_L3 s hs s.size 0 [] (by decide) (by omega) (fun _ h => by cases h) (by decide) (by omega)).in0)
end Go.Proofs.Sx.Z
