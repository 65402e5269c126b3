/- The reference's parser: its small steps. -/
import Derived.Test.YtoeplmfcjonkgaaGreatZCut
set_option linter.unusedVariables false
set_option linter.unusedSimpArgs false
namespace Go.Proofs.Sx.Z
open Go

/-- Where a parser stands. -/
structure Pz where
  k : Int
  bad : Int
  deep : Bool
  d : Int
def Pz.cv (ws : List Word) (z : Pz) : List CV := [.v (.list 160 (ws.map Word.pv)), .v (.int .i64 z.k), .v (.int .i64 z.bad), .v (.bool z.deep), .v (.int .i64 z.d)]
/-- Words that end. -/
structure Ws (ws : List Word) : Prop where
  len : ws.length ≤ 1000001
  ok : ∀ i, i + 1 < ws.length → ∀ w, ws[i]? = some w → w.ok
  last : ∀ w, ws[ws.length - 1]? = some w → w.kind = 0 ∧ 0 ≤ w.at_
structure Inv (ws : List Word) (z : Pz) : Prop where
  W : Ws ws
  k0 : 0 ≤ z.k
  k1 : z.k < ws.length
  bad : -1 ≤ z.bad
  d0 : 0 ≤ z.d
  d1 : z.d ≤ 50
def wd (ws : List Word) (z : Pz) : Word := ws.getD z.k.toNat ⟨0, ⟨#[]⟩, 0, 0⟩
structure Step (z z' : Pz) : Prop where
  k : z.k ≤ z'.k
  d : z'.d = z.d
  bad : 0 ≤ z.bad → 0 ≤ z'.bad
theorem Step.refl (z : Pz) : Step z z := ⟨Int.le_refl _, rfl, id⟩
theorem Step.trans {a b c : Pz} (h : Step a b) (g : Step b c) : Step a c := ⟨Int.le_trans h.k g.k, g.d.trans h.d, fun x => g.bad (h.bad x)⟩

variable {ws : List Word} {z : Pz}

theorem wd_get (hz : Inv ws z) : ws[z.k.toNat]? = some (wd ws z) := by
  have : z.k.toNat < ws.length := by have := hz.k0; have := hz.k1; omega
  simp [wd, List.getD_eq_getElem?_getD, this]
theorem wd_pv (hz : Inv ws z) : (ws.map Word.pv).getD z.k.toNat default = (wd ws z).pv := by
  rw [List.getD_eq_getElem?_getD, List.getElem?_map, wd_get hz]; rfl
theorem wd_ok (hz : Inv ws z) (h : (wd ws z).kind ≠ 0) : (wd ws z).ok ∧ z.k + 1 < ws.length := by
  have h0 := hz.k0; have h1 := hz.k1
  by_cases e : z.k.toNat + 1 < ws.length
  · exact ⟨hz.W.ok _ e _ (wd_get hz), by omega⟩
  · have : z.k.toNat = ws.length - 1 := by omega
    exact absurd (hz.W.last _ (this ▸ wd_get hz)).1 h
theorem wd_at (hz : Inv ws z) : 0 ≤ (wd ws z).at_ := by
  by_cases h : (wd ws z).kind = 0
  · have h0 := hz.k0; have h1 := hz.k1
    by_cases e : z.k.toNat + 1 < ws.length
    · exact (hz.W.ok _ e _ (wd_get hz)).2.2.2
    · have : z.k.toNat = ws.length - 1 := by omega
      exact (hz.W.last _ (this ▸ wd_get hz)).2
  · exact (wd_ok hz h).1.2.2.2

theorem w_ev (hz : Inv ws z) : Ev P an 153 [.lent (z.cv ws)] fun r => r = ⟨[.v (wd ws z).pv], [z.cv ws]⟩ := by
  refine .fn (fun k => f153_eq k _ _ _ _ _) (.condT (inB_true hz.k0 (by rw [List.length_map]; exact hz.k1)) ?_)
  rw [wd_pv hz]
  exact .condT rfl (.ret rfl)

/-- What 'is' and 'islit' tell. -/
def IsI (ws : List Word) (z : Pz) (p : Prop) (r : Ret) : Prop := ∃ b : Bool, (b = true → p) ∧ r = ⟨[.v (.bool b)], [z.cv ws]⟩
theorem is_ev (hz : Inv ws z) (s : ByteArray) : Ev P an 159 [.lent (z.cv ws), .v (.str s)] (IsI ws z (z.bad < 0 ∧ ((wd ws z).kind = 2 ∨ (wd ws z).kind = 7))) := by
  refine .fn (fun k => f159_eq k _ _ _ _ _ _) (.bR (w_ev hz) ?_)
  rintro r rfl
  refine .condT rfl (.condT rfl (.asInt rfl (.cond (fun hb => .asInt rfl (.cond (fun h2 => .bR (w_ev hz) ?_) (fun _ => .asInt rfl (.cond (fun h7 => .bR (w_ev hz) ?_) (fun _ => .ret ⟨false, by simp, rfl⟩))))) (fun _ => .ret ⟨false, by simp, rfl⟩))))
  · rintro r rfl
    exact .condT rfl (.condT rfl (.asStr rfl (.ret ⟨_, fun _ => ⟨dT hb, .inl (eT h2)⟩, rfl⟩)))
  · rintro r rfl
    exact .condT rfl (.condT rfl (.asStr rfl (.ret ⟨_, fun _ => ⟨dT hb, .inr (eT h7)⟩, rfl⟩)))
theorem Inv.next (hz : Inv ws z) (h : (wd ws z).kind ≠ 0) : Inv ws { z with k := z.k + 1 } := ⟨hz.W, by have := hz.k0; show 0 ≤ z.k + 1; omega, (wd_ok hz h).2, hz.bad, hz.d0, hz.d1⟩
theorem wrap_next (hz : Inv ws z) : IntKind.wrap .i64 (z.k + 1) = z.k + 1 := by
  have := hz.k0; have := hz.k1; have := hz.W.len
  exact wrap64_id (by omega) (by omega)
def TakeI (ws : List Word) (z : Pz) (r : Ret) : Prop := ∃ (b : Bool) (z' : Pz), Inv ws z' ∧ (b = false → z' = z) ∧ (b = true → z' = { z with k := z.k + 1 } ∧ z.bad < 0) ∧ r = ⟨[.v (.bool b)], [z'.cv ws]⟩
theorem take_ev (hz : Inv ws z) (s : ByteArray) : Ev P an 154 [.lent (z.cv ws), .v (.str s)] (TakeI ws z) := by
  refine .fn (fun k => f154_eq k _ _ _ _ _ _) (.bR (is_ev hz s) ?_)
  rintro r ⟨b, hb, rfl⟩
  refine .condT rfl (.asBool rfl (.cond (fun _ => .ret ⟨false, z, hz, fun _ => rfl, by simp, rfl⟩) (fun h => .asInt rfl (.ret ?_))))
  have hb := hb (by simpa using h)
  refine ⟨true, _, hz.next (by omega), by simp, fun _ => ⟨rfl, hb.1⟩, ?_⟩
  rw [wrap_next hz]; rfl
theorem TakeI.step {r : Ret} (h : TakeI ws z r) : ∃ (b : Bool) (z' : Pz), Inv ws z' ∧ Step z z' ∧ (b = true → z.k < z'.k) ∧ r = ⟨[.v (.bool b)], [z'.cv ws]⟩ := by
  obtain ⟨b, z', h1, h2, h3, rfl⟩ := h
  cases b with
  | false => rw [h2 rfl] at h1 ⊢; exact ⟨_, _, h1, .refl _, by simp, rfl⟩
  | true => obtain ⟨rfl, hb⟩ := h3 rfl; exact ⟨_, _, h1, ⟨by show z.k ≤ z.k + 1; omega, rfl, fun h => by omega⟩, fun _ => by show z.k < z.k + 1; omega, rfl⟩
def FailI (ws : List Word) (z : Pz) (r : Ret) : Prop := ∃ z' : Pz, Inv ws z' ∧ Step z z' ∧ 0 ≤ z'.bad ∧ r = ⟨[], [z'.cv ws]⟩
theorem fail_ev (hz : Inv ws z) : Ev P an 162 [.lent (z.cv ws)] (FailI ws z) := by
  refine .fn (fun k => f162_eq k _ _ _ _ _) (.cond (fun h => .bR (w_ev hz) ?_) (fun h => .ret ⟨z, hz, .refl _, by have := dF h; omega, rfl⟩))
  rintro r rfl
  have ha := wd_at hz
  exact .condT rfl (.condT rfl (.asInt rfl (.ret ⟨{ z with bad := (wd ws z).at_ }, ⟨hz.W, hz.k0, hz.k1, by show -1 ≤ (wd ws z).at_; omega, hz.d0, hz.d1⟩, ⟨Int.le_refl _, rfl, fun _ => ha⟩, ha, rfl⟩)))
theorem limit_ev (hz : Inv ws z) : Ev P an 160 [.lent (z.cv ws)] (FailI ws z) := by
  refine .fn (fun k => f160_eq k _ _ _ _ _) (.cond (fun h => .bR (w_ev hz) ?_) (fun h => .ret ⟨z, hz, .refl _, by have := dF h; omega, rfl⟩))
  rintro r rfl
  have ha := wd_at hz
  exact .condT rfl (.condT rfl (.asInt rfl (.ret ⟨{ z with bad := (wd ws z).at_, deep := true }, ⟨hz.W, hz.k0, hz.k1, by show -1 ≤ (wd ws z).at_; omega, hz.d0, hz.d1⟩, ⟨Int.le_refl _, rfl, fun _ => ha⟩, ha, rfl⟩)))
def GoI (ws : List Word) (z : Pz) (r : Ret) : Prop := ∃ z' : Pz, Inv ws z' ∧ Step z z' ∧ r = ⟨[], [z'.cv ws]⟩
theorem want_ev (hz : Inv ws z) (s : ByteArray) : Ev P an 157 [.lent (z.cv ws), .v (.str s)] (GoI ws z) := by
  refine .fn (fun k => f157_eq k _ _ _ _ _ _) (.bR (take_ev hz s) ?_)
  intro r h
  obtain ⟨b, z', h1, h2, _, rfl⟩ := h.step
  refine .condT rfl (.asBool rfl (.cond (fun _ => .bR (fail_ev h1) ?_) (fun _ => .ret ⟨z', h1, h2, rfl⟩)))
  rintro r ⟨z2, g1, g2, _, rfl⟩
  exact .condT rfl (.ret ⟨z2, g1, h2.trans g2, rfl⟩)
def NameI (ws : List Word) (z : Pz) (r : Ret) : Prop := ∃ (s : ByteArray) (z' : Pz), Inv ws z' ∧ Step z z' ∧ r = ⟨[.v (.str s)], [z'.cv ws]⟩
theorem name_ev (hz : Inv ws z) : Ev P an 155 [.lent (z.cv ws)] (NameI ws z) := by
  refine .fn (fun k => f155_eq k _ _ _ _ _) (.cond (fun _ => .bR (fail_ev hz) ?_) (fun hb => .bR (w_ev hz) ?_))
  · rintro r ⟨z2, g1, g2, _, rfl⟩
    exact .condT rfl (.ret ⟨_, z2, g1, g2, rfl⟩)
  · rintro r rfl
    refine .condT rfl (.condT rfl (.asInt rfl (.cond (fun _ => .bR (fail_ev hz) ?_) (fun h1 => .asInt rfl (.asList rfl ?_)))))
    · rintro r ⟨z2, g1, g2, _, rfl⟩
      exact .condT rfl (.ret ⟨_, z2, g1, g2, rfl⟩)
    · have hk := hz.k0; have hk1 := hz.k1; have hl := hz.W.len
      have h1 : (wd ws z).kind = 1 := by simpa using h1
      have e : IntKind.wrap .i64 (IntKind.wrap .i64 (z.k + 1) - 1) = z.k := by rw [wrap_next hz, wrap64_id (by omega) (by omega)]; omega
      rw [e, wd_pv hz, wrap_next hz]
      exact .condT (inB_true hk (by rw [List.length_map]; exact hk1)) (.condT rfl (.ret ⟨_, _, hz.next (by omega), ⟨by show z.k ≤ z.k + 1; omega, rfl, id⟩, rfl⟩))
theorem kindF_L (s : ByteArray) (l : List ByteArray) (hl : l.length = 7) : ∀ (f : Nat) (i : Int), 0 ≤ i → 7 - i ≤ f → Ev3 (fun k m0 _ => f182_L3 k m0 s i (l.map .str)) (OneI fun n => 0 ≤ n ∧ n ≤ 6) := by
  intro f
  induction f with
  | zero =>
    intro i h0 hf
    exact .loop0 (fun k m0 _ => f182_L3_eq k m0 s _ _) (.condF (by simp; omega) (.ret ⟨_, by decide, rfl⟩))
  | succ f ih =>
    intro i h0 hf
    refine .loop0 (fun k m0 _ => f182_L3_eq k m0 s _ _) (.cond (fun h => ?_) (fun _ => .ret ⟨_, by decide, rfl⟩))
    have h := dT h
    have hi : i.toNat < l.length := by omega
    refine .condT (inB_true h0 (by rw [List.length_map]; omega)) (.asStr (n := l[i.toNat]) (by simp [List.getD_eq_getElem?_getD, hi]) (.cond (fun _ => .ret ⟨_, ⟨h0, by omega⟩, rfl⟩) (fun _ => ?_)))
    rw [wrap64_id (by omega) (by omega)]
    exact ih _ (by omega) (by omega)
theorem kindF_ev (s : ByteArray) : Ev P an 182 [.v (.str s)] (OneI fun n => 0 ≤ n ∧ n ≤ 6) :=
  .fn (fun k => f182_eq k s) (kindF_L s [_, _, _, _, _, _, _] rfl 6 1 (by decide) (by decide)).in0
def KindI (ws : List Word) (z : Pz) (r : Ret) : Prop := ∃ (n : Int) (z' : Pz), 0 ≤ n ∧ n ≤ 6 ∧ (z'.bad < 0 → 1 ≤ n) ∧ Inv ws z' ∧ Step z z' ∧ r = ⟨[.v (.int .i64 n)], [z'.cv ws]⟩
theorem kind_J4 (hz : Inv ws z) (n : Int) (hn : 0 ≤ n ∧ n ≤ 6) (h : n ≠ 0 → (wd ws z).kind ≠ 0) : Ev3 (fun k _ _ => f156_J4 k (.int .i64 n) (.list 160 (ws.map Word.pv)) (.int .i64 z.k) (.int .i64 z.bad) (.bool z.deep) (.int .i64 z.d)) (KindI ws z) := by
  refine .eq (fun k _ _ => f156_J4_eq k _ _ _ _ _ _) (.asInt rfl (.cond (fun _ => .bR (fail_ev hz) ?_) (fun hne => .asInt rfl (.ret ?_))))
  · rintro r ⟨z2, g1, g2, g3, rfl⟩
    exact .condT rfl (.ret ⟨0, z2, by decide, by decide, fun h => by omega, g1, g2, rfl⟩)
  · rw [wrap_next hz]
    exact ⟨n, _, hn.1, hn.2, fun _ => by have := eF hne; omega, hz.next (h (eF hne)), ⟨by show z.k ≤ z.k + 1; omega, rfl, id⟩, rfl⟩
theorem kind_ev (hz : Inv ws z) : Ev P an 156 [.lent (z.cv ws)] (KindI ws z) := by
  have J0 := kind_J4 hz 0 (by decide) (fun h => absurd rfl h)
  refine .fn (fun k => f156_eq k _ _ _ _ _) (.cond (fun _ => .bR (w_ev hz) ?_) (fun _ => J0))
  rintro r rfl
  refine .condT rfl (.condT rfl (.asInt rfl (.cond (fun h2 => .bR (w_ev hz) ?_) (fun _ => J0))))
  have h2 := eT h2
  rintro r rfl
  refine .condT rfl (.condT rfl (.bR (kindF_ev _) ?_))
  rintro r ⟨n, hn, rfl⟩
  exact .condT rfl (kind_J4 hz n hn (fun _ => by omega))
def InI (ws : List Word) (z : Pz) (r : Ret) : Prop := ∃ (b : Bool) (z' : Pz), Inv ws z' ∧ (b = false → Step z z' ∧ 0 ≤ z'.bad) ∧ (b = true → z.d < 40 ∧ z' = { z with d := z.d + 1 }) ∧ r = ⟨[.v (.bool b)], [z'.cv ws]⟩
theorem in_ev (hz : Inv ws z) : Ev P an 183 [.lent (z.cv ws)] (InI ws z) := by
  have h0 := hz.d0
  refine .fn (fun k => f183_eq k _ _ _ _ _) (.cond (fun h => .ret ⟨false, z, hz, fun _ => ⟨.refl _, dT h⟩, by simp, rfl⟩) (fun hb => .cond (fun _ => .bR (limit_ev hz) ?_) (fun h => .ret ?_)))
  · rintro r ⟨z2, g1, g2, g3, rfl⟩
    exact .condT rfl (.ret ⟨false, z2, g1, fun _ => ⟨g2, g3⟩, by simp, rfl⟩)
  · have h := dF h
    rw [wrap64_id (by omega) (by omega)]
    exact ⟨true, { z with d := z.d + 1 }, ⟨hz.W, hz.k0, hz.k1, hz.bad, by show 0 ≤ z.d + 1; omega, by show z.d + 1 ≤ 50; omega⟩, by simp, fun _ => ⟨by omega, rfl⟩, rfl⟩
theorem out_ev (hz : Inv ws z) (hd : 1 ≤ z.d) : Ev P an 185 [.lent (z.cv ws)] fun r => Inv ws { z with d := z.d - 1 } ∧ r = ⟨[], [({ z with d := z.d - 1 } : Pz).cv ws]⟩ := by
  have h1 := hz.d1
  refine .fn (fun k => f185_eq k _ _ _ _ _) (.ret ?_)
  rw [wrap64_id (by omega) (by omega)]
  exact ⟨⟨hz.W, hz.k0, hz.k1, hz.bad, by show 0 ≤ z.d - 1; omega, by show z.d - 1 ≤ 50; omega⟩, rfl⟩
theorem islit_ev (hz : Inv ws z) : Ev P an 186 [.lent (z.cv ws)] (IsI ws z (z.bad < 0 ∧ ((wd ws z).kind = 2 ∨ (wd ws z).kind = 7 ∨ 3 ≤ (wd ws z).kind ∧ (wd ws z).kind ≤ 6))) := by
  refine .fn (fun k => f186_eq k _ _ _ _ _) (.bR (w_ev hz) ?_)
  rintro r rfl
  refine .condT rfl (.condT rfl (.asInt rfl (.cond (fun hb => .asInt rfl (.cond (fun h3 => .asInt rfl (.cond (fun h6 => .ret ⟨true, fun _ => ⟨dT hb, .inr (.inr ⟨dT h3, dT h6⟩)⟩, rfl⟩) (fun _ => .bR (is_ev hz _) ?_))) (fun _ => .bR (is_ev hz _) ?_))) (fun _ => .ret ⟨false, by simp, rfl⟩))))
  · rintro r ⟨b, h, rfl⟩
    refine .condT rfl (.asBool rfl (.cond (fun ht => .ret ⟨true, fun _ => ⟨(h ht).1, by have := (h ht).2; omega⟩, rfl⟩) (fun _ => .bR (is_ev hz _) ?_)))
    rintro r ⟨b, h, rfl⟩
    exact .condT rfl (.ret ⟨b, fun ht => ⟨(h ht).1, by have := (h ht).2; omega⟩, rfl⟩)
  · rintro r ⟨b, h, rfl⟩
    refine .condT rfl (.asBool rfl (.cond (fun ht => .ret ⟨true, fun _ => ⟨(h ht).1, by have := (h ht).2; omega⟩, rfl⟩) (fun _ => .bR (is_ev hz _) ?_)))
    rintro r ⟨b, h, rfl⟩
    exact .condT rfl (.ret ⟨b, fun ht => ⟨(h ht).1, by have := (h ht).2; omega⟩, rfl⟩)
end Go.Proofs.Sx.Z
