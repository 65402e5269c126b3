/- What the interpreter's values mean in the model's memory. -/
import Derived.Test.YtoeplmfcjonkgaaGreatSxAct
import Derived.Laws.AppendOwn
import Derived.Laws.OwnMore
import Derived.Laws.MakeOwn
import Derived.Laws.Rows
import Derived.Laws.Slices
import Derived.WalkSmall
import Derived.Below
set_option linter.unusedVariables false
set_option linter.unusedSimpArgs false
namespace Go.Proofs.Sx
open Go

/-- A value of a type's cells. -/
def Fits (P : Program) (e : TypeId) (v : Value) : Prop :=
  v.cells.size = P.cellsOf e ∧ (if aggT P e then ∃ cs : Array Value, v = .agg cs else v.oneCell' = true)

inductive RepV (P : Program) (ok : Nat → Prop) (w : World) : PV → Value → Prop
  | int (k : IntKind) (n : Int) : RepV P ok w (.int k n) (.int k n)
  | bool (b : Bool) : RepV P ok w (.bool b) (.bool b)
  | str (s : ByteArray) : RepV P ok w (.str s) (.string s)
  | nil (e : TypeId) (a : Option Addr) (c : Nat) : RepV P ok w (.list e []) (.slice a 0 c)
  | list (e : TypeId) (xs : List PV) (b o c : Nat) (vs : Nat → Value) (hx : xs ≠ []) (hok : ok b) (hc : xs.length ≤ c)
      (hv : ∀ i x, xs[i]? = some x → RepV P ok w x (vs i)) (hf : ∀ i, i < xs.length → Fits P e (vs i))
      (hw : ∀ i j u, i < xs.length → (vs i).cells[j]? = some u → w.cell? ⟨b, o + (i * P.cellsOf e + j), none⟩ = some u) :
      RepV P ok w (.list e xs) (.slice (some ⟨b, o, none⟩) xs.length c)
  | agg (ps : List PV) (vs : List Value) (hl : vs.length = ps.length) (hv : ∀ (j : Nat) p v, ps[j]? = some p → vs[j]? = some v → RepV P ok w p v)
      (h1 : ∀ v ∈ vs, v.oneCell' = true) : RepV P ok w (.agg ps) (.agg vs.toArray)
  | func (f : FuncId) (ps : List PV) (vs : List Value) (hl : vs.length = ps.length) (hv : ∀ (j : Nat) p v, ps[j]? = some p → vs[j]? = some v → RepV P ok w p v) :
      RepV P ok w (.func f ps) (.func (.func f) #[] vs.toArray)

theorem cell_block {w w' : World} {b o : Nat} (h : w'.heap[b]? = w.heap[b]?) : w'.cell? ⟨b, o, none⟩ = w.cell? ⟨b, o, none⟩ := by simp [World.cell?, h]
theorem lt_of_cell {w : World} {b o : Nat} {u : Value} (h : w.cell? ⟨b, o, none⟩ = some u) : b < w.heap.size := by
  rcases Nat.lt_or_ge b w.heap.size with h' | h'
  · exact h'
  · simp [World.cell?, Array.getElem?_eq_none h'] at h

theorem RepV.mono {P : Program} {ok ok' : Nat → Prop} {w w' : World} (hok : ∀ b, ok b → ok' b) (hw : ∀ b, ok b → b < w.heap.size → w'.heap[b]? = w.heap[b]?)
    {p : PV} {v : Value} (h : RepV P ok w p v) : RepV P ok' w' p v := by
  induction h with
  | int k n => exact .int k n
  | bool b => exact .bool b
  | str s => exact .str s
  | nil e a c => exact .nil e a c
  | list e xs b o c vs hx hb hc hv hf hcell ih =>
    refine .list e xs b o c vs hx (hok b hb) hc (fun i x h => ih i x h) hf fun i j u hi hu => ?_
    have h0 := hcell i j u hi hu
    rw [cell_block (hw b hb (lt_of_cell h0))]; exact h0
  | agg ps vs hl hv h1 ih => exact .agg ps vs hl (fun j p v h h' => ih j p v h h') h1
  | func f ps vs hl hv ih => exact .func f ps vs hl (fun j p v h h' => ih j p v h h')

structure Gh where
  gb : Nat → Nat
  sg : Nat → Value
  ok : Nat → Prop

/-- How often a row has been made longer or shorter. -/
def genOf : Option Ob → Option Nat
  | some (.row g _ _ _) => some g
  | some (.dead g) => some g
  | _ => none

inductive RelAV (P : Program) (G : Gh) (ob : Nat → Option Ob) (w : World) : AV → Value → Prop
  | pv (p : PV) (v : Value) (h : RepV P G.ok w p v) : RelAV P G ob w (.pv p) v
  | ref (id off : Nat) (v : Value) (h1 : v.oneCell' = true) (h0 : (ob id).isSome = true) (h : ∀ cs, ob id = some (.box cs) → v = .pointer (some ⟨G.gb id, off, none⟩)) : RelAV P G ob w (.ref id off) v
  | row (id g : Nat) (v : Value) (h1 : v.oneCell' = true) (h0 : (ob id).isSome = true) (hg : ∀ g', genOf (ob id) = some g' → g ≤ g')
      (h : ∀ e xs fr, ob id = some (.row g e xs fr) → v = G.sg id) : RelAV P G ob w (.row id g) v
  | elem (id g i off : Nat) (v : Value) (h1 : v.oneCell' = true) (h0 : (ob id).isSome = true) (hg : ∀ g', genOf (ob id) = some g' → g ≤ g')
      (h : ∀ e xs fr, ob id = some (.row g e xs fr) → i < xs.length ∧ ∃ b, (G.sg id).ownBlock = some b ∧ v = .pointer (some ⟨b, i * P.cellsOf e + off, none⟩)) : RelAV P G ob w (.elem id g i off) v
  | pelem (e : TypeId) (p : PV) (off b o : Nat) (u : Value) (hb : G.ok b) (hp : RepV P G.ok w p u) (hf : Fits P e u)
      (hw : ∀ j c, u.cells[j]? = some c → w.cell? ⟨b, o + j, none⟩ = some c) : RelAV P G ob w (.pelem e p off) (.pointer (some ⟨b, o + off, none⟩))
  | agg (cs : List AV) (vs : List Value) (hl : vs.length = cs.length) (hv : ∀ (j : Nat) a v, cs[j]? = some a → vs[j]? = some v → RelAV P G ob w a v)
      (h1 : ∀ v ∈ vs, v.oneCell' = true) : RelAV P G ob w (.agg cs) (.agg vs.toArray)
  | tup (cs : List AV) (vs : List Value) (hl : vs.length = cs.length) (hv : ∀ (j : Nat) a v, cs[j]? = some a → vs[j]? = some v → RelAV P G ob w a v) :
      RelAV P G ob w (.tup cs) (.tuple vs.toArray)
  | nilS (e : TypeId) : RelAV P G ob w (.nilS e) (.slice none 0 0)
  | nilP : RelAV P G ob w .nilP (.pointer none)
  | undef : RelAV P G ob w .undef Go.undef
  | gone (v : Value) : RelAV P G ob w .gone v

/-- The cells of a row's elements. -/
def cellsOfL (vs : List Value) : List Value := vs.flatMap fun v => v.cells.toList

/-- A row that reads as a list, and that nothing else leads to. -/
def OwnAt (P : Program) (ok : Nat → Prop) (w : World) (e : TypeId) (xs : List PV) (v : Value) : Prop :=
  ∃ us : List Value, us.length = xs.length ∧ (∀ (i : Nat) x u, xs[i]? = some x → us[i]? = some u → RepV P ok w x u) ∧ (∀ u ∈ us, Fits P e u) ∧
    w.ownsRow 0 e (P.cellsOf e) v xs.length (cellsOfL us)

def RelOb (P : Program) (G : Gh) (ob : Nat → Option Ob) (w : World) (id : Nat) : Ob → Prop
  | .box cs => ∃ (T : TypeId) (vs : List Value), w.heap[G.gb id]? = some (.cells vs.toArray T (0, 0)) ∧ vs.length = cs.length ∧
      (∀ (j : Nat) a v, cs[j]? = some a → vs[j]? = some v → RelAV P G ob w a v) ∧ (∀ v ∈ vs, v.oneCell' = true)
  | .row _ e xs fr => OwnAt P G.ok w e xs (G.sg id) ∧ (fr = true → ∀ b, (G.sg id).ownBlock = some b → G.ok b)
  | .dead _ => True

def blk (G : Gh) (id : Nat) : Option Ob → Option Nat
  | some (.box _) => some (G.gb id)
  | some (.row _ _ _ _) => (G.sg id).ownBlock
  | _ => none
def frz : Option Ob → Bool
  | some (.row _ _ _ fr) => fr
  | _ => false

/-- Where a call began: its world, what was plain then, the blocks that were handed over, the variables that were lent. -/
structure Ctx where
  w0 : World
  ok0 : Nat → Prop
  M : Nat → Prop
  lent : Nat → Option Nat

structure Same (w0 w : World) (M : Nat → Prop) : Prop where
  os : w.os = w0.os
  tape : w.tape = w0.tape
  output : w.output = w0.output
  size : w0.heap.size ≤ w.heap.size
  block : ∀ b, b < w0.heap.size → ¬ M b → w.heap[b]? = w0.heap[b]?

structure RelG (P : Program) (C : Ctx) (G : Gh) (s : St) (a : Act) (w : World) : Prop where
  tsz : a.tmps.size = s.n
  dfr : a.defers = []
  sl : ∀ t, RelAV P G s.ob w (s.sl t) (a.tmps.getD t Go.undef)
  ob : ∀ id o, s.ob id = some o → RelOb P G s.ob w id o
  inj : ∀ i j b, blk G i (s.ob i) = some b → blk G j (s.ob j) = some b → i = j
  own : ∀ i b, blk G i (s.ob i) = some b → b < w.heap.size ∧ (C.w0.heap.size ≤ b ∨ C.M b)
  apart : ∀ i b, blk G i (s.ob i) = some b → frz (s.ob i) = false → ¬ G.ok b
  ok0 : ∀ b, C.ok0 b → G.ok b
  okN : ∀ b, G.ok b → C.ok0 b ∨ C.w0.heap.size ≤ b ∨ C.M b
  okS : ∀ b, G.ok b → b < w.heap.size
  lent : ∀ i b, C.lent i = some b → i < s.np ∧ ∀ cs, s.ob i = some (.box cs) → G.gb i = b
  same : Same C.w0 w C.M

def Rel (P : Program) (C : Ctx) (s : St) (a : Act) (w : World) : Prop := ∃ G, RelG P C G s a w

/-! ### What stays -/

/-- What references see of a step: each thing is as it was, or newer. -/
structure Later (G G' : Gh) (ob ob' : Nat → Option Ob) : Prop where
  live : ∀ id, (ob id).isSome = true → (ob' id).isSome = true
  box : ∀ id cs, ob' id = some (.box cs) → (ob id).isSome = true → G'.gb id = G.gb id ∧ ∃ cs', ob id = some (.box cs')
  gen : ∀ id g, genOf (ob' id) = some g → (ob id).isSome = true → ∃ g0, genOf (ob id) = some g0 ∧ g0 ≤ g
  row : ∀ id g e xs fr, ob' id = some (.row g e xs fr) → (ob id).isSome = true →
    (∃ g0, genOf (ob id) = some g0 ∧ g0 < g) ∨ ∃ xs0 fr0, ob id = some (.row g e xs0 fr0) ∧ xs0.length = xs.length ∧ G'.sg id = G.sg id

theorem RelAV.later {P : Program} {G G' : Gh} {ob ob' : Nat → Option Ob} {w w' : World} (hok : ∀ b, G.ok b → G'.ok b)
    (hw : ∀ b, G.ok b → b < w.heap.size → w'.heap[b]? = w.heap[b]?) (hl : Later G G' ob ob')
    {a : AV} {v : Value} (h : RelAV P G ob w a v) : RelAV P G' ob' w' a v := by
  induction h with
  | pv p v h => exact .pv p v (h.mono hok hw)
  | ref id off v h1 h0 h =>
    refine .ref id off v h1 (hl.live id h0) fun cs hcs => ?_
    obtain ⟨h1, cs', h2⟩ := hl.box id cs hcs h0
    rw [h1]; exact h cs' h2
  | row id g v h1 h0 hg h =>
    refine .row id g v h1 (hl.live id h0) (fun g' hx => ?_) fun e xs fr hx => ?_
    · obtain ⟨g0, h2, h3⟩ := hl.gen id g' hx h0
      have := hg _ h2; omega
    · rcases hl.row id g e xs fr hx h0 with ⟨g0, h2, h3⟩ | ⟨xs0, fr0, h2, h4, h5⟩
      · have := hg _ h2; omega
      · rw [h5]; exact h _ _ _ h2
  | elem id g i off v h1 h0 hg h =>
    refine .elem id g i off v h1 (hl.live id h0) (fun g' hx => ?_) fun e xs fr hx => ?_
    · obtain ⟨g0, h2, h3⟩ := hl.gen id g' hx h0
      have := hg _ h2; omega
    · rcases hl.row id g e xs fr hx h0 with ⟨g0, h2, h3⟩ | ⟨xs0, fr0, h2, h4, h5⟩
      · have := hg _ h2; omega
      · rw [h5, ← h4]; exact h _ _ _ h2
  | pelem e p off b o u hb' hp hf hcell =>
    refine .pelem e p off b o u (hok b hb') (hp.mono hok hw) hf fun j c hc => ?_
    have h0 := hcell j c hc
    rw [cell_block (hw b hb' (lt_of_cell h0))]; exact h0
  | agg cs vs hl' hv h1 ih => exact .agg cs vs hl' (fun j a v h h' => ih j a v h h') h1
  | tup cs vs hl' hv ih => exact .tup cs vs hl' (fun j a v h h' => ih j a v h h')
  | nilS e => exact .nilS e
  | nilP => exact .nilP
  | undef => exact .undef
  | gone v => exact .gone v

theorem OwnAt.mono {P : Program} {ok ok' : Nat → Prop} {w w' : World} (hok : ∀ b, ok b → ok' b) (hw : ∀ b, ok b → b < w.heap.size → w'.heap[b]? = w.heap[b]?)
    {e : TypeId} {xs : List PV} {v : Value} (hb : ∀ b, v.ownBlock = some b → w'.heap[b]? = w.heap[b]?) (h : OwnAt P ok w e xs v) : OwnAt P ok' w' e xs v := by
  obtain ⟨us, hl, hv, hf, h1, h2⟩ := h
  refine ⟨us, hl, fun i x u hx hu => (hv i x u hx hu).mono hok hw, hf, h1, ?_⟩
  rcases h2 with h2 | ⟨g, cap, cur, rfl, hg, hh, r⟩
  · exact .inl h2
  · exact .inr ⟨g, cap, cur, rfl, hg, by rw [hb g rfl]; exact hh, r⟩

theorem RelOb.later {P : Program} {G G' : Gh} {ob ob' : Nat → Option Ob} {w w' : World} (hok : ∀ b, G.ok b → G'.ok b)
    (hw : ∀ b, G.ok b → b < w.heap.size → w'.heap[b]? = w.heap[b]?) (hl : Later G G' ob ob') {id : Nat} {o : Ob} (h : RelOb P G ob w id o)
    (hg : G'.gb id = G.gb id) (hs : G'.sg id = G.sg id) (hb : ∀ b, blk G id (some o) = some b → w'.heap[b]? = w.heap[b]?) : RelOb P G' ob' w' id o := by
  cases o with
  | box cs =>
    obtain ⟨T, vs, h1, h2, h3, h4⟩ := h
    exact ⟨T, vs, by rw [hg, hb _ rfl]; exact h1, h2, fun j a v hj hv => (h3 j a v hj hv).later hok hw hl, h4⟩
  | row g e xs fr =>
    obtain ⟨h1, h2⟩ := h
    exact ⟨by rw [hs]; exact h1.mono hok hw (fun b hb' => hb b hb'), fun hf b hb' => hok b (h2 hf b (by rw [← hs]; exact hb'))⟩
  | dead g => trivial

/-- The blocks that a step may write: those of the things that it turns. -/
def Turned (G : Gh) (ob : Nat → Option Ob) (T : Nat → Prop) (b : Nat) : Prop := ∃ i, T i ∧ blk G i (ob i) = some b ∧ frz (ob i) = false

theorem blk_some {G : Gh} {i b : Nat} {o : Option Ob} (h : blk G i o = some b) : o.isSome = true := by
  cases o <;> simp_all [blk]

/-- One step: the things T are turned or new; all else stays. -/
theorem RelG.stepG {P : Program} {C : Ctx} {G G' : Gh} {s : St} {a : Act} {w w' : World} (h : RelG P C G s a w) (T : Nat → Prop)
    {sl' : Nat → AV} {ob' : Nat → Option Ob} {a' : Act}
    (hT : ∀ i, ¬ T i → G'.gb i = G.gb i ∧ G'.sg i = G.sg i ∧ ob' i = s.ob i)
    (hw : Same w w' (Turned G s.ob T))
    (hok : ∀ b, G.ok b → G'.ok b) (hokN : ∀ b, G'.ok b → G.ok b ∨ w.heap.size ≤ b ∨ Turned G s.ob T b) (hokS : ∀ b, G'.ok b → b < w'.heap.size)
    (hsm : ∀ i, T i → (s.ob i).isSome = true → (ob' i).isSome = true)
    (hbx : ∀ i cs, T i → ob' i = some (.box cs) → (s.ob i).isSome = true → G'.gb i = G.gb i ∧ ∃ cs', s.ob i = some (.box cs'))
    (hgn : ∀ i g, T i → genOf (ob' i) = some g → (s.ob i).isSome = true → ∃ g0, genOf (s.ob i) = some g0 ∧ g0 ≤ g)
    (hrw : ∀ i g e xs fr, T i → ob' i = some (.row g e xs fr) → (s.ob i).isSome = true →
      (∃ g0, genOf (s.ob i) = some g0 ∧ g0 < g) ∨ ∃ xs0 fr0, s.ob i = some (.row g e xs0 fr0) ∧ xs0.length = xs.length ∧ G'.sg i = G.sg i)
    (hob : Later G G' s.ob ob' → (∀ b, G.ok b → b < w.heap.size → w'.heap[b]? = w.heap[b]?) → ∀ i o, T i → ob' i = some o → RelOb P G' ob' w' i o)
    (hown : ∀ i b, T i → blk G' i (ob' i) = some b → b < w'.heap.size ∧ (C.w0.heap.size ≤ b ∨ C.M b) ∧ ∀ j, ¬ T j → blk G j (s.ob j) ≠ some b)
    (hinj : ∀ i j b, T i → T j → blk G' i (ob' i) = some b → blk G' j (ob' j) = some b → i = j)
    (hap : ∀ i b, T i → blk G' i (ob' i) = some b → frz (ob' i) = false → ¬ G'.ok b)
    (hlent : ∀ i b cs, T i → C.lent i = some b → ob' i = some (.box cs) → G'.gb i = b)
    (hts : a'.tmps.size = s.n) (hd : a'.defers = [])
    (hsl : Later G G' s.ob ob' → (∀ b, G.ok b → b < w.heap.size → w'.heap[b]? = w.heap[b]?) → ∀ t, RelAV P G' ob' w' (sl' t) (a'.tmps.getD t Go.undef)) :
    RelG P C G' { s with sl := sl', ob := ob' } a' w' := by
  have hL : Later G G' s.ob ob' := by
    refine ⟨fun id h0 => ?_, fun id cs hx h0 => ?_, fun id g hx h0 => ?_, fun id g e xs fr hx h0 => ?_⟩
    · by_cases ht : T id
      · exact hsm id ht h0
      · rw [(hT id ht).2.2]; exact h0
    · by_cases ht : T id
      · exact hbx id cs ht hx h0
      · obtain ⟨h1, h2, h3⟩ := hT id ht
        exact ⟨h1, cs, h3 ▸ hx⟩
    · by_cases ht : T id
      · exact hgn id g ht hx h0
      · obtain ⟨h1, h2, h3⟩ := hT id ht
        exact ⟨g, h3 ▸ hx, Nat.le_refl _⟩
    · by_cases ht : T id
      · exact hrw id g e xs fr ht hx h0
      · obtain ⟨h1, h2, h3⟩ := hT id ht
        exact .inr ⟨xs, fr, h3 ▸ hx, rfl, h2⟩
  have hW : ∀ b, G.ok b → b < w.heap.size → w'.heap[b]? = w.heap[b]? := fun b hb hlt => by
    refine hw.block b hlt ?_
    rintro ⟨i, _, h1, h2⟩
    exact h.apart i b h1 h2 hb
  have hblk : ∀ i, ¬ T i → blk G' i (ob' i) = blk G i (s.ob i) := fun i ht => by
    obtain ⟨h1, h2, h3⟩ := hT i ht
    rw [h3]
    cases s.ob i with
    | none => rfl
    | some o => cases o <;> simp [blk, h1, h2]
  have hturn : ∀ j b, ¬ T j → blk G j (s.ob j) = some b → ¬ Turned G s.ob T b := fun j b hj hb ⟨i, hi, h1, _⟩ => hj (h.inj i j b h1 hb ▸ hi)
  refine ⟨hts, hd, hsl hL hW, ?_, ?_, ?_, ?_, fun b hb => hok b (h.ok0 b hb), ?_, hokS, ?_, ?_⟩
  · intro id o ho
    by_cases ht : T id
    · exact hob hL hW id o ht ho
    · obtain ⟨h1, h2, h3⟩ := hT id ht
      have ho' : s.ob id = some o := h3 ▸ ho
      refine (h.ob id o ho').later hok hW hL h1 h2 fun b hb => ?_
      have hb' : blk G id (s.ob id) = some b := by rw [ho']; exact hb
      exact hw.block b (h.own id b hb').1 (hturn id b ht hb')
  · intro i j b hi hj
    by_cases hti : T i <;> by_cases htj : T j
    · exact hinj i j b hti htj hi hj
    · exact absurd (hblk j htj ▸ hj) ((hown i b hti hi).2.2 j htj)
    · exact absurd (hblk i hti ▸ hi) ((hown j b htj hj).2.2 i hti)
    · exact h.inj i j b (hblk i hti ▸ hi) (hblk j htj ▸ hj)
  · intro i b hi
    by_cases ht : T i
    · exact ⟨(hown i b ht hi).1, (hown i b ht hi).2.1⟩
    · have hi' : blk G i (s.ob i) = some b := hblk i ht ▸ hi
      exact ⟨Nat.lt_of_lt_of_le (h.own i b hi').1 hw.size, (h.own i b hi').2⟩
  · intro i b hi hf hok'
    by_cases ht : T i
    · exact hap i b ht hi hf hok'
    · have hi' : blk G i (s.ob i) = some b := hblk i ht ▸ hi
      have hf' : frz (s.ob i) = false := by rw [← (hT i ht).2.2]; exact hf
      rcases hokN b hok' with h1 | h1 | h1
      · exact h.apart i b hi' hf' h1
      · have := (h.own i b hi').1; omega
      · exact hturn i b ht hi' h1
  · intro b hb
    rcases hokN b hb with h1 | h1 | ⟨j, _, hj, _⟩
    · exact h.okN b h1
    · exact .inr (.inl (Nat.le_trans h.same.size h1))
    · exact .inr (h.own j b hj).2
  · intro i b hb
    obtain ⟨h1, h2⟩ := h.lent i b hb
    refine ⟨h1, fun cs hcs => ?_⟩
    have hcs : ob' i = some (.box cs) := hcs
    by_cases ht : T i
    · exact hlent i b cs ht hb hcs
    · obtain ⟨h3, _, h4⟩ := hT i ht
      rw [h3]; exact h2 cs (h4 ▸ hcs)
  · refine ⟨hw.os.trans h.same.os, hw.tape.trans h.same.tape, hw.output.trans h.same.output, Nat.le_trans h.same.size hw.size, fun b hb hM => ?_⟩
    rw [hw.block b (Nat.lt_of_lt_of_le hb h.same.size), h.same.block b hb hM]
    rintro ⟨j, _, hj, _⟩
    rcases (h.own j b hj).2 with h1 | h1
    · omega
    · exact hM h1

/-- The same, for a step of the frame's own. -/
theorem RelG.step {P : Program} {C : Ctx} {G G' : Gh} {s : St} {a : Act} {w w' : World} (h : RelG P C G s a w) (T : Nat → Prop)
    {sl' : Nat → AV} {ob' : Nat → Option Ob} {a' : Act}
    (hT : ∀ i, ¬ T i → G'.gb i = G.gb i ∧ G'.sg i = G.sg i ∧ ob' i = s.ob i)
    (hw : Same w w' (Turned G s.ob T))
    (hok : ∀ b, G.ok b → G'.ok b) (hokN : ∀ b, G'.ok b → G.ok b ∨ w.heap.size ≤ b ∨ Turned G s.ob T b) (hokS : ∀ b, G'.ok b → b < w'.heap.size)
    (hsm : ∀ i, T i → (s.ob i).isSome = true → (ob' i).isSome = true)
    (hbx : ∀ i cs, T i → ob' i = some (.box cs) → (s.ob i).isSome = true → G'.gb i = G.gb i ∧ ∃ cs', s.ob i = some (.box cs'))
    (hgn : ∀ i g, T i → genOf (ob' i) = some g → (s.ob i).isSome = true → ∃ g0, genOf (s.ob i) = some g0 ∧ g0 ≤ g)
    (hrw : ∀ i g e xs fr, T i → ob' i = some (.row g e xs fr) → (s.ob i).isSome = true →
      (∃ g0, genOf (s.ob i) = some g0 ∧ g0 < g) ∨ ∃ xs0 fr0, s.ob i = some (.row g e xs0 fr0) ∧ xs0.length = xs.length ∧ G'.sg i = G.sg i)
    (hob : Later G G' s.ob ob' → (∀ b, G.ok b → b < w.heap.size → w'.heap[b]? = w.heap[b]?) → ∀ i o, T i → ob' i = some o → RelOb P G' ob' w' i o)
    (hown : ∀ i b, T i → blk G' i (ob' i) = some b → b < w'.heap.size ∧ (w.heap.size ≤ b ∨ Turned G s.ob T b))
    (hinj : ∀ i j b, T i → T j → blk G' i (ob' i) = some b → blk G' j (ob' j) = some b → i = j)
    (hap : ∀ i b, T i → blk G' i (ob' i) = some b → frz (ob' i) = false → ¬ G'.ok b)
    (hlent : ∀ i, T i → i < s.np → (s.ob i).isSome = true ∨ ob' i = none)
    (hts : a'.tmps.size = s.n) (hd : a'.defers = [])
    (hsl : Later G G' s.ob ob' → (∀ b, G.ok b → b < w.heap.size → w'.heap[b]? = w.heap[b]?) → ∀ t, RelAV P G' ob' w' (sl' t) (a'.tmps.getD t Go.undef)) :
    RelG P C G' { s with sl := sl', ob := ob' } a' w' := by
  have hturn : ∀ j b, ¬ T j → blk G j (s.ob j) = some b → ¬ Turned G s.ob T b := fun j b hj hb ⟨i, hi, h1, _⟩ => hj (h.inj i j b h1 hb ▸ hi)
  refine h.stepG T hT hw hok hokN hokS hsm hbx hgn hrw hob (fun i b ht hi => ?_) hinj hap (fun i b cs ht hb hcs => ?_) hts hd hsl
  · obtain ⟨h1, h2⟩ := hown i b ht hi
    refine ⟨h1, ?_, fun j hj hjb => ?_⟩
    · rcases h2 with h2 | ⟨j, _, hj, _⟩
      · exact .inl (Nat.le_trans h.same.size h2)
      · exact (h.own j b hj).2
    · rcases h2 with h2 | h2
      · have := (h.own j b hjb).1; omega
      · exact hturn j b hj hjb h2
  · obtain ⟨h1, h2⟩ := h.lent i b hb
    rcases hlent i ht h1 with h3 | h3
    · obtain ⟨h4, cs', h5⟩ := hbx i cs ht hcs h3
      rw [h4]; exact h2 cs' h5
    · rw [h3] at hcs; cases hcs
end Go.Proofs.Sx
