/- A call, seen from the caller's frame. -/
import Derived.Test.YtoeplmfcjonkgaaGreatSxSend
set_option linter.unusedVariables false
set_option linter.unusedSimpArgs false
namespace Go.Proofs.Sx
open Go

/-- A call of a function, however the model runs it. -/
def Goes (P : Program) (f : FuncId) (args : Array Value) (w : World) (K : Value → World → Prop) : Prop :=
  match (callFunc f args).run P w with
  | .ok (.value v) w' => K v w'
  | .ok (.enter f' args') w' => Calls P f' args' w' fun
    | .returned v, w'' => K v w''
    | _, _ => False
  | .ok (.row row args') w' => Rows P row args' w' K
  | _ => False

/-- What a call finds. -/
structure Pre (P : Program) (ok : Nat → Prop) (w : World) (as : List PA) (vs : List Value) (bs : List Nat) : Prop where
  rel : PAsRel P ok w as vs bs
  nd : bs.Nodup
  nok : ∀ b ∈ bs, ¬ ok b
  lt : ∀ b ∈ bs, b < w.heap.size
  okS : ∀ b, ok b → b < w.heap.size

def retPAs (r : Ret) : List PA := r.res.map paOf ++ r.lent.map .lent
def pack : List Value → Value
  | [v] => v
  | vs => .tuple vs.toArray

/-- What a call leaves. -/
structure Post (P : Program) (ok : Nat → Prop) (w : World) (bs : List Nat) (lv : List Value) (r : Ret) (u : Value) (w' : World) (vs : List Value) (ok' : Nat → Prop) (bs' : List Nat) : Prop where
  val : u = pack vs
  pre : Pre P ok' w' (retPAs r) (vs ++ lv) bs'
  len : vs.length = r.res.length
  ok1 : ∀ b, ok b → ok' b
  ok2 : ∀ b, ok' b → ok b ∨ w.heap.size ≤ b ∨ b ∈ bs
  bs2 : ∀ b ∈ bs', w.heap.size ≤ b ∨ b ∈ bs
  same : Same w w' (· ∈ bs)

def Spec (P : Program) (f : FuncId) (args : List PA) (r : Ret) : Prop :=
  ∀ (w : World) (ok : Nat → Prop) (vals : List Value) (bs : List Nat), Pre P ok w args vals bs →
    Goes P f vals.toArray w fun u w' => ∃ vs ok' bs', Post P ok w bs (lentVals args vals) r u w' vs ok' bs'

section
variable {P : Program} {C : Ctx} {G : Gh} {s : St} {a : Act} {w : World} {sl : Nat → AV} {ob : Nat → Option Ob} {o : Oper} {δ : Delta}
variable {an : An} {me : FuncId} {cf : FuncId → List PA → Option Ret}

theorem lentVals_plain : ∀ (ps : List PV) (us : List Value), lentVals (ps.map .v) us = []
  | [], us => by cases us <;> rfl
  | p :: ps, [] => rfl
  | p :: ps, u :: us => lentVals_plain ps us
theorem lentVals_append : ∀ {as : List PA} {vs : List Value} {ps : List PV} {us : List Value}, vs.length = as.length → lentVals (as ++ ps.map .v) (vs ++ us) = lentVals as vs
  | [], [], ps, us, _ => by
    exact lentVals_plain ps us
  | a :: as, v :: vs, ps, us, h => by
    have ih := lentVals_append (as := as) (vs := vs) (ps := ps) (us := us) (by simpa using h)
    cases a <;> simp [lentVals, ih]
  | [], _ :: _, _, _, h => by simp at h
  | _ :: _, [], _, _, h => by simp at h

theorem argAVs_get {ts : Array TypeId} : ∀ {xs : List Operand} {i : Nat}, (argAVs P sl ts i xs).length = xs.length ∧ ∀ (j : Nat) x, (argAVs P sl ts i xs)[j]? = some x → ∃ y t, xs[j]? = some y ∧ x = (opd P sl t y, t)
  | [], i => ⟨rfl, fun j x h => by simp [argAVs] at h⟩
  | y :: ys, i => by
    obtain ⟨h1, h2⟩ := argAVs_get (ts := ts) (xs := ys) (i := i + 1)
    refine ⟨by simp [argAVs, h1], fun j x h => ?_⟩
    cases j with
    | zero => simp [argAVs] at h; exact ⟨y, _, rfl, h.symm⟩
    | succ j => exact h2 j x (by simpa [argAVs] using h)

theorem rep_func {ok : Nat → Prop} {f : FuncId} {ps : List PV} {v : Value} (h : RepV P ok w (.func f ps) v) : ∃ vs : List Value, v = .func (.func f) #[] vs.toArray ∧ vs.length = ps.length ∧
    ∀ (j : Nat) p v, ps[j]? = some p → vs[j]? = some v → RepV P ok w p v := by
  cases h with
  | func _ _ vs hl hv => exact ⟨vs, rfl, hl, hv⟩

theorem flat_rep {ok ok' : Nat → Prop} {w w' : World} {p : PV} {v : Value} (hf : isFlatP p = true) (h : RepV P ok w p v) : RepV P ok' w' p v := by
  cases h <;> first | (simp [isFlatP] at hf; done) | constructor
theorem flat_cvs {ok ok' : Nat → Prop} {w w' : World} : ∀ {cs : List CV} {vs : List Value} {bs : List Nat}, cs.all isFlatCV = true → CVsRel P ok w cs vs bs → CVsRel P ok' w' cs vs bs
  | [], _, _, _, .nil => .nil
  | c :: cs, _, _, hf, .cons h t => by
    simp only [List.all_cons, Bool.and_eq_true] at hf
    refine .cons ?_ (flat_cvs hf.2 t)
    cases h with
    | v p v h => exact .v _ _ (flat_rep hf.1 h)
    | own e xs v h => cases hf.1

theorem lent_blocks {ok : Nat → Prop} {g : Nat → Nat} : ∀ {rl : List (List CV)} {ls : List (Nat × List (Nat × TypeId) × List AV)} {bs : List Nat}, PAsRel P ok w (rl.map .lent) (ls.map fun l => .pointer (some ⟨g l.1, 0, none⟩)) bs →
    ∀ (j : Nat) l, ls[j]? = some l → ∃ cs, rl[j]? = some cs ∧ ∃ (T : TypeId) (us : List Value), w.heap[g l.1]? = some (.cells us.toArray T (0, 0)) ∧ us.length = cs.length ∧ (∀ v ∈ us, v.oneCell' = true) ∧ g l.1 ∈ bs
  | [], [], _, _, j, l, hl => by simp at hl
  | cs :: rl, l0 :: ls, _, .cons h t, j, l, hl => by
    cases j with
    | zero =>
      simp at hl; subst hl
      cases h with
      | lent _ b T us bs1 hh hcv h1 => exact ⟨cs, rfl, T, us, hh, hcv.length, h1, by simp⟩
    | succ j =>
      obtain ⟨c, hc, T, us, h1, h2, h3, h4⟩ := lent_blocks t j l (by simpa using hl)
      exact ⟨c, by simpa using hc, T, us, h1, h2, h3, List.mem_append_right _ h4⟩

theorem okLents_get : ∀ {ms : List (List (Nat × TypeId) × Nat)} {rl : List (List CV)}, okLents ms rl = true → rl.length = ms.length ∧ ∀ (j : Nat) m cs, ms[j]? = some m → rl[j]? = some cs → cs.length = m.2
  | [], [], _ => ⟨rfl, fun j m cs h => by simp at h⟩
  | (own, n) :: ms, cs :: rl, h => by
    simp only [okLents, Bool.and_eq_true] at h
    obtain ⟨h1, h2⟩ := okLents_get h.2
    refine ⟨by simp [h1], fun j m c hm hc => ?_⟩
    cases j with
    | zero => simp at hm hc; subst hm hc; exact okCV_length h.1
    | succ j => exact h2 j m c (by simpa using hm) (by simpa using hc)
  | [], _ :: _, h => by simp [okLents] at h
  | _ :: _, [], h => by simp [okLents] at h

theorem noFrz_mem {i : Nat} {o : Ob} : ∀ {f : List (Nat × Ob)}, (i, o) ∈ noFrz f ↔ (i, o) ∈ f ∧ isFrz o = false
  | [] => by simp [noFrz]
  | (j, o') :: f => by
    have ih := noFrz_mem (i := i) (o := o) (f := f)
    simp only [noFrz]
    cases ho : isFrz o' with
    | true =>
      simp only [cond, ih, List.mem_cons, Prod.mk.injEq]
      constructor
      · rintro ⟨h1, h2⟩; exact ⟨.inr h1, h2⟩
      · rintro ⟨⟨_, rfl⟩ | h1, h2⟩
        · rw [ho] at h2; cases h2
        · exact ⟨h1, h2⟩
    | false =>
      simp only [cond, List.mem_cons, ih, Prod.mk.injEq]
      constructor
      · rintro (⟨rfl, rfl⟩ | ⟨h1, h2⟩)
        · exact ⟨.inl ⟨rfl, rfl⟩, ho⟩
        · exact ⟨.inr h1, h2⟩
      · rintro ⟨⟨rfl, rfl⟩ | h1, h2⟩
        · exact .inl ⟨rfl, rfl⟩
        · exact .inr ⟨h1, h2⟩

theorem freeIds_mem {s : St} : ∀ {l : List (Nat × Ob)}, freeIds s l = true → ∀ i o, (i, o) ∈ l → s.ob i = none ∧ s.np ≤ i
  | [], _, i, o, h => by simp at h
  | (j, o') :: l, h, i, o, hm => by
    simp only [freeIds, Bool.and_eq_true] at h
    rcases List.mem_cons.1 hm with e | e
    · cases e
      refine ⟨?_, Nat.le_of_ble_eq_true h.1.2⟩
      cases hi : s.ob j with
      | none => rfl
      | some _ => rw [hi] at h; cases h.1.1
    · exact freeIds_mem h.2 i o e

theorem newIn_mem {i : Nat} {o : Ob} : ∀ {l : List (Nat × Ob)}, (i, o) ∈ newIn l ↔ (i, o) ∈ l ∧ isOld o = false
  | [] => by simp [newIn]
  | (j, o') :: l => by
    have ih := newIn_mem (i := i) (o := o) (l := l)
    simp only [newIn]
    cases ho : isOld o' with
    | true =>
      simp only [cond, ih, List.mem_cons, Prod.mk.injEq]
      constructor
      · rintro ⟨h1, h2⟩; exact ⟨.inr h1, h2⟩
      · rintro ⟨⟨_, rfl⟩ | h1, h2⟩
        · rw [ho] at h2; cases h2
        · exact ⟨h1, h2⟩
    | false =>
      simp only [cond, List.mem_cons, ih, Prod.mk.injEq]
      constructor
      · rintro (⟨rfl, rfl⟩ | ⟨h1, h2⟩)
        · exact ⟨.inl ⟨rfl, rfl⟩, ho⟩
        · exact ⟨.inr h1, h2⟩
      · rintro ⟨⟨rfl, rfl⟩ | h1, h2⟩
        · exact .inl ⟨rfl, rfl⟩
        · exact .inr ⟨h1, h2⟩

theorem backCells_mem {own : List (Nat × TypeId)} {id i : Nat} {r : Ret} {q : Nat} {o : Ob} : ∀ {as : List AV} {j : Nat}, (q, o) ∈ (backCells own id r i j as).2 →
    ∃ g e xs, o = .row g e xs false ∧ (g = 0 ∨ ∃ m g0, as[m]? = some (.row q g0) ∧ (lkN own (j + m)).isSome = true ∧ g = g0 + 1)
  | [], j, h => by simp [backCells] at h
  | a :: as, j, h => by
    have hlift : (q, o) ∈ (backCells own id r i (j + 1) as).2 → ∃ g e xs, o = .row g e xs false ∧ (g = 0 ∨ ∃ m g0, (a :: as)[m]? = some (.row q g0) ∧ (lkN own (j + m)).isSome = true ∧ g = g0 + 1) := fun h => by
      obtain ⟨g, e, xs, h1, h2⟩ := backCells_mem h
      refine ⟨g, e, xs, h1, h2.imp (fun h => h) fun ⟨m, g0, h3, h4, h5⟩ => ⟨m + 1, g0, by simpa using h3, ?_, h5⟩⟩
      rw [← h4]; congr 2; omega
    simp only [backCells] at h
    split at h
    · rename_i e hm
      split at h
      · rename_i q' g'
        rcases List.mem_cons.1 h with e | e
        · cases e; exact ⟨_, _, _, rfl, .inr ⟨0, g', rfl, by rw [Nat.add_zero, hm]; rfl, rfl⟩⟩
        · exact hlift e
      · rcases List.mem_cons.1 h with e | e
        · cases e; exact ⟨_, _, _, rfl, .inl rfl⟩
        · exact hlift e
    · exact hlift h
theorem backRows_mem {r : Ret} {q : Nat} {o : Ob} : ∀ {ls : List (Nat × List (Nat × TypeId) × List AV)} {i : Nat}, (q, o) ∈ backRows r i ls →
    ∃ g e xs, o = .row g e xs false ∧ (g = 0 ∨ ∃ l ∈ ls, ∃ m g0, l.2.2[m]? = some (.row q g0) ∧ (lkN l.2.1 m).isSome = true ∧ g = g0 + 1)
  | [], i, h => by simp [backRows] at h
  | (id, own, cs) :: ls, i, h => by
    simp only [backRows, List.mem_append] at h
    rcases h with h | h
    · obtain ⟨g, e, xs, h1, h2⟩ := backCells_mem h
      exact ⟨g, e, xs, h1, h2.imp (fun h => h) fun ⟨m, g0, h3, h4, h5⟩ => ⟨(id, own, cs), by simp, m, g0, h3, by simpa using h4, h5⟩⟩
    · obtain ⟨g, e, xs, h1, h2⟩ := backRows_mem h
      exact ⟨g, e, xs, h1, h2.imp (fun h => h) fun ⟨l, hl, h3⟩ => ⟨l, by simp [hl], h3⟩⟩

theorem run_call {c : Call} {fo : Operand} {f : FuncId} {us : List Value} (hc : c.callee = .value fo) (ho : o.op = .call c) (hf : a.eval fo = .func (.func f) #[] us.toArray) :
    (execOp a.eval o).run P w = (callFunc f ((c.args.toList.map a.eval ++ us).toArray)).run P w := by
  have hx : (c.args.toList.map a.eval ++ us).toArray = (#[] : Array Value) ++ c.args.map a.eval ++ us.toArray := by
    apply Array.toList_inj.1; simp
  simp only [execOp, ho, resolve, hc, hf, Deferred.ofValue, Sem.run_bind, Sem.run_pure, Result.andThen_ok, invoke, hx]

theorem wp_of_goes {f : FuncId} {args : Array Value} {K : Act → World → Prop} {Q : Exit → Act → World → Prop} (hr : (execOp a.eval o).run P w = (callFunc f args).run P w)
    (h : Goes P f args w fun u w' => K (a.put o.dst u) w') : o.wp P a w K Q := by
  unfold Oper.wp; rw [hr]
  unfold Goes at h
  split at h
  · rename_i hx; rw [hx]; exact h
  · rename_i hx; rw [hx]
    exact Calls.mono h fun e w' h => by
      cases e with
      | returned v => exact h
      | panicked c => exact h.elim
      | outgrown => exact h.elim
  · rename_i hx; rw [hx]; exact h
  · exact h.elim
theorem Goes.mono {f : FuncId} {args : Array Value} {K K' : Value → World → Prop} (h : Goes P f args w K) (hk : ∀ u w', K u w' → K' u w') : Goes P f args w K' := by
  unfold Goes at h ⊢
  split at h
  · exact hk _ _ h
  · exact Calls.mono h fun e w' h => by
      cases e with
      | returned v => exact hk _ _ h
      | panicked c => exact h.elim
      | outgrown => exact h.elim
  · exact Rows.mono h hk
  · exact h.elim

theorem placeAVs_length : ∀ {cs : List CV} {pl : List (Option (Nat × Nat))}, pl.length = cs.length → (placeAVs cs pl).length = cs.length
  | [], pl, _ => by cases pl <;> rfl
  | c :: cs, [], h => by simp at h
  | c :: cs, p :: pl, h => by simp [placeAVs, placeAVs_length (by simpa using h)]

theorem pack_rel {ob : Nat → Option Ob} {as : List AV} {vs : List Value} (hl : vs.length = as.length) (h : ∀ (j : Nat) x v, as[j]? = some x → vs[j]? = some v → RelAV P G ob w x v) :
    RelAV P G ob w (oneOrTup as) (pack vs) := by
  cases as with
  | nil => cases vs with
    | nil => exact .tup [] [] rfl (fun j x v h => by simp at h)
    | cons _ _ => simp at hl
  | cons x as => cases vs with
    | nil => simp at hl
    | cons v vs =>
      cases as with
      | nil => cases vs with
        | nil => exact h 0 x v rfl rfl
        | cons _ _ => simp at hl
      | cons y as => cases vs with
        | nil => simp at hl
        | cons u vs => exact .tup _ _ hl h

theorem op_call (hcf : ∀ f args r, cf f args = some r → Spec P f args r) (R : RelG P C G s a w) (V : View s sl ob) {c : Call} {fo : Operand} (hc : c.callee = .value fo) (ho : o.op = .call c)
    (h : act P an me cf o sl ob some = some δ) : OpGoal P C s a w o δ := by
  simp only [act, ho, hc, forceAV_eq, forceL_eq] at h
  split at h
  · rename_i p hp
    replace h := asFunc_some h; obtain ⟨f, caps, rfl, h⟩ := h
    have hfo := opd_rel R V 0 fo
    rw [hp] at hfo
    obtain ⟨cu, hfv, hcl, hcv⟩ := rep_func (rel_pv hfo)
    unfold callK at h
    split at h
    · rename_i fn hfn
      obtain ⟨ps, fs, ls, h, hex, hpl, hls, hlb, hll, hps⟩ := argsK_some R V h
      replace h := cond_some h; obtain ⟨hokx, h⟩ := h
      unfold bR at h
      split at h
      · rename_i r hr
        replace h := cond_some h; obtain ⟨hb, h⟩ := h
        simp only [Bool.and_eq_true] at hb
        obtain ⟨⟨hres, hlents⟩, hflat⟩ := hb
        replace h := cond_some h; obtain ⟨hids, h⟩ := h
        simp only [forceAV_eq] at h
        simp only [Option.some.injEq] at h; subst h
        obtain ⟨hnd, hplain⟩ := okEx_true hokx
        obtain ⟨hbn, hbs⟩ := ex_out R hex hokx
        have hvals := argAVs_get (P := P) (sl := sl) (ts := c.argTypes) (xs := c.args.toList) (i := 0)
        obtain ⟨hlv, hps⟩ := hps (c.args.toList.map a.eval) (by simp [hvals.1]) fun j x v hx hv => by
          obtain ⟨y, t, h1, rfl⟩ := hvals.2 j x hx
          rw [List.getElem?_map, h1] at hv
          cases hv
          exact opd_rel R V t y
        have hpre : Pre P (okFrz G s fs) w (ps ++ caps.map .v) (c.args.toList.map a.eval ++ cu) (exBs G s fs) := by
          refine ⟨?_, hbn, fun b hb => (hbs b hb).1, fun b hb => (hbs b hb).2.1, fun b hb => okFrz_S R hb⟩
          have := (hps (okFrz G s fs) fun b hb => hb).append (PAsRel.plain hcl fun j p v h1 h2 => (hcv j p v h1 h2).mono (fun b hb => Or.inl hb) (fun _ _ _ => rfl))
          simpa using this
        have hspec := hcf f _ r hr w _ _ _ hpre
        intro hd hfree hnn K Q hK
        refine wp_of_goes (run_call hc ho hfv) (hspec.mono fun u w' hpost => ?_)
        obtain ⟨vs, ok', bs', hpost⟩ := hpost
        have hlenV : (c.args.toList.map a.eval).length = ps.length := by rw [hpl, hvals.1]; simp
        rw [lentVals_append hlenV, hlv] at hpost
        obtain ⟨v1, v2, b1, b2, hve, rfl, hA, hB⟩ := (show PAsRel P ok' w' (r.res.map paOf ++ r.lent.map .lent) _ _ from hpost.pre.rel).split (vs := []) (bs := [])
        have hv1l : v1.length = vs.length := by rw [hA.length, List.length_map, hpost.len]
        obtain ⟨rfl, rfl⟩ := List.append_inj hve hv1l.symm
        have hAc := hA.to_cvs
        have hnd2 := hpost.pre.nd
        rw [List.nodup_append] at hnd2
        obtain ⟨hl1, hl2⟩ := okLents_get hlents
        have hBl : PAsRel P ok' w' (r.lent.map .lent) (ls.map fun l => .pointer (some ⟨G.gb l.1, 0, none⟩)) b2 := hB
        -- the frame's list, and what is plain behind the call
        obtain ⟨l, ok2, hlE, hexl, hpll, hbl, hlx, hok, hfrz, hokN, hokS, hsub, hA2, hB2⟩ : ∃ (l : List (Nat × Ob)) (ok2 : Nat → Prop), l = cond (an.flat f) (noFrz fs) fs ∧ ExList s l ∧ Plainly l ∧
            (∀ i o, (i, o) ∈ fs → isFrz o = false → (i, o) ∈ l) ∧ (∀ i o, (i, o) ∈ l → (i, o) ∈ fs) ∧ (∀ b, G.ok b → ok2 b) ∧
            (∀ i o b, (i, o) ∈ l → isFrz o = true → blk G i (s.ob i) = some b → ok2 b) ∧ (∀ b, ok2 b → okFrz G s l b ∨ w.heap.size ≤ b ∨ b ∈ exBs G s fs) ∧ (∀ b, ok2 b → b < w'.heap.size) ∧ (∀ b, ok2 b → ok' b) ∧
            CVsRel P ok2 w' r.res vs b1 ∧ PAsRel P ok2 w' (r.lent.map .lent) (ls.map fun l => .pointer (some ⟨G.gb l.1, 0, none⟩)) b2 := by
          cases hfl : an.flat f with
          | true =>
            simp only [hfl, Bool.not_true, Bool.false_or, Bool.and_eq_true] at hflat
            refine ⟨noFrz fs, G.ok, rfl, fun i o hm => hex i o (noFrz_mem.1 hm).1, fun i o o' h1 h2 => by rw [(noFrz_mem.1 h1).2, (noFrz_mem.1 h2).2], fun i o h1 h2 => noFrz_mem.2 ⟨h1, h2⟩, fun i o hm => (noFrz_mem.1 hm).1,
              fun b hb => hb, fun i o b hm ho _ => (by rw [(noFrz_mem.1 hm).2] at ho; cases ho), fun b hb => .inl (.inl hb), fun b hb => Nat.lt_of_lt_of_le (R.okS b hb) hpost.same.size, fun b hb => hpost.ok1 b (.inl hb), flat_cvs hflat.2 hAc, ?_⟩
            obtain rfl : ls = [] := List.isEmpty_iff.1 hflat.1
            have hr0 : r.lent = [] := List.length_eq_zero_iff.1 (by simpa using hl1)
            rw [hr0] at hBl ⊢
            cases hBl
            exact .nil
          | false =>
            exact ⟨fs, ok', rfl, hex, hplain, fun i o h _ => h, fun i o h => h, fun b hb => hpost.ok1 b (.inl hb), fun i o b hm ho hb => hpost.ok1 b (.inr ⟨i, o, hm, ho, hb⟩), hpost.ok2, hpost.pre.okS, fun b h => h, hAc, hBl⟩
        have hin : ∀ {i : Nat}, s.ob i = none → ∀ o, (i, o) ∉ l := fun {i} hi o hm => by
          rcases hexl i o hm with ⟨_, _, _, h1, _⟩ | ⟨_, h1, _⟩ <;> rw [hi] at h1 <;> cases h1
        have hgbl : ∀ i cs, (i, Ob.box cs) ∈ l → ∃ (T : TypeId) (us : List Value), w'.heap[G.gb i]? = some (.cells us.toArray T (0, 0)) ∧ us.length = cs.length ∧ (∀ v ∈ us, v.oneCell' = true) ∧ G.gb i ∈ b2 := fun i cs hm => by
          obtain ⟨x, hx, rfl⟩ := hlb i cs (hlx _ _ hm)
          obtain ⟨j, hj⟩ := List.getElem?_of_mem hx
          obtain ⟨c1, h1, T, us, h2, h3, h4, h5⟩ := lent_blocks hBl j x hj
          refine ⟨T, us, h2, ?_, h4, h5⟩
          have := hl2 j _ c1 (by rw [List.getElem?_map, hj]; rfl) h1
          rw [h3, this]
          rcases hexl _ _ hm with ⟨_, _, _, _, h6 | h6⟩ | ⟨cs', h6, h7⟩
          · cases h6
          · cases h6
          · have h8 := (hls x hx).box
            rw [h6] at h8; cases h8
            rw [hollow] at h7; cases h7
            simp
        obtain ⟨R1, hsp1⟩ := R.send (bs := exBs G s fs) (w' := w') (ok2 := ok2) hexl hpll hpost.same (fun b hb => by
            obtain ⟨i, o, h1, h2, h3⟩ := exBs_mem.1 hb
            exact ⟨i, o, hbl i o h1 h2, h2, h3⟩) hok hfrz hokN hokS (fun i cs hm => by
            obtain ⟨T, us, h1, h2, h3, h4⟩ := hgbl i _ hm
            exact ⟨T, us, h1, by simpa using h2, h3, fun hk => hpost.pre.nok _ (List.mem_append_right _ h4) (hsub _ hk)⟩)
        have hspare : ∀ b ∈ b1 ++ b2, (∀ i cs, (i, hollow cs) ∈ l → G.gb i ≠ b) → Spare C { G with ok := ok2 } { s with ob := setObs s.ob l } w' b := fun b hb hne =>
          hsp1 b (hpost.pre.lt b hb) (hpost.bs2 b hb) (fun hk => hpost.pre.nok b hb (hsub b hk)) hne
        obtain ⟨hrv, hrn⟩ := res_place (d := o.dst.getD 0) (r := r) hres fun m c hm => by simp [resC, List.getD, hm]
        have hkeys := nodupN_true hids
        have hmem : ∀ {i : Nat} {o' : Ob}, (i, o') ∈ resNew (resT P fn.resultTypes (an.rown f)) (o.dst.getD 0) r 0 fn.resultTypes.size ++ newIn (backRows r 0 ls) → s.ob i = none := fun {i o'} hm => (freeIds_mem hfree i o' hm).1
        have hsame : ∀ {i : Nat}, s.ob i = none → setObs s.ob l i = none := fun {i} hi => by
          rw [setObs_other (fun p hp he => hin hi p.2 (by rw [← he]; exact hp))]; exact hi
        have hplen : (resPl (resT P fn.resultTypes (an.rown f)) (o.dst.getD 0) 0 fn.resultTypes.size).length = r.res.length := by rw [resPl_length, okCV_length hres]
        have hk2 := hkeys
        simp only [List.map_append] at hk2
        rw [List.nodup_append] at hk2
        have hk3 := hk2.2.1
        rw [List.nodup_append] at hk3
        obtain ⟨sg1, R2, L2, hv2, hs2⟩ := place_sound hA2 hplen R1 rfl hnd2.1
          (fun b hb => hspare b (List.mem_append_left _ hb) fun i cs hm he => by
            obtain ⟨_, _, _, _, _, h4⟩ := hgbl i _ hm
            exact hnd2.2.2 b hb _ (he ▸ h4) rfl)
          (by rw [← hrn]; exact hk3.1)
          (fun i o' hm => .inl (hsame (hmem (List.mem_append_left _ (hrn ▸ hm)))))
        have hperm : (backRows r 0 ls ++ backBoxes r 0 ls).Perm (oldIn (backRows r 0 ls) ++ newIn (backRows r 0 ls) ++ backBoxes r 0 ls) := (old_new_perm _).append_right _
        have hperm2 : (oldIn (backRows r 0 ls) ++ backBoxes r 0 ls ++ (resNew (resT P fn.resultTypes (an.rown f)) (o.dst.getD 0) r 0 fn.resultTypes.size ++ newIn (backRows r 0 ls))).Perm
            (resNew (resT P fn.resultTypes (an.rown f)) (o.dst.getD 0) r 0 fn.resultTypes.size ++ (backRows r 0 ls ++ backBoxes r 0 ls)) := by
          refine List.perm_append_comm.trans ?_
          rw [List.append_assoc]
          refine List.Perm.append_left _ ?_
          refine List.Perm.trans ?_ hperm.symm
          rw [← List.append_assoc]
          exact List.Perm.append_right _ List.perm_append_comm
        have hkey3 := (hperm2.map (·.1)).nodup_iff.1 hkeys
        rw [List.map_append, List.nodup_append] at hkey3
        have hstay : ∀ {i : Nat}, i ∈ (backRows r 0 ls ++ backBoxes r 0 ls).map (·.1) → setObs (setObs s.ob l) (placeObs r.res (resPl (resT P fn.resultTypes (an.rown f)) (o.dst.getD 0) 0 fn.resultTypes.size)) i = setObs s.ob l i := fun {i} hi => by
          refine setObs_keys fun hm => hkey3.2.2 i (hrn ▸ hm) i hi rfl
        have hboxkey : ∀ x ∈ ls, x.1 ∈ (backBoxes r 0 ls).map (·.1) := by
          have : ∀ (ls : List (Nat × List (Nat × TypeId) × List AV)) (k : Nat), ∀ x ∈ ls, x.1 ∈ (backBoxes r k ls).map (·.1) := by
            intro ls
            induction ls with
            | nil => intro k x hx; simp at hx
            | cons l0 ls ih =>
              intro k x hx
              obtain ⟨i0, o0, c0⟩ := l0
              rcases List.mem_cons.1 hx with rfl | hx
              · simp [backBoxes]
              · simp only [backBoxes, List.map_cons, List.mem_cons]; exact .inr (ih (k + 1) x hx)
          exact this ls 0
        obtain ⟨sg2, R3, L3⟩ := backs_sound (r := r) (ls := ls) (k := 0) (rl := r.lent) (G := { G with ok := ok2, sg := sg1 }) (fun m cs hm => by simp [List.getD, hm]) hlents hB2 R2 rfl hnd2.2.1
          (fun b hb => by
            by_cases hg : b ∈ ls.map fun l => G.gb l.1
            · exact .inl hg
            · refine .inr (hs2 b (hspare b (List.mem_append_right _ hb) fun i cs hm he => hg ?_) fun hb1 => hnd2.2.2 b hb1 b hb rfl)
              obtain ⟨x, hx, rfl⟩ := hlb i _ (hlx _ _ hm)
              exact List.mem_map.2 ⟨x, hx, he⟩)
          (fun x hx => by
            have h1 := hbl _ _ (hls x hx).mem rfl
            refine ⟨x.2.2.map fun _ => .gone, ?_⟩
            show setObs (setObs s.ob l) _ x.1 = _
            rw [hstay (by rw [List.map_append]; exact List.mem_append_right _ (hboxkey x hx))]
            rcases ex_get hexl hpll x.1 with ⟨o', h2, h3⟩ | ⟨h2, _⟩
            · rw [h3, ← (hexl _ _ h1).alike (hexl _ _ h2) (hpll _ _ _ h1 h2), hollow]
            · exact (h2 _ h1).elim)
          hkey3.2.1
          (fun i o' hm => by
            have hst := hstay (i := i) (by rw [List.map_append]; exact List.mem_append_left _ (List.mem_map.2 ⟨_, hm, rfl⟩))
            show setObs (setObs s.ob l) _ i = none ∨ _
            simp only [hst]
            obtain ⟨g, e, xs, rfl, rfl | ⟨x, hx, m, g0, h1, h2, rfl⟩⟩ := backRows_mem hm
            · exact .inl (hsame (hmem (List.mem_append_right _ (newIn_mem.2 ⟨hm, rfl⟩))))
            · refine .inr ⟨g0, _, _, _, _, ?_, rfl, Nat.lt_succ_self _⟩
              rcases (hls x hx).own m _ h1 h2 with ⟨_, h3⟩ | ⟨q, g, h3, h4⟩
              · cases h3
              · cases h3
                have h5 := hbl _ _ h4 rfl
                rcases ex_get hexl hpll i with ⟨o', h6, h7⟩ | ⟨h6, _⟩
                · rw [h7, ← (hexl _ _ h5).alike (hexl _ _ h6) (hpll _ _ _ h5 h6)]
                · exact (h6 _ h5).elim)
        have hval : ∀ (j : Nat) x v, (placeAVs r.res (resPl (resT P fn.resultTypes (an.rown f)) (o.dst.getD 0) 0 fn.resultTypes.size))[j]? = some x → vs[j]? = some v →
            RelAV P { G with ok := ok2, sg := sg2 } (setObs (setObs (setObs s.ob l) (placeObs r.res (resPl (resT P fn.resultTypes (an.rown f)) (o.dst.getD 0) 0 fn.resultTypes.size))) (backSeq r 0 ls)) w' x v := fun j x v hx hv => by
          have h1 := hv2 j x v hx hv
          exact RelAV.later (G := { G with ok := ok2, sg := sg1 }) (G' := { G with ok := ok2, sg := sg2 }) (w := w') (w' := w') (fun b hb => hb) (fun _ _ _ => rfl) L3 h1
        have hput := R3.put (dst := o.dst) (v := oneOrTup (resAVs (resT P fn.resultTypes (an.rown f)) (o.dst.getD 0) r 0 fn.resultTypes.size)) (u := pack vs) hd (by
          rw [hrv]
          exact pack_rel (by rw [placeAVs_length hplen]; exact hpost.len) hval)
        have hE : after s o.dst ⟨oneOrTup (resAVs (resT P fn.resultTypes (an.rown f)) (o.dst.getD 0) r 0 fn.resultTypes.size), resNew (resT P fn.resultTypes (an.rown f)) (o.dst.getD 0) r 0 fn.resultTypes.size ++ newIn (backRows r 0 ls),
            cond (an.flat f) (noFrz fs) fs ++ oldIn (backRows r 0 ls) ++ backBoxes r 0 ls⟩ =
            putS { s with ob := setObs (setObs (setObs s.ob l) (placeObs r.res (resPl (resT P fn.resultTypes (an.rown f)) (o.dst.getD 0) 0 fn.resultTypes.size))) (backSeq r 0 ls) } o.dst (oneOrTup (resAVs (resT P fn.resultTypes (an.rown f)) (o.dst.getD 0) r 0 fn.resultTypes.size)) := by
          simp only [after, ← hlE, ← hrn, List.append_assoc]
          congr 2
          rw [setObs_append, ← setObs_append (setObs s.ob l)]
          rw [← List.append_assoc]
          rw [setObs_perm (hperm2.trans (List.Perm.append_left _ (backSeq_perm r ls 0).symm)) hkeys]
        refine hK _ _ ?_
        rw [hpost.val, hE]
        exact ⟨_, hput⟩
      · cases h
    · cases h
  · cases h
end
end Go.Proofs.Sx
