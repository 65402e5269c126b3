/- Numbers by digits to the base 2^16: what lists of digits are worth. -/
namespace Go.Proofs.Dig

def val : List Nat → Nat
  | [] => 0
  | d :: ds => d + 65536 * val ds
def ok (d : List Nat) : Prop := ∀ x ∈ d, x < 65536
def norm (d : List Nat) : Prop := d ≠ [] → d.getD (d.length - 1) 0 ≠ 0

theorem ok_nil : ok [] := fun _ h => by cases h
theorem ok_cons {x : Nat} {d : List Nat} : ok (x :: d) ↔ x < 65536 ∧ ok d := by
  unfold ok; simp
theorem ok_append {a b : List Nat} : ok (a ++ b) ↔ ok a ∧ ok b := by
  unfold ok; simp only [List.mem_append]
  exact ⟨fun h => ⟨fun x hx => h x (.inl hx), fun x hx => h x (.inr hx)⟩, fun h x hx => hx.elim (h.1 x) (h.2 x)⟩
theorem ok_take {a : List Nat} (h : ok a) (n : Nat) : ok (a.take n) := fun x hx => h x (List.mem_of_mem_take hx)
theorem ok_drop {a : List Nat} (h : ok a) (n : Nat) : ok (a.drop n) := fun x hx => h x (List.mem_of_mem_drop hx)
theorem ok_getD {a : List Nat} (h : ok a) (i : Nat) : a.getD i 0 < 65536 := by
  by_cases hi : i < a.length
  · rw [List.getD_eq_getElem?_getD, List.getElem?_eq_getElem hi]; exact h _ (List.getElem_mem hi)
  · rw [List.getD_eq_getElem?_getD, List.getElem?_eq_none (by omega)]; decide

theorem val_append (a b : List Nat) : val (a ++ b) = val a + 65536 ^ a.length * val b := by
  induction a with
  | nil => simp [val]
  | cons x a ih =>
    simp only [List.cons_append, val, ih, List.length_cons, Nat.pow_succ]
    rw [Nat.mul_add, ← Nat.mul_assoc, Nat.mul_comm 65536 (65536 ^ a.length)]; omega
theorem val_lt {d : List Nat} (h : ok d) : val d < 65536 ^ d.length := by
  induction d with
  | nil => simp [val]
  | cons x d ih =>
    rw [ok_cons] at h
    have := ih h.2
    simp only [val, List.length_cons, Nat.pow_succ]
    have : val d + 1 ≤ 65536 ^ d.length := this
    have := Nat.mul_le_mul_left 65536 this
    rw [Nat.mul_comm (65536 ^ d.length)]; omega
theorem val_split (a : List Nat) (i : Nat) : val a = val (a.take i) + 65536 ^ (min i a.length) * val (a.drop i) := by
  have := val_append (a.take i) (a.drop i)
  rw [List.take_append_drop, List.length_take] at this; exact this
theorem val_take_succ {a : List Nat} {i : Nat} (h : i < a.length) : val (a.take (i + 1)) = val (a.take i) + 65536 ^ i * a.getD i 0 := by
  rw [List.take_succ_eq_append_getElem h, val_append, List.length_take, Nat.min_eq_left (by omega)]
  simp [val, List.getD_eq_getElem?_getD, List.getElem?_eq_getElem h]
theorem val_take_ge {a : List Nat} {i : Nat} (h : a.length ≤ i) : val (a.take i) = val a := by rw [List.take_of_length_le h]
/-- One digit more, whether there is one or not. -/
theorem val_take_step (a : List Nat) (i : Nat) : val (a.take (i + 1)) = val (a.take i) + 65536 ^ i * a.getD i 0 := by
  by_cases h : i < a.length
  · exact val_take_succ h
  · rw [val_take_ge (by omega), val_take_ge (by omega), List.getD_eq_getElem?_getD, List.getElem?_eq_none (by omega)]; simp
theorem val_ge {d : List Nat} (h : norm d) (hd : d ≠ []) : 65536 ^ (d.length - 1) ≤ val d := by
  have hl : 0 < d.length := List.length_pos_iff.2 hd
  have h1 := val_take_step d (d.length - 1)
  rw [val_take_ge (a := d) (by omega)] at h1
  have h2 := h hd
  rw [h1]
  have : 65536 ^ (d.length - 1) * 1 ≤ 65536 ^ (d.length - 1) * d.getD (d.length - 1) 0 := Nat.mul_le_mul_left _ (by omega)
  omega
theorem val_pos {d : List Nat} (h : norm d) (hd : d ≠ []) : 0 < val d := Nat.lt_of_lt_of_le (Nat.pow_pos (by decide)) (val_ge h hd)
theorem val_zero {d : List Nat} (h : norm d) : val d = 0 ↔ d = [] := by
  constructor
  · intro h0; by_cases hd : d = []
    · exact hd
    · have := val_pos h hd; omega
  · rintro rfl; rfl

/-- Lesser by the length. -/
theorem lt_of_length {a b : List Nat} (ha : ok a) (hb : norm b) (h : a.length < b.length) : val a < val b := by
  have h1 := val_lt ha
  have h2 := val_ge hb (by intro e; rw [e] at h; simp at h)
  have h3 : 65536 ^ a.length ≤ 65536 ^ (b.length - 1) := Nat.pow_le_pow_right (by decide) (by omega)
  omega
/-- Lesser by a digit, what stands above being alike. -/
theorem lt_of_digit {a b : List Nat} {i : Nat} (ha : ok a) (hi : i < a.length) (hl : a.length = b.length) (hd : a.drop (i + 1) = b.drop (i + 1)) (h : a.getD i 0 < b.getD i 0) : val a < val b := by
  have h1 := val_split a (i + 1)
  have h2 := val_split b (i + 1)
  rw [← hd, ← hl] at h2
  have h3 := val_take_step a i
  have h4 := val_take_step b i
  have h5 := val_lt (ok_take ha i)
  rw [List.length_take, Nat.min_eq_left (by omega)] at h5
  have h6 : 65536 ^ i * (a.getD i 0 + 1) ≤ 65536 ^ i * b.getD i 0 := Nat.mul_le_mul_left _ h
  rw [Nat.mul_add] at h6
  omega
theorem drop_step {a b : List Nat} {i : Nat} (hl : a.length = b.length) (hi : i < a.length) (hd : a.drop (i + 1) = b.drop (i + 1)) (h : a.getD i 0 = b.getD i 0) : a.drop i = b.drop i := by
  rw [List.getD_eq_getElem?_getD, List.getD_eq_getElem?_getD, List.getElem?_eq_getElem hi, List.getElem?_eq_getElem (by omega : i < b.length)] at h
  simp only [Option.getD_some] at h
  rw [List.drop_eq_getElem_cons hi, List.drop_eq_getElem_cons (by omega : i < b.length), hd, h]

/-- Noughts at the end. -/
theorem val_dropLast {d : List Nat} (hd : d ≠ []) (h : d.getD (d.length - 1) 0 = 0) : val (d.take (d.length - 1)) = val d := by
  have h1 := val_take_step d (d.length - 1)
  have : 0 < d.length := List.length_pos_iff.2 hd
  rw [val_take_ge (a := d) (by omega), h] at h1
  omega
theorem norm_nil : norm [] := fun h => absurd rfl h

theorem val_set {d : List Nat} {i x : Nat} (hi : i < d.length) : val (d.set i x) + 65536 ^ i * d.getD i 0 = val d + 65536 ^ i * x := by
  induction d generalizing i with
  | nil => simp at hi
  | cons y d ih =>
    cases i with
    | zero => simp [val]; omega
    | succ i =>
      have := ih (i := i) (by simpa using hi)
      simp only [List.set_cons_succ, val, List.getD_cons_succ, Nat.pow_succ]
      rw [Nat.mul_comm (65536 ^ i) 65536, Nat.mul_assoc, Nat.mul_assoc]; omega
theorem ok_set {d : List Nat} (h : ok d) {i x : Nat} (hx : x < 65536) : ok (d.set i x) := fun y hy => by
  rcases List.mem_or_eq_of_mem_set hy with h1 | h1
  · exact h y h1
  · omega
theorem val_replicate (n : Nat) : val (List.replicate n 0) = 0 := by
  induction n with
  | zero => rfl
  | succ n ih => simp [List.replicate_succ, val, ih]
theorem ok_replicate (n : Nat) : ok (List.replicate n 0) := fun x hx => by simp at hx; omega

/-- One step of a sum. -/
theorem add_step {d a b : List Nat} {c x : Nat} (h : val d + 65536 ^ d.length * c = val (a.take d.length) + val (b.take d.length))
    (hx : x = a.getD d.length 0 + b.getD d.length 0 + c) :
    val (d ++ [x % 65536]) + 65536 ^ (d ++ [x % 65536]).length * (x / 65536) = val (a.take (d ++ [x % 65536]).length) + val (b.take (d ++ [x % 65536]).length) := by
  have e : (d ++ [x % 65536]).length = d.length + 1 := by simp
  rw [e, val_append, val_take_step, val_take_step]
  simp only [val, Nat.mul_zero, Nat.add_zero]
  have h1 : 65536 ^ (d.length + 1) * (x / 65536) = 65536 ^ d.length * (65536 * (x / 65536)) := by rw [Nat.pow_succ, Nat.mul_assoc]
  have h2 : 65536 ^ d.length * (x % 65536) + 65536 ^ d.length * (65536 * (x / 65536)) = 65536 ^ d.length * x := by
    rw [← Nat.mul_add]; congr 1; omega
  have h3 : 65536 ^ d.length * x = 65536 ^ d.length * a.getD d.length 0 + 65536 ^ d.length * b.getD d.length 0 + 65536 ^ d.length * c := by
    rw [hx, Nat.mul_add, Nat.mul_add]
  omega
/-- One step of a difference: x = digit + 65536 - digit - borrow. -/
theorem sub_step {d a b : List Nat} {c x : Nat} (h : val d + val (b.take d.length) = val (a.take d.length) + 65536 ^ d.length * c)
    (hx : x + b.getD d.length 0 + c = a.getD d.length 0 + 65536) (hx2 : x / 65536 ≤ 1) :
    val (d ++ [x % 65536]) + val (b.take (d ++ [x % 65536]).length) = val (a.take (d ++ [x % 65536]).length) + 65536 ^ (d ++ [x % 65536]).length * (1 - x / 65536) := by
  have e : (d ++ [x % 65536]).length = d.length + 1 := by simp
  rw [e, val_append, val_take_step, val_take_step]
  simp only [val, Nat.mul_zero, Nat.add_zero]
  have h1 : 65536 ^ (d.length + 1) * (1 - x / 65536) = 65536 ^ d.length * (65536 * (1 - x / 65536)) := by rw [Nat.pow_succ, Nat.mul_assoc]
  rw [h1]
  have h2 : x % 65536 + b.getD d.length 0 + c = a.getD d.length 0 + 65536 * (1 - x / 65536) := by omega
  have h3 := congrArg (65536 ^ d.length * ·) h2
  simp only [Nat.mul_add] at h3
  omega
end Go.Proofs.Dig
