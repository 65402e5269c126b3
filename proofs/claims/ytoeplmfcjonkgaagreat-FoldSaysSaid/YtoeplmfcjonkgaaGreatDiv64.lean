/- Knuth's division of two limbs by one: one digit. -/
namespace Go.Proofs.Dig

/-- While the digit may be too great it is too great. -/
theorem dig_high {q r u n y1 y0 K : Nat} (h : q * y1 + r = u) (hg : q * y0 > K * r + n) : q * (y1 * K + y0) > u * K + n := by
  rw [← h, Nat.mul_add, Nat.add_mul, ← Nat.mul_assoc, Nat.mul_comm r K]; omega
/-- Once it is not, it is not. -/
theorem dig_low {q r u n y1 y0 K : Nat} (h : q * y1 + r = u) (hg : q * y0 ≤ K * r + n) : q * (y1 * K + y0) ≤ u * K + n := by
  rw [← h, Nat.mul_add, Nat.add_mul, ← Nat.mul_assoc, Nat.mul_comm r K]; omega
end Go.Proofs.Dig
