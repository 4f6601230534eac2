/-
  How many ways to choose: Pascal's numbers, and what is reckoned of them (no program here).
-/
namespace Go.Proofs.YtejjhikbdchjaaaGreat.Ord

def C : Nat → Nat → Nat
  | _, 0 => 1
  | 0, _ + 1 => 0
  | n + 1, k + 1 => C n k + C n (k + 1)

theorem C_zero (n : Nat) : C n 0 = 1 := by cases n <;> rfl
theorem C_succ (n k : Nat) : C (n + 1) (k + 1) = C n k + C n (k + 1) := rfl
theorem C_above : ∀ (n k : Nat), n < k → C n k = 0
  | 0, k + 1, _ => rfl
  | n + 1, k + 1, h => by rw [C_succ, C_above n k (by omega), C_above n (k + 1) (by omega)]
theorem C_self : ∀ n, C n n = 1
  | 0 => rfl
  | n + 1 => by rw [C_succ, C_self n, C_above n (n + 1) (by omega)]
theorem C_pos : ∀ (n k : Nat), k ≤ n → 0 < C n k
  | n, 0, _ => by rw [C_zero]; decide
  | n + 1, k + 1, h => by rw [C_succ]; have := C_pos n k (by omega); omega
/-- (k + 1) C(n + 1, k + 1) = (n + 1) C(n, k) -/
theorem C_absorb : ∀ (n k : Nat), (k + 1) * C (n + 1) (k + 1) = (n + 1) * C n k
  | 0, 0 => rfl
  | 0, k + 1 => by rw [C_above 1 (k + 2) (by omega), C_above 0 (k + 1) (by omega)]; rfl
  | n + 1, 0 => by
    have h := C_absorb n 0
    rw [C_succ (n + 1) 0, C_zero]
    rw [C_zero] at h
    omega
  | n + 1, k + 1 => by
    have h1 := C_absorb n k
    have h2 := C_absorb n (k + 1)
    rw [C_succ (n + 1) (k + 1)]
    have e : C (n + 1) (k + 1) = C n k + C n (k + 1) := rfl
    rw [Nat.mul_add, h2]
    have : (k + 1 + 1) * C (n + 1) (k + 1) = (n + 1) * C n k + C (n + 1) (k + 1) := by rw [Nat.add_mul, h1, Nat.one_mul]
    rw [this, e, Nat.mul_add, Nat.add_mul (n + 1) 1 (C n k), Nat.add_mul (n + 1) 1 (C n (k + 1))]
    omega
theorem C_symm : ∀ (n k : Nat), C (n + k) k = C (n + k) n
  | 0, k => by rw [C_zero, Nat.zero_add, C_self]
  | n + 1, 0 => by rw [C_zero, Nat.add_zero, C_self]
  | n + 1, k + 1 => by
    have h1 := C_symm n (k + 1)
    have h2 := C_symm (n + 1) k
    have e1 : n + 1 + (k + 1) = (n + 1 + k) + 1 := by omega
    rw [e1, C_succ, C_succ, h2]
    have e2 : n + 1 + k = n + (k + 1) := by omega
    rw [e2] at h2 ⊢
    rw [h1]
    omega
theorem C_sub (n k : Nat) (h : k ≤ n) : C n (n - k) = C n k := by
  have := C_symm (n - k) k
  rw [show n - k + k = n by omega] at this
  exact this.symm
/-- along a diagonal they grow -/
theorem C_diag (m i : Nat) : C (m + i) i ≤ C (m + (i + 1)) (i + 1) := by
  rw [show m + (i + 1) = (m + i) + 1 by omega, C_succ]; omega
theorem C_diag_le (m : Nat) : ∀ (d i : Nat), C (m + i) i ≤ C (m + (i + d)) (i + d)
  | 0, _ => Nat.le_refl _
  | d + 1, i => Nat.le_trans (C_diag_le m d i) (C_diag m (i + d))

/-- The next one by the last one, reduced by what both have in common. -/
theorem next_of (m i : Nat) (hi : 0 < i) : let o := C (m + (i - 1)) (i - 1); let g := Nat.gcd o i; (o / g) * ((m + i) / (i / g)) = C (m + i) i := by
  intro o g
  have hg : 0 < g := Nat.gcd_pos_of_pos_right _ hi
  have ho : g ∣ o := Nat.gcd_dvd_left _ _
  have hgi : g ∣ i := Nat.gcd_dvd_right _ _
  have habs : i * C (m + i) i = (m + i) * o := by
    have := C_absorb (m + (i - 1)) (i - 1)
    rw [show m + (i - 1) + 1 = m + i by omega, show i - 1 + 1 = i by omega] at this
    exact this
  obtain ⟨x, hx⟩ := ho
  obtain ⟨j, hj⟩ := hgi
  have ex : o / g = x := by rw [hx, Nat.mul_div_cancel_left _ hg]
  have ej : i / g = j := by rw [show i / g = (g * j) / g by rw [← hj], Nat.mul_div_cancel_left _ hg]
  have hj0 : 0 < j := by
    rcases Nat.eq_zero_or_pos j with h | h
    · rw [h, Nat.mul_zero] at hj; omega
    · exact h
  have hco : Nat.gcd x j = 1 := by
    have := Nat.gcd_mul_left g x j
    rw [← hx, ← hj] at this
    have h2 : g * Nat.gcd x j = g * 1 := by rw [← this, Nat.mul_one]
    exact Nat.eq_of_mul_eq_mul_left hg h2
  have key : j * C (m + i) i = (m + i) * x := by
    have h1 : g * (j * C (m + i) i) = g * ((m + i) * x) := by
      rw [← Nat.mul_assoc, ← hj, habs, hx]
      rw [Nat.mul_left_comm]
    exact Nat.eq_of_mul_eq_mul_left hg h1
  have hdvd : j ∣ m + i := by
    have h1 : j ∣ (m + i) * x := ⟨_, key.symm⟩
    have hc : Nat.Coprime j x := by show Nat.gcd j x = 1; rw [Nat.gcd_comm]; exact hco
    exact hc.dvd_of_dvd_mul_right h1
  obtain ⟨y, hy⟩ := hdvd
  rw [ex, ej, hy, Nat.mul_div_cancel_left _ hj0]
  have h3 : j * C (m + i) i = j * (x * y) := by rw [key, hy, Nat.mul_assoc, Nat.mul_comm y x]
  have := Nat.eq_of_mul_eq_mul_left hj0 h3
  rw [hy] at this
  exact this.symm
theorem next_pos (m i : Nat) (hi : 0 < i) : 0 < (m + i) / (i / Nat.gcd (C (m + (i - 1)) (i - 1)) i) := by
  have h := next_of m i hi
  have hp := C_pos (m + i) i (by omega)
  simp only at h
  rw [← h] at hp
  exact Nat.pos_of_mul_pos_left hp

/-- What rows of so many have before the k-th, all together; in how many orders they stand. -/
def S (zs : List Int) : Nat → Nat
  | 0 => 0
  | k + 1 => S zs k + (zs.getD k 0).toNat
def P (zs : List Int) : Nat → Nat
  | 0 => 1
  | k + 1 => P zs k * C (S zs (k + 1)) (zs.getD k 0).toNat
theorem S_mono (zs : List Int) : ∀ {k m : Nat}, k ≤ m → S zs k ≤ S zs m
  | k, 0, h => by rw [Nat.le_zero.1 h]; exact Nat.le_refl _
  | k, m + 1, h => by
    rcases Nat.lt_or_ge k (m + 1) with h1 | h1
    · exact Nat.le_trans (S_mono zs (by omega)) (Nat.le_add_right _ _)
    · rw [show k = m + 1 by omega]; exact Nat.le_refl _
theorem P_pos (zs : List Int) : ∀ k, 0 < P zs k
  | 0 => Nat.one_pos
  | k + 1 => Nat.mul_pos (P_pos zs k) (C_pos _ _ (Nat.le_add_left _ _))
theorem P_mono (zs : List Int) : ∀ {k m : Nat}, k ≤ m → P zs k ≤ P zs m
  | k, 0, h => by rw [Nat.le_zero.1 h]; exact Nat.le_refl _
  | k, m + 1, h => by
    rcases Nat.lt_or_ge k (m + 1) with h1 | h1
    · exact Nat.le_trans (P_mono zs (by omega)) (Nat.le_mul_of_pos_right _ (C_pos _ _ (Nat.le_add_left _ _)))
    · rw [show k = m + 1 by omega]; exact Nat.le_refl _
theorem min_mul (a b M N : Nat) (ha : 0 < a) (hb : 0 < b) (h0 : 0 < M) (h : M ≤ N) : min (min a M * min b N) M = min (a * b) M := by
  rcases Nat.lt_or_ge M a with h1 | h1
  · have e1 : min a M = M := Nat.min_eq_right (by omega)
    have p : 0 < min b N := by rcases Nat.le_total b N with h2 | h2 <;> simp [h2] <;> omega
    have q1 : M ≤ M * min b N := Nat.le_mul_of_pos_right _ p
    have q2 : a ≤ a * b := Nat.le_mul_of_pos_right _ hb
    rw [e1, Nat.min_eq_right q1, Nat.min_eq_right (by omega)]
  · have e1 : min a M = a := Nat.min_eq_left h1
    rw [e1]
    rcases Nat.lt_or_ge N b with h2 | h2
    · have e2 : min b N = N := Nat.min_eq_right (by omega)
      have q1 : N ≤ a * N := Nat.le_mul_of_pos_left _ ha
      have q2 : b ≤ a * b := Nat.le_mul_of_pos_left _ ha
      rw [e2, Nat.min_eq_right (by omega), Nat.min_eq_right (by omega)]
    · rw [Nat.min_eq_left h2]
/-- One row more, as the program reckons it. -/
theorem more (zs : List Int) (k : Nat) (h : min (P zs k) 1073741824 * min (C (S zs (k + 1)) (zs.getD k 0).toNat) 1073741824 ≤ 1073741824) :
    min (P zs k) 1073741824 * min (C (S zs (k + 1)) (zs.getD k 0).toNat) 1073741824 = min (P zs (k + 1)) 1073741824 := by
  have := min_mul (P zs k) (C (S zs (k + 1)) (zs.getD k 0).toNat) 1073741824 1073741824 (P_pos zs k) (C_pos _ _ (Nat.le_add_left _ _)) (by omega) (Nat.le_refl _)
  rw [Nat.min_eq_left h] at this
  exact this
theorem over (zs : List Int) (k m : Nat) (hk : k < m) (h : 1073741824 < min (P zs k) 1073741824 * min (C (S zs (k + 1)) (zs.getD k 0).toNat) 1073741824) :
    min (P zs m) 1073741824 = 1073741824 := by
  have := min_mul (P zs k) (C (S zs (k + 1)) (zs.getD k 0).toNat) 1073741824 1073741824 (P_pos zs k) (C_pos _ _ (Nat.le_add_left _ _)) (by omega) (Nat.le_refl _)
  rw [Nat.min_eq_right (by omega)] at this
  have h2 := P_mono zs (show k + 1 ≤ m from hk)
  have e : P zs (k + 1) = P zs k * C (S zs (k + 1)) (zs.getD k 0).toNat := rfl
  rw [← e] at this
  omega
theorem none_more (zs : List Int) (k : Nat) (h : (zs.getD k 0).toNat = 0) : S zs (k + 1) = S zs k ∧ P zs (k + 1) = P zs k := by
  constructor
  · show S zs k + _ = _; rw [h]; rfl
  · show P zs k * C _ _ = _; rw [h, C_zero, Nat.mul_one]
end Go.Proofs.YtejjhikbdchjaaaGreat.Ord
