/- Plain facts on powers. -/
import Derived.Test.YtaaolnepkgcbaaaMathB
namespace Go.Proofs.Ytaaolnepkgcbaaa.Lb
set_option linter.unusedVariables false

/-- One step of repeated squaring, from the least digit on. -/
theorem pow_odd (A : Int) (o s : Int) (n m : Nat) (h : o * s ^ n = A) (hn : n % 2 = 1) (hm : m = n / 2) : (o * s) * (s * s) ^ m = A := by
  have e : n = m + m + 1 := by omega
  rw [e, Int.pow_succ, Int.pow_add] at h
  rw [← h, Int.mul_pow]
  grind
theorem pow_even (A : Int) (o s : Int) (n m : Nat) (h : o * s ^ n = A) (hn : n % 2 = 0) (hm : m = n / 2) : o * (s * s) ^ m = A := by
  have e : n = m + m := by omega
  rw [e, Int.pow_add] at h
  rw [← h, Int.mul_pow]
/-- .. from the greatest digit on. -/
theorem pow_up0 (x : Int) (n d : Nat) (h : n / d = 2 * (n / (2 * d))) : x ^ (n / (2 * d)) * x ^ (n / (2 * d)) = x ^ (n / d) := by
  generalize n / (2 * d) = q at *
  rw [h, show 2 * q = q + q by omega, Int.pow_add]
theorem pow_up1 (x : Int) (n d : Nat) (h : n / d = 2 * (n / (2 * d)) + 1) : x ^ (n / (2 * d)) * x ^ (n / (2 * d)) * x = x ^ (n / d) := by
  generalize n / (2 * d) = q at *
  rw [h, Int.pow_succ, show 2 * q = q + q by omega, Int.pow_add]
theorem div_two_mul (n d : Nat) : n / (2 * d) = n / d / 2 := by rw [Nat.mul_comm, Nat.div_div_eq_div_mul]
theorem pow_ge {x : Int} {r n : Nat} (h : 2 ^ r ≤ x) : 2 ^ (r * n) ≤ x ^ n := by
  induction n with
  | zero => simp
  | succ n ih =>
    rw [Nat.mul_succ, Int.pow_add, Int.pow_succ]
    have h1 : (0 : Int) ≤ 2 ^ r := by have := @Int.pow_pos 2 r (by decide); omega
    have h2 : (0 : Int) ≤ 2 ^ (r * n) := by have := @Int.pow_pos 2 (r * n) (by decide); omega
    calc (2 : Int) ^ (r * n) * 2 ^ r ≤ x ^ n * 2 ^ r := Int.mul_le_mul_of_nonneg_right ih h1
      _ ≤ x ^ n * x := Int.mul_le_mul_of_nonneg_left h (by omega)
theorem pow_one_le {x : Int} (h : 1 ≤ x) (n : Nat) : 1 ≤ x ^ n := by
  have := @Int.pow_pos x n (by omega)
  omega
theorem pow_le_of_le {x : Int} (h : 1 ≤ x) {m n : Nat} (hmn : m ≤ n) : x ^ m ≤ x ^ n := by
  obtain ⟨k, rfl⟩ : ∃ k, n = m + k := ⟨n - m, by omega⟩
  rw [Int.pow_add]
  have h1 := pow_one_le h m
  have h2 := pow_one_le h k
  calc x ^ m = x ^ m * 1 := by rw [Int.mul_one]
    _ ≤ x ^ m * x ^ k := Int.mul_le_mul_of_nonneg_left h2 (by omega)

theorem pw_eq (m : Nat) : pw m = 2 ^ (32 * m) := by
  unfold pw
  rw [Int.pow_mul]; rfl
theorem two_mono {m n : Nat} (h : m ≤ n) : (2 : Int) ^ m ≤ 2 ^ n := pow_le_of_le (by decide) h
theorem pw_le_two {m r : Nat} (h : 32 * m ≤ r) : pw m ≤ 2 ^ r := by rw [pw_eq]; exact two_mono h
theorem two_le_pw {m r : Nat} (h : r ≤ 32 * m) : 2 ^ r ≤ pw m := by rw [pw_eq]; exact two_mono h
theorem pow_lt {x : Int} {r n : Nat} (h0 : 0 ≤ x) (h : x < 2 ^ r) (hn : n ≠ 0) : x ^ n < 2 ^ (r * n) := by
  rw [Int.pow_mul]
  obtain ⟨a, rfl⟩ := Int.eq_ofNat_of_zero_le h0
  have h' : a < 2 ^ r := by exact_mod_cast h
  have := Nat.pow_lt_pow_left h' hn
  exact_mod_cast this
/-- x^n has more than m limbs. -/
theorem pow_big {x : Int} {r n m : Nat} (h : 2 ^ r ≤ x) (hm : 32 * m ≤ r * n) : ¬ x ^ n < pw m := by
  have h1 := pow_ge (n := n) h
  have h2 := pw_le_two hm
  omega
theorem pow_big_exp {x : Int} {n m : Nat} (h : 2 ≤ x) (hm : 32 * m ≤ n) : ¬ x ^ n < pw m := pow_big (r := 1) h (by omega)
theorem pow_small {x : Int} {r n m : Nat} (h0 : 0 ≤ x) (h : x < 2 ^ r) (hn : n ≠ 0) (hm : r * n ≤ 32 * m) : x ^ n < pw m := by
  have h1 := pow_lt h0 h hn
  have h2 := two_le_pw hm
  omega
/-- The loop of repeated squaring: o * s^n = A. -/
def SqRel (A o s : Int) (n : Nat) : Prop := 1 ≤ o ∧ 1 ≤ s ∧ 1 ≤ n ∧ o * s ^ n = A
theorem SqRel.le {A o s : Int} {n : Nat} (h : SqRel A o s n) : o ≤ A ∧ s ≤ A := by
  obtain ⟨h1, h2, h3, rfl⟩ := h
  have p1 := pow_one_le h2 n
  have p2 := pow_le_of_le h2 h3
  rw [Int.pow_one] at p2
  constructor
  · calc o = o * 1 := by rw [Int.mul_one]
      _ ≤ o * s ^ n := Int.mul_le_mul_of_nonneg_left p1 (by omega)
  · calc s ≤ s ^ n := p2
      _ = 1 * s ^ n := by rw [Int.one_mul]
      _ ≤ o * s ^ n := Int.mul_le_mul_of_nonneg_right h1 (by omega)
theorem one_le_mul {a b : Int} (ha : 1 ≤ a) (hb : 1 ≤ b) : 1 ≤ a * b := by
  have := @Int.mul_pos a b (by omega) (by omega)
  omega
theorem SqRel.odd {A o s : Int} {n : Nat} (h : SqRel A o s n) (hn : n % 2 = 1) : (n / 2 = 0 → o * s = A) ∧ (1 ≤ n / 2 → SqRel A (o * s) (s * s) (n / 2)) ∧ o * s ≤ A := by
  obtain ⟨h1, h2, h3, h4⟩ := h
  have e := pow_odd A o s n (n / 2) h4 hn rfl
  have h5 := one_le_mul h1 h2
  have h6 := one_le_mul h2 h2
  refine ⟨fun h0 => by rw [h0, Int.pow_zero, Int.mul_one] at e; exact e, fun h0 => ⟨h5, h6, h0, e⟩, ?_⟩
  have p := pow_one_le h6 (n / 2)
  rw [← e]
  calc o * s = o * s * 1 := by rw [Int.mul_one]
    _ ≤ o * s * (s * s) ^ (n / 2) := Int.mul_le_mul_of_nonneg_left p (by omega)
theorem SqRel.even {A o s : Int} {n : Nat} (h : SqRel A o s n) (hn : n % 2 = 0) : 1 ≤ n / 2 ∧ SqRel A o (s * s) (n / 2) := by
  obtain ⟨h1, h2, h3, h4⟩ := h
  exact ⟨by omega, h1, one_le_mul h2 h2, by omega, pow_even A o s n (n / 2) h4 hn rfl⟩
end Go.Proofs.Ytaaolnepkgcbaaa.Lb
