/- Plain facts on binomial coefficients and on division limb by limb. -/
import Derived.Test.YtaaolnepkgcbaaaDoorMath
namespace Go.Proofs.YtaaolnepkgcbaaaDoor.Lb
set_option linter.unusedVariables false

/-- The binomial coefficient, by Pascal's rule. -/
def ch : Nat → Nat → Nat
  | _, 0 => 1
  | 0, _ + 1 => 0
  | n + 1, k + 1 => ch n k + ch n (k + 1)
theorem ch_zero (n : Nat) : ch n 0 = 1 := by cases n <;> rfl
theorem ch_succ (n k : Nat) : ch (n + 1) (k + 1) = ch n k + ch n (k + 1) := rfl
theorem ch_gt : ∀ (n k : Nat), n < k → ch n k = 0
  | 0, k + 1, _ => rfl
  | n + 1, k + 1, h => by rw [ch_succ, ch_gt n k (by omega), ch_gt n (k + 1) (by omega)]
theorem ch_self : ∀ n, ch n n = 1
  | 0 => rfl
  | n + 1 => by rw [ch_succ, ch_self n, ch_gt n (n + 1) (by omega)]
theorem ch_pos : ∀ (n k : Nat), k ≤ n → 0 < ch n k
  | n, 0, _ => by rw [ch_zero]; omega
  | n + 1, k + 1, h => by rw [ch_succ]; have := ch_pos n k (by omega); omega
theorem ch_absorb : ∀ (n k : Nat), (k + 1) * ch (n + 1) (k + 1) = (n + 1) * ch n k
  | 0, 0 => rfl
  | 0, k + 1 => by rw [ch_succ, ch_gt 0 (k + 1) (by omega), ch_gt 0 (k + 1 + 1) (by omega)]; simp
  | n + 1, 0 => by
    have h1 := ch_absorb n 0
    have h2 := ch_succ (n + 1) 0
    have h3 := ch_zero (n + 1)
    have h4 := ch_zero n
    grind
  | n + 1, k + 1 => by
    have h1 := ch_absorb n k
    have h2 := ch_absorb n (k + 1)
    rw [ch_succ (n + 1) (k + 1)]
    have h3 := ch_succ n k
    grind
theorem ch_step (n k : Nat) (h : k ≤ n) : ch n (k + 1) * (k + 1) = ch n k * (n - k) := by
  have h1 := ch_absorb n k
  rw [ch_succ] at h1
  obtain ⟨d, rfl⟩ : ∃ d, n = k + d := ⟨n - k, by omega⟩
  rw [show k + d - k = d by omega]
  grind
theorem ch_sum : ∀ (n i j : Nat), i + j = n → ch n i = ch n j
  | 0, i, j, h => by obtain rfl : i = 0 := by omega
                     obtain rfl : j = 0 := by omega
                     rfl
  | n + 1, 0, j, h => by obtain rfl : j = n + 1 := by omega
                         rw [ch_zero, ch_self]
  | n + 1, i + 1, 0, h => by obtain rfl : n = i := by omega
                             rw [ch_zero, ch_self]
  | n + 1, i + 1, j + 1, h => by
    rw [ch_succ, ch_succ, ch_sum n i (j + 1) (by omega), ch_sum n (i + 1) j (by omega)]; omega
theorem ch_symm (n k : Nat) (h : k ≤ n) : ch n (n - k) = ch n k := ch_sum n (n - k) k (by omega)

/-- The sum of Vandermonde's identity, its first J terms. -/
def vs (m n k : Nat) : Nat → Nat
  | 0 => 0
  | j + 1 => vs m n k j + ch m j * ch n (k - j)
theorem vs_step (m n k : Nat) : ∀ j, vs (m + 1) n (k + 1) (j + 1) = vs m n (k + 1) (j + 1) + vs m n k j
  | 0 => by simp [vs, ch_zero]
  | j + 1 => by
    have ih := vs_step m n k j
    have e1 : vs (m + 1) n (k + 1) (j + 1 + 1) = vs (m + 1) n (k + 1) (j + 1) + ch (m + 1) (j + 1) * ch n (k + 1 - (j + 1)) := rfl
    have e2 : vs m n (k + 1) (j + 1 + 1) = vs m n (k + 1) (j + 1) + ch m (j + 1) * ch n (k + 1 - (j + 1)) := rfl
    have e3 : vs m n k (j + 1) = vs m n k j + ch m j * ch n (k - j) := rfl
    rw [e1, e2, e3, ih, ch_succ, show k + 1 - (j + 1) = k - j by omega, Nat.add_mul]
    omega
theorem vs_zero (n k : Nat) : ∀ j, vs 0 n k (j + 1) = ch n k
  | 0 => by simp [vs, ch_zero]
  | j + 1 => by
    have e : vs 0 n k (j + 1 + 1) = vs 0 n k (j + 1) + ch 0 (j + 1) * ch n (k - (j + 1)) := rfl
    rw [e, vs_zero n k j, ch_gt 0 (j + 1) (by omega)]; omega
theorem vandermonde : ∀ (m n k : Nat), vs m n k (k + 1) = ch (m + n) k
  | 0, n, k => by rw [vs_zero, Nat.zero_add]
  | m + 1, n, 0 => by simp [vs, ch_zero]
  | m + 1, n, k + 1 => by
    rw [vs_step, vandermonde m n (k + 1), vandermonde m n k, show m + 1 + n = m + n + 1 by omega, ch_succ]; omega

/-- The coefficient at whole numbers. -/
def chI (n k : Int) : Int := if k < 0 ∨ n < k then 0 else ch n.toNat k.toNat
theorem chI_out {n k : Int} (h : k < 0 ∨ n < k) : chI n k = 0 := by unfold chI; rw [if_pos h]
theorem chI_in (n k : Nat) : chI n k = ch n k := by
  unfold chI
  split
  · rw [ch_gt n k (by omega)]; rfl
  · simp

/-- One limb of a division by a number below 2^32. -/
theorem div_step {b rem x q r : Int} (hb : 0 < b) (hb1 : b ≤ 4294967296) (hr0 : 0 ≤ rem) (hr : rem < b) (hx0 : 0 ≤ x) (hx : x < 4294967296) :
    0 ≤ (rem * 4294967296 + x) / b ∧ (rem * 4294967296 + x) / b < 4294967296 ∧ 0 ≤ (rem * 4294967296 + x) % b ∧ (rem * 4294967296 + x) % b < b := by
  refine ⟨Int.ediv_nonneg (by omega) (by omega), ?_, Int.emod_nonneg _ (by omega), Int.emod_lt_of_pos _ hb⟩
  apply Int.ediv_lt_of_lt_mul hb
  have : (rem + 1) * 4294967296 ≤ b * 4294967296 := Int.mul_le_mul_of_nonneg_right (by omega) (by decide)
  omega
theorem val_set_drop {os : List Int} {k : Nat} (h : k < os.length) (d : Int) : val ((os.set k d).drop k) = d + 4294967296 * val (os.drop (k + 1)) := by
  rw [val_drops, rdl_set_eq h, set_drop (by omega)]
theorem div_next {os xs : List Int} {k : Nat} {b rem : Int} (hk : k < os.length) (inv : val (xs.drop (k + 1)) = b * val (os.drop (k + 1)) + rem) :
    val (xs.drop k) = b * val ((os.set k ((rem * 4294967296 + rdl xs k) / b)).drop k) + (rem * 4294967296 + rdl xs k) % b := by
  rw [val_set_drop hk, val_drops, inv]
  have := Int.mul_ediv_add_emod (rem * 4294967296 + rdl xs k) b
  grind
theorem div_end {x q r b : Int} (h : x = b * q + r) (h0 : 0 ≤ r) (h1 : r < b) : q = x / b ∧ r = x % b := by
  have hb : 0 < b := by omega
  have h2 : x / b = q ∧ x % b = r := (Int.ediv_emod_unique hb).2 ⟨by omega, h0, h1⟩
  exact ⟨h2.1.symm, h2.2.symm⟩
end Go.Proofs.YtaaolnepkgcbaaaDoor.Lb
