/- Plain facts on long division: the loops round Knuth's step. -/
import Derived.Test.YtaaolnepkgcbaaaMathD
namespace Go.Proofs.Ytaaolnepkgcbaaa.Lb
set_option linter.unusedVariables false

theorem val_above {us : List Int} {e : Nat} (h : ∀ m, e ≤ m → rdl us m = 0) : val us = sv us 0 e := by
  by_cases hL : us.length ≤ e
  · unfold sv; rw [List.drop_zero, List.take_of_length_le hL]
  · obtain ⟨d, hd⟩ : ∃ d, us.length = e + d := ⟨us.length - e, by omega⟩
    have e1 := sv_all us
    rw [hd, sv_add] at e1
    have e2 : sv us (0 + e) d = 0 := by
      have hz : ∀ i, sv us (0 + e) i = 0 := by
        intro i
        induction i with
        | zero => exact sv_zero ..
        | succ i ih => rw [sv_succ, ih, h _ (by omega)]; simp
      exact hz d
    rw [e2] at e1; omega
/-- One quotient limb: what is left of the dividend. -/
theorem long_step {us os qs : List Int} {j k : Nat} {T V : Int} (hqs : j < qs.length) (hV : 0 < V)
    (inv : T = V * (pw (j + 1) * val (qs.drop (j + 1))) + val us) (hz : ∀ m, j + 1 + k ≤ m → rdl us m = 0)
    (h1 : sv os j k = sv us j (k + 1) % V) (h2 : rdl os (j + k) = 0) (h3 : ∀ m, m < j ∨ j + k < m → rdl os m = rdl us m) :
    T = V * (pw j * val ((qs.set j (sv us j (k + 1) / V)).drop j)) + val os ∧ (∀ m, j + k ≤ m → rdl os m = 0) ∧ sv os j k < V := by
  have hz2 : ∀ m, j + k ≤ m → rdl os m = 0 := fun m hm => by
    rcases Nat.lt_or_ge (j + k) m with h | h
    · rw [h3 m (.inr h)]; exact hz m (by omega)
    · rw [show m = j + k by omega]; exact h2
  have e1 : val us = sv us 0 j + pw j * sv us j (k + 1) := by
    rw [val_above (e := j + (k + 1)) (fun m hm => hz m (by omega)), sv_add, Nat.zero_add]
  have e2 : val os = sv us 0 j + pw j * sv os j k := by
    rw [val_above hz2, sv_add, Nat.zero_add, sv_congr (us' := us) (fun m _ hm => h3 m (.inl (by omega)))]
  have e3 := Int.mul_ediv_add_emod (sv us j (k + 1)) V
  refine ⟨?_, hz2, by rw [h1]; exact Int.emod_lt_of_pos _ hV⟩
  rw [val_drops, rdl_set_eq hqs, set_drop (by omega), inv, e1, e2, h1, pw_succ]
  grind
theorem long_pre {us : List Int} {j k : Nat} {V : Int} (hu : Lm us) (h : sv us (j + 1) k < V) : sv us j (k + 1) < 4294967296 * V := by
  rw [sv_low]
  have := rdl_bd hu j
  omega
/-- The division of shifted numbers. -/
theorem long_end {A b Q R p T V : Int} (hp : 0 < p) (hb : 0 < b) (hT : T = p * A) (hV : V = p * b) (h : T = V * Q + R) (hR0 : 0 ≤ R) (hR : R < V) : Q = A / b ∧ R = p * (A % b) := by
  have h1 := Int.mul_ediv_add_emod A b
  have h2 := Int.emod_nonneg A (show b ≠ 0 by omega)
  have h3 := Int.emod_lt_of_pos A hb
  have hVp : 0 < V := by rw [hV]; exact Int.mul_pos hp hb
  have u1 : T / V = Q ∧ T % V = R := (Int.ediv_emod_unique hVp).2 ⟨by omega, hR0, hR⟩
  have u2 : T / V = A / b ∧ T % V = p * (A % b) := (Int.ediv_emod_unique hVp).2 ⟨by rw [hT, hV]; grind, Int.mul_nonneg (by omega) h2, by rw [hV]; exact Int.mul_lt_mul_of_pos_left h3 hp⟩
  exact ⟨by rw [← u1.1, u2.1], by rw [← u1.2, u2.2]⟩
/-- The remainder is shifted back limb by limb. -/
def RemRel (us rs : List Int) (s i : Nat) : Prop := 2 ^ s * val (rs.take i) = val (us.take i) - rdl us 0 % 2 ^ s + pw i * (rdl us i % 2 ^ s)
theorem RemRel.start (us rs : List Int) (s : Nat) : RemRel us rs s 0 := by
  simp [RemRel, val, pw]
  generalize rdl us 0 % 2 ^ s = z
  omega
theorem shr_limb {x y p q : Int} (hp : 0 < p) (hq : 0 < q) (hpq : p * q = 4294967296) (hx0 : 0 ≤ x) (hx : x < 4294967296) (hy0 : 0 ≤ y) :
    0 ≤ (x + y * 4294967296) / p % 4294967296 ∧ (x + y * 4294967296) / p % 4294967296 < 4294967296 ∧ p * ((x + y * 4294967296) / p % 4294967296) = x - x % p + 4294967296 * (y % p) := by
  refine ⟨by omega, by omega, ?_⟩
  have e1 : x + y * 4294967296 = p * (y * q) + x := by rw [← hpq]; grind
  have e2 : (x + y * 4294967296) / p = y * q + x / p := by
    rw [e1, Int.add_comm, Int.add_mul_ediv_left _ _ (show p ≠ 0 by omega), Int.add_comm]
  have hd := Int.mul_ediv_add_emod x p
  have hy := Int.mul_ediv_add_emod y p
  have hm0 := Int.emod_nonneg x (show p ≠ 0 by omega)
  have hm1 := Int.emod_lt_of_pos x hp
  have hy0' := Int.emod_nonneg y (show p ≠ 0 by omega)
  have hy1 := Int.emod_lt_of_pos y hp
  have hxd : 0 ≤ x / p := Int.ediv_nonneg hx0 (by omega)
  have hxd2 : x / p < q := by
    apply Int.ediv_lt_of_lt_mul hp
    rw [Int.mul_comm, hpq]; exact hx
  have e3 : y * q + x / p = 4294967296 * (y / p) + (y % p * q + x / p) := by rw [← hpq]; grind
  have e4 : 0 ≤ y % p * q := Int.mul_nonneg hy0' (by omega)
  have e5 : y % p * q + x / p < 4294967296 := by
    have : (y % p + 1) * q ≤ p * q := Int.mul_le_mul_of_nonneg_right (by omega) (by omega)
    rw [hpq, Int.add_mul, Int.one_mul] at this
    omega
  have e6 : (x + y * 4294967296) / p % 4294967296 = y % p * q + x / p := by
    rw [e2, e3]; omega
  rw [e6]
  have : p * (y % p * q) = 4294967296 * (y % p) := by rw [← hpq]; grind
  rw [Int.mul_add, this]
  omega
theorem RemRel.step {us rs : List Int} {s i : Nat} {q d : Int} (h : RemRel us rs s i) (hi : i < rs.length) (hu : Lm us) (hq : 0 < q) (hpq : 2 ^ s * q = 4294967296) (hd : d = (rdl us i + rdl us (i + 1) * 4294967296) / 2 ^ s % 4294967296) : RemRel us (rs.set i d) s (i + 1) := by
  unfold RemRel at *
  have hp : (0 : Int) < 2 ^ s := Int.pow_pos (by decide)
  have b0 := rdl_bd hu i
  have b1 := rdl_bd hu (i + 1)
  obtain ⟨_, _, e⟩ := shr_limb hp hq hpq b0.1 b0.2 b1.1
  rw [val_set_next hi, val_takes, pw_succ, hd]
  grind
theorem RemRel.done {us rs : List Int} {s k : Nat} {R' : Int} (h : RemRel us rs s k) (hk : rs.length = k) (hz : ∀ m, k ≤ m → rdl us m = 0) (hR : val us = 2 ^ s * R') (hs32 : s ≤ 32) : val rs = R' := by
  unfold RemRel at h
  have hp : (0 : Int) < 2 ^ s := Int.pow_pos (by decide)
  rw [val_take_all (by omega), hz k (Nat.le_refl _)] at h
  have e1 : val (us.take k) = val us := by rw [← sv_zero_start, ← val_above hz]
  rw [e1, hR] at h
  by_cases hs : s = 0
  · subst hs
    simp at h; omega
  · -- the lowest bits are those of the whole
    have e2 : rdl us 0 % 2 ^ s = 0 := by
      have e3 : val us = rdl us 0 + 4294967296 * val (us.drop 1) := by have := val_drops us 0; rwa [List.drop_zero] at this
      obtain ⟨q, hq⟩ : ∃ q : Int, 4294967296 = 2 ^ s * q := ⟨2 ^ (32 - s), by rw [← Int.pow_add, show s + (32 - s) = 32 by omega]; rfl⟩
      have e4 : rdl us 0 = 2 ^ s * (R' - q * val (us.drop 1)) := by rw [Int.mul_sub, ← Int.mul_assoc, ← hq]; omega
      rw [e4]; exact Int.mul_emod_right ..
    rw [e2] at h
    simp at h
    have : (2 : Int) ^ s * val rs = 2 ^ s * R' := by omega
    exact Int.eq_of_mul_eq_mul_left (by omega) this
/-- The divisor, shifted so that its top bit is set. -/
theorem norm_facts {bs vs : List Int} {κ s r : Nat} (hb : Lm bs) (hbl : bs.length = κ + 2) (hr : rdl bs (κ + 1) < 2 ^ r) (hr2 : 2 ^ (r - 1) ≤ rdl bs (κ + 1)) (hr0 : 1 ≤ r) (hsr : s + r = 32) (hv : Lm vs) (hc : Cn vs) (hval : val vs = 2 ^ s * val bs) :
    vs.length = κ + 2 ∧ 2147483648 ≤ rdl vs (κ + 1) := by
  have hp := pw_pos (κ + 1)
  have hs : (0 : Int) < 2 ^ s := Int.pow_pos (by decide)
  have e1 : val bs = val (bs.take (κ + 1)) + pw (κ + 1) * rdl bs (κ + 1) := by
    have := val_takes bs (κ + 1)
    rwa [val_take_all (by omega)] at this
  have b1 := val_nonneg (hb.take (κ + 1))
  have b2 : val (bs.take (κ + 1)) < pw (κ + 1) := val_lt_pw (hb.take _) (by rw [List.length_take]; omega)
  have t1 : (2 : Int) ^ s * 2 ^ r = 4294967296 := by rw [← Int.pow_add, hsr]; rfl
  have t2 : (2 : Int) ^ s * 2 ^ (r - 1) = 2147483648 := by rw [← Int.pow_add, show s + (r - 1) = 31 by omega]; rfl
  have up : val vs < pw (κ + 2) := by
    have h1 : val bs < pw (κ + 1) * 2 ^ r := by
      have : pw (κ + 1) * (rdl bs (κ + 1) + 1) ≤ pw (κ + 1) * 2 ^ r := Int.mul_le_mul_of_nonneg_left (by omega) (by omega)
      rw [Int.mul_add] at this; omega
    have h2 : 2 ^ s * val bs < 2 ^ s * (pw (κ + 1) * 2 ^ r) := Int.mul_lt_mul_of_pos_left h1 hs
    have h3 : (2 : Int) ^ s * (pw (κ + 1) * 2 ^ r) = pw (κ + 2) := by
      rw [show κ + 2 = κ + 1 + 1 by omega, pw_succ (κ + 1), Int.mul_left_comm, t1, Int.mul_comm]
    omega
  have low : pw (κ + 1) * 2147483648 ≤ val vs := by
    have h1 : pw (κ + 1) * 2 ^ (r - 1) ≤ val bs := by
      have : pw (κ + 1) * 2 ^ (r - 1) ≤ pw (κ + 1) * rdl bs (κ + 1) := Int.mul_le_mul_of_nonneg_left hr2 (by omega)
      omega
    have h2 : 2 ^ s * (pw (κ + 1) * 2 ^ (r - 1)) ≤ 2 ^ s * val bs := Int.mul_le_mul_of_nonneg_left h1 (by omega)
    have h3 : (2 : Int) ^ s * (pw (κ + 1) * 2 ^ (r - 1)) = pw (κ + 1) * 2147483648 := by rw [Int.mul_left_comm, t2]
    omega
  have l1 := len_of_lt hv hc up
  have l2 : κ + 2 ≤ vs.length := by
    apply Nat.le_of_not_lt
    intro h'
    have := val_lt_pw hv (m := κ + 1) (by omega)
    omega
  have hl : vs.length = κ + 2 := by omega
  refine ⟨hl, ?_⟩
  have e2 : val vs = val (vs.take (κ + 1)) + pw (κ + 1) * rdl vs (κ + 1) := by
    have := val_takes vs (κ + 1)
    rwa [val_take_all (by omega)] at this
  have b3 : val (vs.take (κ + 1)) < pw (κ + 1) := val_lt_pw (hv.take _) (by rw [List.length_take]; omega)
  have h4 : pw (κ + 1) * 2147483648 < pw (κ + 1) * (rdl vs (κ + 1) + 1) := by rw [Int.mul_add]; omega
  have := Int.lt_of_mul_lt_mul_left h4 (by omega)
  omega
/-- The dividend's leading limbs are below the divisor at the start. -/
theorem lead_start {us vs : List Int} {κ j : Nat} (hu : Lm us) (hv : Lm vs) (hvl : vs.length = κ + 2) (h1 : rdl us (j + (κ + 1)) < rdl vs (κ + 1)) : sv us j (κ + 2) < val vs := by
  have hp := pw_pos (κ + 1)
  have e2 : val vs = val (vs.take (κ + 1)) + pw (κ + 1) * rdl vs (κ + 1) := by
    have := val_takes vs (κ + 1)
    rwa [val_take_all (by omega)] at this
  have b1 := val_nonneg (hv.take (κ + 1))
  have b2 := sv_lt hu j (κ + 1)
  rw [show κ + 2 = κ + 1 + 1 by omega, sv_succ]
  have : pw (κ + 1) * (rdl us (j + (κ + 1)) + 1) ≤ pw (κ + 1) * rdl vs (κ + 1) := Int.mul_le_mul_of_nonneg_left (by omega) (by omega)
  rw [Int.mul_add] at this
  omega
end Go.Proofs.Ytaaolnepkgcbaaa.Lb
