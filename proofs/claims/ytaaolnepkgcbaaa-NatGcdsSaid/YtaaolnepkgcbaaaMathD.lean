/- Plain facts on long division (Knuth's algorithm D). -/
import Derived.Test.YtaaolnepkgcbaaaMathP
namespace Go.Proofs.Ytaaolnepkgcbaaa.Lb
set_option linter.unusedVariables false

/-- The value of us[j .. j+i). -/
def sv (us : List Int) (j i : Nat) : Int := val ((us.drop j).take i)
theorem rdl_drop (us : List Int) (j i : Nat) : rdl (us.drop j) i = rdl us (j + i) := by
  unfold rdl
  rw [List.getD_eq_getElem?_getD, List.getD_eq_getElem?_getD, List.getElem?_drop]
theorem sv_zero (us : List Int) (j : Nat) : sv us j 0 = 0 := by simp [sv, val]
theorem sv_succ (us : List Int) (j i : Nat) : sv us j (i + 1) = sv us j i + pw i * rdl us (j + i) := by
  unfold sv; rw [val_takes, rdl_drop]
theorem sv_low (us : List Int) (j i : Nat) : sv us j (i + 1) = rdl us j + 4294967296 * sv us (j + 1) i := by
  induction i with
  | zero => rw [sv_succ, sv_zero, sv_zero, pw_zero]; simp
  | succ i ih =>
    have e := sv_succ us (j + 1) i
    rw [sv_succ, ih, e, pw_succ, show j + (i + 1) = j + 1 + i by omega]; grind
theorem sv_nonneg {us : List Int} (h : Lm us) (j i : Nat) : 0 ≤ sv us j i := val_nonneg ((h.drop j).take i)
theorem sv_lt {us : List Int} (h : Lm us) (j i : Nat) : sv us j i < pw i := by
  have h1 := val_lt ((h.drop j).take i)
  have h2 := pw_mono (m := ((us.drop j).take i).length) (n := i) (by rw [List.length_take]; omega)
  unfold sv; omega
theorem sv_congr {us us' : List Int} {j i : Nat} (h : ∀ m, j ≤ m → m < j + i → rdl us m = rdl us' m) : sv us j i = sv us' j i := by
  induction i with
  | zero => rw [sv_zero, sv_zero]
  | succ i ih => rw [sv_succ, sv_succ, ih (fun m h1 h2 => h m h1 (by omega)), h (j + i) (by omega) (by omega)]
theorem sv_set {us : List Int} {j i : Nat} (h : j + i < us.length) (d : Int) : sv (us.set (j + i) d) j (i + 1) = sv us j i + pw i * d := by
  rw [sv_succ, rdl_set_eq h, sv_congr (us' := us) (fun m h1 h2 => rdl_set_ne (by omega) d)]
theorem sv_all (us : List Int) : sv us 0 us.length = val us := by unfold sv; rw [List.drop_zero, List.take_length]
theorem sv_zero_start (us : List Int) (i : Nat) : sv us 0 i = val (us.take i) := by unfold sv; rw [List.drop_zero]
theorem sv_add (us : List Int) (j a b : Nat) : sv us j (a + b) = sv us j a + pw a * sv us (j + a) b := by
  induction b with
  | zero => simp [sv_zero]
  | succ b ih => rw [← Nat.add_assoc, sv_succ, ih, sv_succ, pw_add, show j + (a + b) = j + a + b by omega]; grind

/-- The trial quotient: qt is the true one. -/
def QRel (top v1 qt q r : Int) : Prop := q * v1 + r = top ∧ 0 ≤ r ∧ r < 8589934592 ∧ qt ≤ q ∧ 0 ≤ q ∧ q < 18446744073709551616
theorem QRel.down {top v1 v2 u2 qt q r : Int} (h : QRel top v1 qt q r) (hr : r < 4294967296) (hv0 : 1 ≤ v1) (hv1 : v1 < 4294967296) (hq : qt < q) (h0 : 0 ≤ qt) : QRel top v1 qt (q - 1) (r + v1) := by
  obtain ⟨h1, h2, h3, h4, h5, h6⟩ := h
  refine ⟨by rw [Int.sub_mul, Int.one_mul]; omega, by omega, by omega, by omega, by omega, by omega⟩
/-- What is known when the trial ends. -/
def QEnd (top v1 v2 u2 qt q : Int) : Prop := 0 ≤ q ∧ q < 4294967296 ∧ qt ≤ q ∧ q * (v1 * 4294967296 + v2) ≤ top * 4294967296 + u2
theorem QRel.stop_r {top v1 v2 u1 u2 qt q r : Int} (h : QRel top v1 qt q r) (hr : 4294967296 ≤ r) (hv0 : 1 ≤ v1) (hv2 : v2 < 4294967296) (hv20 : 0 ≤ v2) (hu2 : 0 ≤ u2) (htop : top < v1 * 4294967296 + 4294967296) : QEnd top v1 v2 u2 qt q := by
  obtain ⟨h1, h2, h3, h4, h5, h6⟩ := h
  have hq : q < 4294967296 := by
    apply Int.lt_of_not_ge
    intro hge
    have : 4294967296 * v1 ≤ q * v1 := Int.mul_le_mul_of_nonneg_right hge (by omega)
    omega
  refine ⟨h5, hq, h4, ?_⟩
  have e : q * v2 ≤ 4294967295 * 4294967295 := by
    have := Int.mul_le_mul (show q ≤ 4294967295 by omega) (show v2 ≤ 4294967295 by omega) hv20 (by omega)
    exact this
  rw [← h1]
  grind
theorem QRel.stop_t {top v1 v2 u2 qt q r : Int} (h : QRel top v1 qt q r) (hq : q < 4294967296) (ht : q * v2 ≤ r * 4294967296 + u2) : QEnd top v1 v2 u2 qt q := by
  obtain ⟨h1, h2, h3, h4, h5, h6⟩ := h
  refine ⟨h5, hq, h4, ?_⟩
  rw [← h1]
  grind
/-- The true quotient is below the trial one while the second test says so. -/
theorem q_test {top v1 v2 u2 U V P q r : Int} (hP : 0 < P) (hV : V ≥ (v1 * 4294967296 + v2) * P) (hU : U < (top * 4294967296 + u2 + 1) * P) (h1 : q * v1 + r = top) (ht : r * 4294967296 + u2 < q * v2) (hq : 0 ≤ q) (hVp : 0 < V) : U / V < q := by
  apply Int.ediv_lt_of_lt_mul hVp
  have e : top * 4294967296 + u2 + 1 ≤ q * (v1 * 4294967296 + v2) := by rw [← h1]; grind
  calc U < (top * 4294967296 + u2 + 1) * P := hU
    _ ≤ q * (v1 * 4294967296 + v2) * P := Int.mul_le_mul_of_nonneg_right e (by omega)
    _ = q * ((v1 * 4294967296 + v2) * P) := by rw [Int.mul_assoc]
    _ ≤ q * V := Int.mul_le_mul_of_nonneg_left hV hq
theorem q_start {top v1 U V P : Int} (hP : 0 < P) (hV : V ≥ v1 * P) (hU : U < (top + 1) * P) (hv : 0 < v1) (hVp : 0 < V) (hU0 : 0 ≤ U) : U / V ≤ top / v1 := by
  apply Int.le_ediv_of_mul_le hv
  apply Int.le_of_lt_add_one
  have h0 : 0 ≤ U / V := Int.ediv_nonneg hU0 (by omega)
  have h1 : U / V * V ≤ U := Int.ediv_mul_le U (by omega)
  have h2 : U / V * (v1 * P) ≤ U / V * V := Int.mul_le_mul_of_nonneg_left hV h0
  have h3 : (U / V * v1) * P < (top + 1) * P := by
    rw [Int.mul_assoc]; omega
  exact Int.lt_of_mul_lt_mul_right h3 (by omega)
/-- At the end the trial quotient is at most one too great. -/
theorem q_end {top v1 v2 u2 U V P q : Int} (hP : 0 < P) (hV : V < (v1 * 4294967296 + v2 + 1) * P) (hU : (top * 4294967296 + u2) * P ≤ U) (hv1 : 1 ≤ v1) (hv2 : 0 ≤ v2) (hVp : 0 < V) (hU0 : 0 ≤ U) (hUV : U < 4294967296 * V) (h : QEnd top v1 v2 u2 (U / V) q) : q ≤ U / V + 1 := by
  obtain ⟨a, b, c, d⟩ := h
  apply Int.le_of_not_gt
  intro hlt
  have hq : U / V < 4294967296 := Int.ediv_lt_of_lt_mul hVp hUV
  have h0 : 0 ≤ U / V := Int.ediv_nonneg hU0 (by omega)
  have h1 : U < (U / V + 1) * V := Int.lt_ediv_add_one_mul_self U hVp
  generalize hqt : U / V = qt at *
  have h2 : (qt + 1) * V ≤ (qt + 1) * ((v1 * 4294967296 + v2 + 1) * P) := Int.mul_le_mul_of_nonneg_left (by omega) (by omega)
  have h3 : q * (v1 * 4294967296 + v2) * P ≤ (top * 4294967296 + u2) * P := Int.mul_le_mul_of_nonneg_right d (by omega)
  have h4 : (q * (v1 * 4294967296 + v2)) * P < ((qt + 1) * (v1 * 4294967296 + v2 + 1)) * P := by
    rw [Int.mul_assoc (qt + 1)]; omega
  have h5 := Int.lt_of_mul_lt_mul_right h4 (by omega)
  have h6 : (qt + 2) * (v1 * 4294967296 + v2) ≤ q * (v1 * 4294967296 + v2) := Int.mul_le_mul_of_nonneg_right (by omega) (by omega)
  have h7 : (qt + 2) * (v1 * 4294967296 + v2) < (qt + 1) * (v1 * 4294967296 + v2 + 1) := by omega
  have h8 : 4294967296 ≤ v1 * 4294967296 + v2 := by omega
  generalize v1 * 4294967296 + v2 = V2 at *
  have h9 : V2 < qt + 1 := by grind
  omega

/-- Multiply and subtract: i limbs are done. -/
def MsRel (us os vs : List Int) (j i : Nat) (q c b : Int) : Prop :=
  os.length = us.length ∧ 0 ≤ c ∧ c < 4294967296 ∧ 0 ≤ b ∧ b ≤ 1 ∧ sv os j i + q * val (vs.take i) = sv us j i + pw i * (c + b) ∧ ∀ m, m < j ∨ j + i ≤ m → rdl os m = rdl us m
theorem MsRel.start (us vs : List Int) (j : Nat) (q : Int) : MsRel us us vs j 0 q 0 0 :=
  ⟨rfl, by omega, by omega, by omega, by omega, by simp [sv_zero, val], fun _ _ => rfl⟩
theorem MsRel.step {us os vs : List Int} {j i : Nat} {q c b p D : Int} (h : MsRel us os vs j i q c b) (hv : Lm vs) (hu : Lm us) (hi : j + i < us.length) (hq0 : 0 ≤ q) (hq : q < 4294967296)
    (hp : p = q * rdl vs i + c) (hD : D = (rdl us (j + i) - p % 4294967296 - b) % 18446744073709551616) :
    MsRel us (os.set (j + i) (D % 4294967296)) vs j (i + 1) q (p / 4294967296) (D / 9223372036854775808) ∧ 0 ≤ p ∧ p < 18446744073709551616 := by
  obtain ⟨h1, h2, h3, h4, h5, h6, h7⟩ := h
  have bv := rdl_bd hv i
  have bu := rdl_bd hu (j + i)
  have e1 : 0 ≤ q * rdl vs i := Int.mul_nonneg hq0 bv.1
  have e2 : q * rdl vs i ≤ 4294967295 * 4294967295 := Int.mul_le_mul (by omega) (by omega) bv.1 (by omega)
  have p0 : 0 ≤ p := by omega
  have p1 : p < 18446744069414584321 := by omega
  refine ⟨⟨by rw [List.length_set]; exact h1, by omega, by omega, by omega, by omega, ?_, fun m hm => ?_⟩, p0, by omega⟩
  · have key : D % 4294967296 + q * rdl vs i + c + b = rdl us (j + i) + 4294967296 * (p / 4294967296 + D / 9223372036854775808) := by omega
    rw [sv_set (by omega), val_takes, sv_succ, pw_succ]
    grind
  · rw [rdl_set_ne (by omega)]
    exact h7 m (by omega)
theorem MsRel.total {us os vs : List Int} {j k : Nat} {q c b : Int} (h : MsRel us os vs j k q c b) (hk : vs.length = k) :
    sv us j (k + 1) - q * val vs = sv os j k + pw k * (rdl us (j + k) - c - b) := by
  obtain ⟨h1, h2, h3, h4, h5, h6, h7⟩ := h
  rw [val_take_all (by omega)] at h6
  rw [sv_succ]
  grind
/-- No borrow: the trial quotient was the true one. -/
theorem step_done {U V S P q d : Int} (hV : 0 < V) (hVP : V < P) (hS0 : 0 ≤ S) (hd : 0 ≤ d) (h : U - q * V = S + P * d) (hq : U / V ≤ q) : q = U / V ∧ d = 0 ∧ S = U % V := by
  have hp : 0 ≤ P * d := Int.mul_nonneg (by omega) hd
  have h1 : q ≤ U / V := Int.le_ediv_of_mul_le hV (by omega)
  have hq2 : q = U / V := by omega
  have h2 := Int.mul_ediv_add_emod U V
  have h3 := Int.emod_lt_of_pos U hV
  have h4 : V * (U / V) = q * V := by rw [hq2, Int.mul_comm]
  have h5 : U % V = S + P * d := by omega
  have hd0 : d = 0 := by
    apply Int.le_antisymm _ hd
    apply Int.le_of_not_gt
    intro h'
    have : P * 1 ≤ P * d := Int.mul_le_mul_of_nonneg_left (by omega) (by omega)
    omega
  rw [hd0, Int.mul_zero, Int.add_zero] at h5
  exact ⟨hq2, hd0, h5.symm⟩
/-- A borrow: it was one too great; d is -1. -/
theorem step_back {U V S P q d : Int} (hV : 0 < V) (hVP : V < P) (hS0 : 0 ≤ S) (hSP : S < P) (hU0 : 0 ≤ U) (hd : d < 0) (h : U - q * V = S + P * d) (hq : U / V ≤ q) (hq1 : q ≤ U / V + 1) : q = U / V + 1 ∧ d = -1 ∧ S + V = U % V + P := by
  have h2 := Int.mul_ediv_add_emod U V
  have h3 := Int.emod_lt_of_pos U hV
  have h30 := Int.emod_nonneg U (show V ≠ 0 by omega)
  have h4 : P * d ≤ P * (-1) := Int.mul_le_mul_of_nonneg_left (by omega) (by omega)
  have hq2 : q = U / V + 1 := by
    apply Int.le_antisymm hq1
    apply Int.lt_of_not_ge
    intro h'
    have e : q = U / V := by omega
    rw [e, Int.mul_comm] at h
    omega
  have h5 : q * V = V * (U / V) + V := by rw [hq2, Int.add_mul, Int.one_mul, Int.mul_comm]
  have h6 : U % V = S + V + P * d := by omega
  have hd1 : d = -1 := by
    apply Int.le_antisymm (by omega)
    apply Int.le_of_not_gt
    intro h'
    have : P * d ≤ P * (-2) := Int.mul_le_mul_of_nonneg_left (by omega) (by omega)
    omega
  rw [hd1] at h6
  exact ⟨hq2, hd1, by omega⟩
/-- Adding back: i limbs are done. -/
def AbRel (us os vs : List Int) (j i : Nat) (c : Int) : Prop :=
  os.length = us.length ∧ 0 ≤ c ∧ c ≤ 1 ∧ sv os j i + pw i * c = sv us j i + val (vs.take i) ∧ ∀ m, m < j ∨ j + i ≤ m → rdl os m = rdl us m
theorem AbRel.start (us vs : List Int) (j : Nat) : AbRel us us vs j 0 0 := ⟨rfl, by omega, by omega, by simp [sv_zero, val], fun _ _ => rfl⟩
theorem AbRel.step {us os vs : List Int} {j i : Nat} {c s : Int} (h : AbRel us os vs j i c) (hv : Lm vs) (hu : Lm us) (hi : j + i < us.length) (hs : s = rdl us (j + i) + rdl vs i + c) :
    AbRel us (os.set (j + i) (s % 4294967296)) vs j (i + 1) (s / 4294967296) := by
  obtain ⟨h1, h2, h3, h4, h5⟩ := h
  have bv := rdl_bd hv i
  have bu := rdl_bd hu (j + i)
  refine ⟨by rw [List.length_set]; exact h1, by omega, by omega, ?_, fun m hm => ?_⟩
  · have key : s % 4294967296 + 4294967296 * (s / 4294967296) = rdl us (j + i) + rdl vs i + c := by omega
    rw [sv_set (by omega), val_takes, sv_succ, pw_succ]
    grind
  · rw [rdl_set_ne (by omega)]
    exact h5 m (by omega)
theorem back_end {S V R P S2 c : Int} (h : S + V = R + P) (h2 : S2 + P * c = S + V) (hR0 : 0 ≤ R) (hR : R < P) (hS20 : 0 ≤ S2) (hS2 : S2 < P) (hc0 : 0 ≤ c) (hc1 : c ≤ 1) : c = 1 ∧ S2 = R := by
  have hc : c = 0 ∨ c = 1 := by omega
  rcases hc with rfl | rfl
  · simp at h2; omega
  · simp at h2; omega

/-- What the trial needs to know of the dividend's and the divisor's leading limbs. -/
theorem lead_facts {us vs : List Int} {j κ : Nat} (hu : Lm us) (hv : Lm vs) (hk : vs.length = κ + 2) (hv1 : 1 ≤ rdl vs (κ + 1)) :
    0 < pw κ ∧ 0 < val vs ∧ (rdl vs (κ + 1) * 4294967296 + rdl vs κ) * pw κ ≤ val vs ∧ val vs < (rdl vs (κ + 1) * 4294967296 + rdl vs κ + 1) * pw κ ∧
    ((rdl us (j + (κ + 2)) * 4294967296 + rdl us (j + (κ + 1))) * 4294967296 + rdl us (j + κ)) * pw κ ≤ sv us j (κ + 3) ∧
    sv us j (κ + 3) < ((rdl us (j + (κ + 2)) * 4294967296 + rdl us (j + (κ + 1))) * 4294967296 + rdl us (j + κ) + 1) * pw κ := by
  have hp := pw_pos κ
  have e1 : val vs = val (vs.take κ) + pw κ * rdl vs κ + 4294967296 * pw κ * rdl vs (κ + 1) := by
    have := val_takes vs (κ + 1)
    rw [val_take_all (by omega), val_takes, pw_succ] at this
    exact this
  have b1 := val_nonneg (hv.take κ)
  have b2 : val (vs.take κ) < pw κ := by
    have := val_lt (hv.take κ)
    have := pw_mono (m := (vs.take κ).length) (n := κ) (by rw [List.length_take]; omega)
    omega
  have e2 : sv us j (κ + 3) = sv us j κ + pw κ * rdl us (j + κ) + 4294967296 * pw κ * rdl us (j + (κ + 1)) + 4294967296 * (4294967296 * pw κ) * rdl us (j + (κ + 2)) := by
    rw [show κ + 3 = κ + 2 + 1 by omega, sv_succ, show κ + 2 = κ + 1 + 1 by omega, sv_succ, sv_succ, pw_succ (κ + 1), pw_succ κ]
  have b3 := sv_nonneg hu j κ
  have b4 := sv_lt hu j κ
  have b5 := rdl_bd hv κ
  have m1 : 0 ≤ pw κ * rdl vs κ := Int.mul_nonneg (by omega) b5.1
  have m2 : pw κ * 1 ≤ pw κ * rdl vs (κ + 1) := Int.mul_le_mul_of_nonneg_left hv1 (by omega)
  refine ⟨hp, ?_, ?_, ?_, ?_, ?_⟩
  · rw [e1, Int.mul_assoc]; omega
  · rw [e1]; grind
  · rw [e1]; grind
  · rw [e2]; grind
  · rw [e2]; grind
/-- .. and of its first limb, where the quotient is one limb. -/
theorem lead_top {us vs : List Int} {j κ : Nat} (hu : Lm us) (hv : Lm vs) (hk : vs.length = κ + 2) (hv1 : 1 ≤ rdl vs (κ + 1)) (h : sv us j (κ + 3) < 4294967296 * val vs) : rdl us (j + (κ + 2)) ≤ rdl vs (κ + 1) := by
  obtain ⟨hp, _, _, h4, h5, _⟩ := lead_facts (j := j) hu hv hk hv1
  have bv := rdl_bd hv κ
  have b1 := rdl_bd hu (j + (κ + 1))
  have b2 := rdl_bd hu (j + κ)
  generalize rdl us (j + (κ + 2)) = u0 at *
  generalize rdl us (j + (κ + 1)) = u1 at *
  generalize rdl us (j + κ) = u2 at *
  generalize rdl vs (κ + 1) = v1 at *
  generalize rdl vs κ = v2 at *
  have h6 : ((u0 * 4294967296 + u1) * 4294967296 + u2) * pw κ < 4294967296 * ((v1 * 4294967296 + v2 + 1) * pw κ) := by omega
  have h7 : ((u0 * 4294967296 + u1) * 4294967296 + u2) * pw κ < (4294967296 * (v1 * 4294967296 + v2 + 1)) * pw κ := by rw [Int.mul_assoc 4294967296]; exact h6
  have h8 := Int.lt_of_mul_lt_mul_right h7 (by omega)
  omega

/-- One limb of a shift by s bits. -/
theorem shift_step {os xs : List Int} {k s : Nat} {c S : Int} (hk : k < os.length) (inv : val (os.take k) + pw k * c = 2 ^ s * val (xs.take k)) (hS : S = rdl xs k * 2 ^ s + c) :
    val ((os.set k (S % 4294967296)).take (k + 1)) + pw (k + 1) * (S / 4294967296) = 2 ^ s * val (xs.take (k + 1)) := by
  have key : S % 4294967296 + 4294967296 * (S / 4294967296) = rdl xs k * 2 ^ s + c := by omega
  rw [val_set_next hk, val_takes, pw_succ]
  grind
theorem shift_carry {x c p : Int} (hx0 : 0 ≤ x) (hx : x < 4294967296) (hp : 0 < p) (hc0 : 0 ≤ c) (hc : c < p) : 0 ≤ x * p + c ∧ 0 ≤ (x * p + c) / 4294967296 ∧ (x * p + c) / 4294967296 < p := by
  have h0 : 0 ≤ x * p := Int.mul_nonneg hx0 (by omega)
  have h1 : (x + 1) * p ≤ 4294967296 * p := Int.mul_le_mul_of_nonneg_right (by omega) (by omega)
  rw [Int.add_mul, Int.one_mul] at h1
  exact ⟨by omega, by omega, by omega⟩
end Go.Proofs.Ytaaolnepkgcbaaa.Lb
