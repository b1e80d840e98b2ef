/- math/bits.Len32, nat.Bits, ref.Bits: the number of binary digits. -/
import Derived.Test.YtaaolnepkgcbaaaDoorOf
import Derived.Lib.BitFns
namespace Go.Proofs.YtaaolnepkgcbaaaDoor
open Go.RowKit Lb
set_option linter.unusedVariables false

/-- r is the number of binary digits of x. -/
def IsBl (x : Int) (r : Nat) : Prop := x < 2 ^ r ∧ (r = 0 ∨ 2 ^ (r - 1) ≤ x)
theorem aux_bl : ∀ (f n : Nat), n < 2 ^ f → n < 2 ^ Lib.bitLenAux f n ∧ (Lib.bitLenAux f n = 0 ∨ 2 ^ (Lib.bitLenAux f n - 1) ≤ n)
  | 0, n, h => by simp [Lib.bitLenAux]; simpa using h
  | f + 1, n, h => by
    unfold Lib.bitLenAux
    by_cases h0 : n = 0
    · subst h0; simp
    · rw [if_neg h0]
      have h2 : n / 2 < 2 ^ f := by rw [Nat.pow_succ] at h; omega
      obtain ⟨i1, i2⟩ := aux_bl f (n / 2) h2
      refine ⟨by rw [Nat.add_comm, Nat.pow_succ]; omega, .inr ?_⟩
      rw [Nat.add_comm 1, Nat.add_sub_cancel]
      rcases i2 with i2 | i2
      · rw [i2]; simp; omega
      · have hp : Lib.bitLenAux f (n / 2) ≠ 0 ∨ Lib.bitLenAux f (n / 2) = 0 := by omega
        rcases hp with hp | hp
        · obtain ⟨m, hm⟩ : ∃ m, Lib.bitLenAux f (n / 2) = m + 1 := ⟨Lib.bitLenAux f (n / 2) - 1, by omega⟩
          rw [hm] at i2 ⊢
          simp only [Nat.add_sub_cancel] at i2
          rw [Nat.pow_succ]; omega
        · rw [hp]; simp; omega
theorem isBl_len (x : Int) (h0 : 0 ≤ x) (h1 : x < 4294967296) : IsBl x (Lib.bitLen x.toNat) := by
  obtain ⟨n, rfl⟩ := Int.eq_ofNat_of_zero_le h0
  have hn : n < 2 ^ 64 := by omega
  obtain ⟨i1, i2⟩ := aux_bl 64 n hn
  refine ⟨by exact_mod_cast i1, ?_⟩
  rcases i2 with i2 | i2
  · exact .inl i2
  · exact .inr (by exact_mod_cast i2)
theorem pow2_mono {m n : Nat} (h : m ≤ n) : (2 : Int) ^ m ≤ 2 ^ n := by
  exact_mod_cast Nat.pow_le_pow_right (by decide) h
theorem pow2_pos (n : Nat) : (0 : Int) < 2 ^ n := Int.pow_pos (by decide)
theorem IsBl.uniq {x : Int} {r s : Nat} (hr : IsBl x r) (hs : IsBl x s) (h0 : 0 ≤ x) : r = s := by
  obtain ⟨r1, r2⟩ := hr
  obtain ⟨s1, s2⟩ := hs
  rcases Nat.lt_trichotomy r s with h | h | h
  · exfalso
    have := pow2_mono (show r ≤ s - 1 by omega)
    rcases s2 with s2 | s2 <;> omega
  · exact h
  · exfalso
    have := pow2_mono (show s ≤ r - 1 by omega)
    rcases r2 with r2 | r2 <;> omega
theorem IsBl.le {x : Int} {r m : Nat} (hr : IsBl x r) (h : x < 2 ^ m) : r ≤ m := by
  apply Nat.le_of_not_lt
  intro h'
  have := pow2_mono (show m ≤ r - 1 by omega)
  rcases hr.2 with r2 | r2 <;> omega
theorem IsBl.lt_of {x : Int} {r m : Nat} (hr : IsBl x r) (h : r ≤ m) : x < 2 ^ m := Int.lt_of_lt_of_le hr.1 (pow2_mono h)

def BlPost (x : Int) (w : World) (e : Ending) (w' : World) : Prop := ∃ r, IsBl x r ∧ e = .returned (.int .i64 r) ∧ w = w'
theorem tab_at (i : Int) (h0 : 0 ≤ i) (h1 : i ≤ 255) : (∀ w, (Instr.index 9 (.string Lib.len8tab) (.int .u8 i)).run Tryd.prog w = .ok (.int .u8 (Lib.len8 i)) w) ∧ 0 ≤ Lib.len8 i ∧ Lib.len8 i ≤ 8 ∧ Hid (Lib.len8 i = Lib.bitLen i.toNat) := by
  have e := Lib.len8_of i h0 h1
  have l := Lib.bitLen_le8' i h0 h1
  exact ⟨fun w => Lib.run_index_len8tab w 9 .u8 i Tryd.underlying9 h0 h1, by omega, by omega, e⟩
/-- The digits of a number's last limb, and those below. -/
theorem pw_two (n : Nat) : pw n = 2 ^ (32 * n) := by
  unfold pw
  rw [Int.pow_mul]; rfl
theorem isBl_top {xs : List Int} {k r : Nat} (hl : Lm xs) (hk : xs.length = k + 1) (h0 : rdl xs k ≠ 0) (h : IsBl (rdl xs k) r) : IsBl (val xs) (32 * k + r) ∧ r ≤ 32 := by
  have hv := val_take_succ (xs := xs) (n := k) (by omega)
  rw [val_take_all (by omega)] at hv
  have b1 := val_nonneg (hl.take k)
  have b2 := val_lt (hl.take k)
  rw [List.length_take, Nat.min_eq_left (by omega)] at b2
  have hd := rdl_bd hl k
  have e : xs.getD k 0 = rdl xs k := rfl
  rw [e] at hv
  obtain ⟨r1, r2⟩ := h
  have hr : r ≠ 0 := by
    intro e0; subst e0; simp at r1; omega
  have r2 : 2 ^ (r - 1) ≤ rdl xs k := by
    rcases r2 with r2 | r2
    · exact absurd r2 hr
    · exact r2
  have hp := pw_pos k
  have hr32 : r ≤ 32 := by
    apply Nat.le_of_not_lt
    intro h'
    have := pow2_mono (show 32 ≤ r - 1 by omega)
    have e32 : (2 : Int) ^ 32 = 4294967296 := by decide
    omega
  refine ⟨⟨?_, .inr ?_⟩, hr32⟩
  · rw [Int.pow_add, ← pw_two]
    have : pw k * (rdl xs k + 1) ≤ pw k * 2 ^ r := Int.mul_le_mul_of_nonneg_left (by omega) (by omega)
    rw [Int.mul_add] at this
    omega
  · rw [show 32 * k + r - 1 = 32 * k + (r - 1) by omega, Int.pow_add, ← pw_two]
    have : pw k * 2 ^ (r - 1) ≤ pw k * rdl xs k := Int.mul_le_mul_of_nonneg_left r2 (by omega)
    omega
theorem cn_top {xs : List Int} {k : Nat} (h : Cn xs) (hk : xs.length = k + 1) : rdl xs k ≠ 0 := by
  unfold rdl Cn at *
  intro e
  apply h
  rw [List.getLast?_eq_getElem?, hk, Nat.add_sub_cancel]
  rw [getD_in (by omega)] at e
  rw [List.getElem?_eq_getElem (by omega), e]
theorem isBl_zero : IsBl 0 0 := ⟨by decide, .inl rfl⟩

end Go.Proofs.YtaaolnepkgcbaaaDoor
