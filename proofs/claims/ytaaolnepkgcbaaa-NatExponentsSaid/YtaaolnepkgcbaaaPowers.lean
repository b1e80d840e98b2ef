/- The walks of NatPowers and NatExponents. -/
import Derived.Test.YtaaolnepkgcbaaaPow
namespace Go.Proofs.Ytaaolnepkgcbaaa
open Go.RowKit Lb
set_option linter.unusedVariables false

theorem PowPost.or {w w' : World} {K : Int} {n : Nat} {e : Ending} (h : PowPost w K n e w') :
    (K ^ n < lim ∧ Ret2 w (Num (K ^ n) 4096) e w') ∨ (lim ≤ K ^ n ∧ e = .returned (.tuple #[.slice none 0 0, .int .i64 8]) ∧ Below w.heap.size w w') := by
  unfold PowPost at h
  exact h

set_option maxHeartbeats 2000000 in
theorem powers_walk (a : Option Addr) (n c : Nat) (zs : List Int) (N : Int) (w : World) (h : ARow .u32 w a n c zs) (hN : (Lit.int .i64 N).wf = true) :
    Calls Try.prog 8 #[.slice a n c, .int .i64 N] w fun e w' => e = .returned (.bool true) ∧ Below w.heap.size w w' := by
  have hN := bounds_i64 hN
  go_enter Try.func8, Try.ntmps8
  go_wp2_with fail
  refine (long_any 20 _ _ _ _ _ (lens_one w a n c) (by omega)).mono ?_
  rintro e w1 ⟨rfl, rfl⟩
  have b0 := below_alloc w (.cells #[.slice a n c] 23)
  by_cases hl : 20 < n
  · have hlB := longB_one_yes hl
    go_wp2_with fail
    go_ret
    exact ⟨rfl, b0⟩
  have hlB := longB_one_no hl
  have sa := (h.sl (by omega)).alloc (.cells #[.slice a n c] 23)
  generalize zs.take n = xs at *
  clear h
  by_cases hneg : N < 0
  · go_wp2_with fail
    refine (pow_neg _ _ _ _ _ hneg).mono ?_
    rintro e w2 ⟨rfl, rfl⟩
    go_wp2_with fail
    refine (rpow_neg _ _ _ _ _ hneg).mono ?_
    rintro e w2 ⟨rfl, rfl⟩
    go_wp2_with fail
    refine (same_yes (Sl.empty _) (Sl.empty _) rfl).mono ?_
    rintro e w3 ⟨rfl, b3⟩
    go_wp2_with fail
    go_ret
    exact ⟨rfl, chain b0 b3⟩
  obtain ⟨m, rfl⟩ := Int.eq_ofNat_of_zero_le (show 0 ≤ N by omega)
  go_wp2_with fail
  refine (pow_any _ _ _ _ _ _ sa (by omega)).mono ?_
  rintro e w2 hp
  rcases hp.or with ⟨hlt, a3, n3, c3, x3, rfl, g3⟩ | ⟨hge, rfl, b3⟩
  · have HL := Lib.hid hlt
    clear hlt hp
    go_wp2_with fail
    refine (rpow_any _ _ _ _ _ _ (sa.kept g3.bel) (by omega) (by omega)).mono ?_
    rintro e w4 hp
    rcases hp.or with ⟨hlt, a4, n4, c4, x4, rfl, g4⟩ | ⟨hge, rfl, b4⟩
    · clear hlt hp
      go_wp2_with fail
      refine (same_num (g3.sl.kept g4.bel) g4.sl g3.prop g4.prop).mono ?_
      rintro e w5 ⟨rfl, b5⟩
      go_wp2_with fail
      go_ret
      exact ⟨rfl, chain (chain (chain b0 g3.bel) g4.bel) b5⟩
    · exact absurd HL.out (by omega)
  · have HL := Lib.hid hge
    clear hge hp
    go_wp2_with fail
    refine (rpow_any _ _ _ _ _ _ (sa.kept b3) (by omega) (by omega)).mono ?_
    rintro e w4 hp
    rcases hp.or with ⟨hlt, a4, n4, c4, x4, rfl, g4⟩ | ⟨hge, rfl, b4⟩
    · exact absurd HL.out (by omega)
    · clear hge hp
      go_wp2_with fail
      refine (same_yes (Sl.empty _) (Sl.empty _) rfl).mono ?_
      rintro e w5 ⟨rfl, b5⟩
      go_wp2_with fail
      go_ret
      exact ⟨rfl, chain (chain (chain b0 b3) b4) b5⟩

theorem lim_small {x : Int} {r n : Nat} (h0 : 0 ≤ x) (h : x < 2 ^ r) (hm : r * n ≤ 131072) : x ^ n < lim := by
  by_cases hn : n = 0
  · subst hn; rw [Int.pow_zero]; exact one_lt_lim
  · rw [lim_eq]; exact pow_small h0 h hn (by omega)
theorem fits8 {w : World} {a : Option Addr} {n c M : Nat} {xs : List Int} (h : Sl w a n c xs) (hn : n ≤ 8) (hM : M ≤ 510) : val xs ^ M < lim := by
  refine lim_small (r := 256) (val_nonneg h.lm) ?_ (by omega)
  have h1 := val_lt_pw h.lm (m := 8) (by rw [h.len]; exact hn)
  rw [pw_eq] at h1
  exact h1
/-- Pow where the power fits. -/
theorem pow_fits {a : Option Addr} {n c : Nat} {xs : List Int} {N : Int} {w : World} (h : Sl w a n c xs) (M : Nat) (hM : N = M) (hn : n ≤ 8) (hb : M ≤ 510) :
    Calls Try.prog 34 #[.slice a n c, .int .i64 N] w (Ret2 w (Num (val xs ^ M) 4096)) := by
  subst hM
  refine (pow_any _ _ _ _ M _ h (by omega)).mono ?_
  intro e w' hp
  rcases hp.or with ⟨_, h1⟩ | ⟨hge, _⟩
  · exact h1
  · have := fits8 h hn hb
    omega

end Go.Proofs.Ytaaolnepkgcbaaa
