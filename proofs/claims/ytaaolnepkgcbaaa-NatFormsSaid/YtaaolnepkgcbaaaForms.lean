/- The walk of NatForms. -/
import Derived.Test.YtaaolnepkgcbaaaArgs
namespace Go.Proofs.Ytaaolnepkgcbaaa
open Go.RowKit Lb
set_option linter.unusedVariables false

theorem longB_one_yes {m n : Nat} (h : m < n) : longB m [n] = true := by simp [longB, h]
theorem longB_one_no {m n : Nat} (h : ¬ m < n) : longB m [n] = false := by simp [longB]; omega

set_option maxHeartbeats 1000000 in
theorem forms_walk (a : Option Addr) (n c : Nat) (zs : List Int) (u : Int) (w : World) (h : ARow .u32 w a n c zs) (hu : (Lit.int .u64 u).wf = true) :
    Calls Try.prog 3 #[.slice a n c, .int .u64 u] w fun e w' => e = .returned (.bool true) ∧ Below w.heap.size w w' := by
  have hu := bounds_u64 hu
  go_enter Try.func3, Try.ntmps3
  go_wp2_with fail
  refine (long_any 2000 _ _ _ _ _ (lens_one w a n c) (by omega)).mono ?_
  rintro e w1 ⟨rfl, rfl⟩
  by_cases hl : 2000 < n
  · have hlB := longB_one_yes hl
    go_wp2_with fail
    go_ret
    exact ⟨rfl, below_alloc _ _⟩
  · have hlB := longB_one_no hl
    have s0 := (h.sl (by omega)).alloc (.cells #[.slice a n c] 23)
    have b0 := below_alloc w (.cells #[.slice a n c] 23)
    generalize zs.take n = xs at *
    go_wp2_with fail
    refine (int_any _ _ _ _ _ s0).mono ?_
    rintro e w2 ⟨rfl, b1⟩
    have s1 := s0.kept b1
    go_wp2_with fail
    refine (rint_any _ _ _ _ _ s1).mono ?_
    rintro e w3 ⟨rfl, b2⟩
    have s2 := s1.kept b2
    go_wp2_with fail
    refine (trim_any _ _ _ _ _ s2).mono ?_
    rintro e w4 ⟨a4, n4, c4, x4, rfl, g4⟩
    have s4 := s2.kept g4.bel
    go_wp2_with fail
    refine (rtrim_any _ _ _ _ _ s4).mono ?_
    rintro e w5 ⟨a5, n5, c5, x5, rfl, g5⟩
    have s5 := s4.kept g5.bel
    go_wp2_with fail
    refine (same_num (g4.sl.kept g5.bel) g5.sl g4.prop g5.prop).mono ?_
    rintro e w6 ⟨rfl, b6⟩
    have s6 := s5.kept b6
    go_wp2_with fail
    refine (of_any _ _ (by omega) (by omega)).mono ?_
    rintro e w7 ⟨a7, n7, c7, x7, rfl, g7⟩
    have s7 := s6.kept g7.bel
    go_wp2_with fail
    refine (rof_any _ _ (by omega) (by omega)).mono ?_
    rintro e w8 ⟨a8, n8, c8, x8, rfl, g8⟩
    have s8 := s7.kept g8.bel
    go_wp2_with fail
    refine (same_num (g7.sl.kept g8.bel) g8.sl g7.prop g8.prop).mono ?_
    rintro e w9 ⟨rfl, b9⟩
    have s9 := s8.kept b9
    go_wp2_with fail
    refine (bits_any _ _ _ _ _ s9).mono ?_
    rintro e w10 ⟨r, hr, rfl, rfl⟩
    go_wp2_with fail
    refine (rbits_any _ _ _ _ _ s9).mono ?_
    rintro e w11 ⟨r', rfl, ⟨q, rfl, hq⟩, b11⟩
    obtain rfl : r = q := hr.uniq hq (val_nonneg s0.lm)
    go_wp2_with fail
    go_ret
    exact ⟨rfl, chain (chain (chain (chain (chain (chain (chain (chain (chain b0 b1) b2) g4.bel) g5.bel) b6) g7.bel) g8.bel) b9) b11⟩
end Go.Proofs.Ytaaolnepkgcbaaa
