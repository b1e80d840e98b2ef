/- The walk of NatGcds. -/
import Derived.Test.YtaaolnepkgcbaaaRGcd
import Derived.Test.YtaaolnepkgcbaaaAdds
namespace Go.Proofs.Ytaaolnepkgcbaaa
open Go.RowKit Lb
set_option linter.unusedVariables false

theorem gcdv_mul {x y z : Int} (hx : 0 ≤ x) (hy : 0 ≤ y) (hz : 0 ≤ z) : gcdv (x * z) (y * z) = gcdv x y * z := by
  obtain ⟨a, rfl⟩ := Int.eq_ofNat_of_zero_le hx
  obtain ⟨b, rfl⟩ := Int.eq_ofNat_of_zero_le hy
  obtain ⟨c, rfl⟩ := Int.eq_ofNat_of_zero_le hz
  unfold gcdv
  have e1 : ((a : Int) * c).toNat = a * c := by rw [← Int.natCast_mul, Int.toNat_natCast]
  have e2 : ((b : Int) * c).toNat = b * c := by rw [← Int.natCast_mul, Int.toNat_natCast]
  rw [e1, e2, Nat.gcd_mul_right, Int.natCast_mul, Int.toNat_natCast, Int.toNat_natCast]

set_option maxHeartbeats 4000000 in
set_option maxRecDepth 100000 in
theorem gcds_walk (a b f : Option Addr) (n c m d l p : Nat) (z0 z1 z2 : List Int) (w : World) (h : ARow .u32 w a n c z0) (h' : ARow .u32 w b m d z1) (h'' : ARow .u32 w f l p z2) :
    Calls Try.prog 14 #[.slice a n c, .slice b m d, .slice f l p] w fun e w' => e = .returned (.bool true) ∧ Below w.heap.size w w' := by
  go_enter Try.func14, Try.ntmps14
  go_wp2_with fail
  refine (long_any 12 _ _ _ _ _ (lens_three w a b f n c m d l p) (by omega)).mono ?_
  rintro e w1 ⟨rfl, rfl⟩
  have b0 := below_alloc w (.cells #[.slice a n c, .slice b m d, .slice f l p] 23)
  by_cases hl : 12 < n ∨ 12 < m ∨ 12 < l
  · have hlB := longB_three_yes hl
    clear hl
    go_wp2_with fail
    go_ret
    exact ⟨rfl, b0⟩
  have hl1 : n ≤ 12 := by omega
  have hl2 : m ≤ 12 := by omega
  have hl3 : l ≤ 12 := by omega
  have hlB := longB_three_no hl
  clear hl
  have sa := (h.sl (by omega)).alloc (.cells #[.slice a n c, .slice b m d, .slice f l p] 23)
  have sb := (h'.sl (by omega)).alloc (.cells #[.slice a n c, .slice b m d, .slice f l p] 23)
  have sc := (h''.sl (by omega)).alloc (.cells #[.slice a n c, .slice b m d, .slice f l p] 23)
  generalize z0.take n = xs at *
  generalize z1.take m = ys at *
  generalize z2.take l = zs at *
  clear h h' h''
  go_wp2_with fail
  refine (gcd_any _ _ _ _ _ _ _ _ _ sa sb 12 (by omega) (by omega) (by omega)).mono ?_
  rintro e w1 ⟨a1, n1, c1, x1, rfl, g1⟩
  replace sa := sa.kept g1.bel
  replace sb := sb.kept g1.bel
  replace sc := sc.kept g1.bel
  replace b0 := chain b0 g1.bel
  have s1 := g1.sl
  go_wp2_with fail
  refine (rgcd_any _ _ _ _ _ _ _ _ _ sa sb 12 (by omega) (by omega) (by omega)).mono ?_
  rintro e w2 ⟨a2, n2, c2, x2, rfl, g2⟩
  replace sa := sa.kept g2.bel
  replace sb := sb.kept g2.bel
  replace sc := sc.kept g2.bel
  replace s1 := s1.kept g2.bel
  replace b0 := chain b0 g2.bel
  have s2 := g2.sl
  go_wp2_with fail
  refine (same_val s1 s2 g1.prop.1 g2.prop.1 (by have e1 := g1.prop.2.1; have e2 := g2.prop.2.1; grind)).mono ?_
  rintro e w3 ⟨rfl, b3⟩
  replace sa := sa.kept b3
  replace sb := sb.kept b3
  replace sc := sc.kept b3
  replace s1 := s1.kept b3
  replace s2 := s2.kept b3
  replace b0 := chain b0 b3
  go_wp2_with fail
  refine (mul_two sa sc (by omega)).mono ?_
  rintro e w4 ⟨a4, n4, c4, x4, rfl, g4⟩
  replace sa := sa.kept g4.bel
  replace sb := sb.kept g4.bel
  replace sc := sc.kept g4.bel
  replace b0 := chain b0 g4.bel
  have s4 := g4.sl
  go_wp2_with fail
  refine (mul_two sb sc (by omega)).mono ?_
  rintro e w5 ⟨a5, n5, c5, x5, rfl, g5⟩
  replace sa := sa.kept g5.bel
  replace sb := sb.kept g5.bel
  replace sc := sc.kept g5.bel
  replace s4 := s4.kept g5.bel
  replace b0 := chain b0 g5.bel
  have s5 := g5.sl
  have lc : n4 ≤ 24 := (by have := g4.prop.2.2; have := g4.sl.len; omega)
  have ld : n5 ≤ 24 := (by have := g5.prop.2.2; have := g5.sl.len; omega)
  go_wp2_with fail
  refine (gcd_any _ _ _ _ _ _ _ _ _ s4 s5 24 lc ld (by omega)).mono ?_
  rintro e w6 ⟨a6, n6, c6, x6, rfl, g6⟩
  replace sa := sa.kept g6.bel
  replace sb := sb.kept g6.bel
  replace sc := sc.kept g6.bel
  replace s4 := s4.kept g6.bel
  replace s5 := s5.kept g6.bel
  replace b0 := chain b0 g6.bel
  have s6 := g6.sl
  go_wp2_with fail
  refine (rgcd_any _ _ _ _ _ _ _ _ _ sa sb 12 (by omega) (by omega) (by omega)).mono ?_
  rintro e w7 ⟨a7, n7, c7, x7, rfl, g7⟩
  replace sa := sa.kept g7.bel
  replace sb := sb.kept g7.bel
  replace sc := sc.kept g7.bel
  replace s6 := s6.kept g7.bel
  replace b0 := chain b0 g7.bel
  have s7 := g7.sl
  have lf : n7 ≤ 12 := (by have := g7.prop.2.2; have := g7.sl.len; omega)
  go_wp2_with fail
  refine (rmul_any _ _ _ _ _ _ _ _ _ s7 sc (by omega)).mono ?_
  rintro e w8 ⟨a8, n8, c8, x8, rfl, g8⟩
  replace sa := sa.kept g8.bel
  replace sb := sb.kept g8.bel
  replace sc := sc.kept g8.bel
  replace s6 := s6.kept g8.bel
  replace s7 := s7.kept g8.bel
  replace b0 := chain b0 g8.bel
  have s8 := g8.sl
  have HG := Lib.hid (show val x6 = val x8 by rw [g6.prop.2.1, g8.prop.2.1, g7.prop.2.1, g4.prop.2.1, g5.prop.2.1]; exact gcdv_mul (val_nonneg sa.lm) (val_nonneg sb.lm) (val_nonneg sc.lm))
  go_wp2_with fail
  refine (same_val s6 s8 g6.prop.1 g8.prop.1 HG.out).mono ?_
  rintro e w9 ⟨rfl, b9⟩
  replace sa := sa.kept b9
  replace sb := sb.kept b9
  replace sc := sc.kept b9
  replace s6 := s6.kept b9
  replace s7 := s7.kept b9
  replace s8 := s8.kept b9
  replace b0 := chain b0 b9
  go_wp2_with fail
  go_ret
  exact ⟨rfl, b0⟩

end Go.Proofs.Ytaaolnepkgcbaaa
