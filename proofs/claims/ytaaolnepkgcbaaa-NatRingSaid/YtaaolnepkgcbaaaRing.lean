/- The walk of NatRing. -/
import Derived.Test.YtaaolnepkgcbaaaAdds
namespace Go.Proofs.Ytaaolnepkgcbaaa
open Go.RowKit Lb
set_option linter.unusedVariables false

set_option maxHeartbeats 4000000 in
set_option maxRecDepth 100000 in
theorem ring_walk (a b f : Option Addr) (n c m d l p : Nat) (z0 z1 z2 : List Int) (w : World) (h : ARow .u32 w a n c z0) (h' : ARow .u32 w b m d z1) (h'' : ARow .u32 w f l p z2) :
    Calls Try.prog 6 #[.slice a n c, .slice b m d, .slice f l p] w fun e w' => e = .returned (.bool true) ∧ Below w.heap.size w w' := by
  go_enter Try.func6, Try.ntmps6
  go_wp2_with fail
  refine (long_any 60 _ _ _ _ _ (lens_three w a b f n c m d l p) (by omega)).mono ?_
  rintro e w1 ⟨rfl, rfl⟩
  have b0 := below_alloc w (.cells #[.slice a n c, .slice b m d, .slice f l p] 23)
  by_cases hl : 60 < n ∨ 60 < m ∨ 60 < l
  · have hlB := longB_three_yes hl
    clear hl
    go_wp2_with fail
    go_ret
    exact ⟨rfl, b0⟩
  have hl1 : n ≤ 60 := by omega
  have hl2 : m ≤ 60 := by omega
  have hl3 : l ≤ 60 := by omega
  have hlB := longB_three_no hl
  clear hl
  have sa := (h.sl (by omega)).alloc (.cells #[.slice a n c, .slice b m d, .slice f l p] 23)
  have sb := (h'.sl (by omega)).alloc (.cells #[.slice a n c, .slice b m d, .slice f l p] 23)
  have sc := (h''.sl (by omega)).alloc (.cells #[.slice a n c, .slice b m d, .slice f l p] 23)
  generalize z0.take n = xs at *
  generalize z1.take m = ys at *
  generalize z2.take l = zs at *
  clear h h' h''
  go_wp2_with fail
  refine (add_two_at ((sl_one_at 3 (by decide) (by simp)).alloc _) (sl_one_at 5 (by decide) (by simp)) 1 (by omega) (by omega) (by omega) (by simp)).mono ?_
  rintro e w1 ⟨a1, n1, c1, x1, rfl, g1⟩
  replace sa := ((sa.alloc _).alloc _).kept g1.bel
  replace sb := ((sb.alloc _).alloc _).kept g1.bel
  replace sc := ((sc.alloc _).alloc _).kept g1.bel
  replace b0 := chain (chain_alloc (chain_alloc b0 _) _) g1.bel
  have s1 := g1.sl
  go_wp2_with fail
  refine (same_val (s1.alloc _) (sl_one_at 8 (by decide) (by simp)) g1.prop.1 (cn_one (by decide)) (by have e := g1.prop.2.1; simp only [val] at e ⊢; omega)).mono ?_
  rintro e w2 ⟨rfl, b2⟩
  replace sa := (sa.alloc _).kept b2
  replace sb := (sb.alloc _).kept b2
  replace sc := (sc.alloc _).kept b2
  replace s1 := (s1.alloc _).kept b2
  replace b0 := chain (chain_alloc b0 _) b2
  go_wp2_with fail
  refine (mul_two_at ((sl_one_at 3 (by decide) (by simp)).alloc _) (sl_one_at 5 (by decide) (by simp)) (by omega) (by simp)).mono ?_
  rintro e w3 ⟨a3, n3, c3, x3, rfl, g3⟩
  replace sa := ((sa.alloc _).alloc _).kept g3.bel
  replace sb := ((sb.alloc _).alloc _).kept g3.bel
  replace sc := ((sc.alloc _).alloc _).kept g3.bel
  replace b0 := chain (chain_alloc (chain_alloc b0 _) _) g3.bel
  have s3 := g3.sl
  go_wp2_with fail
  refine (same_val (s3.alloc _) (sl_one_at 15 (by decide) (by simp)) g3.prop.1 (cn_one (by decide)) (by have e := g3.prop.2.1; simp only [val] at e ⊢; omega)).mono ?_
  rintro e w4 ⟨rfl, b4⟩
  replace sa := (sa.alloc _).kept b4
  replace sb := (sb.alloc _).kept b4
  replace sc := (sc.alloc _).kept b4
  replace s3 := (s3.alloc _).kept b4
  replace b0 := chain (chain_alloc b0 _) b4
  go_wp2_with fail
  refine (add_two sa sb 60 (by skip; omega) (by skip; omega) (by omega)).mono ?_
  rintro e w5 ⟨a5, n5, c5, x5, rfl, g5⟩
  replace sa := sa.kept g5.bel
  replace sb := sb.kept g5.bel
  replace sc := sc.kept g5.bel
  replace b0 := chain b0 g5.bel
  have s5 := g5.sl
  go_wp2_with fail
  refine (add_two sb sa 60 (by skip; omega) (by skip; omega) (by omega)).mono ?_
  rintro e w6 ⟨a6, n6, c6, x6, rfl, g6⟩
  replace sa := sa.kept g6.bel
  replace sb := sb.kept g6.bel
  replace sc := sc.kept g6.bel
  replace s5 := s5.kept g6.bel
  replace b0 := chain b0 g6.bel
  have s6 := g6.sl
  go_wp2_with fail
  refine (same_val s5 s6 g5.prop.1 g6.prop.1 (by have e5 := g5.prop.2.1; have e6 := g6.prop.2.1; grind)).mono ?_
  rintro e w7 ⟨rfl, b7⟩
  replace sa := sa.kept b7
  replace sb := sb.kept b7
  replace sc := sc.kept b7
  replace s5 := s5.kept b7
  replace s6 := s6.kept b7
  replace b0 := chain b0 b7
  go_wp2_with fail
  refine (mul_two sa sb (by skip; skip; omega)).mono ?_
  rintro e w8 ⟨a8, n8, c8, x8, rfl, g8⟩
  replace sa := sa.kept g8.bel
  replace sb := sb.kept g8.bel
  replace sc := sc.kept g8.bel
  replace b0 := chain b0 g8.bel
  have s8 := g8.sl
  go_wp2_with fail
  refine (mul_two sb sa (by skip; skip; omega)).mono ?_
  rintro e w9 ⟨a9, n9, c9, x9, rfl, g9⟩
  replace sa := sa.kept g9.bel
  replace sb := sb.kept g9.bel
  replace sc := sc.kept g9.bel
  replace s8 := s8.kept g9.bel
  replace b0 := chain b0 g9.bel
  have s9 := g9.sl
  go_wp2_with fail
  refine (same_val s8 s9 g8.prop.1 g9.prop.1 (by have e8 := g8.prop.2.1; have e9 := g9.prop.2.1; grind)).mono ?_
  rintro e w10 ⟨rfl, b10⟩
  replace sa := sa.kept b10
  replace sb := sb.kept b10
  replace sc := sc.kept b10
  replace s8 := s8.kept b10
  replace s9 := s9.kept b10
  replace b0 := chain b0 b10
  go_wp2_with fail
  refine (add_two sa sb 60 (by skip; omega) (by skip; omega) (by omega)).mono ?_
  rintro e w11 ⟨a11, n11, c11, x11, rfl, g11⟩
  replace sa := sa.kept g11.bel
  replace sb := sb.kept g11.bel
  replace sc := sc.kept g11.bel
  replace b0 := chain b0 g11.bel
  have s11 := g11.sl
  go_wp2_with fail
  refine (add_two s11 sc 61 (by have := g11.prop.2.2; have := g11.sl.len; omega) (by skip; omega) (by omega)).mono ?_
  rintro e w12 ⟨a12, n12, c12, x12, rfl, g12⟩
  replace sa := sa.kept g12.bel
  replace sb := sb.kept g12.bel
  replace sc := sc.kept g12.bel
  replace s11 := s11.kept g12.bel
  replace b0 := chain b0 g12.bel
  have s12 := g12.sl
  go_wp2_with fail
  refine (add_two sb sc 60 (by skip; omega) (by skip; omega) (by omega)).mono ?_
  rintro e w13 ⟨a13, n13, c13, x13, rfl, g13⟩
  replace sa := sa.kept g13.bel
  replace sb := sb.kept g13.bel
  replace sc := sc.kept g13.bel
  replace s11 := s11.kept g13.bel
  replace s12 := s12.kept g13.bel
  replace b0 := chain b0 g13.bel
  have s13 := g13.sl
  go_wp2_with fail
  refine (add_two sa s13 61 (by skip; omega) (by have := g13.prop.2.2; have := g13.sl.len; omega) (by omega)).mono ?_
  rintro e w14 ⟨a14, n14, c14, x14, rfl, g14⟩
  replace sa := sa.kept g14.bel
  replace sb := sb.kept g14.bel
  replace sc := sc.kept g14.bel
  replace s11 := s11.kept g14.bel
  replace s12 := s12.kept g14.bel
  replace s13 := s13.kept g14.bel
  replace b0 := chain b0 g14.bel
  have s14 := g14.sl
  go_wp2_with fail
  refine (same_val s12 s14 g12.prop.1 g14.prop.1 (by have e12 := g12.prop.2.1; have e14 := g14.prop.2.1; have e11 := g11.prop.2.1; have e13 := g13.prop.2.1; grind)).mono ?_
  rintro e w15 ⟨rfl, b15⟩
  replace sa := sa.kept b15
  replace sb := sb.kept b15
  replace sc := sc.kept b15
  replace s11 := s11.kept b15
  replace s12 := s12.kept b15
  replace s13 := s13.kept b15
  replace s14 := s14.kept b15
  replace b0 := chain b0 b15
  go_wp2_with fail
  refine (mul_two sa sb (by skip; skip; omega)).mono ?_
  rintro e w16 ⟨a16, n16, c16, x16, rfl, g16⟩
  replace sa := sa.kept g16.bel
  replace sb := sb.kept g16.bel
  replace sc := sc.kept g16.bel
  replace b0 := chain b0 g16.bel
  have s16 := g16.sl
  go_wp2_with fail
  refine (mul_two s16 sc (by have := g16.prop.2.2; have := g16.sl.len; skip; omega)).mono ?_
  rintro e w17 ⟨a17, n17, c17, x17, rfl, g17⟩
  replace sa := sa.kept g17.bel
  replace sb := sb.kept g17.bel
  replace sc := sc.kept g17.bel
  replace s16 := s16.kept g17.bel
  replace b0 := chain b0 g17.bel
  have s17 := g17.sl
  go_wp2_with fail
  refine (mul_two sb sc (by skip; skip; omega)).mono ?_
  rintro e w18 ⟨a18, n18, c18, x18, rfl, g18⟩
  replace sa := sa.kept g18.bel
  replace sb := sb.kept g18.bel
  replace sc := sc.kept g18.bel
  replace s16 := s16.kept g18.bel
  replace s17 := s17.kept g18.bel
  replace b0 := chain b0 g18.bel
  have s18 := g18.sl
  go_wp2_with fail
  refine (mul_two sa s18 (by skip; have := g18.prop.2.2; have := g18.sl.len; omega)).mono ?_
  rintro e w19 ⟨a19, n19, c19, x19, rfl, g19⟩
  replace sa := sa.kept g19.bel
  replace sb := sb.kept g19.bel
  replace sc := sc.kept g19.bel
  replace s16 := s16.kept g19.bel
  replace s17 := s17.kept g19.bel
  replace s18 := s18.kept g19.bel
  replace b0 := chain b0 g19.bel
  have s19 := g19.sl
  go_wp2_with fail
  refine (same_val s17 s19 g17.prop.1 g19.prop.1 (by have e17 := g17.prop.2.1; have e19 := g19.prop.2.1; have e16 := g16.prop.2.1; have e18 := g18.prop.2.1; grind)).mono ?_
  rintro e w20 ⟨rfl, b20⟩
  replace sa := sa.kept b20
  replace sb := sb.kept b20
  replace sc := sc.kept b20
  replace s16 := s16.kept b20
  replace s17 := s17.kept b20
  replace s18 := s18.kept b20
  replace s19 := s19.kept b20
  replace b0 := chain b0 b20
  go_wp2_with fail
  refine (add_two sb sc 60 (by skip; omega) (by skip; omega) (by omega)).mono ?_
  rintro e w21 ⟨a21, n21, c21, x21, rfl, g21⟩
  replace sa := sa.kept g21.bel
  replace sb := sb.kept g21.bel
  replace sc := sc.kept g21.bel
  replace b0 := chain b0 g21.bel
  have s21 := g21.sl
  go_wp2_with fail
  refine (mul_two sa s21 (by skip; have := g21.prop.2.2; have := g21.sl.len; omega)).mono ?_
  rintro e w22 ⟨a22, n22, c22, x22, rfl, g22⟩
  replace sa := sa.kept g22.bel
  replace sb := sb.kept g22.bel
  replace sc := sc.kept g22.bel
  replace s21 := s21.kept g22.bel
  replace b0 := chain b0 g22.bel
  have s22 := g22.sl
  go_wp2_with fail
  refine (mul_two sa sb (by skip; skip; omega)).mono ?_
  rintro e w23 ⟨a23, n23, c23, x23, rfl, g23⟩
  replace sa := sa.kept g23.bel
  replace sb := sb.kept g23.bel
  replace sc := sc.kept g23.bel
  replace s21 := s21.kept g23.bel
  replace s22 := s22.kept g23.bel
  replace b0 := chain b0 g23.bel
  have s23 := g23.sl
  go_wp2_with fail
  refine (mul_two sa sc (by skip; skip; omega)).mono ?_
  rintro e w24 ⟨a24, n24, c24, x24, rfl, g24⟩
  replace sa := sa.kept g24.bel
  replace sb := sb.kept g24.bel
  replace sc := sc.kept g24.bel
  replace s21 := s21.kept g24.bel
  replace s22 := s22.kept g24.bel
  replace s23 := s23.kept g24.bel
  replace b0 := chain b0 g24.bel
  have s24 := g24.sl
  go_wp2_with fail
  refine (add_two s23 s24 120 (by have := g23.prop.2.2; have := g23.sl.len; omega) (by have := g24.prop.2.2; have := g24.sl.len; omega) (by omega)).mono ?_
  rintro e w25 ⟨a25, n25, c25, x25, rfl, g25⟩
  replace sa := sa.kept g25.bel
  replace sb := sb.kept g25.bel
  replace sc := sc.kept g25.bel
  replace s21 := s21.kept g25.bel
  replace s22 := s22.kept g25.bel
  replace s23 := s23.kept g25.bel
  replace s24 := s24.kept g25.bel
  replace b0 := chain b0 g25.bel
  have s25 := g25.sl
  go_wp2_with fail
  refine (same_val s22 s25 g22.prop.1 g25.prop.1 (by have e22 := g22.prop.2.1; have e25 := g25.prop.2.1; have e21 := g21.prop.2.1; have e23 := g23.prop.2.1; have e24 := g24.prop.2.1; grind)).mono ?_
  rintro e w26 ⟨rfl, b26⟩
  replace sa := sa.kept b26
  replace sb := sb.kept b26
  replace sc := sc.kept b26
  replace s21 := s21.kept b26
  replace s22 := s22.kept b26
  replace s23 := s23.kept b26
  replace s24 := s24.kept b26
  replace s25 := s25.kept b26
  replace b0 := chain b0 b26
  go_wp2_with fail
  refine (add_two sa (Sl.empty _) 60 (by omega) (by omega) (by omega)).mono ?_
  rintro e w27 ⟨a27, n27, c27, x27, rfl, g27⟩
  replace sa := sa.kept g27.bel
  replace sb := sb.kept g27.bel
  replace sc := sc.kept g27.bel
  replace b0 := chain b0 g27.bel
  have s27 := g27.sl
  go_wp2_with fail
  refine (trim_any _ _ _ _ _ sa).mono ?_
  rintro e w28 ⟨a28, n28, c28, x28, rfl, g28⟩
  replace sa := sa.kept g28.bel
  replace sb := sb.kept g28.bel
  replace sc := sc.kept g28.bel
  replace s27 := s27.kept g28.bel
  replace b0 := chain b0 g28.bel
  have s28 := g28.sl
  go_wp2_with fail
  refine (same_val s27 s28 g27.prop.1 g28.prop.1 (by have e1 := g27.prop.2.1; have e2 := g28.prop.2.1; simp only [val] at e1; omega)).mono ?_
  rintro e w29 ⟨rfl, b29⟩
  replace sa := sa.kept b29
  replace sb := sb.kept b29
  replace sc := sc.kept b29
  replace s27 := s27.kept b29
  replace s28 := s28.kept b29
  replace b0 := chain b0 b29
  go_wp2_with fail
  refine (mul_two_at (sa.alloc _) (sl_one_at 1 (by decide) (by simp)) (by omega) (by simp)).mono ?_
  rintro e w30 ⟨a30, n30, c30, x30, rfl, g30⟩
  replace sa := (sa.alloc _).kept g30.bel
  replace sb := (sb.alloc _).kept g30.bel
  replace sc := (sc.alloc _).kept g30.bel
  replace b0 := chain (chain_alloc b0 _) g30.bel
  have s30 := g30.sl
  go_wp2_with fail
  refine (trim_any _ _ _ _ _ sa).mono ?_
  rintro e w31 ⟨a31, n31, c31, x31, rfl, g31⟩
  replace sa := sa.kept g31.bel
  replace sb := sb.kept g31.bel
  replace sc := sc.kept g31.bel
  replace s30 := s30.kept g31.bel
  replace b0 := chain b0 g31.bel
  have s31 := g31.sl
  go_wp2_with fail
  refine (same_val s30 s31 g30.prop.1 g31.prop.1 (by have e1 := g30.prop.2.1; have e2 := g31.prop.2.1; simp only [val_one, Int.mul_one] at e1; omega)).mono ?_
  rintro e w32 ⟨rfl, b32⟩
  replace sa := sa.kept b32
  replace sb := sb.kept b32
  replace sc := sc.kept b32
  replace s30 := s30.kept b32
  replace s31 := s31.kept b32
  replace b0 := chain b0 b32
  go_wp2_with fail
  go_ret
  exact ⟨rfl, b0⟩

end Go.Proofs.Ytaaolnepkgcbaaa
