/- The walk of NatAdds. -/
import Derived.Test.YtaaolnepkgcbaaaSub
import Derived.Test.YtaaolnepkgcbaaaTimes
namespace Go.Proofs.Ytaaolnepkgcbaaa
open Go.RowKit Lb
set_option linter.unusedVariables false

set_option maxHeartbeats 2000000 in
theorem adds_walk (a b : Option Addr) (n c m d : Nat) (zs zs' : List Int) (w : World) (h : ARow .u32 w a n c zs) (h' : ARow .u32 w b m d zs') :
    Calls Try.prog 12 #[.slice a n c, .slice b m d] w fun e w' => e = .returned (.bool true) ∧ Below w.heap.size w w' := by
  go_enter Try.func12, Try.ntmps12
  go_wp2_with fail
  refine (long_any 200 _ _ _ _ _ (lens_two w a b n c m d) (by omega)).mono ?_
  rintro e w1 ⟨rfl, rfl⟩
  have b0 := below_alloc w (.cells #[.slice a n c, .slice b m d] 23)
  by_cases hl : 200 < n ∨ 200 < m
  · have hlB := longB_two_yes hl
    clear hl
    go_wp2_with fail
    go_ret
    exact ⟨rfl, b0⟩
  have hl1 : n ≤ 200 := by omega
  have hl2 : m ≤ 200 := by omega
  have hlB := longB_two_no hl
  clear hl
  have sa := (h.sl (by omega)).alloc (.cells #[.slice a n c, .slice b m d] 23)
  have sb := (h'.sl (by omega)).alloc (.cells #[.slice a n c, .slice b m d] 23)
  generalize zs.take n = xs at *
  generalize zs'.take m = ys at *
  go_wp2_with fail
  refine (rcmp_any _ _ _ _ _ _ _ _ _ sa sb).mono ?_
  rintro e w2 ⟨rfl, rfl⟩
  by_cases hlt : val xs < val ys
  · have hcm : cmpv (val xs) (val ys) < 0 := by rw [cmpv_lt hlt]; decide
    have HLT := Lib.hid hlt
    clear hlt
    go_wp2_with fail
    refine (sub_lt _ _ _ _ _ _ _ _ _ sa sb HLT.out).mono ?_
    rintro e w1 ⟨rfl, b1⟩
    replace sa := sa.kept b1
    replace sb := sb.kept b1
    replace b0 := chain b0 b1
    go_wp2_with fail
    refine (cmp_any _ _ _ _ _ _ _ _ _ sa sb).mono ?_
    rintro e w2 ⟨rfl, b2⟩
    replace sa := sa.kept b2
    replace sb := sb.kept b2
    replace b0 := chain b0 b2
    go_wp2_with fail
    refine (add_two sa sb 200 (by omega) (by omega) (by omega)).mono ?_
    rintro e w3 ⟨a3, n3, c3, x3, rfl, g3⟩
    replace sa := sa.kept g3.bel
    replace sb := sb.kept g3.bel
    replace b0 := chain b0 g3.bel
    have s3 := g3.sl
    go_wp2_with fail
    refine (radd_any _ _ _ _ _ _ _ _ _ sa sb 200 (by omega) (by omega) (by omega)).mono ?_
    rintro e w4 ⟨a4, n4, c4, x4, rfl, g4⟩
    replace sa := sa.kept g4.bel
    replace sb := sb.kept g4.bel
    replace s3 := s3.kept g4.bel
    replace b0 := chain b0 g4.bel
    have s4 := g4.sl
    go_wp2_with fail
    refine (same_val s3 s4 g3.prop.1 g4.prop.1 (by have e3 := g3.prop.2.1; have e4 := g4.prop.2.1; grind)).mono ?_
    rintro e w5 ⟨rfl, b5⟩
    replace sa := sa.kept b5
    replace sb := sb.kept b5
    replace s3 := s3.kept b5
    replace s4 := s4.kept b5
    replace b0 := chain b0 b5
    go_wp2_with fail
    refine (mul_two sa sb (by omega)).mono ?_
    rintro e w6 ⟨a6, n6, c6, x6, rfl, g6⟩
    replace sa := sa.kept g6.bel
    replace sb := sb.kept g6.bel
    replace b0 := chain b0 g6.bel
    have s6 := g6.sl
    go_wp2_with fail
    refine (rmul_any _ _ _ _ _ _ _ _ _ sa sb (by omega)).mono ?_
    rintro e w7 ⟨a7, n7, c7, x7, rfl, g7⟩
    replace sa := sa.kept g7.bel
    replace sb := sb.kept g7.bel
    replace s6 := s6.kept g7.bel
    replace b0 := chain b0 g7.bel
    have s7 := g7.sl
    go_wp2_with fail
    refine (same_val s6 s7 g6.prop.1 g7.prop.1 (by have e6 := g6.prop.2.1; have e7 := g7.prop.2.1; grind)).mono ?_
    rintro e w8 ⟨rfl, b8⟩
    replace sa := sa.kept b8
    replace sb := sb.kept b8
    replace s6 := s6.kept b8
    replace s7 := s7.kept b8
    replace b0 := chain b0 b8
    go_wp2_with fail
    go_ret
    exact ⟨rfl, b0⟩
  · have hcm : 0 ≤ cmpv (val xs) (val ys) := by have := @cmpv_neg (val xs) (val ys); omega
    have HGE : Hid (val ys ≤ val xs) := by unfold Hid; omega
    clear hlt
    go_wp2_with fail
    refine (sub_ge _ _ _ _ _ _ _ _ _ sa sb HGE.out).mono ?_
    rintro e w1 ⟨a1, n1, c1, x1, rfl, g1⟩
    replace sa := sa.kept g1.bel
    replace sb := sb.kept g1.bel
    replace b0 := chain b0 g1.bel
    have s1 := g1.sl
    go_wp2_with fail
    refine (rsub_any _ _ _ _ _ _ _ _ _ sa sb HGE.out).mono ?_
    rintro e w2 ⟨a2, n2, c2, x2, rfl, g2⟩
    replace sa := sa.kept g2.bel
    replace sb := sb.kept g2.bel
    replace s1 := s1.kept g2.bel
    replace b0 := chain b0 g2.bel
    have s2 := g2.sl
    go_wp2_with fail
    refine (same_val s1 s2 g1.prop.1 g2.prop.1 (by have e1 := g1.prop.2.1; have e2 := g2.prop.2.1; grind)).mono ?_
    rintro e w3 ⟨rfl, b3⟩
    replace sa := sa.kept b3
    replace sb := sb.kept b3
    replace s1 := s1.kept b3
    replace s2 := s2.kept b3
    replace b0 := chain b0 b3
    go_wp2_with fail
    refine (cmp_any _ _ _ _ _ _ _ _ _ sa sb).mono ?_
    rintro e w4 ⟨rfl, b4⟩
    replace sa := sa.kept b4
    replace sb := sb.kept b4
    replace b0 := chain b0 b4
    go_wp2_with fail
    refine (add_two sa sb 200 (by omega) (by omega) (by omega)).mono ?_
    rintro e w5 ⟨a5, n5, c5, x5, rfl, g5⟩
    replace sa := sa.kept g5.bel
    replace sb := sb.kept g5.bel
    replace b0 := chain b0 g5.bel
    have s5 := g5.sl
    go_wp2_with fail
    refine (radd_any _ _ _ _ _ _ _ _ _ sa sb 200 (by omega) (by omega) (by omega)).mono ?_
    rintro e w6 ⟨a6, n6, c6, x6, rfl, g6⟩
    replace sa := sa.kept g6.bel
    replace sb := sb.kept g6.bel
    replace s5 := s5.kept g6.bel
    replace b0 := chain b0 g6.bel
    have s6 := g6.sl
    go_wp2_with fail
    refine (same_val s5 s6 g5.prop.1 g6.prop.1 (by have e5 := g5.prop.2.1; have e6 := g6.prop.2.1; grind)).mono ?_
    rintro e w7 ⟨rfl, b7⟩
    replace sa := sa.kept b7
    replace sb := sb.kept b7
    replace s5 := s5.kept b7
    replace s6 := s6.kept b7
    replace b0 := chain b0 b7
    go_wp2_with fail
    refine (mul_two sa sb (by omega)).mono ?_
    rintro e w8 ⟨a8, n8, c8, x8, rfl, g8⟩
    replace sa := sa.kept g8.bel
    replace sb := sb.kept g8.bel
    replace b0 := chain b0 g8.bel
    have s8 := g8.sl
    go_wp2_with fail
    refine (rmul_any _ _ _ _ _ _ _ _ _ sa sb (by omega)).mono ?_
    rintro e w9 ⟨a9, n9, c9, x9, rfl, g9⟩
    replace sa := sa.kept g9.bel
    replace sb := sb.kept g9.bel
    replace s8 := s8.kept g9.bel
    replace b0 := chain b0 g9.bel
    have s9 := g9.sl
    go_wp2_with fail
    refine (same_val s8 s9 g8.prop.1 g9.prop.1 (by have e8 := g8.prop.2.1; have e9 := g9.prop.2.1; grind)).mono ?_
    rintro e w10 ⟨rfl, b10⟩
    replace sa := sa.kept b10
    replace sb := sb.kept b10
    replace s8 := s8.kept b10
    replace s9 := s9.kept b10
    replace b0 := chain b0 b10
    go_wp2_with fail
    go_ret
    exact ⟨rfl, b0⟩

end Go.Proofs.Ytaaolnepkgcbaaa
