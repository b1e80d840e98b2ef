/- The walk of NatDivisions. -/
import Derived.Test.YtaaolnepkgcbaaaDiv
import Derived.Test.YtaaolnepkgcbaaaAdds
namespace Go.Proofs.Ytaaolnepkgcbaaa
open Go.RowKit Lb
set_option linter.unusedVariables false

set_option maxHeartbeats 4000000 in
set_option maxRecDepth 100000 in
theorem divisions_walk (a b f : Option Addr) (n c m d l p : Nat) (z0 z1 z2 : List Int) (w : World) (h : ARow .u32 w a n c z0) (h' : ARow .u32 w b m d z1) (h'' : ARow .u32 w f l p z2) :
    Calls Try.prog 15 #[.slice a n c, .slice b m d, .slice f l p] w fun e w' => e = .returned (.bool true) ∧ Below w.heap.size w w' := by
  go_enter Try.func15, Try.ntmps15
  go_wp2_with fail
  refine (long_any 20 _ _ _ _ _ (lens_three w a b f n c m d l p) (by omega)).mono ?_
  rintro e w1 ⟨rfl, rfl⟩
  have b0 := below_alloc w (.cells #[.slice a n c, .slice b m d, .slice f l p] 23)
  by_cases hl : 20 < n ∨ 20 < m ∨ 20 < l
  · have hlB := longB_three_yes hl
    clear hl
    go_wp2_with fail
    go_ret
    exact ⟨rfl, b0⟩
  have hl1 : n ≤ 20 := by omega
  have hl2 : m ≤ 20 := by omega
  have hl3 : l ≤ 20 := by omega
  have hlB := longB_three_no hl
  clear hl
  have sa := (h.sl (by omega)).alloc (.cells #[.slice a n c, .slice b m d, .slice f l p] 23)
  have sb := (h'.sl (by omega)).alloc (.cells #[.slice a n c, .slice b m d, .slice f l p] 23)
  have sc := (h''.sl (by omega)).alloc (.cells #[.slice a n c, .slice b m d, .slice f l p] 23)
  generalize z0.take n = xs at *
  generalize z1.take m = ys at *
  generalize z2.take l = zs at *
  clear h h' h''
  go_wp2_with fail
  refine (cmp_any _ _ _ _ _ _ _ _ _ sc sa).mono ?_
  rintro e w2 ⟨rfl, b2⟩
  by_cases hlt : val zs < val xs
  · have hcm : cmpv (val zs) (val xs) < 0 := by rw [cmpv_lt hlt]; decide
    have HLT := Lib.hid hlt
    have HPOS := Lib.hid (show 0 < val xs by have := val_nonneg sc.lm; omega)
    clear hlt
    replace sa := sa.kept b2
    replace sb := sb.kept b2
    replace sc := sc.kept b2
    replace b0 := chain b0 b2
    go_wp2_with fail
    refine (mul_two sb sa (by omega)).mono ?_
    rintro e w1 ⟨a1, n1, c1, x1, rfl, g1⟩
    replace sa := sa.kept g1.bel
    replace sb := sb.kept g1.bel
    replace sc := sc.kept g1.bel
    replace b0 := chain b0 g1.bel
    have s1 := g1.sl
    have l1 : n1 ≤ 40 := by have := g1.prop.2.2; have := g1.sl.len; omega
    go_wp2_with fail
    refine (add_two s1 sc 40 l1 (by omega) (by omega)).mono ?_
    rintro e w2 ⟨a2, n2, c2, x2, rfl, g2⟩
    replace sa := sa.kept g2.bel
    replace sb := sb.kept g2.bel
    replace sc := sc.kept g2.bel
    replace s1 := s1.kept g2.bel
    replace b0 := chain b0 g2.bel
    have s2 := g2.sl
    have l2 : n2 ≤ 41 := by have := g2.prop.2.2; have := g2.sl.len; omega
    have HD := Lib.hid (div_end (x := val x2) (q := val ys) (r := val zs) (b := val xs) (by rw [g2.prop.2.1, g1.prop.2.1, Int.mul_comm]) (val_nonneg sc.lm) HLT.out)
    go_wp2_with fail
    refine (divmod_any _ _ _ _ _ _ _ _ _ s2 sa HPOS.out (by omega) (by omega)).mono ?_
    rintro e w3 ⟨a3, n3, c3, x3, d3, m3, f3, y3, rfl, q3, r3, b3, hq3, hr3⟩
    have HQ3 := Lib.hid hq3
    have HR3 := Lib.hid hr3
    clear hq3 hr3
    replace sa := sa.kept b3
    replace sb := sb.kept b3
    replace sc := sc.kept b3
    replace s2 := s2.kept b3
    replace b0 := chain b0 b3
    go_wp2_with fail
    refine (trim_any _ _ _ _ _ sb).mono ?_
    rintro e w4 ⟨a4, n4, c4, x4, rfl, g4⟩
    replace sa := sa.kept g4.bel
    replace sb := sb.kept g4.bel
    replace sc := sc.kept g4.bel
    replace q3 := q3.kept g4.bel
    replace r3 := r3.kept g4.bel
    replace b0 := chain b0 g4.bel
    have s4 := g4.sl
    go_wp2_with fail
    refine (same_val q3 s4 HQ3.out.1 g4.prop.1 (by rw [HQ3.out.2.1, g4.prop.2.1, ← HD.out.1])).mono ?_
    rintro e w5 ⟨rfl, b5⟩
    replace sa := sa.kept b5
    replace sb := sb.kept b5
    replace sc := sc.kept b5
    replace q3 := q3.kept b5
    replace r3 := r3.kept b5
    replace s4 := s4.kept b5
    replace b0 := chain b0 b5
    go_wp2_with fail
    refine (trim_any _ _ _ _ _ sc).mono ?_
    rintro e w6 ⟨a6, n6, c6, x6, rfl, g6⟩
    replace sa := sa.kept g6.bel
    replace sb := sb.kept g6.bel
    replace sc := sc.kept g6.bel
    replace r3 := r3.kept g6.bel
    replace b0 := chain b0 g6.bel
    have s6 := g6.sl
    go_wp2_with fail
    refine (same_val r3 s6 HR3.out.1 g6.prop.1 (by rw [HR3.out.2.1, g6.prop.2.1, ← HD.out.2])).mono ?_
    rintro e w7 ⟨rfl, b7⟩
    replace sa := sa.kept b7
    replace sb := sb.kept b7
    replace sc := sc.kept b7
    replace r3 := r3.kept b7
    replace s6 := s6.kept b7
    replace b0 := chain b0 b7
    go_wp2_with fail
    go_ret
    exact ⟨rfl, b0⟩
  · have hcm : 0 ≤ cmpv (val zs) (val xs) := by have := @cmpv_neg (val zs) (val xs); omega
    clear hlt
    replace sa := sa.kept b2
    replace sb := sb.kept b2
    replace sc := sc.kept b2
    replace b0 := chain b0 b2
    go_wp2_with fail
    refine (cmp_is ((sl_one_at 2 (by decide) (by simp)).alloc _) (sl_one_at 1 (by decide) (by simp)) (K := 1) (cmpv_gt (by decide))).mono ?_
    rintro e w1 ⟨rfl, b1⟩
    replace sa := ((sa.alloc _).alloc _).kept b1
    replace sb := ((sb.alloc _).alloc _).kept b1
    replace sc := ((sc.alloc _).alloc _).kept b1
    replace b0 := chain (chain_alloc (chain_alloc b0 _) _) b1
    go_wp2_with fail
    go_ret
    exact ⟨rfl, b0⟩

end Go.Proofs.Ytaaolnepkgcbaaa
