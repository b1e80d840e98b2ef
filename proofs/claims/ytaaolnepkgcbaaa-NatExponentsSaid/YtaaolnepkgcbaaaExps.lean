/- The walk of NatExponents. -/
import Derived.Test.YtaaolnepkgcbaaaPowers
namespace Go.Proofs.Ytaaolnepkgcbaaa
open Go.RowKit Lb
set_option linter.unusedVariables false

set_option maxHeartbeats 4000000 in
set_option maxRecDepth 100000 in
theorem exponents_walk (a b : Option Addr) (n c m d : Nat) (z0 z1 : List Int) (p q : Int) (w : World) (h : ARow .u32 w a n c z0) (h' : ARow .u32 w b m d z1) (hp : (Lit.int .u8 p).wf = true) (hq : (Lit.int .u8 q).wf = true) (hc : c * 4 ≤ 140737488351232) (hd : d * 4 ≤ 140737488351232) :
    Calls Try.prog 10 #[.slice a n c, .slice b m d, .int .u8 p, .int .u8 q] w fun e w' => e = .returned (.bool true) ∧ Below w.heap.size w w' := by
  have hp := bounds_u8 hp
  have hq := bounds_u8 hq
  obtain ⟨P, rfl⟩ := Int.eq_ofNat_of_zero_le hp.1
  obtain ⟨Q, rfl⟩ := Int.eq_ofNat_of_zero_le hq.1
  have l0 := h.le
  have l1 := h'.le
  by_cases hl : 8 < n + m
  · go_enter Try.func10, Try.ntmps10
    go_wp2_with fail
    go_ret
    exact ⟨rfl, Below.refl _ _⟩
  have sa := h.sl (by omega)
  have sb := h'.sl (by omega)
  have b0 := Below.refl w.heap.size w
  generalize z0.take n = xs at *
  generalize z1.take m = ys at *
  clear h h' hc hd l0 l1
  go_enter Try.func10, Try.ntmps10
  go_wp2_with fail
  refine (pow_fits sa (P + Q) (by omega) (by omega) (by omega)).mono ?_
  rintro e w1 ⟨a1, n1, c1, x1, rfl, g1⟩
  replace sa := sa.kept g1.bel
  replace sb := sb.kept g1.bel
  replace b0 := chain b0 g1.bel
  have s1 := g1.sl
  go_wp2_with fail
  refine (pow_fits sa P rfl (by omega) (by omega)).mono ?_
  rintro e w2 ⟨a2, n2, c2, x2, rfl, g2⟩
  replace sa := sa.kept g2.bel
  replace sb := sb.kept g2.bel
  replace s1 := s1.kept g2.bel
  replace b0 := chain b0 g2.bel
  have s2 := g2.sl
  go_wp2_with fail
  refine (pow_fits sa Q rfl (by omega) (by omega)).mono ?_
  rintro e w3 ⟨a3, n3, c3, x3, rfl, g3⟩
  replace sa := sa.kept g3.bel
  replace sb := sb.kept g3.bel
  replace s1 := s1.kept g3.bel
  replace s2 := s2.kept g3.bel
  replace b0 := chain b0 g3.bel
  have s3 := g3.sl
  go_wp2_with fail
  refine (mul_two sa sb (by omega)).mono ?_
  rintro e w4 ⟨a4, n4, c4, x4, rfl, g4⟩
  replace sa := sa.kept g4.bel
  replace sb := sb.kept g4.bel
  replace s1 := s1.kept g4.bel
  replace s2 := s2.kept g4.bel
  replace s3 := s3.kept g4.bel
  replace b0 := chain b0 g4.bel
  have s4 := g4.sl
  have lab : n4 ≤ 8 := by have := g4.prop.2.2; have := g4.sl.len; omega
  go_wp2_with fail
  refine (pow_fits s4 Q rfl lab (by omega)).mono ?_
  rintro e w5 ⟨a5, n5, c5, x5, rfl, g5⟩
  replace sa := sa.kept g5.bel
  replace sb := sb.kept g5.bel
  replace s1 := s1.kept g5.bel
  replace s2 := s2.kept g5.bel
  replace s3 := s3.kept g5.bel
  replace s4 := s4.kept g5.bel
  replace b0 := chain b0 g5.bel
  have s5 := g5.sl
  go_wp2_with fail
  refine (pow_fits sb Q rfl (by omega) (by omega)).mono ?_
  rintro e w6 ⟨a6, n6, c6, x6, rfl, g6⟩
  replace sa := sa.kept g6.bel
  replace sb := sb.kept g6.bel
  replace s1 := s1.kept g6.bel
  replace s2 := s2.kept g6.bel
  replace s3 := s3.kept g6.bel
  replace s5 := s5.kept g6.bel
  replace b0 := chain b0 g6.bel
  have s6 := g6.sl
  go_wp2_with fail
  refine (pow_fits (sl_one_at 2 (by decide) rfl) 3 rfl (by omega) (by omega)).mono ?_
  rintro e w7 ⟨a7, n7, c7, x7, rfl, g7⟩
  replace s1 := (s1.alloc _).kept g7.bel
  replace s2 := (s2.alloc _).kept g7.bel
  replace s3 := (s3.alloc _).kept g7.bel
  replace s5 := (s5.alloc _).kept g7.bel
  replace s6 := (s6.alloc _).kept g7.bel
  replace b0 := chain (chain_alloc b0 _) g7.bel
  have s7 := g7.sl
  go_wp2_with fail
  refine (same_val (s7.alloc _) (sl_one_at 8 (by decide) (by simp)) g7.prop.1 (cn_one (by decide)) (by have e := g7.prop.2.1; simp only [val] at e ⊢; omega)).mono ?_
  rintro e w8 ⟨rfl, b8⟩
  replace s1 := (s1.alloc _).kept b8
  replace s2 := (s2.alloc _).kept b8
  replace s3 := (s3.alloc _).kept b8
  replace s5 := (s5.alloc _).kept b8
  replace s6 := (s6.alloc _).kept b8
  replace s7 := (s7.alloc _).kept b8
  replace b0 := chain (chain_alloc b0 _) b8
  have l1 : n1 ≤ 4096 := by have := g1.prop.2.2; have := g1.sl.len; omega
  have l2 : n2 ≤ 4096 := by have := g2.prop.2.2; have := g2.sl.len; omega
  have l3 : n3 ≤ 4096 := by have := g3.prop.2.2; have := g3.sl.len; omega
  have l5 : n5 ≤ 4096 := by have := g5.prop.2.2; have := g5.sl.len; omega
  have l6 : n6 ≤ 4096 := by have := g6.prop.2.2; have := g6.sl.len; omega
  go_wp2_with fail
  refine (mul_two s2 s3 (by omega)).mono ?_
  rintro e w9 ⟨a9, n9, c9, x9, rfl, g9⟩
  replace s1 := s1.kept g9.bel
  replace s2 := s2.kept g9.bel
  replace s3 := s3.kept g9.bel
  replace s5 := s5.kept g9.bel
  replace s6 := s6.kept g9.bel
  replace b0 := chain b0 g9.bel
  have s9 := g9.sl
  go_wp2_with fail
  refine (same_val s1 s9 g1.prop.1 g9.prop.1 (by rw [g9.prop.2.1, g1.prop.2.1, g2.prop.2.1, g3.prop.2.1, Int.pow_add])).mono ?_
  rintro e w10 ⟨rfl, b10⟩
  replace s1 := s1.kept b10
  replace s2 := s2.kept b10
  replace s3 := s3.kept b10
  replace s5 := s5.kept b10
  replace s6 := s6.kept b10
  replace s9 := s9.kept b10
  replace b0 := chain b0 b10
  go_wp2_with fail
  refine (mul_two s3 s6 (by omega)).mono ?_
  rintro e w11 ⟨a11, n11, c11, x11, rfl, g11⟩
  replace s3 := s3.kept g11.bel
  replace s5 := s5.kept g11.bel
  replace s6 := s6.kept g11.bel
  replace b0 := chain b0 g11.bel
  have s11 := g11.sl
  go_wp2_with fail
  refine (same_val s5 s11 g5.prop.1 g11.prop.1 (by rw [g11.prop.2.1, g5.prop.2.1, g3.prop.2.1, g6.prop.2.1, g4.prop.2.1, Int.mul_pow])).mono ?_
  rintro e w12 ⟨rfl, b12⟩
  replace s3 := s3.kept b12
  replace s5 := s5.kept b12
  replace s6 := s6.kept b12
  replace s11 := s11.kept b12
  replace b0 := chain b0 b12
  go_wp2_with fail
  go_ret
  exact ⟨rfl, b0⟩

end Go.Proofs.Ytaaolnepkgcbaaa
