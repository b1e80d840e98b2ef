/- The walk of NatOrders. -/
import Derived.Test.YtaaolnepkgcbaaaAdds
namespace Go.Proofs.Ytaaolnepkgcbaaa
open Go.RowKit Lb
set_option linter.unusedVariables false

set_option maxHeartbeats 4000000 in
set_option maxRecDepth 100000 in
theorem orders_walk (a b f : Option Addr) (n c m d l p : Nat) (z0 z1 z2 : List Int) (w : World) (h : ARow .u32 w a n c z0) (h' : ARow .u32 w b m d z1) (h'' : ARow .u32 w f l p z2) :
    Calls Try.prog 7 #[.slice a n c, .slice b m d, .slice f l p] w fun e w' => e = .returned (.bool true) ∧ Below w.heap.size w w' := by
  go_enter Try.func7, Try.ntmps7
  go_wp2_with fail
  refine (long_any 200 _ _ _ _ _ (lens_three w a b f n c m d l p) (by omega)).mono ?_
  rintro e w1 ⟨rfl, rfl⟩
  have b0 := below_alloc w (.cells #[.slice a n c, .slice b m d, .slice f l p] 23)
  by_cases hl : 200 < n ∨ 200 < m ∨ 200 < l
  · have hlB := longB_three_yes hl
    clear hl
    go_wp2_with fail
    go_ret
    exact ⟨rfl, b0⟩
  have hl1 : n ≤ 200 := by omega
  have hl2 : m ≤ 200 := by omega
  have hl3 : l ≤ 200 := by omega
  have hlB := longB_three_no hl
  clear hl
  have sa := (h.sl (by omega)).alloc (.cells #[.slice a n c, .slice b m d, .slice f l p] 23)
  have sb := (h'.sl (by omega)).alloc (.cells #[.slice a n c, .slice b m d, .slice f l p] 23)
  have sc := (h''.sl (by omega)).alloc (.cells #[.slice a n c, .slice b m d, .slice f l p] 23)
  generalize z0.take n = xs at *
  generalize z1.take m = ys at *
  generalize z2.take l = zs at *
  clear h h' h''
  have hx1 : -1 ≤ cmpv (val xs) (val ys) := (cmpv_bd _ _).1
  have hx2 : cmpv (val xs) (val ys) ≤ 1 := (cmpv_bd _ _).2
  go_wp2_with fail
  refine (cmp_any _ _ _ _ _ _ _ _ _ sa sb).mono ?_
  rintro e w1 ⟨rfl, b1⟩
  replace sa := sa.kept b1
  replace sb := sb.kept b1
  replace sc := sc.kept b1
  replace b0 := chain b0 b1
  go_wp2_with fail
  refine (cmp_any _ _ _ _ _ _ _ _ _ sb sc).mono ?_
  rintro e w2 ⟨rfl, b2⟩
  replace sa := sa.kept b2
  replace sb := sb.kept b2
  replace sc := sc.kept b2
  replace b0 := chain b0 b2
  go_wp2_with fail
  refine (cmp_any _ _ _ _ _ _ _ _ _ sa sc).mono ?_
  rintro e w3 ⟨rfl, b3⟩
  replace sa := sa.kept b3
  replace sb := sb.kept b3
  replace sc := sc.kept b3
  replace b0 := chain b0 b3
  go_wp2_with fail
  refine (cmp_is ((sl_one_at 1 (by decide) (by simp)).alloc _) (sl_two_at 0 1 (by decide) (by decide) (by simp)) (K := -1) (cmpv_lt (by decide))).mono ?_
  rintro e w4 ⟨rfl, b4⟩
  replace sa := ((sa.alloc _).alloc _).kept b4
  replace sb := ((sb.alloc _).alloc _).kept b4
  replace sc := ((sc.alloc _).alloc _).kept b4
  replace b0 := chain (chain_alloc (chain_alloc b0 _) _) b4
  go_wp2_with fail
  refine (cmp_is sb sa (cmpv_swap _ _)).mono ?_
  rintro e w5 ⟨rfl, b5⟩
  replace sa := sa.kept b5
  replace sb := sb.kept b5
  replace sc := sc.kept b5
  replace b0 := chain b0 b5
  rcases cmp_cases (val xs) (val ys) (val zs) with ⟨hx, hd⟩ | ⟨hx, hd, hy⟩ | ⟨hx, hd, hy⟩ | ⟨hx, hd, hy, hz⟩ | ⟨hx, hd, hy, hz⟩ | ⟨hx, hd, hy, hz⟩ | ⟨hx, hd, hy, hz⟩
  all_goals clear hx1 hx2
  all_goals
    go_wp2_with fail
    refine (trim_any _ _ _ _ _ sa).mono ?_
    rintro e w6 ⟨a6, n6, c6, x6, rfl, g6⟩
    replace sa := sa.kept g6.bel
    replace sb := sb.kept g6.bel
    replace sc := sc.kept g6.bel
    replace b0 := chain b0 g6.bel
    have s6 := g6.sl
    go_wp2_with fail
    refine (trim_any _ _ _ _ _ sb).mono ?_
    rintro e w7 ⟨a7, n7, c7, x7, rfl, g7⟩
    replace sa := sa.kept g7.bel
    replace sb := sb.kept g7.bel
    replace sc := sc.kept g7.bel
    replace s6 := s6.kept g7.bel
    replace b0 := chain b0 g7.bel
    have s7 := g7.sl
    go_wp2_with fail
    refine (same_dec s6 s7 g6.prop g7.prop).mono ?_
    rintro e w8 ⟨rfl, b8⟩
    replace sa := sa.kept b8
    replace sb := sb.kept b8
    replace sc := sc.kept b8
    replace s6 := s6.kept b8
    replace s7 := s7.kept b8
    replace b0 := chain b0 b8
    go_wp2_with fail
    refine (add_two sa sc 200 (by omega) (by omega) (by omega)).mono ?_
    rintro e w9 ⟨a9, n9, c9, x9, rfl, g9⟩
    replace sa := sa.kept g9.bel
    replace sb := sb.kept g9.bel
    replace sc := sc.kept g9.bel
    replace b0 := chain b0 g9.bel
    have s9 := g9.sl
    go_wp2_with fail
    refine (add_two sb sc 200 (by omega) (by omega) (by omega)).mono ?_
    rintro e w10 ⟨a10, n10, c10, x10, rfl, g10⟩
    replace sa := sa.kept g10.bel
    replace sb := sb.kept g10.bel
    replace sc := sc.kept g10.bel
    replace s9 := s9.kept g10.bel
    replace b0 := chain b0 g10.bel
    have s10 := g10.sl
    go_wp2_with fail
    refine (cmp_is s9 s10 (K := cmpv (val xs) (val ys)) (by rw [g9.prop.2.1, g10.prop.2.1, cmpv_add])).mono ?_
    rintro e w11 ⟨rfl, b11⟩
    replace sa := sa.kept b11
    replace sb := sb.kept b11
    replace sc := sc.kept b11
    replace s9 := s9.kept b11
    replace s10 := s10.kept b11
    replace b0 := chain b0 b11
    go_wp2_with fail
    refine (add_two sa sb 200 (by omega) (by omega) (by omega)).mono ?_
    rintro e w12 ⟨a12, n12, c12, x12, rfl, g12⟩
    replace sa := sa.kept g12.bel
    replace sb := sb.kept g12.bel
    replace sc := sc.kept g12.bel
    replace b0 := chain b0 g12.bel
    have s12 := g12.sl
    have HGE : Hid (val ys ≤ val x12) := by have e := g12.prop.2.1; have := val_nonneg sa.lm; unfold Hid; omega
    go_wp2_with fail
    refine (sub_ge _ _ _ _ _ _ _ _ _ s12 sb HGE.out).mono ?_
    rintro e w13 ⟨a13, n13, c13, x13, rfl, g13⟩
    replace sa := sa.kept g13.bel
    replace sb := sb.kept g13.bel
    replace sc := sc.kept g13.bel
    replace s12 := s12.kept g13.bel
    replace b0 := chain b0 g13.bel
    have s13 := g13.sl
    go_wp2_with fail
    refine (trim_any _ _ _ _ _ sa).mono ?_
    rintro e w14 ⟨a14, n14, c14, x14, rfl, g14⟩
    replace sa := sa.kept g14.bel
    replace sb := sb.kept g14.bel
    replace sc := sc.kept g14.bel
    replace s12 := s12.kept g14.bel
    replace s13 := s13.kept g14.bel
    replace b0 := chain b0 g14.bel
    have s14 := g14.sl
    go_wp2_with fail
    refine (same_val s13 s14 g13.prop.1 g14.prop.1 (by have e1 := g12.prop.2.1; have e2 := g13.prop.2.1; have e3 := g14.prop.2.1; omega)).mono ?_
    rintro e w15 ⟨rfl, b15⟩
    replace sa := sa.kept b15
    replace sb := sb.kept b15
    replace sc := sc.kept b15
    replace s12 := s12.kept b15
    replace s13 := s13.kept b15
    replace s14 := s14.kept b15
    replace b0 := chain b0 b15
    go_wp2_with fail
    go_ret
    exact ⟨rfl, b0⟩

end Go.Proofs.Ytaaolnepkgcbaaa
