/- The walk of NatCommon. -/
import Derived.Test.YtaaolnepkgcbaaaDiv
import Derived.Test.YtaaolnepkgcbaaaAdds
namespace Go.Proofs.Ytaaolnepkgcbaaa
open Go.RowKit Lb
set_option linter.unusedVariables false

theorem gcdv_left {x y : Int} (hx : 0 ≤ x) (hy : 0 ≤ y) : x % gcdv x y = 0 := by
  obtain ⟨a, rfl⟩ := Int.eq_ofNat_of_zero_le hx
  obtain ⟨b, rfl⟩ := Int.eq_ofNat_of_zero_le hy
  unfold gcdv
  rw [Int.toNat_natCast, Int.toNat_natCast]
  exact_mod_cast Nat.mod_eq_zero_of_dvd (Nat.gcd_dvd_left a b)
theorem gcdv_right {x y : Int} (hx : 0 ≤ x) (hy : 0 ≤ y) : y % gcdv x y = 0 := by
  obtain ⟨a, rfl⟩ := Int.eq_ofNat_of_zero_le hx
  obtain ⟨b, rfl⟩ := Int.eq_ofNat_of_zero_le hy
  unfold gcdv
  rw [Int.toNat_natCast, Int.toNat_natCast]
  exact_mod_cast Nat.mod_eq_zero_of_dvd (Nat.gcd_dvd_right a b)
theorem gcdv_common {c x y : Int} (hc : 0 < c) (hx : 0 ≤ x) (hy : 0 ≤ y) (h1 : x % c = 0) (h2 : y % c = 0) : gcdv x y % c = 0 := by
  obtain ⟨a, rfl⟩ := Int.eq_ofNat_of_zero_le hx
  obtain ⟨b, rfl⟩ := Int.eq_ofNat_of_zero_le hy
  obtain ⟨d, rfl⟩ := Int.eq_ofNat_of_zero_le (show 0 ≤ c by omega)
  unfold gcdv
  rw [Int.toNat_natCast, Int.toNat_natCast]
  have e1 : d ∣ a := Nat.dvd_of_mod_eq_zero (by exact_mod_cast h1)
  have e2 : d ∣ b := Nat.dvd_of_mod_eq_zero (by exact_mod_cast h2)
  exact_mod_cast Nat.mod_eq_zero_of_dvd (Nat.dvd_gcd e1 e2)
theorem gcdv_zero_both {x y : Int} (hx : 0 ≤ x) (hy : 0 ≤ y) (h : gcdv x y = 0) : x = 0 ∧ y = 0 := by
  obtain ⟨a, rfl⟩ := Int.eq_ofNat_of_zero_le hx
  obtain ⟨b, rfl⟩ := Int.eq_ofNat_of_zero_le hy
  unfold gcdv at h
  rw [Int.toNat_natCast, Int.toNat_natCast] at h
  have h' : Nat.gcd a b = 0 := by exact_mod_cast h
  have := Nat.gcd_eq_zero_iff.1 h'
  omega

set_option maxHeartbeats 4000000 in
set_option maxRecDepth 100000 in
theorem common_walk (a b f : Option Addr) (n c m d l p : Nat) (z0 z1 z2 : List Int) (w : World) (h : ARow .u32 w a n c z0) (h' : ARow .u32 w b m d z1) (h'' : ARow .u32 w f l p z2) :
    Calls Try.prog 13 #[.slice a n c, .slice b m d, .slice f l p] w fun e w' => e = .returned (.bool true) ∧ Below w.heap.size w w' := by
  go_enter Try.func13, Try.ntmps13
  go_wp2_with fail
  refine (long_any 20 _ _ _ _ _ (lens_three w a b f n c m d l p) (by omega)).mono ?_
  rintro e w1 ⟨rfl, rfl⟩
  have b0 := below_alloc w (.cells #[.slice a n c, .slice b m d, .slice f l p] 23)
  by_cases hl : 20 < n ∨ 20 < m ∨ 20 < l
  · have hlB := longB_three_yes hl
    clear hl
    go_wp2_with fail
    go_ret
    exact ⟨rfl, b0⟩
  have hl1 : n ≤ 20 := by omega
  have hl2 : m ≤ 20 := by omega
  have hl3 : l ≤ 20 := by omega
  have hlB := longB_three_no hl
  clear hl
  have sa := (h.sl (by omega)).alloc (.cells #[.slice a n c, .slice b m d, .slice f l p] 23)
  have sb := (h'.sl (by omega)).alloc (.cells #[.slice a n c, .slice b m d, .slice f l p] 23)
  have sc := (h''.sl (by omega)).alloc (.cells #[.slice a n c, .slice b m d, .slice f l p] 23)
  generalize z0.take n = xs at *
  generalize z1.take m = ys at *
  generalize z2.take l = zs at *
  clear h h' h''
  go_wp2_with fail
  refine (gcd_any _ _ _ _ _ _ _ _ _ sa sb 20 (by omega) (by omega) (by omega)).mono ?_
  rintro e w1 ⟨a1, n1, c1, x1, rfl, g1⟩
  replace sa := sa.kept g1.bel
  replace sb := sb.kept g1.bel
  replace sc := sc.kept g1.bel
  replace b0 := chain b0 g1.bel
  have s1 := g1.sl
  have lg : n1 ≤ 20 := by have := g1.prop.2.2; have := g1.sl.len; omega
  have HG := Lib.hid g1.prop.2.1
  have HCG := Lib.hid g1.prop.1
  go_wp2_with fail
  refine (gcd_any _ _ _ _ _ _ _ _ _ ((sl_one_at 12 (by decide) (by simp)).alloc _) (sl_one_at 18 (by decide) (by simp)) 20 (by omega) (by omega) (by omega)).mono ?_
  rintro e w2 ⟨a2, n2, c2, x2, rfl, g2⟩
  replace sa := ((sa.alloc _).alloc _).kept g2.bel
  replace sb := ((sb.alloc _).alloc _).kept g2.bel
  replace sc := ((sc.alloc _).alloc _).kept g2.bel
  replace s1 := ((s1.alloc _).alloc _).kept g2.bel
  replace b0 := chain (chain_alloc (chain_alloc b0 _) _) g2.bel
  have s2 := g2.sl
  go_wp2_with fail
  refine (same_val (s2.alloc _) (sl_one_at 6 (by decide) (by simp)) g2.prop.1 (cn_one (by decide)) (by rw [g2.prop.2.1]; decide)).mono ?_
  rintro e w3 ⟨rfl, b3⟩
  replace sa := (sa.alloc _).kept b3
  replace sb := (sb.alloc _).kept b3
  replace sc := (sc.alloc _).kept b3
  replace s1 := (s1.alloc _).kept b3
  replace s2 := (s2.alloc _).kept b3
  replace b0 := chain (chain_alloc b0 _) b3
  have hx0 := Lib.hid (val_nonneg sa.lm)
  have hy0 := Lib.hid (val_nonneg sb.lm)
  by_cases hg0 : n1 = 0
  · subst hg0
    have HZ := Lib.hid (gcdv_zero_both hx0.out hy0.out (by rw [← HG.out, List.eq_nil_of_length_eq_zero s1.len]; rfl))
    go_wp2_with fail
    refine (trim_any _ _ _ _ _ sa).mono ?_
    rintro e w4 ⟨a4, n4, c4, x4, rfl, g4⟩
    replace sa := sa.kept g4.bel
    replace sb := sb.kept g4.bel
    replace sc := sc.kept g4.bel
    replace s1 := s1.kept g4.bel
    replace b0 := chain b0 g4.bel
    have s4 := g4.sl
    obtain rfl : n4 = 0 := by rw [← s4.len]; exact Cn.zero_len s4.lm g4.prop.1 (by rw [g4.prop.2.1, HZ.out.1])
    go_wp2_with fail
    refine (trim_any _ _ _ _ _ sb).mono ?_
    rintro e w5 ⟨a5, n5, c5, x5, rfl, g5⟩
    replace sa := sa.kept g5.bel
    replace sb := sb.kept g5.bel
    replace sc := sc.kept g5.bel
    replace s1 := s1.kept g5.bel
    replace s4 := s4.kept g5.bel
    replace b0 := chain b0 g5.bel
    have s5 := g5.sl
    obtain rfl : n5 = 0 := by rw [← s5.len]; exact Cn.zero_len s5.lm g5.prop.1 (by rw [g5.prop.2.1, HZ.out.2])
    go_wp2_with fail
    go_ret
    exact ⟨rfl, b0⟩
  have eg0 : ((n1 : Int) == 0) = false := by simp; omega
  have HPG := Lib.hid (Cn.pos s1.lm HCG.out (by intro e; have := s1.len; rw [e] at this; simp at this; omega))
  clear hg0
  go_wp2_with fail
  refine (divmod_any _ _ _ _ _ _ _ _ _ sa s1 HPG.out (by omega) (by omega)).mono ?_
  rintro e w4 ⟨a4, n4, c4, x4, d4, m4, f4, y4, rfl, q4, r4, b4, hq4, hr4⟩
  have HQ4 := Lib.hid hq4
  have HR4 := Lib.hid hr4
  clear hq4 hr4
  replace sa := sa.kept b4
  replace sb := sb.kept b4
  replace sc := sc.kept b4
  replace s1 := s1.kept b4
  replace b0 := chain b0 b4
  obtain rfl : m4 = 0 := by rw [← r4.len]; exact Cn.zero_len r4.lm HR4.out.1 (by rw [HR4.out.2.1, HG.out]; exact gcdv_left hx0.out hy0.out)
  go_wp2_with fail
  refine (divmod_any _ _ _ _ _ _ _ _ _ sb s1 HPG.out (by omega) (by omega)).mono ?_
  rintro e w5 ⟨a5, n5, c5, x5, d5, m5, f5, y5, rfl, q5, r5, b5, hq5, hr5⟩
  have HQ5 := Lib.hid hq5
  have HR5 := Lib.hid hr5
  clear hq5 hr5
  replace sa := sa.kept b5
  replace sb := sb.kept b5
  replace sc := sc.kept b5
  replace s1 := s1.kept b5
  replace b0 := chain b0 b5
  obtain rfl : m5 = 0 := by rw [← r5.len]; exact Cn.zero_len r5.lm HR5.out.1 (by rw [HR5.out.2.1, HG.out]; exact gcdv_right hx0.out hy0.out)
  by_cases hc0 : val zs = 0
  · go_wp2_with fail
    refine (divmod_zero _ _ _ _ _ _ _ _ _ sa sc hc0).mono ?_
    rintro e w2 ⟨rfl, rfl⟩
    go_wp2_with fail
    refine (divmod_zero _ _ _ _ _ _ _ _ _ sb sc hc0).mono ?_
    rintro e w2 ⟨rfl, rfl⟩
    go_wp2_with fail
    go_ret
    exact ⟨rfl, b0⟩
  have HPC := Lib.hid (show 0 < val zs by have := val_nonneg sc.lm; omega)
  clear hc0
  go_wp2_with fail
  refine (divmod_any _ _ _ _ _ _ _ _ _ sa sc HPC.out (by omega) (by omega)).mono ?_
  rintro e w6 ⟨a6, n6, c6, x6, d6, m6, f6, y6, rfl, q6, r6, b6, hq6, hr6⟩
  have HQ6 := Lib.hid hq6
  have HR6 := Lib.hid hr6
  clear hq6 hr6
  replace sa := sa.kept b6
  replace sb := sb.kept b6
  replace sc := sc.kept b6
  replace s1 := s1.kept b6
  replace b0 := chain b0 b6
  go_wp2_with fail
  refine (divmod_any _ _ _ _ _ _ _ _ _ sb sc HPC.out (by omega) (by omega)).mono ?_
  rintro e w7 ⟨a7, n7, c7, x7, d7, m7, f7, y7, rfl, q7, r7, b7, hq7, hr7⟩
  have HQ7 := Lib.hid hq7
  have HR7 := Lib.hid hr7
  clear hq7 hr7
  replace sa := sa.kept b7
  replace sb := sb.kept b7
  replace sc := sc.kept b7
  replace s1 := s1.kept b7
  replace b0 := chain b0 b7
  by_cases h1 : m6 = 0
  · subst h1
    by_cases h2 : m7 = 0
    · subst h2
      have E1 := Lib.hid (show val xs % val zs = 0 by rw [← HR6.out.2.1, List.eq_nil_of_length_eq_zero r6.len]; rfl)
      have E2 := Lib.hid (show val ys % val zs = 0 by rw [← HR7.out.2.1, List.eq_nil_of_length_eq_zero r7.len]; rfl)
      go_wp2_with fail
      refine (divmod_any _ _ _ _ _ _ _ _ _ s1 sc HPC.out (by omega) (by omega)).mono ?_
      rintro e w8 ⟨a8, n8, c8, x8, d8, m8, f8, y8, rfl, q8, r8, b8, hq8, hr8⟩
      have HQ8 := Lib.hid hq8
      have HR8 := Lib.hid hr8
      clear hq8 hr8
      replace sa := sa.kept b8
      replace sb := sb.kept b8
      replace sc := sc.kept b8
      replace s1 := s1.kept b8
      replace b0 := chain b0 b8
      obtain rfl : m8 = 0 := by rw [← r8.len]; exact Cn.zero_len r8.lm HR8.out.1 (by rw [HR8.out.2.1, HG.out]; exact gcdv_common HPC.out hx0.out hy0.out E1.out E2.out)
      go_wp2_with fail
      go_ret
      exact ⟨rfl, b0⟩
    · have e2 : ((m7 : Int) != 0) = true := by simp; omega
      clear h2
      go_wp2_with fail
      go_ret
      exact ⟨rfl, b0⟩
  · have e1 : ((m6 : Int) != 0) = true := by simp; omega
    clear h1
    go_wp2_with fail
    go_ret
    exact ⟨rfl, b0⟩

end Go.Proofs.Ytaaolnepkgcbaaa
