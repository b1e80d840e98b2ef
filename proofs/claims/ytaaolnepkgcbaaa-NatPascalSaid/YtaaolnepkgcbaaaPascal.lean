/- The walks of NatBinomials, NatPascal and NatVandermonde. -/
import Derived.Test.YtaaolnepkgcbaaaBinom
import Derived.OpenShut
namespace Go.Proofs.Ytaaolnepkgcbaaa
open Go.RowKit Lb
set_option linter.unusedVariables false

theorem binomI {n k : Int} {w : World} (hn0 : 0 ≤ n) (hn : n ≤ 4096) (h0 : -9223372036854775808 ≤ k) (h1 : k ≤ 9223372036854775807) :
    Calls Try.prog 26 #[.int .i64 n, .int .i64 k] w (Ret2 w (Num (chI n k) (n.toNat + 1))) := by
  obtain ⟨N, rfl⟩ := Int.eq_ofNat_of_zero_le hn0
  rw [Int.toNat_natCast]
  exact binom_any N k w (by omega) h0 h1
theorem rbinomI {n k : Int} {w : World} (hn0 : 0 ≤ n) (hn : n ≤ 4096) (h0 : -9223372036854775808 ≤ k) (h1 : k ≤ 9223372036854775807) :
    Calls Try.prog 27 #[.int .i64 n, .int .i64 k] w (Ret2 w (Num (chI n k) (1 + 2 * n.toNat))) := by
  obtain ⟨N, rfl⟩ := Int.eq_ofNat_of_zero_le hn0
  rw [Int.toNat_natCast]
  exact rbinom_any N k w (by omega) h0 h1
theorem chI_of {n k : Int} (N K : Nat) (hn : n = N) (hk : k = K) : chI n k = ch N K := by rw [hn, hk, chI_in]

set_option maxHeartbeats 1000000 in
theorem binomials_walk (n k : Int) (w : World) (hn : (Lit.int .i64 n).wf = true) (hk : (Lit.int .i64 k).wf = true) :
    Calls Try.prog 4 #[.int .i64 n, .int .i64 k] w fun e w' => e = .returned (.bool true) ∧ Below w.heap.size w w' := by
  have hn := bounds_i64 hn
  have hk := bounds_i64 hk
  by_cases h4 : n < 0 ∨ 4096 < n
  · have H4 := Lib.hid h4
    clear h4
    by_cases h0 : n < 0
    all_goals try (have h9 : 4096 < n := by (have := H4.out; omega))
    all_goals
      go_enter Try.func4, Try.ntmps4
      go_wp2_with fail
      refine (binom_err _ _ _ H4.out).mono ?_
      rintro e w1 ⟨rfl, rfl⟩
      go_wp2_with fail
      refine (rbinom_err _ _ _ H4.out).mono ?_
      rintro e w1 ⟨rfl, rfl⟩
      go_wp2_with fail
      refine (same_yes (Sl.empty _) (Sl.empty _) rfl).mono ?_
      rintro e w2 ⟨rfl, hb⟩
      go_wp2_with fail
      go_ret
      exact ⟨rfl, hb⟩
  · have a0 : 0 ≤ n := by omega
    have a1 : n ≤ 4096 := by omega
    clear h4
    by_cases h5 : 400 < n
    · go_enter Try.func4, Try.ntmps4
      go_wp2_with fail
      go_ret
      exact ⟨rfl, Below.refl _ _⟩
    · go_enter Try.func4, Try.ntmps4
      go_wp2_with fail
      refine (binomI a0 a1 (by omega) (by omega)).mono ?_
      rintro e w3 ⟨a3, n3, c3, x3, rfl, g3⟩
      go_wp2_with fail
      refine (rbinomI a0 a1 (by omega) (by omega)).mono ?_
      rintro e w4 ⟨a4, n4, c4, x4, rfl, g4⟩
      go_wp2_with fail
      refine (same_num (g3.sl.kept g4.bel) g4.sl g3.prop g4.prop).mono ?_
      rintro e w2 ⟨rfl, hb⟩
      go_wp2_with fail
      go_ret
      exact ⟨rfl, chain (chain g3.bel g4.bel) hb⟩

set_option maxHeartbeats 2000000 in
theorem pascal_walk (n k : Int) (w : World) (hn : (Lit.int .u8 n).wf = true) (hk : (Lit.int .u8 k).wf = true) :
    Calls Try.prog 9 #[.int .u8 n, .int .u8 k] w fun e w' => e = .returned (.bool true) ∧ Below w.heap.size w w' := by
  have hn := bounds_u8 hn
  have hk := bounds_u8 hk
  obtain ⟨N, rfl⟩ := Int.eq_ofNat_of_zero_le hn.1
  obtain ⟨K, rfl⟩ := Int.eq_ofNat_of_zero_le hk.1
  go_enter Try.func9, Try.ntmps9
  go_wp2_with fail
  refine (binomI (by omega) (by omega) (by omega) (by omega)).mono ?_
  rintro e w1 ⟨a1, n1, c1, x1, rfl, g1⟩
  have s1 := g1.sl
  have b0 := g1.bel
  go_wp2_with fail
  refine (binomI (by omega) (by omega) (by omega) (by omega)).mono ?_
  rintro e w2 ⟨a2, n2, c2, x2, rfl, g2⟩
  replace s1 := s1.kept g2.bel
  have s2 := g2.sl
  replace b0 := chain b0 g2.bel
  go_wp2_with fail
  refine (binomI (by omega) (by omega) (by omega) (by omega)).mono ?_
  rintro e w3 ⟨a3, n3, c3, x3, rfl, g3⟩
  replace s1 := s1.kept g3.bel
  replace s2 := s2.kept g3.bel
  have s3 := g3.sl
  replace b0 := chain b0 g3.bel
  go_wp2_with fail
  refine (binomI (by omega) (by omega) (by omega) (by omega)).mono ?_
  rintro e w4 ⟨a4, n4, c4, x4, rfl, g4⟩
  replace s1 := s1.kept g4.bel
  replace s2 := s2.kept g4.bel
  replace s3 := s3.kept g4.bel
  have s4 := g4.sl
  replace b0 := chain b0 g4.bel
  go_wp2_with fail
  refine (binomI (by omega) (by omega) (by omega) (by omega)).mono ?_
  rintro e w5 ⟨a5, n5, c5, x5, rfl, g5⟩
  replace s1 := s1.kept g5.bel
  replace s2 := s2.kept g5.bel
  replace s3 := s3.kept g5.bel
  replace s4 := s4.kept g5.bel
  have s5 := g5.sl
  replace b0 := chain b0 g5.bel
  have v1 : Hid (val x1 = ch N K) := by unfold Hid; rw [g1.prop.2.1, chI_in]
  have v2 : Hid (val x2 = ch N (K + 1)) := by unfold Hid; rw [g2.prop.2.1, chI_of N (K + 1) rfl (by omega)]
  have v3 : Hid (val x3 = ch (N + 1) (K + 1)) := by unfold Hid; rw [g3.prop.2.1, chI_of (N + 1) (K + 1) (by omega) (by omega)]
  have v4 : Hid (val x4 = ch N K) := by
    unfold Hid
    rw [g4.prop.2.1]
    by_cases h : K ≤ N
    · rw [chI_of N (N - K) rfl (by omega), ch_symm N K h]
    · rw [chI_out (.inl (by omega)), ch_gt N K (by omega)]; rfl
  have v5 : Hid (val x5 = 1) := by unfold Hid; rw [g5.prop.2.1]; exact (chI_of N 0 rfl rfl).trans (by rw [ch_zero]; rfl)
  have l1 : n1 ≤ 300 := by have := g1.prop.2.2; have := g1.sl.len; omega
  have l2 : n2 ≤ 300 := by have := g2.prop.2.2; have := g2.sl.len; omega
  go_wp2_with fail
  refine (same_val (s5.alloc _) (sl_one_at 1 (by decide) rfl) g5.prop.1 (cn_one (by decide)) (by rw [v5.out]; rfl)).mono ?_
  rintro e w6 ⟨rfl, b6⟩
  replace s1 := (s1.alloc _).kept b6
  replace s2 := (s2.alloc _).kept b6
  replace s3 := (s3.alloc _).kept b6
  replace s4 := (s4.alloc _).kept b6
  replace b0 := chain (chain_alloc b0 _) b6
  go_wp2_with fail
  refine (add_two s1 s2 300 l1 l2 (by omega)).mono ?_
  rintro e w7 ⟨a7, n7, c7, x7, rfl, g7⟩
  replace s1 := s1.kept g7.bel
  replace s3 := s3.kept g7.bel
  replace s4 := s4.kept g7.bel
  replace b0 := chain b0 g7.bel
  go_wp2_with fail
  refine (same_val s3 g7.sl g3.prop.1 g7.prop.1 (by rw [g7.prop.2.1, v1.out, v2.out, v3.out, ch_succ]; omega)).mono ?_
  rintro e w8 ⟨rfl, b8⟩
  replace s1 := s1.kept b8
  replace s4 := s4.kept b8
  replace b0 := chain b0 b8
  go_wp2_with fail
  refine (same_val s4 s1 g4.prop.1 g1.prop.1 (by rw [v1.out, v4.out])).mono ?_
  rintro e w9 ⟨rfl, b9⟩
  go_wp2_with fail
  go_ret
  exact ⟨rfl, chain b0 b9⟩

/-- Vandermonde's loop. -/
def VanRel (w : World) (M N K j : Nat) (v : Value) (wr : World) : Prop :=
  Below w.heap.size w wr ∧ ∃ a m c zs, v = .slice a m c ∧ Sl wr a m c zs ∧ m ≤ 600 + j ∧ Cn zs ∧ val zs = vs M N K j

set_option maxHeartbeats 2000000 in
theorem vander_walk (m n k : Int) (w : World) (hm : (Lit.int .u8 m).wf = true) (hn : (Lit.int .u8 n).wf = true) (hk : (Lit.int .u8 k).wf = true) :
    Calls Try.prog 11 #[.int .u8 m, .int .u8 n, .int .u8 k] w fun e w' => e = .returned (.bool true) ∧ Below w.heap.size w w' := by
  have hm := bounds_u8 hm
  have hn := bounds_u8 hn
  have hk := bounds_u8 hk
  obtain ⟨M, rfl⟩ := Int.eq_ofNat_of_zero_le hm.1
  obtain ⟨N, rfl⟩ := Int.eq_ofNat_of_zero_le hn.1
  obtain ⟨K, rfl⟩ := Int.eq_ofNat_of_zero_le hk.1
  go_enter Try.func11, Try.ntmps11
  go_wp2_with fail
  refine (binomI (by omega) (by omega) (by omega) (by omega)).mono ?_
  rintro e w1 ⟨a1, n1, c1, x1, rfl, g1⟩
  have s1 := g1.sl
  have b1 := g1.bel
  have v1 : Hid (val x1 = ch (M + N) K) := by unfold Hid; rw [g1.prop.2.1, chI_of (M + N) K (by omega) rfl]
  have hw : (M + N < K → n1 = 0) ∧ (¬ M + N < K → 0 < n1) := by
    have l := s1.len
    refine ⟨fun h => ?_, fun h => ?_⟩
    · apply Nat.le_antisymm _ (Nat.zero_le _)
      have := len_of_lt (m := 0) s1.lm g1.prop.1 (by rw [v1.out, ch_gt _ _ h]; decide)
      omega
    · apply Nat.pos_of_ne_zero
      intro h0
      obtain rfl : x1 = [] := List.eq_nil_of_length_eq_zero (by omega)
      have e1 : (0 : Int) = ch (M + N) K := v1.out
      have := ch_pos (M + N) K (by omega)
      omega
  have HC1 := Lib.hid g1.prop.1
  clear g1
  have hcase : (n1 = 0 ∧ decide ((M : Int) + (N : Int) < (K : Int)) = true) ∨ (((n1 : Int) == 0) = false ∧ decide ((M : Int) + (N : Int) < (K : Int)) = false) := by
    by_cases hkm : M + N < K
    · exact .inl ⟨hw.1 hkm, decide_eq_true (by omega)⟩
    · exact .inr ⟨by have := hw.2 hkm; simp; omega, decide_eq_false (by omega)⟩
  clear hw
  rcases hcase with ⟨rfl, hd⟩ | ⟨hw1, hd⟩
  all_goals
    go_wp2_with fail
    go_loopw [9, 10] (fun v t wr => ∃ j : Nat, j ≤ K + 1 ∧ t = .int .i64 j ∧ Below w1.heap.size w1 wr ∧ VanRel w M N K j v wr) (fun _ t _ => K + 1 - (intOf t).toNat)
    case atStart => exact ⟨0, by omega, by simp, Below.refl _ _, b1, none, 0, 0, [], rfl, Sl.empty _, by omega, Cn.nil, rfl⟩
    case round =>
      obtain ⟨j, hj, rfl, hb1, hb, a2, m2, c2, zs, rfl, hz, hm2, hcz, hv⟩ := hrel
      have HV := Lib.hid hv
      have HC := Lib.hid hcz
      clear hv hcz
      by_cases hjk : j ≤ K
      · go_wp2_with fail
        refine (binomI (by omega) (by omega) (by omega) (by omega)).mono ?_
        rintro e w3 ⟨a3, n3, c3, x3, rfl, g3⟩
        go_wp2_with fail
        refine (binomI (by omega) (by omega) (by omega) (by omega)).mono ?_
        rintro e w4 ⟨a4, n4, c4, x4, rfl, g4⟩
        have v3 : Hid (val x3 = ch M j) := by unfold Hid; rw [g3.prop.2.1, chI_of M j rfl rfl]
        have v4 : Hid (val x4 = ch N (K - j)) := by unfold Hid; rw [g4.prop.2.1, chI_of N (K - j) rfl (by omega)]
        have l3 : n3 ≤ 300 := by have := g3.prop.2.2; have := g3.sl.len; omega
        have l4 : n4 ≤ 300 := by have := g4.prop.2.2; have := g4.sl.len; omega
        go_wp2_with fail
        refine (mul_two (g3.sl.kept g4.bel) g4.sl (by omega)).mono ?_
        rintro e w5 ⟨a5, n5, c5, x5, rfl, g5⟩
        have l5 : n5 ≤ 600 := by have := g5.prop.2.2; have := g5.sl.len; omega
        go_wp2_with fail
        refine (add_two (((hz.kept g3.bel).kept g4.bel).kept g5.bel) g5.sl (600 + j) hm2 (by omega) (by omega)).mono ?_
        rintro e w6 ⟨a6, n6, c6, x6, rfl, g6⟩
        have hbb := chain (chain (chain g3.bel g4.bel) g5.bel) g6.bel
        go_wp2_with fail
        go_roundw
        case rel => exact ⟨j + 1, by omega, by go_num, chain hb1 hbb, chain hb hbb, _, _, _, x6, rfl, g6.sl, by have := g6.prop.2.2; have := g6.sl.len; omega, g6.prop.1, by rw [g6.prop.2.1, HV.out, g5.prop.2.1, v3.out, v4.out]; simp [vs]⟩
        case measure => simp [intOf]; omega
      · obtain rfl : j = K + 1 := by omega
        go_wp2_with fail
        refine (same_val hz (s1.kept hb1) HC.out HC1.out (by rw [HV.out, v1.out, vandermonde])).mono ?_
        rintro e w5 ⟨rfl, b5⟩
        go_wp2_with fail
        go_ret
        exact ⟨rfl, chain hb b5⟩
end Go.Proofs.Ytaaolnepkgcbaaa
