/- nat.Binomial, ref.Choose, ref.Binomial. -/
import Derived.Test.YtaaolnepkgcbaaaDigit
import Derived.Test.YtaaolnepkgcbaaaSub
namespace Go.Proofs.Ytaaolnepkgcbaaa
open Go.RowKit Lb
set_option linter.unusedVariables false

theorem binom_next (n i : Nat) (h : i < n) : ((ch n i : Int) * ((n : Int) - i)) / ((i : Int) + 1) = ch n (i + 1) := by
  have e := ch_step n i (by omega)
  have e' : ((ch n (i + 1) : Nat) : Int) * ((i : Int) + 1) = (ch n i : Int) * ((n : Int) - i) := by
    have : ((n - i : Nat) : Int) = (n : Int) - i := by omega
    rw [← this]
    exact_mod_cast e
  rw [← e', Int.mul_ediv_cancel _ (by omega)]

def BinRel (w : World) (n i : Nat) (v : Value) (wr : World) : Prop :=
  Below w.heap.size w wr ∧ ∃ a m c zs, v = .slice a m c ∧ Sl wr a m c zs ∧ m ≤ 1 + i ∧ val zs = ch n i

set_option maxHeartbeats 1000000 in
theorem binom_mid (n k : Nat) (w : World) (hn : n ≤ 4096) (hk : k ≤ n) :
    Calls Try.prog 26 #[.int .i64 n, .int .i64 k] w (Ret2 w (Num (ch n k) (n + 1))) := by
  have d1 : decide ((n : Int) < 0) = false := decide_eq_false (by omega)
  have d2 : decide (4096 < (n : Int)) = false := decide_eq_false (by omega)
  have d3 : decide ((k : Int) < 0) = false := decide_eq_false (by omega)
  have d4 : decide (n < k) = false := decide_eq_false (by omega)
  have d5 : decide (4096 < n) = false := decide_eq_false (by omega)
  go_enter Try.func26, Try.ntmps26
  go_wp2_with fail
  · go_loopw [6, 27] (fun v t wr => ∃ i : Nat, i ≤ n - k ∧ t = .int .i64 i ∧ BinRel w n i v wr) (fun _ t _ => n - k - (intOf t).toNat)
    case atStart => exact ⟨0, by omega, by simp, below_alloc _ _, _, _, _, [1], rfl, sl_one w 1 (by decide), by omega, by rw [ch_zero]; rfl⟩
    case round =>
      obtain ⟨i, hi, rfl, hb, a1, m1, c1, zs, rfl, hz, hm1, hv⟩ := hrel
      have HV := Lib.hid hv
      clear hv
      by_cases hik : i < n - k
      · go_wp2_with fail
        refine (times_any _ _ _ _ _ _ _ _ _ (hz.alloc _) (sl_one_at _ (by omega) rfl) (by omega)).mono ?_
        rintro e w3 ⟨a3, n3, c3, x3, rfl, g3⟩
        have l1 := g3.prop.2.2
        have l2 := g3.sl.len
        have l3 : n3 ≤ 2 + i := by omega
        clear l1 l2
        go_wp2_with fail
        refine (digit_any _ _ _ _ _ _ g3.sl (by omega) (by omega)).mono ?_
        rintro e w4 ⟨a4, n4, c4, x4, rfl, g4⟩
        go_wp2_with fail
        go_roundw
        case rel => exact ⟨i + 1, by omega, by go_num, chain (chain (chain_alloc hb _) g3.bel) g4.bel, _, _, _, x4, rfl, g4.sl, by have := g4.prop.2.2; have := g4.sl.len; omega, by rw [g4.prop.2.1, g3.prop.2.1, HV.out, val_one, binom_next n i (by omega)]⟩
        case measure => simp [intOf]; omega
      · obtain rfl : i = n - k := by omega
        go_wp2_with fail
        refine (trim_any _ _ _ _ _ hz).mono ?_
        rintro e w4 ⟨a4, n4, c4, x4, rfl, g4⟩
        go_wp2_with fail
        go_ret2
        exact ⟨_, _, _, x4, rfl, g4.sl, chain hb g4.bel, g4.prop.1, by rw [g4.prop.2.1, HV.out, ch_symm n k hk], by have := g4.prop.2.2; omega⟩
  · go_loopw [6, 27] (fun v t wr => ∃ i : Nat, i ≤ k ∧ t = .int .i64 i ∧ BinRel w n i v wr) (fun _ t _ => k - (intOf t).toNat)
    case atStart => exact ⟨0, by omega, by simp, below_alloc _ _, _, _, _, [1], rfl, sl_one w 1 (by decide), by omega, by rw [ch_zero]; rfl⟩
    case round =>
      obtain ⟨i, hi, rfl, hb, a1, m1, c1, zs, rfl, hz, hm1, hv⟩ := hrel
      have HV := Lib.hid hv
      clear hv
      by_cases hik : i < k
      · go_wp2_with fail
        refine (times_any _ _ _ _ _ _ _ _ _ (hz.alloc _) (sl_one_at _ (by omega) rfl) (by omega)).mono ?_
        rintro e w3 ⟨a3, n3, c3, x3, rfl, g3⟩
        have l1 := g3.prop.2.2
        have l2 := g3.sl.len
        have l3 : n3 ≤ 2 + i := by omega
        clear l1 l2
        go_wp2_with fail
        refine (digit_any _ _ _ _ _ _ g3.sl (by omega) (by omega)).mono ?_
        rintro e w4 ⟨a4, n4, c4, x4, rfl, g4⟩
        go_wp2_with fail
        go_roundw
        case rel => exact ⟨i + 1, by omega, by go_num, chain (chain (chain_alloc hb _) g3.bel) g4.bel, _, _, _, x4, rfl, g4.sl, by have := g4.prop.2.2; have := g4.sl.len; omega, by rw [g4.prop.2.1, g3.prop.2.1, HV.out, val_one, binom_next n i (by omega)]⟩
        case measure => simp [intOf]; omega
      · obtain rfl : i = k := by omega
        go_wp2_with fail
        refine (trim_any _ _ _ _ _ hz).mono ?_
        rintro e w4 ⟨a4, n4, c4, x4, rfl, g4⟩
        go_wp2_with fail
        go_ret2
        exact ⟨_, _, _, x4, rfl, g4.sl, chain hb g4.bel, g4.prop.1, by rw [g4.prop.2.1, HV.out], by have := g4.prop.2.2; omega⟩

theorem binom_any (n : Nat) (k : Int) (w : World) (hn : n ≤ 4096) (h0 : -9223372036854775808 ≤ k) (h1 : k ≤ 9223372036854775807) :
    Calls Try.prog 26 #[.int .i64 n, .int .i64 k] w (Ret2 w (Num (chI n k) (n + 1))) := by
  by_cases hk : k < 0 ∨ (n : Int) < k
  · have HC := Lib.hid (chI_out hk)
    have hk2 := Lib.hid hk
    clear hk
    by_cases hk3 : k < 0
    all_goals try (have hk4 : (n : Int) < k := by (have := hk2.out; omega))
    all_goals
      go_enter Try.func26, Try.ntmps26
      go_wp2_with fail
      go_ret2
      exact ⟨none, 0, 0, [], rfl, Sl.empty _, Below.refl _ _, Cn.nil, by rw [HC.out]; rfl, by simp⟩
  · obtain ⟨q, rfl⟩ := Int.eq_ofNat_of_zero_le (show 0 ≤ k by omega)
    rw [chI_in]
    exact binom_mid n q w hn (by omega)
theorem binom_err (n k : Int) (w : World) (hn : n < 0 ∨ 4096 < n) :
    Calls Try.prog 26 #[.int .i64 n, .int .i64 k] w fun e w' => e = .returned (.tuple #[.slice none 0 0, .int .i64 6]) ∧ w = w' := by
  have hn2 := Lib.hid hn
  clear hn
  by_cases hk3 : n < 0
  all_goals try (have hk4 : 4096 < n := by (have := hn2.out; omega))
  all_goals
    go_enter Try.func26, Try.ntmps26
    go_wp2_with fail
    go_ret2
    exact ⟨rfl, rfl⟩

def ChRel (w : World) (n i : Nat) (v : Value) (wr : World) : Prop :=
  Below w.heap.size w wr ∧ ∃ a m c zs, v = .slice a m c ∧ Sl wr a m c zs ∧ m ≤ 1 + 2 * i ∧ Cn zs ∧ val zs = ch n i
set_option maxHeartbeats 1000000 in
theorem choose_mid (n k : Nat) (w : World) (hn : n ≤ 4096) (hk : k ≤ n) :
    Calls Try.prog 47 #[.int .i64 n, .int .i64 k] w (Ret w (Num (ch n k) (1 + 2 * n))) := by
  have d1 : decide (n < k) = false := decide_eq_false (by omega)
  have d2 : decide ((n : Int) < (k : Int)) = false := decide_eq_false (by omega)
  have d3 : decide ((k : Int) < 0) = false := decide_eq_false (by omega)
  go_enter Try.func47, Try.ntmps47
  go_wp2_with fail
  go_loopw [5, 6] (fun v t wr => ∃ i : Nat, i ≤ k ∧ t = .int .i64 i ∧ ChRel w n i v wr) (fun _ t _ => k - (intOf t).toNat)
  case atStart => exact ⟨0, by omega, by simp, below_alloc _ _, _, _, _, [1], rfl, sl_one w 1 (by decide), by omega, cn_one (by decide), by rw [ch_zero]; rfl⟩
  case round =>
    obtain ⟨i, hi, rfl, hb, a1, m1, c1, zs, rfl, hz, hm1, hcz, hv⟩ := hrel
    have HV := Lib.hid hv
    have HC := Lib.hid hcz
    clear hv hcz
    by_cases hik : i < k
    · go_wp2_with fail
      refine (small_any _ _ _ _ _ _ _ hz (by omega) (by omega) (by omega) (by omega) (by omega)).mono ?_
      rintro e w4 ⟨a4, n4, c4, x4, rfl, g4⟩
      go_wp2_with fail
      go_roundw
      case rel => exact ⟨i + 1, by omega, by go_num, chain hb g4.bel, _, _, _, x4, rfl, g4.sl, by have := g4.prop.2.2; have := g4.sl.len; omega, g4.prop.1, by rw [g4.prop.2.1, HV.out, binom_next n i (by omega)]⟩
      case measure => simp [intOf]; omega
    · obtain rfl : i = k := by omega
      go_wp2_with fail
      go_ret
      exact ⟨_, _, _, zs, rfl, hz, hb, HC.out, HV.out, by have := hz.len; omega⟩

theorem choose_any (n : Nat) (k : Int) (w : World) (hn : n ≤ 4096) (h0 : -9223372036854775808 ≤ k) (h1 : k ≤ 9223372036854775807) :
    Calls Try.prog 47 #[.int .i64 n, .int .i64 k] w (Ret w (Num (chI n k) (1 + 2 * n))) := by
  by_cases hk : k < 0 ∨ (n : Int) < k
  · have HC := Lib.hid (chI_out hk)
    have hk2 := Lib.hid hk
    clear hk
    by_cases hk3 : k < 0
    all_goals try (have hk4 : (n : Int) < k := by (have := hk2.out; omega))
    all_goals
      go_enter Try.func47, Try.ntmps47
      go_wp2_with fail
      go_ret
      exact (Own.made w).got (below_alloc w _) (by simp) ⟨Cn.nil, by rw [HC.out]; rfl, by simp⟩
  · obtain ⟨q, rfl⟩ := Int.eq_ofNat_of_zero_le (show 0 ≤ k by omega)
    rw [chI_in]
    exact choose_mid n q w hn (by omega)
theorem rbinom_any (n : Nat) (k : Int) (w : World) (hn : n ≤ 4096) (h0 : -9223372036854775808 ≤ k) (h1 : k ≤ 9223372036854775807) :
    Calls Try.prog 27 #[.int .i64 n, .int .i64 k] w (Ret2 w (Num (chI n k) (1 + 2 * n))) := by
  go_enter Try.func27, Try.ntmps27
  go_wp2_with fail
  refine (choose_any n k _ hn h0 h1).mono ?_
  rintro e w4 ⟨a4, n4, c4, x4, rfl, g4⟩
  go_wp2_with fail
  go_ret2
  exact ⟨_, _, _, x4, rfl, g4⟩
theorem rbinom_err (n k : Int) (w : World) (hn : n < 0 ∨ 4096 < n) :
    Calls Try.prog 27 #[.int .i64 n, .int .i64 k] w fun e w' => e = .returned (.tuple #[.slice none 0 0, .int .i64 6]) ∧ w = w' := by
  have hn2 := Lib.hid hn
  clear hn
  by_cases hk3 : n < 0
  all_goals try (have hk4 : 4096 < n := by (have := hn2.out; omega))
  all_goals
    go_enter Try.func27, Try.ntmps27
    go_wp2_with fail
    go_ret2
    exact ⟨rfl, rfl⟩

end Go.Proofs.Ytaaolnepkgcbaaa
