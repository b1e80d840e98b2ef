/- nat.Pow, ref.Pow. -/
import Derived.Test.YtaaolnepkgcbaaaSub
import Derived.Test.YtaaolnepkgcbaaaTimes
import Derived.Test.YtaaolnepkgcbaaaMathP
namespace Go.Proofs.Ytaaolnepkgcbaaa
open Go.RowKit Lb
set_option linter.unusedVariables false

/-- What has at most 4096 limbs. -/
@[irreducible] def lim : Int := pw 4096
theorem lim_eq : lim = pw 4096 := by unfold lim; rfl
theorem lim_pos : 0 < lim := by rw [lim_eq]; exact pw_pos _
theorem one_lt_lim : 1 < lim := by rw [lim_eq]; exact val_lt_pw (xs := [1]) (by exact Lm.cons (by decide) (by decide) Lm.nil) (by simp)
theorem val_lt_lim {xs : List Int} (hl : Lm xs) (h : xs.length ≤ 4096) : val xs < lim := by rw [lim_eq]; exact val_lt_pw hl h
theorem lim_big {x : Int} {r n : Nat} (h : 2 ^ r ≤ x) (hm : 131072 ≤ r * n) : lim ≤ x ^ n := by rw [lim_eq]; have := pow_big (n := n) (m := 4096) h (by omega); omega
theorem lim_big_exp {x : Int} {n : Nat} (h : 2 ≤ x) (hm : 131072 ≤ n) : lim ≤ x ^ n := by rw [lim_eq]; have := pow_big_exp (n := n) (m := 4096) h (by omega); omega

/-- What has at most 8192 limbs. -/
@[irreducible] def lim2 : Int := pw 8192
theorem lim2_len {xs : List Int} (hl : Lm xs) (hc : Cn xs) (h : val xs < lim2) : xs.length ≤ 8192 := by unfold lim2 at h; exact len_of_lt hl hc h
theorem lim2_small {x : Int} {r n : Nat} (h0 : 0 ≤ x) (h : x < 2 ^ r) (hn : n ≠ 0) (hm : r * n ≤ 262144) : x ^ n < lim2 := by unfold lim2; exact pow_small h0 h hn (by omega)

/-- Pow's result for an exponent that is not negative: the power, or ErrBig where it has more than 4096 limbs. -/
@[irreducible] def PowPost (w : World) (K : Int) (n : Nat) (e : Ending) (w' : World) : Prop :=
  (K ^ n < lim ∧ Ret2 w (Num (K ^ n) 4096) e w') ∨ (lim ≤ K ^ n ∧ e = .returned (.tuple #[.slice none 0 0, .int .i64 8]) ∧ Below w.heap.size w w')
theorem PowPost.one {w w' : World} {K : Int} {n : Nat} {a : Option Addr} {m c : Nat} {xs : List Int} (h : K ^ n = 1) (hs : Sl w' a m c xs) (hb : Below w.heap.size w w') (hc : Cn xs) (hv : val xs = 1) (hl : m ≤ 4096) : PowPost w K n (.returned (.tuple #[.slice a m c, .int .i64 0])) w' := by
  unfold PowPost
  exact .inl ⟨by rw [h]; exact one_lt_lim, a, m, c, xs, rfl, hs, hb, hc, by rw [hv, h], by have := hs.len; omega⟩
theorem PowPost.zero {w w' : World} {K : Int} {n : Nat} (h : K ^ n = 0) (hb : Below w.heap.size w w') : PowPost w K n (.returned (.tuple #[.slice none 0 0, .int .i64 0])) w' := by
  unfold PowPost
  exact .inl ⟨by rw [h]; exact lim_pos, none, 0, 0, [], rfl, Sl.empty _, hb, Cn.nil, by rw [h]; rfl, by simp⟩
theorem PowPost.big {w w' : World} {K : Int} {n : Nat} (h : lim ≤ K ^ n) (hb : Below w.heap.size w w') : PowPost w K n (.returned (.tuple #[.slice none 0 0, .int .i64 8])) w' := by
  unfold PowPost
  exact .inr ⟨h, rfl, hb⟩
theorem PowPost.fits {w w' : World} {K : Int} {n : Nat} {a : Option Addr} {m c : Nat} {xs : List Int} (hs : Sl w' a m c xs) (hb : Below w.heap.size w w') (hc : Cn xs) (hv : val xs = K ^ n) (hl : m ≤ 4096) : PowPost w K n (.returned (.tuple #[.slice a m c, .int .i64 0])) w' := by
  unfold PowPost
  exact .inl ⟨by rw [← hv]; exact val_lt_lim hs.lm (by have := hs.len; omega), a, m, c, xs, rfl, hs, hb, hc, hv, by have := hs.len; omega⟩
theorem long_big {xs : List Int} {K : Int} {n : Nat} (hl : Lm xs) (hc : Cn xs) (hv : val xs = K ^ n) (h : 4096 < xs.length) : lim ≤ K ^ n := by
  rw [← hv, lim_eq]
  apply Int.le_of_not_gt
  intro h'
  have := len_of_lt hl hc h'
  omega

theorem and_one_i64 (n : Nat) (h : n ≤ 9223372036854775807) : bits .and .i64 (n : Int) 1 = (n : Int) % 2 :=
  bits_mask .i64 63 (by decide) wraps_i64 1 (by decide) n (by omega) (by omega)

theorem pow_neg (a : Option Addr) (n c : Nat) (N : Int) (w : World) (h : N < 0) :
    Calls Try.prog 34 #[.slice a n c, .int .i64 N] w fun e w' => e = .returned (.tuple #[.slice none 0 0, .int .i64 6]) ∧ w = w' := by
  go_enter Try.func34, Try.ntmps34
  go_wp2_with fail
  go_ret2
  exact ⟨rfl, rfl⟩
theorem rpow_neg (a : Option Addr) (n c : Nat) (N : Int) (w : World) (h : N < 0) :
    Calls Try.prog 35 #[.slice a n c, .int .i64 N] w fun e w' => e = .returned (.tuple #[.slice none 0 0, .int .i64 6]) ∧ w = w' := by
  go_enter Try.func35, Try.ntmps35
  go_wp2_with fail
  go_ret2
  exact ⟨rfl, rfl⟩

def SqW (w : World) (A : Int) (n : Nat) (o s : Value) (wr : World) : Prop :=
  Below w.heap.size w wr ∧ ∃ a1 n1 c1 os a2 n2 c2 ss, o = .slice a1 n1 c1 ∧ s = .slice a2 n2 c2 ∧ Sl wr a1 n1 c1 os ∧ Sl wr a2 n2 c2 ss ∧ Cn os ∧ Cn ss ∧ SqRel A (val os) (val ss) n

set_option maxHeartbeats 4000000 in
set_option maxRecDepth 100000 in
theorem pow_any (a : Option Addr) (n c : Nat) (xs : List Int) (N : Nat) (w : World) (h : Sl w a n c xs) (hN : N ≤ 9223372036854775807) :
    Calls Try.prog 34 #[.slice a n c, .int .i64 N] w (PowPost w (val xs) N) := by
  have h0 := val_nonneg h.lm
  have sn := h.sm
  have hlt := val_lt h.lm
  have HLT : Hid (val xs < 2 ^ (32 * n)) := by unfold Hid; rw [← pw_eq, ← h.len]; exact hlt
  clear hlt
  go_enter Try.func34, Try.ntmps34
  go_wp2_with fail
  refine (bits_any _ _ _ _ _ h).mono ?_
  rintro e w1 ⟨r, hr, rfl, rfl⟩
  have HR := Lib.hid hr
  have hrn : r ≤ 32 * n := HR.out.le HLT.out
  clear hr
  by_cases hN0 : N = 0
  · subst hN0
    go_wp2_with fail
    go_ret2
    exact PowPost.one (by rw [Int.pow_zero]) (sl_one _ 1 (by decide)) (below_alloc _ _) (cn_one (by decide)) rfl (by omega)
  have e0 : ((N : Int) == 0) = false := by simp; omega
  have hN1 : 1 ≤ N := by omega
  by_cases hr1 : r = 1
  · subst hr1
    have hK : Hid (val xs = 1) := by
      obtain ⟨q1, q2⟩ := HR.out
      unfold Hid
      simp at q1 q2
      omega
    go_wp2_with fail
    go_ret2
    exact PowPost.one (by rw [hK.out, Int.one_pow]) (sl_one _ 1 (by decide)) (below_alloc _ _) (cn_one (by decide)) rfl (by omega)
  have e1 : ((r : Int) == 1) = false := by simp; omega
  by_cases hr0 : r = 0
  · subst hr0
    have hK : Hid (val xs = 0) := by
      obtain ⟨q1, q2⟩ := HR.out
      unfold Hid
      simp at q1
      omega
    go_wp2_with fail
    go_ret2
    exact PowPost.zero (by rw [hK.out]; exact Int.zero_pow (by omega)) (Below.refl _ _)
  have e2 : ((r : Int) == 0) = false := by simp; omega
  have hr2 : 2 ≤ r := by omega
  have HK : Hid (2 ^ (r - 1) ≤ val xs) := by
    rcases HR.out.2 with q | q
    · exact absurd q hr0
    · exact q
  have HK2 : Hid (2 ≤ val xs) := by
    have := pow2_mono (show 1 ≤ r - 1 by omega)
    have := HK.out
    unfold Hid
    omega
  clear hr0 hr1 hN0
  by_cases hbig : 131072 < N
  · have HB := Lib.hid (lim_big_exp (n := N) HK2.out (by omega))
    go_wp2_with fail
    go_ret2
    exact PowPost.big HB.out (Below.refl _ _)
  obtain ⟨q, hq⟩ : ∃ q, r = q + 1 := ⟨r - 1, by omega⟩
  subst hq
  have HMul : Hid (q * N ≤ 33554432 * 131072) := Nat.mul_le_mul (by omega) (by omega)
  by_cases hbig2 : 131072 ≤ q * N
  · have HB := Lib.hid (lim_big (n := N) HK.out hbig2)
    have mc : Hid (((q * N : Nat) : Int) = (q : Int) * (N : Int)) := Int.natCast_mul q N
    have m1 : 131072 ≤ (q : Int) * (N : Int) := by have := mc.out; omega
    have m2 : (q : Int) * (N : Int) ≤ 4398046511104 := by have := mc.out; have := HMul.out; omega
    go_wp2_with fail
    go_ret2
    exact PowPost.big HB.out (Below.refl _ _)
  have HA : Hid (val xs ^ N < lim2) := lim2_small h0 HR.out.1 (by omega) (by rw [Nat.add_mul]; have := Nat.mul_le_mul_right N (show 1 ≤ q by omega); omega)
  have mc : Hid (((q * N : Nat) : Int) = (q : Int) * (N : Int)) := Int.natCast_mul q N
  have m0 : 0 ≤ (q : Int) * (N : Int) := by have := mc.out; omega
  have m1 : (q : Int) * (N : Int) < 131072 := by have := mc.out; omega
  have hx1 := Lib.hid (show 1 ≤ val xs by have := HK2.out; omega)
  obtain ⟨P, hP⟩ : ∃ P : Int, (q : Int) * (N : Int) = P := ⟨_, rfl⟩
  rw [hP] at m0 m1
  clear HMul hbig2 mc
  go_wp2_with fail
  refine (short_sl _ _ _ _ _ (h.alloc _)).mono ?_
  rintro e w3 ⟨p, us, rfl, rfl, hu, hp, hcu, hvu⟩
  have HU := Lib.hid hvu
  have HCU := Lib.hid hcu
  clear hvu hcu
  go_wp2_with fail
  go_loopw [1, 7, 8] (fun t o s wr => ∃ m : Nat, m ≤ N ∧ t = .int .i64 m ∧ SqW w (val xs ^ N) m o s wr) (fun t _ _ _ => (intOf t).toNat)
  case atStart => exact ⟨N, Nat.le_refl _, rfl, below_alloc _ _, _, _, _, [1], _, _, _, us, rfl, rfl, sl_one w 1 (by decide), hu, cn_one (by decide), HCU.out, by decide, by rw [HU.out]; exact hx1.out, hN1, by rw [HU.out, val_one, Int.one_mul]⟩
  case round =>
    obtain ⟨m, hm, rfl, hb, a1, n1, c1, os, a2, n2, c2, ss, rfl, rfl, ho, hs, hco, hcs, hsq⟩ := hrel
    have HO := Lib.hid hco
    have HS := Lib.hid hcs
    have HQ := Lib.hid hsq
    have m1 : 1 ≤ m := hsq.2.2.1
    have hle := hsq.le
    have l1 : n1 ≤ 8192 := by have := lim2_len ho.lm hco (by have := HA.out; omega); have := ho.len; omega
    have l2 : n2 ≤ 8192 := by have := lim2_len hs.lm hcs (by have := HA.out; omega); have := hs.len; omega
    clear hco hcs hsq hle
    by_cases hodd : m % 2 = 1
    · have hand : bits .and .i64 (m : Int) 1 = 1 := by rw [and_one_i64 m (by omega)]; omega
      clear hodd
      have hodd2 : Hid (m % 2 = 1) := by
        have := and_one_i64 m (by omega)
        rw [hand] at this
        unfold Hid
        omega
      by_cases hm1 : m = 1
      · subst hm1
        have hf := Lib.hid ((HQ.out.odd rfl).1 rfl)
        go_wp2_with fail
        refine (times_any _ _ _ _ _ _ _ _ _ ho hs (by omega)).mono ?_
        rintro e w4 ⟨a4, n4, c4, x4, rfl, g4⟩
        have s4 := g4.sl
        have V4 : Hid (val x4 = val xs ^ N) := by unfold Hid; rw [g4.prop.2.1, hf.out]
        by_cases hl : 4096 < n4
        · have HB := Lib.hid (long_big s4.lm g4.prop.1 V4.out (by rw [s4.len]; exact hl))
          go_wp2_with fail
          go_ret2
          exact PowPost.big HB.out (chain hb g4.bel)
        · go_wp2_with fail
          refine (trim_any _ _ _ _ _ s4).mono ?_
          rintro e w5 ⟨a5, n5, c5, x5, rfl, g5⟩
          go_wp2_with fail
          go_ret2
          exact PowPost.fits g5.sl (chain (chain hb g4.bel) g5.bel) g5.prop.1 (by rw [g5.prop.2.1, V4.out]) (by have := g5.prop.2.2; have := g5.sl.len; omega)
      · have hm2 : 1 ≤ m / 2 := by have := hodd2.out; omega
        have e3 : ((m : Int) / 2 == 0) = false := by simp; omega
        have hf := Lib.hid ((HQ.out.odd hodd2.out).2.1 hm2)
        go_wp2_with fail
        refine (times_any _ _ _ _ _ _ _ _ _ ho hs (by omega)).mono ?_
        rintro e w4 ⟨a4, n4, c4, x4, rfl, g4⟩
        go_wp2_with fail
        refine (times_any _ _ _ _ _ _ _ _ _ (hs.kept g4.bel) (hs.kept g4.bel) (by omega)).mono ?_
        rintro e w5 ⟨a5, n5, c5, x5, rfl, g5⟩
        go_wp2_with fail
        go_roundw
        case rel => exact ⟨m / 2, by omega, by simp, chain (chain hb g4.bel) g5.bel, _, _, _, x4, _, _, _, x5, rfl, rfl, g4.sl.kept g5.bel, g5.sl, g4.prop.1, g5.prop.1, by rw [g4.prop.2.1, g5.prop.2.1]; exact hf.out⟩
        case measure => simp [intOf]; omega
    · have hand : bits .and .i64 (m : Int) 1 = 0 := by rw [and_one_i64 m (by omega)]; omega
      have hev : m % 2 = 0 := by omega
      have hf := HQ.out.even hev
      have hm2 : 1 ≤ m / 2 := hf.1
      have HF := Lib.hid hf.2
      have e3 : ((m : Int) / 2 == 0) = false := by simp; omega
      clear hodd hev hf
      go_wp2_with fail
      refine (times_any _ _ _ _ _ _ _ _ _ hs hs (by omega)).mono ?_
      rintro e w5 ⟨a5, n5, c5, x5, rfl, g5⟩
      go_wp2_with fail
      go_roundw
      case rel => exact ⟨m / 2, by omega, by simp, chain hb g5.bel, _, _, _, os, _, _, _, x5, rfl, rfl, ho.kept g5.bel, g5.sl, HO.out, g5.prop.1, by rw [g5.prop.2.1]; exact HF.out⟩
      case measure => simp [intOf]; omega


/-- ref.Pow's divisor while i rounds are to come. -/
@[irreducible] def dv (i : Nat) : Nat := if i = 0 then 0 else 2 ^ (i - 1)
theorem dv_zero : dv 0 = 0 := by unfold dv; rfl
theorem dv_succ (i : Nat) : dv (i + 1) = 2 ^ i := by unfold dv; rw [if_neg (by omega), Nat.add_sub_cancel]
theorem dv_half (i : Nat) : dv (i + 1) / 2 = dv i := by
  cases i with
  | zero => rw [dv_succ, dv_zero]
  | succ i => rw [dv_succ, dv_succ, Nat.pow_succ]; omega
theorem dv_start : dv 19 = 262144 := by unfold dv; rfl
theorem dv_bd (i : Nat) (h : i ≤ 19) : dv i ≤ 262144 := by
  cases i with
  | zero => rw [dv_zero]; omega
  | succ i => rw [dv_succ]; exact Nat.le_trans (Nat.pow_le_pow_right (by decide) (show i ≤ 18 by omega)) (by decide)
theorem dv_pos (i : Nat) : 1 ≤ dv (i + 1) := by rw [dv_succ]; exact Nat.one_le_two_pow

def RPowRel (w : World) (K : Int) (N i : Nat) (v : Value) (wr : World) : Prop :=
  Below w.heap.size w wr ∧ ∃ a n c os, v = .slice a n c ∧ Sl wr a n c os ∧ n ≤ 4096 ∧ Cn os ∧ val os = K ^ (N / 2 ^ i)
theorem half_split {N D : Nat} (h : 1 ≤ D) : N / D = 2 * (N / (2 * D)) + N / D % 2 := by
  rw [div_two_mul]; omega

set_option maxHeartbeats 4000000 in
set_option maxRecDepth 100000 in
theorem rpow_any (a : Option Addr) (n c : Nat) (xs : List Int) (N : Nat) (w : World) (h : Sl w a n c xs) (hN : N ≤ 9223372036854775807) (hn : n ≤ 100000) :
    Calls Try.prog 35 #[.slice a n c, .int .i64 N] w (PowPost w (val xs) N) := by
  have h0 := val_nonneg h.lm
  go_enter Try.func35, Try.ntmps35
  go_wp2_with fail
  refine (rtrim_any _ _ _ _ _ h).mono ?_
  rintro e w1 ⟨a1, n1, c1, us, rfl, g1⟩
  have hu := g1.sl
  have hb := g1.bel
  have HU := Lib.hid g1.prop.2.1
  have HCU := Lib.hid g1.prop.1
  have hn1 : n1 ≤ 100000 := by have := g1.prop.2.2; have := hu.len; omega
  clear g1 h
  by_cases hN0 : N = 0
  · subst hN0
    go_wp2_with fail
    go_ret2
    exact PowPost.one (by rw [Int.pow_zero]) (sl_one _ 1 (by decide)) (chain_alloc hb _) (cn_one (by decide)) rfl (by omega)
  have e0 : ((N : Int) == 0) = false := by simp; omega
  have hN1 : 1 ≤ N := by omega
  clear hN0
  go_wp2_with fail
  refine (rbits_any _ _ _ _ _ hu).mono ?_
  rintro e w2 ⟨r0, rfl, ⟨r, rfl, hr⟩, hb2⟩
  have HR : Hid (IsBl (val xs) r) := by unfold Hid; rw [← HU.out]; exact hr
  have hu2 := hu.kept hb2
  have hbb := chain hb hb2
  clear hr hu
  by_cases hr1 : r ≤ 1
  · have hK : Hid (val xs ^ N = val xs) := by
      unfold Hid
      have hr2 : val xs < 2 := by have := HR.out.lt_of hr1; simpa using this
      have : val xs = 0 ∨ val xs = 1 := by omega
      rcases this with h | h
      · rw [h]; exact Int.zero_pow (by omega)
      · rw [h, Int.one_pow]
    have hsm : Hid (n1 ≤ 1) := by
      unfold Hid
      have hr2 : val xs < 2 := by have := HR.out.lt_of hr1; simpa using this
      have := len_of_lt (m := 1) hu2.lm HCU.out (by rw [HU.out, pw_succ, pw_zero]; omega)
      have := hu2.len
      omega
    go_wp2_with fail
    go_ret2
    exact PowPost.fits hu2 hbb HCU.out (by rw [HU.out, hK.out]) (by have := hsm.out; omega)
  have HK2 : Hid (2 ≤ val xs) := by
    rcases HR.out.2 with q | q
    · omega
    · have := pow2_mono (show 1 ≤ r - 1 by omega)
      unfold Hid
      omega
  by_cases hbig : 131072 < N
  · have HB := Lib.hid (lim_big_exp (n := N) HK2.out (by omega))
    go_wp2_with fail
    go_ret2
    exact PowPost.big HB.out hbb
  have HS : Hid (N / 2 ^ 19 = 0) := Nat.div_eq_of_lt (Nat.lt_of_le_of_lt (show N ≤ 131072 by omega) (by decide))
  have hx1 := Lib.hid (show 1 ≤ val xs by have := HK2.out; omega)
  go_wp2_with fail
  go_loopw [6, 7] (fun o t wr => ∃ i D : Nat, i ≤ 19 ∧ Hid (D = dv i) ∧ t = .int .i64 D ∧ Below w2.heap.size w2 wr ∧ RPowRel w (val xs) N i o wr) (fun _ t _ => (intOf t).toNat)
  case atStart => exact ⟨19, 262144, by omega, dv_start.symm, rfl, below_alloc _ _, chain_alloc hbb _, _, _, _, [1], rfl, sl_one w2 1 (by decide), by omega, cn_one (by decide), by rw [HS.out, Int.pow_zero]; rfl⟩
  case round =>
    obtain ⟨i, D, hi, hD, rfl, hbw2, hb3, a2, n2, c2, os, rfl, ho, hn2, hco, hvo⟩ := hrel
    have HO := Lib.hid hco
    have HV := Lib.hid hvo
    clear hco hvo
    cases i with
    | zero =>
      obtain rfl : D = 0 := by rw [hD.out, dv_zero]
      go_wp2_with fail
      go_ret2
      exact PowPost.fits ho hb3 HO.out (by rw [HV.out, Nat.pow_zero, Nat.div_one]) hn2
    | succ i =>
      have hD1 : 1 ≤ D := by rw [hD.out]; exact dv_pos i
      have hD2 : D ≤ 262144 := by rw [hD.out]; exact dv_bd _ hi
      have H2 : Hid (2 ^ (i + 1) = 2 * D) := by unfold Hid; rw [hD.out, dv_succ, Nat.pow_succ, Nat.mul_comm]
      have HD3 : Hid (2 ^ i = D) := by unfold Hid; rw [hD.out, dv_succ]
      have HD4 : Hid (D / 2 = dv i) := by unfold Hid; rw [hD.out, dv_half]
      have hu3 := hu2.kept hbw2
      have hsp := Lib.hid (half_split (N := N) hD1)
      have HV2 : Hid (val os * val os = val xs ^ (2 * (N / (2 * D)))) := by
        unfold Hid
        rw [HV.out, H2.out, ← Int.pow_add]
        congr 1; omega
      clear hD
      have hdd : Hid (((N / D : Nat) : Int) = (N : Int) / (D : Int)) := Int.natCast_ediv N D
      have hq0 : 0 ≤ (N : Int) / (D : Int) := by rw [← hdd.out]; exact Int.natCast_nonneg _
      have hq1 : (N : Int) / (D : Int) ≤ 131072 := by rw [← hdd.out]; have := Nat.div_le_self N D; generalize N / D = Q at *; omega
      by_cases hodd : N / D % 2 = 1
      · have ho1 : ((N : Int) / (D : Int)) % 2 = 1 := by rw [← hdd.out]; generalize N / D = Q at *; omega
        have HOdd := Lib.hid hodd
        clear hodd
        go_wp2_with fail
        refine (rmul_any _ _ _ _ _ _ _ _ _ ho ho (by omega)).mono ?_
        rintro e w4 ⟨a4, n4, c4, x4, rfl, g4⟩
        have l4 : n4 ≤ 8192 := by have := g4.prop.2.2; have := g4.sl.len; omega
        go_wp2_with fail
        refine (rmul_any _ _ _ _ _ _ _ _ _ g4.sl (hu3.kept g4.bel) (by omega)).mono ?_
        rintro e w5 ⟨a5, n5, c5, x5, rfl, g5⟩
        have V5 : Hid (val x5 = val xs ^ (N / D)) := by
          unfold Hid
          rw [g5.prop.2.1, g4.prop.2.1, HU.out, HV2.out, ← Int.pow_succ, hsp.out, HOdd.out]
        have s5 := g5.sl
        have hb5 := chain (chain hb3 g4.bel) g5.bel
        have hb6 := chain (chain hbw2 g4.bel) g5.bel
        by_cases hl : 4096 < n5
        · have HB : Hid (lim ≤ val xs ^ N) := by
            have h1 := long_big s5.lm g5.prop.1 V5.out (by rw [s5.len]; exact hl)
            have h2 := pow_le_of_le hx1.out (Nat.div_le_self N D)
            unfold Hid; omega
          go_wp2_with fail
          go_ret2
          exact PowPost.big HB.out hb5
        · go_wp2_with fail
          go_roundw
          case rel => exact ⟨i, D / 2, by omega, HD4, by simp, hb6, hb5, _, _, _, x5, rfl, s5, by omega, g5.prop.1, by rw [V5.out, HD3.out]⟩
          case measure => simp [intOf]; omega
      · have ho1 : ((N : Int) / (D : Int)) % 2 = 0 := by rw [← hdd.out]; generalize N / D = Q at *; omega
        have HOdd : Hid (N / D % 2 = 0) := by unfold Hid; generalize N / D = Q at *; omega
        clear hodd
        go_wp2_with fail
        refine (rmul_any _ _ _ _ _ _ _ _ _ ho ho (by omega)).mono ?_
        rintro e w4 ⟨a4, n4, c4, x4, rfl, g4⟩
        have V5 : Hid (val x4 = val xs ^ (N / D)) := by
          unfold Hid
          rw [g4.prop.2.1, HV2.out, hsp.out, HOdd.out, Nat.add_zero]
        have s5 := g4.sl
        have hb5 := chain hb3 g4.bel
        have hb6 := chain hbw2 g4.bel
        by_cases hl : 4096 < n4
        · have HB : Hid (lim ≤ val xs ^ N) := by
            have h1 := long_big s5.lm g4.prop.1 V5.out (by rw [s5.len]; exact hl)
            have h2 := pow_le_of_le hx1.out (Nat.div_le_self N D)
            unfold Hid; omega
          go_wp2_with fail
          go_ret2
          exact PowPost.big HB.out hb5
        · go_wp2_with fail
          go_roundw
          case rel => exact ⟨i, D / 2, by omega, HD4, by simp, hb6, hb5, _, _, _, x4, rfl, s5, by omega, g4.prop.1, by rw [V5.out, HD3.out]⟩
          case measure => simp [intOf]; omega

end Go.Proofs.Ytaaolnepkgcbaaa
