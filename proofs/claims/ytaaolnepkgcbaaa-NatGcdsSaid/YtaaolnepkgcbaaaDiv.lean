/- nat.DivMod, nat.Gcd. -/
import Derived.Test.YtaaolnepkgcbaaaLong
import Derived.Test.YtaaolnepkgcbaaaDigit
import Derived.Deep.LoopGhost
namespace Go.Proofs.Ytaaolnepkgcbaaa
open Go.RowKit Lb
set_option linter.unusedVariables false

/-- DivMod's results where the divisor is not 0. -/
def DivPost (w : World) (A B : Int) (n m : Nat) (e : Ending) (w' : World) : Prop :=
  ∃ a1 n1 c1 qs a2 n2 c2 rs, e = .returned (.tuple #[.slice a1 n1 c1, .slice a2 n2 c2, .int .i64 0]) ∧ Sl w' a1 n1 c1 qs ∧ Sl w' a2 n2 c2 rs ∧ Below w.heap.size w w' ∧ Num (A / B) n qs ∧ Num (A % B) m rs

theorem Cn.zero_len {xs : List Int} (hl : Lm xs) (hc : Cn xs) (h : val xs = 0) : xs.length = 0 := by
  have := len_of_lt (m := 0) hl hc (by rw [h]; decide)
  omega

set_option maxHeartbeats 1000000 in
theorem divmod_zero (a b : Option Addr) (n c m d : Nat) (xs ys : List Int) (w : World) (h : Sl w a n c xs) (h' : Sl w b m d ys) (h0 : val ys = 0) :
    Calls Try.prog 39 #[.slice a n c, .slice b m d] w fun e w' => e = .returned (.tuple #[.slice none 0 0, .slice none 0 0, .int .i64 7]) ∧ w = w' := by
  have H0 := Lib.hid h0
  clear h0
  go_enter Try.func39, Try.ntmps39
  go_wp2_with fail
  refine (short_sl _ _ _ _ _ h).mono ?_
  rintro e w3 ⟨p, us, rfl, rfl, hu, hp, hcu, hvu⟩
  clear hvu hcu
  go_wp2_with fail
  refine (short_sl _ _ _ _ _ h').mono ?_
  rintro e w3 ⟨q, vs, rfl, rfl, hv, hq, hcv, hvv⟩
  obtain rfl : q = 0 := by rw [← hv.len]; exact Cn.zero_len hv.lm hcv (by rw [hvv, H0.out])
  clear hcv hvv
  go_wp2_with fail
  go_ret3
  exact ⟨rfl, rfl⟩

set_option maxHeartbeats 2000000 in
theorem divmod_any (a b : Option Addr) (n c m d : Nat) (xs ys : List Int) (w : World) (h : Sl w a n c xs) (h' : Sl w b m d ys) (hpos : 0 < val ys) (hn : n ≤ 1000000) (hm : m ≤ 1000000) :
    Calls Try.prog 39 #[.slice a n c, .slice b m d] w (DivPost w (val xs) (val ys) n m) := by
  have HP := Lib.hid hpos
  clear hpos
  go_enter Try.func39, Try.ntmps39
  go_wp2_with fail
  refine (short_sl _ _ _ _ _ h).mono ?_
  rintro e w3 ⟨p, us, rfl, rfl, hu, hp, hcu, hvu⟩
  go_wp2_with fail
  refine (short_sl _ _ _ _ _ h').mono ?_
  rintro e w3 ⟨q, vs, rfl, rfl, hv, hq, hcv, hvv⟩
  have HU := Lib.hid hvu
  have HV := Lib.hid hvv
  have HCU := Lib.hid hcu
  have HCV := Lib.hid hcv
  have hq0 : 1 ≤ q := by
    apply Nat.one_le_iff_ne_zero.2
    intro e0
    have hvl := hv.len
    obtain rfl : vs = [] := List.eq_nil_of_length_eq_zero (by omega)
    have e1 : (0 : Int) = val ys := HV.out
    have := HP.out
    omega
  clear hvu hvv hcu hcv h h'
  have e0 : ((q : Int) == 0) = false := by simp; omega
  go_wp2_with fail
  by_cases hlt : val us < val vs
  · refine (cmp_is hu hv (cmpv_lt hlt)).mono ?_
    rintro e w1 ⟨rfl, hb1⟩
    have HLT : Hid (val xs < val ys) := by unfold Hid; rw [← HU.out, ← HV.out]; exact hlt
    clear hlt
    go_wp2_with fail
    refine (trim_any _ _ _ _ _ (hu.kept hb1)).mono ?_
    rintro e w4 ⟨a4, n4, c4, x4, rfl, g4⟩
    have hx0 := Lib.hid (show 0 ≤ val xs by rw [← HU.out]; exact val_nonneg hu.lm)
    have D1 := Lib.hid (Int.ediv_eq_zero_of_lt hx0.out HLT.out)
    have D2 := Lib.hid (Int.emod_eq_of_lt hx0.out HLT.out)
    have l4 := Lib.hid (show x4.length ≤ m by
      have h1 := length_le g4.sl.lm hv.lm g4.prop.1 (show val x4 ≤ val vs by rw [g4.prop.2.1, HU.out, HV.out]; have := HLT.out; omega)
      have := hv.len
      omega)
    go_wp2_with fail
    go_ret3
    exact ⟨none, 0, 0, [], _, _, _, x4, rfl, Sl.empty _, g4.sl, chain hb1 g4.bel, ⟨Cn.nil, by rw [D1.out]; rfl, by simp⟩, g4.prop.1, by rw [g4.prop.2.1, HU.out, D2.out], l4.out⟩
  · refine (cmp_any _ _ _ _ _ _ _ _ _ hu hv).mono ?_
    rintro e w1 ⟨rfl, hb1⟩
    have hge : 0 ≤ cmpv (val us) (val vs) := by have := @cmpv_neg (val us) (val vs); omega
    have HLE := Lib.hid (show val vs ≤ val us by omega)
    clear hlt
    have hu1 := hu.kept hb1
    have hv1 := hv.kept hb1
    by_cases hq1 : q = 1
    · subst hq1
      obtain ⟨bv, ov, rfl, hbv, hcell⟩ := hv1.at_ (by omega)
      have cv : w1.cell? ⟨bv, ov, none⟩ = some (.int .u32 (rdl vs 0)) := by have := hcell 0 (by omega); rwa [Nat.add_zero] at this
      have bv0 := rdl_bd hv1.lm 0
      have e1 : Hid (val vs = rdl vs 0) := by
        unfold Hid
        have hl := hv1.len
        match vs, hl with
        | [v], _ => simp [val, rdl]
      have hv0p : 0 < rdl vs 0 := by have := e1.out; have := HV.out; have := HP.out; omega
      clear hcell
      go_wp2_with fail
      refine (digit_any _ _ _ _ _ _ hu1 hv0p bv0.2).mono ?_
      rintro e w4 ⟨a4, n4, c4, x4, rfl, g4⟩
      have r0 : 0 ≤ val us % rdl vs 0 := Int.emod_nonneg _ (by omega)
      have r1 : val us % rdl vs 0 < 4294967296 := by have := Int.emod_lt_of_pos (val us) hv0p; omega
      have EQ := Lib.hid (show val us / rdl vs 0 = val xs / val ys by rw [HU.out, ← e1.out, HV.out])
      have ER := Lib.hid (show val us % rdl vs 0 = val xs % val ys by rw [HU.out, ← e1.out, HV.out])
      obtain ⟨rr, hrr⟩ : ∃ x, val us % rdl vs 0 = x := ⟨_, rfl⟩
      rw [hrr] at r0 r1 ER ⊢
      clear hrr
      go_wp2_with fail
      refine (of_any _ _ r0 (by omega)).mono ?_
      rintro e w5 ⟨a5, n5, c5, x5, rfl, g5⟩
      have l5 := Lib.hid (show x5.length ≤ 1 from len_of_lt g5.sl.lm g5.prop.1 (by rw [g5.prop.2.1, pw_succ, pw_zero]; omega))
      go_wp2_with fail
      go_ret3
      exact ⟨_, _, _, x4, _, _, _, x5, rfl, g4.sl.kept g5.bel, g5.sl, chain (chain hb1 g4.bel) g5.bel, ⟨g4.prop.1, by rw [g4.prop.2.1, EQ.out], by have := g4.prop.2.2; omega⟩, g5.prop.1, by rw [g5.prop.2.1, ER.out], by have := l5.out; omega⟩
    · obtain ⟨κ, rfl⟩ : ∃ κ, q = κ + 2 := ⟨q - 2, by omega⟩
      have hpq : κ + 2 ≤ p := by
        have := length_le hv.lm hu.lm HCV.out HLE.out
        rw [hv.len, hu.len] at this
        exact this
      obtain ⟨μ, rfl⟩ : ∃ μ, p = κ + 2 + μ := ⟨p - (κ + 2), by omega⟩
      obtain ⟨bv, ov, rfl, hbv, hcell⟩ := hv1.at_ (by omega)
      have hκ : κ + μ ≤ 1000000 := by omega
      have HK := Lib.hid hκ
      have e2 : ((κ : Int) + 2 == 1) = false := by simp; omega
      have e3 : ((κ : Int) + 2 == 0) = false := by simp; omega
      have HB1 := Lib.hid hp
      have HB2 := Lib.hid hq
      clear hcell hκ hq1 e0 hq0 hpq hp hq
      go_wp2_with fail
      refine (longdiv_any _ κ μ _ _ _ _ _ _ _ hu1 hv1 HCV.out HK.out).mono ?_
      rintro e w4 ⟨a4, n4, c4, qs, a5, n5, c5, rs, rfl, s4, s5, hb4, v4, v5, l4, l5⟩
      have V4 := Lib.hid v4
      have V5 := Lib.hid v5
      have L4 := Lib.hid l4
      have L5 := Lib.hid l5
      clear v4 v5 l4 l5
      go_wp2_with fail
      refine (trim_any _ _ _ _ _ s4).mono ?_
      rintro e w6 ⟨a6, n6, c6, x6, rfl, g6⟩
      go_wp2_with fail
      refine (trim_any _ _ _ _ _ (s5.kept g6.bel)).mono ?_
      rintro e w7 ⟨a7, n7, c7, x7, rfl, g7⟩
      go_wp2_with fail
      go_ret3
      exact ⟨_, _, _, x6, _, _, _, x7, rfl, g6.sl.kept g7.bel, g7.sl, chain (chain (chain hb1 hb4) g6.bel) g7.bel, ⟨g6.prop.1, by rw [g6.prop.2.1, V4.out, HU.out, HV.out], by have := g6.prop.2.2; have := L4.out; have := HB1.out; omega⟩, g7.prop.1, by rw [g7.prop.2.1, V5.out, HU.out, HV.out], by have := g7.prop.2.2; have := L5.out; have := HB2.out; omega⟩


/-- The greatest common divisor. -/
def gcdv (x y : Int) : Int := (Nat.gcd x.toNat y.toNat : Nat)
theorem gcdv_zero {x : Int} (h : 0 ≤ x) : gcdv x 0 = x := by unfold gcdv; simp; omega
theorem gcdv_step {x y : Int} (hx : 0 ≤ x) (hy : 0 < y) : gcdv x y = gcdv y (x % y) := by
  unfold gcdv
  obtain ⟨a, rfl⟩ := Int.eq_ofNat_of_zero_le hx
  obtain ⟨b, rfl⟩ := Int.eq_ofNat_of_zero_le (show 0 ≤ y by omega)
  have e : ((a : Int) % (b : Int)).toNat = a % b := by rw [← Int.natCast_emod, Int.toNat_natCast]
  rw [e, Int.toNat_natCast, Int.toNat_natCast, Nat.gcd_comm, Nat.gcd_rec, Nat.gcd_comm]

/-- Gcd's loop. -/
def GcdRel (w : World) (L : Nat) (K : Int) (va vb : Value) (N : Nat) (wr : World) : Prop :=
  Below w.heap.size w wr ∧ ∃ a n c us b m d vs, va = .slice a n c ∧ vb = .slice b m d ∧ Sl wr a n c us ∧ Sl wr b m d vs ∧ Cn us ∧ Cn vs ∧ n ≤ L ∧ m ≤ L ∧ gcdv (val us) (val vs) = K ∧ val vs = N

set_option maxHeartbeats 2000000 in
theorem gcd_any (a b : Option Addr) (n c m d : Nat) (xs ys : List Int) (w : World) (h : Sl w a n c xs) (h' : Sl w b m d ys) (L : Nat) (hn : n ≤ L) (hm : m ≤ L) (hL : L ≤ 1000000) :
    Calls Try.prog 38 #[.slice a n c, .slice b m d] w (Ret w (Num (gcdv (val xs) (val ys)) L)) := by
  go_enter Try.func38, Try.ntmps38
  go_wp2_with fail
  refine (short_sl _ _ _ _ _ h).mono ?_
  rintro e w3 ⟨p, us, rfl, rfl, hu, hp, hcu, hvu⟩
  go_wp2_with fail
  refine (short_sl _ _ _ _ _ h').mono ?_
  rintro e w3 ⟨q, vs, rfl, rfl, hv, hq, hcv, hvv⟩
  have HS : Hid (GcdRel w L (gcdv (val xs) (val ys)) (.slice a p p) (.slice b q q) (val vs).toNat w) :=
    ⟨Below.refl _ _, a, p, p, us, b, q, q, vs, rfl, rfl, hu, hv, hcu, hcv, by omega, by omega, by rw [hvu, hvv], by have := val_nonneg hv.lm; omega⟩
  obtain ⟨N, hN⟩ : ∃ N, N = (val vs).toNat := ⟨_, rfl⟩
  rw [← hN] at HS
  clear hcu hvu hcv hvv hN hu hv h h'
  go_wp2_with fail
  go_loopg [0, 1] N (fun k va vb wr => GcdRel w L (gcdv (val xs) (val ys)) va vb k wr)
  case atStart => exact HS.out
  case round =>
    obtain ⟨hb, a1, n1, c1, us1, b1, m1, d1, vs1, rfl, rfl, s1, s2, hc1, hc2, l1, l2, hk, hN⟩ := hrel
    have HK := Lib.hid hk
    have HN := Lib.hid hN
    have HC1 := Lib.hid hc1
    have HC2 := Lib.hid hc2
    clear hk hN hc1 hc2 HS
    by_cases hm0 : m1 = 0
    · subst hm0
      have hv0 : Hid (val us1 = gcdv (val xs) (val ys)) := by
        have h1 := HK.out
        have h2 : val vs1 = 0 := by rw [List.eq_nil_of_length_eq_zero s2.len]; rfl
        rw [h2, gcdv_zero (val_nonneg s1.lm)] at h1
        exact h1
      go_wp2_with fail
      refine (trim_any _ _ _ _ _ s1).mono ?_
      rintro e w4 ⟨a4, n4, c4, x4, rfl, g4⟩
      go_wp2_with fail
      go_ret
      exact ⟨_, _, _, x4, rfl, g4.sl, chain hb g4.bel, g4.prop.1, by rw [g4.prop.2.1, hv0.out], by have := g4.prop.2.2; omega⟩
    · have hpos := Lib.hid (Cn.pos s2.lm HC2.out (by intro e; have := s2.len; rw [e] at this; simp at this; omega))
      have hm1 : 0 < m1 := by omega
      go_wp2_with fail
      refine (divmod_any _ _ _ _ _ _ _ _ _ s1 s2 hpos.out (by omega) (by omega)).mono ?_
      rintro e w4 ⟨a4, n4, c4, qs, a5, n5, c5, rs, rfl, s4, s5, hb4, hq4, hr4⟩
      have HR4 := Lib.hid hr4
      clear hq4 hr4
      go_wp2_with fail
      go_roundg (val rs).toNat
      case measure =>
        have h1 := HR4.out.2.1
        have h2 := Int.emod_lt_of_pos (val us1) hpos.out
        have h3 := val_nonneg s5.lm
        have h4 := HN.out
        omega
      case rel =>
        exact ⟨chain hb hb4, _, _, _, vs1, _, _, _, rs, rfl, rfl, s2.kept hb4, s5, HC2.out, HR4.out.1, l2, by have := HR4.out.2.2; have := s5.len; omega, by rw [HR4.out.2.1, ← gcdv_step (val_nonneg s1.lm) hpos.out]; exact HK.out, by have := val_nonneg s5.lm; omega⟩
end Go.Proofs.Ytaaolnepkgcbaaa
