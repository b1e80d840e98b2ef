/- ref.DivMod, ref.Gcd. -/
import Derived.Test.YtaaolnepkgcbaaaRDiv
import Derived.Test.YtaaolnepkgcbaaaPlus
namespace Go.Proofs.Ytaaolnepkgcbaaa
open Go.RowKit Lb
set_option linter.unusedVariables false

/-- DivMod's loop: T the shift, X the rest, Q the quotient so far. -/
structure RDm (A B T X Q : Int) : Prop where
  x0 : 0 ≤ X
  lt : X < B * 2 ^ (T + 1).toNat
  eq : X + B * Q = A
  q0 : 0 ≤ Q
theorem RDm.start {A B : Int} {p q : Nat} (hA : 0 ≤ A) (hB : 0 < B) (h1 : IsBl A p) (h2 : IsBl B q) : RDm A B ((p : Int) - q) A 0 := by
  refine ⟨hA, ?_, by simp, by omega⟩
  have hq : 2 ^ (q - 1) ≤ B ∧ 0 < q := by
    have := h2.1
    rcases h2.2 with h | h
    · subst h; simp at this; omega
    · refine ⟨h, Nat.pos_of_ne_zero fun e => ?_⟩
      subst e; simp at this; omega
  have hp := h1.1
  refine Int.lt_of_lt_of_le (Int.lt_of_lt_of_le hp (pow2_mono (show p ≤ (q - 1) + ((p : Int) - q + 1).toNat by omega))) ?_
  rw [Int.pow_add]
  exact Int.mul_le_mul_of_nonneg_right hq.1 (Int.le_of_lt (pow2_pos _))
theorem RDm.take {A B X Q : Int} {j : Nat} (h : RDm A B j X Q) (hle : 2 ^ j * B ≤ X) (hB : 0 < B) : RDm A B ((j : Int) - 1) (X - 2 ^ j * B) (Q + 2 ^ j * 1) := by
  have h1 := h.lt
  have h2 := h.eq
  have h3 := h.q0
  have e1 : ((j : Int) + 1).toNat = j + 1 := by omega
  have e2 : ((j : Int) - 1 + 1).toNat = j := by omega
  rw [e1, Int.pow_succ] at h1
  have hp := pow2_pos j
  refine ⟨by omega, ?_, ?_, by omega⟩
  · rw [e2]; generalize (2 : Int) ^ j = P at *; grind
  · generalize (2 : Int) ^ j = P at *; grind
theorem RDm.skip {A B X Q : Int} {j : Nat} (h : RDm A B j X Q) (hlt : X < 2 ^ j * B) : RDm A B ((j : Int) - 1) X Q := by
  have e2 : ((j : Int) - 1 + 1).toNat = j := by omega
  exact ⟨h.x0, by rw [e2, Int.mul_comm]; exact hlt, h.eq, h.q0⟩
theorem RDm.stop {A B T X Q : Int} (h : RDm A B T X Q) (hT : ¬ 0 ≤ T) (hB : 0 < B) : A / B = Q ∧ A % B = X := by
  have h1 := h.lt
  have e1 : (T + 1).toNat = 0 := by omega
  rw [e1] at h1
  have h2 := h.eq
  have h3 := h.x0
  have := (Int.ediv_emod_unique hB (a := A) (r := X) (q := Q)).2 ⟨h2, h3, by omega⟩
  exact this
theorem RDm.q_le {A B T X Q : Int} (h : RDm A B T X Q) (hB : 0 < B) : Q ≤ A := by
  have h2 := h.eq
  have h3 := h.x0
  have h4 := Int.mul_le_mul_of_nonneg_right (show 1 ≤ B by omega) h.q0
  omega

/-- DivMod's loop in memory. -/
def RDmRel (w : World) (n : Nat) (A B : Int) (vq vr vt : Value) (wr : World) : Prop :=
  Below w.heap.size w wr ∧ ∃ (a1 : Option Addr) (n1 c1 : Nat) (us : List Int) (a2 : Option Addr) (n2 c2 : Nat) (rs : List Int) (T : Int), vq = .slice a1 n1 c1 ∧ vr = .slice a2 n2 c2 ∧ vt = .int .i64 T ∧ Sl wr a1 n1 c1 us ∧ Sl wr a2 n2 c2 rs ∧ Cn us ∧ Cn rs ∧ n1 ≤ n ∧ n2 ≤ n ∧ T ≤ 64000 ∧ -64000 ≤ T ∧ RDm A B T (val rs) (val us)

def RDivPost (w : World) (A B : Int) (n m : Nat) (e : Ending) (w' : World) : Prop :=
  ∃ a1 n1 c1 qs a2 n2 c2 rs, e = .returned (.tuple #[.slice a1 n1 c1, .slice a2 n2 c2]) ∧ Sl w' a1 n1 c1 qs ∧ Sl w' a2 n2 c2 rs ∧ Below w.heap.size w w' ∧ Num (A / B) n qs ∧ Num (A % B) m rs

set_option maxHeartbeats 2000000 in
theorem rdivmod_any (a b : Option Addr) (n c m d : Nat) (xs ys : List Int) (w : World) (h : Sl w a n c xs) (h' : Sl w b m d ys) (hpos : 0 < val ys) (hn : n ≤ 1000) (hm : m ≤ 1000) :
    Calls Try.prog 51 #[.slice a n c, .slice b m d] w (RDivPost w (val xs) (val ys) n m) := by
  have HP := Lib.hid hpos
  have HA := Lib.hid (val_nonneg h.lm)
  clear hpos
  go_enter Try.func51, Try.ntmps51
  go_wp2_with fail
  refine (rtrim_any _ _ _ _ _ h).mono ?_
  rintro e w1 ⟨a1, n1, c1, x1, rfl, g1⟩
  have b0 := g1.bel
  have h1 := h.kept g1.bel
  have h1' := h'.kept g1.bel
  go_wp2_with fail
  refine (rbits_any _ _ _ _ _ h1).mono ?_
  rintro e w2 ⟨_, rfl, ⟨p, rfl, hp⟩, b2⟩
  replace h1' := h1'.kept b2
  have s1 := g1.sl.kept b2
  replace b0 := chain b0 b2
  go_wp2_with fail
  refine (rbits_any _ _ _ _ _ h1').mono ?_
  rintro e w3 ⟨_, rfl, ⟨q, rfl, hq⟩, b3⟩
  replace s1 := s1.kept b3
  replace b0 := chain b0 b3
  have hp1 : p ≤ 32000 := Nat.le_trans (hp.le (m := 32 * n) (by rw [← pw_two]; have := val_lt h.lm; rwa [h.len] at this)) (by omega)
  have hq1 : q ≤ 32000 := Nat.le_trans (hq.le (m := 32 * m) (by rw [← pw_two]; have := val_lt h'.lm; rwa [h'.len] at this)) (by omega)
  have HS : Hid (RDmRel w n (val xs) (val ys) (.slice none 0 0) (.slice a1 n1 c1) (.int .i64 ((p : Int) - q)) w3) :=
    ⟨b0, none, 0, 0, [], a1, n1, c1, x1, _, rfl, rfl, rfl, Sl.empty _, s1, Cn.nil, g1.prop.1, by omega, by have := g1.prop.2.2; have := g1.sl.len; omega, by omega, by omega, by rw [g1.prop.2.1]; exact RDm.start HA.out HP.out hp hq⟩
  clear hp hq g1 h1 h1' s1 b0 b2 b3
  go_wp2_with fail
  go_loopw [4, 5, 7] (fun vq vr vt wr => RDmRel w n (val xs) (val ys) vq vr vt wr) (fun _ _ t _ => (intOf t + 1).toNat)
  case atStart => exact HS.out
  case round =>
    obtain ⟨b0, a1, n1, c1, us, a2, n2, c2, rs, T, rfl, rfl, rfl, s1, s2, hc1, hc2, l1, l2, t1, t2, hrd⟩ := hrel
    have HR := Lib.hid hrd
    have HC1 := Lib.hid hc1
    have HC2 := Lib.hid hc2
    have hb := h'.kept b0
    clear hrd hc1 hc2 HS
    by_cases hT : 0 ≤ T
    · obtain ⟨j, rfl⟩ := Int.eq_ofNat_of_zero_le hT
      obtain ⟨κ, ρ, hρ, hj⟩ : ∃ κ ρ : Nat, ρ ≤ 31 ∧ j = 32 * κ + ρ := ⟨j / 32, j % 32, by omega, by omega⟩
      have hκ : κ ≤ 2000 := by omega
      have HJ := Lib.hid hj
      clear hj
      go_wp2_with fail
      refine (rshift_any _ _ _ _ κ ρ _ hb hρ (by omega) (by omega) _ (by have := HJ.out; omega)).mono ?_
      rintro e w4 ⟨a4, n4, c4, x4, rfl, g4⟩
      have V4 : Hid (val x4 = 2 ^ j * val ys) := by unfold Hid; rw [g4.prop.2.1, HJ.out]
      have s4 := g4.sl
      replace b0 := chain b0 g4.bel
      replace s1 := s1.kept g4.bel
      replace s2 := s2.kept g4.bel
      clear g4
      go_wp2_with fail
      refine (rcmp_any _ _ _ _ _ _ _ _ _ s2 s4).mono ?_
      rintro e w5 ⟨rfl, rfl⟩
      by_cases hge : val x4 ≤ val rs
      · have hcm : 0 ≤ cmpv (val rs) (val x4) := by have := @cmpv_neg (val rs) (val x4); omega
        have HGE := Lib.hid hge
        clear hge
        go_wp2_with fail
        refine (rsub_any _ _ _ _ _ _ _ _ _ s2 s4 HGE.out).mono ?_
        rintro e w6 ⟨a6, n6, c6, x6, rfl, g6⟩
        replace s1 := s1.kept g6.bel
        replace b0 := chain b0 g6.bel
        have HN := Lib.hid (HR.out.take (by rw [← V4.out]; exact HGE.out) HP.out)
        go_wp2_with fail
        refine (rshift_any _ _ _ _ κ ρ _ (sl_one_at 1 (by decide) (by simp)) hρ (by omega) (by omega) _ (by have := HJ.out; omega)).mono ?_
        rintro e w7 ⟨a7, n7, c7, x7, rfl, g7⟩
        have b7 := chain (below_alloc _ _) g7.bel
        replace s1 := s1.kept b7
        have s6 := g6.sl.kept b7
        replace b0 := chain b0 b7
        have l7 : n7 ≤ 4000 := by have := g7.prop.2.2; have := g7.sl.len; omega
        go_wp2_with fail
        refine (radd_any _ _ _ _ _ _ _ _ _ s1 g7.sl 4000 (by omega) (by omega) (by omega)).mono ?_
        rintro e w8 ⟨a8, n8, c8, x8, rfl, g8⟩
        replace s6 := s6.kept g8.bel
        replace b0 := chain b0 g8.bel
        have HN2 : Hid (RDm (val xs) (val ys) ((j : Int) - 1) (val x6) (val x8)) := by
          unfold Hid
          have e7 : val x7 = 2 ^ j * 1 := by rw [g7.prop.2.1, HJ.out, val_one]
          rw [g6.prop.2.1, g8.prop.2.1, V4.out, e7]
          exact HN.out
        have l8 : n8 ≤ n := by
          have := length_le g8.sl.lm h.lm g8.prop.1 (HN2.out.q_le HP.out)
          rw [g8.sl.len, h.len] at this
          exact this
        have l6 : n6 ≤ n := by have := g6.prop.2.2; have := g6.sl.len; omega
        go_wp2_with fail
        go_roundw
        case rel => exact ⟨b0, _, _, _, x8, _, _, _, x6, _, rfl, rfl, rfl, g8.sl, s6, g8.prop.1, g6.prop.1, l8, l6, by omega, by omega, HN2.out⟩
        case measure => simp [intOf]
      · have hcm : cmpv (val rs) (val x4) < 0 := by rw [cmpv_lt (by omega)]; decide
        have HN := Lib.hid (HR.out.skip (by rw [← V4.out]; omega))
        clear hge
        go_wp2_with fail
        go_roundw
        case rel => exact ⟨b0, _, _, _, us, _, _, _, rs, _, rfl, rfl, rfl, s1, s2, HC1.out, HC2.out, l1, l2, by omega, by omega, HN.out⟩
        case measure => simp [intOf]
    · have HE := Lib.hid (HR.out.stop hT HP.out)
      go_wp2_with fail
      refine (rtrim_any _ _ _ _ _ s1).mono ?_
      rintro e w4 ⟨a4, n4, c4, x4, rfl, g4⟩
      replace s2 := s2.kept g4.bel
      have l3 : Hid (rs.length ≤ m) := by
        have h1 := length_le s2.lm h'.lm HC2.out (show val rs ≤ val ys by rw [← HE.out.2]; exact Int.le_of_lt (Int.emod_lt_of_pos _ HP.out))
        unfold Hid
        rw [h'.len] at h1
        exact h1
      go_wp2_with fail
      go_ret2
      exact ⟨_, _, _, x4, _, _, _, rs, rfl, g4.sl, s2, chain b0 g4.bel, ⟨g4.prop.1, by rw [g4.prop.2.1, HE.out.1], by have := g4.prop.2.2; omega⟩, HC2.out, HE.out.2.symm, l3.out⟩

/-- Gcd's loop. -/
def RGcdRel (w : World) (L : Nat) (K : Int) (va vb : Value) (N : Nat) (wr : World) : Prop :=
  Below w.heap.size w wr ∧ ∃ a n c us b m d vs, va = .slice a n c ∧ vb = .slice b m d ∧ Sl wr a n c us ∧ Sl wr b m d vs ∧ n ≤ L ∧ m ≤ L ∧ gcdv (val us) (val vs) = K ∧ val vs = N

set_option maxHeartbeats 2000000 in
theorem rgcd_any (a b : Option Addr) (n c m d : Nat) (xs ys : List Int) (w : World) (h : Sl w a n c xs) (h' : Sl w b m d ys) (L : Nat) (hn : n ≤ L) (hm : m ≤ L) (hL : L ≤ 1000) :
    Calls Try.prog 40 #[.slice a n c, .slice b m d] w (Ret w (Num (gcdv (val xs) (val ys)) L)) := by
  go_enter Try.func40, Try.ntmps40
  have HS : Hid (RGcdRel w L (gcdv (val xs) (val ys)) (.slice a n c) (.slice b m d) (val ys).toNat w) :=
    ⟨Below.refl _ _, a, n, c, xs, b, m, d, ys, rfl, rfl, h, h', by omega, by omega, rfl, by have := val_nonneg h'.lm; omega⟩
  obtain ⟨N, hN⟩ : ∃ N, N = (val ys).toNat := ⟨_, rfl⟩
  rw [← hN] at HS
  clear hN h h'
  go_wp2_with fail
  go_loopg [0, 1] N (fun k va vb wr => RGcdRel w L (gcdv (val xs) (val ys)) va vb k wr)
  case atStart => exact HS.out
  case round =>
    obtain ⟨hb, a1, n1, c1, us1, b1, m1, d1, vs1, rfl, rfl, s1, s2, l1, l2, hk, hN⟩ := hrel
    have HK := Lib.hid hk
    have HN := Lib.hid hN
    clear hk hN HS
    go_wp2_with fail
    refine (rzero_any _ _ _ _ _ s2).mono ?_
    rintro e w3 ⟨rfl, b3⟩
    replace s1 := s1.kept b3
    replace s2 := s2.kept b3
    replace hb := chain hb b3
    by_cases hz : val vs1 = 0
    · have hd : decide (val vs1 = 0) = true := decide_eq_true hz
      have hv0 : Hid (val us1 = gcdv (val xs) (val ys)) := by
        have h1 := HK.out
        rw [hz, gcdv_zero (val_nonneg s1.lm)] at h1
        exact h1
      clear hz
      go_wp2_with fail
      refine (rtrim_any _ _ _ _ _ s1).mono ?_
      rintro e w4 ⟨a4, n4, c4, x4, rfl, g4⟩
      go_wp2_with fail
      go_ret
      exact ⟨_, _, _, x4, rfl, g4.sl, chain hb g4.bel, g4.prop.1, by rw [g4.prop.2.1, hv0.out], by have := g4.prop.2.2; omega⟩
    · have hd : decide (val vs1 = 0) = false := decide_eq_false hz
      have hpos := Lib.hid (show 0 < val vs1 by have := val_nonneg s2.lm; omega)
      clear hz
      go_wp2_with fail
      refine (rdivmod_any _ _ _ _ _ _ _ _ _ s1 s2 hpos.out (by omega) (by omega)).mono ?_
      rintro e w4 ⟨a4, n4, c4, qs, a5, n5, c5, rs, rfl, s4, s5, hb4, hq4, hr4⟩
      have HR4 := Lib.hid hr4
      clear hq4 hr4
      go_wp2_with fail
      go_roundg (val rs).toNat
      case measure =>
        have h1 := HR4.out.2.1
        have h2 := Int.emod_lt_of_pos (val us1) hpos.out
        have h3 := val_nonneg s5.lm
        have h4 := HN.out
        omega
      case rel =>
        exact ⟨chain hb hb4, _, _, _, vs1, _, _, _, rs, rfl, rfl, s2.kept hb4, s5, l2, by have := HR4.out.2.2; have := s5.len; omega, by rw [HR4.out.2.1, ← gcdv_step (val_nonneg s1.lm) hpos.out]; exact HK.out, by have := val_nonneg s5.lm; omega⟩
end Go.Proofs.Ytaaolnepkgcbaaa
