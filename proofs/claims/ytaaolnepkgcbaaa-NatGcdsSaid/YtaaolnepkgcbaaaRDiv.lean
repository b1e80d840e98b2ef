/- ref.Zero, ref.shift, ref.DivMod, ref.Gcd. -/
import Derived.Test.YtaaolnepkgcbaaaDiv
import Derived.Test.YtaaolnepkgcbaaaSub
namespace Go.Proofs.Ytaaolnepkgcbaaa
open Go.RowKit Lb
set_option linter.unusedVariables false

theorem rzero_any (a : Option Addr) (n c : Nat) (xs : List Int) (w : World) (h : Sl w a n c xs) :
    Calls Try.prog 50 #[.slice a n c] w (BoolB (decide (val xs = 0)) w) := by
  go_enter Try.func50, Try.ntmps50
  go_wp2_with fail
  refine (rtrim_any _ _ _ _ _ h).mono ?_
  rintro e w1 ⟨a1, n1, c1, x1, rfl, g1⟩
  by_cases h0 : n1 = 0
  · subst h0
    have hv : Hid (decide (val xs = 0) = true) := by
      unfold Hid
      rw [← g1.prop.2.1, List.eq_nil_of_length_eq_zero g1.sl.len]
      rfl
    have hb := g1.bel
    clear g1
    go_wp2_with fail
    go_ret
    exact ⟨by rw [hv.out]; rfl, hb⟩
  · have hv : Hid (decide (val xs = 0) = false) := by
      unfold Hid
      rw [← g1.prop.2.1]
      refine decide_eq_false fun e => ?_
      have h1 := Cn.zero_len g1.sl.lm g1.prop.1 e
      have := g1.sl.len
      omega
    have hb := g1.bel
    clear g1
    have e0 : ((n1 : Int) == 0) = false := by simp; omega
    go_wp2_with fail
    go_ret
    exact ⟨by rw [hv.out]; rfl, hb⟩

/-- ref.shift's loop. -/
def RShRel (w : World) (q r : Nat) (xs : List Int) (k : Nat) (c : Int) (v : Value) (wr : World) : Prop :=
  0 ≤ c ∧ c < 2 ^ r ∧ Below w.heap.size w wr ∧ ∃ os, os.length = q + k ∧ Own wr w.heap.size v os ∧ val os + pw (q + k) * c = pw q * (2 ^ r * val (xs.take k))

theorem rsh_step {os xs : List Int} {q r k : Nat} {c s : Int} (hl : os.length = q + k) (inv : val os + pw (q + k) * c = pw q * (2 ^ r * val (xs.take k))) (hs : s = rdl xs k * 2 ^ r + c) :
    val (os ++ [s % 4294967296]) + pw (q + (k + 1)) * (s / 4294967296) = pw q * (2 ^ r * val (xs.take (k + 1))) := by
  have e1 := Int.emod_add_mul_ediv s 4294967296
  rw [val_snoc, hl, val_takes, show q + (k + 1) = (q + k) + 1 by omega, pw_succ]
  have e2 : pw (q + k) = pw q * pw k := pw_add q k
  generalize s % 4294967296 = d at *
  generalize s / 4294967296 = c' at *
  generalize val (xs.take k) = V at *
  generalize (2 : Int) ^ r = P at *
  generalize pw q = Q at *
  generalize pw k = K at *
  generalize rdl xs k = x at *
  rw [e2] at inv ⊢
  grind

theorem rsh_wrap {x c : Int} {r : Nat} (hx0 : 0 ≤ x) (hx : x < 4294967296) (hr : r ≤ 31) (hc0 : 0 ≤ c) (hc : c < 2 ^ r) :
    (IntKind.u64.wrap (IntKind.u64.wrap (x * 2 ^ r) + c)).tmod 4294967296 % 4294967296 = (x * 2 ^ r + c) % 4294967296 ∧ IntKind.u64.wrap ((IntKind.u64.wrap (IntKind.u64.wrap (x * 2 ^ r) + c)).tdiv 4294967296) = (x * 2 ^ r + c) / 4294967296 := by
  obtain ⟨p0, p1⟩ := two31 r hr
  have m0 : 0 ≤ x * 2 ^ r := Int.mul_nonneg hx0 (by omega)
  have m1 : x * 2 ^ r ≤ 4294967295 * 2147483648 := Int.mul_le_mul (by omega) p1 (by omega) (by omega)
  generalize x * 2 ^ r = y at *
  rw [wraps_u64 y m0 (by omega), wraps_u64 (y + c) (by omega) (by omega), Int.tmod_eq_emod_of_nonneg (by omega), Int.tdiv_eq_ediv_of_nonneg (by omega), wraps_u64 _ (by omega) (by omega)]
  exact ⟨by omega, rfl⟩

set_option maxHeartbeats 1000000 in
theorem rshift_any (a : Option Addr) (n c : Nat) (xs : List Int) (q r : Nat) (w : World) (h : Sl w a n c xs) (hr : r ≤ 31) (hn : n ≤ 100000) (hq : q ≤ 100000) (K : Int) (hK : K = 32 * (q : Int) + r) :
    Calls Try.prog 56 #[.slice a n c, .int .i64 K] w (Ret w (Num (2 ^ (32 * q + r) * val xs) (q + n + 1))) := by
  have k1 : K / 32 = q := by omega
  have k2 : K % 32 = r := by omega
  have k3 : 0 ≤ K := by omega
  have k4 : K ≤ 4000000 := by omega
  clear hK
  go_enter Try.func56, Try.ntmps56
  go_wp2_with (at_make; refine wpList_make_limbs _ rfl _ _ rfl q _ _ rfl rfl (by first | exact k1 | (simp; omega)) (by first | exact k1 | (simp; omega)) (by omega) ?_)
  intro w1 hrow hb1
  have hown : Own w1 w.heap.size (.slice (some ⟨w.heap.size, 0, none⟩) q q) (List.replicate q 0) := by
    have hh := hrow
    unfold Row at hh
    unfold Own
    rw [List.length_replicate] at hh ⊢
    exact hh
  clear hrow
  go_wp2_with fail
  go_loopw [5, 6, 7] (fun v cv t wr => ∃ (k : Nat) (cr : Int), k ≤ n ∧ t = .int .i64 k ∧ cv = .int .u64 cr ∧ RShRel w q r xs k cr v wr) (fun _ _ t _ => n - (intOf t).toNat)
  case atStart => exact ⟨0, 0, by omega, by simp, rfl, by omega, (two31 r hr).1, hb1, _, by simp, hown, by rw [val_zeros]; simp [val]⟩
  case round =>
    obtain ⟨k, cr, hk, rfl, rfl, hc0, hc1, hb, os, hl, hown, inv⟩ := hrel
    have INV := Lib.hid inv
    have HL := Lib.hid hl
    have HC1 := Lib.hid hc1
    clear inv hl hc1
    have g1 := h.kept hb
    by_cases hkn : k < n
    · obtain ⟨b1, o1, rfl, hlt1, hcell⟩ := g1.at_ (by omega)
      have hck := hcell k hkn
      have bx := rdl_bd h.lm k
      have hcar := shift_carry bx.1 bx.2 (two31 r hr).1 hc0 HC1.out
      have HCAR := Lib.hid hcar
      have hS0 := hcar.1
      clear hcell hcar
      go_wp2_with (at_builtin; refine wpList_append_limbs _ rfl _ _ rfl w.heap.size _ os rfl (hown.alloc _) _ _ _ _ rfl (sl_one _ _ (by omega)) ?_ ?_ ?_)
      · rw [HL.out]; omega
      · have := hb.size; simp; omega
      intro v' w2 hown1 hbw
      have hb2 := (chain_alloc hb _).trans hbw
      go_wp2_with fail
      go_roundw
      case rel =>
        obtain ⟨E1, E2⟩ := rsh_wrap bx.1 bx.2 hr hc0 HC1.out
        refine ⟨k + 1, _, by omega, by go_num, rfl, ?_, ?_, hb2, _, ?_, hown1, ?_⟩
        · rw [E2]; exact HCAR.out.2.1
        · rw [E2]; exact HCAR.out.2.2
        · simp [HL.out]; omega
        · rw [E1, E2]; exact rsh_step HL.out INV.out rfl
      case measure => simp [intOf]; omega
    · obtain rfl : k = n := by omega
      have hc1 : cr < 4294967296 := by have := HC1.out; have := (two31 r hr).2; omega
      go_wp2_with (at_builtin; refine wpList_append_limbs _ rfl _ _ rfl w.heap.size _ os rfl (hown.alloc _) _ _ _ _ rfl (sl_one _ _ (by omega)) ?_ ?_ ?_)
      · rw [HL.out]; omega
      · have := hb.size; simp; omega
      intro v' w2 hown1 hbw
      have hb2 := (chain_alloc hb _).trans hbw
      have EV : Hid (val (os ++ [cr]) = 2 ^ (32 * q + r) * val xs) := by
        unfold Hid
        have e := INV.out
        rw [val_take_all (by rw [h.len]; exact Nat.le_refl _)] at e
        rw [val_snoc, HL.out, e, Int.pow_add, pw_two, Int.mul_assoc]
      have hl3 : (os ++ [cr]).length = q + k + 1 := by simp [HL.out]
      generalize os ++ [cr] = zs at hown1 EV hl3
      obtain ⟨a3, c3, rfl, s3⟩ := hown1.sl (by omega)
      rw [hl3] at s3 ⊢
      clear hl3 hown1
      go_wp2_with fail
      refine (rtrim_any _ _ _ _ _ s3).mono ?_
      rintro e w4 ⟨a4, n4, c4, x4, rfl, g4⟩
      go_wp2_with fail
      go_ret
      exact ⟨a4, n4, c4, x4, rfl, g4.sl, chain hb2 g4.bel, g4.prop.1, by rw [g4.prop.2.1, EV.out], by have := g4.prop.2.2; omega⟩
end Go.Proofs.Ytaaolnepkgcbaaa
