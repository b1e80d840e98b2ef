/- ref.Bits, nat.Int, ref.limb, ref.Int. -/
import Derived.Test.YtaaolnepkgcbaaaLen
namespace Go.Proofs.Ytaaolnepkgcbaaa
open Go.RowKit Lb
set_option linter.unusedVariables false

theorem wraps_i64 (n : Int) (h0 : 0 ≤ n) (h1 : n < 2 ^ 63) : IntKind.i64.wrap n = n := by rw [IntKind.wrap_i64]; omega
theorem or_i64 (x y : Int) (hx0 : 0 ≤ x) (hx : x % 4294967296 = 0) (hx1 : x < 9223372036854775808) (h0 : 0 ≤ y) (h1 : y < 4294967296) : bits .or .i64 x y = x + y :=
  bits_join .i64 63 (by decide) wraps_i64 32 x y hx0 hx hx1 h0 h1 (by omega)
theorem wraps_u64 (n : Int) (h0 : 0 ≤ n) (h1 : n < 2 ^ 64) : IntKind.u64.wrap n = n := by simp [IntKind.wrap, IntKind.bits, IntKind.signed]; omega
theorem or_u64 (x y : Int) (hx0 : 0 ≤ x) (hx : x % 4294967296 = 0) (hx1 : x < 18446744073709551616) (h0 : 0 ≤ y) (h1 : y < 4294967296) : bits .or .u64 x y = x + y :=
  bits_join .u64 64 (by decide) wraps_u64 32 x y hx0 hx hx1 h0 h1 (by omega)

/-- An int is returned in a world that keeps what was there. -/
def IntB (p : Int → Prop) (w : World) (e : Ending) (w' : World) : Prop := ∃ r, e = .returned (.int .i64 r) ∧ p r ∧ Below w.heap.size w w'

theorem isBl_half {t : Int} {s : Nat} (h0 : 0 < t) (h : IsBl (t / 2) s) : IsBl t (s + 1) := by
  obtain ⟨h1, h2⟩ := h
  refine ⟨by rw [Int.pow_succ]; omega, .inr ?_⟩
  rw [Nat.add_sub_cancel]
  rcases h2 with h2 | h2
  · subst h2; simp; omega
  · cases s with
    | zero => simp; omega
    | succ s => rw [Nat.add_sub_cancel] at h2; rw [Int.pow_succ]; omega
def HalfRel (T t : Int) (j : Nat) : Prop := 0 ≤ t ∧ t < 4294967296 ∧ j ≤ 32 ∧ t < 2 ^ (32 - j) ∧ ∀ s, IsBl t s → IsBl T (s + j)
theorem HalfRel.start {T : Int} (h0 : 0 ≤ T) (h1 : T < 4294967296) : HalfRel T T 0 := ⟨h0, h1, by omega, by simpa using h1, fun s h => h⟩
theorem HalfRel.step {T t : Int} {j : Nat} (h : HalfRel T t j) (h0 : 0 < t) : j < 32 ∧ HalfRel T (t / 2) (j + 1) := by
  obtain ⟨a, b, c, d, e⟩ := h
  have hj : j < 32 := by
    apply Nat.lt_of_not_le
    intro h'
    rw [show 32 - j = 0 by omega] at d
    simp at d; omega
  refine ⟨hj, by omega, by omega, by omega, ?_, fun s hs => ?_⟩
  · rw [show 32 - j = (32 - (j + 1)) + 1 by omega, Int.pow_succ] at d
    omega
  · have := e _ (isBl_half h0 hs)
    rw [show s + (j + 1) = s + 1 + j by omega]; exact this
theorem HalfRel.stop {T t : Int} {j : Nat} (h : HalfRel T t j) (h0 : ¬ 0 < t) : IsBl T j := by
  have := h.2.2.2.2 0 (by rw [show t = 0 by have := h.1; omega]; exact isBl_zero)
  rwa [Nat.zero_add] at this
theorem HalfRel.bds {T t : Int} {j : Nat} (h : HalfRel T t j) : 0 ≤ t ∧ t < 4294967296 ∧ j ≤ 32 := ⟨h.1, h.2.1, h.2.2.1⟩

set_option maxHeartbeats 400000 in
theorem rbits_any (a : Option Addr) (n c : Nat) (xs : List Int) (w : World) (h : Sl w a n c xs) :
    Calls Try.prog 25 #[.slice a n c] w (IntB (fun r => ∃ q : Nat, r = q ∧ IsBl (val xs) q) w) := by
  have hs := h.sm
  go_enter Try.func25, Try.ntmps25
  go_wp2_with fail
  refine (rtrim_any _ _ _ _ _ h).mono ?_
  rintro e w1 ⟨a1, m, c1, ys, rfl, g1⟩
  have hy := g1.sl
  obtain ⟨hc, hv, hm⟩ := g1.prop
  have HV := Lib.hid hv
  have HC := Lib.hid hc
  have hb := g1.bel
  clear hv hc g1
  cases m with
  | zero =>
    have H0 := Lib.hid (show val ys = 0 by rw [List.eq_nil_of_length_eq_zero hy.len]; rfl)
    go_wp2_with fail
    go_ret
    exact ⟨0, rfl, ⟨0, rfl, by rw [← HV.out, H0.out]; exact isBl_zero⟩, hb⟩
  | succ k =>
    obtain ⟨b, o, rfl, hlt, hcell⟩ := hy.at_ (by omega)
    have hck := hcell k (by omega)
    have hk := hy.sm
    have hbd := rdl_bd hy.lm k
    have HT := Lib.hid (cn_top HC.out hy.len)
    have HS := HalfRel.start hbd.1 hbd.2
    clear hcell
    go_wp2_with fail
    go_loop [3, 4] (fun v u => ∃ (j : Nat) (t : Int), HalfRel (rdl ys k) t j ∧ v = .int .i64 (32 * (k : Int) + j) ∧ u = .int .u32 t) (fun _ u => (intOf u).toNat)
    case atStart => exact ⟨0, _, HS, by simp, rfl⟩
    case round =>
      obtain ⟨j, t, hr, rfl, rfl⟩ := hrel
      obtain ⟨t0, t1, j1⟩ := hr.bds
      by_cases ht : 0 < t
      · obtain ⟨j2, hr2⟩ := hr.step ht
        go_wp2_with fail
        go_round
        case rel => exact ⟨j + 1, t / 2, hr2, by simp; omega, rfl⟩
        case measure => simp [intOf]; omega
      · have HB := Lib.hid (hr.stop ht)
        go_wp2_with fail
        go_ret
        exact ⟨_, rfl, ⟨32 * k + j, by simp, by rw [← HV.out]; exact (isBl_top hy.lm hy.len HT.out HB.out).1⟩, hb⟩

theorem limb_in (a : Option Addr) (n c : Nat) (xs : List Int) (i : Nat) (w : World) (h : Sl w a n c xs) (hi : i < n) :
    Calls Try.prog 42 #[.slice a n c, .int .i64 i] w fun e w' => e = .returned (.int .u64 (rdl xs i)) ∧ w = w' := by
  have hs := h.sm
  obtain ⟨b, o, rfl, hlt, hcell⟩ := h.at_ (by omega)
  have hck := hcell i hi
  have hbd := rdl_bd h.lm i
  clear hcell
  go_enter Try.func42, Try.ntmps42
  go_wp2_with fail
  go_ret
  exact ⟨rfl, rfl⟩
theorem limb_out (a : Option Addr) (n c : Nat) (i : Nat) (w : World) (hi : n ≤ i) :
    Calls Try.prog 42 #[.slice a n c, .int .i64 i] w fun e w' => e = .returned (.int .u64 0) ∧ w = w' := by
  go_enter Try.func42, Try.ntmps42
  go_wp2_with fail
  go_ret
  exact ⟨rfl, rfl⟩
/-- limb: the limb at i, 0 behind the last. -/
theorem limb_any (a : Option Addr) (n c : Nat) (xs : List Int) (i : Int) (w : World) (h : Sl w a n c xs) (h0 : 0 ≤ i) :
    Calls Try.prog 42 #[.slice a n c, .int .i64 i] w fun e w' => e = .returned (.int .u64 (rdl xs i.toNat)) ∧ w = w' := by
  obtain ⟨k, rfl⟩ := Int.eq_ofNat_of_zero_le h0
  rw [Int.toNat_natCast]
  by_cases hi : k < n
  · exact limb_in a n c xs k w h hi
  · have e : rdl xs k = 0 := getD_out (by have := h.len; omega)
    rw [e]
    exact limb_out a n c k w (by omega)

/-- Int's two results. -/
def iv (v : Int) : Int := if v < 9223372036854775808 then v else 0
def ib (v : Int) : Bool := decide (v < 9223372036854775808)
def IntPost (K : Int) (w : World) (e : Ending) (w' : World) : Prop := e = .returned (.tuple #[.int .i64 (iv K), .bool (ib K)]) ∧ Below w.heap.size w w'
theorem IntPost.small {K : Int} {w w' : World} {r : Int} (h : K < 9223372036854775808) (hr : r = K) (hb : Below w.heap.size w w') : IntPost K w (.returned (.tuple #[.int .i64 r, .bool true])) w' := by
  subst hr
  refine ⟨?_, hb⟩
  unfold iv ib
  rw [if_pos h, decide_eq_true h]
theorem IntPost.great {K : Int} {w w' : World} (h : ¬ K < 9223372036854775808) (hb : Below w.heap.size w w') : IntPost K w (.returned (.tuple #[.int .i64 0, .bool false])) w' := by
  refine ⟨?_, hb⟩
  unfold iv ib
  rw [if_neg h, decide_eq_false h]
theorem two63 : (2 : Int) ^ 63 = 9223372036854775808 := by decide
theorem isBl_le63 {K : Int} {r : Nat} (h : IsBl K r) (hr : r ≤ 63) : K < 9223372036854775808 := by have := h.lt_of hr; rwa [two63] at this
theorem isBl_gt63 {K : Int} {r : Nat} (h : IsBl K r) (hr : ¬ r ≤ 63) : ¬ K < 9223372036854775808 := fun hk => hr (h.le (by rw [two63]; exact hk))

set_option maxHeartbeats 400000 in
theorem int_any (a : Option Addr) (n c : Nat) (xs : List Int) (w : World) (h : Sl w a n c xs) :
    Calls Try.prog 17 #[.slice a n c] w (IntPost (val xs) w) := by
  have hs := h.sm
  go_enter Try.func17, Try.ntmps17
  go_wp2_with fail
  refine (short_sl _ _ _ _ _ h).mono ?_
  rintro e w' ⟨m, ys, rfl, rfl, hy, hm, hc, hv⟩
  have HV := Lib.hid hv
  have HC := Lib.hid hc
  clear hv hc
  go_wp2_with fail
  refine (bits_any _ _ _ _ _ hy).mono ?_
  rintro e w' ⟨r, hr, rfl, rfl⟩
  by_cases hr63 : r ≤ 63
  · have hK := isBl_le63 hr hr63
    have hm1 := hy.sm
    go_wp2_with fail
    go_loop [4, 5] (fun v i => ∃ k : Nat, k ≤ m ∧ i = .int .i64 ((k : Int) - 1) ∧ v = .int .i64 (val (ys.drop k))) (fun _ i => (intOf i + 1).toNat)
    case atStart => exact ⟨m, Nat.le_refl _, rfl, by rw [List.drop_of_length_le (by have := hy.len; omega)]; rfl⟩
    case round =>
      obtain ⟨k, hk, rfl, rfl⟩ := hrel
      have hd0 := val_nonneg (hy.lm.drop k)
      cases k with
      | zero =>
        have HF : Hid (val (ys.drop 0) = val ys) := rfl
        go_wp2_with fail
        go_ret2
        exact IntPost.small (by rw [← HV.out]; exact hK) HV.out (Below.refl _ _)
      | succ k =>
        obtain ⟨b, o, rfl, hlt, hcell⟩ := hy.at_ (by omega)
        have hck := hcell k (by omega)
        have hbd := rdl_bd hy.lm k
        have e1 : val (ys.drop k) = rdl ys k + 4294967296 * val (ys.drop (k + 1)) := val_drop_cons (by have := hy.len; omega)
        have e2 : val (ys.drop k) ≤ val ys := by
          have := val_split ys k (by have := hy.len; omega)
          have b1 := val_nonneg (hy.lm.take k)
          have b2 := val_nonneg (hy.lm.drop k)
          have b3 := Int.mul_le_mul_of_nonneg_right (show 1 ≤ pw k from pw_pos k) b2
          omega
        have hor := or_i64 (val (ys.drop (k + 1)) * 4294967296) (rdl ys k) (by omega) (by omega) (by omega) hbd.1 hbd.2
        have hmul : val (ys.drop (k + 1)) * 4294967296 ≤ 9223372036854775807 := by omega
        have HE := Lib.hid e1
        clear e1 e2 hcell
        go_wp2_with fail
        go_round
        case rel => exact ⟨k, by omega, by simp, by rw [HE.out]; simp; omega⟩
        case measure => simp [intOf]
  · have hK := isBl_gt63 hr hr63
    go_wp2_with fail
    go_ret2
    exact IntPost.great (by rw [← HV.out]; omega) (Below.refl _ _)

end Go.Proofs.Ytaaolnepkgcbaaa
