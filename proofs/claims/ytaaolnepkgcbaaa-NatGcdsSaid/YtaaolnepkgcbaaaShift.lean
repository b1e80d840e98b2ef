/- bits.LeadingZeros32, nat.shift. -/
import Derived.Test.YtaaolnepkgcbaaaStep
namespace Go.Proofs.Ytaaolnepkgcbaaa
open Go.RowKit Lb
set_option linter.unusedVariables false

theorem lead_any (x : Int) (w : World) (h0 : 0 ≤ x) (h1 : x < 4294967296) :
    Calls Try.prog 53 #[.int .u32 x] w fun e w' => ∃ r, IsBl x r ∧ r ≤ 32 ∧ e = .returned (.int .i64 (32 - (r : Int))) ∧ w = w' := by
  go_enter Try.func53, Try.ntmps53
  go_wp2_with fail
  refine (len32_any _ _ h0 h1).mono ?_
  rintro e w' ⟨r, hr, rfl, rfl⟩
  have hr2 : r ≤ 32 := hr.le h1
  have HR := Lib.hid hr
  clear hr
  go_wp2_with fail
  go_ret
  exact ⟨r, HR.out, hr2, rfl, rfl⟩

/-- shift's loop. -/
def ShRel (w : World) (g n : Nat) (xs : List Int) (s k : Nat) (c : Int) (wr : World) : Prop :=
  0 ≤ c ∧ c < 2 ^ s ∧ Below w.heap.size w wr ∧ ∃ os, os.length = n + 1 ∧ Row wr g (n + 1) os ∧ val (os.take k) + pw k * c = 2 ^ s * val (xs.take k)

theorem two31 (s : Nat) (h : s ≤ 31) : (0 : Int) < 2 ^ s ∧ (2 : Int) ^ s ≤ 2147483648 := ⟨pow2_pos s, by have := pow2_mono h; simpa using this⟩
theorem or_shift {x c : Int} {s : Nat} (hx0 : 0 ≤ x) (hx : x < 4294967296) (hs : s ≤ 31) (hc0 : 0 ≤ c) (hc : c < 2 ^ s) : bits .or .u64 (IntKind.u64.wrap (x * 2 ^ s)) c = x * 2 ^ s + c := by
  obtain ⟨p0, p1⟩ := two31 s hs
  have m0 : 0 ≤ x * 2 ^ s := Int.mul_nonneg hx0 (by omega)
  have m1 : x * 2 ^ s ≤ 4294967295 * 2147483648 := Int.mul_le_mul (by omega) p1 (by omega) (by omega)
  rw [wraps_u64 _ m0 (by omega)]
  exact bits_join .u64 64 (by decide) wraps_u64 s _ c m0 (Int.mul_emod_left _ _) (by omega) hc0 hc (by omega)

/-- shift's result: a row of its own. -/
def ShiftPost (w : World) (n s : Nat) (xs : List Int) (e : Ending) (w' : World) : Prop :=
  ∃ os, e = .returned (.slice (some ⟨w.heap.size, 0, none⟩) (n + 1) (n + 1)) ∧ os.length = n + 1 ∧ Row w' w.heap.size (n + 1) os ∧ Below w.heap.size w w' ∧ val os = 2 ^ s * val xs ∧ rdl os n < 2 ^ s

set_option maxHeartbeats 1000000 in
theorem shift_any (a : Option Addr) (n c : Nat) (xs : List Int) (s : Nat) (w : World) (h : Sl w a n c xs) (hs : s ≤ 31) (hn : n + 1 ≤ 1048576) :
    Calls Try.prog 54 #[.slice a n c, .int .i64 s] w (ShiftPost w n s xs) := by
  have hn2 : n ≤ 1048575 := by omega
  go_enter Try.func54, Try.ntmps54
  go_wp2_with (at_make; refine wpList_make_limbs _ rfl _ _ rfl (n + 1) _ _ rfl rfl (by simp) (by simp) (by omega) ?_)
  intro w1 hrow hb1
  obtain ⟨g, hg⟩ : ∃ g, g = w.heap.size := ⟨_, rfl⟩
  rw [← hg] at hrow ⊢
  have hgw : w.heap.size ≤ g := by omega
  have HGW := Lib.hid hg
  clear hg hn
  go_wp2_with fail
  go_loopw [6, 16] (fun cv t wr => ∃ (k : Nat) (cr : Int), k ≤ n ∧ t = .int .i64 k ∧ cv = .int .u64 cr ∧ ShRel w g n xs s k cr wr) (fun _ t _ => n - (intOf t).toNat)
  case atStart => exact ⟨0, 0, by omega, by simp, rfl, by omega, (two31 s hs).1, hb1, _, by simp, hrow, by simp [val]⟩
  case round =>
    obtain ⟨k, cr, hk, rfl, rfl, hc0, hc1, hb, os, hl, hr, inv⟩ := hrel
    have INV := Lib.hid inv
    clear inv
    have hl := Lib.hid hl
    have HC1 := Lib.hid hc1
    clear hc1
    have g1 := h.kept hb
    have hfr := hr.free k
    have hoc := hr.cell (i := k) (by rw [hl.out]; omega)
    by_cases hkn : k < n
    · obtain ⟨b1, o1, rfl, hlt1, hcell⟩ := g1.at_ (by omega)
      have hck := hcell k hkn
      have bx := rdl_bd h.lm k
      have hor := or_shift bx.1 bx.2 hs hc0 HC1.out
      have hcar := shift_carry bx.1 bx.2 (two31 s hs).1 hc0 HC1.out
      have HCAR := Lib.hid hcar
      have hS0 := hcar.1
      clear hcell hcar
      go_wp2_with fail
      go_roundw
      case rel => exact ⟨k + 1, _, by omega, by go_num, rfl, HCAR.out.2.1, HCAR.out.2.2, hb.setCell (p := ⟨g, k, none⟩) hgw _, _, by rw [List.length_set]; exact hl.out, hr.set k (by omega) (by omega), shift_step (by rw [hl.out]; omega) INV.out rfl⟩
      case measure => simp [intOf]; omega
    · obtain rfl : k = n := by omega
      have hc1 : cr < 4294967296 := by have := HC1.out; have := (two31 s hs).2; omega
      go_wp2_with fail
      go_ret
      have eg : g = w.heap.size := HGW.out
      clear HGW
      subst eg
      refine ⟨_, rfl, by rw [List.length_set]; exact hl.out, hr.set k hc0 hc1, hb.setCell (p := ⟨w.heap.size, k, none⟩) hgw _, ?_, ?_⟩
      · have e := val_set_next (xs := os) (k := k) (by rw [hl.out]; omega) cr
        rw [val_take_all (by rw [List.length_set, hl.out]; exact Nat.le_refl _)] at e
        rw [e, INV.out, val_take_all (by rw [h.len]; exact Nat.le_refl _)]
      · rw [rdl_set_eq (by rw [hl.out]; omega)]; exact HC1.out
end Go.Proofs.Ytaaolnepkgcbaaa
