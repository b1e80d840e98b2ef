/- nat.digit, ref.small: division by one limb. -/
import Derived.Test.YtaaolnepkgcbaaaTimes
import Derived.Test.YtaaolnepkgcbaaaMathB
namespace Go.Proofs.Ytaaolnepkgcbaaa
open Go.RowKit Lb
set_option linter.unusedVariables false

/-- The loop: k limbs are still to come. -/
def DivRel (w : World) (g n : Nat) (xs : List Int) (b : Int) (k : Nat) (rem : Int) (wr : World) : Prop :=
  0 ≤ rem ∧ rem < b ∧ Below w.heap.size w wr ∧ ∃ os, os.length = n ∧ Row wr g n os ∧ val (xs.drop k) = b * val (os.drop k) + rem
theorem DivRel.step {w wr : World} {g n : Nat} {xs os : List Int} {k : Nat} {b rem : Int} (hb0 : 0 < b) (hb1 : b ≤ 4294967296) (h0 : 0 ≤ rem) (h1 : rem < b) (hb : Below w.heap.size w wr) (hl : os.length = n) (hr : Row wr g n os) (hg : w.heap.size ≤ g) (hk : k < n)
    (hx : Lm xs) (inv : val (xs.drop (k + 1)) = b * val (os.drop (k + 1)) + rem) :
    DivRel w g n xs b k ((rem * 4294967296 + rdl xs k) % b) (wr.setCell ⟨g, k, none⟩ (.int .u32 ((rem * 4294967296 + rdl xs k) / b))) := by
  have bx := rdl_bd hx k
  have d := div_step (q := 0) (r := 0) hb0 hb1 h0 h1 bx.1 bx.2
  exact ⟨d.2.2.1, d.2.2.2, hb.setCell (p := ⟨g, k, none⟩) hg _, _, by rw [List.length_set]; exact hl, hr.set k d.1 d.2.1, div_next (by omega) inv⟩

/-- digit's two results. -/
def DigPost (w : World) (K b : Int) (n : Nat) (e : Ending) (w' : World) : Prop :=
  ∃ a n' c' zs, e = .returned (.tuple #[.slice a n' c', .int .u32 (K % b)]) ∧ Got w (Num (K / b) n) a n' c' zs w'

set_option maxHeartbeats 1000000 in
theorem digit_any (a : Option Addr) (n c : Nat) (xs : List Int) (b : Int) (w : World) (h : Sl w a n c xs) (hb0 : 0 < b) (hb1 : b < 4294967296) :
    Calls Try.prog 45 #[.slice a n c, .int .u32 b] w (DigPost w (val xs) b n) := by
  have sn := h.sm
  go_enter Try.func45, Try.ntmps45
  go_wp2_with (at_make; refine wpList_make_limbs _ rfl _ _ rfl n _ _ rfl rfl (by simp) (by simp) (by omega) ?_)
  intro w1 hrow hbl1
  obtain ⟨g, hg⟩ : ∃ g, g = w.heap.size := ⟨_, rfl⟩
  rw [← hg] at hrow ⊢
  have hgw : w.heap.size ≤ g := by omega
  clear hg
  go_wp2_with fail
  go_loopw [7, 8] (fun cv t wr => ∃ (k : Nat) (rem : Int), k ≤ n ∧ t = .int .i64 ((k : Int) - 1) ∧ cv = .int .u64 rem ∧ DivRel w g n xs b k rem wr) (fun _ t _ => (intOf t + 1).toNat)
  case atStart => exact ⟨n, 0, by omega, rfl, rfl, by omega, hb0, hbl1, _, by simp, hrow, by rw [List.drop_of_length_le (by rw [h.len]; exact Nat.le_refl _), List.drop_of_length_le (by simp)]; simp [val]⟩
  case round =>
    obtain ⟨k, rem, hk, rfl, rfl, hr0, hr1, hb, os, hl, hr, inv⟩ := hrel
    have INV := Lib.hid inv
    have HL := Lib.hid hl
    clear inv hl
    cases k with
    | zero =>
      have E := Lib.hid (div_end (show val xs = b * val os + rem from INV.out) hr0 hr1)
      go_wp2_with fail
      refine (short_sl _ _ _ _ _ (hr.sl HL.out sn)).mono ?_
      rintro e w3 ⟨q, zs, rfl, rfl, hz, hq, hcz, hvz⟩
      have HV := Lib.hid hvz
      clear hvz
      go_wp2_with fail
      go_ret2
      exact ⟨_, _, _, zs, by rw [← E.out.2]; rfl, hz, hb, hcz, by rw [HV.out, E.out.1], by rw [hz.len]; exact hq⟩
    | succ k =>
      have g1 := h.kept hb
      obtain ⟨b1, o1, rfl, hlt1, hcell⟩ := g1.at_ (by omega)
      have hck := hcell k (by omega)
      have bx := rdl_bd h.lm k
      have hfr := hr.free k
      have hoc := hr.cell (i := k) (by rw [HL.out]; omega)
      have hor := or_u64 (rem * 4294967296) (rdl xs k) (by omega) (by omega) (by omega) bx.1 bx.2
      obtain ⟨d0, d1, d2, d3⟩ := div_step (q := 0) (r := 0) hb0 (by omega) hr0 hr1 bx.1 bx.2
      have HS := Lib.hid (DivRel.step hb0 (by omega) hr0 hr1 hb HL.out hr hgw (by omega) h.lm INV.out)
      clear hcell
      go_wp2_with fail
      go_roundw
      case rel => exact ⟨k, _, by omega, by simp, rfl, HS.out⟩
      case measure => simp [intOf]

set_option maxHeartbeats 1000000 in
theorem small_any (a : Option Addr) (n c : Nat) (xs : List Int) (p b : Int) (w : World) (h : Sl w a n c xs) (hp0 : 0 ≤ p) (hp1 : p < 4294967296) (hb0 : 0 < b) (hb1 : b < 4294967296) (hn : n + 2 ≤ 1048576) :
    Calls Try.prog 52 #[.slice a n c, .int .i64 p, .int .i64 b] w (Ret w (Num (val xs * p / b) (n + 2))) := by
  go_enter Try.func52, Try.ntmps52
  go_wp2_with fail
  refine (rof_any _ _ hp0 (by omega)).mono ?_
  rintro e w2 ⟨a2, n2, c2, x2, rfl, g2⟩
  have s1 := h.kept g2.bel
  have l2 := g2.prop.2.2
  have l3 := g2.sl.len
  have hn2 : n2 ≤ 2 := by omega
  clear l2 l3
  go_wp2_with fail
  refine (rmul_any _ _ _ _ _ _ _ _ _ s1 g2.sl (by omega)).mono ?_
  rintro e w3 ⟨a3, n3, c3, x3, rfl, g3⟩
  have hb3 := chain g2.bel g3.bel
  have s3 := g3.sl
  have HV : Hid (val x3 = val xs * p) := by unfold Hid; rw [g3.prop.2.1, g2.prop.2.1]
  have l3 := g3.prop.2.2
  have l4 := g3.sl.len
  have hn3 : n3 ≤ n + 2 := by omega
  clear l3 l4 g3 g2 s1
  go_wp2_with (at_make; refine wpList_make_limbs _ rfl _ _ rfl n3 _ _ rfl rfl (by simp) (by simp) (by omega) ?_)
  intro w1 hrow hbl1
  obtain ⟨g, hg⟩ : ∃ g, g = w3.heap.size := ⟨_, rfl⟩
  rw [← hg] at hrow ⊢
  have hgw : w3.heap.size ≤ g := by omega
  clear hg
  go_wp2_with fail
  go_loopw [8, 9] (fun cv t wr => ∃ (k : Nat) (rem : Int), k ≤ n3 ∧ t = .int .i64 ((k : Int) - 1) ∧ cv = .int .u64 rem ∧ DivRel w3 g n3 x3 b k rem wr) (fun _ t _ => (intOf t + 1).toNat)
  case atStart => exact ⟨n3, 0, by omega, rfl, rfl, by omega, hb0, hbl1, _, by simp, hrow, by rw [List.drop_of_length_le (by rw [s3.len]; exact Nat.le_refl _), List.drop_of_length_le (by simp)]; simp [val]⟩
  case round =>
    obtain ⟨k, rem, hk, rfl, rfl, hr0, hr1, hb, os, hl, hr, inv⟩ := hrel
    have INV := Lib.hid inv
    have HL := Lib.hid hl
    clear inv hl
    cases k with
    | zero =>
      have E := Lib.hid (div_end (show val x3 = b * val os + rem from INV.out) hr0 hr1)
      go_wp2_with fail
      refine (rtrim_any _ _ _ _ _ (hr.sl HL.out (by omega))).mono ?_
      rintro e w4 ⟨a4, n4, c4, x4, rfl, g4⟩
      go_wp2_with fail
      go_ret
      exact ⟨_, _, _, x4, rfl, g4.sl, chain hb3 (chain hb g4.bel), g4.prop.1, by rw [g4.prop.2.1, E.out.1, HV.out], Nat.le_trans g4.prop.2.2 hn3⟩
    | succ k =>
      have g1 := s3.kept hb
      obtain ⟨b1, o1, rfl, hlt1, hcell⟩ := g1.at_ (by omega)
      have hck := hcell k (by omega)
      have bx := rdl_bd s3.lm k
      have hfr := hr.free k
      have hoc := hr.cell (i := k) (by rw [HL.out]; omega)
      obtain ⟨d0, d1, d2, d3⟩ := div_step (q := 0) (r := 0) hb0 (by omega) hr0 hr1 bx.1 bx.2
      have HS := Lib.hid (DivRel.step hb0 (by omega) hr0 hr1 hb HL.out hr hgw (by omega) s3.lm INV.out)
      clear hcell
      go_wp2_with fail
      go_roundw
      case rel => exact ⟨k, _, by omega, by simp, rfl, HS.out⟩
      case measure => simp [intOf]
end Go.Proofs.Ytaaolnepkgcbaaa
