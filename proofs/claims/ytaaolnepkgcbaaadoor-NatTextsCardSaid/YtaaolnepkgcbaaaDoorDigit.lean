/- nat.digit, ref.small: division by one limb. -/
import Derived.Test.YtaaolnepkgcbaaaDoorTimes
import Derived.Test.YtaaolnepkgcbaaaDoorMathB
namespace Go.Proofs.YtaaolnepkgcbaaaDoor
open Go.RowKit Lb
set_option linter.unusedVariables false

/-- The loop: k limbs are still to come. -/
def DivRel (w : World) (g n : Nat) (xs : List Int) (b : Int) (k : Nat) (rem : Int) (wr : World) : Prop :=
  0 ≤ rem ∧ rem < b ∧ Below w.heap.size w wr ∧ ∃ os, os.length = n ∧ Row wr g n os ∧ val (xs.drop k) = b * val (os.drop k) + rem
theorem DivRel.step {w wr : World} {g n : Nat} {xs os : List Int} {k : Nat} {b rem : Int} (hb0 : 0 < b) (hb1 : b ≤ 4294967296) (h0 : 0 ≤ rem) (h1 : rem < b) (hb : Below w.heap.size w wr) (hl : os.length = n) (hr : Row wr g n os) (hg : w.heap.size ≤ g) (hk : k < n)
    (hx : Lm xs) (inv : val (xs.drop (k + 1)) = b * val (os.drop (k + 1)) + rem) :
    DivRel w g n xs b k ((rem * 4294967296 + rdl xs k) % b) (wr.setCell ⟨g, k, none⟩ (.int .u32 ((rem * 4294967296 + rdl xs k) / b))) := by
  have bx := rdl_bd hx k
  have d := div_step (q := 0) (r := 0) hb0 hb1 h0 h1 bx.1 bx.2
  exact ⟨d.2.2.1, d.2.2.2, hb.setCell (p := ⟨g, k, none⟩) hg _, _, by rw [List.length_set]; exact hl, hr.set k d.1 d.2.1, div_next (by omega) inv⟩

/-- digit's two results. -/
def DigPost (w : World) (K b : Int) (n : Nat) (e : Ending) (w' : World) : Prop :=
  ∃ a n' c' zs, e = .returned (.tuple #[.slice a n' c', .int .u32 (K % b)]) ∧ Got w (Num (K / b) n) a n' c' zs w'

/-- .. and the quotient's row is new. -/
def DigPostF (w : World) (K b : Int) (n : Nat) (e : Ending) (w' : World) : Prop :=
  ∃ a n' c' zs, e = .returned (.tuple #[.slice a n' c', .int .u32 (K % b)]) ∧ Got w (Num (K / b) n) a n' c' zs w' ∧ ∀ b o, a = some ⟨b, o, none⟩ → w.heap.size ≤ b

set_option maxHeartbeats 1000000 in
theorem digit_fresh (a : Option Addr) (n c : Nat) (xs : List Int) (b : Int) (w : World) (h : Sl w a n c xs) (hb0 : 0 < b) (hb1 : b < 4294967296) :
    Calls Tryd.prog 12 #[.slice a n c, .int .u32 b] w (DigPostF w (val xs) b n) := by
  have sn := h.sm
  go_enter Tryd.func12, Tryd.ntmps12
  go_wp2_with (at_make; refine wpList_make_limbs _ rfl _ _ rfl n _ _ rfl rfl (by simp) (by simp) (by omega) ?_)
  intro w1 hrow hbl1
  obtain ⟨g, hg⟩ : ∃ g, g = w.heap.size := ⟨_, rfl⟩
  rw [← hg] at hrow ⊢
  have hgw : w.heap.size ≤ g := by omega
  clear hg
  go_wp2_with fail
  go_loopw [7, 8] (fun cv t wr => ∃ (k : Nat) (rem : Int), k ≤ n ∧ t = .int .i64 ((k : Int) - 1) ∧ cv = .int .u64 rem ∧ DivRel w g n xs b k rem wr) (fun _ t _ => (intOf t + 1).toNat)
  case atStart => exact ⟨n, 0, by omega, rfl, rfl, by omega, hb0, hbl1, _, by simp, hrow, by rw [List.drop_of_length_le (by rw [h.len]; exact Nat.le_refl _), List.drop_of_length_le (by simp)]; simp [val]⟩
  case round =>
    obtain ⟨k, rem, hk, rfl, rfl, hr0, hr1, hb, os, hl, hr, inv⟩ := hrel
    have INV := Lib.hid inv
    have HL := Lib.hid hl
    clear inv hl
    cases k with
    | zero =>
      have E := Lib.hid (div_end (show val xs = b * val os + rem from INV.out) hr0 hr1)
      go_wp2_with fail
      refine (short_sl _ _ _ _ _ (hr.sl HL.out sn)).mono ?_
      rintro e w3 ⟨q, zs, rfl, rfl, hz, hq, hcz, hvz⟩
      have HV := Lib.hid hvz
      clear hvz
      go_wp2_with fail
      go_ret2
      exact ⟨_, _, _, zs, by rw [← E.out.2]; rfl, ⟨hz, hb, hcz, by rw [HV.out, E.out.1], by rw [hz.len]; exact hq⟩, fun b o e => by cases e; exact hgw⟩
    | succ k =>
      have g1 := h.kept hb
      obtain ⟨b1, o1, rfl, hlt1, hcell⟩ := g1.at_ (by omega)
      have hck := hcell k (by omega)
      have bx := rdl_bd h.lm k
      have hfr := hr.free k
      have hoc := hr.cell (i := k) (by rw [HL.out]; omega)
      have hor := or_u64 (rem * 4294967296) (rdl xs k) (by omega) (by omega) (by omega) bx.1 bx.2
      obtain ⟨d0, d1, d2, d3⟩ := div_step (q := 0) (r := 0) hb0 (by omega) hr0 hr1 bx.1 bx.2
      have HS := Lib.hid (DivRel.step hb0 (by omega) hr0 hr1 hb HL.out hr hgw (by omega) h.lm INV.out)
      clear hcell
      go_wp2_with fail
      go_roundw
      case rel => exact ⟨k, _, by omega, by simp, rfl, HS.out⟩
      case measure => simp [intOf]
theorem digit_any (a : Option Addr) (n c : Nat) (xs : List Int) (b : Int) (w : World) (h : Sl w a n c xs) (hb0 : 0 < b) (hb1 : b < 4294967296) :
    Calls Tryd.prog 12 #[.slice a n c, .int .u32 b] w (DigPost w (val xs) b n) :=
  (digit_fresh a n c xs b w h hb0 hb1).mono fun _ _ ⟨a', n', c', zs, he, hg, _⟩ => ⟨a', n', c', zs, he, hg⟩

end Go.Proofs.YtaaolnepkgcbaaaDoor
