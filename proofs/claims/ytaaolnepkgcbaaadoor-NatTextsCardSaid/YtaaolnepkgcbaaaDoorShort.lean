/- nat.short: the number's canonical part, over the same memory. -/
import Derived.Test.YtaaolnepkgcbaaaDoorBase
namespace Go.Proofs.YtaaolnepkgcbaaaDoor
open Go.RowKit Lb
set_option linter.unusedVariables false

def ShortPost (a : Option Addr) (n : Nat) (xs : List Int) (w : World) (e : Ending) (w' : World) : Prop :=
  ∃ m, e = .returned (.slice a m m) ∧ m ≤ n ∧ Cn (xs.take m) ∧ val (xs.take m) = val xs ∧ w = w'
theorem short_step {xs : List Int} {k : Nat} (hk : k < xs.length) (h : rdl xs k = 0) (hv : val (xs.take (k + 1)) = val xs) : val (xs.take k) = val xs := by
  rw [val_take_succ hk] at hv
  unfold rdl at h
  rw [h] at hv; simpa using hv
theorem short_stop {xs : List Int} {k : Nat} (hk : k < xs.length) (h : ¬ rdl xs k = 0) : Cn (xs.take (k + 1)) := by
  rw [take_snoc hk]
  unfold rdl at h
  simpa [Cn] using h

set_option maxHeartbeats 400000 in
theorem short_any (a : Option Addr) (n c : Nat) (xs : List Int) (w : World) (h : Sl w a n c xs) :
    Calls Tryd.prog 11 #[.slice a n c] w (ShortPost a n xs w) := by
  have hs := h.sm
  have hn := h.le
  go_enter Tryd.func11, Tryd.ntmps11
  go_wp2
  go_loop [3] (fun t => ∃ k : Nat, k ≤ n ∧ t = .int .i64 k ∧ val (xs.take k) = val xs) (fun t => (intOf t).toNat)
  case atStart => exact ⟨n, Nat.le_refl _, rfl, val_take_all (by rw [h.len]; exact Nat.le_refl _)⟩
  case round =>
    obtain ⟨k, hk, rfl, hv⟩ := hrel
    have HV := Lib.hid hv
    clear hv
    cases k with
    | zero =>
      go_wp2
      go_ret
      exact ⟨0, rfl, by omega, by simp [Cn], HV.out, rfl⟩
    | succ k =>
      obtain ⟨b, o, rfl, hlt, hcell⟩ := h.at_ (by omega)
      have hck := hcell k (by omega)
      clear hcell
      by_cases h0 : rdl xs k = 0
      · have h0' : (rdl xs k == 0) = true := by simp [h0]
        have H0 := Lib.hid h0
        clear h0
        go_wp2
        go_round
        case rel => exact ⟨k, by omega, by go_num, short_step (by rw [h.len]; omega) H0.out HV.out⟩
        case measure => simp [intOf]
      · have h0' : (rdl xs k == 0) = false := by simp [h0]
        have H0 := Lib.hid h0
        clear h0
        go_wp2
        go_ret
        exact ⟨k + 1, rfl, by omega, short_stop (by rw [h.len]; omega) H0.out, HV.out, rfl⟩

/-- What short leaves, as a reading. -/
theorem ShortPost.sl {a : Option Addr} {n c : Nat} {xs : List Int} {w w' : World} {e : Ending} (h : Sl w a n c xs) (hp : ShortPost a n xs w e w') :
    ∃ m ys, e = .returned (.slice a m m) ∧ w = w' ∧ Sl w a m m ys ∧ m ≤ n ∧ Cn ys ∧ val ys = val xs := by
  obtain ⟨m, he, hm, hc, hv, hw⟩ := hp
  exact ⟨m, xs.take m, he, hw, h.take m m hm (Nat.le_refl _) (Nat.le_trans hm h.le), hm, hc, hv⟩
theorem short_sl (a : Option Addr) (n c : Nat) (xs : List Int) (w : World) (h : Sl w a n c xs) :
    Calls Tryd.prog 11 #[.slice a n c] w fun e w' => ∃ m ys, e = .returned (.slice a m m) ∧ w = w' ∧ Sl w a m m ys ∧ m ≤ n ∧ Cn ys ∧ val ys = val xs :=
  (short_any a n c xs w h).mono fun _ _ hp => hp.sl h
end Go.Proofs.YtaaolnepkgcbaaaDoor
