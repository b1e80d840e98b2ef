/- nat.Trim, ref.Trim, nat.Of, ref.Of: a fresh canonical copy. -/
import Derived.Test.YtaaolnepkgcbaaaDoorShort
namespace Go.Proofs.YtaaolnepkgcbaaaDoor
open Go.RowKit Lb
set_option linter.unusedVariables false

set_option maxHeartbeats 400000 in
theorem trim_own (a : Option Addr) (n c : Nat) (xs : List Int) (w : World) (h : Sl w a n c xs) :
    Calls Tryd.prog 19 #[.slice a n c] w (RetO w (Num (val xs) n)) := by
  have hs := h.sm
  go_enter Tryd.func19, Tryd.ntmps19
  go_wp2_with fail
  refine (short_sl _ _ _ _ _ h).mono ?_
  rintro e w' ⟨m, ys, rfl, rfl, hy, hm, hc, hv⟩
  go_wp2_with (at_builtin; refine wpList_append_limbs _ rfl _ _ rfl w.heap.size _ _ rfl (Own.nil _ _) _ _ _ _ rfl hy ?c1 (Nat.le_refl _) ?_)
  case c1 => simp; omega
  intro v' w1 hown hb
  go_wp2
  go_ret
  exact ⟨_, ys, rfl, hown, hb, by rw [hy.len]; exact hy.sm, hc, hv, by rw [hy.len]; exact hm⟩


theorem fin_trim {w w1 : World} {v' : Value} {ys : List Int} {o : Obj} {K : Int} {n : Nat} (hown : Own w1 w.heap.size v' ys) (hb : Below w.heap.size (w.alloc o) w1) (hc : Cn ys) (hv : val ys = K) (hl : ys.length ≤ n) (hn : n ≤ 1048576) :
    RetO w (Num K n) (.returned v') w1 := ⟨_, ys, rfl, hown, (below_alloc w o).trans hb, by omega, hc, hv, hl⟩

set_option maxHeartbeats 400000 in
theorem rtrim_own (a : Option Addr) (n c : Nat) (xs : List Int) (w : World) (h : Sl w a n c xs) :
    Calls Tryd.prog 9 #[.slice a n c] w (RetO w (Num (val xs) n)) := by
  have hs := h.sm
  have hn := h.le
  go_enter Tryd.func9, Tryd.ntmps9
  go_wp2
  go_loop [3] (fun t => ∃ k : Nat, k ≤ n ∧ t = .int .i64 k ∧ val (xs.take k) = val xs) (fun t => (intOf t).toNat)
  case atStart => exact ⟨n, Nat.le_refl _, rfl, val_take_all (by rw [h.len]; exact Nat.le_refl _)⟩
  case round =>
    obtain ⟨k, hk, rfl, hv⟩ := hrel
    have HV := Lib.hid hv
    clear hv
    cases k with
    | zero =>
      go_wp2_with (at_builtin; refine wpList_append_limbs _ rfl _ _ rfl w.heap.size _ _ rfl (Own.made _) _ _ _ _ rfl ((h.take 0 c (by omega) (by omega) (Nat.le_refl _)).alloc _) ?c1 (by simp) ?_)
      intro v' w1 hown hb
      go_wp2
      go_ret
      exact fin_trim hown (by simpa using hb) (by simp [Cn]) HV.out (by simp) hs
    | succ k =>
      obtain ⟨b, o, rfl, hlt, hcell⟩ := h.at_ (by omega)
      have hck := hcell k (by omega)
      clear hcell
      by_cases h0 : rdl xs k = 0
      · have h0' : (rdl xs k == 0) = true := by simp [h0]
        have H0 := Lib.hid h0
        clear h0
        go_wp2_with fail
        go_round
        case rel => exact ⟨k, by omega, by go_num, short_step (by rw [h.len]; omega) H0.out HV.out⟩
        case measure => simp [intOf]
      · have h0' : (rdl xs k == 0) = false := by simp [h0]
        have H0 := Lib.hid h0
        clear h0
        go_wp2_with (at_builtin; refine wpList_append_limbs _ rfl _ _ rfl w.heap.size _ _ rfl (Own.made _) _ _ _ _ rfl ((h.take (k + 1) c (by omega) (by omega) (Nat.le_refl _)).alloc _) ?c2 (by simp) ?_)
        case c2 => have := h.len; simp; omega
        intro v' w1 hown hb
        go_wp2
        go_ret
        exact fin_trim hown (by simpa using hb) (short_stop (by rw [h.len]; omega) H0.out) HV.out (by have := h.len; simp; omega) (by omega)

theorem trim_any (a : Option Addr) (n c : Nat) (xs : List Int) (w : World) (h : Sl w a n c xs) :
    Calls Tryd.prog 19 #[.slice a n c] w (Ret w (Num (val xs) n)) := (trim_own a n c xs w h).mono fun _ _ hp => hp.ret
theorem rtrim_any (a : Option Addr) (n c : Nat) (xs : List Int) (w : World) (h : Sl w a n c xs) :
    Calls Tryd.prog 9 #[.slice a n c] w (Ret w (Num (val xs) n)) := (rtrim_own a n c xs w h).mono fun _ _ hp => hp.ret
end Go.Proofs.YtaaolnepkgcbaaaDoor
