/- ref.Int, ref.Same, law's same, law's long. -/
import Derived.Test.YtaaolnepkgcbaaaDoorIntF
import Derived.Deep.QuietTactic
import Derived.BigQuiet
namespace Go.Proofs.YtaaolnepkgcbaaaDoor
open Go.RowKit Lb
set_option linter.unusedVariables false

theorem val_two {xs : List Int} (hl : Lm xs) : ∃ r, 0 ≤ r ∧ val xs = rdl xs 0 + 4294967296 * rdl xs 1 + 18446744073709551616 * r := by
  match xs, hl with
  | [], _ => exact ⟨0, by omega, by simp [val, rdl]⟩
  | [x], _ => exact ⟨0, by omega, by simp [val, rdl]⟩
  | x :: y :: r, hl => exact ⟨val r, val_nonneg hl.tail.tail, by simp [val, rdl]; omega⟩

/-- A bool is returned in a world that keeps what was there. -/
def BoolB (b : Bool) (w : World) (e : Ending) (w' : World) : Prop := e = .returned (.bool b) ∧ Below w.heap.size w w'
theorem BoolB.mk' {b : Bool} {c : Bool} {w w' : World} (h : b = c) (hb : Below w.heap.size w w') : BoolB b w (.returned (.bool c)) w' := ⟨by rw [h], hb⟩
/-- Two lists are one. -/
def sameB (xs ys : List Int) : Bool := decide (xs = ys)
theorem sameB_self (xs : List Int) : sameB xs xs = true := by simp [sameB]
theorem take_eq_succ {xs ys : List Int} {k : Nat} (h1 : k < xs.length) (h2 : k < ys.length) (h : xs.take k = ys.take k) (hk : rdl xs k = rdl ys k) : xs.take (k + 1) = ys.take (k + 1) := by
  rw [take_snoc h1, take_snoc h2, h]
  unfold rdl at hk
  rw [hk]
theorem drewN_below {B : Nat} {w w' : World} (h : Below B w w') (n : Nat) : Below B w (w'.drewN n) := by
  induction n with
  | zero => exact h
  | succ n ih => rw [← World.drew_drewN]; exact ih.drew

set_option maxHeartbeats 400000 in
theorem same_any (a b : Option Addr) (n c m d : Nat) (xs ys : List Int) (w : World) (h : Sl w a n c xs) (h' : Sl w b m d ys) :
    Calls Tryd.prog 20 #[.slice a n c, .slice b m d] w (BoolB (sameB xs ys) w) := by
  have hs := h.sm
  have hs' := h'.sm
  by_cases hnm : n = m
  · subst hnm
    go_enter Tryd.func20, Tryd.ntmps20
    go_wp2_with fail
    go_loopw [5] (fun t wr => ∃ k : Nat, k ≤ n ∧ t = .int .i64 k ∧ Hid (xs.take k = ys.take k) ∧ Below w.heap.size w wr) (fun t _ => n - (intOf t).toNat)
    case atStart => exact ⟨0, by omega, by simp, rfl, Below.refl _ _⟩
    case round =>
      obtain ⟨k, hk, rfl, ht, hb⟩ := hrel
      have g := h.below hb (Nat.le_refl _)
      have g' := h'.below hb (Nat.le_refl _)
      by_cases hlt : k < n
      · obtain ⟨b1, o1, rfl, hlt1, hcell⟩ := g.at_ (by omega)
        obtain ⟨b2, o2, rfl, hlt2, hcell'⟩ := g'.at_ (by omega)
        have hck := hcell k (by omega)
        have hck' := hcell' k (by omega)
        clear hcell hcell'
        have hi : (k : Int) < (n : Int) := by omega
        have hi0 : (0 : Int) ≤ (k : Int) := by omega
        by_cases he : rdl xs k = rdl ys k
        · have hne : (rdl xs k != rdl ys k) = false := by simp [he]
          have HE := Lib.hid he
          clear he
          go_wp2_with fail
          go_quiet (fail)
          go_wp2_with fail
          go_roundw
          case rel => exact ⟨k + 1, by omega, by go_num, take_eq_succ (by rw [h.len]; omega) (by rw [h'.len]; omega) ht HE.out, drewN_below hb _⟩
          case measure => simp [intOf]; omega
        · have hne : (rdl xs k != rdl ys k) = true := by simp [he]
          have HE := Lib.hid he
          clear he
          go_wp2_with fail
          go_quiet (fail)
          go_wp2_with fail
          go_ret
          exact BoolB.mk' (by unfold sameB; rw [decide_eq_false_iff_not]; intro e; exact HE.out (by rw [e])) (drewN_below hb _)
      · go_wp2_with fail
        go_ret
        exact BoolB.mk' (by unfold sameB; rw [decide_eq_true_iff]; have := ht.out; rwa [List.take_of_length_le (by rw [h.len]; omega), List.take_of_length_le (by rw [h'.len]; omega)] at this) hb
  · go_enter Tryd.func20, Tryd.ntmps20
    have hne : ((n : Int) != (m : Int)) = true := by rw [bne_iff_ne]; omega
    go_wp2_with fail
    go_ret
    exact BoolB.mk' (by unfold sameB; rw [decide_eq_false_iff_not]; intro e; exact hnm (by rw [← h.len, ← h'.len, e])) (Below.refl _ _)

theorem lsame_any (a b : Option Addr) (n c m d : Nat) (xs ys : List Int) (w : World) (h : Sl w a n c xs) (h' : Sl w b m d ys) :
    Calls Tryd.prog 8 #[.slice a n c, .slice b m d] w (BoolB (sameB xs ys) w) := by
  go_enter Tryd.func8, Tryd.ntmps8
  go_wp2_with fail
  refine (same_any _ _ _ _ _ _ _ _ _ h h').mono ?_
  rintro e w1 ⟨rfl, hb⟩
  go_wp2_with fail
  go_ret
  exact ⟨rfl, hb⟩


/-- Is a list longer than most? -/
def longB (most : Nat) (ls : List Nat) : Bool := ls.any fun n => decide (most < n)
/-- A slice of slices: the lengths alone. -/
structure Lens (w : World) (a : Option Addr) (n c : Nat) (ls : List Nat) : Prop where
  len : ls.length = n
  le : n ≤ c
  sm : n ≤ 140737488355328
  at_ : 0 < n → ∃ b o, a = some ⟨b, o, none⟩ ∧ b < w.heap.size ∧ ∀ i, i < n → ∃ a' c', w.cell? ⟨b, o + i, none⟩ = some (.slice a' (ls.getD i 0) c')
theorem long_step {m k : Nat} {ls : List Nat} (hk : k < ls.length) (h : longB m (ls.take k) = false) (h1 : ¬ m < ls.getD k 0) : longB m (ls.take (k + 1)) = false := by
  unfold longB at *
  rw [List.take_succ_eq_append_getElem hk, List.any_append, h]
  simp only [List.getD_eq_getElem?_getD, List.getElem?_eq_getElem hk, Option.getD_some] at h1
  simp; omega
theorem long_found {m k : Nat} {ls : List Nat} (hk : k < ls.length) (h1 : m < ls.getD k 0) : longB m ls = true := by
  unfold longB
  rw [List.any_eq_true]
  simp only [List.getD_eq_getElem?_getD, List.getElem?_eq_getElem hk, Option.getD_some] at h1
  exact ⟨ls[k], List.getElem_mem hk, by simpa using h1⟩

end Go.Proofs.YtaaolnepkgcbaaaDoor
