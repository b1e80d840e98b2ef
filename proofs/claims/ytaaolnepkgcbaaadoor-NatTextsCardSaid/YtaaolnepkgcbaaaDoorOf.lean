/- nat.Of, ref.Of: the number of a uint64. -/
import Derived.Test.YtaaolnepkgcbaaaDoorTrim
namespace Go.Proofs.YtaaolnepkgcbaaaDoor
open Go.RowKit Lb
set_option linter.unusedVariables false

/-- Two limbs that were just laid. -/
theorem sl_two (w : World) (x y : Int) (hx : 0 ≤ x ∧ x < 4294967296) (hy : 0 ≤ y ∧ y < 4294967296) :
    Sl (w.alloc (.cells #[.int .u32 x, .int .u32 y] 32)) (some ⟨w.heap.size, 0, none⟩) 2 2 [x, y] := by
  refine ⟨rfl, Nat.le_refl _, (fun e => by cases e), by omega, Lm.cons hx.1 hx.2 (Lm.cons hy.1 hy.2 Lm.nil), fun _ => ⟨_, _, rfl, by simp, fun i hi => ?_⟩⟩
  match i, hi with
  | 0, _ => simp [rdl]
  | 1, _ => simp [rdl]
theorem sl_one (w : World) (x : Int) (hx : 0 ≤ x ∧ x < 4294967296) :
    Sl (w.alloc (.cells #[.int .u32 x] 32)) (some ⟨w.heap.size, 0, none⟩) 1 1 [x] := by
  refine ⟨rfl, Nat.le_refl _, (fun e => by cases e), by omega, Lm.cons hx.1 hx.2 Lm.nil, fun _ => ⟨_, _, rfl, by simp, fun i hi => ?_⟩⟩
  match i, hi with
  | 0, _ => simp [rdl]

theorem sl_one_at {w : World} {g : Nat} (x : Int) (hx : 0 ≤ x ∧ x < 4294967296) (hg : g = w.heap.size) :
    Sl (w.alloc (.cells #[.int .u32 x] 32)) (some ⟨g, 0, none⟩) 1 1 [x] := by
  subst hg
  exact sl_one w x hx
theorem sl_two_at {w : World} {g : Nat} (x y : Int) (hx : 0 ≤ x ∧ x < 4294967296) (hy : 0 ≤ y ∧ y < 4294967296) (hg : g = w.heap.size) :
    Sl (w.alloc (.cells #[.int .u32 x, .int .u32 y] 32)) (some ⟨g, 0, none⟩) 2 2 [x, y] := by
  subst hg
  exact sl_two w x y hx hy
theorem of_num (u : Int) {xs : List Int} (h : Num (val [u % 4294967296, u / 4294967296]) 2 xs) : Num u 2 xs := by
  obtain ⟨h1, h2, h3⟩ := h
  exact ⟨h1, by rw [h2]; simp only [val]; omega, h3⟩
end Go.Proofs.YtaaolnepkgcbaaaDoor
