/- A law's arguments: slices of limbs that came in. -/
import Derived.Test.YtaaolnepkgcbaaaDoorSame
import Derived.OpenShut
namespace Go.Proofs.YtaaolnepkgcbaaaDoor
open Go.RowKit Lb
set_option linter.unusedVariables false

/-- What the row tells of a slice of integers (the shell's own words). -/
def ARow (k : IntKind) (w : World) (a : Option Addr) (len cap : Nat) (zs : List Int) : Prop :=
  (a = none ∧ len = 0 ∧ cap = 0 ∧ zs = []) ∨
  ∃ x, a = some x ∧ len ≤ cap ∧ cap ≤ maxLen ∧ zs.length = cap ∧ (∀ i, i < zs.length → w.cell? (x.add i) = some (.int k (zs.getD i 0))) ∧ ∀ n ∈ zs, (Lit.int k n).wf = true

theorem ARow.le {w : World} {a : Option Addr} {len cap : Nat} {zs : List Int} (h : ARow .u32 w a len cap zs) : len ≤ cap := by
  rcases h with ⟨rfl, rfl, rfl, rfl⟩ | ⟨x, rfl, h1, _⟩
  · exact Nat.le_refl _
  · exact h1
theorem ARow.sl {w : World} {a : Option Addr} {len cap : Nat} {zs : List Int} (h : ARow .u32 w a len cap zs) (hn : len ≤ 1048576) : Sl w a len cap (zs.take len) := by
  rcases h with ⟨rfl, rfl, rfl, rfl⟩ | ⟨x, rfl, h1, h2, h3, h4, h5⟩
  · exact Sl.empty w
  · have hlm : Lm zs := fun n hn => by
      have := bounds_u32 (h5 n hn)
      omega
    refine ⟨by rw [List.length_take]; omega, h1, (fun e => by cases e), hn, hlm.take len, fun h0 => ?_⟩
    obtain ⟨b, off, rfl, hc⟩ := ints_at h4 (by omega)
    refine ⟨b, off, rfl, ?_, fun i hi => ?_⟩
    · exact World.block_lt_of_cell? w ⟨b, off + 0, none⟩ (hc 0 (by omega))
    · rw [hc i (by omega)]
      unfold rdl
      rw [List.getD_eq_getElem?_getD, List.getD_eq_getElem?_getD, List.getElem?_take_of_lt hi]

theorem lens_one (w : World) (a : Option Addr) (n c : Nat) : Lens (w.alloc (.cells #[.slice a n c] 23)) (some ⟨w.heap.size, 0, none⟩) 1 1 [n] := by
  refine ⟨rfl, Nat.le_refl _, by omega, fun _ => ⟨_, _, rfl, by simp, fun i hi => ?_⟩⟩
  match i, hi with
  | 0, _ => exact ⟨a, c, by simp⟩
theorem lens_two (w : World) (a a' : Option Addr) (n c n' c' : Nat) : Lens (w.alloc (.cells #[.slice a n c, .slice a' n' c'] 23)) (some ⟨w.heap.size, 0, none⟩) 2 2 [n, n'] := by
  refine ⟨rfl, Nat.le_refl _, by omega, fun _ => ⟨_, _, rfl, by simp, fun i hi => ?_⟩⟩
  match i, hi with
  | 0, _ => exact ⟨a, c, by simp⟩
  | 1, _ => exact ⟨a', c', by simp⟩
theorem lens_three (w : World) (a a' a'' : Option Addr) (n c n' c' n'' c'' : Nat) : Lens (w.alloc (.cells #[.slice a n c, .slice a' n' c', .slice a'' n'' c''] 23)) (some ⟨w.heap.size, 0, none⟩) 3 3 [n, n', n''] := by
  refine ⟨rfl, Nat.le_refl _, by omega, fun _ => ⟨_, _, rfl, by simp, fun i hi => ?_⟩⟩
  match i, hi with
  | 0, _ => exact ⟨a, c, by simp⟩
  | 1, _ => exact ⟨a', c', by simp⟩
  | 2, _ => exact ⟨a'', c'', by simp⟩

theorem chain {w w1 w2 : World} (h : Below w.heap.size w w1) (h2 : Below w1.heap.size w1 w2) : Below w.heap.size w w2 := h.trans (h2.mono h.size)
theorem chain_alloc {w w1 : World} (h : Below w.heap.size w w1) (o : Obj) : Below w.heap.size w (w1.alloc o) := h.alloc h.size o
theorem Sl.kept {w w' : World} {a : Option Addr} {n c : Nat} {xs : List Int} (h : Sl w a n c xs) (hb : Below w.heap.size w w') : Sl w' a n c xs := h.below hb (Nat.le_refl _)
/-- same at two lists that are one. -/
theorem same_yes {a b : Option Addr} {n c m d : Nat} {xs ys : List Int} {w : World} (h : Sl w a n c xs) (h' : Sl w b m d ys) (e : xs = ys) :
    Calls Tryd.prog 8 #[.slice a n c, .slice b m d] w fun e w' => e = .returned (.bool true) ∧ Below w.heap.size w w' := by
  subst e
  have := lsame_any a b n c m d xs xs w h h'
  rw [sameB_self] at this
  exact this
theorem same_num {a b : Option Addr} {n c m d : Nat} {xs ys : List Int} {w : World} {K : Int} {p q : Nat} (h : Sl w a n c xs) (h' : Sl w b m d ys) (e : Num K p xs) (e' : Num K q ys) :
    Calls Tryd.prog 8 #[.slice a n c, .slice b m d] w fun e w' => e = .returned (.bool true) ∧ Below w.heap.size w w' :=
  same_yes h h' (uniq h.lm h'.lm e.1 e'.1 (by rw [e.2.1, e'.2.1]))
theorem same_val {a b : Option Addr} {n c m d : Nat} {xs ys : List Int} {w : World} (h : Sl w a n c xs) (h' : Sl w b m d ys) (cx : Cn xs) (cy : Cn ys) (e : val xs = val ys) :
    Calls Tryd.prog 8 #[.slice a n c, .slice b m d] w fun e w' => e = .returned (.bool true) ∧ Below w.heap.size w w' :=
  same_yes h h' (uniq h.lm h'.lm cx cy e)
theorem cn_one {x : Int} (h : x ≠ 0) : Cn [x] := by simpa [Cn] using h
theorem longB_one_yes {m n : Nat} (h : m < n) : longB m [n] = true := by simp [longB, h]
theorem longB_one_no {m n : Nat} (h : ¬ m < n) : longB m [n] = false := by simp [longB]; omega
theorem longB_two_yes {m a b : Nat} (h : m < a ∨ m < b) : longB m [a, b] = true := by simpa [longB] using h
theorem longB_two_no {m a b : Nat} (h : ¬ (m < a ∨ m < b)) : longB m [a, b] = false := by simp [longB]; omega
theorem longB_three_yes {m a b c : Nat} (h : m < a ∨ m < b ∨ m < c) : longB m [a, b, c] = true := by simpa [longB] using h
theorem longB_three_no {m a b c : Nat} (h : ¬ (m < a ∨ m < b ∨ m < c)) : longB m [a, b, c] = false := by simp [longB]; omega
end Go.Proofs.YtaaolnepkgcbaaaDoor
