/- ref.Bits, nat.Int, ref.limb, ref.Int. -/
import Derived.Test.YtaaolnepkgcbaaaDoorLen
namespace Go.Proofs.YtaaolnepkgcbaaaDoor
open Go.RowKit Lb
set_option linter.unusedVariables false

theorem wraps_i64 (n : Int) (h0 : 0 ≤ n) (h1 : n < 2 ^ 63) : IntKind.i64.wrap n = n := by rw [IntKind.wrap_i64]; omega
theorem or_i64 (x y : Int) (hx0 : 0 ≤ x) (hx : x % 4294967296 = 0) (hx1 : x < 9223372036854775808) (h0 : 0 ≤ y) (h1 : y < 4294967296) : bits .or .i64 x y = x + y :=
  bits_join .i64 63 (by decide) wraps_i64 32 x y hx0 hx hx1 h0 h1 (by omega)
theorem wraps_u64 (n : Int) (h0 : 0 ≤ n) (h1 : n < 2 ^ 64) : IntKind.u64.wrap n = n := by simp [IntKind.wrap, IntKind.bits, IntKind.signed]; omega
theorem or_u64 (x y : Int) (hx0 : 0 ≤ x) (hx : x % 4294967296 = 0) (hx1 : x < 18446744073709551616) (h0 : 0 ≤ y) (h1 : y < 4294967296) : bits .or .u64 x y = x + y :=
  bits_join .u64 64 (by decide) wraps_u64 32 x y hx0 hx hx1 h0 h1 (by omega)

/-- An int is returned in a world that keeps what was there. -/
def IntB (p : Int → Prop) (w : World) (e : Ending) (w' : World) : Prop := ∃ r, e = .returned (.int .i64 r) ∧ p r ∧ Below w.heap.size w w'

theorem isBl_half {t : Int} {s : Nat} (h0 : 0 < t) (h : IsBl (t / 2) s) : IsBl t (s + 1) := by
  obtain ⟨h1, h2⟩ := h
  refine ⟨by rw [Int.pow_succ]; omega, .inr ?_⟩
  rw [Nat.add_sub_cancel]
  rcases h2 with h2 | h2
  · subst h2; simp; omega
  · cases s with
    | zero => simp; omega
    | succ s => rw [Nat.add_sub_cancel] at h2; rw [Int.pow_succ]; omega
def HalfRel (T t : Int) (j : Nat) : Prop := 0 ≤ t ∧ t < 4294967296 ∧ j ≤ 32 ∧ t < 2 ^ (32 - j) ∧ ∀ s, IsBl t s → IsBl T (s + j)
theorem HalfRel.start {T : Int} (h0 : 0 ≤ T) (h1 : T < 4294967296) : HalfRel T T 0 := ⟨h0, h1, by omega, by simpa using h1, fun s h => h⟩
theorem HalfRel.step {T t : Int} {j : Nat} (h : HalfRel T t j) (h0 : 0 < t) : j < 32 ∧ HalfRel T (t / 2) (j + 1) := by
  obtain ⟨a, b, c, d, e⟩ := h
  have hj : j < 32 := by
    apply Nat.lt_of_not_le
    intro h'
    rw [show 32 - j = 0 by omega] at d
    simp at d; omega
  refine ⟨hj, by omega, by omega, by omega, ?_, fun s hs => ?_⟩
  · rw [show 32 - j = (32 - (j + 1)) + 1 by omega, Int.pow_succ] at d
    omega
  · have := e _ (isBl_half h0 hs)
    rw [show s + (j + 1) = s + 1 + j by omega]; exact this
theorem HalfRel.stop {T t : Int} {j : Nat} (h : HalfRel T t j) (h0 : ¬ 0 < t) : IsBl T j := by
  have := h.2.2.2.2 0 (by rw [show t = 0 by have := h.1; omega]; exact isBl_zero)
  rwa [Nat.zero_add] at this
theorem HalfRel.bds {T t : Int} {j : Nat} (h : HalfRel T t j) : 0 ≤ t ∧ t < 4294967296 ∧ j ≤ 32 := ⟨h.1, h.2.1, h.2.2.1⟩

/-- Int's two results. -/
def iv (v : Int) : Int := if v < 9223372036854775808 then v else 0
def ib (v : Int) : Bool := decide (v < 9223372036854775808)
def IntPost (K : Int) (w : World) (e : Ending) (w' : World) : Prop := e = .returned (.tuple #[.int .i64 (iv K), .bool (ib K)]) ∧ Below w.heap.size w w'
theorem IntPost.small {K : Int} {w w' : World} {r : Int} (h : K < 9223372036854775808) (hr : r = K) (hb : Below w.heap.size w w') : IntPost K w (.returned (.tuple #[.int .i64 r, .bool true])) w' := by
  subst hr
  refine ⟨?_, hb⟩
  unfold iv ib
  rw [if_pos h, decide_eq_true h]
theorem IntPost.great {K : Int} {w w' : World} (h : ¬ K < 9223372036854775808) (hb : Below w.heap.size w w') : IntPost K w (.returned (.tuple #[.int .i64 0, .bool false])) w' := by
  refine ⟨?_, hb⟩
  unfold iv ib
  rw [if_neg h, decide_eq_false h]
theorem two63 : (2 : Int) ^ 63 = 9223372036854775808 := by decide
theorem isBl_le63 {K : Int} {r : Nat} (h : IsBl K r) (hr : r ≤ 63) : K < 9223372036854775808 := by have := h.lt_of hr; rwa [two63] at this
theorem isBl_gt63 {K : Int} {r : Nat} (h : IsBl K r) (hr : ¬ r ≤ 63) : ¬ K < 9223372036854775808 := fun hk => hr (h.le (by rw [two63]; exact hk))

end Go.Proofs.YtaaolnepkgcbaaaDoor
