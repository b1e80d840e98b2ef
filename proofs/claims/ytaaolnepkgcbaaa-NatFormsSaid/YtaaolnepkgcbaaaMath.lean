/- Plain facts on limbs: lists of numbers below 2^32, their value, canonical lists. -/
set_option linter.unusedVariables false
namespace Go.Proofs.Ytaaolnepkgcbaaa.Lb

/-- The value of a list of limbs, the least one first. -/
def val : List Int → Int
  | [] => 0
  | x :: xs => x + 4294967296 * val xs
/-- Every element is a limb. -/
def Lm (xs : List Int) : Prop := ∀ x, x ∈ xs → 0 ≤ x ∧ x < 4294967296
/-- The last limb is not 0. -/
def Cn (xs : List Int) : Prop := xs.getLast? ≠ some 0
/-- A place's weight. -/
def pw (n : Nat) : Int := 4294967296 ^ n

theorem getD_in {xs : List Int} {n : Nat} (h : n < xs.length) : xs.getD n 0 = xs[n] := by simp [h]
theorem getD_out {xs : List Int} {n : Nat} (h : xs.length ≤ n) : xs.getD n 0 = 0 := by simp [h]
theorem pw_zero : pw 0 = 1 := rfl
theorem pw_succ (n : Nat) : pw (n + 1) = 4294967296 * pw n := by unfold pw; rw [Int.pow_succ, Int.mul_comm]
theorem pw_add (m n : Nat) : pw (m + n) = pw m * pw n := by unfold pw; rw [Int.pow_add]
theorem pw_pos (n : Nat) : 0 < pw n := by unfold pw; exact Int.pow_pos (by decide)

theorem Lm.nil : Lm [] := fun x h => by cases h
theorem Lm.cons {x : Int} {xs : List Int} (h0 : 0 ≤ x) (h1 : x < 4294967296) (h : Lm xs) : Lm (x :: xs) := by
  intro y hy
  cases hy with
  | head => exact ⟨h0, h1⟩
  | tail _ h' => exact h y h'
theorem Lm.head {x : Int} {xs : List Int} (h : Lm (x :: xs)) : 0 ≤ x ∧ x < 4294967296 := h x (List.mem_cons_self ..)
theorem Lm.tail {x : Int} {xs : List Int} (h : Lm (x :: xs)) : Lm xs := fun y hy => h y (List.mem_cons_of_mem _ hy)
theorem Lm.append {xs ys : List Int} (h : Lm xs) (h' : Lm ys) : Lm (xs ++ ys) := by
  intro x hx
  rcases List.mem_append.1 hx with h1 | h1
  · exact h x h1
  · exact h' x h1
theorem Lm.left {xs ys : List Int} (h : Lm (xs ++ ys)) : Lm xs := fun x hx => h x (List.mem_append.2 (.inl hx))
theorem Lm.right {xs ys : List Int} (h : Lm (xs ++ ys)) : Lm ys := fun x hx => h x (List.mem_append.2 (.inr hx))
theorem Lm.take {xs : List Int} (h : Lm xs) (n : Nat) : Lm (xs.take n) := fun x hx => h x (List.mem_of_mem_take hx)
theorem Lm.drop {xs : List Int} (h : Lm xs) (n : Nat) : Lm (xs.drop n) := fun x hx => h x (List.mem_of_mem_drop hx)
theorem Lm.zeros (n : Nat) : Lm (List.replicate n 0) := by
  intro x hx
  have := List.eq_of_mem_replicate hx
  omega
theorem Lm.set {xs : List Int} (h : Lm xs) (i : Nat) {v : Int} (h0 : 0 ≤ v) (h1 : v < 4294967296) : Lm (xs.set i v) := by
  intro x hx
  rcases List.mem_or_eq_of_mem_set hx with h' | h'
  · exact h x h'
  · omega
theorem Lm.getD {xs : List Int} (h : Lm xs) (i : Nat) : 0 ≤ xs.getD i 0 ∧ xs.getD i 0 < 4294967296 := by
  by_cases hi : i < xs.length
  · have : xs.getD i 0 ∈ xs := by rw [getD_in hi]; exact List.getElem_mem hi
    exact h _ this
  · rw [getD_out (by omega)]; omega

theorem val_nonneg {xs : List Int} (h : Lm xs) : 0 ≤ val xs := by
  induction xs with
  | nil => simp [val]
  | cons x xs ih => have := ih h.tail; have := h.head; simp only [val]; omega
theorem val_lt {xs : List Int} (h : Lm xs) : val xs < pw xs.length := by
  induction xs with
  | nil => simp [val, pw]
  | cons x xs ih => have := ih h.tail; have := h.head; simp only [val, List.length_cons, pw_succ]; omega
theorem val_append (xs ys : List Int) : val (xs ++ ys) = val xs + pw xs.length * val ys := by
  induction xs with
  | nil => simp [val, pw]
  | cons x xs ih =>
    simp only [List.cons_append, val, List.length_cons, pw_succ, ih]
    rw [Int.mul_add, Int.mul_assoc]; omega
theorem val_zeros (n : Nat) : val (List.replicate n 0) = 0 := by
  induction n with
  | zero => rfl
  | succ n ih => simp [List.replicate_succ, val, ih]
theorem val_one (x : Int) : val [x] = x := by simp [val]
theorem val_snoc (xs : List Int) (x : Int) : val (xs ++ [x]) = val xs + pw xs.length * x := by rw [val_append, val_one]

theorem Cn.nil : Cn [] := by simp [Cn]
theorem Cn.tail {x : Int} {xs : List Int} (h : Cn (x :: xs)) : Cn xs := by
  cases xs with
  | nil => exact Cn.nil
  | cons y ys => simpa [Cn, List.getLast?_cons_cons] using h
theorem Cn.pos {xs : List Int} (hl : Lm xs) (h : Cn xs) (hn : xs ≠ []) : 0 < val xs := by
  induction xs with
  | nil => exact absurd rfl hn
  | cons x xs ih =>
    have h1 := hl.head
    cases xs with
    | nil =>
      have : x ≠ 0 := by simpa [Cn] using h
      simp only [val]; omega
    | cons y ys =>
      have := ih hl.tail h.tail (by simp)
      simp only [val] at this ⊢; omega
/-- Canonical lists of one value are one list. -/
theorem uniq {xs ys : List Int} (hx : Lm xs) (hy : Lm ys) (cx : Cn xs) (cy : Cn ys) (h : val xs = val ys) : xs = ys := by
  induction xs generalizing ys with
  | nil =>
    cases ys with
    | nil => rfl
    | cons y ys => have := Cn.pos hy cy (by simp); simp only [val] at h this; omega
  | cons x xs ih =>
    cases ys with
    | nil => have := Cn.pos hx cx (by simp); simp only [val] at h this; omega
    | cons y ys =>
      have h1 := hx.head; have h2 := hy.head
      simp only [val] at h
      have e : x = y := by omega
      subst e
      rw [ih hx.tail hy.tail cx.tail cy.tail (by omega)]
theorem uniq_iff {xs ys : List Int} (hx : Lm xs) (hy : Lm ys) (cx : Cn xs) (cy : Cn ys) : xs = ys ↔ val xs = val ys :=
  ⟨fun h => by rw [h], uniq hx hy cx cy⟩
/-- A canonical list is at least its last place's weight. -/
theorem Cn.ge {xs : List Int} (hl : Lm xs) (h : Cn xs) (hn : xs ≠ []) : pw (xs.length - 1) ≤ val xs := by
  induction xs with
  | nil => exact absurd rfl hn
  | cons x xs ih =>
    have h1 := hl.head
    cases xs with
    | nil =>
      have : x ≠ 0 := by simpa [Cn] using h
      simp only [val, List.length_cons, List.length_nil]; simp [pw]; omega
    | cons y ys =>
      have h2 := ih hl.tail h.tail (by simp)
      have e : (x :: y :: ys).length - 1 = ((y :: ys).length - 1) + 1 := by simp
      rw [e, pw_succ]; simp only [val] at h2 ⊢; omega
theorem pw_mono {m n : Nat} (h : m ≤ n) : pw m ≤ pw n := by
  obtain ⟨k, rfl⟩ : ∃ k, n = m + k := ⟨n - m, by omega⟩
  rw [pw_add]
  have h1 := pw_pos m
  have h2 : 1 ≤ pw k := pw_pos k
  calc pw m = pw m * 1 := by rw [Int.mul_one]
    _ ≤ pw m * pw k := Int.mul_le_mul_of_nonneg_left h2 (by omega)
theorem lt_of_length {xs ys : List Int} (hx : Lm xs) (hy : Lm ys) (cy : Cn ys) (h : xs.length < ys.length) : val xs < val ys := by
  have h1 := val_lt hx
  have h2 := Cn.ge hy cy (by intro e; subst e; simp at h)
  have h3 := pw_mono (m := xs.length) (n := ys.length - 1) (by omega)
  omega
theorem length_le {xs ys : List Int} (hx : Lm xs) (hy : Lm ys) (cx : Cn xs) (h : val xs ≤ val ys) : xs.length ≤ ys.length := by
  apply Nat.le_of_not_lt
  intro h'
  have := lt_of_length hy hx cx h'
  omega
theorem take_snoc {xs : List Int} {n : Nat} (h : n < xs.length) : xs.take (n + 1) = xs.take n ++ [xs.getD n 0] := by
  rw [List.take_succ_eq_append_getElem h, getD_in h]
theorem val_take_succ {xs : List Int} {n : Nat} (h : n < xs.length) : val (xs.take (n + 1)) = val (xs.take n) + pw n * xs.getD n 0 := by
  rw [take_snoc h, val_snoc, List.length_take, Nat.min_eq_left (by omega)]
theorem val_take_all {xs : List Int} {n : Nat} (h : xs.length ≤ n) : val (xs.take n) = val xs := by rw [List.take_of_length_le h]
theorem val_drop_cons {xs : List Int} {n : Nat} (h : n < xs.length) : val (xs.drop n) = xs.getD n 0 + 4294967296 * val (xs.drop (n + 1)) := by
  rw [List.drop_eq_getElem_cons h, val, getD_in h]
theorem val_split (xs : List Int) (n : Nat) (h : n ≤ xs.length) : val xs = val (xs.take n) + pw n * val (xs.drop n) := by
  have := val_append (xs.take n) (xs.drop n)
  rw [List.take_append_drop, List.length_take, Nat.min_eq_left h] at this
  exact this
end Go.Proofs.Ytaaolnepkgcbaaa.Lb
