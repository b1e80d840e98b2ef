/- Plain facts on limbs: lists of numbers below 2^32, their value, canonical lists. -/
set_option linter.unusedVariables false
namespace Go.Proofs.YtaaolnepkgcbaaaDoor.Lb

/-- The value of a list of limbs, the least one first. -/
def val : List Int → Int
  | [] => 0
  | x :: xs => x + 4294967296 * val xs
/-- Every element is a limb. -/
def Lm (xs : List Int) : Prop := ∀ x, x ∈ xs → 0 ≤ x ∧ x < 4294967296
/-- The last limb is not 0. -/
def Cn (xs : List Int) : Prop := xs.getLast? ≠ some 0
/-- A place's weight. -/
def pw (n : Nat) : Int := 4294967296 ^ n

theorem getD_in {xs : List Int} {n : Nat} (h : n < xs.length) : xs.getD n 0 = xs[n] := by simp [h]
theorem getD_out {xs : List Int} {n : Nat} (h : xs.length ≤ n) : xs.getD n 0 = 0 := by simp [h]
theorem pw_zero : pw 0 = 1 := rfl
theorem pw_succ (n : Nat) : pw (n + 1) = 4294967296 * pw n := by unfold pw; rw [Int.pow_succ, Int.mul_comm]
theorem pw_add (m n : Nat) : pw (m + n) = pw m * pw n := by unfold pw; rw [Int.pow_add]
theorem pw_pos (n : Nat) : 0 < pw n := by unfold pw; exact Int.pow_pos (by decide)

theorem Lm.nil : Lm [] := fun x h => by cases h
theorem Lm.cons {x : Int} {xs : List Int} (h0 : 0 ≤ x) (h1 : x < 4294967296) (h : Lm xs) : Lm (x :: xs) := by
  intro y hy
  cases hy with
  | head => exact ⟨h0, h1⟩
  | tail _ h' => exact h y h'
theorem Lm.head {x : Int} {xs : List Int} (h : Lm (x :: xs)) : 0 ≤ x ∧ x < 4294967296 := h x (List.mem_cons_self ..)
theorem Lm.tail {x : Int} {xs : List Int} (h : Lm (x :: xs)) : Lm xs := fun y hy => h y (List.mem_cons_of_mem _ hy)
theorem Lm.append {xs ys : List Int} (h : Lm xs) (h' : Lm ys) : Lm (xs ++ ys) := by
  intro x hx
  rcases List.mem_append.1 hx with h1 | h1
  · exact h x h1
  · exact h' x h1
theorem Lm.left {xs ys : List Int} (h : Lm (xs ++ ys)) : Lm xs := fun x hx => h x (List.mem_append.2 (.inl hx))
theorem Lm.right {xs ys : List Int} (h : Lm (xs ++ ys)) : Lm ys := fun x hx => h x (List.mem_append.2 (.inr hx))
theorem Lm.take {xs : List Int} (h : Lm xs) (n : Nat) : Lm (xs.take n) := fun x hx => h x (List.mem_of_mem_take hx)
theorem Lm.drop {xs : List Int} (h : Lm xs) (n : Nat) : Lm (xs.drop n) := fun x hx => h x (List.mem_of_mem_drop hx)
theorem Lm.zeros (n : Nat) : Lm (List.replicate n 0) := by
  intro x hx
  have := List.eq_of_mem_replicate hx
  omega
theorem Lm.set {xs : List Int} (h : Lm xs) (i : Nat) {v : Int} (h0 : 0 ≤ v) (h1 : v < 4294967296) : Lm (xs.set i v) := by
  intro x hx
  rcases List.mem_or_eq_of_mem_set hx with h' | h'
  · exact h x h'
  · omega
theorem Lm.getD {xs : List Int} (h : Lm xs) (i : Nat) : 0 ≤ xs.getD i 0 ∧ xs.getD i 0 < 4294967296 := by
  by_cases hi : i < xs.length
  · have : xs.getD i 0 ∈ xs := by rw [getD_in hi]; exact List.getElem_mem hi
    exact h _ this
  · rw [getD_out (by omega)]; omega

theorem val_nonneg {xs : List Int} (h : Lm xs) : 0 ≤ val xs := by
  induction xs with
  | nil => simp [val]
  | cons x xs ih => have := ih h.tail; have := h.head; simp only [val]; omega
theorem val_lt {xs : List Int} (h : Lm xs) : val xs < pw xs.length := by
  induction xs with
  | nil => simp [val, pw]
  | cons x xs ih => have := ih h.tail; have := h.head; simp only [val, List.length_cons, pw_succ]; omega
theorem val_append (xs ys : List Int) : val (xs ++ ys) = val xs + pw xs.length * val ys := by
  induction xs with
  | nil => simp [val, pw]
  | cons x xs ih =>
    simp only [List.cons_append, val, List.length_cons, pw_succ, ih]
    rw [Int.mul_add, Int.mul_assoc]; omega
theorem val_zeros (n : Nat) : val (List.replicate n 0) = 0 := by
  induction n with
  | zero => rfl
  | succ n ih => simp [List.replicate_succ, val, ih]
theorem val_one (x : Int) : val [x] = x := by simp [val]
theorem val_snoc (xs : List Int) (x : Int) : val (xs ++ [x]) = val xs + pw xs.length * x := by rw [val_append, val_one]

theorem Cn.nil : Cn [] := by simp [Cn]
theorem Cn.tail {x : Int} {xs : List Int} (h : Cn (x :: xs)) : Cn xs := by
  cases xs with
  | nil => exact Cn.nil
  | cons y ys => simpa [Cn, List.getLast?_cons_cons] using h
theorem Cn.pos {xs : List Int} (hl : Lm xs) (h : Cn xs) (hn : xs ≠ []) : 0 < val xs := by
  induction xs with
  | nil => exact absurd rfl hn
  | cons x xs ih =>
    have h1 := hl.head
    cases xs with
    | nil =>
      have : x ≠ 0 := by simpa [Cn] using h
      simp only [val]; omega
    | cons y ys =>
      have := ih hl.tail h.tail (by simp)
      simp only [val] at this ⊢; omega
/-- Canonical lists of one value are one list. -/
theorem uniq {xs ys : List Int} (hx : Lm xs) (hy : Lm ys) (cx : Cn xs) (cy : Cn ys) (h : val xs = val ys) : xs = ys := by
  induction xs generalizing ys with
  | nil =>
    cases ys with
    | nil => rfl
    | cons y ys => have := Cn.pos hy cy (by simp); simp only [val] at h this; omega
  | cons x xs ih =>
    cases ys with
    | nil => have := Cn.pos hx cx (by simp); simp only [val] at h this; omega
    | cons y ys =>
      have h1 := hx.head; have h2 := hy.head
      simp only [val] at h
      have e : x = y := by omega
      subst e
      rw [ih hx.tail hy.tail cx.tail cy.tail (by omega)]
theorem uniq_iff {xs ys : List Int} (hx : Lm xs) (hy : Lm ys) (cx : Cn xs) (cy : Cn ys) : xs = ys ↔ val xs = val ys :=
  ⟨fun h => by rw [h], uniq hx hy cx cy⟩
/-- A canonical list is at least its last place's weight. -/
theorem Cn.ge {xs : List Int} (hl : Lm xs) (h : Cn xs) (hn : xs ≠ []) : pw (xs.length - 1) ≤ val xs := by
  induction xs with
  | nil => exact absurd rfl hn
  | cons x xs ih =>
    have h1 := hl.head
    cases xs with
    | nil =>
      have : x ≠ 0 := by simpa [Cn] using h
      simp only [val, List.length_cons, List.length_nil]; simp [pw]; omega
    | cons y ys =>
      have h2 := ih hl.tail h.tail (by simp)
      have e : (x :: y :: ys).length - 1 = ((y :: ys).length - 1) + 1 := by simp
      rw [e, pw_succ]; simp only [val] at h2 ⊢; omega
theorem pw_mono {m n : Nat} (h : m ≤ n) : pw m ≤ pw n := by
  obtain ⟨k, rfl⟩ : ∃ k, n = m + k := ⟨n - m, by omega⟩
  rw [pw_add]
  have h1 := pw_pos m
  have h2 : 1 ≤ pw k := pw_pos k
  calc pw m = pw m * 1 := by rw [Int.mul_one]
    _ ≤ pw m * pw k := Int.mul_le_mul_of_nonneg_left h2 (by omega)
theorem lt_of_length {xs ys : List Int} (hx : Lm xs) (hy : Lm ys) (cy : Cn ys) (h : xs.length < ys.length) : val xs < val ys := by
  have h1 := val_lt hx
  have h2 := Cn.ge hy cy (by intro e; subst e; simp at h)
  have h3 := pw_mono (m := xs.length) (n := ys.length - 1) (by omega)
  omega
theorem length_le {xs ys : List Int} (hx : Lm xs) (hy : Lm ys) (cx : Cn xs) (h : val xs ≤ val ys) : xs.length ≤ ys.length := by
  apply Nat.le_of_not_lt
  intro h'
  have := lt_of_length hy hx cx h'
  omega
theorem take_snoc {xs : List Int} {n : Nat} (h : n < xs.length) : xs.take (n + 1) = xs.take n ++ [xs.getD n 0] := by
  rw [List.take_succ_eq_append_getElem h, getD_in h]
theorem val_take_succ {xs : List Int} {n : Nat} (h : n < xs.length) : val (xs.take (n + 1)) = val (xs.take n) + pw n * xs.getD n 0 := by
  rw [take_snoc h, val_snoc, List.length_take, Nat.min_eq_left (by omega)]
theorem val_take_all {xs : List Int} {n : Nat} (h : xs.length ≤ n) : val (xs.take n) = val xs := by rw [List.take_of_length_le h]
theorem val_drop_cons {xs : List Int} {n : Nat} (h : n < xs.length) : val (xs.drop n) = xs.getD n 0 + 4294967296 * val (xs.drop (n + 1)) := by
  rw [List.drop_eq_getElem_cons h, val, getD_in h]
theorem val_split (xs : List Int) (n : Nat) (h : n ≤ xs.length) : val xs = val (xs.take n) + pw n * val (xs.drop n) := by
  have := val_append (xs.take n) (xs.drop n)
  rw [List.take_append_drop, List.length_take, Nat.min_eq_left h] at this
  exact this

/-- An element, behind a name that the walk doesn't open. -/
def rdl (xs : List Int) (i : Nat) : Int := xs.getD i 0
theorem rdl_bd {xs : List Int} (h : Lm xs) (i : Nat) : 0 ≤ rdl xs i ∧ rdl xs i < 4294967296 := h.getD i
theorem rdl_out {xs : List Int} {i : Nat} (h : xs.length ≤ i) : rdl xs i = 0 := getD_out h
theorem rdl_set_eq {xs : List Int} {i : Nat} (h : i < xs.length) (v : Int) : rdl (xs.set i v) i = v := by
  unfold rdl; rw [getD_in (by rw [List.length_set]; exact h)]; simp
theorem rdl_set_ne {xs : List Int} {i j : Nat} (h : i ≠ j) (v : Int) : rdl (xs.set i v) j = rdl xs j := by
  unfold rdl; rw [List.getD_eq_getElem?_getD, List.getD_eq_getElem?_getD, List.getElem?_set_ne h]
theorem val_takes (xs : List Int) (k : Nat) : val (xs.take (k + 1)) = val (xs.take k) + pw k * rdl xs k := by
  by_cases h : k < xs.length
  · exact val_take_succ h
  · rw [List.take_of_length_le (by omega), List.take_of_length_le (by omega), rdl_out (by omega)]; omega
theorem val_drops (xs : List Int) (k : Nat) : val (xs.drop k) = rdl xs k + 4294967296 * val (xs.drop (k + 1)) := by
  by_cases h : k < xs.length
  · exact val_drop_cons h
  · rw [List.drop_of_length_le (by omega), List.drop_of_length_le (by omega), rdl_out (by omega)]; simp [val]
theorem val_parts (xs : List Int) (k : Nat) : val xs = val (xs.take k) + pw k * val (xs.drop k) := by
  by_cases h : k ≤ xs.length
  · exact val_split xs k h
  · rw [List.take_of_length_le (by omega), List.drop_of_length_le (by omega)]; simp [val]
theorem val_set {xs : List Int} {k : Nat} (h : k < xs.length) (d : Int) : val (xs.set k d) = val xs + pw k * (d - rdl xs k) := by
  induction xs generalizing k with
  | nil => simp at h
  | cons x xs ih =>
    cases k with
    | zero => simp [val, rdl, pw]; omega
    | succ k =>
      have := ih (k := k) (by simpa using h)
      have e : rdl (x :: xs) (k + 1) = rdl xs k := by simp [rdl]
      rw [e]
      simp only [List.set_cons_succ, val, this, pw_succ]
      grind
theorem val_set_take {xs : List Int} {k j : Nat} (h : k < xs.length) (hj : k < j) (d : Int) : val ((xs.set k d).take j) = val (xs.take j) + pw k * (d - rdl xs k) := by
  rw [List.take_set, val_set (by rw [List.length_take]; omega)]
  congr 3
  unfold rdl
  rw [List.getD_eq_getElem?_getD, List.getD_eq_getElem?_getD, List.getElem?_take_of_lt hj]
theorem set_take {xs : List Int} {k j : Nat} (hj : j ≤ k) (d : Int) : (xs.set k d).take j = xs.take j := by
  rw [List.take_set, List.set_eq_of_length_le (by rw [List.length_take]; omega)]
theorem set_drop {xs : List Int} {k j : Nat} (hj : k < j) (d : Int) : (xs.set k d).drop j = xs.drop j := by
  rw [List.drop_set_of_lt hj]
theorem val_set_next {xs : List Int} {k : Nat} (h : k < xs.length) (d : Int) : val ((xs.set k d).take (k + 1)) = val (xs.take k) + pw k * d := by
  rw [val_set_take h (by omega), val_takes]; grind

/-- One place of an addition. -/
theorem plus_step {os xs ys : List Int} {k : Nat} {c d c' : Int} (hk : k < os.length) (inv : val (os.take k) + pw k * c = val (xs.take k) + val (ys.take k)) (hd : d + 4294967296 * c' = rdl xs k + rdl ys k + c) :
    val ((os.set k d).take (k + 1)) + pw (k + 1) * c' = val (xs.take (k + 1)) + val (ys.take (k + 1)) := by
  rw [val_set_next hk, val_takes, val_takes, pw_succ]
  grind
/-- One place of an addition that appends. -/
theorem plus_snoc {os xs ys : List Int} {k : Nat} {c d c' : Int} (hk : os.length = k) (inv : val os + pw k * c = val (xs.take k) + val (ys.take k)) (hd : d + 4294967296 * c' = rdl xs k + rdl ys k + c) :
    val (os ++ [d]) + pw (k + 1) * c' = val (xs.take (k + 1)) + val (ys.take (k + 1)) := by
  rw [val_snoc, val_takes, val_takes, pw_succ, hk]
  grind
/-- One place of a subtraction. -/
theorem minus_step {os xs ys : List Int} {k : Nat} {c d c' : Int} (hk : k < os.length) (inv : val (os.take k) - pw k * c = val (xs.take k) - val (ys.take k)) (hd : d - 4294967296 * c' = rdl xs k - rdl ys k - c) :
    val ((os.set k d).take (k + 1)) - pw (k + 1) * c' = val (xs.take (k + 1)) - val (ys.take (k + 1)) := by
  rw [val_set_next hk, val_takes, val_takes, pw_succ]
  grind
theorem minus_snoc {os xs ys : List Int} {k : Nat} {c d c' : Int} (hk : os.length = k) (inv : val os - pw k * c = val (xs.take k) - val (ys.take k)) (hd : d - 4294967296 * c' = rdl xs k - rdl ys k - c) :
    val (os ++ [d]) - pw (k + 1) * c' = val (xs.take (k + 1)) - val (ys.take (k + 1)) := by
  rw [val_snoc, val_takes, val_takes, pw_succ, hk]
  grind
/-- The inner loop of a multiplication. -/
theorem mul_inner {os ys : List Int} {i j m : Nat} {x c d c' K : Int} (hk : i + j < os.length) (hj : j < m) (inv : val (os.take (i + m)) + pw (i + j) * c = K + x * pw i * val (ys.take j)) (hd : d + 4294967296 * c' = x * rdl ys j + rdl os (i + j) + c) :
    val ((os.set (i + j) d).take (i + m)) + pw (i + (j + 1)) * c' = K + x * pw i * val (ys.take (j + 1)) := by
  rw [val_set_take hk (by omega), val_takes, ← Nat.add_assoc, pw_succ, pw_add]
  rw [pw_add] at inv
  grind
theorem mul_outer {os xs ys : List Int} {i m : Nat} {c : Int} (hk : i + m < os.length) (inv : val (os.take (i + m)) + pw (i + m) * c = val (xs.take i) * val ys + rdl xs i * pw i * val ys) :
    val ((os.set (i + m) c).take (i + 1 + m)) = val (xs.take (i + 1)) * val ys := by
  rw [show i + 1 + m = i + m + 1 by omega, val_set_next hk, val_takes]
  grind
/-- Order by the tails. -/
theorem lt_of_drop {xs ys : List Int} (hx : Lm xs) (hy : Lm ys) (k : Nat) (h : val (xs.drop k) < val (ys.drop k)) : val xs < val ys := by
  have e1 := val_parts xs k
  have e2 := val_parts ys k
  have b1 := val_nonneg (hy.take k)
  have b2 : val (xs.take k) < pw k := by
    have := val_lt (hx.take k)
    have := pw_mono (m := (xs.take k).length) (n := k) (by rw [List.length_take]; omega)
    omega
  have hp := pw_pos k
  have : pw k * (val (xs.drop k) + 1) ≤ pw k * val (ys.drop k) := Int.mul_le_mul_of_nonneg_left (by omega) (by omega)
  rw [Int.mul_add] at this
  omega
/-- -1, 0 or 1. -/
def cmpv (x y : Int) : Int := if x < y then -1 else if y < x then 1 else 0
theorem cmpv_lt {x y : Int} (h : x < y) : cmpv x y = -1 := by unfold cmpv; rw [if_pos h]
theorem cmpv_gt {x y : Int} (h : y < x) : cmpv x y = 1 := by unfold cmpv; rw [if_neg (by omega), if_pos h]
theorem cmpv_eq {x y : Int} (h : x = y) : cmpv x y = 0 := by unfold cmpv; rw [if_neg (by omega), if_neg (by omega)]
theorem cmpv_bd (x y : Int) : -1 ≤ cmpv x y ∧ cmpv x y ≤ 1 := by unfold cmpv; split <;> (try split) <;> omega
theorem cmpv_neg {x y : Int} : cmpv x y < 0 ↔ x < y := by unfold cmpv; split <;> (try split) <;> omega
theorem len_of_lt {xs : List Int} {m : Nat} (hl : Lm xs) (hc : Cn xs) (h : val xs < pw m) : xs.length ≤ m := by
  apply Nat.le_of_not_lt
  intro h'
  have := Cn.ge hl hc (by intro e; subst e; simp at h')
  have := pw_mono (m := m) (n := xs.length - 1) (by omega)
  omega
theorem val_lt_pw {xs : List Int} {m : Nat} (hl : Lm xs) (h : xs.length ≤ m) : val xs < pw m := by
  have := val_lt hl
  have := pw_mono h
  omega
/-- A subtraction's end: no borrow is left. -/
theorem minus_end {os xs ys : List Int} {n : Nat} {c : Int} (ho : Lm os) (hx : Lm xs) (hy : Lm ys) (hlo : os.length = n) (hlx : xs.length = n) (h0 : 0 ≤ c) (h1 : c ≤ 1) (h : val ys ≤ val xs) (inv : val os - pw n * c = val (xs.take n) - val (ys.take n)) :
    val os = val xs - val ys := by
  have e0 := val_take_all (xs := xs) (n := n) (by omega)
  have e1 := val_parts ys n
  have b1 := val_lt ho
  have b2 := val_lt hx
  have b3 := val_nonneg (hy.drop n)
  have b4 := val_nonneg (hy.take n)
  have b5 := val_nonneg ho
  have hp := pw_pos n
  rw [hlo] at b1
  rw [hlx] at b2
  have hz : val (ys.drop n) = 0 := by
    apply Int.le_antisymm _ b3
    apply Int.le_of_not_gt
    intro h'
    have : pw n * 1 ≤ pw n * val (ys.drop n) := Int.mul_le_mul_of_nonneg_left (by omega) (by omega)
    omega
  rw [hz] at e1
  have hc : c = 0 ∨ c = 1 := by omega
  rcases hc with rfl | rfl <;> omega

/-- Sums and products of lists. -/
def sumv : List (List Int) → Int | [] => 0 | x :: r => val x + sumv r
def prodv : List (List Int) → Int | [] => 1 | x :: r => val x * prodv r
theorem sumv_append (a b : List (List Int)) : sumv (a ++ b) = sumv a + sumv b := by
  induction a with
  | nil => simp [sumv]
  | cons x r ih => simp only [List.cons_append, sumv, ih]; omega
theorem prodv_append (a b : List (List Int)) : prodv (a ++ b) = prodv a * prodv b := by
  induction a with
  | nil => simp [prodv]
  | cons x r ih => simp only [List.cons_append, prodv, ih, Int.mul_assoc]
theorem take_snoc' {ls : List (List Int)} {k : Nat} (h : k < ls.length) : ls.take (k + 1) = ls.take k ++ [ls.getD k []] := by
  rw [List.take_succ_eq_append_getElem h]; simp [h]
theorem sumv_take {ls : List (List Int)} {k : Nat} (h : k < ls.length) : sumv (ls.take (k + 1)) = sumv (ls.take k) + val (ls.getD k []) := by
  rw [take_snoc' h, sumv_append]; simp [sumv]
theorem prodv_take {ls : List (List Int)} {k : Nat} (h : k < ls.length) : prodv (ls.take (k + 1)) = prodv (ls.take k) * val (ls.getD k []) := by
  rw [take_snoc' h, prodv_append]; simp [prodv]

end Go.Proofs.YtaaolnepkgcbaaaDoor.Lb
