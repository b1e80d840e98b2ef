/- Decimal texts: plain facts, no program in sight. -/
import Derived.Test.YtaaolnepkgcbaaaDoorMath
import Derived.Lib.TrimByte
namespace Go.Proofs.YtaaolnepkgcbaaaDoor.Lb
open Go
set_option linter.unusedVariables false

def dgt (v : Nat) : UInt8 := UInt8.ofNat (48 + v % 10)
/-- The last k digits. -/
def digs : Nat → Nat → List UInt8
  | 0, _ => []
  | k + 1, v => digs k (v / 10) ++ [dgt v]
/-- The decimal text. -/
def tx (v : Nat) : List UInt8 := if h : v < 10 then [dgt v] else tx (v / 10) ++ [dgt v]
termination_by v
decreasing_by omega
theorem tx_lt {v : Nat} (h : v < 10) : tx v = [dgt v] := by rw [tx, dif_pos h]
theorem tx_ge {v : Nat} (h : 10 ≤ v) : tx v = tx (v / 10) ++ [dgt v] := by rw [tx, dif_neg (by omega)]

def dv (c : UInt8) : Nat := c.toNat - 48
def IsD (c : UInt8) : Prop := 48 ≤ c.toNat ∧ c.toNat ≤ 57
theorem dgt_nat (v : Nat) : (dgt v).toNat = 48 + v % 10 := by
  unfold dgt
  rw [UInt8.toNat_ofNat']
  omega
theorem dgt_dv (v : Nat) : dv (dgt v) = v % 10 := by unfold dv; rw [dgt_nat]; omega
theorem dgt_isD (v : Nat) : IsD (dgt v) := by unfold IsD; rw [dgt_nat]; omega
theorem dgt_of {c : UInt8} (h : IsD c) (q : Nat) : dgt (10 * q + dv c) = c := by
  apply UInt8.toNat_inj.1
  rw [dgt_nat]
  unfold dv
  obtain ⟨h1, h2⟩ := h
  omega

/-- The value of a list of digits. -/
def nv (l : List UInt8) : Nat := l.foldl (fun a c => 10 * a + dv c) 0
theorem nv_snoc (l : List UInt8) (c : UInt8) : nv (l ++ [c]) = 10 * nv l + dv c := by unfold nv; rw [List.foldl_append]; rfl
theorem nv_nil : nv [] = 0 := rfl

theorem rev_ind {P : List UInt8 → Prop} (h0 : P []) (h1 : ∀ l c, P l → P (l ++ [c])) (l : List UInt8) : P l := by
  have : ∀ r : List UInt8, P r.reverse := by
    intro r
    induction r with
    | nil => exact h0
    | cons c r ih => rw [List.reverse_cons]; exact h1 _ _ ih
  have := this l.reverse
  rwa [List.reverse_reverse] at this

theorem nv_tx : ∀ v, nv (tx v) = v := by
  intro v
  induction v using Nat.strongRecOn with
  | ind v ih =>
    by_cases h : v < 10
    · rw [tx_lt h]
      have : nv [dgt v] = 10 * nv [] + dv (dgt v) := nv_snoc [] _
      rw [this, dgt_dv, nv_nil]; omega
    · rw [tx_ge (by omega), nv_snoc, ih _ (by omega), dgt_dv]; omega
theorem tx_ne (v : Nat) : tx v ≠ [] := by
  by_cases h : v < 10
  · rw [tx_lt h]; simp
  · rw [tx_ge (by omega)]; simp
theorem tx_isD : ∀ v, ∀ c ∈ tx v, IsD c := by
  intro v
  induction v using Nat.strongRecOn with
  | ind v ih =>
    intro c hc
    by_cases h : v < 10
    · rw [tx_lt h] at hc
      simp only [List.mem_singleton] at hc
      rw [hc]; exact dgt_isD v
    · rw [tx_ge (by omega)] at hc
      rcases List.mem_append.1 hc with h' | h'
      · exact ih _ (by omega) c h'
      · simp only [List.mem_singleton] at h'
        rw [h']; exact dgt_isD v
theorem tx_head : ∀ v, 0 < v → ∀ c, (tx v).head? = some c → c.toNat ≠ 48 := by
  intro v
  induction v using Nat.strongRecOn with
  | ind v ih =>
    intro h0 c hc
    by_cases h : v < 10
    · rw [tx_lt h] at hc
      simp only [List.head?_cons, Option.some.injEq] at hc
      rw [← hc, dgt_nat]; omega
    · rw [tx_ge (by omega)] at hc
      refine ih (v / 10) (by omega) (by omega) c ?_
      cases htx : tx (v / 10) with
      | nil => exact absurd htx (tx_ne _)
      | cons x r => rw [htx] at hc; simpa using hc
theorem tx_len : ∀ (k v : Nat), 0 < k → v < 10 ^ k → (tx v).length ≤ k := by
  intro k
  induction k with
  | zero => intro v h; omega
  | succ k ih =>
    intro v _ hv
    by_cases h : v < 10
    · rw [tx_lt h]; simp
    · rw [tx_ge (by omega), List.length_append]
      have hk : 0 < k := by
        apply Nat.pos_of_ne_zero
        intro e
        subst e
        simp at hv; omega
      have := ih (v / 10) hk (by rw [Nat.pow_succ] at hv; omega)
      simp; omega

/-- The text of a number: digits, no 0 ahead but 0 itself. -/
structure Canon (l : List UInt8) : Prop where
  ne : l ≠ []
  dig : ∀ c ∈ l, IsD c
  lead : 1 < l.length → ∀ c, l.head? = some c → c.toNat ≠ 48
theorem canon_tx (v : Nat) : Canon (tx v) := by
  refine ⟨tx_ne v, tx_isD v, fun h => ?_⟩
  apply tx_head
  apply Nat.pos_of_ne_zero
  intro e
  subst e
  rw [tx_lt (by omega)] at h
  simp at h
theorem nv_pos {l : List UInt8} : (∀ c ∈ l, IsD c) → l ≠ [] → (∀ c, l.head? = some c → c.toNat ≠ 48) → 0 < nv l := by
  induction l using rev_ind with
  | h0 => intro _ h; exact absurd rfl h
  | h1 l c ih =>
    intro hd _ hh
    rw [nv_snoc]
    cases l with
    | nil =>
      have h1 := hh c (by simp)
      have h2 := hd c (by simp)
      unfold IsD at h2
      unfold dv
      omega
    | cons x r =>
      have := ih (fun c hc => hd c (List.mem_append.2 (.inl hc))) (by simp) (fun c hc => hh c (by simpa using hc))
      omega
theorem tx_nv {l : List UInt8} : Canon l → tx (nv l) = l := by
  induction l using rev_ind with
  | h0 => intro h; exact absurd rfl h.ne
  | h1 l c ih =>
    intro h
    have hc := h.dig c (by simp)
    have hcv : dv c < 10 := by unfold dv; unfold IsD at hc; omega
    cases l with
    | nil =>
      have e : nv ([] ++ [c]) = 10 * 0 + dv c := nv_snoc [] c
      rw [e, tx_lt (by omega), dgt_of hc]
      rfl
    | cons x r =>
      have hd : ∀ c ∈ x :: r, IsD c := fun c hc => h.dig c (List.mem_append.2 (.inl hc))
      have hl : ∀ c, (x :: r).head? = some c → c.toNat ≠ 48 := fun c hc => h.lead (by simp) c (by simpa using hc)
      have hp := nv_pos hd (by simp) hl
      have hi := ih ⟨by simp, hd, fun _ => hl⟩
      rw [nv_snoc, tx_ge (by omega), show (10 * nv (x :: r) + dv c) / 10 = nv (x :: r) by omega, hi, dgt_of hc]

theorem digs_len : ∀ k v, (digs k v).length = k := by
  intro k
  induction k with
  | zero => intro v; rfl
  | succ k ih => intro v; simp [digs, ih]
theorem digs_cons : ∀ k v, digs (k + 1) v = dgt (v / 10 ^ k) :: digs k v := by
  intro k
  induction k with
  | zero => intro v; simp [digs]
  | succ k ih =>
    intro v
    rw [digs, ih (v / 10), digs, Nat.div_div_eq_div_mul, Nat.pow_succ, Nat.mul_comm 10]
    rfl
theorem tx_digs : ∀ (k q r : Nat), 0 < q → r < 10 ^ k → tx (q * 10 ^ k + r) = tx q ++ digs k r := by
  intro k
  induction k with
  | zero => intro q r _ hr; simp at hr; subst hr; simp [digs]
  | succ k ih =>
    intro q r hq hr
    have hp : 0 < 10 ^ k := Nat.pow_pos (by decide)
    have e0 : 10 ^ (k + 1) = 10 * 10 ^ k := by rw [Nat.pow_succ, Nat.mul_comm]
    have e1 : q * 10 ^ (k + 1) = 10 * (q * 10 ^ k) := by rw [e0, Nat.mul_left_comm]
    have hm : 10 ^ k ≤ q * 10 ^ k := Nat.le_mul_of_pos_left _ hq
    have e2 : (q * 10 ^ (k + 1) + r) / 10 = q * 10 ^ k + r / 10 := by omega
    rw [tx_ge (by omega), e2, ih q (r / 10) hq (by omega), digs, List.append_assoc]
    congr 2
    unfold dgt
    congr 2
    omega
theorem drop_app {a b : List UInt8} {c : UInt8} (h : a.dropWhile (· == c) ≠ []) : (a ++ b).dropWhile (· == c) = a.dropWhile (· == c) ++ b := by
  induction a with
  | nil => simp at h
  | cons x r ih =>
    simp only [List.cons_append, List.dropWhile_cons] at h ⊢
    split
    · rename_i hx
      rw [if_pos hx] at h
      exact ih h
    · rfl
theorem digs_zero : ∀ k, ∀ c ∈ digs k 0, c = 48 := by
  intro k
  induction k with
  | zero => intro c hc; cases hc
  | succ k ih =>
    intro c hc
    rcases List.mem_append.1 hc with h | h
    · exact ih c h
    · simp only [List.mem_singleton] at h; rw [h]; rfl
theorem drop_zero : ∀ {a b : List UInt8} {c : UInt8}, (∀ x ∈ a, x = c) → (a ++ b).dropWhile (· == c) = b.dropWhile (· == c) := by
  intro a
  induction a with
  | nil => intro b c _; rfl
  | cons x r ih =>
    intro b c h
    rw [List.cons_append, List.dropWhile_cons, if_pos (by simp [h x])]
    exact ih fun y hy => h y (List.mem_cons_of_mem _ hy)
theorem trim_digs : ∀ (k g : Nat), 0 < g → g < 10 ^ k → (digs k g).dropWhile (· == 48) = tx g := by
  intro k
  induction k with
  | zero => intro g h0 h1; simp at h1; omega
  | succ k ih =>
    intro g h0 h1
    rw [digs]
    by_cases h : g < 10
    · rw [show g / 10 = 0 by omega, drop_zero (digs_zero k), tx_lt h, List.dropWhile_cons, if_neg]
      intro e
      have e2 : dgt g = 48 := by simpa using e
      have e3 := dgt_nat g
      rw [e2] at e3
      have : (48 : UInt8).toNat = 48 := rfl
      omega
    · have hi := ih (g / 10) (by omega) (by rw [Nat.pow_succ] at h1; omega)
      rw [drop_app (by rw [hi]; exact tx_ne _), hi, ← tx_ge (by omega)]

/-- The value of groups of nine digits, the least first. -/
def gval : List Int → Int
  | [] => 0
  | x :: r => x + 1000000000 * gval r
def Gm (xs : List Int) : Prop := ∀ x ∈ xs, 0 ≤ x ∧ x < 1000000000
theorem gval_nonneg {xs : List Int} (h : Gm xs) : 0 ≤ gval xs := by
  induction xs with
  | nil => simp [gval]
  | cons x r ih =>
    have h1 := h x (List.mem_cons_self ..)
    have h2 := ih fun y hy => h y (List.mem_cons_of_mem _ hy)
    simp only [gval]; omega
theorem gval_snoc (xs : List Int) (x : Int) : gval (xs ++ [x]) = gval xs + 1000000000 ^ xs.length * x := by
  induction xs with
  | nil => simp [gval]
  | cons y r ih => simp only [List.cons_append, gval, ih, List.length_cons, Int.pow_succ]; grind
theorem gval_drop {xs : List Int} {k : Nat} (h : k < xs.length) : gval (xs.drop k) = rdl xs k + 1000000000 * gval (xs.drop (k + 1)) := by
  rw [List.drop_eq_getElem_cons h, gval]
  unfold rdl
  rw [getD_in h]
theorem Gm.drop {xs : List Int} (h : Gm xs) (n : Nat) : Gm (xs.drop n) := fun x hx => h x (List.mem_of_mem_drop hx)
theorem gval_pos {xs : List Int} (h : Gm xs) (hc : Cn xs) : ∀ {k : Nat}, k < xs.length → 0 < gval (xs.drop k) := by
  have : ∀ d k, xs.length - k = d + 1 → 0 < gval (xs.drop k) := by
    intro d
    induction d with
    | zero =>
      intro k hk
      have hk' : k < xs.length := by omega
      rw [gval_drop hk', List.drop_of_length_le (by omega), gval]
      have h1 : rdl xs k = xs[k] := getD_in hk'
      have h2 := h _ (List.getElem_mem hk')
      have h3 : xs[k] ≠ 0 := by
        intro e
        apply hc
        rw [List.getLast?_eq_getElem?, show xs.length - 1 = k by omega, List.getElem?_eq_getElem hk', e]
      omega
    | succ d ih =>
      intro k hk
      have hk' : k < xs.length := by omega
      have h1 := ih (k + 1) (by omega)
      rw [gval_drop hk']
      have h2 : rdl xs k = xs[k] := getD_in hk'
      have h3 := h _ (List.getElem_mem hk')
      omega
  intro k hk
  exact this (xs.length - k - 1) k (by omega)
end Go.Proofs.YtaaolnepkgcbaaaDoor.Lb
