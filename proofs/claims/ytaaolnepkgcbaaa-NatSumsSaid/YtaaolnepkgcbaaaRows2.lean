/- Slices of slices of limbs that came in, and 'append' of them. -/
import Derived.Test.YtaaolnepkgcbaaaTimes
namespace Go.Proofs.Ytaaolnepkgcbaaa
open Go.RowKit Lb
set_option linter.unusedVariables false

/-- What the row tells of a slice of slices of integers. -/
def MRow (k : IntKind) (w : World) (a : Option Addr) (len cap : Nat) (A : Nat → Option Addr) (L C : Nat → Nat) (Z : Nat → List Int) : Prop :=
  (a = none ∧ len = 0 ∧ cap = 0) ∨
  ∃ x, a = some x ∧ len ≤ cap ∧ cap ≤ maxLen ∧ ∀ r, r < cap → w.cell? (x.add r) = some (.slice (A r) (L r) (C r)) ∧ L r ≤ C r ∧ C r ≤ maxLen ∧ (Z r).length = C r ∧ (∀ n ∈ Z r, (Lit.int k n).wf = true) ∧ (A r = none → C r = 0) ∧
    ∀ a', A r = some a' → ∀ c, c < C r → w.cell? (a'.add c) = some (.int k ((Z r).getD c 0))

theorem MRow.le {w : World} {a : Option Addr} {n c : Nat} {A : Nat → Option Addr} {L C : Nat → Nat} {Z : Nat → List Int} (h : MRow .u32 w a n c A L C Z) : n ≤ c := by
  rcases h with ⟨rfl, rfl, rfl⟩ | ⟨x, rfl, h1, _⟩
  · exact Nat.le_refl _
  · exact h1

theorem MRow.at_ {w : World} {a : Option Addr} {n c : Nat} {A : Nat → Option Addr} {L C : Nat → Nat} {Z : Nat → List Int} (h : MRow .u32 w a n c A L C Z) (h0 : 0 < n) :
    ∃ b o, a = some ⟨b, o, none⟩ ∧ b < w.heap.size ∧ ∀ i, i < n → w.cell? ⟨b, o + i, none⟩ = some (.slice (A i) (L i) (C i)) := by
  rcases h with ⟨rfl, rfl, rfl⟩ | ⟨⟨b, off, spot⟩, rfl, h1, _, h2⟩
  · omega
  · have hspot : spot = none := by simpa [Addr.add] using World.cell?_spot (h2 0 (by omega)).1
    subst hspot
    refine ⟨b, off, rfl, ?_, fun i hi => ?_⟩
    · exact World.block_lt_of_cell? w ⟨b, off + 0, none⟩ (by rw [← Go.WideShapes.add_plain]; exact (h2 0 (by omega)).1)
    · rw [← Go.WideShapes.add_plain]; exact (h2 i (by omega)).1

theorem MRow.lens {w : World} {a : Option Addr} {n c : Nat} {A : Nat → Option Addr} {L C : Nat → Nat} {Z : Nat → List Int} (h : MRow .u32 w a n c A L C Z) (hs : n ≤ 140737488355328) : Lens w a n c ((List.range n).map L) := by
  refine ⟨by simp, h.le, hs, fun h0 => ?_⟩
  obtain ⟨b, o, rfl, hb, hc⟩ := h.at_ h0
  refine ⟨b, o, rfl, hb, fun i hi => ⟨A i, C i, ?_⟩⟩
  rw [hc i hi, List.getD_eq_getElem?_getD, List.getElem?_map, List.getElem?_range hi]
  rfl

/-- The values are slices of limbs. -/
def Each (w : World) (vs : List Value) (ls : List (List Int)) : Prop := vs.length = ls.length ∧ ∀ i, i < ls.length → ∃ a n c, vs.getD i (.slice none 0 0) = .slice a n c ∧ Sl w a n c (ls.getD i [])
theorem Each.nil (w : World) : Each w [] [] := ⟨rfl, fun i hi => by simp at hi⟩
theorem Each.kept {w w' : World} {vs : List Value} {ls : List (List Int)} (h : Each w vs ls) (hb : Below w.heap.size w w') : Each w' vs ls := by
  refine ⟨h.1, fun i hi => ?_⟩
  obtain ⟨a, n, c, h1, h2⟩ := h.2 i hi
  exact ⟨a, n, c, h1, h2.kept hb⟩
theorem Each.append {w : World} {vs us : List Value} {ls ks : List (List Int)} (h : Each w vs ls) (h' : Each w us ks) : Each w (vs ++ us) (ls ++ ks) := by
  have hl := h.1
  refine ⟨by simp [h.1, h'.1], fun i hi => ?_⟩
  rw [List.length_append] at hi
  by_cases hlt : i < ls.length
  · obtain ⟨a, n, c, h1, h2⟩ := h.2 i hlt
    refine ⟨a, n, c, ?_, ?_⟩
    · rw [List.getD_eq_getElem?_getD, List.getElem?_append_left (by omega), ← List.getD_eq_getElem?_getD]; exact h1
    · rw [List.getD_eq_getElem?_getD, List.getElem?_append_left (by omega), ← List.getD_eq_getElem?_getD]; exact h2
  · obtain ⟨a, n, c, h1, h2⟩ := h'.2 (i - ls.length) (by omega)
    refine ⟨a, n, c, ?_, ?_⟩
    · rw [List.getD_eq_getElem?_getD, List.getElem?_append_right (by omega), hl, ← List.getD_eq_getElem?_getD]; exact h1
    · rw [List.getD_eq_getElem?_getD, List.getElem?_append_right (by omega), ← List.getD_eq_getElem?_getD]; exact h2
theorem Each.one {w : World} {vs : List Value} {ls : List (List Int)} (h : Each w vs ls) : ∀ u ∈ vs, u.oneCell' = true := by
  intro u hu
  obtain ⟨i, hi, rfl⟩ := List.mem_iff_getElem.1 hu
  obtain ⟨a, n, c, h1, _⟩ := h.2 i (by rw [← h.1]; exact hi)
  rw [List.getD_eq_getElem?_getD, List.getElem?_eq_getElem hi] at h1
  simp only [Option.getD_some] at h1
  rw [h1]; rfl

/-- A slice of such values. -/
structure Mv (w : World) (a : Option Addr) (n c : Nat) (vs : List Value) (ls : List (List Int)) : Prop where
  len : vs.length = n
  le : n ≤ c
  nil : a = none → c = 0
  each : Each w vs ls
  at_ : 0 < n → ∃ b o, a = some ⟨b, o, none⟩ ∧ b < w.heap.size ∧ ∀ i, i < n → w.cell? ⟨b, o + i, none⟩ = some (vs.getD i (.slice none 0 0))
theorem Mv.ll {w : World} {a : Option Addr} {n c : Nat} {vs : List Value} {ls : List (List Int)} (h : Mv w a n c vs ls) : ls.length = n := by rw [← h.each.1]; exact h.len
theorem Mv.kept {w w' : World} {a : Option Addr} {n c : Nat} {vs : List Value} {ls : List (List Int)} (h : Mv w a n c vs ls) (hb : Below w.heap.size w w') : Mv w' a n c vs ls := by
  refine ⟨h.len, h.le, h.nil, h.each.kept hb, fun h0 => ?_⟩
  obtain ⟨b, o, rfl, hlt, hc⟩ := h.at_ h0
  exact ⟨b, o, rfl, Nat.lt_of_lt_of_le hlt hb.size, fun i hi => (hb.cell (p := ⟨b, o + i, none⟩) hlt).trans (hc i hi)⟩
theorem Mv.alloc {w : World} {a : Option Addr} {n c : Nat} {vs : List Value} {ls : List (List Int)} (h : Mv w a n c vs ls) (o : Obj) : Mv (w.alloc o) a n c vs ls := h.kept (below_alloc w o)
theorem Mv.sls {w : World} {a : Option Addr} {n c : Nat} {vs : List Value} {ls : List (List Int)} (h : Mv w a n c vs ls) (hs : n ≤ 1048576) : Sls w a n c ls := by
  refine ⟨h.ll, h.le, h.nil, hs, fun h0 => ?_⟩
  obtain ⟨b, o, rfl, hlt, hc⟩ := h.at_ h0
  refine ⟨b, o, rfl, hlt, fun i hi => ?_⟩
  obtain ⟨a', n', c', h1, h2⟩ := h.each.2 i (by rw [h.ll]; exact hi)
  exact ⟨a', n', c', by rw [hc i hi, h1], h2⟩
theorem MRow.mv {w : World} {a : Option Addr} {n c : Nat} {A : Nat → Option Addr} {L C : Nat → Nat} {Z : Nat → List Int} (h : MRow .u32 w a n c A L C Z) (hL : ∀ r, r < n → L r ≤ 12) :
    ∃ vs ls, Mv w a n c vs ls ∧ ∀ l, l ∈ ls → l.length ≤ 12 := by
  refine ⟨(List.range n).map fun r => .slice (A r) (L r) (C r), (List.range n).map fun r => (Z r).take (L r), ⟨by simp, h.le, ?_, ⟨by simp, fun i hi => ?_⟩, fun h0 => ?_⟩, ?_⟩
  · rcases h with ⟨rfl, rfl, rfl⟩ | ⟨x, rfl, _⟩
    · intro _; rfl
    · intro e; cases e
  · simp only [List.length_map, List.length_range] at hi
    refine ⟨A i, L i, C i, by rw [List.getD_eq_getElem?_getD, List.getElem?_map, List.getElem?_range hi]; rfl, ?_⟩
    rw [List.getD_eq_getElem?_getD, List.getElem?_map, List.getElem?_range hi]
    rcases h with ⟨rfl, rfl, rfl⟩ | ⟨x, rfl, h1, _, h2⟩
    · omega
    · obtain ⟨_, r1, r2, r3, r4, r5, r6⟩ := h2 i (by omega)
      have hr : ARow .u32 w (A i) (L i) (C i) (Z i) := by
        cases hA : A i with
        | none =>
          have hc0 := r5 hA
          exact .inl ⟨rfl, by omega, hc0, List.eq_nil_of_length_eq_zero (by omega)⟩
        | some x => exact .inr ⟨x, rfl, r1, r2, r3, fun j hj => r6 x hA j (by omega), r4⟩
      exact hr.sl (by have := hL i hi; omega)
  · obtain ⟨b, o, rfl, hb, hc⟩ := h.at_ h0
    refine ⟨b, o, rfl, hb, fun i hi => ?_⟩
    rw [hc i hi, List.getD_eq_getElem?_getD, List.getElem?_map, List.getElem?_range hi]
    rfl
  · intro l hl
    obtain ⟨r, hr, rfl⟩ := List.mem_map.1 hl
    have := hL r (List.mem_range.1 hr)
    rw [List.length_take]; omega
theorem longB_no {m n : Nat} {L : Nat → Nat} (h : longB m ((List.range n).map L) = false) : ∀ r, r < n → L r ≤ m := by
  intro r hr
  unfold longB at h
  rw [List.any_eq_false] at h
  have := h (L r) (List.mem_map.2 ⟨r, List.mem_range.2 hr, rfl⟩)
  simp at this; omega

theorem info_nat : (Try.prog.info? 23).map (fun i => (i.zero, i.size, i.bytes)) = some (some (.slice none 0 0), 1, 24) := by kernel_rfl
/-- A row of such values of the call's own. -/
def OwnM (w : World) (B : Nat) (v : Value) (vs : List Value) : Prop := w.ownsRow B 23 1 v vs.length vs
theorem OwnM.made (w : World) : OwnM (w.alloc (.cells #[] 23)) w.heap.size (.slice (some ⟨w.heap.size, 0, none⟩) 0 0) [] := World.ownsRow_made w #[] 0 (Nat.le_refl _) (Nat.zero_le _) rfl
theorem OwnM.mv {w : World} {B : Nat} {v : Value} {vs : List Value} {ls : List (List Int)} (h : OwnM w B v vs) (he : Each w vs ls) : ∃ a c, v = .slice a vs.length c ∧ Mv w a vs.length c vs ls := by
  have h' := h
  rcases h.2 with ⟨rfl, h0⟩ | ⟨g, cap, cur, rfl, _, hh, hle, _, _, _⟩
  · have : vs = [] := List.eq_nil_of_length_eq_zero h0
    subst this
    exact ⟨none, 0, rfl, ⟨rfl, Nat.le_refl _, fun _ => rfl, he, fun h => absurd h (by simp)⟩⟩
  · refine ⟨_, _, rfl, ⟨rfl, hle, (fun e => by cases e), he, fun h0 => ⟨g, 0, rfl, (Array.getElem?_eq_some_iff.1 hh).1, fun i hi => ?_⟩⟩⟩
    rw [Nat.zero_add, h'.cellAt i (by omega), List.getD_eq_getElem?_getD, List.getElem?_eq_getElem hi]; rfl

/-- 'append' onto such a row. -/
theorem wpList_append_nats (w : World) {ops : Array Oper} {rest : List Oper} {o : Oper} {a : Act} {Q : Exit → Act → World → Prop} (hgd : o.guard = none) (s x : Operand)
    (ho : o.op = .call { callee := .builtin .append, args := #[s, x], argTypes := #[37, 37] }) (B : Nat) (v : Value) (us : List Value) (hs : a.eval s = v) (hown : OwnM w B v us)
    (ad : Option Addr) (m c : Nat) (vs : List Value) (ls : List (List Int)) (hx : a.eval x = .slice ad m c) (hsl : Mv w ad m c vs ls) (hn : us.length + m ≤ 2097152) (hB : B ≤ w.heap.size)
    (h : ∀ v' w', OwnM w' B v' (us ++ vs) → Below B w w' → wpList Try.prog ops Q rest (a.put o.dst v') w') : wpList Try.prog ops Q (o :: rest) a w := by
  obtain ⟨i, hi, hz, h1, h2⟩ := info_parts info_nat
  rcases ad with _ | ad
  · have hc := hsl.nil rfl
    have hle := hsl.le
    have hm : m = 0 := by omega
    subst hc
    subst hm
    have hy : vs = [] := List.eq_nil_of_length_eq_zero hsl.len
    subst hy
    refine wpList_append_own_none hgd s x 37 ho B 23 i 1 Try.underlying37 hi v _ _ hs hown hx (h v w ?_ (Below.refl _ _))
    rw [List.append_nil]; exact hown
  · refine wpList_append_own w hgd s x 37 ho B 23 i (.slice none 0 0) 1 24 Try.underlying37 hi hz h1 h2 rfl (by decide) v _ _ hs hown ad m c vs hx (by rw [hsl.len, Nat.mul_one]) ?_ hsl.each.one (by unfold maxLen; omega) (by omega) hB ?_
    · intro j u hj
      have hjl : j < vs.length := by
        apply Nat.lt_of_not_le
        intro h'
        rw [List.getElem?_eq_none h'] at hj; cases hj
      obtain ⟨b, o', e, _, hcell⟩ := hsl.at_ (by have := hsl.len; omega)
      cases e
      have := hcell j (by have := hsl.len; omega)
      rw [List.getD_eq_getElem?_getD, hj] at this
      rw [Go.WideShapes.add_plain]; exact this
    · intro v' w' ho' hgr _
      refine h v' w' ?_ ((Below.refl _ _).grown hgr hB (fun k hk => (hown.lt k hk).1))
      unfold OwnM
      rw [List.length_append, hsl.len]; exact ho'
end Go.Proofs.Ytaaolnepkgcbaaa
