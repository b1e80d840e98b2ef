/- What a slice of limbs reads as, and how such readings live on while a call makes memory of its own. -/
import Derived.Test.YtaaolnepkgcbaaaDoorProg
import Derived.Test.YtaaolnepkgcbaaaDoorMath
import Derived.WalkKit
import Derived.WalkSpells
import Derived.WalkLawsBesides
import Derived.KernelRfl
import Derived.Lib.Hide
import Derived.Laws.AppendOwnNone
namespace Go.Proofs.YtaaolnepkgcbaaaDoor
open Go.RowKit Lb
set_option linter.unusedVariables false

def u32v (x : Int) : Value := .int .u32 x

/-- The slice value reads as the limbs xs. -/
structure Sl (w : World) (a : Option Addr) (n c : Nat) (xs : List Int) : Prop where
  len : xs.length = n
  le : n ≤ c
  nil : a = none → c = 0
  sm : n ≤ 1048576
  lm : Lm xs
  at_ : 0 < n → ∃ b o, a = some ⟨b, o, none⟩ ∧ b < w.heap.size ∧ ∀ i, i < n → w.cell? ⟨b, o + i, none⟩ = some (.int .u32 (rdl xs i))

theorem Sl.empty (w : World) : Sl w none 0 0 [] := ⟨rfl, Nat.zero_le _, fun _ => rfl, by omega, Lm.nil, fun h => absurd h (by omega)⟩
theorem Sl.below {w w' : World} {a : Option Addr} {n c : Nat} {xs : List Int} (h : Sl w a n c xs) {B : Nat} (hb : Below B w w') (hB : w.heap.size ≤ B) : Sl w' a n c xs := by
  refine ⟨h.len, h.le, h.nil, h.sm, h.lm, fun h0 => ?_⟩
  obtain ⟨b, o, rfl, hlt, hc⟩ := h.at_ h0
  exact ⟨b, o, rfl, Nat.lt_of_lt_of_le hlt hb.size, fun i hi => (hb.cell (p := ⟨b, o + i, none⟩) (show b < B by omega)).trans (hc i hi)⟩
theorem Sl.alloc {w : World} {a : Option Addr} {n c : Nat} {xs : List Int} (h : Sl w a n c xs) (o : Obj) : Sl (w.alloc o) a n c xs :=
  h.below ((Below.refl w.heap.size w).alloc (Nat.le_refl _) o) (Nat.le_refl _)
theorem Sl.take {w : World} {a : Option Addr} {n c : Nat} {xs : List Int} (h : Sl w a n c xs) (m c' : Nat) (hm : m ≤ n) (h1 : m ≤ c') (h2 : c' ≤ c) : Sl w a m c' (xs.take m) := by
  have hl := h.len
  refine ⟨by rw [List.length_take]; omega, h1, fun e => by have := h.nil e; omega, by have := h.sm; omega, h.lm.take m, fun h0 => ?_⟩
  obtain ⟨b, o, rfl, hlt, hc⟩ := h.at_ (by omega)
  refine ⟨b, o, rfl, hlt, fun i hi => ?_⟩
  rw [hc i (by omega)]
  unfold rdl
  rw [List.getD_eq_getElem?_getD, List.getD_eq_getElem?_getD, List.getElem?_take_of_lt hi]

theorem ret_sl {a : Option Addr} {n c n' c' : Nat} (h : n = n') (h' : c = c') : Ending.returned (.slice a n c) = .returned (.slice a n' c') := by rw [h, h']
theorem info_u32 : (Tryd.prog.info? 32).map (fun i => (i.zero, i.size, i.bytes)) = some (some (.int .u32 0), 1, 4) := by kernel_rfl

/-- A row of limbs of the call's own, from block B on. -/
def Own (w : World) (B : Nat) (v : Value) (xs : List Int) : Prop := w.ownsRow B 32 1 v xs.length (xs.map u32v) ∧ Lm xs
theorem Own.nil (w : World) (B : Nat) : Own w B (.slice none 0 0) [] := ⟨World.ownsRow_nil .., Lm.nil⟩
theorem Own.made (w : World) : Own (w.alloc (.cells #[] 32)) w.heap.size (.slice (some ⟨w.heap.size, 0, none⟩) 0 0) [] := ⟨World.ownsRow_made w #[] 0 (Nat.le_refl _) (Nat.zero_le _) rfl, Lm.nil⟩
theorem Own.sl {w : World} {B : Nat} {v : Value} {xs : List Int} (h : Own w B v xs) (hs : xs.length ≤ 1048576) : ∃ a c, v = .slice a xs.length c ∧ Sl w a xs.length c xs := by
  obtain ⟨h, hl⟩ := h
  have h' := h
  rcases h.2 with ⟨rfl, h0⟩ | ⟨g, cap, cur, rfl, _, hh, hle, _, _, _⟩
  · have : xs = [] := List.eq_nil_of_length_eq_zero h0
    subst this
    exact ⟨none, 0, rfl, Sl.empty w⟩
  · refine ⟨_, _, rfl, ⟨rfl, hle, (fun e => by cases e), hs, hl, fun h0 => ⟨g, 0, rfl, (Array.getElem?_eq_some_iff.1 hh).1, fun i hi => ?_⟩⟩⟩
    rw [Nat.zero_add, h'.cellAt i (by omega), List.getElem?_map]
    unfold rdl u32v
    rw [List.getD_eq_getElem?_getD, List.getElem?_eq_getElem hi]; rfl

theorem Own.kept {w w' : World} {B : Nat} {v : Value} {xs : List Int} (h : Own w B v xs) (hb : Below w.heap.size w w') : Own w' B v xs := by
  refine ⟨⟨h.1.1, ?_⟩, h.2⟩
  rcases h.1.2 with h' | ⟨g', cap, cur, hv, hg, hh, r⟩
  · exact .inl h'
  · exact .inr ⟨g', cap, cur, hv, hg, by rw [hb.block g' (Array.getElem?_eq_some_iff.1 hh).1]; exact hh, r⟩
theorem Own.alloc {w : World} {B : Nat} {v : Value} {xs : List Int} (h : Own w B v xs) (o : Obj) : Own (w.alloc o) B v xs := ⟨h.1.alloc o, h.2⟩

/-- A row of the call's own that is written in place: block g, room for c limbs. -/
def Row (w : World) (g c : Nat) (xs : List Int) : Prop := w.ownsRow g 32 1 (.slice (some ⟨g, 0, none⟩) xs.length c) xs.length (xs.map u32v) ∧ Lm xs
theorem Row.lm {w : World} {g c : Nat} {xs : List Int} (h : Row w g c xs) : Lm xs := h.2
theorem Row.lt {w : World} {g c : Nat} {xs : List Int} (h : Row w g c xs) : g < w.heap.size := (h.1.lt g rfl).2
theorem Row.le {w : World} {g c : Nat} {xs : List Int} (h : Row w g c xs) : xs.length ≤ c := by
  rcases h.1.2 with ⟨h', _⟩ | ⟨g', cap, cur, hv, hg, hh, r, _⟩
  · simp at h'
  · have e : c = cap := by simp only [Value.slice.injEq, Option.some.injEq, Addr.mk.injEq] at hv; exact hv.2.2
    omega
theorem Row.cell {w : World} {g c : Nat} {xs : List Int} (h : Row w g c xs) {i : Nat} (hi : i < xs.length) : w.cell? ⟨g, i, none⟩ = some (.int .u32 (rdl xs i)) := by
  rw [h.1.cellAt i (by omega), List.getElem?_map, List.getElem?_eq_getElem hi]
  unfold rdl u32v
  rw [List.getD_eq_getElem?_getD, List.getElem?_eq_getElem hi]; rfl
theorem Row.free {w : World} {g c : Nat} {xs : List Int} (h : Row w g c xs) (i : Nat) : w.frozen? ⟨g, i, none⟩ = false := h.1.frozenAt i
theorem Row.set {w : World} {g c : Nat} {xs : List Int} (h : Row w g c xs) (i : Nat) {v : Int} (h0 : 0 ≤ v) (h1 : v < 4294967296) : Row (w.setCell ⟨g, i, none⟩ (.int .u32 v)) g c (xs.set i v) := by
  have := (h.1.stored i (.int .u32 v)).1
  refine ⟨?_, h.2.set i h0 h1⟩
  rw [List.length_set, List.map_set]
  exact this
theorem Row.below {w w' : World} {g c : Nat} {xs : List Int} (h : Row w g c xs) {B : Nat} (hb : Below B w w') (hB : g < B) : Row w' g c xs := by
  refine ⟨⟨h.1.1, ?_⟩, h.2⟩
  rcases h.1.2 with ⟨h', _⟩ | ⟨g', cap, cur, hv, hg, hh, r⟩
  · simp at h'
  · have e : g' = g := by simp only [Value.slice.injEq, Option.some.injEq, Addr.mk.injEq] at hv; exact hv.1.1.symm
    subst e
    exact .inr ⟨g', cap, cur, hv, hg, by rw [hb.block g' hB]; exact hh, r⟩
theorem Row.drewN {w : World} {g c : Nat} {xs : List Int} (h : Row w g c xs) (n : Nat) : Row (w.drewN n) g c xs := h
theorem Row.sl {w : World} {g c n : Nat} {xs : List Int} (h : Row w g c xs) (hn : xs.length = n) (hs : n ≤ 1048576) : Sl w (some ⟨g, 0, none⟩) n c xs := by
  subst hn
  exact ⟨rfl, h.le, fun e => (by cases e), hs, h.2, fun h0 => ⟨g, 0, rfl, h.lt, fun i hi => by rw [Nat.zero_add]; exact h.cell hi⟩⟩
/-- A row of the call's own that has a limb can be written in place. -/
theorem Own.row {w : World} {B : Nat} {v : Value} {xs : List Int} (h : Own w B v xs) (h0 : 0 < xs.length) : ∃ g c, v = .slice (some ⟨g, 0, none⟩) xs.length c ∧ B ≤ g ∧ Row w g c xs := by
  obtain ⟨h, hl⟩ := h
  rcases h.2 with ⟨rfl, h'⟩ | ⟨g, cap, cur, rfl, hB, hh, hle, r1, r2, r3⟩
  · omega
  · exact ⟨g, cap, rfl, hB, ⟨h.1, .inr ⟨g, cap, cur, rfl, Nat.le_refl _, hh, hle, r1, r2, r3⟩⟩, hl⟩

/-- 'make' of n limbs. -/
theorem wpList_make_limbs (w : World) {ops : Array Oper} {rest : List Oper} {o : Oper} {a : Act} {Q : Exit → Act → World → Prop}
    (hg : o.guard = none) (l c : Operand) (hop : o.op = Op.makeSlice 23 l c) (n : Nat) (L C : Int) (hl : a.eval l = .int .i64 L) (hc : a.eval c = .int .i64 C) (hL : L = (n : Int)) (hC : C = (n : Int)) (hs : n ≤ 2097152)
    (hK : ∀ w', Row w' w.heap.size n (List.replicate n 0) → Below w.heap.size w w' → wpList Tryd.prog ops Q rest (a.put o.dst (.slice (some ⟨w.heap.size, 0, none⟩) n n)) w') :
    wpList Tryd.prog ops Q (o :: rest) a w := by
  obtain ⟨i, hi, hz, h1, h2⟩ := info_parts info_u32
  refine wpList_make_full w hg l c 23 hop w.heap.size 32 i (.int .u32 0) 1 Tryd.underlying23 hi hz h1 .i64 .i64 L C n hl hc hL hC (by rw [h2]; omega) (by unfold maxLen; omega) (Nat.le_refl _) fun w' ho hgr => hK w' ⟨?_, Lm.zeros n⟩ ((Below.refl _ _).grown hgr (Nat.le_refl _) (fun k h => by cases h))
  have e : (madeCells (Value.int .u32 0).cells (n * 1)).toList = (List.replicate n 0).map u32v := by
    rw [List.map_replicate, Nat.mul_one]
    unfold madeCells u32v
    apply List.ext_getElem
    · simp
    · intro j h1 h2
      have e1 : j % 1 = 0 := Nat.mod_one j
      simp [Value.cells, e1]
  rw [e] at ho
  rw [List.length_replicate]
  exact ho

/-- 'append' onto a row of the call's own (or nil), the source nil, empty or not. -/
theorem wpList_append_limbs (w : World) {ops : Array Oper} {rest : List Oper} {o : Oper} {a : Act} {Q : Exit → Act → World → Prop} (hgd : o.guard = none) (s x : Operand)
    (ho : o.op = .call { callee := .builtin .append, args := #[s, x], argTypes := #[23, 23] }) (B : Nat) (v : Value) (xs : List Int) (hs : a.eval s = v) (hown : Own w B v xs)
    (ad : Option Addr) (m c : Nat) (ys : List Int) (hx : a.eval x = .slice ad m c) (hsl : Sl w ad m c ys) (hn : xs.length + m ≤ 2097152) (hB : B ≤ w.heap.size)
    (h : ∀ v' w', Own w' B v' (xs ++ ys) → Below B w w' → wpList Tryd.prog ops Q rest (a.put o.dst v') w') : wpList Tryd.prog ops Q (o :: rest) a w := by
  obtain ⟨i, hi, hz, h1, h2⟩ := info_parts info_u32
  rcases ad with _ | ad
  · have hc := hsl.nil rfl
    have hle := hsl.le
    have hm : m = 0 := by omega
    subst hc
    subst hm
    have hy : ys = [] := List.eq_nil_of_length_eq_zero hsl.len
    subst hy
    refine wpList_append_own_none hgd s x 23 ho B 32 i 1 Tryd.underlying23 hi v _ _ hs hown.1 hx (h v w ?_ (Below.refl _ _))
    rw [List.append_nil]; exact hown
  · refine wpList_append_own w hgd s x 23 ho B 32 i (.int .u32 0) 1 4 Tryd.underlying23 hi hz h1 h2 rfl (by decide) v _ _ hs hown.1 ad m c (ys.map u32v) hx (by rw [List.length_map, hsl.len, Nat.mul_one]) ?_ ?_ (by unfold maxLen; omega) (by omega) hB ?_
    · intro j u hj
      rw [List.getElem?_map] at hj
      have hjl : j < ys.length := by
        apply Nat.lt_of_not_le
        intro h'
        rw [List.getElem?_eq_none h'] at hj; cases hj
      obtain ⟨b, o', e, _, hcell⟩ := hsl.at_ (by have := hsl.len; omega)
      cases e
      rw [List.getElem?_eq_getElem hjl] at hj
      simp only [Option.map_some, Option.some.injEq] at hj
      subst hj
      have := hcell j (by have := hsl.len; omega)
      unfold rdl at this
      rw [List.getD_eq_getElem?_getD, List.getElem?_eq_getElem hjl] at this
      have ea : (⟨b, o', none⟩ : Addr).add j = ⟨b, o' + j, none⟩ := by unfold Addr.add; split <;> simp_all
      rw [ea]; exact this
    · intro u hu
      obtain ⟨x', _, rfl⟩ := List.mem_map.1 hu
      rfl
    · intro v' w' ho' hgr _
      refine h v' w' ⟨?_, hown.2.append hsl.lm⟩ ((Below.refl _ _).grown hgr hB (fun k hk => (hown.1.lt k hk).1))
      rw [List.map_append, List.length_append, hsl.len]; exact ho'

/-- A reading of which p holds, in a world that kept what was there. -/
structure Got (w : World) (p : List Int → Prop) (a : Option Addr) (n c : Nat) (xs : List Int) (w' : World) : Prop where
  sl : Sl w' a n c xs
  bel : Below w.heap.size w w'
  prop : p xs
/-- The call returns such a reading. -/
def Ret (w : World) (p : List Int → Prop) (e : Ending) (w' : World) : Prop :=
  ∃ a n c xs, e = .returned (.slice a n c) ∧ Got w p a n c xs w'
theorem Got.mono {w w' : World} {p q : List Int → Prop} {a : Option Addr} {n c : Nat} {xs : List Int} (h : Got w p a n c xs w') (hpq : p xs → q xs) : Got w q a n c xs w' := ⟨h.sl, h.bel, hpq h.prop⟩
theorem Got.old {w0 w w' : World} {p : List Int → Prop} {a : Option Addr} {n c : Nat} {xs : List Int} (h : Got w p a n c xs w') (hb : Below w0.heap.size w0 w) : Got w0 p a n c xs w' := ⟨h.sl, hb.trans (h.bel.mono hb.size), h.prop⟩
theorem Got.keep {w w' : World} {p : List Int → Prop} {a a' : Option Addr} {n c n' c' : Nat} {xs ys : List Int} (h : Got w p a n c xs w') (hs : Sl w a' n' c' ys) : Sl w' a' n' c' ys := hs.below h.bel (Nat.le_refl _)
theorem Own.got {w w' : World} {v : Value} {xs : List Int} {p : List Int → Prop} (h : Own w' w.heap.size v xs) (hb : Below w.heap.size w w') (hs : xs.length ≤ 1048576) (hp : p xs) : Ret w p (.returned v) w' := by
  obtain ⟨a', c', rfl, hsl⟩ := h.sl hs
  exact ⟨a', _, c', xs, rfl, hsl, hb, hp⟩
/-- The call returns a fresh row of its own of which p holds. -/
def RetO (w : World) (p : List Int → Prop) (e : Ending) (w' : World) : Prop :=
  ∃ v xs, e = .returned v ∧ Own w' w.heap.size v xs ∧ Below w.heap.size w w' ∧ xs.length ≤ 1048576 ∧ p xs
theorem RetO.ret {w w' : World} {p : List Int → Prop} {e : Ending} (h : RetO w p e w') : Ret w p e w' := by
  obtain ⟨v, xs, rfl, ho, hb, hl, hp⟩ := h
  exact ho.got hb hl hp
theorem below_alloc (w : World) (o : Obj) : Below w.heap.size w (w.alloc o) := (Below.refl _ _).alloc (Nat.le_refl _) o
/-- The canonical number K, of at most m limbs. -/
def Num (K : Int) (m : Nat) (xs : List Int) : Prop := Cn xs ∧ val xs = K ∧ xs.length ≤ m

/-- A slice of slices of limbs. -/
structure Sls (w : World) (a : Option Addr) (n c : Nat) (ls : List (List Int)) : Prop where
  len : ls.length = n
  le : n ≤ c
  nil : a = none → c = 0
  sm : n ≤ 1048576
  at_ : 0 < n → ∃ b o, a = some ⟨b, o, none⟩ ∧ b < w.heap.size ∧ ∀ i, i < n → ∃ a' n' c', w.cell? ⟨b, o + i, none⟩ = some (.slice a' n' c') ∧ Sl w a' n' c' (ls.getD i [])
theorem Sls.below {w w' : World} {a : Option Addr} {n c : Nat} {ls : List (List Int)} (h : Sls w a n c ls) {B : Nat} (hb : Below B w w') (hB : w.heap.size ≤ B) : Sls w' a n c ls := by
  refine ⟨h.len, h.le, h.nil, h.sm, fun h0 => ?_⟩
  obtain ⟨b, o, rfl, hlt, hc⟩ := h.at_ h0
  refine ⟨b, o, rfl, Nat.lt_of_lt_of_le hlt hb.size, fun i hi => ?_⟩
  obtain ⟨a', n', c', h1, h2⟩ := hc i hi
  exact ⟨a', n', c', (hb.cell (p := ⟨b, o + i, none⟩) (show b < B by omega)).trans h1, h2.below hb hB⟩

end Go.Proofs.YtaaolnepkgcbaaaDoor
