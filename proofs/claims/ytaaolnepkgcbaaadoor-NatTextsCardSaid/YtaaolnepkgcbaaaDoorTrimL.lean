/- strings.TrimLeft at the cutset "0" (after the shelf's walk of trimLeftByte, turned to this claim); nat.nine. -/
import Derived.Test.YtaaolnepkgcbaaaDoorBld
import Derived.Test.YtaaolnepkgcbaaaDoorMathT
import Derived.Lib.TrimByte
import Derived.Lib.Walk
import Derived.Laws.Strings3
import Derived.Laws.IdiomStrings
namespace Go.Proofs.YtaaolnepkgcbaaaDoor
open Go.RowKit Lb
set_option linter.unusedVariables false

set_option maxHeartbeats 2000000 in
set_option maxRecDepth 1000000 in
theorem trimLeftByte_any (s : ByteArray) (c : UInt8) (w : World) :
    Calls Tryd.prog 21 #[.string s, .int .u8 c.toNat] w fun e w' => e = .returned (.string ⟨(Lib.trimLeftB s.data.toList c).toArray⟩) ∧ w' = w := by
  go_enter Tryd.func21, Tryd.ntmps21
  go_wp2
  go_loop [0] (fun v => ∃ k : Nat, k ≤ s.size ∧ v = .string ⟨(s.data.toList.drop k).toArray⟩ ∧ ∀ (j : Nat) b, j < k → s.data.toList[j]? = some b → b = c) (fun v => Lib.strSize v)
  case atStart => exact ⟨0, Nat.zero_le _, by simp, fun j b hj => absurd hj (Nat.not_lt_zero _)⟩
  case round =>
    obtain ⟨k, hk, rfl, hc⟩ := hrel
    have hts : (⟨(s.data.toList.drop k).toArray⟩ : ByteArray).size = s.size - k := by rw [Lib.size_mk, List.length_drop, ← Lib.size_eq]
    have hb0 : ∀ h, s.data.toList[k]? = some ((⟨(s.data.toList.drop k).toArray⟩ : ByteArray)[0]'h) := by
      intro h
      rw [← Lib.getElem_mk (s.data.toList.drop k) 0 h, List.getElem?_drop]
      rfl
    have hx1 : (⟨(s.data.toList.drop k).toArray⟩ : ByteArray).extract 1 (s.size - k) = ⟨(s.data.toList.drop (k + 1)).toArray⟩ := by
      rw [Lib.extract_mk, List.drop_drop, List.take_of_length_le (by simp; omega)]
    have hK : Lib.Kept (∀ (j : Nat) b, j < k → s.data.toList[j]? = some b → b = c) := hc
    clear hc
    generalize ht : (⟨(s.data.toList.drop k).toArray⟩ : ByteArray) = t at hts hb0 hx1 ⊢
    have hK3 : Lib.Kept ((⟨(s.data.toList.drop k).toArray⟩ : ByteArray) = t) := ht
    clear ht
    have hkl : Lib.Kept (k ≤ s.data.toList.length) := by rw [← Lib.size_eq]; exact hk
    by_cases h0 : 0 < t.size
    · have hbk := hb0 h0
      clear hb0
      by_cases heq : t[0]'h0 = c
      · have heq' : ((t[0]'h0).toNat : Int) = (c.toNat : Int) := by rw [heq]
        have hK2 : Lib.Kept (s.data.toList[k]? = some (t[0]'h0)) := hbk
        clear hbk
        go_wp2
        refine ⟨⟨k + 1, by omega, rfl, fun j b hj hb => ?_⟩, ?_⟩
        · by_cases e : j = k
          · subst e
            have h2 : s.data.toList[j]? = some (t[0]'h0) := hK2
            have h3 : s.data.toList[j]? = some b := by simpa using hb
            rw [h2] at h3
            rw [← Option.some.inj h3, heq]
          · exact hK j b (by omega) (by simpa using hb)
        · rw [Lib.strSize_string, Lib.strSize_string, Lib.size_mk, List.length_drop, ← Lib.size_eq]
          omega
      · have hne' : ¬ ((t[0]'h0).toNat : Int) = (c.toNat : Int) := by
          intro e
          exact heq (UInt8.toNat_inj.1 (by exact_mod_cast e))
        have hbeq : (((t[0]'h0).toNat : Int) == (c.toNat : Int)) = false := by simpa using hne'
        have hK2 : Lib.Kept (s.data.toList[k]? = some (t[0]'h0)) := hbk
        clear hbk
        go_wp2
        go_ret
        refine ⟨?_, rfl⟩
        have ht' : (⟨(s.data.toList.drop k).toArray⟩ : ByteArray) = t := hK3
        show Ending.returned (Value.string t) = _
        rw [Lib.trimLeftB_drop s.data.toList c k hkl hK (fun b hb => by
          have h2 : s.data.toList[k]? = some (t[0]'h0) := hK2
          rw [h2] at hb
          rw [← Option.some.inj hb]
          exact heq), ht']
    · clear hb0
      go_wp2
      go_ret
      refine ⟨?_, rfl⟩
      have ht' : (⟨(s.data.toList.drop k).toArray⟩ : ByteArray) = t := hK3
      show Ending.returned (Value.string t) = _
      rw [Lib.trimLeftB_drop s.data.toList c k hkl hK (fun b hb => by
        have : s.data.toList.length ≤ k := by rw [← Lib.size_eq]; omega
        simp [List.getElem?_eq_none this] at hb), ht']

theorem trim_zeros (s : ByteArray) (w : World) :
    Calls Tryd.prog 21 #[.string s, .int .u8 48] w fun e w' => e = .returned (.string ⟨(s.data.toList.dropWhile (· == 48)).toArray⟩) ∧ w' = w := trimLeftByte_any s 48 w

set_option maxHeartbeats 2000000 in
set_option maxRecDepth 1000000 in
theorem trimLeft_any (s : ByteArray) (hs : 0 < s.size) (w : World) :
    Calls Tryd.prog 14 #[.string s, .string ⟨#[48]⟩] w fun e w' => e = .returned (.string ⟨(s.data.toList.dropWhile (· == 48)).toArray⟩) ∧ w' = w := by
  have hemps : s.toList.isEmpty = false := by
    rw [Lib.toList_data]
    cases h : s.data.toList with
    | nil => have := Lib.size_eq s; rw [h, List.length_nil] at this; omega
    | cons _ _ => rfl
  go_enter Tryd.func14, Tryd.ntmps14
  go_wp2_with fail
  · refine (trimLeftByte_any s ((⟨#[48]⟩ : ByteArray)[0]) w).mono ?_
    rintro e w' ⟨rfl, rfl⟩
    go_wp2_with fail
    go_ret
    exact ⟨rfl, rfl⟩
  all_goals (exfalso; rename_i h; revert h; decide)

/-- nine's loop: k digits are still to come. -/
def NineRel (w : World) (g : Nat) (X : Nat) (k : Nat) (y : Nat) (wr : World) : Prop :=
  y = X / 10 ^ (9 - k) ∧ Below w.heap.size w wr ∧ ∃ cs : List Value, cs.length = 9 ∧ wr.heap[g]? = some (.cells cs.toArray 49 (0, 0)) ∧ cs.drop k = (digs (9 - k) X).map fun b => Value.int .u8 b.toNat
theorem nine_drop {cs : List Value} {k X y : Nat} {v : Value} (hl : cs.length = 9) (hk : k < 9) (hy : y = X / 10 ^ (9 - (k + 1))) (hd : cs.drop (k + 1) = (digs (9 - (k + 1)) X).map fun b => Value.int .u8 b.toNat) (hv : v = .int .u8 ((48 + y % 10 : Nat) : Int)) :
    (cs.set k v).drop k = (digs (9 - k) X).map fun b => Value.int .u8 b.toNat := by
  rw [List.drop_eq_getElem_cons (by rw [List.length_set]; omega), List.getElem_set_self, List.drop_set_of_lt (by omega), hd, show 9 - k = (9 - (k + 1)) + 1 by omega, digs_cons, List.map_cons, ← hy, dgt_nat, hv]
theorem heap_set {wr : World} {g k : Nat} {cs : List Value} {T : TypeId} {v : Value} (h : wr.heap[g]? = some (.cells cs.toArray T (0, 0))) : (wr.setCell ⟨g, k, none⟩ v).heap[g]? = some (.cells (cs.set k v).toArray T (0, 0)) := by
  simp [World.setCell, Array.getElem?_modify, h]

set_option maxHeartbeats 2000000 in
theorem nine_any (x : Int) (w : World) (h0 : 0 ≤ x) (h1 : x < 4294967296) :
    Calls Tryd.prog 13 #[.int .u32 x] w fun e w' => e = .returned (.string ⟨(digs 9 x.toNat).toArray⟩) ∧ Below w.heap.size w w' := by
  obtain ⟨X, rfl⟩ := Int.eq_ofNat_of_zero_le h0
  rw [Int.toNat_natCast]
  go_enter Tryd.func13, Tryd.ntmps13
  go_wp2_with fail
  obtain ⟨g, hg⟩ : ∃ g, g = w.heap.size := ⟨_, rfl⟩
  have hgw : w.heap.size ≤ g := by omega
  have hh : (w.alloc (.cells #[.int .u8 0, .int .u8 0, .int .u8 0, .int .u8 0, .int .u8 0, .int .u8 0, .int .u8 0, .int .u8 0, .int .u8 0] 49)).heap[g]? = some (.cells (List.replicate 9 (.int .u8 0)).toArray 49 (0, 0)) := by subst hg; exact heap_alloc_new w _
  have HS : Hid (NineRel w g X 9 X (w.alloc (.cells #[.int .u8 0, .int .u8 0, .int .u8 0, .int .u8 0, .int .u8 0, .int .u8 0, .int .u8 0, .int .u8 0, .int .u8 0] 49))) := ⟨by simp, below_alloc w _, _, by simp, hh, by simp [digs]⟩
  rw [← hg]
  clear hg hh
  go_loopw [0, 4] (fun xv t wr => ∃ (k y : Nat), k ≤ 9 ∧ y < 4294967296 ∧ t = .int .i64 ((k : Int) - 1) ∧ xv = .int .u32 (y : Int) ∧ NineRel w g X k y wr) (fun _ t _ => (intOf t + 1).toNat)
  case atStart => exact ⟨9, X, by omega, by omega, rfl, rfl, HS.out⟩
  case round =>
    obtain ⟨k, y, hk, hy, rfl, rfl, hyx, hb, cs, hl, hc, hd⟩ := hrel
    have HY := Lib.hid hyx
    have HL := Lib.hid hl
    have HD := Lib.hid hd
    have HC := Lib.hid hc
    clear hyx hl hd HS
    cases k with
    | zero =>
      have hconv : (convert 36 9 (.slice (some ⟨g, 0, none⟩) 9 9)).run Tryd.prog wr = .ok (.string ⟨(digs 9 X).toArray⟩) wr := by
        have := run_convert_bytes_back (P := Tryd.prog) wr 36 9 5 ⟨g, 0, none⟩ 9 (digs 9 X) Tryd.underlying36 Tryd.underlying5 Tryd.underlying9 (fun j hj => by
          have e1 : cs = (digs 9 X).map fun b => Value.int .u8 b.toNat := HD.out
          rw [Go.WideShapes.add_plain, Nat.zero_add, Lib.cell_of_heap HC.out, e1]
          simp [List.getElem?_eq_getElem hj])
        rw [digs_len] at this
        exact this
      clear hc
      go_wp2_with fail
      go_ret
      exact ⟨rfl, hb⟩
    | succ k =>
      have hfr : wr.frozen? ⟨g, k, none⟩ = false := Lib.frozen_of_heap HC.out k
      obtain ⟨v0, hoc⟩ : ∃ v0, wr.cell? ⟨g, k, none⟩ = some v0 := ⟨cs[k]'(by rw [HL.out]; omega), by rw [Lib.cell_of_heap HC.out]; simp⟩
      clear hc
      go_wp2_with fail
      go_roundw
      case rel => exact ⟨k, y / 10, by omega, by omega, by simp, by simp, by rw [HY.out, Nat.div_div_eq_div_mul, ← Nat.pow_succ]; congr 2; omega, hb.setCell (p := ⟨g, k, none⟩) hgw _, _, by rw [List.length_set]; exact HL.out, heap_set HC.out, nine_drop HL.out (by omega) HY.out HD.out (by first | rfl | (simp; done) | (simp; omega))⟩
      case measure => simp [intOf]
end Go.Proofs.YtaaolnepkgcbaaaDoor
