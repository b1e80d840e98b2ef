/- nat.Parse. -/
import Derived.Test.YtaaolnepkgcbaaaDoorTextN
namespace Go.Proofs.YtaaolnepkgcbaaaDoor
open Go.RowKit Lb
set_option linter.unusedVariables false

/-- What both parsers answer. -/
def PPost (l : List UInt8) (w : World) (e : Ending) (w' : World) : Prop :=
  Below w.heap.size w w' ∧ ((10000 < l.length ∧ e = .returned (.tuple #[.slice none 0 0, .int .i64 8])) ∨ (l.length ≤ 10000 ∧ ¬ Canon l ∧ e = .returned (.tuple #[.slice none 0 0, .int .i64 14])) ∨
    (l.length ≤ 10000 ∧ Canon l ∧ ∃ a n c xs, e = .returned (.tuple #[.slice a n c, .int .i64 0]) ∧ Sl w' a n c xs ∧ Num (nv l : Int) 20000 xs))

theorem conv_bytes (s : ByteArray) (w : World) : ∃ w' cap, (convert 9 36 (.string s)).run Tryd.prog w = .ok (.slice (some ⟨w.heap.size, 0, none⟩) s.size cap) w' ∧ Below w.heap.size w w' ∧ ∀ i (h : i < s.data.toList.length), w'.cell? ⟨w.heap.size, i, none⟩ = some (.int .u8 (s.data.toList[i].toNat : Int)) := by
  refine ⟨_, _, run_bytes_of_string w 9 36 5 s Tryd.underlying9 Tryd.underlying36 Tryd.underlying5, ((Below.refl w.heap.size w).drew).alloc (Nat.le_refl _) _, fun i h => ?_⟩
  have e : ((w.drew.alloc (.cells (bytesRow s (grownCap w s.size 0 5)) 5 ((bytesRow s (grownCap w s.size 0 5)).size, (bytesRow s (grownCap w s.size 0 5)).size + 1))).heap[w.heap.size]?) = some (.cells (bytesRow s (grownCap w s.size 0 5)) 5 ((bytesRow s (grownCap w s.size 0 5)).size, (bytesRow s (grownCap w s.size 0 5)).size + 1)) := by
    show (w.heap.push _)[w.heap.size]? = _
    simp
  rw [Lib.cell_of_heap e]
  unfold bytesRow
  have hi : i < s.data.size := by simpa using h
  rw [Array.getElem?_append_left (by simpa using hi)]
  simp
  exact ⟨s.data[i], Array.getElem?_eq_getElem hi, rfl⟩

theorem canon_first {s : ByteArray} (h1 : 1 < s.size) (h0 : (s[0]'(by omega)).toNat = 48) : ¬ Canon s.data.toList := by
  intro hc
  refine hc.lead (by rw [← Lib.size_eq]; exact h1) (s[0]'(by omega)) ?_ h0
  rw [List.head?_eq_getElem?]
  have h2 : 0 < s.data.toList.length := by rw [← Lib.size_eq]; omega
  rw [List.getElem?_eq_getElem h2]
  rfl

theorem nv_lt : ∀ {l : List UInt8}, (∀ c ∈ l, IsD c) → nv l < 10 ^ l.length := by
  intro l
  induction l using rev_ind with
  | h0 => intro _; decide
  | h1 l c ih =>
    intro h
    have h1 := ih fun c hc => h c (List.mem_append.2 (.inl hc))
    have h2 := h c (by simp)
    have h3 : dv c < 10 := by unfold dv; unfold IsD at h2; omega
    rw [nv_snoc, List.length_append, List.length_singleton, Nat.pow_succ]
    omega
theorem nv_app (l r : List UInt8) : nv (l ++ r) = nv l * 10 ^ r.length + nv r := by
  induction r using rev_ind with
  | h0 => simp [nv]
  | h1 r c ih => rw [← List.append_assoc, nv_snoc, ih, nv_snoc, List.length_append, List.length_singleton, Nat.pow_succ]; grind
/-- The chunk's loop. -/
def Chk (P : List UInt8) (j S V : Nat) : Prop := S = 10 ^ j ∧ V = nv (P.take j) ∧ ∀ c ∈ P.take j, IsD c
theorem Chk.bd {P : List UInt8} {j S V : Nat} (h : Chk P j S V) (hj : j ≤ 8) (hP : j ≤ P.length) : S ≤ 100000000 ∧ V < S := by
  obtain ⟨rfl, rfl, h3⟩ := h
  have h1 := nv_lt h3
  rw [List.length_take, Nat.min_eq_left hP] at h1
  exact ⟨Nat.pow_le_pow_right (by decide) hj, h1⟩
theorem Chk.bd9 {P : List UInt8} {j S V : Nat} (h : Chk P j S V) (hj : j ≤ 9) (hP : j ≤ P.length) : S ≤ 1000000000 ∧ V < S := by
  obtain ⟨rfl, rfl, h3⟩ := h
  have h1 := nv_lt h3
  rw [List.length_take, Nat.min_eq_left hP] at h1
  exact ⟨Nat.pow_le_pow_right (by decide) hj, h1⟩
theorem Chk.step {P : List UInt8} {j S V : Nat} (h : Chk P j S V) (hj : j < P.length) (hd : IsD (P[j]'hj)) : Chk P (j + 1) (S * 10) (V * 10 + ((P[j]'hj).toNat - 48)) := by
  obtain ⟨rfl, rfl, h3⟩ := h
  have e : P.take (j + 1) = P.take j ++ [P[j]'hj] := List.take_succ_eq_append_getElem hj
  refine ⟨(Nat.pow_succ ..).symm, ?_, ?_⟩
  · rw [e, nv_snoc]; unfold dv; omega
  · rw [e]
    intro c hc
    rcases List.mem_append.1 hc with h' | h'
    · exact h3 c h'
    · simp only [List.mem_singleton] at h'; rw [h']; exact hd

/-- Parse's outer loop: k bytes are read. -/
def PrN (w : World) (l : List UInt8) (k : Nat) (t : ByteArray) (vo : Value) (wr : World) : Prop :=
  Below w.heap.size w wr ∧ k + t.size = l.length ∧ t.data.toList = l.drop k ∧ (∀ c ∈ l.take k, IsD c) ∧ ∃ a n c xs, vo = .slice a n c ∧ Sl wr a n c xs ∧ n ≤ 2 * k ∧ Lm xs ∧ val xs = nv (l.take k)

set_option maxHeartbeats 1000000 in
set_option maxRecDepth 100000 in
theorem parse_any (s : ByteArray) (L : List UInt8) (hL : s.data.toList = L) (w : World) :
    Calls Tryd.prog 6 #[.string s] w (PPost L w) := by
  have HSZ : Hid (s.size = L.length) := by unfold Hid; rw [← hL]; exact Lib.size_eq s
  have HL := Lib.hid hL
  clear hL
  by_cases hbig : 10000 < s.size
  · go_enter Tryd.func6, Tryd.ntmps6
    go_wp2_with fail
    go_ret2
    exact ⟨Below.refl _ _, .inl ⟨by rw [← HSZ.out]; exact hbig, rfl⟩⟩
  have hsm : s.size ≤ 10000 := by omega
  clear hbig
  by_cases he : s.size = 0
  · have hl : L = [] := List.eq_nil_of_length_eq_zero (by rw [← HSZ.out]; exact he)
    have hemp : s.toList.isEmpty = true := by rw [Lib.toList_data, HL.out, hl]; rfl
    have hnc : Hid (¬ Canon L) := fun h => h.ne hl
    clear hl
    go_enter Tryd.func6, Tryd.ntmps6
    go_wp2_with fail
    go_ret2
    exact ⟨Below.refl _ _, .inr (.inl ⟨by rw [← HSZ.out]; exact hsm, hnc.out, rfl⟩)⟩
  have hemp : s.toList.isEmpty = false := by
    rw [Lib.toList_data, HL.out]
    cases h : L with
    | nil => have hsz := HSZ.out; rw [h, List.length_nil] at hsz; omega
    | cons _ _ => rfl
  have hpos : 0 < s.size := by omega
  clear he
  by_cases hz : 1 < s.size ∧ (s[0]'hpos).toNat = 48
  · have hnc : Hid (¬ Canon L) := by unfold Hid; rw [← HL.out]; exact canon_first hz.1 hz.2
    obtain ⟨hz1, hz2⟩ := hz
    have hz3 : (((s[0]'hpos).toNat : Int) == 48) = true := by rw [hz2]; rfl
    go_enter Tryd.func6, Tryd.ntmps6
    go_wp2_with fail
    go_ret2
    exact ⟨Below.refl _ _, .inr (.inl ⟨by rw [← HSZ.out]; exact hsm, hnc.out, rfl⟩)⟩
  have HZ := Lib.hid hz
  have HS : Hid (PrN w L 0 s (.slice none 0 0) w) := ⟨Below.refl _ _, by rw [Nat.zero_add]; exact HSZ.out, by rw [HL.out]; rfl, fun c hc => (by simp at hc), none, 0, 0, [], rfl, Sl.empty _, by omega, Lm.nil, by simp [val, nv]⟩
  by_cases h1 : 1 < s.size
  all_goals try (have hz3 : (((s[0]'hpos).toNat : Int) == 48) = false := by (have h48 : ¬ (s[0]'hpos).toNat = 48 := fun e => hz ⟨h1, e⟩); simp; omega)
  have hdb : decide ((10000 : Int) < (s.size : Int)) = false := decide_eq_false (by omega)
  all_goals
    clear hz
    go_enter Tryd.func6, Tryd.ntmps6
    go_wp2_with fail
    go_loopw [0, 4] (fun vs vo wr => ∃ (k : Nat) (t : ByteArray), vs = .string t ∧ PrN w L k t vo wr) (fun vs _ _ => Lib.strSize vs)
    case atStart => exact ⟨0, s, rfl, HS.out⟩
    case round =>
      obtain ⟨k, t, rfl, hb, hkt, htl, hdg, a1, n1, c1, us, rfl, su, hn1, hlm, hv⟩ := hrel
      have HKT := Lib.hid hkt
      have HTL := Lib.hid htl
      have HDG := Lib.hid hdg
      have HV := Lib.hid hv
      have hk : k ≤ 10000 := by have := HSZ.out; have := HKT.out; omega
      have htz : t.size ≤ 10000 := by have := HSZ.out; have := HKT.out; omega
      clear hkt htl hdg hv HS
      by_cases ht : t.size = 0
      · have hkl : Hid (k = L.length) := by unfold Hid; have := HKT.out; omega
        have hcan : Hid (Canon L) := by
          refine ⟨?_, ?_, ?_⟩
          · intro e
            have h1 := HSZ.out
            rw [e] at h1
            simp only [List.length_nil] at h1
            omega
          · have := HDG.out
            rw [List.take_of_length_le (by rw [hkl.out]; exact Nat.le_refl _)] at this
            exact this
          · intro hl c hc e
            refine HZ.out ⟨by rw [HSZ.out]; exact hl, ?_⟩
            have h0 : L[0]? = some c := by rw [← List.head?_eq_getElem?]; exact hc
            have h2 : s.data.toList[0]? = some c := by rw [HL.out]; exact h0
            have h3 : 0 < s.data.toList.length := by rw [HL.out]; omega
            rw [List.getElem?_eq_getElem h3] at h2
            have h4 : s[0]'hpos = c := Option.some.inj h2
            rw [h4]; exact e
        have hv2 : Hid (val us = nv L) := by
          have := HV.out
          rw [List.take_of_length_le (by rw [hkl.out]; exact Nat.le_refl _)] at this
          exact this
        go_wp2_with fail
        refine (trim_any _ _ _ _ _ su).mono ?_
        rintro e w4 ⟨a4, n4, c4, x4, rfl, g4⟩
        go_wp2_with fail
        go_ret2
        exact ⟨chain hb g4.bel, .inr (.inr ⟨by rw [← HSZ.out]; exact hsm, hcan.out, _, _, _, x4, rfl, g4.sl, g4.prop.1, by rw [g4.prop.2.1, hv2.out], by have := g4.prop.2.2; omega⟩)⟩
      · obtain ⟨q, m, hm1, hm9, htm⟩ : ∃ q m : Nat, 1 ≤ m ∧ m ≤ 9 ∧ t.size = 9 * q + m := ⟨(t.size - 1) / 9, (t.size - 1) % 9 + 1, by omega, by omega, by omega⟩
        have ht0 : 0 < t.size := by omega
        have hmod : (9 * (q : Int) + m - 1) % 9 + 1 = m := by omega
        have hd9 : decide ((0 : Int) < 9 * (q : Int) + m) = true := decide_eq_true (by omega)
        have hq : q ≤ 1200 := by omega
        obtain ⟨w5, cap, hconv, hb5, hcell5⟩ := conv_bytes (t.extract 0 m) wr
        have hps : (t.extract 0 m).size = m := by rw [ByteArray.size_extract]; omega
        have HPL : Hid ((t.extract 0 m).data.toList = (L.drop k).take m) := by unfold Hid; rw [← HTL.out, ← Lib.mk_data t, Lib.extract_mk]; simp
        have HUL : Hid ((t.extract m (9 * q + m)).data.toList = L.drop (k + m)) := by
          unfold Hid
          rw [← List.drop_drop, ← HTL.out, ← Lib.mk_data t, Lib.extract_mk, List.take_of_length_le]
          rw [List.length_drop, ← Lib.size_eq, htm]; omega
        have HUS : Hid ((t.extract m (9 * q + m)).size = 9 * q) := by unfold Hid; rw [ByteArray.size_extract]; omega
        obtain ⟨P, hP⟩ : ∃ P, P = (L.drop k).take m := ⟨_, rfl⟩
        have hPlen : P.length = m := by
          have := congrArg List.length HPL.out
          rw [← Lib.size_eq, hps, ← hP] at this
          exact this.symm
        obtain ⟨g, hg⟩ : ∃ g, g = wr.heap.size := ⟨_, rfl⟩
        have HC5 : Hid (∀ i (h : i < P.length), w5.cell? ⟨g, i, none⟩ = some (.int .u8 ((P[i]'h).toNat : Int))) := by
          intro i h
          have e1 : (t.extract 0 m).data.toList = P := by rw [HPL.out, hP]
          have h2 := hcell5 i (by rw [e1]; exact h)
          rw [hg, h2]
          simp only [e1]
        have HP := Lib.hid hP
        have HPLEN := Lib.hid hPlen
        rw [hps, ← hg] at hconv
        clear hcell5 hP hPlen hg
        go_wp2_with fail
        go_loop [6, 7, 38] (fun sc vl x => ∃ (j S V : Nat), j ≤ m ∧ x = .int .i64 j ∧ sc = .int .u32 (S : Int) ∧ vl = .int .u32 (V : Int) ∧ Hid (Chk P j S V)) (fun _ _ x => m - (intOf x).toNat)
        case atStart => exact ⟨0, 1, 0, by omega, by simp, rfl, rfl, rfl, rfl, fun c hc => (by simp at hc)⟩
        case round =>
          obtain ⟨j, S, V, hj, rfl, rfl, rfl, hSV⟩ := hrel
          by_cases hjm : j < m
          · have hjP : j < P.length := by rw [HPLEN.out]; exact hjm
            have hbd := hSV.out.bd (by omega) (by omega)
            have hS := hbd.1
            have hV := hbd.2
            obtain ⟨x, hx⟩ : ∃ x, x = (P[j]'hjP).toNat := ⟨_, rfl⟩
            have hx256 : x < 256 := by rw [hx]; exact UInt8.toNat_lt _
            have hck : w5.cell? ⟨g, j, none⟩ = some (.int .u8 (x : Int)) := by rw [hx]; exact HC5.out j hjP
            have HX : Hid (∀ h, x = (P[j]'h).toNat) := fun _ => hx
            have HJP := Lib.hid hjP
            clear hbd hx hjP
            by_cases hd : 48 ≤ x ∧ x ≤ 57
            · obtain ⟨hd1, hd2⟩ := hd
              have HNX : Hid (Chk P (j + 1) (S * 10) (V * 10 + (x - 48))) := by
                have hjP := HJP.out
                have := hSV.out.step hjP (by unfold IsD; have := HX.out hjP; omega)
                rw [← HX.out hjP] at this
                exact this
              clear HJP
              go_wp2_with fail
              go_round
              case rel => exact ⟨j + 1, S * 10, V * 10 + (x - 48), by omega, by go_num, by simp, by simp; omega, HNX⟩
              case measure => simp [intOf]; omega
            · have hbad : Hid (¬ Canon L) := by
                intro hc
                apply hd
                have hjP := HJP.out
                have hm : (P[j]'hjP) ∈ L := by
                  have hsub : ∀ y, y ∈ P → y ∈ L := by
                    intro y hy
                    rw [HP.out] at hy
                    exact List.mem_of_mem_drop (List.mem_of_mem_take hy)
                  exact hsub _ (List.getElem_mem _)
                have h2 := hc.dig _ hm
                unfold IsD at h2
                rw [HX.out hjP]
                exact h2
              clear HJP
              have hbw : Below w.heap.size w w5 := chain hb hb5
              by_cases hlo : x < 48
              · go_wp2_with fail
                go_ret2
                exact ⟨hbw, .inr (.inl ⟨by rw [← HSZ.out]; exact hsm, hbad.out, rfl⟩)⟩
              · have hhi : 57 < x := by omega
                go_wp2_with fail
                go_ret2
                exact ⟨hbw, .inr (.inl ⟨by rw [← HSZ.out]; exact hsm, hbad.out, rfl⟩)⟩
          · have hjm2 : j = m := by omega
            subst hjm2
            have hbd := hSV.out.bd9 (by omega) (by rw [HPLEN.out]; exact Nat.le_refl _)
            have hS := hbd.1
            have hV := hbd.2
            clear hbd hjm hj
            have su5 := su.kept hb5
            have hbw : Below w.heap.size w w5 := chain hb hb5
            go_wp2_with fail
            refine (times_any _ _ _ _ _ _ _ _ _ (su5.alloc _) (sl_one_at (S : Int) (by omega) (by simp)) (by omega)).mono ?_
            rintro e w6 ⟨a6, n6, c6, x6, rfl, g6⟩
            have hb6 := chain (chain_alloc hbw _) g6.bel
            have l6 : n6 ≤ 2 * k + 1 := by have := g6.prop.2.2; have := g6.sl.len; omega
            have V6 := Lib.hid g6.prop.2.1
            have s6 := g6.sl
            clear g6
            go_wp2_with fail
            refine (plus_any _ _ _ _ _ _ _ _ _ (s6.alloc _) (sl_one_at (V : Int) (by omega) (by simp)) (2 * k + 1) l6 (by omega) (by omega)).mono ?_
            rintro e w7 ⟨a7, n7, c7, x7, rfl, g7⟩
            have hb7 := chain (chain_alloc hb6 _) g7.bel
            go_wp2_with fail
            go_roundw
            case rel =>
              have etk : L.take (k + j) = L.take k ++ P := by rw [List.take_add, HP.out]
              have hch := hSV.out
              rw [Chk, List.take_of_length_le (by rw [HPLEN.out]; exact Nat.le_refl _)] at hch
              refine ⟨k + j, _, rfl, hb7, ?_, HUL.out, ?_, _, _, _, x7, rfl, g7.sl, ?_, g7.sl.lm, ?_⟩
              · rw [HUS.out]; have := HKT.out; omega
              · rw [etk]
                intro c hc
                rcases List.mem_append.1 hc with h' | h'
                · exact HDG.out c h'
                · exact hch.2.2 c h'
              · have := g7.prop.2.2; have := g7.sl.len; omega
              · rw [g7.prop.2.1, V6.out, val_one, val_one, HV.out, etk, nv_app, HPLEN.out, hch.1, hch.2.1]
                rw [Int.natCast_add, Int.natCast_mul]
            case measure =>
              rw [Lib.strSize_string, Lib.strSize_string, HUS.out]; omega
end Go.Proofs.YtaaolnepkgcbaaaDoor
