/- ref.Parse. -/
import Derived.Test.YtaaolnepkgcbaaaDoorParseN
import Derived.Test.YtaaolnepkgcbaaaDoorRText
namespace Go.Proofs.YtaaolnepkgcbaaaDoor
open Go.RowKit Lb
set_option linter.unusedVariables false

/-- Times ten in place. -/
def TenRel (w : World) (va : Value) (os : List Int) (d : Int) (j : Nat) (c : Int) (wr : World) : Prop :=
  0 ≤ c ∧ c ≤ 9 ∧ Below w.heap.size w wr ∧ ∃ ps, ps.length = os.length ∧ Own wr w.heap.size va ps ∧ val (ps.take j) + pw j * c = 10 * val (os.take j) + d ∧ ps.drop j = os.drop j
theorem ten_bd {x c : Int} (h0 : 0 ≤ x) (h1 : x < 4294967296) (c0 : 0 ≤ c) (c1 : c ≤ 9) : 0 ≤ (x * 10 + c) / 4294967296 ∧ (x * 10 + c) / 4294967296 ≤ 9 := by omega
theorem TenRel.step {w wr : World} {g n cp j : Nat} {os ps : List Int} {d c : Int} (h0 : 0 ≤ c) (h1 : c ≤ 9) (hb : Below w.heap.size w wr) (hl : ps.length = os.length) (hrow : Row wr g cp ps) (hg : w.heap.size ≤ g) (hn : os.length = n) (hj : j < n) (hx : Lm os)
    (inv : val (ps.take j) + pw j * c = 10 * val (os.take j) + d) (hd : ps.drop j = os.drop j) :
    TenRel w (.slice (some ⟨g, 0, none⟩) n cp) os d (j + 1) ((rdl os j * 10 + c) / 4294967296) (wr.setCell ⟨g, j, none⟩ (.int .u32 ((rdl os j * 10 + c) % 4294967296))) := by
  have bx := rdl_bd hx j
  have b2 := ten_bd bx.1 bx.2 h0 h1
  refine ⟨b2.1, b2.2, hb.setCell (p := ⟨g, j, none⟩) hg _, ps.set j ((rdl os j * 10 + c) % 4294967296), by rw [List.length_set]; exact hl, ?_, ?_, ?_⟩
  · have := (hrow.set j (v := (rdl os j * 10 + c) % 4294967296) (by omega) (by omega)).own hg
    rw [List.length_set, hl, hn] at this
    exact this
  · rw [val_set_next (by omega), val_takes, pw_succ]
    have e1 := Int.emod_add_mul_ediv (rdl os j * 10 + c) 4294967296
    generalize (rdl os j * 10 + c) % 4294967296 = r at *
    generalize (rdl os j * 10 + c) / 4294967296 = q at *
    generalize pw j = K at *
    generalize rdl os j = x at *
    grind
  · rw [set_drop (Nat.lt_succ_self j)]
    have := congrArg (List.drop 1) hd
    rw [List.drop_drop, List.drop_drop] at this
    exact this
theorem rdl_drop {os ps : List Int} {j : Nat} (h : ps.drop j = os.drop j) : rdl ps j = rdl os j := by
  have := congrArg (fun l => l.getD 0 0) h
  simp only [List.getD_eq_getElem?_getD, List.getElem?_drop, Nat.add_zero] at this
  unfold rdl
  rw [List.getD_eq_getElem?_getD, List.getD_eq_getElem?_getD]
  exact this
/-- The second loop. -/
def RPr (w : World) (L : List UInt8) (i : Nat) (vo : Value) (wr : World) : Prop :=
  Below w.heap.size w wr ∧ ∃ os, Own wr w.heap.size vo os ∧ os.length ≤ i ∧ val os = nv (L.take i)

set_option maxHeartbeats 1000000 in
set_option maxRecDepth 100000 in
theorem rparse_any (s : ByteArray) (L : List UInt8) (hL : s.data.toList = L) (w : World) :
    Calls Tryd.prog 10 #[.string s] w (PPost L w) := by
  have HSZ : Hid (s.size = L.length) := by unfold Hid; rw [← hL]; exact Lib.size_eq s
  have HL := Lib.hid hL
  clear hL
  by_cases hbig : 10000 < s.size
  · go_enter Tryd.func10, Tryd.ntmps10
    go_wp2_with fail
    go_ret2
    exact ⟨Below.refl _ _, .inl ⟨by rw [← HSZ.out]; exact hbig, rfl⟩⟩
  have hsm : s.size ≤ 10000 := by omega
  clear hbig
  by_cases he : s.size = 0
  · have hl : L = [] := List.eq_nil_of_length_eq_zero (by rw [← HSZ.out]; exact he)
    have hemp : s.toList.isEmpty = true := by rw [Lib.toList_data, HL.out, hl]; rfl
    have hnc : Hid (¬ Canon L) := fun h => h.ne hl
    clear hl
    go_enter Tryd.func10, Tryd.ntmps10
    go_wp2_with fail
    go_ret2
    exact ⟨Below.refl _ _, .inr (.inl ⟨by rw [← HSZ.out]; exact hsm, hnc.out, rfl⟩)⟩
  have hemp : s.toList.isEmpty = false := by
    rw [Lib.toList_data, HL.out]
    cases h : L with
    | nil => have hsz := HSZ.out; rw [h, List.length_nil] at hsz; omega
    | cons _ _ => rfl
  have hpos : 0 < s.size := by omega
  clear he
  by_cases hz : 1 < s.size ∧ (s[0]'hpos).toNat = 48
  · have hnc : Hid (¬ Canon L) := by unfold Hid; rw [← HL.out]; exact canon_first hz.1 hz.2
    obtain ⟨hz1, hz2⟩ := hz
    have hz3 : (((s[0]'hpos).toNat : Int) == 48) = true := by rw [hz2]; rfl
    go_enter Tryd.func10, Tryd.ntmps10
    go_wp2_with fail
    go_ret2
    exact ⟨Below.refl _ _, .inr (.inl ⟨by rw [← HSZ.out]; exact hsm, hnc.out, rfl⟩)⟩
  have HZ := Lib.hid hz
  have hdb : decide ((10000 : Int) < (s.size : Int)) = false := decide_eq_false (by omega)
  by_cases h1 : 1 < s.size
  all_goals try (have hz3 : (((s[0]'hpos).toNat : Int) == 48) = false := by (have h48 : ¬ (s[0]'hpos).toNat = 48 := fun e => hz ⟨h1, e⟩); simp; omega)
  all_goals
    clear hz
    go_enter Tryd.func10, Tryd.ntmps10
    go_wp2_with fail
    go_loop [4] (fun t => ∃ k : Nat, k ≤ s.size ∧ t = .int .i64 k ∧ Hid (∀ c ∈ L.take k, IsD c)) (fun t => s.size - (intOf t).toNat)
    case atStart => exact ⟨0, by omega, by simp, fun c hc => (by simp at hc)⟩
    case round =>
      obtain ⟨k, hk, rfl, hdg⟩ := hrel
      by_cases hks : k < s.size
      · have HB : Hid (∀ h : k < L.length, s[k]'hks = L[k]'h) := fun h => by
          have h2 : s[k]'hks = s.data.toList[k]'(by rw [HL.out]; exact h) := rfl
          rw [h2]; simp only [HL.out]
        by_cases hd : 48 ≤ (s[k]'hks).toNat ∧ (s[k]'hks).toNat ≤ 57
        · obtain ⟨hd1, hd2⟩ := hd
          have HNX : Hid (∀ c ∈ L.take (k + 1), IsD c) := by
            have hkL : k < L.length := by rw [← HSZ.out]; exact hks
            have e : L.take (k + 1) = L.take k ++ [L[k]'hkL] := List.take_succ_eq_append_getElem hkL
            intro c hc
            rw [e] at hc
            rcases List.mem_append.1 hc with h' | h'
            · exact hdg.out c h'
            · simp only [List.mem_singleton] at h'
              rw [h', ← HB.out hkL]; exact ⟨hd1, hd2⟩
          go_wp2_with fail
          go_round
          case rel => exact ⟨k + 1, by omega, by go_num, HNX⟩
          case measure => simp [intOf]; omega
        · have hbad : Hid (¬ Canon L) := by
            intro hc
            have hkL : k < L.length := by rw [← HSZ.out]; exact hks
            have h2 := hc.dig _ (List.getElem_mem hkL)
            rw [← HB.out hkL] at h2
            exact hd h2
          by_cases hlo : (s[k]'hks).toNat < 48
          · go_wp2_with fail
            go_ret2
            exact ⟨Below.refl _ _, .inr (.inl ⟨by rw [← HSZ.out]; exact hsm, hbad.out, rfl⟩)⟩
          · have hhi : 57 < (s[k]'hks).toNat := by omega
            go_wp2_with fail
            go_ret2
            exact ⟨Below.refl _ _, .inr (.inl ⟨by rw [← HSZ.out]; exact hsm, hbad.out, rfl⟩)⟩
      · have hks2 : k = s.size := by omega
        have hall : Hid (∀ c ∈ L, IsD c) := by
          have := hdg.out
          rw [List.take_of_length_le (by rw [← HSZ.out]; omega)] at this
          exact this
        have hcan : Hid (Canon L) := by
          refine ⟨?_, hall.out, ?_⟩
          · intro e
            have h1 := HSZ.out
            rw [e] at h1
            simp only [List.length_nil] at h1
            omega
          · intro hl c hc e
            refine HZ.out ⟨by rw [HSZ.out]; exact hl, ?_⟩
            have h0 : L[0]? = some c := by rw [← List.head?_eq_getElem?]; exact hc
            have h2 : s.data.toList[0]? = some c := by rw [HL.out]; exact h0
            have h3 : 0 < s.data.toList.length := by rw [HL.out]; omega
            rw [List.getElem?_eq_getElem h3] at h2
            have h4 : s[0]'hpos = c := Option.some.inj h2
            rw [h4]; exact e
        clear hdg
        go_wp2_with fail
        go_loopw [5, 6] (fun vo t wr => ∃ i : Nat, i ≤ s.size ∧ t = .int .i64 i ∧ RPr w L i vo wr) (fun _ t _ => s.size - (intOf t).toNat)
        case atStart => exact ⟨0, by omega, by simp, Below.refl _ _, [], Own.nil _ _, by simp, by simp [val, nv]⟩
        case round =>
          obtain ⟨i, hi, rfl, hb, os, hown, hol, hv⟩ := hrel
          have HV := Lib.hid hv
          clear hv
          obtain ⟨a1, c1, rfl, so⟩ := hown.sl (by omega)
          obtain ⟨n1, hn1⟩ : ∃ n1, n1 = os.length := ⟨_, rfl⟩
          rw [← hn1] at so hol ⊢
          have HN := Lib.hid hn1
          have hown1 : Own wr w.heap.size (.slice a1 n1 c1) os := by rw [hn1]; exact hown
          clear hn1 hown
          by_cases his : i < s.size
          · have hiL : i < L.length := by rw [← HSZ.out]; exact his
            have hdI : IsD (L[i]'hiL) := hall.out _ (List.getElem_mem hiL)
            have hBI : s[i]'his = L[i]'hiL := by
              have h2 : s[i]'his = s.data.toList[i]'(by rw [HL.out]; exact hiL) := rfl
              rw [h2]; simp only [HL.out]
            rw [← hBI] at hdI
            obtain ⟨hx1, hx2⟩ := hdI
            have HNV : Hid (nv (L.take (i + 1)) = 10 * nv (L.take i) + ((s[i]'his).toNat - 48)) := by
              have e : L.take (i + 1) = L.take i ++ [L[i]'hiL] := List.take_succ_eq_append_getElem hiL
              unfold Hid
              rw [e, nv_snoc, hBI]; rfl
            clear hBI hiL
            go_wp2_with fail
            go_loopw [7, 8] (fun cv t w2 => ∃ (j : Nat) (c : Int), j ≤ n1 ∧ t = .int .i64 j ∧ cv = .int .u64 c ∧ TenRel w (.slice a1 n1 c1) os (((s[i]'his).toNat : Int) - 48) j c w2) (fun _ t _ => n1 - (intOf t).toNat)
            case atStart => exact ⟨0, _, by omega, by simp, rfl, by omega, by omega, hb, os, rfl, hown1, by simp [val, pw_zero], rfl⟩
            case round =>
              obtain ⟨j, c, hj, rfl, rfl, hc0, hc9, hb2, ps, hpl, hown2, inv, hdr⟩ := hrel
              have INV := Lib.hid inv
              have HDR := Lib.hid hdr
              have HPL := Lib.hid hpl
              clear inv hdr hpl
              by_cases hjn : j < n1
              · first | (exfalso; omega) | skip
                all_goals
                  obtain ⟨g, cg, hv, hMg, hrow⟩ := hown2.row (by rw [HPL.out, ← HN.out]; omega)
                  simp only [Value.slice.injEq] at hv
                  obtain ⟨rfl, _, rfl⟩ := hv
                  have hfr := hrow.free j
                  have hoc := hrow.cell (i := j) (by rw [HPL.out, ← HN.out]; omega)
                  rw [rdl_drop HDR.out] at hoc
                  have bx := rdl_bd hown1.2 j
                  have bx0 := bx.1
                  have bx1 := bx.2
                  have hS0 : 0 ≤ rdl os j * 10 + c := by omega
                  go_wp2_with fail
                  go_roundw
                  case rel => exact ⟨j + 1, _, by omega, by go_num, rfl, TenRel.step hc0 hc9 hb2 HPL.out hrow hMg HN.out.symm hjn hown1.2 INV.out HDR.out⟩
                  case measure => simp [intOf]; omega
              · have hjn2 : j = n1 := by omega
                have HT : Hid (val ps + pw ps.length * c = nv (L.take (i + 1))) := by
                  have h1 := INV.out
                  rw [List.take_of_length_le (by rw [HPL.out, ← HN.out]; omega), List.take_of_length_le (by rw [← HN.out]; omega), HV.out] at h1
                  unfold Hid
                  rw [HPL.out, ← HN.out, ← hjn2, h1, HNV.out]
                  omega
                by_cases hcz : 0 < c
                · go_wp2_with (at_builtin; refine wpList_append_limbs _ rfl _ _ rfl w.heap.size _ ps rfl (hown2.alloc _) _ _ _ _ rfl (sl_one _ _ (by omega)) ?_ ?_ ?_)
                  · rw [HPL.out, ← HN.out]; omega
                  · have := hb2.size; simp; omega
                  intro v' w5 own5 bel5
                  have hb5 := (chain_alloc hb2 _).trans bel5
                  go_wp2_with fail
                  go_roundw
                  case rel => exact ⟨i + 1, by omega, by go_num, hb5, _, own5, by rw [List.length_append, HPL.out, ← HN.out]; simp; omega, by rw [val_snoc]; exact HT.out⟩
                  case measure => simp [intOf]; omega
                · have hc00 : c = 0 := by omega
                  have HT2 : Hid (val ps = nv (L.take (i + 1))) := by
                    have := HT.out
                    rw [hc00, Int.mul_zero, Int.add_zero] at this
                    exact this
                  go_wp2_with fail
                  go_roundw
                  case rel => exact ⟨i + 1, by omega, by go_num, hb2, ps, hown2, by rw [HPL.out, ← HN.out]; omega, HT2.out⟩
                  case measure => simp [intOf]; omega
          · have hv2 : Hid (val os = nv L) := by
              have := HV.out
              rw [List.take_of_length_le (by rw [← HSZ.out]; omega)] at this
              exact this
            go_wp2_with fail
            refine (rtrim_any _ _ _ _ _ so).mono ?_
            rintro e w4 ⟨a4, n4, c4, x4, rfl, g4⟩
            go_wp2_with fail
            go_ret2
            exact ⟨chain hb g4.bel, .inr (.inr ⟨by rw [← HSZ.out]; exact hsm, hcan.out, _, _, _, x4, rfl, g4.sl, g4.prop.1, by rw [g4.prop.2.1, hv2.out], by have := g4.prop.2.2; omega⟩)⟩
end Go.Proofs.YtaaolnepkgcbaaaDoor
