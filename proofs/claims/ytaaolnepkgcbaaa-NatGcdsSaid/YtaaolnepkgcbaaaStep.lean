/- nat.step: one limb of the quotient, in place. -/
import Derived.Test.YtaaolnepkgcbaaaSub
import Derived.Test.YtaaolnepkgcbaaaTimes
import Derived.Test.YtaaolnepkgcbaaaMathD
namespace Go.Proofs.Ytaaolnepkgcbaaa
open Go.RowKit Lb
set_option linter.unusedVariables false

/-- Only block g may have changed. -/
structure Only (g : Nat) (w w' : World) : Prop where
  os : w'.os = w.os
  tape : w'.tape = w.tape
  output : w'.output = w.output
  size : w.heap.size ≤ w'.heap.size
  block : ∀ k, k ≠ g → w'.heap[k]? = w.heap[k]?
theorem Only.refl (g : Nat) (w : World) : Only g w w := ⟨rfl, rfl, rfl, Nat.le_refl _, fun _ _ => rfl⟩
theorem Only.trans {g : Nat} {a b c : World} (h : Only g a b) (k : Only g b c) : Only g a c :=
  ⟨k.os.trans h.os, k.tape.trans h.tape, k.output.trans h.output, Nat.le_trans h.size k.size, fun i hi => (k.block i hi).trans (h.block i hi)⟩
theorem Only.drewN {g : Nat} {a w : World} (h : Only g a w) (n : Nat) : Only g a (w.drewN n) := ⟨h.os, h.tape, h.output, h.size, h.block⟩
theorem Only.setCell {g : Nat} {a w : World} (h : Only g a w) (i : Nat) (u : Value) : Only g a (w.setCell ⟨g, i, none⟩ u) :=
  h.trans ⟨rfl, rfl, rfl, by simp [World.setCell], fun k hk => Below.heap_setCell _ _ _ _ hk⟩
theorem Only.below {g B : Nat} {a w : World} (h : Only g a w) (hB : B ≤ g) : Below B a w := ⟨h.os, h.tape, h.output, h.size, fun k hk => h.block k (by omega)⟩
theorem Row.only {w w' : World} {g g' c : Nat} {xs : List Int} (h : Row w g' c xs) (ho : Only g w w') (hg : g' ≠ g) : Row w' g' c xs := by
  refine ⟨⟨h.1.1, ?_⟩, h.2⟩
  rcases h.1.2 with ⟨h', _⟩ | ⟨g'', cap, cur, hv, hg', hh, r⟩
  · simp at h'
  · have e : g'' = g' := by simp only [Value.slice.injEq, Option.some.injEq, Addr.mk.injEq] at hv; exact hv.1.1.symm
    subst e
    exact .inr ⟨g'', cap, cur, hv, hg', by rw [ho.block g'' hg]; exact hh, r⟩
theorem Only.cell {g b o i : Nat} {w w' : World} (h : Only g w w') (hb : b ≠ g) : w'.cell? ⟨b, o + i, none⟩ = w.cell? ⟨b, o + i, none⟩ := World.cell?_of_block (h.block b hb)

/-- step's result. -/
def StepPost (w : World) (g c j k : Nat) (us vs : List Int) (e : Ending) (w' : World) : Prop :=
  ∃ os, e = .returned (.int .u32 (sv us j (k + 1) / val vs)) ∧ Only g w w' ∧ os.length = us.length ∧ Row w' g c os ∧ sv os j k = sv us j (k + 1) % val vs ∧ rdl os (j + k) = 0 ∧ ∀ m, m < j ∨ j + k < m → rdl os m = rdl us m

set_option maxHeartbeats 4000000 in
set_option maxRecDepth 100000 in
theorem step_any (g c j κ b o cc c2 : Nat) (us vs : List Int) (w : World) (hr : Row w g c us) (hjk : j + (κ + 2) < us.length) (hcc : κ + 3 ≤ cc) (hbg : b ≠ g) (hs : Sl w (some ⟨b, o, none⟩) (κ + 2) c2 vs) (hus : us.length ≤ 1048576)
    (hv1 : 1 ≤ rdl vs (κ + 1)) (hUV : sv us j (κ + 3) < 4294967296 * val vs) (hUV2 : sv us (j + 1) (κ + 2) < val vs) :
    Calls Try.prog 55 #[.slice (some ⟨g, j, none⟩) (κ + 3) cc, .slice (some ⟨b, o, none⟩) (κ + 2) c2] w (StepPost w g c j (κ + 2) us vs) := by
  have hκ := hs.sm
  obtain ⟨b', o', e', _, hcell⟩ := hs.at_ (by omega)
  cases e'
  have HC := Lib.hid hcell
  clear hcell
  have cu0 := hr.cell (i := j + (κ + 2)) (by omega)
  have cu1 := hr.cell (i := j + (κ + 1)) (by omega)
  have cu2 := hr.cell (i := j + κ) (by omega)
  have cv1 := HC.out (κ + 1) (by omega)
  have cv2 := HC.out κ (by omega)
  have bu0 := rdl_bd hr.lm (j + (κ + 2))
  have bu1 := rdl_bd hr.lm (j + (κ + 1))
  have bu2 := rdl_bd hr.lm (j + κ)
  have bv1 := rdl_bd hs.lm (κ + 1)
  have bv2 := rdl_bd hs.lm κ
  obtain ⟨u0, hu0⟩ : ∃ x, rdl us (j + (κ + 2)) = x := ⟨_, rfl⟩
  obtain ⟨u1, hu1⟩ : ∃ x, rdl us (j + (κ + 1)) = x := ⟨_, rfl⟩
  obtain ⟨u2, hu2⟩ : ∃ x, rdl us (j + κ) = x := ⟨_, rfl⟩
  obtain ⟨v1, hv1'⟩ : ∃ x, rdl vs (κ + 1) = x := ⟨_, rfl⟩
  obtain ⟨v2, hv2'⟩ : ∃ x, rdl vs κ = x := ⟨_, rfl⟩
  rw [hu0] at cu0 bu0
  rw [hu1] at cu1 bu1
  rw [hu2] at cu2 bu2
  rw [hv1'] at cv1 bv1 hv1
  rw [hv2'] at cv2 bv2
  have HU0 := Lib.hid hu0
  have HU1 := Lib.hid hu1
  have HU2 := Lib.hid hu2
  have HV1 := Lib.hid hv1'
  have HV2 := Lib.hid hv2'
  clear hu0 hu1 hu2 hv1' hv2'
  have hor := or_u64 (u0 * 4294967296) u1 (by omega) (by omega) (by omega) bu1.1 bu1.2
  have i1 : (0 : Int) ≤ (κ : Int) := by omega
  have i2 : κ ≤ 1048574 := by omega
  have HUV := Lib.hid hUV
  have HUV2 := Lib.hid hUV2
  clear hUV hUV2 hκ hus
  go_enter Try.func55, Try.ntmps55
  go_wp2_with fail
  go_quiet (fail)
  go_wp2_with fail
  have HLF := Lib.hid (lead_facts (j := j) hr.lm hs.lm hs.len (by rw [HV1.out]; exact hv1))
  have HLT := Lib.hid (lead_top (j := j) hr.lm hs.lm hs.len (by rw [HV1.out]; exact hv1) HUV.out)
  have HQS : Hid (QRel (u0 * 4294967296 + u1) v1 (sv us j (κ + 3) / val vs) ((u0 * 4294967296 + u1) / v1) ((u0 * 4294967296 + u1) % v1)) := by
    obtain ⟨f1, f2, f3, f4, f5, f6⟩ := HLF.out
    rw [HU0.out, HU1.out, HU2.out] at f5 f6
    rw [HV1.out, HV2.out] at f3 f4
    have hU0 := sv_nonneg hr.lm j (κ + 3)
    have t0 : 0 ≤ u0 * 4294967296 + u1 := by omega
    refine ⟨Int.ediv_mul_add_emod _ _, Int.emod_nonneg _ (by omega), by have := Int.emod_lt_of_pos (u0 * 4294967296 + u1) (show 0 < v1 by omega); omega, ?_, Int.ediv_nonneg t0 (by omega), ?_⟩
    · refine q_start (P := 4294967296 * pw κ) (by omega) ?_ ?_ (by omega) f2 hU0
      · have : 0 ≤ v2 * pw κ := Int.mul_nonneg bv2.1 (by omega)
        grind
      · have : (u2 + 1) * pw κ ≤ 4294967296 * pw κ := Int.mul_le_mul_of_nonneg_right (by omega) (by omega)
        grind
    · have := Int.ediv_le_self v1 t0
      omega
  have HQT : Hid (0 ≤ sv us j (κ + 3) / val vs ∧ sv us j (κ + 3) / val vs < 4294967296) := by
    obtain ⟨f1, f2, _⟩ := HLF.out
    exact ⟨Int.ediv_nonneg (sv_nonneg hr.lm j (κ + 3)) (by omega), Int.ediv_lt_of_lt_mul f2 HUV.out⟩
  obtain ⟨qt, hqt⟩ : ∃ x, sv us j (κ + 3) / val vs = x := ⟨_, rfl⟩
  rw [hqt] at HQS HQT
  have HQE := Lib.hid hqt
  clear hqt
  go_loopw [7, 8] (fun vq vr wr => ∃ q r : Int, vq = .int .u64 q ∧ vr = .int .u64 r ∧ QRel (u0 * 4294967296 + u1) v1 qt q r ∧ ∃ n, wr = w.drewN n) (fun vq _ _ => (intOf vq).toNat)
  case atStart => exact ⟨_, _, rfl, rfl, HQS.out, ⟨_, rfl⟩⟩
  case round =>
    obtain ⟨q, r, rfl, rfl, hq, nd, rfl⟩ := hrel
    have bq : 0 ≤ q ∧ q < 18446744073709551616 := ⟨hq.2.2.2.2.1, hq.2.2.2.2.2⟩
    have br : 0 ≤ r ∧ r < 8589934592 := ⟨hq.2.1, hq.2.2.1⟩
    have HQ := Lib.hid hq
    clear hq
    have hcases : (r < 4294967296 ∧ decide (r < 4294967296) = true ∧ decide (4294967296 ≤ q) = true ∧ Hid (QRel (u0 * 4294967296 + u1) v1 qt (q - 1) (r + v1)) ∧ 4294967296 ≤ q) ∨
        (r < 4294967296 ∧ decide (r < 4294967296) = true ∧ decide (4294967296 ≤ q) = false ∧ q < 4294967296 ∧ decide (r * 4294967296 + u2 < q * v2) = true ∧ Hid (QRel (u0 * 4294967296 + u1) v1 qt (q - 1) (r + v1)) ∧ 1 ≤ q) ∨
        (r < 4294967296 ∧ decide (r < 4294967296) = true ∧ decide (4294967296 ≤ q) = false ∧ q < 4294967296 ∧ decide (r * 4294967296 + u2 < q * v2) = false ∧ Hid (QEnd (u0 * 4294967296 + u1) v1 v2 u2 qt q)) ∨
        (4294967296 ≤ r ∧ decide (r < 4294967296) = false ∧ True ∧ True ∧ True ∧ Hid (QEnd (u0 * 4294967296 + u1) v1 v2 u2 qt q)) := by
      obtain ⟨f1, f2, f3, f4, f5, f6⟩ := HLF.out
      rw [HU0.out, HU1.out, HU2.out] at f5 f6
      rw [HV1.out, HV2.out] at f3 f4
      have g1 := HLT.out
      rw [HU0.out, HV1.out] at g1
      by_cases hA : r < 4294967296
      · by_cases hB : 4294967296 ≤ q
        · exact .inl ⟨hA, decide_eq_true hA, decide_eq_true hB, HQ.out.down (v2 := v2) (u2 := u2) hA hv1 bv1.2 (by have := HQT.out; omega) HQT.out.1, hB⟩
        · by_cases hC : r * 4294967296 + u2 < q * v2
          · have hlt : qt < q := by
              rw [← HQE.out]
              exact q_test f1 f3 f6 HQ.out.1 hC bq.1 f2
            exact .inr (.inl ⟨hA, decide_eq_true hA, decide_eq_false hB, by omega, decide_eq_true hC, HQ.out.down (v2 := v2) (u2 := u2) hA hv1 bv1.2 hlt HQT.out.1, by have := HQT.out; omega⟩)
          · exact .inr (.inr (.inl ⟨hA, decide_eq_true hA, decide_eq_false hB, by omega, decide_eq_false hC, HQ.out.stop_t (by omega) (by omega)⟩))
      · exact .inr (.inr (.inr ⟨by omega, decide_eq_false hA, trivial, trivial, trivial, HQ.out.stop_r (u1 := u1) (by omega) hv1 bv2.2 bv2.1 bu2.1 (by omega)⟩))
    have hor2 : r < 4294967296 → bits .or .u64 (r * 4294967296) u2 = r * 4294967296 + u2 := fun h => or_u64 (r * 4294967296) u2 (by omega) (by omega) (by omega) bu2.1 bu2.2
    have hm0 : 0 ≤ q * v2 := Int.mul_nonneg bq.1 bv2.1
    have hm1 : q < 4294967296 → q * v2 ≤ 18446744065119617025 := fun h => (mul_bd bq.1 h bv2.1 bv2.2).2
    rcases hcases with ⟨r1, d1, d2, HD, q1⟩ | ⟨r1, d1, d2, q1, d3, HD, q2⟩ | ⟨r1, d1, d2, q1, d3, HE⟩ | ⟨r1, d1, d2, q1, d3, HE⟩
    all_goals try (replace hor2 := hor2 r1)
    all_goals try (replace hm1 := hm1 q1)
    · clear hor2 hm0 hm1
      go_wp2_with fail
      go_quiet (fail)
      go_wp2_with fail
      go_roundw
      case rel => exact ⟨_, _, rfl, rfl, HD.out, ⟨_, rfl⟩⟩
      case measure => simp [intOf]; omega
    · go_wp2_with fail
      go_quiet (fail)
      go_wp2_with fail
      go_roundw
      case rel => exact ⟨_, _, rfl, rfl, HD.out, ⟨_, rfl⟩⟩
      case measure => simp [intOf]; omega
    all_goals
      go_wp2_with fail
      go_quiet (fail)
      go_wp2_with fail
      have b9 : 0 ≤ q ∧ q < 4294967296 := ⟨HE.out.1, HE.out.2.1⟩
      clear d1 d2 d3 r1 q1 hm0 hm1 hor2 br bq
      go_loopw [9, 10, 86] (fun vb vc t wr => ∃ (i : Nat) (c0 b0 : Int) (os : List Int), i ≤ κ + 2 ∧ t = .int .i64 i ∧ vb = .int .u64 b0 ∧ vc = .int .u64 c0 ∧ Only g w wr ∧ Row wr g c os ∧ MsRel us os vs j i q c0 b0) (fun _ _ t _ => κ + 2 - (intOf t).toNat)
      case atStart => exact ⟨0, 0, 0, us, by omega, by simp, rfl, rfl, (Only.refl g w).drewN _, hr.drewN _, MsRel.start us vs j q⟩
      case round =>
        obtain ⟨i, c0, b0, os, hi, rfl, rfl, rfl, ho, hro, hms⟩ := hrel
        have HMS := Lib.hid hms
        have c0b : 0 ≤ c0 ∧ c0 < 4294967296 := ⟨hms.2.1, hms.2.2.1⟩
        have b0b : 0 ≤ b0 ∧ b0 ≤ 1 := ⟨hms.2.2.2.1, hms.2.2.2.2.1⟩
        clear hms
        have hlo := Lib.hid HMS.out.1
        by_cases hik : i < κ + 2
        · have cvi := (ho.cell (i := i) (o := o) hbg).trans (HC.out i hik)
          have cui := hro.cell (i := j + i) (by rw [hlo.out]; omega)
          rw [HMS.out.2.2.2.2.2.2 (j + i) (by omega)] at cui
          have bvi := rdl_bd hs.lm i
          have bui := rdl_bd hr.lm (j + i)
          have hfr := hro.free (j + i)
          have m1 := mul_bd b9.1 b9.2 bvi.1 bvi.2
          go_wp2_with fail
          go_roundw
          case rel => exact ⟨i + 1, _, _, _, by omega, by go_num, rfl, rfl, ho.setCell _ _, hro.set (j + i) (by omega) (by omega), (HMS.out.step hs.lm hr.lm (by omega) b9.1 b9.2 rfl (by rw [wu64, wu64]; omega)).1⟩
          case measure => simp [intOf]; omega
        · obtain rfl : i = κ + 2 := by omega
          have cuk := hro.cell (i := j + (κ + 2)) (by rw [hlo.out]; omega)
          rw [HMS.out.2.2.2.2.2.2 (j + (κ + 2)) (by omega), HU0.out] at cuk
          have hfr := hro.free (j + (κ + 2))
          have HT : Hid (sv us j (κ + 3) - q * val vs = sv os j (κ + 2) + pw (κ + 2) * (u0 - c0 - b0)) := by
            have := HMS.out.total hs.len
            rw [HU0.out] at this
            exact this
          have HVP : Hid (val vs < pw (κ + 2)) := by have := val_lt hs.lm; rw [hs.len] at this; exact this
          by_cases hd : 0 ≤ u0 - c0 - b0
          · have HDone := Lib.hid (step_done (q := q) HLF.out.2.1 HVP.out (sv_nonneg hro.lm j (κ + 2)) hd HT.out (by rw [HQE.out]; exact HE.out.2.2.1))
            have hz : Hid (u0 - c0 - b0 = 0) := HDone.out.2.1
            have e1 : u0 - c0 - b0 ≤ 0 := by have := hz.out; omega
            have e2 : ((u0 - c0 - b0) / 9223372036854775808 == 0) = true := by have := hz.out; rw [this]; rfl
            go_wp2_with fail
            go_ret
            refine ⟨_, congrArg (fun z => Ending.returned (.int .u32 z)) HDone.out.1, ho.setCell _ _, by rw [List.length_set]; exact hlo.out, hro.set _ (by omega) (by omega), ?_, ?_, fun m hm => ?_⟩
            · rw [sv_congr (us' := os) (fun m h1 h2 => rdl_set_ne (by omega) _)]; exact HDone.out.2.2
            · rw [rdl_set_eq (by rw [hlo.out]; exact hjk)]; have := hz.out; omega
            · rw [rdl_set_ne (by omega)]; exact HMS.out.2.2.2.2.2.2 m (by omega)
          · have HBack := Lib.hid (step_back (q := q) HLF.out.2.1 HVP.out (sv_nonneg hro.lm j (κ + 2)) (sv_lt hro.lm j (κ + 2)) (sv_nonneg hr.lm j (κ + 3)) (by omega) HT.out (by rw [HQE.out]; exact HE.out.2.2.1)
              (by
                obtain ⟨f1, f2, f3, f4, f5, f6⟩ := HLF.out
                rw [HU0.out, HU1.out, HU2.out] at f5
                rw [HV1.out, HV2.out] at f4
                exact q_end f1 f4 f5 hv1 bv2.1 f2 (sv_nonneg hr.lm j (κ + 3)) HUV.out (by rw [HQE.out]; exact HE.out)))
            have hneg : Hid (u0 - c0 - b0 = -1) := HBack.out.2.1
            have hq1 : 1 ≤ q := by have := HBack.out.1; have := HQT.out; have := HQE.out; omega
            have hw : IntKind.u64.wrap (IntKind.u64.wrap (u0 - c0) - b0) = 18446744073709551615 := by rw [wu64, wu64]; have := hneg.out; omega
            clear hd
            go_wp2_with fail
            have hro2 := hro.set (j + (κ + 2)) (v := 4294967295) (by omega) (by omega)
            have ho2 := ho.setCell (j + (κ + 2)) (.int .u32 4294967295)
            have hl2 : Hid ((os.set (j + (κ + 2)) 4294967295).length = us.length) := by unfold Hid; rw [List.length_set]; exact hlo.out
            have hsm2 : ∀ m, m < j ∨ j + (κ + 2) < m → rdl (os.set (j + (κ + 2)) 4294967295) m = rdl us m := fun m hm => by rw [rdl_set_ne (by omega)]; exact HMS.out.2.2.2.2.2.2 m (by omega)
            have HSM := Lib.hid hsm2
            have hsv2 : Hid (sv (os.set (j + (κ + 2)) 4294967295) j (κ + 2) = sv os j (κ + 2)) := sv_congr (fun m h1 h2 => rdl_set_ne (by omega) _)
            have hlm2 := hro2.lm
            have HL9 := Lib.hid (rdl_set_eq (xs := os) (i := j + (κ + 2)) (by rw [hlo.out]; exact hjk) 4294967295)
            clear hsm2
            generalize os.set (j + (κ + 2)) 4294967295 = os2 at *
            generalize hW : wr.setCell ⟨g, j + (κ + 2), none⟩ (.int .u32 4294967295) = wb at *
            go_loopw [10, 140] (fun vc t wr => ∃ (i : Nat) (c3 : Int) (os3 : List Int), i ≤ κ + 2 ∧ t = .int .i64 i ∧ vc = .int .u64 c3 ∧ Only g w wr ∧ Row wr g c os3 ∧ AbRel os2 os3 vs j i c3) (fun _ t _ => κ + 2 - (intOf t).toNat)
            case atStart => exact ⟨0, 0, os2, by omega, by simp, rfl, ho2, hro2, AbRel.start os2 vs j⟩
            case round =>
              obtain ⟨i, c3, os3, hi3, rfl, rfl, ho3, hro3, hab⟩ := hrel
              have HAB := Lib.hid hab
              have c3b : 0 ≤ c3 ∧ c3 ≤ 1 := ⟨hab.2.1, hab.2.2.1⟩
              have hl3 := Lib.hid (hab.1.trans hl2.out)
              clear hab
              by_cases hik : i < κ + 2
              · have cvi := (ho3.cell (i := i) (o := o) hbg).trans (HC.out i hik)
                have cui := hro3.cell (i := j + i) (by rw [hl3.out]; omega)
                rw [HAB.out.2.2.2.2 (j + i) (by omega)] at cui
                have bvi := rdl_bd hs.lm i
                have bui := rdl_bd hlm2 (j + i)
                have hfr := hro3.free (j + i)
                have i3 : (i : Int) < (κ : Int) + 2 := by omega
                have i4 : (0 : Int) ≤ (i : Int) := by omega
                have i5 : (i : Int) < (κ : Int) + 3 := by omega
                go_wp2_with fail
                go_quiet (fail)
                go_wp2_with fail
                go_roundw
                case rel => exact ⟨i + 1, _, _, by omega, by go_num, rfl, (ho3.drewN _).setCell _ _, (hro3.drewN _).set (j + i) (by omega) (by omega), HAB.out.step hs.lm hlm2 (by rw [hl2.out]; omega) rfl⟩
                case measure => simp [intOf]; omega
              · obtain rfl : i = κ + 2 := by omega
                have HE2 := Lib.hid (back_end (S := sv os j (κ + 2)) (S2 := sv os3 j (κ + 2)) (c := c3) HBack.out.2.2 (by
                  have h4 := HAB.out.2.2.2.1
                  rw [val_take_all (xs := vs) (by rw [hs.len]; exact Nat.le_refl _), hsv2.out] at h4
                  exact h4) (Int.emod_nonneg _ (by have := HLF.out.2.1; omega)) (by have := Int.emod_lt_of_pos (sv us j (κ + 3)) HLF.out.2.1; have := HVP.out; omega) (sv_nonneg hro3.lm j (κ + 2)) (sv_lt hro3.lm j (κ + 2)) c3b.1 c3b.2)
                obtain rfl : c3 = 1 := HE2.out.1
                have cuk := hro3.cell (i := j + (κ + 2)) (by rw [hl3.out]; omega)
                rw [HAB.out.2.2.2.2 (j + (κ + 2)) (by omega)] at cuk
                rw [HL9.out] at cuk
                have hfr := hro3.free (j + (κ + 2))
                go_wp2_with fail
                go_ret
                refine ⟨_, congrArg (fun z => Ending.returned (.int .u32 z)) (show q - 1 = sv us j (κ + 3) / val vs from (by have := HBack.out.1; omega)), ho3.setCell _ _, by rw [List.length_set]; exact hl3.out, hro3.set _ (by omega) (by omega), ?_, ?_, fun m hm => ?_⟩
                · rw [sv_congr (us' := os3) (fun m h1 h2 => rdl_set_ne (by omega) _)]; exact HE2.out.2
                · rw [rdl_set_eq (by rw [hl3.out]; exact hjk)]
                · rw [rdl_set_ne (by omega), HAB.out.2.2.2.2 m (by omega)]; exact HSM.out m (by omega)
end Go.Proofs.Ytaaolnepkgcbaaa
