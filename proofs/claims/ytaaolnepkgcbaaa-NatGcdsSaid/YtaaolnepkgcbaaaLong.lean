/- nat.long: long division by at least two limbs. -/
import Derived.Test.YtaaolnepkgcbaaaShift
import Derived.Test.YtaaolnepkgcbaaaMathL
import Derived.BigRegion
namespace Go.Proofs.Ytaaolnepkgcbaaa
open Go.RowKit Lb
set_option linter.unusedVariables false

theorem Sl.only {g b o n c : Nat} {w w' : World} {xs : List Int} (h : Sl w (some ⟨b, o, none⟩) n c xs) (ho : Only g w w') (hb : b ≠ g) : Sl w' (some ⟨b, o, none⟩) n c xs := by
  refine ⟨h.len, h.le, h.nil, h.sm, h.lm, fun h0 => ?_⟩
  obtain ⟨b', o', e, hlt, hc⟩ := h.at_ h0
  cases e
  exact ⟨b, o, rfl, Nat.lt_of_lt_of_le hlt ho.size, fun i hi => (ho.cell hb).trans (hc i hi)⟩
theorem Only.drew {g : Nat} {a w : World} (h : Only g a w) : Only g a w.drew := ⟨h.os, h.tape, h.output, h.size, h.block⟩
theorem Row.drew {w : World} {g c : Nat} {xs : List Int} (h : Row w g c xs) : Row w.drew g c xs := h
theorem bits_or_comm (k : IntKind) (x y : Int) : bits .or k x y = bits .or k y x := by
  simp only [bits]
  rw [BitVec.or_comm]

/-- long's result. -/
def LongPost (w : World) (A B : Int) (n m : Nat) (e : Ending) (w' : World) : Prop :=
  ∃ a1 n1 c1 qs a2 n2 c2 rs, e = .returned (.tuple #[.slice a1 n1 c1, .slice a2 n2 c2]) ∧ Sl w' a1 n1 c1 qs ∧ Sl w' a2 n2 c2 rs ∧ Below w.heap.size w w' ∧ val qs = A / B ∧ val rs = A % B ∧ n1 ≤ n ∧ n2 ≤ m

/-- long's first loop: jj limbs are still to come. -/
def LongRel (gu gq κ μ : Nat) (V T : Int) (jj : Nat) (wr : World) : Prop :=
  ∃ us qs, us.length = κ + 2 + μ + 1 ∧ qs.length = μ + 1 ∧ Row wr gu (κ + 2 + μ + 1) us ∧ Row wr gq (μ + 1) qs ∧ T = V * (pw jj * val (qs.drop jj)) + val us ∧ (∀ m, jj + (κ + 2) ≤ m → rdl us m = 0) ∧ sv us jj (κ + 2) < V

set_option maxHeartbeats 4000000 in
set_option maxRecDepth 100000 in
theorem longdiv_any (a : Option Addr) (κ μ c d b o : Nat) (xs ys : List Int) (w : World) (h : Sl w a (κ + 2 + μ) c xs) (h' : Sl w (some ⟨b, o, none⟩) (κ + 2) d ys) (hcy : Cn ys) (hn : κ + μ ≤ 1000000) :
    Calls Try.prog 49 #[.slice a (κ + 2 + μ) c, .slice (some ⟨b, o, none⟩) (κ + 2) d] w (LongPost w (val xs) (val ys) (κ + 2 + μ) (κ + 2)) := by
  obtain ⟨b', o', e', _, hcell⟩ := h'.at_ (by omega)
  cases e'
  have cb1 := hcell (κ + 1) (by omega)
  have bb1 := rdl_bd h'.lm (κ + 1)
  have hb0 := cn_top hcy h'.len
  have HB0 := Lib.hid hb0
  have HCY := Lib.hid hcy
  clear hcell hb0 hcy
  go_enter Try.func49, Try.ntmps49
  go_wp2_with fail
  refine (lead_any _ _ bb1.1 bb1.2).mono ?_
  rintro e w1 ⟨r, hr, hr32, rfl, rfl⟩
  have hr1 : 1 ≤ r := by
    apply Nat.one_le_iff_ne_zero.2
    intro h0
    subst h0
    have := hr.1
    have := HB0.out
    simp at this
    omega
  have HR := Lib.hid hr
  obtain ⟨s, hs⟩ : ∃ s : Nat, (32 : Int) - (r : Int) = (s : Int) := ⟨32 - r, by omega⟩
  have hs31 : s ≤ 31 := by omega
  have HSR : Hid (s + r = 32) := by unfold Hid; omega
  clear hr hr32 hr1
  go_wp2_with fail
  refine (shift_any _ _ _ _ s _ h' hs31 (by omega)).mono ?_
  rintro e w2 ⟨vs0, rfl, hvl, hvr, hvb, hvv, _⟩
  have hv0 := hvr.sl hvl (by omega)
  have HVV := Lib.hid hvv
  clear hvl hvv
  go_wp2_with fail
  refine (short_sl _ _ _ _ _ hv0).mono ?_
  rintro e w3 ⟨m, vs, rfl, hw3, hv, hm, hcv, hvv2⟩
  subst hw3
  have HV : Hid (val vs = 2 ^ s * val ys) := by unfold Hid; rw [hvv2, HVV.out]
  have HNF := Lib.hid (norm_facts (r := r) h'.lm h'.len HR.out.1 (HR.out.2.resolve_left (by have := HSR.out; omega)) (by have := HSR.out; omega) HSR.out hv.lm hcv HV.out)
  obtain rfl : m = κ + 2 := by have := HNF.out.1; rw [hv.len] at this; exact this
  clear hcv hvv2 hm
  go_wp2_with fail
  refine (shift_any _ _ _ _ s _ (h.kept hvb) hs31 (by omega)).mono ?_
  rintro e w4 ⟨us, rfl, hul, hur, hub, huv, hutop⟩
  have HUV := Lib.hid huv
  have HUL := Lib.hid hul
  have HUT := Lib.hid hutop
  clear huv hul hutop
  have hv4 := hv.kept hub
  obtain ⟨bv, ov, ev, hbv, _⟩ := hv.at_ (by omega)
  cases ev
  obtain ⟨gu, hgu⟩ : ∃ gu, gu = w2.heap.size := ⟨_, rfl⟩
  rw [← hgu] at hur hbv ⊢
  have hguw : w.heap.size ≤ gu := by have := hvb.size; omega
  have hgu4 : gu < w4.heap.size := hur.lt
  clear hgu
  go_wp2_with (at_make; refine wpList_make_limbs _ rfl _ _ rfl (μ + 1) _ _ rfl rfl ?_ ?_ (by omega) ?_)
  · omega
  · omega
  intro w5 hqr hb5
  obtain ⟨gq, hgq⟩ : ∃ gq, gq = w4.heap.size := ⟨_, rfl⟩
  rw [← hgq] at hqr ⊢
  have hgqu : gu < gq := by omega
  have hgq5 : gq < w5.heap.size := hqr.lt
  have hur5 := hur.below hb5 hgu4
  have hv5 := hv4.kept hb5
  have hbb : Below w.heap.size w w5 := chain (chain hvb hub) hb5
  clear hgq hur hv hv4 hv0 hvr
  have hκ2 : κ ≤ 1000000 := by omega
  have hμ2 : μ ≤ 1000000 := by omega
  have hVpos : Hid (0 < val vs) := by
    have h1 := HNF.out.2
    have h2 := lead_facts (us := us) (j := 0) (κ := κ) (Lm.nil |> fun _ => hur5.lm) hv5.lm hv5.len (by omega)
    exact h2.2.1
  have hv1 := Lib.hid HNF.out.2
  have HN := Lib.hid hn
  clear hn
  go_wp2_with fail
  go_loopw [10] (fun t wr => ∃ jj : Nat, jj ≤ μ + 1 ∧ t = .int .i64 ((jj : Int) - 1) ∧ Below w.heap.size w wr ∧ Sl wr (some ⟨w.heap.size, 0, none⟩) (κ + 2) (κ + 2) vs ∧ gq < wr.heap.size ∧ LongRel gu gq κ μ (val vs) (val us) jj wr) (fun t _ => (intOf t + 1).toNat)
  case atStart =>
    refine ⟨μ + 1, Nat.le_refl _, congrArg (Value.int .i64) (by omega), hbb, hv5, hgq5, us, _, HUL.out, by simp, hur5, hqr, ?_, fun m hm => rdl_out (by rw [HUL.out]; omega), ?_⟩
    · rw [List.drop_of_length_le (by simp)]; simp [val]
    · refine lead_start hur5.lm hv5.lm hv5.len ?_
      have := HUT.out
      have := (two31 s hs31).2
      have := hv1.out
      rw [show μ + 1 + (κ + 1) = κ + 2 + μ by omega]
      omega
  case round =>
    obtain ⟨jj, hjj, rfl, hbr, hvr, hgqr, us', qs', hul', hql', hur', hqr', inv, hz, hlt⟩ := hrel
    have HUL' := Lib.hid hul'
    have HQL' := Lib.hid hql'
    have INV := Lib.hid inv
    have HZ := Lib.hid hz
    have HLT := Lib.hid hlt
    clear hul' hql' inv hz hlt
    cases jj with
    | zero =>
      have HEND := Lib.hid (long_end (A := val xs) (b := val ys) (p := 2 ^ s) (two31 s hs31).1 (Cn.pos h'.lm HCY.out (by intro e; have := h'.len; rw [e] at this; simp at this)) HUV.out HV.out (show val us = val vs * val qs' + val us' by have := INV.out; simpa [pw] using this) (val_nonneg hur'.lm)
        (by rw [val_above (e := κ + 2) (fun m hm => HZ.out m (by omega))]; exact HLT.out))
      have HZ0 : Hid (∀ m, κ + 2 ≤ m → rdl us' m = 0) := fun m hm => HZ.out m (by omega)
      clear INV HZ HLT hv1
      go_wp2_with (at_make; refine wpList_make_limbs _ rfl _ _ rfl (κ + 2) _ _ rfl rfl ?_ ?_ (by omega) ?_)
      · simp
      · simp
      intro w6 hrr hb6
      obtain ⟨gr, hgr⟩ : ∃ gr, gr = wr.heap.size := ⟨_, rfl⟩
      rw [← hgr] at hrr ⊢
      have hgrq : gq < gr := by omega
      have hgrw : w.heap.size ≤ gr := by omega
      have hur6 := hur'.below hb6 (by omega)
      have hqr6 := hqr'.below hb6 (by omega)
      have hb6' := chain hbr hb6
      clear hgr
      go_wp2_with fail
      go_loopw [58] (fun t wq => ∃ (i : Nat) (rs : List Int), i ≤ κ + 2 ∧ t = .int .i64 i ∧ Only gr w6 wq ∧ rs.length = κ + 2 ∧ Row wq gr (κ + 2) rs ∧ RemRel us' rs s i) (fun t _ => κ + 2 - (intOf t).toNat)
      case atStart => exact ⟨0, _, by omega, by simp, Only.refl _ _, by simp, hrr, RemRel.start ..⟩
      case round =>
        obtain ⟨i, rs, hi, rfl, ho, hrl, hro, hrem⟩ := hrel
        have HRL := Lib.hid hrl
        have HREM := Lib.hid hrem
        have hu7 := hur6.only ho (by omega)
        have hq7 := hqr6.only ho (by omega)
        clear hrl hrem
        by_cases hik : i < κ + 2
        · have c0 := hu7.cell (i := i) (by rw [HUL'.out]; omega)
          have c1 := hu7.cell (i := i + 1) (by rw [HUL'.out]; omega)
          have bu0 := rdl_bd hur'.lm i
          have bu1 := rdl_bd hur'.lm (i + 1)
          have hfr := hro.free i
          have hoc := hro.cell (i := i) (by rw [HRL.out]; exact hik)
          have hor : bits .or .u64 (rdl us' i) (rdl us' (i + 1) * 4294967296) = rdl us' i + rdl us' (i + 1) * 4294967296 := by
            rw [bits_or_comm, or_u64 _ _ (by omega) (by omega) (by omega) bu0.1 bu0.2, Int.add_comm]
          have i1 : (0 : Int) ≤ (i : Int) := by omega
          have i2 : (i : Int) < (κ : Int) + 2 := by omega
          go_wp2_with fail
          go_region
          go_wp2_with fail
          go_roundw
          case rel =>
            have hpq : (2 : Int) ^ s * 2 ^ (32 - s) = 4294967296 := by rw [← Int.pow_add, show s + (32 - s) = 32 by omega]; rfl
            obtain ⟨d0, d1, _⟩ := shr_limb (two31 s hs31).1 (pow2_pos (32 - s)) hpq bu0.1 bu0.2 bu1.1
            exact ⟨i + 1, _, by omega, by go_num, (ho.setCell _ _).drew, by rw [List.length_set]; exact HRL.out, (hro.set i d0 d1).drew, HREM.out.step (by rw [HRL.out]; exact hik) hur'.lm (pow2_pos (32 - s)) hpq rfl⟩
          case measure => simp [intOf]; omega
        · obtain rfl : i = κ + 2 := by omega
          have HVR := Lib.hid (HREM.out.done HRL.out HZ0.out HEND.out.2 (by omega))
          go_wp2_with fail
          go_ret2
          exact ⟨_, _, _, qs', _, _, _, rs, rfl, hq7.sl HQL'.out (by omega), hro.sl HRL.out (by omega), hb6'.trans (ho.below hgrw), HEND.out.1, HVR.out, by omega, by omega⟩
    | succ j =>
      have hlen : j + (κ + 2) + 1 - j = κ + 3 := by omega
      go_wp2_with fail
      refine (step_any gu _ j κ _ 0 _ _ us' vs wr hur' (by rw [HUL'.out]; omega) (by omega) (by omega) hvr (by rw [HUL'.out]; have := HN.out; omega) (by have := hv1.out; omega) (long_pre hur'.lm HLT.out) HLT.out).mono ?_
      rintro e w6 ⟨os, rfl, ho, hol, hor, hsv, hz0, hoth⟩
      have HST := Lib.hid (Lb.long_step (j := j) (k := κ + 2) (qs := qs') (by rw [HQL'.out]; omega) hVpos.out INV.out HZ.out hsv hz0 hoth)
      have HOL : Hid (os.length = κ + 2 + μ + 1) := hol.trans HUL'.out
      have hq6 := hqr'.only ho (by omega)
      have hv6 := hvr.only ho (by omega)
      have hb6 := hbr.trans (ho.below hguw)
      have hg6 : gq < w6.heap.size := hq6.lt
      have qb : 0 ≤ sv us' j (κ + 2 + 1) / val vs ∧ sv us' j (κ + 2 + 1) / val vs < 4294967296 := ⟨Int.ediv_nonneg (sv_nonneg hur'.lm j (κ + 2 + 1)) (by have := hVpos.out; omega), Int.ediv_lt_of_lt_mul hVpos.out (long_pre hur'.lm HLT.out)⟩
      have hfr := hq6.free j
      have hoc := hq6.cell (i := j) (by rw [HQL'.out]; omega)
      clear hsv hz0 hoth hol hlen
      generalize sv us' j (κ + 2 + 1) / val vs = q at *
      go_wp2_with fail
      go_roundw
      case rel =>
        have hset := (Only.refl gq w6).setCell j (.int .u32 q)
        exact ⟨j, by omega, by simp, hb6.setCell (p := ⟨gq, j, none⟩) (show w.heap.size ≤ gq by omega) _, hv6.only hset (by omega), Nat.lt_of_lt_of_le hg6 hset.size, os, _, HOL.out, by rw [List.length_set]; exact HQL'.out, hor.only hset (by omega), hq6.set j qb.1 qb.2, HST.out.1, HST.out.2.1, HST.out.2.2⟩
      case measure => simp [intOf]
end Go.Proofs.Ytaaolnepkgcbaaa
