/- nat.Sub, ref.Sub. -/
import Derived.Test.YtaaolnepkgcbaaaCmp
namespace Go.Proofs.Ytaaolnepkgcbaaa
open Go.RowKit Lb
set_option linter.unusedVariables false

/-- nat.Sub's loop. -/
def SubRel (w : World) (g c q : Nat) (zs ys : List Int) (k : Nat) (br : Int) (wr : World) : Prop :=
  0 ≤ br ∧ br ≤ 1 ∧ Below w.heap.size w wr ∧ ∃ os, os.length = q ∧ Row wr g c os ∧ val (os.take k) - pw k * br = val (zs.take k) - val (ys.take k) ∧ ∀ j, k ≤ j → rdl os j = rdl zs j
theorem wu64 (n : Int) : IntKind.u64.wrap n = n % 18446744073709551616 := by simp [IntKind.wrap, IntKind.bits, IntKind.signed]
theorem SubRel.step {w wr : World} {g c q : Nat} {zs ys os : List Int} {k : Nat} {br D : Int} (h0 : 0 ≤ br) (h1 : br ≤ 1) (hb : Below w.heap.size w wr) (hl : os.length = q) (hr : Row wr g c os) (hg : w.heap.size ≤ g) (hk : k < q)
    (hz : Lm zs) (hy : Lm ys) (inv : val (os.take k) - pw k * br = val (zs.take k) - val (ys.take k)) (same : ∀ j, k ≤ j → rdl os j = rdl zs j) (hD : D = (rdl zs k - br - rdl ys k) % 18446744073709551616) :
    SubRel w g c q zs ys (k + 1) (D / 9223372036854775808) (wr.setCell ⟨g, k, none⟩ (.int .u32 (D % 4294967296))) := by
  have b1 := rdl_bd hz k
  have b2 := rdl_bd hy k
  refine ⟨by omega, by omega, hb.setCell (p := ⟨g, k, none⟩) hg _, _, by rw [List.length_set]; exact hl, hr.set k (by omega) (by omega), minus_step (by omega) inv (by omega), fun j hj => ?_⟩
  rw [rdl_set_ne (by omega)]
  exact same j (by omega)

set_option maxHeartbeats 1000000 in
theorem sub_lt (a b : Option Addr) (n c m d : Nat) (xs ys : List Int) (w : World) (h : Sl w a n c xs) (h' : Sl w b m d ys) (hlt : val xs < val ys) :
    Calls Try.prog 33 #[.slice a n c, .slice b m d] w fun e w' => e = .returned (.tuple #[.slice none 0 0, .int .i64 6]) ∧ Below w.heap.size w w' := by
  have hcm : cmpv (val xs) (val ys) < 0 := by rw [cmpv_lt hlt]; decide
  clear hlt
  go_enter Try.func33, Try.ntmps33
  go_wp2_with fail
  refine (cmp_any _ _ _ _ _ _ _ _ _ h h').mono ?_
  rintro e w1 ⟨rfl, hb⟩
  go_wp2_with fail
  go_ret2
  exact ⟨rfl, hb⟩

/-- A number and OK. -/
def Ret2 (w : World) (p : List Int → Prop) (e : Ending) (w' : World) : Prop :=
  ∃ a n c xs, e = .returned (.tuple #[.slice a n c, .int .i64 0]) ∧ Got w p a n c xs w'

set_option maxHeartbeats 1000000 in
theorem sub_ge (a b : Option Addr) (n c m d : Nat) (xs ys : List Int) (w : World) (h : Sl w a n c xs) (h' : Sl w b m d ys) (hge : val ys ≤ val xs) :
    Calls Try.prog 33 #[.slice a n c, .slice b m d] w (Ret2 w (Num (val xs - val ys) n)) := by
  have hcm : 0 ≤ cmpv (val xs) (val ys) := by have := @cmpv_neg (val xs) (val ys); omega
  have HG := Lib.hid hge
  clear hge
  go_enter Try.func33, Try.ntmps33
  go_wp2_with fail
  refine (cmp_any _ _ _ _ _ _ _ _ _ h h').mono ?_
  rintro e w1 ⟨rfl, hb⟩
  have s1 := h.kept hb
  go_wp2_with fail
  refine (trim_own _ _ _ _ _ s1).mono ?_
  rintro e w2 ⟨v, zs, rfl, hown, hb2, hzl, hzc, hzv, hzn⟩
  have HZ := Lib.hid hzv
  have HC := Lib.hid hzc
  clear hzv hzc
  have hbb := chain hb hb2
  rcases Nat.eq_zero_or_pos zs.length with h0 | h0
  · obtain rfl : zs = [] := List.eq_nil_of_length_eq_zero h0
    obtain ⟨a3, c3, rfl, s3⟩ := hown.sl (by omega)
    have E0 : Hid (val xs - val ys = 0) := by
      have e1 : (0 : Int) = val xs := HZ.out
      have := val_nonneg h'.lm
      have := HG.out
      unfold Hid
      omega
    go_wp2_with fail
    go_loopw [7, 18] (fun t u wr => t = .int .u64 0 ∧ u = .int .i64 0 ∧ wr = w2) (fun _ _ _ => 0)
    case atStart => exact ⟨rfl, rfl, rfl⟩
    case round =>
      obtain ⟨rfl, rfl, rfl⟩ := hrel
      go_wp2_with fail
      refine (short_sl _ _ _ _ _ s3).mono ?_
      rintro e w3 ⟨p, us, rfl, rfl, hu, hp, hcu, hvu⟩
      have HV := Lib.hid hvu
      clear hvu
      go_wp2_with fail
      go_ret2
      exact ⟨_, _, _, us, rfl, hu, hbb, hcu, by rw [HV.out, E0.out]; rfl, by rw [hu.len]; simp at hp; omega⟩
  · obtain ⟨g, c3, rfl, hgB, hrow⟩ := hown.row h0
    have hgw : w.heap.size ≤ g := Nat.le_trans hb.size hgB
    obtain ⟨q, hq⟩ : ∃ q, zs.length = q := ⟨_, rfl⟩
    have hzlm := hrow.lm
    rw [hq] at h0 hzl hzn ⊢
    have HQ := Lib.hid hq
    clear hq hown
    go_wp2_with fail
    go_loopw [7, 18] (fun cv t wr => ∃ (k : Nat) (br : Int), k ≤ q ∧ t = .int .i64 k ∧ cv = .int .u64 br ∧ SubRel w g c3 q zs ys k br wr) (fun _ t _ => q - (intOf t).toNat)
    case atStart => exact ⟨0, 0, by omega, by simp, rfl, by omega, by omega, hbb, zs, HQ.out, hrow, by simp [val], fun _ _ => rfl⟩
    case round =>
      obtain ⟨k, br, hk, rfl, rfl, hc0, hc1, hb3, os, hl, hr, inv, hsame⟩ := hrel
      have INV := Lib.hid inv
      have HL := Lib.hid hl
      have HS := Lib.hid hsame
      clear inv hl hsame
      have g2 := h'.kept hb3
      by_cases hkq : k < q
      · have hoc := hr.cell (i := k) (by rw [HL.out]; omega)
        rw [HS.out k (Nat.le_refl _)] at hoc
        have hfr := hr.free k
        have bz := rdl_bd hzlm k
        by_cases hkm : k < m
        · obtain ⟨b2, o2, rfl, hlt2, hcell2⟩ := g2.at_ (by omega)
          have hck2 := hcell2 k hkm
          have by_ := rdl_bd h'.lm k
          clear hcell2
          go_wp2_with fail
          go_roundw
          case rel => exact ⟨k + 1, _, by omega, by go_num, rfl, SubRel.step hc0 hc1 hb3 HL.out hr hgw hkq hzlm h'.lm INV.out HS.out (by rw [wu64, wu64]; omega)⟩
          case measure => simp [intOf]; omega
        · have hz := Lib.hid (rdl_out (xs := ys) (i := k) (by rw [h'.len]; omega))
          go_wp2_with fail
          go_roundw
          case rel => exact ⟨k + 1, _, by omega, by go_num, rfl, SubRel.step hc0 hc1 hb3 HL.out hr hgw hkq hzlm h'.lm INV.out HS.out (by rw [wu64, hz.out]; omega)⟩
          case measure => simp [intOf]; omega
      · obtain rfl : k = q := by omega
        have E0 : Hid (val os = val xs - val ys) := by
          have := minus_end hr.lm hzlm h'.lm HL.out HQ.out hc0 hc1 (by rw [HZ.out]; exact HG.out) (by have := INV.out; rwa [val_take_all (xs := os) (by rw [HL.out]; exact Nat.le_refl _)] at this)
          rw [HZ.out] at this
          exact this
        go_wp2_with fail
        refine (short_sl _ _ _ _ _ (hr.sl HL.out hzl)).mono ?_
        rintro e w3 ⟨p, us, rfl, rfl, hu, hp, hcu, hvu⟩
        have HV := Lib.hid hvu
        clear hvu
        go_wp2_with fail
        go_ret2
        exact ⟨_, _, _, us, rfl, hu, hb3, hcu, by rw [HV.out, E0.out], by rw [hu.len]; omega⟩

/-- ref.Sub's loop. -/
def RSubRel (w : World) (n : Nat) (xs ys : List Int) (k : Nat) (br : Int) (v : Value) (wr : World) : Prop :=
  0 ≤ br ∧ br ≤ 1 ∧ Below w.heap.size w wr ∧ ∃ os, os.length = k ∧ Own wr w.heap.size v os ∧ val os - pw k * br = val (xs.take k) - val (ys.take k)
theorem RSubRel.step {w w1 : World} {n k : Nat} {xs ys os : List Int} {br s : Int} {v' : Value} (h0 : 0 ≤ br) (h1 : br ≤ 1) (hb : Below w.heap.size w w1) (hl : os.length = k) (hown : Own w1 w.heap.size v' (os ++ [s % 4294967296]))
    (hx : Lm xs) (hy : Lm ys) (inv : val os - pw k * br = val (xs.take k) - val (ys.take k)) (hs : s = rdl xs k + 4294967296 - rdl ys k - br) :
    RSubRel w n xs ys (k + 1) (1 - s / 4294967296) v' w1 := by
  have b1 := rdl_bd hx k
  have b2 := rdl_bd hy k
  exact ⟨by omega, by omega, hb, _, by simp [hl], hown, minus_snoc hl inv (by omega)⟩

set_option maxHeartbeats 1000000 in
theorem rsub_any (a b : Option Addr) (n c m d : Nat) (xs ys : List Int) (w : World) (h : Sl w a n c xs) (h' : Sl w b m d ys) (hge : val ys ≤ val xs) :
    Calls Try.prog 37 #[.slice a n c, .slice b m d] w (Ret w (Num (val xs - val ys) n)) := by
  have sn := h.sm
  have HG := Lib.hid hge
  clear hge
  go_enter Try.func37, Try.ntmps37
  go_wp2_with fail
  go_loopw [5, 6, 7] (fun v cv t wr => ∃ (k : Nat) (br : Int), k ≤ n ∧ t = .int .i64 k ∧ cv = .int .u64 br ∧ RSubRel w n xs ys k br v wr) (fun _ _ t _ => n - (intOf t).toNat)
  case atStart => exact ⟨0, 0, by omega, by simp, rfl, by omega, by omega, Below.refl _ _, [], rfl, Own.nil _ _, by simp [val]⟩
  case round =>
    obtain ⟨k, br, hk, rfl, rfl, hc0, hc1, hb, os, hl, hown, inv⟩ := hrel
    have INV := Lib.hid inv
    have HL := Lib.hid hl
    clear inv hl
    have g1 := h.kept hb
    have g2 := h'.kept hb
    have bx := rdl_bd h.lm k
    have by_ := rdl_bd h'.lm k
    by_cases hkn : k < n
    · go_wp2_with fail
      refine (limb_any _ _ _ _ _ _ g1 (by omega)).mono ?_
      rintro e w2 ⟨rfl, rfl⟩
      rw [Int.toNat_natCast]
      go_wp2_with fail
      refine (limb_any _ _ _ _ _ _ g2 (by omega)).mono ?_
      rintro e w2 ⟨rfl, rfl⟩
      rw [Int.toNat_natCast]
      go_wp2_with (at_builtin; refine wpList_append_limbs _ rfl _ _ rfl w.heap.size _ os rfl (hown.alloc _) _ _ _ _ rfl (sl_one _ _ (by omega)) ?_ ?_ ?_)
      · rw [HL.out]; omega
      · have := hb.size; simp; omega
      intro v' w1 hown1 hbw
      have hb2 := (chain_alloc hb _).trans hbw
      go_wp2_with fail
      go_roundw
      case rel => exact ⟨k + 1, _, by omega, by go_num, rfl, RSubRel.step hc0 hc1 hb2 HL.out hown1 h.lm h'.lm INV.out rfl⟩
      case measure => simp [intOf]; omega
    · obtain rfl : k = n := by omega
      have E0 : Hid (val os = val xs - val ys) := minus_end hown.2 h.lm h'.lm HL.out h.len hc0 hc1 HG.out INV.out
      obtain ⟨a3, c3, rfl, s3⟩ := hown.sl (by rw [HL.out]; omega)
      go_wp2_with fail
      refine (rtrim_any _ _ _ _ _ s3).mono ?_
      rintro e w4 ⟨a4, n4, c4, x4, rfl, g4⟩
      go_wp2_with fail
      go_ret
      exact ⟨a4, n4, c4, x4, rfl, g4.sl, chain hb g4.bel, g4.prop.1, by rw [g4.prop.2.1, E0.out], by have := g4.prop.2.2; have := HL.out; omega⟩

end Go.Proofs.Ytaaolnepkgcbaaa
