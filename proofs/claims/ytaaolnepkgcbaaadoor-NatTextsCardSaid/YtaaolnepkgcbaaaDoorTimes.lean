/- nat.times, nat.Mul; ref.Mul. -/
import Derived.Test.YtaaolnepkgcbaaaDoorPlus
namespace Go.Proofs.YtaaolnepkgcbaaaDoor
open Go.RowKit Lb
set_option linter.unusedVariables false

theorem mul_bd {x y : Int} (hx0 : 0 ≤ x) (hx : x < 4294967296) (hy0 : 0 ≤ y) (hy : y < 4294967296) : 0 ≤ x * y ∧ x * y ≤ 18446744065119617025 := by
  refine ⟨Int.mul_nonneg hx0 hy0, ?_⟩
  have := Int.mul_le_mul (show x ≤ 4294967295 by omega) (show y ≤ 4294967295 by omega) hy0 (by omega)
  simpa using this

/-- The outer loop: i limbs of xs are done. -/
def OutRel (w : World) (g n m : Nat) (xs ys : List Int) (i : Nat) (wr : World) : Prop :=
  Below w.heap.size w wr ∧ ∃ os, os.length = n + m ∧ Row wr g (n + m) os ∧ val (os.take (i + m)) = val (xs.take i) * val ys
/-- The inner loop: of limb i of xs, j limbs of ys are done. -/
def InRel (w : World) (g n m : Nat) (xs ys : List Int) (i j : Nat) (c : Int) (wr : World) : Prop :=
  0 ≤ c ∧ c < 4294967296 ∧ Below w.heap.size w wr ∧ ∃ os, os.length = n + m ∧ Row wr g (n + m) os ∧ val (os.take (i + m)) + pw (i + j) * c = val (xs.take i) * val ys + rdl xs i * pw i * val (ys.take j)
theorem InRel.step {w wr : World} {g n m : Nat} {xs ys os : List Int} {i j : Nat} {c s : Int} (h0 : 0 ≤ c) (h1 : c < 4294967296) (hb : Below w.heap.size w wr) (hl : os.length = n + m) (hr : Row wr g (n + m) os) (hg : w.heap.size ≤ g) (hi : i < n) (hj : j < m)
    (hx : Lm xs) (hy : Lm ys) (inv : val (os.take (i + m)) + pw (i + j) * c = val (xs.take i) * val ys + rdl xs i * pw i * val (ys.take j)) (hs : s = rdl xs i * rdl ys j + rdl os (i + j) + c) :
    InRel w g n m xs ys i (j + 1) (s / 4294967296) (wr.setCell ⟨g, i + j, none⟩ (.int .u32 (s % 4294967296))) := by
  have b1 := rdl_bd hx i
  have b2 := rdl_bd hy j
  have b3 := rdl_bd hr.lm (i + j)
  have b4 := mul_bd b1.1 b1.2 b2.1 b2.2
  exact ⟨by omega, by omega, hb.setCell (p := ⟨g, i + j, none⟩) hg _, os.set (i + j) (s % 4294967296), by rw [List.length_set]; exact hl, hr.set (i + j) (by omega) (by omega), mul_inner (by omega) hj inv (by omega)⟩

set_option maxHeartbeats 1000000 in
theorem times_any (a b : Option Addr) (n c m d : Nat) (xs ys : List Int) (w : World) (h : Sl w a n c xs) (h' : Sl w b m d ys) (hn : n + m ≤ 1048576) :
    Calls Tryd.prog 18 #[.slice a n c, .slice b m d] w (Ret w (Num (val xs * val ys) (n + m))) := by
  go_enter Tryd.func18, Tryd.ntmps18
  go_wp2_with (at_make; refine wpList_make_limbs _ rfl _ _ rfl (n + m) _ _ rfl rfl (by simp) (by simp) (by omega) ?_)
  intro w1 hrow hb1
  obtain ⟨g, hg⟩ : ∃ g, g = w.heap.size := ⟨_, rfl⟩
  rw [← hg] at hrow ⊢
  have hgw : w.heap.size ≤ g := by omega
  clear hg
  go_wp2_with fail
  go_loopw [20] (fun t wr => ∃ i : Nat, i ≤ n ∧ t = .int .i64 i ∧ OutRel w g n m xs ys i wr) (fun t _ => n - (intOf t).toNat)
  case atStart => exact ⟨0, by omega, by simp, hb1, _, by simp, hrow, by rw [List.take_replicate, val_zeros]; simp [val]⟩
  case round =>
    obtain ⟨i, hi, rfl, hb, os, hl, hr, inv⟩ := hrel
    have INV := Lib.hid inv
    have HL := Lib.hid hl
    clear inv hl
    have g1 := h.kept hb
    by_cases hin : i < n
    · obtain ⟨b1, o1, rfl, hlt1, hcell⟩ := g1.at_ (by omega)
      have hck := hcell i hin
      have bx := rdl_bd h.lm i
      clear hcell
      obtain ⟨wo, rfl⟩ : ∃ wo : World, wo = wr := ⟨_, rfl⟩
      go_wp2_with fail
      go_loopw [8, 27] (fun cv t wr => ∃ (j : Nat) (cr : Int), j ≤ m ∧ t = .int .i64 j ∧ cv = .int .u64 cr ∧ InRel w g n m xs ys i j cr wr) (fun _ t _ => m - (intOf t).toNat)
      case atStart => exact ⟨0, 0, by omega, by simp, rfl, by omega, by omega, hb, os, HL.out, hr, by rw [INV.out]; simp [val]⟩
      case round =>
        obtain ⟨j, cr, hj, rfl, rfl, hc0, hc1, hb2, os2, hl2, hr2, inv2⟩ := hrel
        have INV2 := Lib.hid inv2
        have HL2 := Lib.hid hl2
        clear inv2 hl2
        have g2 := h'.kept hb2
        by_cases hjm : j < m
        · obtain ⟨b2, o2, rfl, hlt2, hcell2⟩ := g2.at_ (by omega)
          have hck2 := hcell2 j hjm
          have by_ := rdl_bd h'.lm j
          have hm1 := mul_bd bx.1 bx.2 by_.1 by_.2
          have hoc := hr2.cell (i := i + j) (by rw [HL2.out]; omega)
          have bo := rdl_bd hr2.lm (i + j)
          have hfr := hr2.free (i + j)
          clear hcell2
          go_wp2_with fail
          go_roundw
          case rel => exact ⟨j + 1, _, by omega, by go_num, rfl, InRel.step hc0 hc1 hb2 HL2.out hr2 hgw hin hjm h.lm h'.lm INV2.out rfl⟩
          case measure => simp [intOf]; omega
        · obtain rfl : j = m := by omega
          have hoc := hr2.cell (i := i + j) (by rw [HL2.out]; omega)
          have hfr := hr2.free (i + j)
          go_wp2_with fail
          go_roundw
          case rel => exact ⟨i + 1, by omega, by go_num, hb2.setCell (p := ⟨g, i + j, none⟩) hgw _, _, by rw [List.length_set]; exact HL2.out, hr2.set (i + j) hc0 hc1, mul_outer (by rw [HL2.out]; omega) (INV2.out.trans (by rw [val_take_all (xs := ys) (by rw [h'.len]; exact Nat.le_refl _)]))⟩
          case measure => simp [intOf]; omega
    · obtain rfl : i = n := by omega
      have E0 : Hid (val os = val xs * val ys) := by
        have := INV.out
        rw [val_take_all (by rw [HL.out]; exact Nat.le_refl _), val_take_all (by rw [h.len]; exact Nat.le_refl _)] at this
        exact this
      go_wp2_with fail
      refine (short_sl _ _ _ _ _ (hr.sl HL.out hn)).mono ?_
      rintro e w3 ⟨q, zs, rfl, rfl, hz, hq, hcz, hvz⟩
      have HV := Lib.hid hvz
      clear hvz
      go_wp2_with fail
      go_ret
      exact ⟨_, _, _, zs, rfl, hz, hb, hcz, by rw [HV.out, E0.out], by rw [hz.len]; exact hq⟩

/-- nat.Mul's loop. -/
def MulRel (w : World) (L k : Nat) (ls : List (List Int)) (v : Value) (wr : World) : Prop :=
  Below w.heap.size w wr ∧ ∃ a n c zs, v = .slice a n c ∧ Sl wr a n c zs ∧ n ≤ 1 + k * L ∧ val zs = prodv (ls.take k)

end Go.Proofs.YtaaolnepkgcbaaaDoor
