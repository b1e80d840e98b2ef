/- nat.plus, nat.Add; ref.Add. -/
import Derived.Test.YtaaolnepkgcbaaaDoorArgs
namespace Go.Proofs.YtaaolnepkgcbaaaDoor
open Go.RowKit Lb
set_option linter.unusedVariables false

/-- nat.plus's loop. -/
def PlusRel (w : World) (g n : Nat) (xs ys : List Int) (k : Nat) (c : Int) (wr : World) : Prop :=
  0 ≤ c ∧ c ≤ 1 ∧ Below w.heap.size w wr ∧ ∃ os, os.length = n + 1 ∧ Row wr g (n + 1) os ∧ val (os.take k) + pw k * c = val (xs.take k) + val (ys.take k)
theorem PlusRel.step {w wr : World} {g n : Nat} {xs ys os : List Int} {k : Nat} {c s : Int} (h0 : 0 ≤ c) (h1 : c ≤ 1) (hb : Below w.heap.size w wr) (hl : os.length = n + 1) (hr : Row wr g (n + 1) os) (hg : w.heap.size ≤ g) (hk : k < n)
    (hx : Lm xs) (hy : Lm ys) (inv : val (os.take k) + pw k * c = val (xs.take k) + val (ys.take k)) (hs : s = rdl xs k + rdl ys k + c) :
    PlusRel w g n xs ys (k + 1) (s / 4294967296) (wr.setCell ⟨g, k, none⟩ (.int .u32 (s % 4294967296))) := by
  have b1 := rdl_bd hx k
  have b2 := rdl_bd hy k
  exact ⟨by omega, by omega, hb.setCell (p := ⟨g, k, none⟩) hg _, os.set k (s % 4294967296), by rw [List.length_set]; exact hl, hr.set k (by omega) (by omega), plus_step (by omega) inv (by omega)⟩

set_option maxHeartbeats 1000000 in
theorem plus_ge (a b : Option Addr) (n c m d : Nat) (xs ys : List Int) (w : World) (h : Sl w a n c xs) (h' : Sl w b m d ys) (hnm : m ≤ n) (hn : n + 1 ≤ 1048576) :
    Calls Tryd.prog 17 #[.slice a n c, .slice b m d] w (Ret w (Num (val xs + val ys) (n + 1))) := by
  go_enter Tryd.func17, Tryd.ntmps17
  go_wp2_with (at_make; refine wpList_make_limbs _ rfl _ _ rfl (n + 1) _ _ rfl rfl (by simp) (by simp) (by omega) ?_)
  intro w1 hrow hb1
  obtain ⟨g, hg⟩ : ∃ g, g = w.heap.size := ⟨_, rfl⟩
  rw [← hg] at hrow ⊢
  have hgw : w.heap.size ≤ g := by omega
  clear hg
  go_wp2_with fail
  go_loopw [6, 22] (fun cv t wr => ∃ (k : Nat) (cr : Int), k ≤ n ∧ t = .int .i64 k ∧ cv = .int .u64 cr ∧ PlusRel w g n xs ys k cr wr) (fun _ t _ => n - (intOf t).toNat)
  case atStart => exact ⟨0, 0, by omega, by simp, rfl, ⟨by omega, by omega, hb1, _, by simp, hrow, by simp [val]⟩⟩
  case round =>
    obtain ⟨k, cr, hk, rfl, rfl, hc0, hc1, hb, os, hl, hr, inv⟩ := hrel
    have INV := Lib.hid inv
    clear inv
    have hl := Lib.hid hl
    have g1 := h.kept hb
    have g2 := h'.kept hb
    have hfr := hr.free k
    have hoc := hr.cell (i := k) (by rw [hl.out]; omega)
    by_cases hkn : k < n
    · obtain ⟨b1, o1, rfl, hlt1, hcell⟩ := g1.at_ (by omega)
      have hck := hcell k hkn
      have bx := rdl_bd h.lm k
      clear hcell
      by_cases hkm : k < m
      · obtain ⟨b2, o2, rfl, hlt2, hcell2⟩ := g2.at_ (by omega)
        have hck2 := hcell2 k hkm
        have by_ := rdl_bd h'.lm k
        clear hcell2
        go_wp2_with fail
        go_roundw
        case rel => exact ⟨k + 1, _, by omega, by go_num, rfl, PlusRel.step hc0 hc1 hb hl.out hr hgw hkn h.lm h'.lm INV.out (by omega)⟩
        case measure => simp [intOf]; omega
      · have hz := Lib.hid (rdl_out (xs := ys) (i := k) (by rw [h'.len]; omega))
        go_wp2_with fail
        go_roundw
        case rel => exact ⟨k + 1, _, by omega, by go_num, rfl, PlusRel.step hc0 hc1 hb hl.out hr hgw hkn h.lm h'.lm INV.out (by rw [hz.out]; omega)⟩
        case measure => simp [intOf]; omega
    · obtain rfl : k = n := by omega
      go_wp2_with fail
      have hr2 := hr.set k hc0 (by omega : cr < 4294967296)
      have e0 : val ((os.set k cr).take (k + 1)) = val xs + val ys := by
        rw [val_set_next (by rw [hl.out]; omega), INV.out, val_take_all (by rw [h.len]; exact Nat.le_refl _), val_take_all (by rw [h'.len]; exact hnm)]
      rw [val_take_all (by rw [List.length_set, hl.out]; exact Nat.le_refl _)] at e0
      have E0 := Lib.hid e0
      clear e0
      refine (short_sl _ _ _ _ _ (hr2.sl (by rw [List.length_set]; exact hl.out) hn)).mono ?_
      rintro e w3 ⟨q, zs, rfl, rfl, hz, hq, hcz, hvz⟩
      have HV := Lib.hid hvz
      clear hvz
      go_wp2_with fail
      go_ret
      exact ⟨_, _, _, zs, rfl, hz, hb.setCell (p := ⟨g, k, none⟩) hgw _, hcz, by rw [HV.out, E0.out], by rw [hz.len]; exact hq⟩

set_option maxHeartbeats 1000000 in
theorem plus_lt (a b : Option Addr) (n c m d : Nat) (xs ys : List Int) (w : World) (h : Sl w a n c xs) (h' : Sl w b m d ys) (hlt : m < n) (hn : n + 1 ≤ 1048576) :
    Calls Tryd.prog 17 #[.slice b m d, .slice a n c] w (Ret w (Num (val xs + val ys) (n + 1))) := by
  have hnm : m ≤ n := by omega
  go_enter Tryd.func17, Tryd.ntmps17
  go_wp2_with (at_make; refine wpList_make_limbs _ rfl _ _ rfl (n + 1) _ _ rfl rfl (by simp) (by simp) (by omega) ?_)
  intro w1 hrow hb1
  obtain ⟨g, hg⟩ : ∃ g, g = w.heap.size := ⟨_, rfl⟩
  rw [← hg] at hrow ⊢
  have hgw : w.heap.size ≤ g := by omega
  clear hg
  go_wp2_with fail
  go_loopw [6, 22] (fun cv t wr => ∃ (k : Nat) (cr : Int), k ≤ n ∧ t = .int .i64 k ∧ cv = .int .u64 cr ∧ PlusRel w g n xs ys k cr wr) (fun _ t _ => n - (intOf t).toNat)
  case atStart => exact ⟨0, 0, by omega, by simp, rfl, ⟨by omega, by omega, hb1, _, by simp, hrow, by simp [val]⟩⟩
  case round =>
    obtain ⟨k, cr, hk, rfl, rfl, hc0, hc1, hb, os, hl, hr, inv⟩ := hrel
    have INV := Lib.hid inv
    clear inv
    have hl := Lib.hid hl
    have g1 := h.kept hb
    have g2 := h'.kept hb
    have hfr := hr.free k
    have hoc := hr.cell (i := k) (by rw [hl.out]; omega)
    by_cases hkn : k < n
    · obtain ⟨b1, o1, rfl, hlt1, hcell⟩ := g1.at_ (by omega)
      have hck := hcell k hkn
      have bx := rdl_bd h.lm k
      clear hcell
      by_cases hkm : k < m
      · obtain ⟨b2, o2, rfl, hlt2, hcell2⟩ := g2.at_ (by omega)
        have hck2 := hcell2 k hkm
        have by_ := rdl_bd h'.lm k
        clear hcell2
        go_wp2_with fail
        go_roundw
        case rel => exact ⟨k + 1, _, by omega, by go_num, rfl, PlusRel.step hc0 hc1 hb hl.out hr hgw hkn h.lm h'.lm INV.out (by omega)⟩
        case measure => simp [intOf]; omega
      · have hz := Lib.hid (rdl_out (xs := ys) (i := k) (by rw [h'.len]; omega))
        go_wp2_with fail
        go_roundw
        case rel => exact ⟨k + 1, _, by omega, by go_num, rfl, PlusRel.step hc0 hc1 hb hl.out hr hgw hkn h.lm h'.lm INV.out (by rw [hz.out]; omega)⟩
        case measure => simp [intOf]; omega
    · obtain rfl : k = n := by omega
      go_wp2_with fail
      have hr2 := hr.set k hc0 (by omega : cr < 4294967296)
      have e0 : val ((os.set k cr).take (k + 1)) = val xs + val ys := by
        rw [val_set_next (by rw [hl.out]; omega), INV.out, val_take_all (by rw [h.len]; exact Nat.le_refl _), val_take_all (by rw [h'.len]; exact hnm)]
      rw [val_take_all (by rw [List.length_set, hl.out]; exact Nat.le_refl _)] at e0
      have E0 := Lib.hid e0
      clear e0
      refine (short_sl _ _ _ _ _ (hr2.sl (by rw [List.length_set]; exact hl.out) hn)).mono ?_
      rintro e w3 ⟨q, zs, rfl, rfl, hz, hq, hcz, hvz⟩
      have HV := Lib.hid hvz
      clear hvz
      go_wp2_with fail
      go_ret
      exact ⟨_, _, _, zs, rfl, hz, hb.setCell (p := ⟨g, k, none⟩) hgw _, hcz, by rw [HV.out, E0.out], by rw [hz.len]; exact hq⟩


theorem plus_any (a b : Option Addr) (n c m d : Nat) (xs ys : List Int) (w : World) (h : Sl w a n c xs) (h' : Sl w b m d ys) (L : Nat) (hn : n ≤ L) (hm : m ≤ L) (hL : L + 1 ≤ 1048576) :
    Calls Tryd.prog 17 #[.slice a n c, .slice b m d] w (Ret w (Num (val xs + val ys) (L + 1))) := by
  by_cases hnm : m ≤ n
  · refine (plus_ge a b n c m d xs ys w h h' hnm (by omega)).mono ?_
    rintro e w1 ⟨a1, n1, c1, x1, rfl, g1⟩
    exact ⟨a1, n1, c1, x1, rfl, g1.mono fun hp => ⟨hp.1, hp.2.1, by have := hp.2.2; omega⟩⟩
  · refine (plus_lt b a m d n c ys xs w h' h (by omega) (by omega)).mono ?_
    rintro e w1 ⟨a1, n1, c1, x1, rfl, g1⟩
    exact ⟨a1, n1, c1, x1, rfl, g1.mono fun hp => ⟨hp.1, by rw [hp.2.1, Int.add_comm], by have := hp.2.2; omega⟩⟩

/-- nat.Add's loop. -/
def AddRel (w : World) (L k : Nat) (ls : List (List Int)) (v : Value) (wr : World) : Prop :=
  Below w.heap.size w wr ∧ ∃ a n c zs, v = .slice a n c ∧ Sl wr a n c zs ∧ n ≤ L + k ∧ val zs = sumv (ls.take k)

/-- Two numbers that were just laid. -/
theorem sls_two {w : World} {a b : Option Addr} {n c m d : Nat} {xs ys : List Int} (h : Sl w a n c xs) (h' : Sl w b m d ys) :
    Sls (w.alloc (.cells #[.slice a n c, .slice b m d] 23)) (some ⟨w.heap.size, 0, none⟩) 2 2 [xs, ys] := by
  refine ⟨rfl, Nat.le_refl _, (fun e => by cases e), by omega, fun _ => ⟨_, _, rfl, by simp, fun i hi => ?_⟩⟩
  match i, hi with
  | 0, _ => exact ⟨a, n, c, by simp, h.alloc _⟩
  | 1, _ => exact ⟨b, m, d, by simp, h'.alloc _⟩
theorem pw_double (m : Nat) : 2 * pw m ≤ pw (m + 1) := by rw [pw_succ]; have := pw_pos m; omega
/-- ref.Add's loop. -/
def RAddRel (w : World) (M : Nat) (xs ys : List Int) (k : Nat) (c : Int) (v : Value) (wr : World) : Prop :=
  0 ≤ c ∧ c ≤ 1 ∧ k ≤ M + 1 ∧ (k = M + 1 → c = 0) ∧ Below w.heap.size w wr ∧ ∃ os, os.length = k ∧ Own wr w.heap.size v os ∧ val os + pw k * c = val (xs.take k) + val (ys.take k)
theorem RAddRel.step {w w1 : World} {M k : Nat} {xs ys os : List Int} {c s : Int} {v' : Value} (h0 : 0 ≤ c) (h1 : c ≤ 1) (hb : Below w.heap.size w w1) (hl : os.length = k) (hown : Own w1 w.heap.size v' (os ++ [s % 4294967296]))
    (hx : Lm xs) (hy : Lm ys) (hlx : xs.length ≤ M) (hly : ys.length ≤ M) (hk : k ≤ M) (inv : val os + pw k * c = val (xs.take k) + val (ys.take k)) (hs : s = rdl xs k + rdl ys k + c) :
    RAddRel w M xs ys (k + 1) (s / 4294967296) v' w1 := by
  have b1 := rdl_bd hx k
  have b2 := rdl_bd hy k
  refine ⟨by omega, by omega, by omega, fun e => ?_, hb, _, by simp [hl], hown, plus_snoc hl inv (by omega)⟩
  have e1 := rdl_out (xs := xs) (i := k) (by omega)
  have e2 := rdl_out (xs := ys) (i := k) (by omega)
  omega

end Go.Proofs.YtaaolnepkgcbaaaDoor
