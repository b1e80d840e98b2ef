/- nat.Cmp, ref.Cmp. -/
import Derived.Test.YtaaolnepkgcbaaaArgs
namespace Go.Proofs.Ytaaolnepkgcbaaa
open Go.RowKit Lb
set_option linter.unusedVariables false

def CmpB (K : Int) (w : World) (e : Ending) (w' : World) : Prop := e = .returned (.int .i64 K) ∧ Below w.heap.size w w'
theorem CmpB.mk' {K r : Int} {w w' : World} (h : r = K) (hb : Below w.heap.size w w') : CmpB K w (.returned (.int .i64 r)) w' := ⟨by rw [h], hb⟩
theorem cmp_cases (A B C : Int) : (cmpv A B = 1 ∧ decide (A = B) = false) ∨ (cmpv A B = -1 ∧ decide (A = B) = false ∧ cmpv B C = 1) ∨ (cmpv A B = 0 ∧ decide (A = B) = true ∧ cmpv B C = 1) ∨
    (cmpv A B = 0 ∧ decide (A = B) = true ∧ cmpv B C = 0 ∧ cmpv A C = 0) ∨ (cmpv A B = -1 ∧ decide (A = B) = false ∧ cmpv B C = -1 ∧ cmpv A C = -1) ∨ (cmpv A B = -1 ∧ decide (A = B) = false ∧ cmpv B C = 0 ∧ cmpv A C = -1) ∨
    (cmpv A B = 0 ∧ decide (A = B) = true ∧ cmpv B C = -1 ∧ cmpv A C = -1) := by
  rcases Int.lt_trichotomy A B with h | h | h <;> rcases Int.lt_trichotomy B C with h' | h' | h'
  · exact .inr (.inr (.inr (.inr (.inl ⟨cmpv_lt h, decide_eq_false (by omega), cmpv_lt h', cmpv_lt (by omega)⟩))))
  · exact .inr (.inr (.inr (.inr (.inr (.inl ⟨cmpv_lt h, decide_eq_false (by omega), cmpv_eq h', cmpv_lt (by omega)⟩)))))
  · exact .inr (.inl ⟨cmpv_lt h, decide_eq_false (by omega), cmpv_gt h'⟩)
  · exact .inr (.inr (.inr (.inr (.inr (.inr ⟨cmpv_eq h, decide_eq_true h, cmpv_lt h', cmpv_lt (by omega)⟩)))))
  · exact .inr (.inr (.inr (.inl ⟨cmpv_eq h, decide_eq_true h, cmpv_eq h', cmpv_eq (by omega)⟩)))
  · exact .inr (.inr (.inl ⟨cmpv_eq h, decide_eq_true h, cmpv_gt h'⟩))
  · exact .inl ⟨cmpv_gt h, decide_eq_false (by omega)⟩
  · exact .inl ⟨cmpv_gt h, decide_eq_false (by omega)⟩
  · exact .inl ⟨cmpv_gt h, decide_eq_false (by omega)⟩
theorem cmpv_swap (A B : Int) : cmpv B A = -cmpv A B := by
  rcases Int.lt_trichotomy A B with h | h | h
  · rw [cmpv_lt h, cmpv_gt h]; rfl
  · rw [cmpv_eq h, cmpv_eq h.symm]; rfl
  · rw [cmpv_gt h, cmpv_lt h]
theorem cmpv_add (A B C : Int) : cmpv (A + C) (B + C) = cmpv A B := by
  rcases Int.lt_trichotomy A B with h | h | h
  · rw [cmpv_lt h, cmpv_lt (by omega)]
  · rw [cmpv_eq h, cmpv_eq (by omega)]
  · rw [cmpv_gt h, cmpv_gt (by omega)]
theorem drop_lt {xs ys : List Int} {k : Nat} (hx : Lm xs) (hy : Lm ys) (h : val (xs.drop (k + 1)) = val (ys.drop (k + 1))) (hk : rdl xs k < rdl ys k) : val xs < val ys := by
  apply lt_of_drop hx hy k
  have e1 := val_drops xs k
  have e2 := val_drops ys k
  omega
theorem drop_eq {xs ys : List Int} {k : Nat} (h : val (xs.drop (k + 1)) = val (ys.drop (k + 1))) (hk : rdl xs k = rdl ys k) : val (xs.drop k) = val (ys.drop k) := by
  have e1 := val_drops xs k
  have e2 := val_drops ys k
  omega

set_option maxHeartbeats 1000000 in
theorem cmp_any (a b : Option Addr) (n c m d : Nat) (xs ys : List Int) (w : World) (h : Sl w a n c xs) (h' : Sl w b m d ys) :
    Calls Try.prog 32 #[.slice a n c, .slice b m d] w (CmpB (cmpv (val xs) (val ys)) w) := by
  go_enter Try.func32, Try.ntmps32
  go_wp2_with fail
  refine (short_sl _ _ _ _ _ h).mono ?_
  rintro e w3 ⟨p, us, rfl, rfl, hu, hp, hcu, hvu⟩
  go_wp2_with fail
  refine (short_sl _ _ _ _ _ h').mono ?_
  rintro e w3 ⟨q, vs, rfl, rfl, hv, hq, hcv, hvv⟩
  have HU := Lib.hid hvu
  have HV := Lib.hid hvv
  have HCU := Lib.hid hcu
  have HCV := Lib.hid hcv
  clear hvu hvv hcu hcv
  have sp := hu.sm
  have sq := hv.sm
  by_cases hpq : p = q
  · subst hpq
    go_wp2_with fail
    go_loopw [5] (fun t wr => ∃ k : Nat, k ≤ p ∧ t = .int .i64 ((k : Int) - 1) ∧ Hid (val (us.drop k) = val (vs.drop k)) ∧ Below w.heap.size w wr) (fun t _ => (intOf t + 1).toNat)
    case atStart => exact ⟨p, by omega, rfl, by unfold Hid; rw [List.drop_of_length_le (by rw [hu.len]; exact Nat.le_refl _), List.drop_of_length_le (by rw [hv.len]; exact Nat.le_refl _)], Below.refl _ _⟩
    case round =>
      obtain ⟨k, hk, rfl, hd, hb⟩ := hrel
      cases k with
      | zero =>
        go_wp2_with fail
        go_ret
        exact CmpB.mk' (by rw [cmpv_eq (by rw [← HU.out, ← HV.out]; exact hd.out)]) hb
      | succ k =>
        have g1 := hu.kept hb
        have g2 := hv.kept hb
        obtain ⟨b1, o1, rfl, hlt1, hcell⟩ := g1.at_ (by omega)
        have hck := hcell k (by omega)
        obtain ⟨b2, o2, rfl, hlt2, hcell2⟩ := g2.at_ (by omega)
        have hck2 := hcell2 k (by omega)
        clear hcell hcell2
        have bu := rdl_bd hu.lm k
        have bv := rdl_bd hv.lm k
        have i1 : (0 : Int) ≤ (k : Int) := by omega
        have i2 : (k : Int) < (p : Int) := by omega
        rcases Int.lt_trichotomy (rdl us k) (rdl vs k) with hlt | heq | hgt
        · have HF := Lib.hid (drop_lt hu.lm hv.lm hd.out hlt)
          go_wp2_with fail
          go_quiet (fail)
          go_wp2_with fail
          go_ret
          exact CmpB.mk' (by rw [cmpv_lt (by rw [← HU.out, ← HV.out]; exact HF.out)]) (drewN_below hb _)
        · have HF := Lib.hid (drop_eq hd.out heq)
          have n1 : ¬ rdl us k < rdl vs k := by omega
          have n2 : ¬ rdl vs k < rdl us k := by omega
          clear heq
          go_wp2_with fail
          go_quiet (fail)
          go_wp2_with fail
          go_quiet (fail)
          go_wp2_with fail
          go_roundw
          case rel => exact ⟨k, by omega, by simp, HF, drewN_below hb _⟩
          case measure => simp [intOf]
        · have HF := Lib.hid (drop_lt hv.lm hu.lm hd.out.symm hgt)
          have n1 : ¬ rdl us k < rdl vs k := by omega
          go_wp2_with fail
          go_quiet (fail)
          go_wp2_with fail
          go_quiet (fail)
          go_wp2_with fail
          go_ret
          exact CmpB.mk' (by rw [cmpv_gt (by rw [← HU.out, ← HV.out]; exact HF.out)]) (drewN_below (drewN_below hb _) _)
  · have hne : ((p : Int) != (q : Int)) = true := by rw [bne_iff_ne]; omega
    by_cases hlt : p < q
    · have HF := Lib.hid (lt_of_length hu.lm hv.lm HCV.out (by rw [hu.len, hv.len]; exact hlt))
      go_wp2_with fail
      go_ret
      exact CmpB.mk' (by rw [cmpv_lt (by rw [← HU.out, ← HV.out]; exact HF.out)]) (Below.refl _ _)
    · have HF := Lib.hid (lt_of_length hv.lm hu.lm HCU.out (by rw [hu.len, hv.len]; omega))
      go_wp2_with fail
      go_ret
      exact CmpB.mk' (by rw [cmpv_gt (by rw [← HU.out, ← HV.out]; exact HF.out)]) (Below.refl _ _)

/-- Cmp, its result told. -/
theorem cmp_is {a b : Option Addr} {n c m d : Nat} {xs ys : List Int} {w : World} {K : Int} (h : Sl w a n c xs) (h' : Sl w b m d ys) (hK : cmpv (val xs) (val ys) = K) :
    Calls Try.prog 32 #[.slice a n c, .slice b m d] w (CmpB K w) := by
  subst hK
  exact cmp_any a b n c m d xs ys w h h'
/-- same at canonical numbers tells whether they are one. -/
theorem same_dec {a b : Option Addr} {n c m d : Nat} {xs ys : List Int} {w : World} {A B : Int} {p q : Nat} (h : Sl w a n c xs) (h' : Sl w b m d ys) (e : Num A p xs) (e' : Num B q ys) :
    Calls Try.prog 19 #[.slice a n c, .slice b m d] w fun e w' => e = .returned (.bool (decide (A = B))) ∧ Below w.heap.size w w' := by
  have hs : sameB xs ys = decide (A = B) := by
    unfold sameB
    rw [decide_eq_decide, uniq_iff h.lm h'.lm e.1 e'.1, e.2.1, e'.2.1]
  have := lsame_any a b n c m d xs ys w h h'
  rw [hs] at this
  exact this

set_option maxHeartbeats 1000000 in
theorem rcmp_any (a b : Option Addr) (n c m d : Nat) (xs ys : List Int) (w : World) (hx : Sl w a n c xs) (h' : Sl w b m d ys) :
    Calls Try.prog 36 #[.slice a n c, .slice b m d] w fun e w' => e = .returned (.int .i64 (cmpv (val xs) (val ys))) ∧ w = w' := by
  have sn := hx.sm
  have sm := h'.sm
  go_enter Try.func36, Try.ntmps36
  go_wp2_with fail
  · go_loop [5] (fun t => ∃ k : Nat, k ≤ m ∧ t = .int .i64 ((k : Int) - 1) ∧ Hid (val (xs.drop k) = val (ys.drop k))) (fun t => (intOf t + 1).toNat)
    case atStart => exact ⟨m, by omega, rfl, by unfold Hid; rw [List.drop_of_length_le (by rw [hx.len]; omega), List.drop_of_length_le (by rw [h'.len]; omega)]⟩
    case round =>
      obtain ⟨k, hk, rfl, hd⟩ := hrel
      cases k with
      | zero =>
        have HF := Lib.hid (cmpv_eq (show val xs = val ys from hd.out))
        go_wp2_with fail
        go_ret
        exact ⟨by rw [HF.out]; rfl, rfl⟩
      | succ k =>
        have bu := rdl_bd hx.lm k
        have bv := rdl_bd h'.lm k
        rcases Int.lt_trichotomy (rdl xs k) (rdl ys k) with hlt | heq | hgt
        · have HF := Lib.hid (cmpv_lt (drop_lt hx.lm h'.lm hd.out hlt))
          go_wp2_with fail
          refine (limb_any _ _ _ _ _ _ hx (by omega)).mono ?_
          rintro e w2 ⟨rfl, rfl⟩
          go_wp2_with fail
          refine (limb_any _ _ _ _ _ _ h' (by omega)).mono ?_
          rintro e w2 ⟨rfl, rfl⟩
          go_wp2_with fail
          go_ret
          exact ⟨by rw [HF.out]; rfl, rfl⟩
        · have HF := Lib.hid (drop_eq hd.out heq)
          have n1 : ¬ rdl xs k < rdl ys k := by omega
          have n2 : ¬ rdl ys k < rdl xs k := by omega
          clear heq
          go_wp2_with fail
          refine (limb_any _ _ _ _ _ _ hx (by omega)).mono ?_
          rintro e w2 ⟨rfl, rfl⟩
          go_wp2_with fail
          refine (limb_any _ _ _ _ _ _ h' (by omega)).mono ?_
          rintro e w2 ⟨rfl, rfl⟩
          go_wp2_with fail
          refine (limb_any _ _ _ _ _ _ hx (by omega)).mono ?_
          rintro e w2 ⟨rfl, rfl⟩
          go_wp2_with fail
          refine (limb_any _ _ _ _ _ _ h' (by omega)).mono ?_
          rintro e w2 ⟨rfl, rfl⟩
          go_wp2_with fail
          go_round
          case rel => exact ⟨k, by omega, by simp, HF⟩
          case measure => simp [intOf]
        · have HF := Lib.hid (cmpv_gt (drop_lt h'.lm hx.lm hd.out.symm hgt))
          have n1 : ¬ rdl xs k < rdl ys k := by omega
          go_wp2_with fail
          refine (limb_any _ _ _ _ _ _ hx (by omega)).mono ?_
          rintro e w2 ⟨rfl, rfl⟩
          go_wp2_with fail
          refine (limb_any _ _ _ _ _ _ h' (by omega)).mono ?_
          rintro e w2 ⟨rfl, rfl⟩
          go_wp2_with fail
          refine (limb_any _ _ _ _ _ _ hx (by omega)).mono ?_
          rintro e w2 ⟨rfl, rfl⟩
          go_wp2_with fail
          refine (limb_any _ _ _ _ _ _ h' (by omega)).mono ?_
          rintro e w2 ⟨rfl, rfl⟩
          go_wp2_with fail
          go_ret
          exact ⟨by rw [HF.out]; rfl, rfl⟩
  · go_loop [5] (fun t => ∃ k : Nat, k ≤ n ∧ t = .int .i64 ((k : Int) - 1) ∧ Hid (val (xs.drop k) = val (ys.drop k))) (fun t => (intOf t + 1).toNat)
    case atStart => exact ⟨n, by omega, rfl, by unfold Hid; rw [List.drop_of_length_le (by rw [hx.len]; omega), List.drop_of_length_le (by rw [h'.len]; omega)]⟩
    case round =>
      obtain ⟨k, hk, rfl, hd⟩ := hrel
      cases k with
      | zero =>
        have HF := Lib.hid (cmpv_eq (show val xs = val ys from hd.out))
        go_wp2_with fail
        go_ret
        exact ⟨by rw [HF.out]; rfl, rfl⟩
      | succ k =>
        have bu := rdl_bd hx.lm k
        have bv := rdl_bd h'.lm k
        rcases Int.lt_trichotomy (rdl xs k) (rdl ys k) with hlt | heq | hgt
        · have HF := Lib.hid (cmpv_lt (drop_lt hx.lm h'.lm hd.out hlt))
          go_wp2_with fail
          refine (limb_any _ _ _ _ _ _ hx (by omega)).mono ?_
          rintro e w2 ⟨rfl, rfl⟩
          go_wp2_with fail
          refine (limb_any _ _ _ _ _ _ h' (by omega)).mono ?_
          rintro e w2 ⟨rfl, rfl⟩
          go_wp2_with fail
          go_ret
          exact ⟨by rw [HF.out]; rfl, rfl⟩
        · have HF := Lib.hid (drop_eq hd.out heq)
          have n1 : ¬ rdl xs k < rdl ys k := by omega
          have n2 : ¬ rdl ys k < rdl xs k := by omega
          clear heq
          go_wp2_with fail
          refine (limb_any _ _ _ _ _ _ hx (by omega)).mono ?_
          rintro e w2 ⟨rfl, rfl⟩
          go_wp2_with fail
          refine (limb_any _ _ _ _ _ _ h' (by omega)).mono ?_
          rintro e w2 ⟨rfl, rfl⟩
          go_wp2_with fail
          refine (limb_any _ _ _ _ _ _ hx (by omega)).mono ?_
          rintro e w2 ⟨rfl, rfl⟩
          go_wp2_with fail
          refine (limb_any _ _ _ _ _ _ h' (by omega)).mono ?_
          rintro e w2 ⟨rfl, rfl⟩
          go_wp2_with fail
          go_round
          case rel => exact ⟨k, by omega, by simp, HF⟩
          case measure => simp [intOf]
        · have HF := Lib.hid (cmpv_gt (drop_lt h'.lm hx.lm hd.out.symm hgt))
          have n1 : ¬ rdl xs k < rdl ys k := by omega
          go_wp2_with fail
          refine (limb_any _ _ _ _ _ _ hx (by omega)).mono ?_
          rintro e w2 ⟨rfl, rfl⟩
          go_wp2_with fail
          refine (limb_any _ _ _ _ _ _ h' (by omega)).mono ?_
          rintro e w2 ⟨rfl, rfl⟩
          go_wp2_with fail
          refine (limb_any _ _ _ _ _ _ hx (by omega)).mono ?_
          rintro e w2 ⟨rfl, rfl⟩
          go_wp2_with fail
          refine (limb_any _ _ _ _ _ _ h' (by omega)).mono ?_
          rintro e w2 ⟨rfl, rfl⟩
          go_wp2_with fail
          go_ret
          exact ⟨by rw [HF.out]; rfl, rfl⟩

end Go.Proofs.Ytaaolnepkgcbaaa
