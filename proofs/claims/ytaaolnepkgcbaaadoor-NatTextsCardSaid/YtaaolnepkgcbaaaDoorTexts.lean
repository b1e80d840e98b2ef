/- The walks of NatTexts and NatParses. -/
import Derived.Test.YtaaolnepkgcbaaaDoorRParse
namespace Go.Proofs.YtaaolnepkgcbaaaDoor
open Go.RowKit Lb
set_option linter.unusedVariables false

theorem PPost.big {l : List UInt8} {w w' : World} {e : Ending} (h : PPost l w e w') (hb : 10000 < l.length) : Below w.heap.size w w' ∧ e = .returned (.tuple #[.slice none 0 0, .int .i64 8]) := by
  obtain ⟨b, ⟨_, h⟩ | ⟨h, _⟩ | ⟨h, _⟩⟩ := h
  · exact ⟨b, h⟩
  · omega
  · omega
theorem PPost.bad {l : List UInt8} {w w' : World} {e : Ending} (h : PPost l w e w') (hb : ¬ 10000 < l.length) (hc : ¬ Canon l) : Below w.heap.size w w' ∧ e = .returned (.tuple #[.slice none 0 0, .int .i64 14]) := by
  obtain ⟨b, ⟨h, _⟩ | ⟨_, _, h⟩ | ⟨_, h, _⟩⟩ := h
  · exact absurd h hb
  · exact ⟨b, h⟩
  · exact absurd h hc
theorem PPost.good {l : List UInt8} {w w' : World} {e : Ending} (h : PPost l w e w') (hb : ¬ 10000 < l.length) (hc : Canon l) :
    Below w.heap.size w w' ∧ ∃ a n c xs, e = .returned (.tuple #[.slice a n c, .int .i64 0]) ∧ Sl w' a n c xs ∧ Num (nv l : Int) 20000 xs := by
  obtain ⟨b, ⟨h, _⟩ | ⟨_, h, _⟩ | ⟨_, _, h⟩⟩ := h
  · exact absurd h hb
  · exact absurd hc h
  · exact ⟨b, h⟩

set_option maxHeartbeats 4000000 in
set_option maxRecDepth 100000 in
theorem parses_walk (s : ByteArray) (w : World) :
    Calls Tryd.prog 4 #[.string s] w fun e w' => e = .returned (.bool true) ∧ Below w.heap.size w w' := by
  obtain ⟨L, hL⟩ : ∃ L, s.data.toList = L := ⟨_, rfl⟩
  by_cases hbig : 10000 < L.length
  · have HB := Lib.hid hbig
    have HL := Lib.hid hL
    clear hbig hL
    go_enter Tryd.func4, Tryd.ntmps4
    go_wp2_with fail
    refine (parse_any s L HL.out _).mono fun e w1 h1 => ?_
    obtain ⟨b1, rfl⟩ := h1.big HB.out
    go_wp2_with fail
    refine (rparse_any s L HL.out _).mono fun e w2 h2 => ?_
    obtain ⟨b2, rfl⟩ := h2.big HB.out
    have b0 := chain b1 b2
    clear h1 h2
    go_wp2_with fail
    refine (same_val (Sl.empty _) (Sl.empty _) Cn.nil Cn.nil rfl).mono ?_
    rintro e w3 ⟨rfl, b3⟩
    go_wp2_with fail
    go_ret
    exact ⟨rfl, chain b0 b3⟩
  by_cases hc : Canon L
  · have HB := Lib.hid hbig
    have HL := Lib.hid hL
    have HC := Lib.hid hc
    clear hbig hL hc
    go_enter Tryd.func4, Tryd.ntmps4
    go_wp2_with fail
    refine (parse_any s L HL.out _).mono fun e w1 h1 => ?_
    obtain ⟨b1, a1, n1, c1, xs, rfl, s1, m1⟩ := h1.good HB.out HC.out
    have M1 := Lib.hid m1
    clear h1 m1
    go_wp2_with fail
    refine (rparse_any s L HL.out _).mono fun e w2 h2 => ?_
    obtain ⟨b2, a2, n2, c2, ys, rfl, s2, m2⟩ := h2.good HB.out HC.out
    have M2 := Lib.hid m2
    have b0 := chain b1 b2
    replace s1 := s1.kept b2
    clear h2 m2
    go_wp2_with fail
    refine (same_val s1 s2 M1.out.1 M2.out.1 (by rw [M1.out.2.1, M2.out.2.1])).mono ?_
    rintro e w3 ⟨rfl, b3⟩
    replace s1 := s1.kept b3
    replace b0 := chain b0 b3
    have et : (⟨(tx (val xs).toNat).toArray⟩ : ByteArray) = s := by
      rw [M1.out.2.1, Int.toNat_natCast, tx_nv HC.out, ← HL.out, Lib.mk_data]
    go_wp2_with fail
    refine (text_any _ _ _ _ _ s1 (by have := M1.out.2.2; have := s1.len; omega)).mono ?_
    rintro e w4 ⟨rfl, b4⟩
    rw [et]
    go_wp2_with fail
    go_ret
    exact ⟨rfl, chain b0 b4⟩
  · have HB := Lib.hid hbig
    have HL := Lib.hid hL
    have HC := Lib.hid hc
    clear hbig hL hc
    go_enter Tryd.func4, Tryd.ntmps4
    go_wp2_with fail
    refine (parse_any s L HL.out _).mono fun e w1 h1 => ?_
    obtain ⟨b1, rfl⟩ := h1.bad HB.out HC.out
    go_wp2_with fail
    refine (rparse_any s L HL.out _).mono fun e w2 h2 => ?_
    obtain ⟨b2, rfl⟩ := h2.bad HB.out HC.out
    have b0 := chain b1 b2
    clear h1 h2
    go_wp2_with fail
    refine (same_val (Sl.empty _) (Sl.empty _) Cn.nil Cn.nil rfl).mono ?_
    rintro e w3 ⟨rfl, b3⟩
    go_wp2_with fail
    go_ret
    exact ⟨rfl, chain b0 b3⟩

set_option maxHeartbeats 4000000 in
set_option maxRecDepth 100000 in
theorem texts_walk (a : Option Addr) (n c : Nat) (z0 : List Int) (w : World) (h : ARow .u32 w a n c z0) :
    Calls Tryd.prog 3 #[.slice a n c] w fun e w' => e = .returned (.bool true) ∧ Below w.heap.size w w' := by
  by_cases hbig : 300 < n
  · go_enter Tryd.func3, Tryd.ntmps3
    go_wp2_with fail
    go_ret
    exact ⟨rfl, Below.refl _ _⟩
  have hn : n ≤ 300 := by omega
  have sa := h.sl (by omega)
  generalize z0.take n = xs at *
  clear h hbig
  obtain ⟨V, hV⟩ : ∃ V, V = (val xs).toNat := ⟨_, rfl⟩
  have HV := Lib.hid hV
  have HV2 : Hid (val xs = (V : Int)) := by unfold Hid; have := val_nonneg sa.lm; omega
  have HLN : Hid (¬ 10000 < (tx V).length) := by
    have := tx_len_limbs sa.lm sa.len
    unfold Hid
    rw [hV]
    omega
  clear hV
  go_enter Tryd.func3, Tryd.ntmps3
  go_wp2_with fail
  refine (text_any _ _ _ _ _ sa (by omega)).mono ?_
  rintro e w1 ⟨rfl, b1⟩
  rw [← HV.out]
  obtain ⟨t, ht⟩ : ∃ t : ByteArray, t = ⟨(tx V).toArray⟩ := ⟨_, rfl⟩
  rw [← ht]
  have HT := Lib.hid ht
  clear ht
  have b0 := b1
  replace sa := sa.kept b1
  go_wp2_with fail
  refine (parse_any t (tx V) (by rw [HT.out]) _).mono fun e w2 h2 => ?_
  obtain ⟨b2, a2, n2, c2, ys, rfl, s2, m2⟩ := h2.good HLN.out (canon_tx V)
  have M2 := Lib.hid m2
  clear h2 m2
  replace sa := sa.kept b2
  replace b0 := chain b0 b2
  go_wp2_with fail
  refine (rtext_any _ _ _ _ _ sa (by omega)).mono ?_
  rintro e w3 ⟨rfl, b3⟩
  rw [← HV.out, ← HT.out]
  replace sa := sa.kept b3
  replace s2 := s2.kept b3
  replace b0 := chain b0 b3
  go_wp2_with fail
  refine (rtrim_any _ _ _ _ _ sa).mono ?_
  rintro e w4 ⟨a4, n4, c4, x4, rfl, g4⟩
  replace s2 := s2.kept g4.bel
  replace b0 := chain b0 g4.bel
  have HE := Lib.hid (show val ys = val x4 by rw [M2.out.2.1, g4.prop.2.1, nv_tx, HV2.out])
  go_wp2_with fail
  refine (same_val s2 g4.sl M2.out.1 g4.prop.1 HE.out).mono ?_
  rintro e w5 ⟨rfl, b5⟩
  go_wp2_with fail
  go_ret
  exact ⟨rfl, chain b0 b5⟩
end Go.Proofs.YtaaolnepkgcbaaaDoor
