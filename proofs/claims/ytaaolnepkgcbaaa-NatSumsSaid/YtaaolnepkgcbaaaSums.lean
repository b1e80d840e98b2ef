/- The walk of NatSums. -/
import Derived.Test.YtaaolnepkgcbaaaRows2
import Derived.Test.YtaaolnepkgcbaaaAdds
namespace Go.Proofs.Ytaaolnepkgcbaaa
open Go.RowKit Lb
set_option linter.unusedVariables false

theorem sls_nil (w : World) : Sls w none 0 0 [] := ⟨rfl, Nat.le_refl _, fun _ => rfl, by omega, fun h => absurd h (by omega)⟩

set_option maxHeartbeats 4000000 in
set_option maxRecDepth 100000 in
theorem sums_walk (a b : Option Addr) (n c m d : Nat) (A A' : Nat → Option Addr) (L C L' C' : Nat → Nat) (Z Z' : Nat → List Int) (w : World) (h : MRow .u32 w a n c A L C Z) (h' : MRow .u32 w b m d A' L' C' Z') (hc : c ≤ 8796093022208) (hd : d ≤ 8796093022208) :
    Calls Try.prog 5 #[.slice a n c, .slice b m d] w fun e w' => e = .returned (.bool true) ∧ Below w.heap.size w w' := by
  have hn : n ≤ 8796093022208 := Nat.le_trans h.le hc
  have hm : m ≤ 8796093022208 := Nat.le_trans h'.le hd
  clear hc hd
  have H := Lib.hid h
  have H' := Lib.hid h'
  have hl0 := h.lens (by omega)
  have hl1 := h'.lens (by omega)
  clear h h'
  have HN0 : Hid (longB 12 ((List.range n).map L) = false → ∀ r, r < n → L r ≤ 12) := longB_no
  have HN1 : Hid (longB 12 ((List.range m).map L') = false → ∀ r, r < m → L' r ≤ 12) := longB_no
  generalize (List.range n).map L = ln0 at *
  generalize (List.range m).map L' = ln1 at *
  go_enter Try.func5, Try.ntmps5
  go_wp2_with fail
  refine (long_any 12 _ _ _ _ _ hl0 (by omega)).mono ?_
  rintro e w1 ⟨rfl, rfl⟩
  by_cases hB0 : longB 12 ln0 = true
  · go_wp2_with fail
    go_ret
    exact ⟨rfl, Below.refl _ _⟩
  have hB0' : longB 12 ln0 = false := by simpa using hB0
  have N0 := Lib.hid (HN0.out hB0')
  clear hB0 HN0
  go_wp2_with fail
  refine (long_any 12 _ _ _ _ _ hl1 (by omega)).mono ?_
  rintro e w1 ⟨rfl, rfl⟩
  by_cases hB1 : longB 12 ln1 = true
  · go_wp2_with fail
    go_ret
    exact ⟨rfl, Below.refl _ _⟩
  have hB1' : longB 12 ln1 = false := by simpa using hB1
  have N1 := Lib.hid (HN1.out hB1')
  clear hB1 HN1
  by_cases h64 : 64 < n + m
  · go_wp2_with fail
    go_ret
    exact ⟨rfl, Below.refl _ _⟩
  have h64' : n + m ≤ 64 := by omega
  clear h64 hn hm
  obtain ⟨vs0, ls0, m0, hL0⟩ := H.out.mv N0.out
  obtain ⟨vs1, ls1, m1, hL1⟩ := H'.out.mv N1.out
  have HL0 := Lib.hid hL0
  have HL1 := Lib.hid hL1
  have HLA : Hid (∀ l, l ∈ ls0 ++ ls1 → l.length ≤ 12) := fun l hl => by
    rcases List.mem_append.1 hl with h | h
    · exact hL0 l h
    · exact hL1 l h
  clear hL0 hL1 hl0 hl1
  have hv0 := m0.len
  have hv1 := m1.len
  go_wp2_with (at_builtin; refine wpList_append_nats _ rfl _ _ rfl w.heap.size _ [] rfl (OwnM.made _) _ _ _ vs0 ls0 rfl (m0.alloc _) ?_ ?_ ?_)
  · simp; omega
  · simp
  intro v1 w1 own1 bel1
  have b0 : Below w.heap.size w w1 := (below_alloc w _).trans bel1
  have m1' := m1.kept b0
  clear bel1
  go_wp2_with (at_builtin; refine wpList_append_nats _ rfl _ _ rfl w.heap.size _ vs0 rfl own1 _ _ _ vs1 ls1 rfl m1' ?_ ?_ ?_)
  · omega
  · have := b0.size; omega
  intro v2 w2 own2 bel2
  replace b0 := b0.trans bel2
  replace m0 := m0.kept b0
  replace m1 := m1.kept b0
  have hE := m0.each.append m1.each
  have hlA : (vs0 ++ vs1).length = n + m := by rw [List.length_append, hv0, hv1]
  clear bel2 m1' own1 hv0 hv1
  generalize vs0 ++ vs1 = vsA at own2 hE hlA
  obtain ⟨aA, cA, rfl, mA⟩ := own2.mv hE
  rw [hlA] at mA ⊢
  clear own2 hE hlA
  go_wp2_with fail
  refine (add_any _ _ _ [] 12 _ (sls_nil _) (fun l h => by cases h) (by omega)).mono ?_
  rintro e w1 ⟨a1, n1, c1, x1, rfl, g1⟩
  replace m0 := m0.kept g1.bel
  replace m1 := m1.kept g1.bel
  replace mA := mA.kept g1.bel
  replace b0 := chain b0 g1.bel
  have s1 := g1.sl
  go_wp2_with fail
  refine (same_val s1 (Sl.empty _) g1.prop.1 Cn.nil (by rw [g1.prop.2.1]; rfl)).mono ?_
  rintro e w2 ⟨rfl, b2⟩
  replace m0 := m0.kept b2
  replace m1 := m1.kept b2
  replace mA := mA.kept b2
  replace s1 := s1.kept b2
  replace b0 := chain b0 b2
  go_wp2_with fail
  refine (mul_any _ _ _ [] 12 _ (sls_nil _) (fun l h => by cases h) (by omega)).mono ?_
  rintro e w3 ⟨a3, n3, c3, x3, rfl, g3⟩
  replace m0 := m0.kept g3.bel
  replace m1 := m1.kept g3.bel
  replace mA := mA.kept g3.bel
  replace b0 := chain b0 g3.bel
  have s3 := g3.sl
  go_wp2_with fail
  refine (same_val (s3.alloc _) (sl_one_at 1 (by decide) (by simp)) g3.prop.1 (cn_one (by decide)) (by rw [g3.prop.2.1]; decide)).mono ?_
  rintro e w4 ⟨rfl, b4⟩
  replace m0 := (m0.alloc _).kept b4
  replace m1 := (m1.alloc _).kept b4
  replace mA := (mA.alloc _).kept b4
  replace s3 := (s3.alloc _).kept b4
  replace b0 := chain (chain_alloc b0 _) b4
  go_wp2_with fail
  refine (add_any _ _ _ _ 12 _ (mA.sls (by omega)) HLA.out (by omega)).mono ?_
  rintro e w5 ⟨a5, n5, c5, x5, rfl, g5⟩
  replace m0 := m0.kept g5.bel
  replace m1 := m1.kept g5.bel
  replace mA := mA.kept g5.bel
  replace b0 := chain b0 g5.bel
  have s5 := g5.sl
  go_wp2_with fail
  refine (add_any _ _ _ _ 12 _ (m0.sls (by omega)) HL0.out (by omega)).mono ?_
  rintro e w6 ⟨a6, n6, c6, x6, rfl, g6⟩
  replace m0 := m0.kept g6.bel
  replace m1 := m1.kept g6.bel
  replace mA := mA.kept g6.bel
  replace s5 := s5.kept g6.bel
  replace b0 := chain b0 g6.bel
  have s6 := g6.sl
  go_wp2_with fail
  refine (add_any _ _ _ _ 12 _ (m1.sls (by omega)) HL1.out (by omega)).mono ?_
  rintro e w7 ⟨a7, n7, c7, x7, rfl, g7⟩
  replace m0 := m0.kept g7.bel
  replace m1 := m1.kept g7.bel
  replace mA := mA.kept g7.bel
  replace s5 := s5.kept g7.bel
  replace s6 := s6.kept g7.bel
  replace b0 := chain b0 g7.bel
  have s7 := g7.sl
  have l6 : n6 ≤ 2000 := (by have := g6.prop.2.2; have := g6.sl.len; omega)
  have l7 : n7 ≤ 2000 := (by have := g7.prop.2.2; have := g7.sl.len; omega)
  go_wp2_with fail
  refine (radd_any _ _ _ _ _ _ _ _ _ s6 s7 2000 l6 l7 (by omega)).mono ?_
  rintro e w8 ⟨a8, n8, c8, x8, rfl, g8⟩
  replace m0 := m0.kept g8.bel
  replace m1 := m1.kept g8.bel
  replace mA := mA.kept g8.bel
  replace s5 := s5.kept g8.bel
  replace s6 := s6.kept g8.bel
  replace s7 := s7.kept g8.bel
  replace b0 := chain b0 g8.bel
  have s8 := g8.sl
  have HE8 := Lib.hid (show val x5 = val x8 by rw [g5.prop.2.1, g8.prop.2.1, g6.prop.2.1, g7.prop.2.1]; exact sumv_append _ _)
  go_wp2_with fail
  refine (same_val s5 s8 g5.prop.1 g8.prop.1 HE8.out).mono ?_
  rintro e w9 ⟨rfl, b9⟩
  replace m0 := m0.kept b9
  replace m1 := m1.kept b9
  replace mA := mA.kept b9
  replace s5 := s5.kept b9
  replace s6 := s6.kept b9
  replace s7 := s7.kept b9
  replace s8 := s8.kept b9
  replace b0 := chain b0 b9
  go_wp2_with fail
  refine (mul_any _ _ _ _ 12 _ (mA.sls (by omega)) HLA.out (by omega)).mono ?_
  rintro e w10 ⟨a10, n10, c10, x10, rfl, g10⟩
  replace m0 := m0.kept g10.bel
  replace m1 := m1.kept g10.bel
  replace mA := mA.kept g10.bel
  replace b0 := chain b0 g10.bel
  have s10 := g10.sl
  go_wp2_with fail
  refine (mul_any _ _ _ _ 12 _ (m0.sls (by omega)) HL0.out (by omega)).mono ?_
  rintro e w11 ⟨a11, n11, c11, x11, rfl, g11⟩
  replace m0 := m0.kept g11.bel
  replace m1 := m1.kept g11.bel
  replace mA := mA.kept g11.bel
  replace s10 := s10.kept g11.bel
  replace b0 := chain b0 g11.bel
  have s11 := g11.sl
  go_wp2_with fail
  refine (mul_any _ _ _ _ 12 _ (m1.sls (by omega)) HL1.out (by omega)).mono ?_
  rintro e w12 ⟨a12, n12, c12, x12, rfl, g12⟩
  replace m0 := m0.kept g12.bel
  replace m1 := m1.kept g12.bel
  replace mA := mA.kept g12.bel
  replace s10 := s10.kept g12.bel
  replace s11 := s11.kept g12.bel
  replace b0 := chain b0 g12.bel
  have s12 := g12.sl
  have l11 : n11 ≤ 2000 := (by have := g11.prop.2.2; have := g11.sl.len; omega)
  have l12 : n12 ≤ 2000 := (by have := g12.prop.2.2; have := g12.sl.len; omega)
  go_wp2_with fail
  refine (rmul_any _ _ _ _ _ _ _ _ _ s11 s12 (by omega)).mono ?_
  rintro e w13 ⟨a13, n13, c13, x13, rfl, g13⟩
  replace m0 := m0.kept g13.bel
  replace m1 := m1.kept g13.bel
  replace mA := mA.kept g13.bel
  replace s10 := s10.kept g13.bel
  replace s11 := s11.kept g13.bel
  replace s12 := s12.kept g13.bel
  replace b0 := chain b0 g13.bel
  have s13 := g13.sl
  have HE13 := Lib.hid (show val x10 = val x13 by rw [g10.prop.2.1, g13.prop.2.1, g11.prop.2.1, g12.prop.2.1]; exact prodv_append _ _)
  go_wp2_with fail
  refine (same_val s10 s13 g10.prop.1 g13.prop.1 HE13.out).mono ?_
  rintro e w14 ⟨rfl, b14⟩
  replace m0 := m0.kept b14
  replace m1 := m1.kept b14
  replace mA := mA.kept b14
  replace s10 := s10.kept b14
  replace s11 := s11.kept b14
  replace s12 := s12.kept b14
  replace s13 := s13.kept b14
  replace b0 := chain b0 b14
  go_wp2_with fail
  go_ret
  exact ⟨rfl, b0⟩

end Go.Proofs.Ytaaolnepkgcbaaa
