/- nat.Text. -/
import Derived.Test.YtaaolnepkgcbaaaDoorTrimL
import Derived.Test.YtaaolnepkgcbaaaDoorDigit
import Derived.Deep.LoopGhost
namespace Go.Proofs.YtaaolnepkgcbaaaDoor
open Go.RowKit Lb
set_option linter.unusedVariables false

/-- 'append' onto a []uint32 of the call's own. -/
theorem wpList_append_u32 (w : World) {ops : Array Oper} {rest : List Oper} {o : Oper} {a : Act} {Q : Exit → Act → World → Prop} (hgd : o.guard = none) (s x : Operand)
    (ho : o.op = .call { callee := .builtin .append, args := #[s, x], argTypes := #[22, 22] }) (B : Nat) (v : Value) (xs : List Int) (hs : a.eval s = v) (hown : Own w B v xs)
    (ad : Addr) (m c : Nat) (ys : List Int) (hx : a.eval x = .slice (some ad) m c) (hsl : Sl w (some ad) m c ys) (hn : xs.length + m ≤ 2097152) (hB : B ≤ w.heap.size)
    (h : ∀ v' w', Own w' B v' (xs ++ ys) → Below B w w' → (w.heap.size ≤ w'.heap.size ∧ ∀ b, b < w.heap.size → v.ownBlock ≠ some b → w'.heap[b]? = w.heap[b]?) → wpList Tryd.prog ops Q rest (a.put o.dst v') w') : wpList Tryd.prog ops Q (o :: rest) a w := by
  obtain ⟨i, hi, hz, h1, h2⟩ := info_parts info_u32
  refine wpList_append_own w hgd s x 22 ho B 32 i (.int .u32 0) 1 4 Tryd.underlying22 hi hz h1 h2 rfl (by decide) v _ _ hs hown.1 ad m c (ys.map u32v) hx (by rw [List.length_map, hsl.len, Nat.mul_one]) ?_ ?_ (by unfold maxLen; omega) (by omega) hB ?_
  · intro j u hj
    rw [List.getElem?_map] at hj
    have hjl : j < ys.length := by
      apply Nat.lt_of_not_le
      intro h'
      rw [List.getElem?_eq_none h'] at hj; cases hj
    obtain ⟨b, o', e, _, hcell⟩ := hsl.at_ (by have := hsl.len; omega)
    cases e
    rw [List.getElem?_eq_getElem hjl] at hj
    simp only [Option.map_some, Option.some.injEq] at hj
    subst hj
    have := hcell j (by have := hsl.len; omega)
    unfold rdl at this
    rw [List.getD_eq_getElem?_getD, List.getElem?_eq_getElem hjl] at this
    rw [Go.WideShapes.add_plain]; exact this
  · intro u hu
    obtain ⟨x', _, rfl⟩ := List.mem_map.1 hu
    rfl
  · intro v' w' ho' hgr _
    refine h v' w' ⟨?_, hown.2.append hsl.lm⟩ ((Below.refl _ _).grown hgr hB (fun k hk => (hown.1.lt k hk).1)) ⟨hgr.size, fun b hb hn => hgr.block b hb (fun e => hn e.symm)⟩
    rw [List.map_append, List.length_append, hsl.len]; exact ho'

theorem isBuilder_kept {T e : TypeId} {B b : Nat} {bs : List Value} {w w' : World} (h : Lib.IsBuilder T e B b bs w) (hb : Below w.heap.size w w') : Lib.IsBuilder T e B b bs w' := by
  have key : ∀ p, Lib.BuilderAt T e B b p bs w → Lib.BuilderAt T e B b p bs w' := by
    intro p hp
    have hlt := hp.lt
    obtain ⟨hB, v, hc, hown, hne⟩ := hp
    refine ⟨hB, v, by rw [hb.block b hlt]; exact hc, ⟨hown.1, ?_⟩, hne⟩
    rcases hown.2 with h' | ⟨g', cap, cur, hv, hg, hh, r⟩
    · exact .inl h'
    · exact .inr ⟨g', cap, cur, hv, hg, by rw [hb.block g' (Array.getElem?_eq_some_iff.1 hh).1]; exact hh, r⟩
  rcases h with h | h
  · exact .inl (key _ h)
  · exact .inr (key _ h)

theorem pow2_p9 (k : Nat) : (2 : Int) ^ k ≤ 1000000000 ^ k := by
  induction k with
  | zero => simp
  | succ k ih => rw [Int.pow_succ, Int.pow_succ]; have := pow2_pos k; omega

/-- A slice in a block behind an owned row outlives what is appended to that row. -/
theorem sl_apart {w1 w4 w5 : World} {B : Nat} {v : Value} {xs zs : List Int} {a : Option Addr} {n c : Nat} {o : Obj} (s : Sl w4 a n c zs) (hown : Own w1 B v xs) (hnew : ∀ b o, a = some ⟨b, o, none⟩ → w1.heap.size ≤ b)
    (hs : (w4.alloc o).heap.size ≤ w5.heap.size) (hk : ∀ b, b < (w4.alloc o).heap.size → v.ownBlock ≠ some b → w5.heap[b]? = (w4.alloc o).heap[b]?) : Sl w5 a n c zs := by
  have s' := s.alloc o
  refine ⟨s'.len, s'.le, s'.nil, s'.sm, s'.lm, fun h0 => ?_⟩
  obtain ⟨b, off, rfl, hlt, hc⟩ := s'.at_ h0
  refine ⟨b, off, rfl, Nat.lt_of_lt_of_le hlt hs, fun i hi => ?_⟩
  rw [World.cell?_of_block (a := ⟨b, off + i, none⟩) (hk b hlt fun e => ?_)]
  · exact hc i hi
  · have h1 := (hown.1.lt b e).2
    have h2 := hnew b off rfl
    omega

/-- What the groups so far say. -/
structure Grp (V0 V : Int) (gs : List Int) : Prop where
  eq : V0 = V * 1000000000 ^ gs.length + gval gs
  gm : Gm gs
  top : V = 0 → Cn gs ∧ gs ≠ []
theorem Grp.step {V0 V : Int} {gs : List Int} (h : Grp V0 V gs) (hV : 0 < V) : Grp V0 (V / 1000000000) (gs ++ [V % 1000000000]) := by
  refine ⟨?_, ?_, fun e => ⟨?_, by simp⟩⟩
  · rw [h.eq, gval_snoc, List.length_append, List.length_singleton, Int.pow_succ]
    have := Int.emod_add_mul_ediv V 1000000000
    generalize V / 1000000000 = q at *
    generalize V % 1000000000 = r at *
    generalize (1000000000 : Int) ^ gs.length = P at *
    grind
  · intro x hx
    rcases List.mem_append.1 hx with h' | h'
    · exact h.gm x h'
    · simp only [List.mem_singleton] at h'
      rw [h']; omega
  · unfold Cn
    rw [List.getLast?_append]
    simp
    omega
theorem Grp.len {V0 V : Int} {gs : List Int} {n : Nat} (h : Grp V0 V gs) (hV : 0 < V) (hn : V0 < pw n) : gs.length < 32 * n := by
  apply Nat.lt_of_not_le
  intro hle
  have h1 := pow2_mono hle
  have h2 := pow2_p9 gs.length
  have h3 := gval_nonneg h.gm
  have h4 := h.eq
  rw [pw_two] at hn
  have h5 : (1000000000 : Int) ^ gs.length ≤ V * 1000000000 ^ gs.length := by
    have hp := pow2_pos gs.length
    have := Int.mul_le_mul_of_nonneg_right (show 1 ≤ V by omega) (show 0 ≤ (1000000000 : Int) ^ gs.length by omega)
    omega
  omega

/-- Text's first loop. -/
def Txt1 (w : World) (m : Nat) (V0 : Int) (va vg : Value) (N : Nat) (wr : World) : Prop :=
  Below w.heap.size w wr ∧ ∃ a n c us gs, va = .slice a n c ∧ Sl wr a n c us ∧ Cn us ∧ n ≤ m ∧ Own wr w.heap.size vg gs ∧ gs.length ≤ 700000 ∧ Grp V0 (val us) gs ∧ val us = N
/-- Text's second loop: k groups are still to come. -/
def Txt2 (w1 : World) (gs : List Int) (k : Nat) (wr : World) : Prop :=
  Below w1.heap.size w1 wr ∧ ∃ bs : List UInt8, Lib.IsBuilder 38 5 w1.heap.size w1.heap.size (Lib.byteCells bs) wr ∧ bs.length ≤ 9 * (gs.length - k) ∧ (k = gs.length → bs = []) ∧ (k < gs.length → bs = tx (gval (gs.drop k)).toNat)

theorem txt_first {gs : List Int} {k : Nat} (hg : Gm gs) (hc : Cn gs) (hk : k + 1 = gs.length) : (digs 9 (rdl gs k).toNat).dropWhile (· == 48) = tx (gval (gs.drop k)).toNat := by
  have h0 := gval_pos hg hc (k := k) (by omega)
  have e := gval_drop (xs := gs) (k := k) (by omega)
  rw [List.drop_of_length_le (by omega : gs.length ≤ k + 1), gval] at e
  have hb : rdl gs k < 1000000000 := by
    have h1 : rdl gs k = gs[k]'(by omega) := getD_in (by omega)
    rw [h1]
    exact (hg _ (List.getElem_mem _)).2
  rw [trim_digs 9 _ (by omega) (by omega)]
  congr 2
  omega
theorem txt_next {gs : List Int} {k : Nat} (hg : Gm gs) (hc : Cn gs) (hk : k + 1 < gs.length) : tx (gval (gs.drop (k + 1))).toNat ++ digs 9 (rdl gs k).toNat = tx (gval (gs.drop k)).toNat := by
  have h0 := gval_pos hg hc (k := k + 1) (by omega)
  have e := gval_drop (xs := gs) (k := k) (by omega)
  have hb : 0 ≤ rdl gs k ∧ rdl gs k < 1000000000 := by
    have h1 : rdl gs k = gs[k]'(by omega) := getD_in (by omega)
    rw [h1]
    exact hg _ (List.getElem_mem _)
  rw [← tx_digs 9 _ _ (by omega) (by omega)]
  congr 1
  omega

set_option maxHeartbeats 4000000 in
set_option maxRecDepth 100000 in
theorem text_any (a : Option Addr) (n c : Nat) (xs : List Int) (w : World) (h : Sl w a n c xs) (hn : n ≤ 20000) :
    Calls Tryd.prog 5 #[.slice a n c] w fun e w' => e = .returned (.string ⟨(tx (val xs).toNat).toArray⟩) ∧ Below w.heap.size w w' := by
  go_enter Tryd.func5, Tryd.ntmps5
  go_wp2_with fail
  refine (short_sl _ _ _ _ _ h).mono ?_
  rintro e w3 ⟨p, us, rfl, rfl, hu, hp, hcu, hvu⟩
  have HV := Lib.hid hvu
  clear hvu
  by_cases hp0 : p = 0
  · subst hp0
    have hv0 : Hid (val xs = 0) := by
      unfold Hid
      rw [← HV.out, List.eq_nil_of_length_eq_zero hu.len]; rfl
    go_wp2_with fail
    go_ret
    have e0 : tx (Int.toNat 0) = [48] := by rw [show Int.toNat 0 = 0 from rfl, tx_lt (by decide)]; rfl
    exact ⟨by rw [hv0.out, e0]; rfl, Below.refl _ _⟩
  have ep : ((p : Int) == 0) = false := by simp; omega
  have hpos := Lib.hid (Cn.pos hu.lm hcu (by intro e; have := hu.len; rw [e] at this; simp at this; omega))
  have hlt := Lib.hid (show val us < pw p by have := val_lt hu.lm; rwa [hu.len] at this)
  obtain ⟨N, hN⟩ : ∃ N, N = (val us).toNat := ⟨_, rfl⟩
  have HS : Hid (Txt1 w p (val us) (.slice a p p) (.slice none 0 0) N w) :=
    ⟨Below.refl _ _, a, p, p, us, [], rfl, hu, hcu, by omega, Own.nil _ _, by simp, ⟨by simp [gval], fun x hx => (by cases hx), fun e => by have := hpos.out; omega⟩, by have := hpos.out; omega⟩
  clear hN h hp0 hcu
  generalize val us = V0 at *
  clear hu us
  go_wp2_with fail
  go_loopg [0, 3] N (fun k va vg wr => Txt1 w p V0 va vg k wr)
  case atStart => exact HS.out
  case round =>
    obtain ⟨hb, a1, n1, c1, us1, gs, rfl, s1, hc1, l1, hown, hgl, hgr, hN⟩ := hrel
    rename World => w1
    have HN := Lib.hid hN
    have HC1 := Lib.hid hc1
    have HG := Lib.hid hgr
    clear hN hc1 hgr HS
    by_cases hn0 : n1 = 0
    · subst hn0
      have hz : val us1 = 0 := by rw [List.eq_nil_of_length_eq_zero s1.len]; rfl
      have hgv : Hid (gval gs = val xs) := by
        unfold Hid
        have := HG.out.eq
        rw [hz, Int.zero_mul, Int.zero_add] at this
        rw [← this]; exact HV.out
      obtain ⟨hcg, hne⟩ := HG.out.top hz
      have HCG := Lib.hid hcg
      have hgm := Lib.hid HG.out.gm
      have hl0 : 0 < gs.length := List.length_pos_iff.2 hne
      clear hz hcg hne HG HV
      obtain ⟨ag, cg, rfl, sg⟩ := hown.sl (by omega)
      obtain ⟨L, hL⟩ : ∃ L, L = gs.length := ⟨_, rfl⟩
      rw [← hL] at sg hl0 hgl ⊢
      have HL := Lib.hid hL
      clear hL hown
      go_wp2_with fail
      have HS2 : Hid (Txt2 w1 gs L (w1.alloc (.cells #[.pointer none, .slice none 0 0] 38))) :=
        ⟨below_alloc _ _, [], Lib.fresh_isBuilder _ _ _, by simp, fun _ => rfl, fun hh => by have := HL.out; omega⟩
      obtain ⟨B, hB⟩ : ∃ B, B = w1.heap.size := ⟨_, rfl⟩
      rw [← hB]
      have HB := Lib.hid hB
      clear hB
      go_loopw [7] (fun t w2 => ∃ k : Nat, k ≤ L ∧ t = .int .i64 ((k : Int) - 1) ∧ Txt2 w1 gs k w2) (fun t _ => (intOf t + 1).toNat)
      case atStart => exact ⟨L, by omega, rfl, HS2.out⟩
      case round =>
        obtain ⟨k, hk, rfl, hb2, bs, hbl, hlen, hfst, hnxt⟩ := hrel
        have HF := Lib.hid hfst
        have HX := Lib.hid hnxt
        have HB1 : Hid (Lib.IsBuilder 38 5 B B (Lib.byteCells bs) wr) := by unfold Hid; rw [HB.out]; exact hbl
        have hlen2 : bs.length ≤ 9 * L := by have := HL.out; omega
        have HLN := Lib.hid hlen
        have hBw : B ≤ wr.heap.size := by have := hb2.size; have := HB.out; omega
        have hb0 : Below w.heap.size w wr := chain hb hb2
        have sg2 := sg.kept hb2
        clear hfst hnxt hbl HS2 hlen
        cases k with
        | zero =>
          have hbs : Hid (bs = tx (val xs).toNat) := by
            have := HX.out (by have := HL.out; omega)
            rw [List.drop_zero, hgv.out] at this
            exact this
          have hne : bs ≠ [] := by rw [hbs.out]; exact tx_ne _
          go_wp2_with fail
          refine (string_any B B bs _ HB1.out hne).mono ?_
          rintro e w5 ⟨rfl, b5⟩
          go_wp2_with fail
          go_ret
          exact ⟨by rw [hbs.out]; rfl, hb0.trans (b5.mono (by have := hb.size; have := HB.out; omega))⟩
        | succ k =>
          obtain ⟨b1, o1, rfl, hlt1, hcell⟩ := sg2.at_ (by omega)
          have ck := hcell k (by omega)
          have bg : 0 ≤ rdl gs k ∧ rdl gs k < 1000000000 := by
            have h1 : rdl gs k = gs[k]'(by have := HL.out; omega) := getD_in (by have := HL.out; omega)
            rw [h1]
            exact hgm.out _ (List.getElem_mem _)
          clear hcell
          go_wp2_with fail
          refine (nine_any _ _ bg.1 (by omega)).mono ?_
          rintro e w5 ⟨rfl, b5⟩
          have HB5 := Lib.hid (isBuilder_kept HB1.out b5)
          have hBw5 : B ≤ w5.heap.size := by have := b5.size; omega
          have hb5 := chain hb2 b5
          clear hlt1 sg2
          by_cases hkL : k + 1 = L
          · have EF := Lib.hid (txt_first hgm.out HCG.out (show k + 1 = gs.length by rw [hkL]; exact HL.out))
            have ebs : Hid (bs = []) := HF.out (by rw [hkL]; exact HL.out)
            have heq : ((k : Int) == (L : Int) - 1) = true := by simp; omega
            go_wp2_with fail
            refine (trimLeft_any _ (by rw [Lib.size_mk, digs_len]; decide) _).mono ?_
            rintro e w6 ⟨rfl, rfl⟩
            obtain ⟨l, hl⟩ : ∃ l, l = (digs 9 (rdl gs k).toNat).dropWhile (· == 48) := ⟨_, rfl⟩
            have hll : l.length ≤ 9 := by
              rw [hl]
              refine Nat.le_trans (List.Sublist.length_le (List.dropWhile_sublist _)) ?_
              rw [digs_len]; omega
            have HLL := Lib.hid hl
            have es : (⟨(List.dropWhile (fun x => x == 48) ({ data := (digs 9 (rdl gs k).toNat).toArray } : ByteArray).data.toList).toArray⟩ : ByteArray) = ⟨l.toArray⟩ := by rw [hl]
            rw [es]
            clear es hl
            go_wp2_with fail
            refine (writeString_any B B (Lib.byteCells bs) ⟨l.toArray⟩ _ HB5.out (by rw [Lib.byteCells_length, Lib.size_mk]; omega) hBw5).mono ?_
            rintro e w7 ⟨rfl, hb7, bb7⟩
            go_wp2_with fail
            go_roundw
            case rel =>
              refine ⟨k, by omega, by simp; omega, ?_, l, ?_, ?_, fun e => ?_, fun _ => ?_⟩
              · have := HB.out; subst this; exact hb5.trans bb7
              · have := HB.out; subst this
                rw [ebs.out] at hb7
                exact .inr hb7
              · have := HL.out; omega
              · have := HL.out; omega
              · rw [HLL.out, EF.out]
            case measure => simp [intOf]; omega
          · have EN := Lib.hid (txt_next hgm.out HCG.out (show k + 1 < gs.length by have := HL.out; omega))
            have ebs : Hid (bs = tx (gval (gs.drop (k + 1))).toNat) := HX.out (by have := HL.out; omega)
            have hne : ((k : Int) == (L : Int) - 1) = false := by simp; omega
            obtain ⟨l, hl⟩ : ∃ l, l = digs 9 (rdl gs k).toNat := ⟨_, rfl⟩
            have hll : l.length = 9 := by rw [hl, digs_len]
            rw [← hl]
            have HLL := Lib.hid hl
            clear hl
            go_wp2_with fail
            refine (writeString_any B B (Lib.byteCells bs) ⟨l.toArray⟩ _ HB5.out (by rw [Lib.byteCells_length, Lib.size_mk]; omega) hBw5).mono ?_
            rintro e w7 ⟨rfl, hb7, bb7⟩
            go_wp2_with fail
            go_roundw
            case rel =>
              refine ⟨k, by omega, by simp, ?_, bs ++ l, ?_, ?_, fun e => ?_, fun _ => ?_⟩
              · have := HB.out; subst this; exact hb5.trans bb7
              · have := HB.out; subst this
                refine .inr ?_
                have e1 : Lib.byteCells (bs ++ l) = Lib.byteCells bs ++ Lib.strCells ⟨l.toArray⟩ := by simp [Lib.byteCells, Lib.strCells]
                rw [e1]
                exact hb7
              · rw [List.length_append]; have := HL.out; have := HLN.out; omega
              · have := HL.out; omega
              · rw [ebs.out, HLL.out, EN.out]
            case measure => simp [intOf]
    · have hpos1 := Lib.hid (Cn.pos s1.lm HC1.out (by intro e; have := s1.len; rw [e] at this; simp at this; omega))
      have hn1 : 0 < n1 := by omega
      have hgl2 := Lib.hid (HG.out.len hpos1.out hlt.out)
      have hgl3 : gs.length < 640000 := by have := hgl2.out; omega
      have HG2 := Lib.hid (HG.out.step hpos1.out)
      have r0 : 0 ≤ val us1 % 1000000000 := Int.emod_nonneg _ (by decide)
      have r1 : val us1 % 1000000000 < 1000000000 := Int.emod_lt_of_pos _ (by decide)
      clear hn0
      go_wp2_with fail
      refine (digit_fresh _ _ _ _ 1000000000 _ s1 (by decide) (by decide)).mono ?_
      rintro e w4 ⟨a4, n4, c4, x4, rfl, g4, hnew⟩
      have own4 := hown.kept g4.bel
      have b4 := chain hb g4.bel
      have V4 := Lib.hid g4.prop.2.1
      obtain ⟨r, hr⟩ : ∃ r, r = val us1 % 1000000000 := ⟨_, rfl⟩
      rw [← hr] at r0 r1 HG2 ⊢
      have l4 : n4 ≤ p := by have := g4.prop.2.2; have := g4.sl.len; omega
      clear hr
      go_wp2_with (at_builtin; refine wpList_append_u32 _ rfl _ _ rfl w.heap.size _ gs rfl (own4.alloc _) _ _ _ _ rfl (sl_one _ _ (by omega)) ?_ ?_ ?_)
      · omega
      · have := b4.size; simp; omega
      intro v' w5 own5 bel5 gs5 gb5
      have b5 := (chain_alloc b4 _).trans bel5
      have s5 : Sl w5 a4 n4 c4 x4 := sl_apart (o := .cells #[.int .u32 r] 32) g4.sl hown hnew (by first | exact gs5 | simpa using gs5) (by first | exact gb5 | simpa using gb5)
      go_wp2_with fail
      go_roundg (val x4).toNat
      case measure =>
        have h1 := V4.out
        have h2 := HN.out
        have h3 := hpos1.out
        have h4 : val us1 / 1000000000 < val us1 := Int.ediv_lt_self_of_pos_of_ne_one h3 (by decide)
        have h5 := val_nonneg g4.sl.lm
        omega
      case rel =>
        exact ⟨b5, _, _, _, x4, _, rfl, s5, g4.prop.1, l4, own5, by rw [List.length_append]; simp; omega, by rw [V4.out]; exact HG2.out, by have := val_nonneg g4.sl.lm; omega⟩
end Go.Proofs.YtaaolnepkgcbaaaDoor
