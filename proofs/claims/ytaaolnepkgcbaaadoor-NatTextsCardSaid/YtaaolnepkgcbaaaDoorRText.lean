/- ref.Text. -/
import Derived.Test.YtaaolnepkgcbaaaDoorTextN
namespace Go.Proofs.YtaaolnepkgcbaaaDoor
open Go.RowKit Lb
set_option linter.unusedVariables false

/-- What ref.Text's loop says: V is still to come, l are the digits so far. -/
def TxR (V0 V : Nat) (l : List UInt8) : Prop := (0 < V → tx V0 = tx V ++ l) ∧ (V = 0 → (l = [] ∧ V0 = 0) ∨ (l ≠ [] ∧ tx V0 = l))
theorem TxR.start (V : Nat) : TxR V V [] := ⟨fun _ => by simp, fun e => .inl ⟨rfl, e⟩⟩
theorem TxR.step {V0 V : Nat} {l : List UInt8} (h : TxR V0 V l) (hgo : 0 < V ∨ l = []) : TxR V0 (V / 10) (dgt V :: l) := by
  by_cases h10 : 10 ≤ V
  · refine ⟨fun _ => ?_, fun e => by omega⟩
    rw [h.1 (by omega), tx_ge h10, List.append_assoc]; rfl
  · refine ⟨fun e => by omega, fun _ => .inr ⟨by simp, ?_⟩⟩
    by_cases h0 : 0 < V
    · rw [h.1 h0, tx_lt (by omega)]; rfl
    · have hV : V = 0 := by omega
      rcases h.2 hV with ⟨hl, h0⟩ | ⟨hl, _⟩
      · rw [h0, hl, hV, tx_lt (by omega)]
      · rcases hgo with hg | hg
        · omega
        · exact absurd hg hl
theorem TxR.len {V0 V : Nat} {l : List UInt8} (h : TxR V0 V l) : l.length ≤ (tx V0).length := by
  by_cases h0 : 0 < V
  · rw [h.1 h0, List.length_append]; omega
  · rcases h.2 (by omega) with ⟨hl, _⟩ | ⟨_, hl⟩
    · rw [hl]; simp
    · rw [hl]; exact Nat.le_refl _
theorem TxR.stop {V0 : Nat} {l : List UInt8} (h : TxR V0 0 l) (hl : l ≠ []) : tx V0 = l := by
  rcases h.2 rfl with ⟨h', _⟩ | ⟨_, h'⟩
  · exact absurd h' hl
  · exact h'
theorem tx_len_limbs {xs : List Int} {n : Nat} (hl : Lm xs) (hn : xs.length = n) : (tx (val xs).toNat).length ≤ 10 * n + 1 := by
  apply tx_len _ _ (by omega)
  have h1 := val_lt hl
  have h0 := val_nonneg hl
  rw [hn] at h1
  have h2 : pw n = ((4294967296 ^ n : Nat) : Int) := by unfold pw; rw [Int.natCast_pow]; rfl
  rw [h2] at h1
  have h3 : (4294967296 : Nat) ^ n ≤ (10 ^ 10) ^ n := Nat.pow_le_pow_left (by decide) n
  rw [← Nat.pow_mul] at h3
  have h4 : (10 : Nat) ^ (10 * n) ≤ 10 ^ (10 * n + 1) := Nat.pow_le_pow_right (by decide) (by omega)
  omega

/-- A slice of bytes in memory below M. -/
structure Sb (w : World) (M : Nat) (a : Option Addr) (n c : Nat) (l : List UInt8) : Prop where
  len : l.length = n
  nil : a = none → c = 0 ∧ n = 0
  le : M ≤ w.heap.size
  at_ : ∀ x, a = some x → ∃ b o, x = ⟨b, o, none⟩ ∧ b < M ∧ ∀ i (hi : i < l.length), w.cell? ⟨b, o + i, none⟩ = some (.int .u8 (l[i].toNat : Int))
theorem Sb.kept {w w' : World} {M : Nat} {a : Option Addr} {n c : Nat} {l : List UInt8} (h : Sb w M a n c l) (hb : Below M w w') : Sb w' M a n c l := by
  refine ⟨h.len, h.nil, Nat.le_trans h.le hb.size, fun x hx => ?_⟩
  obtain ⟨b, o, rfl, hlt, hc⟩ := h.at_ x hx
  exact ⟨b, o, rfl, hlt, fun i hi => (hb.cell (p := ⟨b, o + i, none⟩) hlt).trans (hc i hi)⟩

/-- 'append([]byte{d}, out...)'. -/
theorem wpList_append_bytes (w : World) {ops : Array Oper} {rest : List Oper} {o : Oper} {a : Act} {Q : Exit → Act → World → Prop} (hgd : o.guard = none) (s x : Operand)
    (ho : o.op = .call { callee := .builtin .append, args := #[s, x], argTypes := #[36, 36] }) (d : UInt8) (dv : Int) (hd : dv = (d.toNat : Int)) (hs : a.eval s = .slice (some ⟨w.heap.size, 0, none⟩) 1 1)
    (M : Nat) (ad : Option Addr) (m c : Nat) (l : List UInt8) (hx : a.eval x = .slice ad m c) (hsl : Sb w M ad m c l) (hn : 1 + m ≤ 2097152)
    (h : ∀ aa cc w', Sb w' w'.heap.size (some aa) (1 + m) cc (d :: l) → Below w.heap.size w w' → wpList Tryd.prog ops Q rest (a.put o.dst (.slice (some aa) (1 + m) cc)) w') : wpList Tryd.prog ops Q (o :: rest) a (w.alloc (.cells #[.int .u8 dv] 5)) := by
  obtain ⟨i, hi, hz, h1, h2⟩ := info_parts infoByte
  subst hd
  have hown : (w.alloc (.cells #[.int .u8 (d.toNat : Int)] 5)).ownsRow w.heap.size 5 1 (.slice (some ⟨w.heap.size, 0, none⟩) 1 1) 1 [.int .u8 (d.toNat : Int)] :=
    ⟨by simp, .inr ⟨w.heap.size, 1, #[.int .u8 (d.toNat : Int)], rfl, Nat.le_refl _, heap_alloc_new w _, Nat.le_refl _, by unfold maxLen; omega, rfl, rfl⟩⟩
  have fin : ∀ v' w', w'.ownsRow w.heap.size 5 1 v' (1 + m) ([.int .u8 (d.toNat : Int)] ++ Lib.byteCells l) → Below w.heap.size w w' → wpList Tryd.prog ops Q rest (a.put o.dst v') w' := by
    intro v' w' hw hb
    have hw' := hw
    rcases hw.2 with ⟨_, h0⟩ | ⟨g, cap, cur, rfl, hg, hh, _⟩
    · omega
    · refine h _ _ _ ⟨by simp [hsl.len]; omega, (fun e => by cases e), Nat.le_refl _, fun x hx => ?_⟩ hb
      cases hx
      refine ⟨g, 0, rfl, (Array.getElem?_eq_some_iff.1 hh).1, fun j hj => ?_⟩
      have e1 : ([.int .u8 (d.toNat : Int)] ++ Lib.byteCells l : List Value) = Lib.byteCells (d :: l) := by simp [Lib.byteCells]
      rw [e1] at hw'
      rw [Nat.zero_add, hw'.cellAt j (by simp [hsl.len] at hj; omega)]
      unfold Lib.byteCells
      rw [List.getElem?_map, List.getElem?_eq_getElem hj]
      rfl
  rcases ad with _ | ad
  · obtain ⟨rfl, rfl⟩ := hsl.nil rfl
    have hy : l = [] := List.eq_nil_of_length_eq_zero hsl.len
    subst hy
    refine wpList_append_own_none hgd s x 36 ho w.heap.size 5 i 1 Tryd.underlying36 hi _ _ _ hs hown hx (fin _ _ ?_ (below_alloc _ _))
    simpa [Lib.byteCells] using hown
  · obtain ⟨b, off, rfl, hlt, hc⟩ := hsl.at_ ad rfl
    refine wpList_append_own _ hgd s x 36 ho w.heap.size 5 i (.int .u8 0) 1 1 Tryd.underlying36 hi hz h1 h2 rfl (by decide) _ _ _ hs hown ⟨b, off, none⟩ m c (Lib.byteCells l) hx (by rw [Lib.byteCells_length, hsl.len, Nat.mul_one]) ?_ ?_ (by unfold maxLen; omega) (by omega) (by simp) ?_
    · intro j u hj
      have hjl : j < l.length := by
        apply Nat.lt_of_not_le
        intro h'
        rw [List.getElem?_eq_none (by rw [Lib.byteCells_length]; exact h')] at hj; cases hj
      have e2 : u = .int .u8 (l[j].toNat : Int) := by
        simp [Lib.byteCells, List.getElem?_eq_getElem hjl] at hj
        exact hj.symm
      rw [Go.WideShapes.add_plain, e2]
      exact ((below_alloc w _).cell (p := ⟨b, off + j, none⟩) (show b < w.heap.size by have := hsl.le; omega)).trans (hc j hjl)
    · intro u hu
      obtain ⟨x', _, rfl⟩ := List.mem_map.1 hu
      rfl
    · intro v' w' ho' hgr _
      exact fin v' w' ho' ((below_alloc w _).grown hgr (by simp) (fun k hk => by simp [Value.ownBlock] at hk; omega))

theorem Row.own {w : World} {g c M : Nat} {xs : List Int} (h : Row w g c xs) (hM : M ≤ g) : Own w M (.slice (some ⟨g, 0, none⟩) xs.length c) xs := by
  refine ⟨⟨h.1.1, ?_⟩, h.2⟩
  rcases h.1.2 with h' | ⟨g', cap, cur, hv, hg, hh, r⟩
  · exact .inl h'
  · exact .inr ⟨g', cap, cur, hv, Nat.le_trans hM hg, hh, r⟩

/-- The inner loop: us is divided by 10 in place. -/
def PlRel (w1 : World) (M : Nat) (va : Value) (us : List Int) (k : Nat) (rem : Int) (wr : World) : Prop :=
  0 ≤ rem ∧ rem < 10 ∧ Below M w1 wr ∧ ∃ os, os.length = us.length ∧ Own wr M va os ∧ os.take k = us.take k ∧ val (us.drop k) = 10 * val (os.drop k) + rem
theorem PlRel.step {w1 wr : World} {M g n c k : Nat} {us os : List Int} {rem : Int} (hr0 : 0 ≤ rem) (hr1 : rem < 10) (hb : Below M w1 wr) (hl : os.length = us.length) (hrow : Row wr g c os) (hMg : M ≤ g) (hn : us.length = n) (hk : k < n) (hx : Lm us)
    (htk : os.take (k + 1) = us.take (k + 1)) (inv : val (us.drop (k + 1)) = 10 * val (os.drop (k + 1)) + rem) :
    PlRel w1 M (.slice (some ⟨g, 0, none⟩) n c) us k ((rem * 4294967296 + rdl us k) % 10) (wr.setCell ⟨g, k, none⟩ (.int .u32 ((rem * 4294967296 + rdl us k) / 10))) := by
  have bx := rdl_bd hx k
  have d := div_step (b := 10) (q := 0) (r := 0) (by decide) (by decide) hr0 hr1 bx.1 bx.2
  refine ⟨d.2.2.1, d.2.2.2, hb.setCell (p := ⟨g, k, none⟩) hMg _, os.set k ((rem * 4294967296 + rdl us k) / 10), by rw [List.length_set]; exact hl, ?_, ?_, div_next (by omega) inv⟩
  · have := (hrow.set k d.1 d.2.1).own hMg
    rw [List.length_set, hl, hn] at this
    exact this
  · rw [set_take (Nat.le_refl _)]
    have := congrArg (List.take k) htk
    rwa [List.take_take, List.take_take, Nat.min_eq_left (by omega)] at this
theorem rdl_take {os us : List Int} {k : Nat} (h : os.take (k + 1) = us.take (k + 1)) : rdl os k = rdl us k := by
  have := congrArg (fun l => l.getD k 0) h
  simp only [List.getD_eq_getElem?_getD, List.getElem?_take_of_lt (Nat.lt_succ_self k)] at this
  unfold rdl
  rw [List.getD_eq_getElem?_getD, List.getD_eq_getElem?_getD]
  exact this
theorem dgt_of_div {V Q rem : Int} (h : V = 10 * Q + rem) (h0 : 0 ≤ rem) (h1 : rem < 10) (hQ : 0 ≤ Q) : 48 + rem = ((dgt V.toNat).toNat : Int) ∧ Q.toNat = V.toNat / 10 := by
  rw [dgt_nat]
  omega
/-- The outer loop. -/
def RTx (w : World) (m : Nat) (V0 : Nat) (va vo : Value) (N : Nat) (wr : World) : Prop :=
  Below w.heap.size w wr ∧ ∃ M a n c us ao mo co l, w.heap.size ≤ M ∧ va = .slice a n c ∧ Own wr M va us ∧ us.length = n ∧ Cn us ∧ n ≤ m ∧ vo = .slice ao mo co ∧ Sb wr M ao mo co l ∧ TxR V0 (val us).toNat l ∧ N = 2 * (val us).toNat + (if l = [] then 1 else 0)

set_option maxHeartbeats 1000000 in
set_option maxRecDepth 100000 in
theorem rtext_any (a : Option Addr) (n c : Nat) (xs : List Int) (w : World) (h : Sl w a n c xs) (hn : n ≤ 20000) :
    Calls Tryd.prog 7 #[.slice a n c] w fun e w' => e = .returned (.string ⟨(tx (val xs).toNat).toArray⟩) ∧ Below w.heap.size w w' := by
  have hT := tx_len_limbs h.lm h.len
  have HT := Lib.hid hT
  clear hT
  go_enter Tryd.func7, Tryd.ntmps7
  go_wp2_with fail
  refine (rtrim_own _ _ _ _ _ h).mono ?_
  rintro e w3 ⟨va, us, rfl, hown, hb3, hsm, hcn, hva, hln⟩
  obtain ⟨N, hN⟩ : ∃ N, N = 2 * (val us).toNat + (if ([] : List UInt8) = [] then 1 else 0) := ⟨_, rfl⟩
  obtain ⟨a3, c3, rfl, s3⟩ := hown.sl hsm
  have HS : Hid (RTx w n (val xs).toNat (.slice a3 us.length c3) (.slice none 0 0) N w3) :=
    ⟨hb3, w.heap.size, a3, us.length, c3, us, none, 0, 0, [], Nat.le_refl _, rfl, hown, rfl, hcn, hln, rfl, ⟨rfl, fun _ => ⟨rfl, rfl⟩, hb3.size, fun x hx => by cases hx⟩, by rw [hva]; exact TxR.start _, hN⟩
  clear hN hown hb3 hsm hcn hva s3
  obtain ⟨n3, hn3⟩ : ∃ n3, n3 = us.length := ⟨_, rfl⟩
  rw [← hn3] at HS hln ⊢
  clear hn3 us h
  go_wp2_with fail
  go_loopg [0, 3] N (fun k va vo wr => RTx w n (val xs).toNat va vo k wr)
  case atStart => exact HS.out
  case round =>
    obtain ⟨hb, M, a1, n1, c1, us, ao, mo, co, l, hM, rfl, hown, hul, hcn, hnn, rfl, hsb, htx, hN⟩ := hrel
    rename World => w1
    have HTX := Lib.hid htx
    have HN := Lib.hid hN
    have HCN := Lib.hid hcn
    have hml := hsb.len
    have HLE := Lib.hid (htx.len)
    clear htx hN hcn HS
    by_cases hgo : 0 < n1 ∨ mo = 0
    · have hgo2 : Hid (0 < (val us).toNat ∨ l = []) := by
        unfold Hid
        rcases hgo with h | h
        · left
          have := Cn.pos hown.2 HCN.out (by intro e; rw [e] at hul; simp at hul; omega)
          omega
        · right
          exact List.eq_nil_of_length_eq_zero (by omega)
      have hml2 : mo ≤ 10 * n + 1 := by have := HLE.out; have := HT.out; omega
      by_cases hn0 : 0 < n1
      all_goals try (have em0 : ((mo : Int) == 0) = true := by (have : mo = 0 := by omega); simp; omega)
      all_goals
        clear hgo
        go_wp2_with fail
        go_loopw [4, 5] (fun r t w2 => ∃ (k : Nat) (rem : Int), k ≤ n1 ∧ t = .int .i64 ((k : Int) - 1) ∧ r = .int .u64 rem ∧ PlRel w1 M (.slice a1 n1 c1) us k rem w2) (fun _ t _ => (intOf t + 1).toNat)
        case atStart => exact ⟨n1, 0, Nat.le_refl _, rfl, rfl, by omega, by omega, Below.refl _ _, us, rfl, hown, rfl, by rw [List.drop_of_length_le (by rw [hul]; exact Nat.le_refl _)]; simp [val]⟩
        case round =>
          obtain ⟨k, rem, hk, rfl, rfl, hr0, hr1, hb2, os, hl, hown2, htk, inv⟩ := hrel
          have INV := Lib.hid inv
          have HTK := Lib.hid htk
          clear inv htk
          have hbM : Below w.heap.size w wr := hb.trans (hb2.mono (Nat.le_trans hM (Nat.le_refl _)))
          cases k with
          | zero =>
            have hos := val_nonneg hown2.2
            obtain ⟨hd1, hd2⟩ := dgt_of_div (show val us = 10 * val os + rem from INV.out) hr0 hr1 hos
            have HD1 := Lib.hid hd1
            have HD2 := Lib.hid hd2
            have hsb2 := hsb.kept hb2
            clear hd1 hd2 hos
            go_wp2_with (at_builtin; refine wpList_append_bytes _ rfl _ _ rfl (dgt (val us).toNat) _ ?_ rfl M _ _ _ l rfl hsb2 ?_ ?_)
            · exact HD1.out
            · omega
            intro aa cc w5 hsb5 hb5
            have own5 := hown2.kept hb5
            obtain ⟨a5, c5, e5, s5⟩ := own5.sl (by omega)
            simp only [Value.slice.injEq] at e5
            obtain ⟨rfl, e6, rfl⟩ := e5
            rw [← e6] at s5
            clear e6 own5
            go_wp2_with fail
            refine (rtrim_own _ _ _ _ _ s5).mono ?_
            rintro e w6 ⟨vb, ts, rfl, own6, hb6, hsm6, hc6, hv6, hl6⟩
            have sb6 := hsb5.kept hb6
            obtain ⟨a6, c6, rfl, _⟩ := own6.sl hsm6
            have HTX2 := Lib.hid (HTX.out.step hgo2.out)
            have HV6 := Lib.hid hv6
            have HC6 := Lib.hid hc6
            have hb7 := chain (chain hbM hb5) hb6
            clear hv6 hc6
            go_wp2_with fail
            go_roundg (2 * (val ts).toNat)
            case measure =>
              have h1 := HN.out
              have h2 := HV6.out
              have h3 := HD2.out
              have h4 := hgo2.out
              rw [h1]
              rcases h4 with h4 | h4
              · omega
              · rw [if_pos h4]; omega
            case rel =>
              refine ⟨hb7, w5.heap.size, _, _, _, ts, _, _, _, _, ?_, rfl, own6, rfl, HC6.out, by omega, rfl, sb6, ?_, by simp⟩
              · have := hbM.size; have := hb5.size; omega
              · rw [HV6.out, HD2.out]; exact HTX2.out
          | succ k =>
            first | (exfalso; omega) | skip
            all_goals
              obtain ⟨g, cg, hv, hMg, hrow⟩ := hown2.row (by rw [hl, hul]; omega)
              simp only [Value.slice.injEq] at hv
              obtain ⟨rfl, _, rfl⟩ := hv
              have hfr := hrow.free k
              have hoc := hrow.cell (i := k) (by rw [hl, hul]; omega)
              rw [rdl_take HTK.out] at hoc
              have bx := rdl_bd hown.2 k
              have bx0 := bx.1
              have bx1 := bx.2
              have hS0 : 0 ≤ rem * 4294967296 + rdl us k := by omega
              have hkl : k < n1 := by omega
              have HL := Lib.hid hl
              have HUL := Lib.hid hul
              clear hl
              go_wp2_with fail
              go_roundw
              case rel => exact ⟨k, _, by omega, by simp, rfl, PlRel.step hr0 hr1 hb2 HL.out hrow hMg HUL.out (by omega) hown.2 HTK.out INV.out⟩
              case measure => simp [intOf]
    · have hn0 : n1 = 0 := by omega
      have em0 : ((mo : Int) == 0) = false := by simp; omega
      have hl0 : l ≠ [] := by intro e; rw [e] at hml; simp at hml; omega
      have ev : Hid (tx (val xs).toNat = l) := by
        have := HTX.out
        rw [List.eq_nil_of_length_eq_zero (show us.length = 0 by omega)] at this
        exact this.stop hl0
      obtain ⟨x, rfl⟩ : ∃ x, ao = some x := by
        cases ao with
        | none => exact absurd (hsb.nil rfl).2 (by omega)
        | some x => exact ⟨x, rfl⟩
      obtain ⟨b1, o1, rfl, hlt1, hc⟩ := hsb.at_ x rfl
      have hconv : (convert 36 9 (.slice (some ⟨b1, o1, none⟩) mo co)).run Tryd.prog w1 = .ok (.string ⟨l.toArray⟩) w1 := by
        have := run_convert_bytes_back (P := Tryd.prog) w1 36 9 5 ⟨b1, o1, none⟩ co l Tryd.underlying36 Tryd.underlying5 Tryd.underlying9 (fun j hj => by
          rw [Go.WideShapes.add_plain]; exact hc j hj)
        rw [hml] at this
        exact this
      clear hgo hc
      go_wp2_with fail
      go_ret
      exact ⟨by rw [ev.out]; rfl, hb⟩
end Go.Proofs.YtaaolnepkgcbaaaDoor
