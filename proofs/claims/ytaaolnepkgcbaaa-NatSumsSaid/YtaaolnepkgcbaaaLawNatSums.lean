/-
  PROVED HERE: NatSums returns true for every input: the sum and the product of a list are those of its parts, 0 and 1 without terms. CONDITIONS: none beyond the row's own (the arguments can be read; the form's reach).
  The frame is the guide's shell of a law's proof, turned by hand to arguments that are slices of slices (Derived/Deep/Matrix.lean opens them); the walk is Sums's.
-/
import Derived.Test.YtaaolnepkgcbaaaRows
import Derived.Test.YtaaolnepkgcbaaaSums
import Derived.Deep.Matrix
import Derived.WalkKit
import Derived.ProofKit
import Derived.SizedLaws
import Derived.OpenShut
import Derived.ShutString
import Derived.ChangeOld
import Derived.Below
namespace Go.Proofs.Ytaaolnepkgcbaaa.natSums
open Go.ChangeShapes Go.WideShapes Go.ChangeAt Go.RowKit
set_option linter.unusedVariables false

theorem own : ownKnob Try.prog.godebug = none := by kernel_rfl
theorem laidOut : laidOutB Try.prog = true := by kernel_rfl
theorem bytesN : Try.prog.bytesOf 23 = 24 := by kernel_rfl

/-- A slice of slices of limbs that came in. -/
theorem opened {H : Type} {enc : TypeId × Value → H} {W : World} {a : Option Addr} {len cap fuel : Nat} {x : DataW H × List MemPlace} (hf : DataW.trod enc Try.prog W 0 (fun _ => true) true fuel 37 (Value.slice a len cap).cells.toList = some x) :
    (∃ A L C Z, MRow .u32 W a len cap A L C Z) ∧ (cap = 0 ∨ ∃ es sp, x.1 = .slice es sp ∧ es.length + sp.length = cap) := by
  rcases Go.Deep.open_int_rows Try.underlying37 Try.underlying23 Try.underlying39 (by kernel_rfl) (by kernel_rfl) hf with ⟨hcs, _⟩ | ⟨y, l, c, A, L, C, Z, hcs, _, hl, hm, hx, hr⟩
  · simp [Value.cells] at hcs
    obtain ⟨rfl, rfl, rfl⟩ := hcs
    exact ⟨⟨fun _ => none, fun _ => 0, fun _ => 0, fun _ => [], .inl ⟨rfl, rfl, rfl⟩⟩, .inl rfl⟩
  · simp [Value.cells] at hcs
    obtain ⟨rfl, rfl, rfl⟩ := hcs
    subst hx
    refine ⟨⟨A, L, C, Z, .inr ⟨y, rfl, hl, hm, fun r hlt => ?_⟩⟩, .inr ⟨_, _, rfl, ?_⟩⟩
    · obtain ⟨r0, r1, r2, r3, r4, r5, r6⟩ := hr r hlt
      exact ⟨r0, r1, r2, r3, r4, r5, fun a' ha => (r6 a' ha).2⟩
    · simp; omega

set_option maxRecDepth 100000 in
theorem lifted (os : Os) (started : os.Started) (H : Type) (enc : TypeId × Value → H) :
    ReturnsInHanded {} Try.checked os 5 .any (Rows.natSumsSpec.pre6 enc Try.prog Try.f5 Rows.natSumsRow.domain false) (Rows.natSumsSpec.post enc Try.prog Try.f5 false true false false) := by
  refine returnsInHanded_of_change_sized (C := Try.checked) own started (by kernel_rfl) Try.func5
    (ChangeSpec.witness6 (enc := enc) (C := Try.checked) false ⟨#[], #[.slice none 0 0, .slice none 0 0], []⟩ 8 (by kernel_rfl) (by kernel_rfl) (by kernel_rfl) (by kernel_rfl)) ?_
  intro W base args ds gs before hval0 hW hcnd hsz0 _
  have hval : ∀ (j : Nat) t v, Try.f5.params[j]? = some t → args[j]? = some v → Value.okWide Try.prog W .any base t v := hval0
  have hW' := hW
  obtain ⟨p, q, hA0, hV, rfl, hfz, hnd⟩ := hW
  have hA : DataW.TrodAll enc Try.prog W 0 (fun _ => true) true Try.f5.params.toList args.toList ds p := hA0
  have hsz : (DataW.weightsEach Try.prog (Try.f5.params.toList ++ Rows.natSumsSpec.plain.varTypes Try.prog) (ds ++ gs)).all (· ≤ reachBytes) = true := hsz0
  rw [Try.params5] at hA hval hsz
  obtain ⟨v0, vs0, d0, ds0, p0, q0, hargs, rfl, rfl, h0, r0⟩ := trodAll_cons hA
  obtain ⟨v1, vs1, d1, ds1, p1, q1, rfl, rfl, rfl, h1, r1⟩ := trodAll_cons r0
  obtain ⟨rfl, rfl, rfl⟩ := trodAll_nil r1
  obtain rfl : args = #[v0, v1] := by cases args; simp_all
  obtain ⟨rfl, rfl⟩ := trodVars_none hV
  obtain ⟨a0, len0, cap0, rfl⟩ := okWide_slice Try.underlying37 (hval 0 37 v0 rfl rfl)
  obtain ⟨a1, len1, cap1, rfl⟩ := okWide_slice Try.underlying37 (hval 1 37 v1 rfl rfl)
  have k0 := h0
  have lt0 : ∀ x ∈ p0, x.block < W.heap.size := by obtain ⟨m, hm⟩ := k0; exact DataW.trod_lt m _ _ _ hm
  have k1 := h1
  have lt1 : ∀ x ∈ p1, x.block < W.heap.size := by obtain ⟨m, hm⟩ := k1; exact DataW.trod_lt m _ _ _ hm
  obtain ⟨⟨A, L, C, Z, w0⟩, s0⟩ : (∃ A L C Z, MRow .u32 W a0 len0 cap0 A L C Z) ∧ cap0 ≤ 8796093022208 := by
    obtain ⟨fuel, hf⟩ := h0
    obtain ⟨hr, hc⟩ := opened hf
    refine ⟨hr, ?_⟩
    rcases hc with hc | ⟨es, sp, hx, hc⟩
    · omega
    · have hx' : d0 = .slice es sp := hx
      subst hx'
      have hbd := sized_slice hsz (j := 0) (t := 37) (e := 23) rfl rfl Try.underlying37
      rw [bytesN, hc, reachBytes] at hbd
      omega
  obtain ⟨⟨A', L', C', Z', w1⟩, s1⟩ : (∃ A L C Z, MRow .u32 W a1 len1 cap1 A L C Z) ∧ cap1 ≤ 8796093022208 := by
    obtain ⟨fuel, hf⟩ := h1
    obtain ⟨hr, hc⟩ := opened hf
    refine ⟨hr, ?_⟩
    rcases hc with hc | ⟨es, sp, hx, hc⟩
    · omega
    · have hx' : d1 = .slice es sp := hx
      subst hx'
      have hbd := sized_slice hsz (j := 1) (t := 37) (e := 23) rfl rfl Try.underlying37
      rw [bytesN, hc, reachBytes] at hbd
      omega
  clear hA0 hval0
  refine (sums_walk a0 a1 len0 cap0 len1 cap1 A A' L C L' C' Z Z' W w0 w1 s0 s1).mono fun e W' ⟨he, bel⟩ => ?_
  subst he
  exact ⟨_, rfl, _, _, _, [], _, [], hW', trodAll_mk1 (shut_bool Try.underlying4 _), (trodAll_cons_mk (Below.trod laidOut (by kernel_rfl) (of_decide_eq_true (by kernel_rfl)) k0 bel lt0) (trodAll_cons_mk (Below.trod laidOut (by kernel_rfl) (of_decide_eq_true (by kernel_rfl)) k1 bel lt1) trodAll_mk0)), rfl, bel.frame _, fun h => by cases h⟩

theorem over : Rows.natSumsRow.holds Try.pinned (OpenSpec.ofChange Rows.natSumsSpec) :=
  OpenClaim.holds_of_wide 5 Try.f5 rfl rfl rfl rfl rfl rfl rfl ⟨rfl, rfl, rfl, rfl, rfl⟩ rfl rfl rfl rfl rfl (by kernel_rfl) Try.func5 (by kernel_rfl)
    (of_decide_eq_true (by kernel_rfl)) (by unfold Func.isWrapper; first | (rw [if_pos (by decide +kernel)]; kernel_rfl) | (rw [if_neg (by decide +kernel)]; exact ⟨rfl, rfl⟩))
    (fun os started H enc _ => lifted os started H enc)

/-- ████ THE STATEMENT ████ -/
theorem proved : Rows.NatSumsSaid := over
#print axioms proved
end Go.Proofs.Ytaaolnepkgcbaaa.natSums
