/- The row of ChooseBound, out of the plain statement. -/
import Derived.Test.YtcaefoljlmdjaaaRows
import Derived.Test.YtcaefoljlmdjaaaCHx16
import Derived.Test.YtcaefoljlmdjaaaOpen
import Derived.Test.YtcaefoljlmdjaaaPureBound
import Derived.WalkKit
import Derived.ProofKit
import Derived.OpenShut
import Derived.ShutString
import Derived.ChangeOld
import Derived.Below
import Derived.SizedLaws
import Derived.Carry
namespace Go.Proofs.Ytcaefoljlmdjaaa.chooseBound
open Go.ChangeShapes Go.WideShapes Go.ChangeAt Go.RowKit Go.Proofs.YtcaefoljlmdjaaaW.PrintWords
set_option linter.unusedVariables false
theorem own : ownKnob Try.prog.godebug = none := by kernel_rfl
theorem laidOut : laidOutB Try.prog = true := by kernel_rfl
set_option maxRecDepth 100000 in
theorem lifted (os : Os) (started : os.Started) (H : Type) (enc : TypeId × Value → H) :
    ReturnsInHanded {} Try.checked os 11 .any (Rows.chooseBoundSpec.pre6 enc Try.prog Try.f11 Rows.chooseBoundRow.domain false) (Rows.chooseBoundSpec.post enc Try.prog Try.f11 false true false false) := by
  refine returnsInHanded_of_change_sized (C := Try.checked) own started (by kernel_rfl) Try.func11
    (ChangeSpec.witness6 (enc := enc) (C := Try.checked) false ⟨#[], #[.slice none 0 0, .slice none 0 0, .slice none 0 0], []⟩ 8 (by kernel_rfl) (by kernel_rfl) (by kernel_rfl) (by kernel_rfl)) ?_
  intro W base args ds gs before hval0 hW hcnd hsz0 _
  have hval : ∀ (j : Nat) t v, Try.f11.params[j]? = some t → args[j]? = some v → Value.okWide Try.prog W .any base t v := hval0
  have hW' := hW
  obtain ⟨p, q, hA0, hV, rfl, hfz, hnd⟩ := hW
  have hA : DataW.TrodAll enc Try.prog W 0 (fun _ => true) true Try.f11.params.toList args.toList ds p := hA0
  rw [Try.params11] at hA hval
  obtain ⟨v0, vs0, d0, ds0, p0, q0, hargs, rfl, rfl, h0, r0⟩ := trodAll_cons hA
  obtain ⟨v1, vs1, d1, ds1, p1, q1, rfl, rfl, rfl, h1, r1⟩ := trodAll_cons r0
  obtain ⟨v2, vs2, d2, ds2, p2, q2, rfl, rfl, rfl, h2, r2⟩ := trodAll_cons r1
  obtain ⟨rfl, rfl, rfl⟩ := trodAll_nil r2
  obtain rfl : args = #[v0, v1, v2] := by cases args; simp_all
  obtain ⟨rfl, rfl⟩ := trodVars_none hV
  obtain ⟨a0, len0, cap0, rfl⟩ := okWide_slice Try.underlying44 (hval 0 44 v0 rfl rfl)
  have k0 := h0
  have lt0 : ∀ x ∈ p0, x.block < W.heap.size := by obtain ⟨m, hm⟩ := k0; exact DataW.trod_lt m _ _ _ hm
  have o0 : ∃ xs : List (List Bool), xs.length = len0 ∧ len0 ≤ cap0 ∧ (Kd.slice 4 Kd.bool).C W a0 len0 xs := by
    obtain ⟨m, hm⟩ := k0
    obtain ⟨A, c, xs, e, g1, g2⟩ := CH.open_bool_rows Try.underlying44 (by kernel_rfl) Try.underlying61 (by kernel_rfl) Try.underlying4 hm
    simp [Value.cells] at e
    obtain ⟨rfl, rfl, rfl⟩ := e
    exact ⟨xs, rfl, g1, g2⟩
  obtain ⟨l0, rfl, c0, g0⟩ := o0
  obtain ⟨a1, len1, cap1, rfl⟩ := okWide_slice Try.underlying26 (hval 1 26 v1 rfl rfl)
  have k1 := h1
  have lt1 : ∀ x ∈ p1, x.block < W.heap.size := by obtain ⟨m, hm⟩ := k1; exact DataW.trod_lt m _ _ _ hm
  have o1 : ∃ xs : List Int, xs.length = len1 ∧ len1 ≤ cap1 ∧ (Kd.int .i64).C W a1 len1 xs ∧ ∀ n ∈ xs, (Lit.int .i64 n).wf = true := by
    obtain ⟨m, hm⟩ := k1
    obtain ⟨A, c, xs, e, g1, g2, g3⟩ := CH.open_int_row Try.underlying26 (by kernel_rfl) Try.underlying2 hm
    simp [Value.cells] at e
    obtain ⟨rfl, rfl, rfl⟩ := e
    exact ⟨xs, rfl, g1, g2, g3⟩
  obtain ⟨l1, rfl, c1, g1, y1⟩ := o1
  obtain ⟨a2, len2, cap2, rfl⟩ := okWide_slice Try.underlying26 (hval 2 26 v2 rfl rfl)
  have k2 := h2
  have lt2 : ∀ x ∈ p2, x.block < W.heap.size := by obtain ⟨m, hm⟩ := k2; exact DataW.trod_lt m _ _ _ hm
  have o2 : ∃ xs : List Int, xs.length = len2 ∧ len2 ≤ cap2 ∧ (Kd.int .i64).C W a2 len2 xs ∧ ∀ n ∈ xs, (Lit.int .i64 n).wf = true := by
    obtain ⟨m, hm⟩ := k2
    obtain ⟨A, c, xs, e, g1, g2, g3⟩ := CH.open_int_row Try.underlying26 (by kernel_rfl) Try.underlying2 hm
    simp [Value.cells] at e
    obtain ⟨rfl, rfl, rfl⟩ := e
    exact ⟨xs, rfl, g1, g2, g3⟩
  obtain ⟨l2, rfl, c2, g2, y2⟩ := o2
  clear hA0 hval0 hsz0
  obtain ⟨k, hk⟩ := Pure.Bound l0 (Kd.C_max g0) l1 (Kd.C_max g1) y1 l2 (Kd.C_max g2) y2
  refine (CH.swarflaw30_ChooseBound.calls k _ _ l0 _ _ l1 _ _ l2 true W g0 c0 g1 c1 g2 c2 hk).mono fun e W' ⟨he, bel⟩ => ?_
  subst he
  exact ⟨_, rfl, _, _, _, [], _, [], hW', trodAll_mk1 (shut_bool Try.underlying4 _), (trodAll_cons_mk (Below.trod laidOut (by kernel_rfl) (of_decide_eq_true (by kernel_rfl)) k0 bel lt0) (trodAll_cons_mk (Below.trod laidOut (by kernel_rfl) (of_decide_eq_true (by kernel_rfl)) k1 bel lt1) (trodAll_cons_mk (Below.trod laidOut (by kernel_rfl) (of_decide_eq_true (by kernel_rfl)) k2 bel lt2) trodAll_mk0))), rfl, bel.frame _, fun h => by cases h⟩
theorem over : Rows.chooseBoundRow.holds Try.pinned (OpenSpec.ofChange Rows.chooseBoundSpec) :=
  OpenClaim.holds_of_wide 11 Try.f11 rfl rfl rfl rfl rfl rfl rfl ⟨rfl, rfl, rfl, rfl, rfl⟩ rfl rfl rfl rfl rfl (by kernel_rfl) Try.func11 (by kernel_rfl)
    (of_decide_eq_true (by kernel_rfl)) (by unfold Func.isWrapper; first | (rw [if_pos (by decide +kernel)]; kernel_rfl) | (rw [if_neg (by decide +kernel)]; exact ⟨rfl, rfl⟩))
    (fun os started H enc _ => lifted os started H enc)
theorem proved : Rows.ChooseBoundSaid := over
#print axioms proved
end Go.Proofs.Ytcaefoljlmdjaaa.chooseBound
namespace Go.Proofs.Ytcaefoljlmdjaaa
/-- The row, under a short name, for the claim. -/
theorem chooseBound_holds : Rows.ChooseBoundSaid := chooseBound.proved
end Go.Proofs.Ytcaefoljlmdjaaa
