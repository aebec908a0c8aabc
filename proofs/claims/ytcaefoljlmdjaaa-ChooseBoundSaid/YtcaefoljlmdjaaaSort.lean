/- slices.Sort at []int: the library's contract, taken over this program. -/
import Derived.Test.YtcaefoljlmdjaaaCHx0
import Derived.Shelf.Sort.Plain
import Derived.Sort.OwnSortedInts
namespace Go.Proofs.Ytcaefoljlmdjaaa.CH
open Go.RowKit Go.Sort Go.Proofs.YtcaefoljlmdjaaaW.PrintWords Go.Proofs.YtcaefoljlmdjaaaW.PrintLast Go.Proofs.YtcaefoljlmdjaaaW.PrintMore
set_option linter.unusedVariables false
set_option linter.unusedSimpArgs false
def lays189_ren : Go.Shelf.Ren := ⟨fun | 189 => 70 | 125 => 84 | 257 => 83 | 128 => 98 | 129 => 99 | 294 => 89 | 295 => 90 | 296 => 91 | 297 => 92 | 298 => 93 | 299 => 94 | 216 => 95 | 300 => 96 | 301 => 97 | 328 => 107 | 329 => 108 | 330 => 109 | 331 => 110 | 332 => 111 | 215 => 88 | 343 => 120 | n => n, fun | 28 => 49 | 3 => 3 | 46 => 105 | 0 => 0 | 51 => 120 | 53 => 87 | 4 => 4 | 183 => 112 | 182 => 111 | 131 => 117 | 5 => 5 | 9 => 9 | 218 => 136 | 222 => 140 | 228 => 151 | 229 => 152 | n => n, fun | n => n⟩
theorem lays189 : Go.Proofs.Lays.n189 Try.prog lays189_ren := {
  mixed := by kernel_rfl
  f125 := Try.func84.trans (congrArg some (by kernel_rfl))
  f128 := Try.func98.trans (congrArg some (by kernel_rfl))
  f129 := Try.func99.trans (congrArg some (by kernel_rfl))
  f189 := Try.func70.trans (congrArg some (by kernel_rfl))
  f215 := Try.func88.trans (congrArg some (by kernel_rfl))
  f216 := Try.func95.trans (congrArg some (by kernel_rfl))
  f257 := Try.func83.trans (congrArg some (by kernel_rfl))
  f294 := Try.func89.trans (congrArg some (by kernel_rfl))
  f295 := Try.func90.trans (congrArg some (by kernel_rfl))
  f296 := Try.func91.trans (congrArg some (by kernel_rfl))
  f297 := Try.func92.trans (congrArg some (by kernel_rfl))
  f298 := Try.func93.trans (congrArg some (by kernel_rfl))
  f299 := Try.func94.trans (congrArg some (by kernel_rfl))
  f300 := Try.func96.trans (congrArg some (by kernel_rfl))
  f301 := Try.func97.trans (congrArg some (by kernel_rfl))
  f328 := Try.func107.trans (congrArg some (by kernel_rfl))
  f329 := Try.func108.trans (congrArg some (by kernel_rfl))
  f330 := Try.func109.trans (congrArg some (by kernel_rfl))
  f331 := Try.func110.trans (congrArg some (by kernel_rfl))
  f332 := Try.func111.trans (congrArg some (by kernel_rfl))
  f343 := Try.func120.trans (congrArg some (by kernel_rfl))
  t0 := Try.underlying0
  a0 := Try.isAgg0
  z0 := Try.sizeOf0
  v0 := Try.zeroValue0
  t3 := Try.underlying3
  a3 := Try.isAgg3
  z3 := Try.sizeOf3
  v3 := Try.zeroValue3
  t4 := Try.underlying4
  a4 := Try.isAgg4
  z4 := Try.sizeOf4
  v4 := Try.zeroValue4
  t5 := Try.underlying5
  a5 := Try.isAgg5
  z5 := Try.sizeOf5
  v5 := Try.zeroValue5
  t9 := Try.underlying9
  a9 := Try.isAgg9
  z9 := Try.sizeOf9
  v9 := Try.zeroValue9
  t28 := Try.underlying49
  a28 := Try.isAgg49
  z28 := Try.sizeOf49
  v28 := Try.zeroValue49
  t46 := Try.underlying105
  a46 := Try.isAgg105
  z46 := Try.sizeOf105
  v46 := Try.zeroValue105
  t51 := Try.underlying120
  a51 := Try.isAgg120
  z51 := Try.sizeOf120
  v51 := Try.zeroValue120
  t53 := Try.underlying87
  a53 := Try.isAgg87
  z53 := Try.sizeOf87
  v53 := Try.zeroValue87
  t131 := Try.underlying117
  a131 := Try.isAgg117
  z131 := Try.sizeOf117
  v131 := Try.zeroValue117
  t182 := Try.underlying111
  a182 := Try.isAgg111
  z182 := Try.sizeOf111
  v182 := Try.zeroValue111
  t183 := Try.underlying112
  a183 := Try.isAgg112
  z183 := Try.sizeOf112
  v183 := Try.zeroValue112
  t218 := Try.underlying136
  a218 := Try.isAgg136
  z218 := Try.sizeOf136
  v218 := Try.zeroValue136
  t222 := Try.underlying140
  a222 := Try.isAgg140
  z222 := Try.sizeOf140
  v222 := Try.zeroValue140
  t228 := Try.underlying151
  a228 := Try.isAgg151
  z228 := Try.sizeOf151
  v228 := Try.zeroValue151
  t229 := Try.underlying152
  a229 := Try.isAgg152
  z229 := Try.sizeOf152
  v229 := Try.zeroValue152 }
def ins (x : Int) : List Int → List Int
  | [] => [x]
  | y :: l => if x ≤ y then x :: y :: l else y :: ins x l
/-- a list in ascending order -/
def isort : List Int → List Int
  | [] => []
  | x :: l => ins x (isort l)
theorem ins_perm (x : Int) : ∀ l : List Int, List.Perm (ins x l) (x :: l)
  | [] => List.Perm.refl _
  | y :: l => by
    unfold ins
    split
    · exact List.Perm.refl _
    · exact ((ins_perm x l).cons y).trans (List.Perm.swap x y l)
theorem isort_perm : ∀ l : List Int, List.Perm (isort l) l
  | [] => List.Perm.refl _
  | x :: l => (ins_perm x (isort l)).trans ((isort_perm l).cons x)
theorem ins_sorted (x : Int) : ∀ l : List Int, l.Pairwise (· ≤ ·) → (ins x l).Pairwise (· ≤ ·)
  | [], _ => by simp [ins]
  | y :: l, h => by
    rw [List.pairwise_cons] at h
    unfold ins
    split
    · rename_i hxy
      rw [List.pairwise_cons, List.pairwise_cons]
      refine ⟨fun z hz => ?_, h.1, h.2⟩
      rcases List.mem_cons.1 hz with rfl | hz
      · exact hxy
      · exact Int.le_trans hxy (h.1 z hz)
    · rename_i hxy
      rw [List.pairwise_cons]
      refine ⟨fun z hz => ?_, ins_sorted x l h.2⟩
      rcases List.mem_cons.1 ((ins_perm x l).mem_iff.1 hz) with rfl | hz
      · omega
      · exact h.1 z hz
theorem isort_sorted : ∀ l : List Int, (isort l).Pairwise (· ≤ ·)
  | [] => List.Pairwise.nil
  | x :: l => ins_sorted x _ (isort_sorted l)
theorem isort_length (l : List Int) : (isort l).length = l.length := (isort_perm l).length_eq
theorem isort_merge (l : List Int) : (l.mergeSort fun x y => decide (x ≤ y)) = isort l := by
  refine List.Perm.eq_of_pairwise (le := fun a b : Int => a ≤ b) (fun a b _ _ h1 h2 => Int.le_antisymm h1 h2) ?_ (isort_sorted l) ((List.mergeSort_perm l _).trans (isort_perm l).symm)
  have h := List.pairwise_mergeSort (le := fun x y : Int => decide (x ≤ y)) (fun a b c h1 h2 => by simp at *; omega) (fun a b => by simp; omega) l
  exact h.imp (fun h => by simpa using h)
def slices_Sort_int_int.f (_ : Nat) (l0 : List Int) : Option (List Int) := if l0.length < 4611686018427387904 then some (isort l0) else none
theorem slices_Sort_int_int.mono : ∀ a0 k, LeO (slices_Sort_int_int.f k a0) (slices_Sort_int_int.f (k + 1) a0) := fun _ _ => LeO.refl _
theorem sort_nil (w : World) : Calls Try.prog 70 #[.slice none 0 0] w fun e w' => e = .returned (.tuple #[]) ∧ w' = w := by
  go_enter Try.func70, Try.ntmps70
  go_wp2
  refine wp_loop_rounds 1 ?_
  rw [rounds_succ]
  go_wp2
  refine wp_loop_rounds 1 ?_
  rw [rounds_succ]
  go_wp2
  first | go_end0 | refine bodyPost_ret (results_none rfl _ _ _) rfl ?_
  go_wp2
  first | go_end0 | refine bodyPost_ret (results_none rfl _ _ _) rfl ?_
  go_wp2
  first | go_end0 | refine bodyPost_ret (results_none rfl _ _ _) rfl ?_
  exact ⟨rfl, rfl⟩
theorem slices_Sort_int_int.calls (k : Nat) (P0_ : Nat → Prop) (u9000_ : Value) (l0 : List Int) (r : List Int) (w0 w : World) (hB : Below w0.heap.size w0 w) (ho0 : Kd.R (Kd.int .i64) 3 w w0.heap.size P0_ u9000_ l0) (h : slices_Sort_int_int.f k l0 = some r) :
    Calls Try.prog 70 #[u9000_] w fun e w' => e = .returned (.tuple #[]) ∧ Kd.R (Kd.int .i64) 3 w' w0.heap.size (fun k_ => (P0_ k_ ∨ w.heap.size ≤ k_)) u9000_ r ∧ Below w0.heap.size w0 w' ∧ Kept w w' (fun k_ => P0_ k_) := by
  have hml : l0.length < 4611686018427387904 := by
    rcases Nat.lt_or_ge l0.length 4611686018427387904 with h1 | h1
    · exact h1
    · rw [slices_Sort_int_int.f, if_neg (by omega)] at h
      cases h
  rw [slices_Sort_int_int.f, if_pos hml] at h
  obtain rfl : isort l0 = r := Option.some.inj h
  obtain ⟨hok, inner, ⟨hl, hown⟩, hr⟩ := ho0
  rcases hown with ⟨rfl, hn⟩ | ⟨g, cap, cur, rfl, hg, hhp, hnc, hcm, hcs, htk⟩
  · obtain rfl : l0 = [] := List.eq_nil_of_length_eq_zero hn
    refine (sort_nil w).mono ?_
    rintro e w' ⟨rfl, rfl⟩
    exact ⟨rfl, Kd.R_nil _ _ _ _ _, hB, Kept.refl _ _⟩
  · have hin : inner = l0.map (Value.int .i64) := by
      apply List.ext_getElem?
      intro j
      rcases Nat.lt_or_ge j l0.length with hj | hj
      · have h1 : ((inner.drop (j * 1)).take 1) = [Value.int .i64 l0[j]] := hr.2 j l0[j] (List.getElem?_eq_getElem hj)
        have h2 := congrArg (fun l => l[0]?) h1
        simp at h2
        rw [h2]
        simp [hj]
      · have h1 : inner.length = l0.length * 1 := hr.1
        rw [List.getElem?_eq_none (by omega), List.getElem?_eq_none (by simp; omega)]
    have hgl : g < w.heap.size := (Array.getElem?_eq_some_iff.1 hhp).1
    have htk' : cur.toList.take l0.length = l0.map (Value.int .i64) := by rw [← hin, ← htk]; simp [Kd.int, Kd.scalar]
    refine (show Calls Try.prog 70 _ _ _ from Any.slices_Sort_int lays189 g 0 cap l0 w (holds_of_blockI hhp htk') hgl (by omega)).mono ?_
    rintro e w' ⟨rfl, n, os, rfl⟩
    rw [isort_merge]
    have hgr := grownBy_sortedI (w := w) (g := g) (n := n) (os := os) (isort l0).toArray
    refine ⟨rfl, ⟨fun k hk => .inl (hok k hk), (isort l0).map (Value.int .i64), ?_, ?_⟩, hB.grown hgr hB.size (fun k hk => by cases hk; exact hg), Kept.of_grown hgr (Kept.refl _ _) (fun k hk => .inl (hok k hk))⟩
    · have := ownsRow_sortedI (n := n) (os := os) (isort_length l0) hg hhp hnc hcm (by simpa [Kd.int, Kd.scalar] using hcs)
      rw [isort_length]
      exact this
    · refine ⟨by simp [Kd.int, Kd.scalar], fun j p hp => ?_⟩
      have hj : j < (isort l0).length := (List.getElem?_eq_some_iff.1 hp).1
      show (((isort l0).map (Value.int .i64)).drop (j * 1)).take 1 = [Value.int .i64 p]
      apply List.ext_getElem?
      intro i
      rcases i with _ | i
      · simp [hp]
      · rw [List.getElem?_eq_none (by simp; omega), List.getElem?_eq_none (by simp)]
end Go.Proofs.Ytcaefoljlmdjaaa.CH
