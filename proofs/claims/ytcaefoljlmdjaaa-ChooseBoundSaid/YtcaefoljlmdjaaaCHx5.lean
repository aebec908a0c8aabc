-- printed for this seat by a program
import Derived.Test.YtcaefoljlmdjaaaCHx0
import Derived.Test.YtcaefoljlmdjaaaCHx1
import Derived.Test.YtcaefoljlmdjaaaValid
import Derived.Test.YtcaefoljlmdjaaaCHx3
import Derived.Test.YtcaefoljlmdjaaaSort
namespace Go.Proofs.Ytcaefoljlmdjaaa.CH
open Go.RowKit Go.Proofs.YtcaefoljlmdjaaaW.PrintWords Go.Proofs.YtcaefoljlmdjaaaW.PrintLast Go.Proofs.YtcaefoljlmdjaaaW.PrintMore
attribute [local go_sem] max2_int min2_int max_two min_two max_three min_three max_four min_four   -- for this text's walks alone
set_option linter.unusedVariables false
set_option linter.unusedSimpArgs false

/-! ### choose_Greedy: function 31 -/
mutual
def choose_Greedy.l0 : Nat → List (List Bool) → List Int → List Bool → List Int → Int → Option (List Int × Int × Int)
  | 0, _, _, _, _, _ => none
  | k + 1, x0, x1, x8, x9, x10 => (slices_Contains_bool_bool.f k x8 true).bind fun t156 => (if t156 = true then (choose_Greedy.l1 k x0 x1 x8 x9 x10 (-1) 0 x0 (x0.length : Int) 0) else ((slices_Sort_int_int.f k x9).bind fun t157 => (some (t157, x10, 0))))
def choose_Greedy.l1 : Nat → List (List Bool) → List Int → List Bool → List Int → Int → Int → Int → List (List Bool) → Int → Int → Option (List Int × Int × Int)
  | 0, _, _, _, _, _, _, _, _, _, _ => none
  | k + 1, x0, x1, x8, x9, x10, x11, x12, x30, x31, x32 => if x32 < x31 then (if 0 ≤ x32 then (if x32 < (x30.length : Int) then (choose_Greedy.l2 k x0 x1 x8 x9 x10 x11 x12 x32 0 x30 x31 x32 (rd_L1 x30 x32) ((rd_L1 x30 x32).length : Int) 0) else (none)) else (none)) else (if 0 ≤ x11 then (if x11 < (x0.length : Int) then (choose_Greedy.l3 k x0 x1 x8 x9 x10 x11 (rd_L1 x0 x11) ((rd_L1 x0 x11).length : Int) 0) else (none)) else (none))
def choose_Greedy.l2 : Nat → List (List Bool) → List Int → List Bool → List Int → Int → Int → Int → Int → Int → List (List Bool) → Int → Int → List Bool → Int → Int → Option (List Int × Int × Int)
  | 0, _, _, _, _, _, _, _, _, _, _, _, _, _, _, _ => none
  | k + 1, x0, x1, x8, x9, x10, x11, x12, x13, x15, x30, x31, x32, x37, x38, x39 => if x39 < x38 then (if 0 ≤ x39 then (if x39 < (x37.length : Int) then (if rdOf false x37 x39 = true then (if x39 < (x8.length : Int) then (if rdOf false x8 x39 = true then (choose_Greedy.l2 k x0 x1 x8 x9 x10 x11 x12 x13 (wrap64 (x15 + 1)) x30 x31 x32 x37 x38 (wrap64 (x39 + 1))) else (choose_Greedy.l2 k x0 x1 x8 x9 x10 x11 x12 x13 x15 x30 x31 x32 x37 x38 (wrap64 (x39 + 1)))) else (none)) else (choose_Greedy.l2 k x0 x1 x8 x9 x10 x11 x12 x13 x15 x30 x31 x32 x37 x38 (wrap64 (x39 + 1)))) else (none)) else (none)) else (if x15 > 0 then (if x11 < 0 then (choose_Greedy.l1 k x0 x1 x8 x9 x10 x13 x15 x30 x31 (wrap64 (x32 + 1))) else (if 0 ≤ x13 then (if x13 < (x1.length : Int) then (if 0 ≤ x11 then (if x11 < (x1.length : Int) then (if (wrap64 ((rd x1 x13) * x12)) < (wrap64 ((rd x1 x11) * x15)) then (choose_Greedy.l1 k x0 x1 x8 x9 x10 x13 x15 x30 x31 (wrap64 (x32 + 1))) else (choose_Greedy.l1 k x0 x1 x8 x9 x10 x11 x12 x30 x31 (wrap64 (x32 + 1)))) else (none)) else (none)) else (none)) else (none))) else (choose_Greedy.l1 k x0 x1 x8 x9 x10 x11 x12 x30 x31 (wrap64 (x32 + 1))))
def choose_Greedy.l3 : Nat → List (List Bool) → List Int → List Bool → List Int → Int → Int → List Bool → Int → Int → Option (List Int × Int × Int)
  | 0, _, _, _, _, _, _, _, _, _ => none
  | k + 1, x0, x1, x8, x9, x10, x11, x81, x82, x83 => if x83 < x82 then (if 0 ≤ x83 then (if x83 < (x81.length : Int) then (if x83 < (x8.length : Int) then (if rdOf false x8 x83 = true then (choose_Greedy.l3 k x0 x1 (x8.set (x83 : Int).toNat (!(rdOf false x81 x83))) x9 x10 x11 x81 x82 (wrap64 (x83 + 1))) else (choose_Greedy.l3 k x0 x1 (x8.set (x83 : Int).toNat false) x9 x10 x11 x81 x82 (wrap64 (x83 + 1)))) else (none)) else (none)) else (none)) else (if x9.length < 17592186044416 then (if 0 ≤ x11 then (if x11 < (x1.length : Int) then (choose_Greedy.l0 k x0 x1 x8 (x9 ++ [x11]) (wrap64 (x10 + (rd x1 x11)))) else (none)) else (none)) else (none))
end
def choose_Greedy.f (k : Nat) (l0 : List (List Bool)) (l1 : List Int) : Option (List Int × Int × Int) := (choose_Valid.f k l0 l1).bind fun t152 => (if t152 = 0 then ((choose_Coverable.f k l0).bind fun t153 => (choose_Greedy.l0 k l0 l1 t153 ([] : List Int) 0)) else (some (([] : List Int), 0, t152)))
theorem choose_Greedy.mono_l : ∀ k, (∀ y0 y1 y2 y3 y4, LeO (choose_Greedy.l0 k y0 y1 y2 y3 y4) (choose_Greedy.l0 (k + 1) y0 y1 y2 y3 y4)) ∧ (∀ y0 y1 y2 y3 y4 y5 y6 y7 y8 y9, LeO (choose_Greedy.l1 k y0 y1 y2 y3 y4 y5 y6 y7 y8 y9) (choose_Greedy.l1 (k + 1) y0 y1 y2 y3 y4 y5 y6 y7 y8 y9)) ∧ (∀ y0 y1 y2 y3 y4 y5 y6 y7 y8 y9 y10 y11 y12 y13 y14, LeO (choose_Greedy.l2 k y0 y1 y2 y3 y4 y5 y6 y7 y8 y9 y10 y11 y12 y13 y14) (choose_Greedy.l2 (k + 1) y0 y1 y2 y3 y4 y5 y6 y7 y8 y9 y10 y11 y12 y13 y14)) ∧ (∀ y0 y1 y2 y3 y4 y5 y6 y7 y8, LeO (choose_Greedy.l3 k y0 y1 y2 y3 y4 y5 y6 y7 y8) (choose_Greedy.l3 (k + 1) y0 y1 y2 y3 y4 y5 y6 y7 y8))
  | 0 => ⟨fun _ _ _ _ _ r h => by simp [choose_Greedy.l0] at h, fun _ _ _ _ _ _ _ _ _ _ r h => by simp [choose_Greedy.l1] at h, fun _ _ _ _ _ _ _ _ _ _ _ _ _ _ _ r h => by simp [choose_Greedy.l2] at h, fun _ _ _ _ _ _ _ _ _ r h => by simp [choose_Greedy.l3] at h⟩
  | k + 1 => by
    obtain ⟨ih0, ih1, ih2, ih3⟩ := choose_Greedy.mono_l k
    refine ⟨?_, ?_, ?_, ?_⟩
    · intro y0 y1 y2 y3 y4
      unfold choose_Greedy.l0
      repeat' first
      | (with_reducible exact ih0 _ _ _ _ _)
      | (with_reducible exact ih1 _ _ _ _ _ _ _ _ _ _)
      | (with_reducible exact ih2 _ _ _ _ _ _ _ _ _ _ _ _ _ _ _)
      | (with_reducible exact ih3 _ _ _ _ _ _ _ _ _)
      | (with_reducible exact choose_Coverable.mono _ _)
      | (with_reducible exact choose_Valid.mono _ _ _)
      | (with_reducible exact slices_Contains_bool_bool.mono _ _ _)
      | (with_reducible exact slices_Sort_int_int.mono _ _)
      | (with_reducible exact LeO.refl _)
      | (with_reducible exact LeO.none _)
      | (with_reducible refine LeO.ite ?_ ?_)
      | (with_reducible refine LeO.bind ?_ (fun _ => ?_))
      | exact ih0 _ _ _ _ _
      | exact ih1 _ _ _ _ _ _ _ _ _ _
      | exact ih2 _ _ _ _ _ _ _ _ _ _ _ _ _ _ _
      | exact ih3 _ _ _ _ _ _ _ _ _
      | exact choose_Coverable.mono _ _
      | exact choose_Valid.mono _ _ _
      | exact slices_Contains_bool_bool.mono _ _ _
      | exact slices_Sort_int_int.mono _ _
      | exact LeO.none _
      | refine LeO.ite ?_ ?_
      | refine LeO.bind ?_ (fun _ => ?_)
    · intro y0 y1 y2 y3 y4 y5 y6 y7 y8 y9
      unfold choose_Greedy.l1
      repeat' first
      | (with_reducible exact ih0 _ _ _ _ _)
      | (with_reducible exact ih1 _ _ _ _ _ _ _ _ _ _)
      | (with_reducible exact ih2 _ _ _ _ _ _ _ _ _ _ _ _ _ _ _)
      | (with_reducible exact ih3 _ _ _ _ _ _ _ _ _)
      | (with_reducible exact choose_Coverable.mono _ _)
      | (with_reducible exact choose_Valid.mono _ _ _)
      | (with_reducible exact slices_Contains_bool_bool.mono _ _ _)
      | (with_reducible exact slices_Sort_int_int.mono _ _)
      | (with_reducible exact LeO.refl _)
      | (with_reducible exact LeO.none _)
      | (with_reducible refine LeO.ite ?_ ?_)
      | (with_reducible refine LeO.bind ?_ (fun _ => ?_))
      | exact ih0 _ _ _ _ _
      | exact ih1 _ _ _ _ _ _ _ _ _ _
      | exact ih2 _ _ _ _ _ _ _ _ _ _ _ _ _ _ _
      | exact ih3 _ _ _ _ _ _ _ _ _
      | exact choose_Coverable.mono _ _
      | exact choose_Valid.mono _ _ _
      | exact slices_Contains_bool_bool.mono _ _ _
      | exact slices_Sort_int_int.mono _ _
      | exact LeO.none _
      | refine LeO.ite ?_ ?_
      | refine LeO.bind ?_ (fun _ => ?_)
    · intro y0 y1 y2 y3 y4 y5 y6 y7 y8 y9 y10 y11 y12 y13 y14
      unfold choose_Greedy.l2
      repeat' first
      | (with_reducible exact ih0 _ _ _ _ _)
      | (with_reducible exact ih1 _ _ _ _ _ _ _ _ _ _)
      | (with_reducible exact ih2 _ _ _ _ _ _ _ _ _ _ _ _ _ _ _)
      | (with_reducible exact ih3 _ _ _ _ _ _ _ _ _)
      | (with_reducible exact choose_Coverable.mono _ _)
      | (with_reducible exact choose_Valid.mono _ _ _)
      | (with_reducible exact slices_Contains_bool_bool.mono _ _ _)
      | (with_reducible exact slices_Sort_int_int.mono _ _)
      | (with_reducible exact LeO.refl _)
      | (with_reducible exact LeO.none _)
      | (with_reducible refine LeO.ite ?_ ?_)
      | (with_reducible refine LeO.bind ?_ (fun _ => ?_))
      | exact ih0 _ _ _ _ _
      | exact ih1 _ _ _ _ _ _ _ _ _ _
      | exact ih2 _ _ _ _ _ _ _ _ _ _ _ _ _ _ _
      | exact ih3 _ _ _ _ _ _ _ _ _
      | exact choose_Coverable.mono _ _
      | exact choose_Valid.mono _ _ _
      | exact slices_Contains_bool_bool.mono _ _ _
      | exact slices_Sort_int_int.mono _ _
      | exact LeO.none _
      | refine LeO.ite ?_ ?_
      | refine LeO.bind ?_ (fun _ => ?_)
    · intro y0 y1 y2 y3 y4 y5 y6 y7 y8
      unfold choose_Greedy.l3
      repeat' first
      | (with_reducible exact ih0 _ _ _ _ _)
      | (with_reducible exact ih1 _ _ _ _ _ _ _ _ _ _)
      | (with_reducible exact ih2 _ _ _ _ _ _ _ _ _ _ _ _ _ _ _)
      | (with_reducible exact ih3 _ _ _ _ _ _ _ _ _)
      | (with_reducible exact choose_Coverable.mono _ _)
      | (with_reducible exact choose_Valid.mono _ _ _)
      | (with_reducible exact slices_Contains_bool_bool.mono _ _ _)
      | (with_reducible exact slices_Sort_int_int.mono _ _)
      | (with_reducible exact LeO.refl _)
      | (with_reducible exact LeO.none _)
      | (with_reducible refine LeO.ite ?_ ?_)
      | (with_reducible refine LeO.bind ?_ (fun _ => ?_))
      | exact ih0 _ _ _ _ _
      | exact ih1 _ _ _ _ _ _ _ _ _ _
      | exact ih2 _ _ _ _ _ _ _ _ _ _ _ _ _ _ _
      | exact ih3 _ _ _ _ _ _ _ _ _
      | exact choose_Coverable.mono _ _
      | exact choose_Valid.mono _ _ _
      | exact slices_Contains_bool_bool.mono _ _ _
      | exact slices_Sort_int_int.mono _ _
      | exact LeO.none _
      | refine LeO.ite ?_ ?_
      | refine LeO.bind ?_ (fun _ => ?_)
theorem choose_Greedy.mono : ∀ a0 a1 k, LeO (choose_Greedy.f k a0 a1) (choose_Greedy.f (k + 1) a0 a1) := by
  intro a0 a1 k
  obtain ⟨ih0, ih1, ih2, ih3⟩ := choose_Greedy.mono_l k
  unfold choose_Greedy.f
  repeat' first
      | (with_reducible exact ih0 _ _ _ _ _)
      | (with_reducible exact ih1 _ _ _ _ _ _ _ _ _ _)
      | (with_reducible exact ih2 _ _ _ _ _ _ _ _ _ _ _ _ _ _ _)
      | (with_reducible exact ih3 _ _ _ _ _ _ _ _ _)
      | (with_reducible exact choose_Coverable.mono _ _)
      | (with_reducible exact choose_Valid.mono _ _ _)
      | (with_reducible exact slices_Contains_bool_bool.mono _ _ _)
      | (with_reducible exact slices_Sort_int_int.mono _ _)
      | (with_reducible exact LeO.refl _)
      | (with_reducible exact LeO.none _)
      | (with_reducible refine LeO.ite ?_ ?_)
      | (with_reducible refine LeO.bind ?_ (fun _ => ?_))
      | exact ih0 _ _ _ _ _
      | exact ih1 _ _ _ _ _ _ _ _ _ _
      | exact ih2 _ _ _ _ _ _ _ _ _ _ _ _ _ _ _
      | exact ih3 _ _ _ _ _ _ _ _ _
      | exact choose_Coverable.mono _ _
      | exact choose_Valid.mono _ _ _
      | exact slices_Contains_bool_bool.mono _ _ _
      | exact slices_Sort_int_int.mono _ _
      | exact LeO.none _
      | refine LeO.ite ?_ ?_
      | refine LeO.bind ?_ (fun _ => ?_)
def choose_Greedy.T19 : Bool × List (List Nat × List Nat) := (true, [([], []), ([0], [0]), ([1], [1]), ([2], [2]), ([3, 2], [2, 3]), ([4, 2, 2], [2, 4]), ([5], [5]), ([5], [5]), ([6, 7, 5], [5, 6, 7]), ([8, 5], [5, 8]), ([5], [5]), ([9, 10, 5], [5, 9, 10]), ([5], [5]), ([5], [5]), ([12, 13, 5], [5, 12, 13]), ([14, 5], [5, 14]), ([5], [5]), ([15, 16, 5], [5, 15, 16]), ([11, 17, 5], [5, 11, 17]), ([5, 18, 2], [2, 5, 18]), ([2, 19], [2, 19])])
def choose_Greedy.B19 : List Nat := [0, 1, 3, 7, 15, 31, 63, 63, 255, 511, 63, 2047, 63, 63, 12351, 28735, 63, 127039, 262143, 524287, 1048575]
theorem choose_Greedy.tab19 : rtab .any (opsOf Try.f31 19) = choose_Greedy.T19 := by kernel_rfl
theorem choose_Greedy.bits19 : waitsOk choose_Greedy.T19.2 choose_Greedy.B19 = true := by kernel_rfl
def choose_Greedy.T27 : Bool × List (List Nat × List Nat) := (true, [([], []), ([], []), ([1], [1]), ([0, 2], [0, 2]), ([], []), ([], []), ([], []), ([5, 6], [5, 6]), ([7], [7]), ([4, 8], [4, 8]), ([3, 3, 0, 1, 2, 3], [0, 3]), ([9, 10, 0, 1, 2, 3, 4, 5, 6, 7, 8, 9, 10], [4, 9])])
def choose_Greedy.B27 : List Nat := [0, 0, 2, 7, 0, 0, 0, 96, 224, 496, 15, 2047]
theorem choose_Greedy.tab27 : rtab .any (opsOf Try.f31 27) = choose_Greedy.T27 := by kernel_rfl
theorem choose_Greedy.bits27 : waitsOk choose_Greedy.T27.2 choose_Greedy.B27 = true := by kernel_rfl
set_option maxHeartbeats 8000000 in
set_option maxRecDepth 100000 in
theorem choose_Greedy.calls (k : Nat) (A0 : Option Addr) (c0 : Nat) (l0 : List (List Bool)) (A1 : Option Addr) (c1 : Nat) (l1 : List Int) (r1 : List Int) (r2 : Int) (r3 : Int) (w : World) (hr0 : Kd.C (Kd.slice 4 Kd.bool) w A0 l0.length l0) (hc0 : l0.length ≤ c0) (hr1 : Kd.C (Kd.int .i64) w A1 l1.length l1) (hc1 : l1.length ≤ c1) (h : choose_Greedy.f k l0 l1 = some (r1, r2, r3)) :
    Calls Try.prog 31 #[.slice A0 l0.length c0, .slice A1 l1.length c1] w fun e w' => ∃ v0_ : Value, e = .returned (.tuple #[v0_, .int .i64 r2, .int .i64 r3]) ∧ Kd.R (Kd.int .i64) 3 w' w.heap.size (fun _ => True) v0_ r1 ∧ Below w.heap.size w w' := by
  have HR0 := Aside0.mk hr0
  have HC0 := Aside0.mk hc0
  clear hr0 hc0
  have HR1 := Aside0.mk hr1
  have HC1 := Aside0.mk hc1
  clear hr1 hc1
  have HB := Aside0.mk (Below.refl w.heap.size w)
  have H : ((choose_Valid.f k l0 l1).bind fun t152 => (if t152 = 0 then ((choose_Coverable.f k l0).bind fun t153 => (choose_Greedy.l0 k l0 l1 t153 ([] : List Int) 0)) else (some (([] : List Int), 0, t152)))) = some (r1, r2, r3) := h
  clear h
  replace H := Option.bind_eq_some_iff.mp H
  obtain ⟨t152, A30, H⟩ := H
  replace H : (if t152 = 0 then ((choose_Coverable.f k l0).bind fun t153 => (choose_Greedy.l0 k l0 l1 t153 ([] : List Int) 0)) else (some (([] : List Int), 0, t152))) = some (r1, r2, r3) := H
  have A3 := Aside0.mk A30
  clear A30
  by_cases c4 : t152 = 0
  · rw [if_pos c4] at H
    have c4b0 : (t152 == 0) = true := beq_iff_eq.mpr c4
    have c4b1 : (t152 != 0) = false := bne_eq_false_iff_eq.mpr c4
    clear c4
    replace H := Option.bind_eq_some_iff.mp H
    obtain ⟨t153, A50, H⟩ := H
    replace H : (choose_Greedy.l0 k l0 l1 t153 ([] : List Int) 0) = some (r1, r2, r3) := H
    have A5 := Aside0.mk A50
    clear A50
    have H' := Aside0.mk H
    clear H
    go_enter Try.func31, Try.ntmps31
    go_wp2_with (first | ((with_reducible refine gate_callee (f := 26) rfl ?_); refine goesL_ (some 22) rfl rfl Try.func26 (by kernel_rfl) rfl #[.slice A0 l0.length c0, .slice A1 l1.length c1] rfl (by (try simp only [List.map_toArray, List.map_cons, List.map_nil]); first | done | rfl | (simp only [List.length_drop, List.length_take]; rfl)) ?_; (with_reducible refine (choose_Valid.calls k _ _ l0 _ _ l1 t152 _ ?side1 ?side2 ?side3 ?side4 A3.out).mono ?_); (case side1 => repeat (first | exact HR0.out | (with_reducible refine Kd.C_alloc ?_ _) | (with_reducible refine Kd.C_drewN ?_ _) | (with_reducible refine Kd.C_drew ?_))); (case side2 => exact HC0.out); (case side3 => repeat (first | exact HR1.out | (with_reducible refine Kd.C_alloc ?_ _) | (with_reducible refine Kd.C_drewN ?_ _) | (with_reducible refine Kd.C_drew ?_))); (case side4 => exact HC1.out); rintro e w6 ⟨rfl, hb⟩; refine ⟨_, rfl, ?_⟩; have n0_ := Aside0.mk (below_step (by repeat (first | (with_reducible first | exact HB.out | apply below_alloc | apply pw_below_drewN | apply below_drew1) | exact HB.out)) hb); clear HB; have HB := n0_; clear n0_; (try clear hb); (try clear hb2); (try clear hk); (try clear hi)) | ((with_reducible refine gate_callee (f := 41) rfl ?_); refine goesL_ (some 27) rfl rfl Try.func41 (by kernel_rfl) rfl #[.slice A0 l0.length c0] rfl (by (try simp only [List.map_toArray, List.map_cons, List.map_nil]); first | done | rfl | (simp only [List.length_drop, List.length_take]; rfl)) ?_; (with_reducible refine (choose_Coverable.calls k _ _ l0 t153 _ ?side1 ?side2 A5.out).mono ?_); (case side1 => repeat (first | exact (Kd.C_below HR0.out HB.out) | (with_reducible refine Kd.C_alloc ?_ _) | (with_reducible refine Kd.C_drewN ?_ _) | (with_reducible refine Kd.C_drew ?_))); (case side2 => exact HC0.out); rintro e w7 ⟨v154, rfl, ho0, hb⟩; refine ⟨_, rfl, ?_⟩; have n0_ := Aside0.mk (Kd.R_lower ho0 (below_size (by repeat (first | (with_reducible first | exact HB.out | apply below_alloc | apply pw_below_drewN | apply below_drew1) | exact HB.out)))); have n1_ := Aside0.mk (below_step (by repeat (first | (with_reducible first | exact HB.out | apply below_alloc | apply pw_below_drewN | apply below_drew1) | exact HB.out)) hb); clear HB; have HO155 := n0_; have HB := n1_; clear n0_ n1_; (try clear hb); (try clear hb2); (try clear hk); (try clear hi); (try clear ho0)))
    go_loopg [9, 10] k (fun kq v9 v10 w' => ∃ (x8_1 : List Bool) (x9_1 : List Int) (x10_1 : Int), v10 = .int .i64 x10_1 ∧ Aside0 (choose_Greedy.l0 kq l0 l1 x8_1 x9_1 x10_1 = some (r1, r2, r3)) ∧ Aside0 (kq ≤ k) ∧ Aside0 (Kd.R Kd.bool 4 w' w.heap.size (fun _ => True) v154 x8_1) ∧ Aside0 (Kd.R (Kd.int .i64) 3 w' w.heap.size (fun _ => True) v9 x9_1) ∧ Aside0 (Below w.heap.size w w'))
    case atStart => exact ⟨(t153), (([] : List Int)), (0), (by first | rfl | (simp; done) | (simp [*]; done)), H', ⟨Nat.le_refl _⟩, ⟨by (with_reducible repeat (first | apply Kd.R_alloc | apply Kd.R_drewN | apply Kd.R_drew)); exact HO155.out⟩, ⟨by first | exact Kd.R_nil _ _ _ _ _ | exact Kd.N_nil _ _ _ _ _ | exact Kd.V_nil _ _ _ _ _ | exact Kd.Q_nil _ _ _ _ _ | exact Kd.S_nil _ _ _ _ _⟩, ⟨by repeat (first | (with_reducible first | exact HB.out | apply below_alloc | apply pw_below_drewN | apply below_drew1) | exact HB.out)⟩⟩
    case round =>
      clear H'
      try clear c1
      try clear c2
      try clear p2
      try clear c3
      try clear c4
      try clear c4b0
      try clear c4b1
      obtain ⟨x8_1, x9_1, x10_1, rfl, HA, HK1, HO_8, HO_9, HB⟩ := hrel
      cases gk with
      | zero => exact absurd HA.out (by simp [choose_Greedy.l0])
      | succ k1 =>
        have H := HA.out
        clear HA
        simp only [choose_Greedy.l0] at H
        replace H := Option.bind_eq_some_iff.mp H
        obtain ⟨t156, A80, H⟩ := H
        replace H : (if t156 = true then (choose_Greedy.l1 k1 l0 l1 x8_1 x9_1 x10_1 (-1) 0 l0 (l0.length : Int) 0) else ((slices_Sort_int_int.f k1 x9_1).bind fun t157 => (some (t157, x10_1, 0)))) = some (r1, r2, r3) := H
        have A8 := Aside0.mk A80
        clear A80
        by_cases c9 : t156 = true
        · subst c9
          have H1 : (choose_Greedy.l1 k1 l0 l1 x8_1 x9_1 x10_1 (-1) 0 l0 (l0.length : Int) 0) = some (r1, r2, r3) := by rw [if_pos rfl] at H; exact H
          clear H
          have H := H1
          clear H1
          have H' := Aside0.mk H
          clear H
          obtain ⟨Ao10, co10, eo10⟩ := Kd.R_slice HO_8.out
          subst eo10
          go_wp2_with (first | ((with_reducible refine gate_callee (f := 69) rfl ?_); refine goesL_ (some 29) rfl rfl Try.func69 (by kernel_rfl) rfl #[.slice Ao10 x8_1.length co10, .bool true] rfl (by (try simp only [List.map_toArray, List.map_cons, List.map_nil]); first | done | rfl | (simp only [List.length_drop, List.length_take]; rfl)) ?_; (with_reducible refine (slices_Contains_bool_bool.calls k1 _ _ x8_1 true true _ ?side1 ?side2 A8.out).mono ?_); (case side1 => repeat (first | exact (Kd.R_reads' HO_8.out).2.2 | (with_reducible refine Kd.C_alloc ?_ _) | (with_reducible refine Kd.C_drewN ?_ _) | (with_reducible refine Kd.C_drew ?_))); (case side2 => exact (Kd.R_reads' HO_8.out).2.1); rintro e w' ⟨rfl, ⟨nd, rfl⟩⟩; refine ⟨_, rfl, ?_⟩))
          go_loopg [11, 12, 32] k1 (fun kq v11 v12 v32 w' => ∃ (x11_2 : Int) (x12_2 : Int) (x32_2 : Int), v11 = .int .i64 x11_2 ∧ v12 = .int .i64 x12_2 ∧ v32 = .int .i64 x32_2 ∧ Aside0 (choose_Greedy.l1 kq l0 l1 x8_1 x9_1 x10_1 x11_2 x12_2 l0 (l0.length : Int) x32_2 = some (r1, r2, r3)) ∧ Aside0 (kq ≤ k1) ∧ Aside0 (Kd.R Kd.bool 4 w' w.heap.size (fun _ => True) (.slice Ao10 x8_1.length co10) x8_1) ∧ Aside0 (Kd.R (Kd.int .i64) 3 w' w.heap.size (fun _ => True) u9 x9_1) ∧ Aside0 (Below w.heap.size w w'))
          case atStart => exact ⟨((-1)), (0), (0), (by first | rfl | (simp; done) | (simp [*]; done)), (by first | rfl | (simp; done) | (simp [*]; done)), (by first | rfl | (simp; done) | (simp [*]; done)), H', ⟨Nat.le_refl _⟩, ⟨by (with_reducible repeat (first | apply Kd.R_alloc | apply Kd.R_drewN | apply Kd.R_drew)); exact HO_8.out⟩, ⟨by (with_reducible repeat (first | apply Kd.R_alloc | apply Kd.R_drewN | apply Kd.R_drew)); exact HO_9.out⟩, ⟨by repeat (first | (with_reducible first | exact HB.out | apply below_alloc | apply pw_below_drewN | apply below_drew1) | exact HB.out)⟩⟩
          case round =>
            clear H'
            try clear c1
            try clear c2
            try clear p2
            try clear c3
            try clear c4
            try clear c4b0
            try clear c4b1
            try clear c6
            try clear c9
            try clear p2
            obtain ⟨x11_2, x12_2, x32_2, rfl, rfl, rfl, HA, HK2, HO_8, HO_9, HB⟩ := hrel
            cases gk with
            | zero => exact absurd HA.out (by simp [choose_Greedy.l1])
            | succ k2 =>
              have H := HA.out
              clear HA
              simp only [choose_Greedy.l1] at H
              by_cases c11 : x32_2 < (l0.length : Int)
              · rw [if_pos c11] at H
                have c11b0 : decide (x32_2 < (l0.length : Int)) = true := decide_eq_true c11
                clear c11
                by_cases c12 : 0 ≤ x32_2
                · rw [if_pos c12] at H
                  have c12b0 : decide (0 ≤ x32_2) = true := decide_eq_true c12
                  clear c12
                  by_cases c13 : x32_2 < (l0.length : Int)
                  · rw [if_pos c13] at H
                    have c13b0 : decide (x32_2 < (l0.length : Int)) = true := decide_eq_true c13
                    clear c13
                    have H' := Aside0.mk H
                    clear H
                    have p158 : 0 ≤ (x32_2 : Int) := of_decide_eq_true (by first | (with_reducible assumption) | assumption)
                    have q158 : x32_2 < (l0.length : Int) := of_decide_eq_true (by first | (with_reducible assumption) | assumption)
                    obtain ⟨ad158, A158_0, c158_0, e158, hx158_0, hl158_0, hi158_0⟩ := at_L1 HR0.out x32_2 p158 q158
                    cases e158
                    replace hx158_0 := (HB.out.cell (World.block_lt_of_cell? w _ hx158_0)).trans hx158_0
                    have HR158_0 := Aside0.mk hi158_0
                    have HC158_0 := Aside0.mk hl158_0
                    clear hi158_0 hl158_0
                    replace p158 := eq_true p158
                    replace q158 := eq_true q158
                    go_wp2
                    go_loopg [15, 39] k2 (fun kq v15 v39 w' => ∃ (x15_3 : Int) (x39_3 : Int), v15 = .int .i64 x15_3 ∧ v39 = .int .i64 x39_3 ∧ Aside0 (choose_Greedy.l2 kq l0 l1 x8_1 x9_1 x10_1 x11_2 x12_2 x32_2 x15_3 l0 (l0.length : Int) x32_2 (rd_L1 l0 x32_2) ((rd_L1 l0 x32_2).length : Int) x39_3 = some (r1, r2, r3)) ∧ Aside0 (kq ≤ k2) ∧ Aside0 (Kd.R Kd.bool 4 w' w.heap.size (fun _ => True) (.slice Ao10 x8_1.length co10) x8_1) ∧ Aside0 (Kd.R (Kd.int .i64) 3 w' w.heap.size (fun _ => True) u9 x9_1) ∧ Aside0 (Below w.heap.size w w'))
                    case atStart => exact ⟨(0), (0), (by first | rfl | (simp; done) | (simp [*]; done)), (by first | rfl | (simp; done) | (simp [*]; done)), H', ⟨Nat.le_refl _⟩, ⟨by (with_reducible repeat (first | apply Kd.R_alloc | apply Kd.R_drewN | apply Kd.R_drew)); exact HO_8.out⟩, ⟨by (with_reducible repeat (first | apply Kd.R_alloc | apply Kd.R_drewN | apply Kd.R_drew)); exact HO_9.out⟩, ⟨by repeat (first | (with_reducible first | exact HB.out | apply below_alloc | apply pw_below_drewN | apply below_drew1) | exact HB.out)⟩⟩
                    case round =>
                      clear H'
                      try clear c1
                      try clear p1
                      try clear q1
                      try clear hx1
                      try clear c2
                      try clear p2
                      try clear c3
                      try clear c4
                      try clear c4b0
                      try clear c4b1
                      try clear c6
                      try clear c9
                      try clear c11
                      try clear c11b0
                      try clear c12
                      try clear c12b0
                      try clear c13
                      try clear c13b0
                      try clear hx158_0
                      try clear p158
                      try clear p2
                      try clear q158
                      obtain ⟨x15_3, x39_3, rfl, rfl, HA, HK3, HO_8, HO_9, HB⟩ := hrel
                      cases gk with
                      | zero => exact absurd HA.out (by simp [choose_Greedy.l2])
                      | succ k3 =>
                        have H := HA.out
                        clear HA
                        simp only [choose_Greedy.l2] at H
                        by_cases c14 : x39_3 < ((rd_L1 l0 x32_2).length : Int)
                        · rw [if_pos c14] at H
                          have c14b0 : decide (x39_3 < ((rd_L1 l0 x32_2).length : Int)) = true := decide_eq_true c14
                          clear c14
                          by_cases c15 : 0 ≤ x39_3
                          · rw [if_pos c15] at H
                            have c15b0 : decide (0 ≤ x39_3) = true := decide_eq_true c15
                            clear c15
                            by_cases c16 : x39_3 < ((rd_L1 l0 x32_2).length : Int)
                            · rw [if_pos c16] at H
                              have c16b0 : decide (x39_3 < ((rd_L1 l0 x32_2).length : Int)) = true := decide_eq_true c16
                              clear c16
                              obtain ⟨bq17, hbq17⟩ : ∃ b_ : Bool, b_ = (rdOf false (rd_L1 l0 x32_2) x39_3) := ⟨_, rfl⟩
                              replace H : (if bq17 = true then (if x39_3 < (x8_1.length : Int) then (if rdOf false x8_1 x39_3 = true then (choose_Greedy.l2 k3 l0 l1 x8_1 x9_1 x10_1 x11_2 x12_2 x32_2 (wrap64 (x15_3 + 1)) l0 (l0.length : Int) x32_2 (rd_L1 l0 x32_2) ((rd_L1 l0 x32_2).length : Int) (wrap64 (x39_3 + 1))) else (choose_Greedy.l2 k3 l0 l1 x8_1 x9_1 x10_1 x11_2 x12_2 x32_2 x15_3 l0 (l0.length : Int) x32_2 (rd_L1 l0 x32_2) ((rd_L1 l0 x32_2).length : Int) (wrap64 (x39_3 + 1)))) else (none)) else (choose_Greedy.l2 k3 l0 l1 x8_1 x9_1 x10_1 x11_2 x12_2 x32_2 x15_3 l0 (l0.length : Int) x32_2 (rd_L1 l0 x32_2) ((rd_L1 l0 x32_2).length : Int) (wrap64 (x39_3 + 1)))) = some (r1, r2, r3) := by rw [← hbq17] at H; exact H
                              have Nbq17 := Aside0.mk hbq17
                              clear hbq17
                              by_cases c18 : bq17 = true
                              · subst c18
                                have H1 : (if x39_3 < (x8_1.length : Int) then (if rdOf false x8_1 x39_3 = true then (choose_Greedy.l2 k3 l0 l1 x8_1 x9_1 x10_1 x11_2 x12_2 x32_2 (wrap64 (x15_3 + 1)) l0 (l0.length : Int) x32_2 (rd_L1 l0 x32_2) ((rd_L1 l0 x32_2).length : Int) (wrap64 (x39_3 + 1))) else (choose_Greedy.l2 k3 l0 l1 x8_1 x9_1 x10_1 x11_2 x12_2 x32_2 x15_3 l0 (l0.length : Int) x32_2 (rd_L1 l0 x32_2) ((rd_L1 l0 x32_2).length : Int) (wrap64 (x39_3 + 1)))) else (none)) = some (r1, r2, r3) := by rw [if_pos rfl] at H; exact H
                                clear H
                                have H := H1
                                clear H1
                                by_cases c19 : x39_3 < (x8_1.length : Int)
                                · rw [if_pos c19] at H
                                  have c19b0 : decide (x39_3 < (x8_1.length : Int)) = true := decide_eq_true c19
                                  clear c19
                                  obtain ⟨bq20, hbq20⟩ : ∃ b_ : Bool, b_ = (rdOf false x8_1 x39_3) := ⟨_, rfl⟩
                                  replace H : (if bq20 = true then (choose_Greedy.l2 k3 l0 l1 x8_1 x9_1 x10_1 x11_2 x12_2 x32_2 (wrap64 (x15_3 + 1)) l0 (l0.length : Int) x32_2 (rd_L1 l0 x32_2) ((rd_L1 l0 x32_2).length : Int) (wrap64 (x39_3 + 1))) else (choose_Greedy.l2 k3 l0 l1 x8_1 x9_1 x10_1 x11_2 x12_2 x32_2 x15_3 l0 (l0.length : Int) x32_2 (rd_L1 l0 x32_2) ((rd_L1 l0 x32_2).length : Int) (wrap64 (x39_3 + 1)))) = some (r1, r2, r3) := by rw [← hbq20] at H; exact H
                                  have Nbq20 := Aside0.mk hbq20
                                  clear hbq20
                                  by_cases c21 : bq20 = true
                                  · subst c21
                                    have H1 : (choose_Greedy.l2 k3 l0 l1 x8_1 x9_1 x10_1 x11_2 x12_2 x32_2 (wrap64 (x15_3 + 1)) l0 (l0.length : Int) x32_2 (rd_L1 l0 x32_2) ((rd_L1 l0 x32_2).length : Int) (wrap64 (x39_3 + 1))) = some (r1, r2, r3) := by rw [if_pos rfl] at H; exact H
                                    clear H
                                    have H := H1
                                    clear H1
                                    have H' := Aside0.mk H
                                    clear H
                                    have p159 : 0 ≤ (x39_3 : Int) := of_decide_eq_true (by first | (with_reducible assumption) | assumption)
                                    have q159 : x39_3 < ((rd_L1 l0 x32_2).length : Int) := of_decide_eq_true (by first | (with_reducible assumption) | assumption)
                                    obtain ⟨ad159, e159, hx159_0⟩ := Kd.at_bool HR158_0.out x39_3 p159 q159
                                    (try rw [← Nbq17.out] at hx159_0)
                                    (try rw [← Nbq20.out] at hx159_0)
                                    cases e159
                                    replace hx159_0 := (HB.out.cell (World.block_lt_of_cell? w _ hx159_0)).trans hx159_0
                                    replace p159 := eq_true p159
                                    replace q159 := eq_true q159
                                    have p160 : 0 ≤ (x39_3 : Int) := of_decide_eq_true (by first | (with_reducible assumption) | assumption)
                                    have q160 : x39_3 < (x8_1.length : Int) := of_decide_eq_true (by first | (with_reducible assumption) | assumption)
                                    obtain ⟨ad160, e160, hx160_0⟩ := Kd.at_bool (Kd.R_reads' HO_8.out).2.2 x39_3 p160 q160
                                    (try rw [← Nbq17.out] at hx160_0)
                                    (try rw [← Nbq20.out] at hx160_0)
                                    cases e160
                                    replace p160 := eq_true p160
                                    replace q160 := eq_true q160
                                    go_wp2
                                    go_roundg k3
                                    case measure => have := HK1.out; have := HK2.out; have := HK3.out; omega
                                    case rel => exact ⟨(wrap64 (x15_3 + 1)), (wrap64 (x39_3 + 1)), (by first | rfl | (simp; done) | (simp [*]; done)), (by first | rfl | (simp; done) | (simp [*]; done)), H', ⟨by have := HK1.out; have := HK2.out; have := HK3.out; omega⟩, ⟨by (with_reducible repeat (first | apply Kd.R_alloc | apply Kd.R_drewN | apply Kd.R_drew)); exact HO_8.out⟩, ⟨by (with_reducible repeat (first | apply Kd.R_alloc | apply Kd.R_drewN | apply Kd.R_drew)); exact HO_9.out⟩, ⟨by repeat (first | (with_reducible first | exact HB.out | apply below_alloc | apply pw_below_drewN | apply below_drew1) | exact HB.out)⟩⟩
                                  · replace c21 := Bool.eq_false_iff.mpr c21
                                    subst c21
                                    have H1 : (choose_Greedy.l2 k3 l0 l1 x8_1 x9_1 x10_1 x11_2 x12_2 x32_2 x15_3 l0 (l0.length : Int) x32_2 (rd_L1 l0 x32_2) ((rd_L1 l0 x32_2).length : Int) (wrap64 (x39_3 + 1))) = some (r1, r2, r3) := by rw [if_neg (show ¬ (false = true) by decide)] at H; exact H
                                    clear H
                                    have H := H1
                                    clear H1
                                    have H' := Aside0.mk H
                                    clear H
                                    have p159 : 0 ≤ (x39_3 : Int) := of_decide_eq_true (by first | (with_reducible assumption) | assumption)
                                    have q159 : x39_3 < ((rd_L1 l0 x32_2).length : Int) := of_decide_eq_true (by first | (with_reducible assumption) | assumption)
                                    obtain ⟨ad159, e159, hx159_0⟩ := Kd.at_bool HR158_0.out x39_3 p159 q159
                                    (try rw [← Nbq17.out] at hx159_0)
                                    (try rw [← Nbq20.out] at hx159_0)
                                    cases e159
                                    replace hx159_0 := (HB.out.cell (World.block_lt_of_cell? w _ hx159_0)).trans hx159_0
                                    replace p159 := eq_true p159
                                    replace q159 := eq_true q159
                                    have p160 : 0 ≤ (x39_3 : Int) := of_decide_eq_true (by first | (with_reducible assumption) | assumption)
                                    have q160 : x39_3 < (x8_1.length : Int) := of_decide_eq_true (by first | (with_reducible assumption) | assumption)
                                    obtain ⟨ad160, e160, hx160_0⟩ := Kd.at_bool (Kd.R_reads' HO_8.out).2.2 x39_3 p160 q160
                                    (try rw [← Nbq17.out] at hx160_0)
                                    (try rw [← Nbq20.out] at hx160_0)
                                    cases e160
                                    replace p160 := eq_true p160
                                    replace q160 := eq_true q160
                                    go_wp2
                                    go_roundg k3
                                    case measure => have := HK1.out; have := HK2.out; have := HK3.out; omega
                                    case rel => exact ⟨(x15_3), (wrap64 (x39_3 + 1)), (by first | rfl | (simp; done) | (simp [*]; done)), (by first | rfl | (simp; done) | (simp [*]; done)), H', ⟨by have := HK1.out; have := HK2.out; have := HK3.out; omega⟩, ⟨by (with_reducible repeat (first | apply Kd.R_alloc | apply Kd.R_drewN | apply Kd.R_drew)); exact HO_8.out⟩, ⟨by (with_reducible repeat (first | apply Kd.R_alloc | apply Kd.R_drewN | apply Kd.R_drew)); exact HO_9.out⟩, ⟨by repeat (first | (with_reducible first | exact HB.out | apply below_alloc | apply pw_below_drewN | apply below_drew1) | exact HB.out)⟩⟩
                                · rw [if_neg c19] at H
                                  exact absurd H (by simp)
                              · replace c18 := Bool.eq_false_iff.mpr c18
                                subst c18
                                have H1 : (choose_Greedy.l2 k3 l0 l1 x8_1 x9_1 x10_1 x11_2 x12_2 x32_2 x15_3 l0 (l0.length : Int) x32_2 (rd_L1 l0 x32_2) ((rd_L1 l0 x32_2).length : Int) (wrap64 (x39_3 + 1))) = some (r1, r2, r3) := by rw [if_neg (show ¬ (false = true) by decide)] at H; exact H
                                clear H
                                have H := H1
                                clear H1
                                have H' := Aside0.mk H
                                clear H
                                have p159 : 0 ≤ (x39_3 : Int) := of_decide_eq_true (by first | (with_reducible assumption) | assumption)
                                have q159 : x39_3 < ((rd_L1 l0 x32_2).length : Int) := of_decide_eq_true (by first | (with_reducible assumption) | assumption)
                                obtain ⟨ad159, e159, hx159_0⟩ := Kd.at_bool HR158_0.out x39_3 p159 q159
                                (try rw [← Nbq17.out] at hx159_0)
                                cases e159
                                replace hx159_0 := (HB.out.cell (World.block_lt_of_cell? w _ hx159_0)).trans hx159_0
                                replace p159 := eq_true p159
                                replace q159 := eq_true q159
                                go_wp2
                                go_roundg k3
                                case measure => have := HK1.out; have := HK2.out; have := HK3.out; omega
                                case rel => exact ⟨(x15_3), (wrap64 (x39_3 + 1)), (by first | rfl | (simp; done) | (simp [*]; done)), (by first | rfl | (simp; done) | (simp [*]; done)), H', ⟨by have := HK1.out; have := HK2.out; have := HK3.out; omega⟩, ⟨by (with_reducible repeat (first | apply Kd.R_alloc | apply Kd.R_drewN | apply Kd.R_drew)); exact HO_8.out⟩, ⟨by (with_reducible repeat (first | apply Kd.R_alloc | apply Kd.R_drewN | apply Kd.R_drew)); exact HO_9.out⟩, ⟨by repeat (first | (with_reducible first | exact HB.out | apply below_alloc | apply pw_below_drewN | apply below_drew1) | exact HB.out)⟩⟩
                            · rw [if_neg c16] at H
                              exact absurd H (by simp)
                          · rw [if_neg c15] at H
                            exact absurd H (by simp)
                        · rw [if_neg c14] at H
                          have c14b0 : decide (x39_3 < ((rd_L1 l0 x32_2).length : Int)) = false := decide_eq_false c14
                          clear c14
                          by_cases c22 : x15_3 > 0
                          · rw [if_pos c22] at H
                            have c22b0 : decide (0 < x15_3) = true := decide_eq_true c22
                            clear c22
                            by_cases c23 : x11_2 < 0
                            · rw [if_pos c23] at H
                              have c23b0 : decide (x11_2 < 0) = true := decide_eq_true c23
                              clear c23
                              have H' := Aside0.mk H
                              clear H
                              try go_wp2
                              have n0_ := Aside0.mk (Kd.R_drew HO_8.out)
                              have n1_ := Aside0.mk (Kd.R_drew HO_9.out)
                              have n2_ := Aside0.mk (below_drew1 HB.out)
                              clear HO_8
                              clear HO_9
                              clear HB
                              have HO_8 := n0_
                              have HO_9 := n1_
                              have HB := n2_
                              clear n0_ n1_ n2_
                              refine start_ (n := 21) (S := fun w' => True) (ds := []) #[false, false, false, false, false, false, false, false, false, false, false, false, false, false, false, false, false, false, false, false, false] (by kernel_rfl) rfl rfl trivial (fun hHeld => ?_); refine with_tabW choose_Greedy.tab19 choose_Greedy.bits19 (fun HT_ HW_ => ?_)
                              generalize wr.drew = w24 at HO_8 HO_9 HB hHeld ⊢
                              refine pure_ (i := 0) (N := some 54) (v := ?_) (a' := ?_) #[true, false, false, false, false, false, false, false, false, false, false, false, false, false, false, false, false, false, false, false, false] rfl rfl (any_of HT_.out (by kernel_rfl)) (fun _ _ _ h => h) (Or.inl ⟨by rfl, ?_⟩) ?_ ?_
                              rotate_left
                              · intro w'
                                go_simp
                                with_reducible rfl
                              rotate_left
                              · simp only [Act.put, List.setIfInBounds_toArray, List.set_cons_zero, List.set_cons_succ, i64_w, i32_w]
                                rfl
                              refine pure_ (i := 1) (N := some 55) (v := ?_) (a' := ?_) #[true, true, false, false, false, false, false, false, false, false, false, false, false, false, false, false, false, false, false, false, false] rfl rfl (any_of HT_.out (by kernel_rfl)) (fun _ _ _ h => h) (Or.inl ⟨by rfl, ?_⟩) ?_ ?_
                              rotate_left
                              · intro w'
                                go_simp
                                with_reducible rfl
                              rotate_left
                              · simp only [Act.put, List.setIfInBounds_toArray, List.set_cons_zero, List.set_cons_succ, i64_w, i32_w]
                                rfl
                              refine pure_ (i := 2) (N := some 56) (v := ?_) (a' := ?_) #[true, true, true, false, false, false, false, false, false, false, false, false, false, false, false, false, false, false, false, false, false] rfl rfl (any_of HT_.out (by kernel_rfl)) (fun _ _ _ h => h) (Or.inl ⟨by rfl, ?_⟩) ?_ ?_
                              rotate_left
                              · intro w'
                                go_simp
                                with_reducible rfl
                              rotate_left
                              · simp only [Act.put, List.setIfInBounds_toArray, List.set_cons_zero, List.set_cons_succ, i64_w, i32_w]
                                rfl
                              refine pure_ (i := 3) (N := some 57) (v := ?_) (a' := ?_) #[true, true, true, true, false, false, false, false, false, false, false, false, false, false, false, false, false, false, false, false, false] rfl rfl (any_of HT_.out (by kernel_rfl)) (fun _ _ _ h => h) (Or.inl ⟨by rfl, ?_⟩) ?_ ?_
                              rotate_left
                              · intro w'
                                go_simp
                                with_reducible rfl
                              rotate_left
                              · simp only [Act.put, List.setIfInBounds_toArray, List.set_cons_zero, List.set_cons_succ, i64_w, i32_w]
                                rfl
                              refine pure_ (i := 4) (N := some 58) (v := ?_) (a' := ?_) #[true, true, true, true, true, false, false, false, false, false, false, false, false, false, false, false, false, false, false, false, false] rfl rfl (any_of HT_.out (by kernel_rfl)) (fun _ _ _ h => h) (Or.inl ⟨by rfl, ?_⟩) ?_ ?_
                              rotate_left
                              · intro w'
                                go_simp
                                with_reducible rfl
                              rotate_left
                              · simp only [Act.put, List.setIfInBounds_toArray, List.set_cons_zero, List.set_cons_succ, i64_w, i32_w]
                                rfl
                              refine pure_ (i := 5) (N := some 59) (v := ?_) (a' := ?_) #[true, true, true, true, true, true, false, false, false, false, false, false, false, false, false, false, false, false, false, false, false] rfl rfl (any_of HT_.out (by kernel_rfl)) (fun _ _ _ h => h) (Or.inl ⟨by rfl, ?_⟩) ?_ ?_
                              rotate_left
                              · intro w'
                                go_simp
                                with_reducible rfl
                              rotate_left
                              · simp only [Act.put, List.setIfInBounds_toArray, List.set_cons_zero, List.set_cons_succ, i64_w, i32_w]
                                rfl
                              refine pure_ (i := 6) (N := some 60) (v := undef) (a' := ?_) #[true, true, true, true, true, true, true, false, false, false, false, false, false, false, false, false, false, false, false, false, false] rfl rfl (any_of HT_.out (by kernel_rfl)) (fun _ _ _ h => h) (Or.inr ⟨by rfl, rfl⟩) ?_ ?_
                              rotate_left
                              · simp only [Act.put, List.setIfInBounds_toArray, List.set_cons_zero, List.set_cons_succ, i64_w, i32_w]
                                rfl
                              refine pure_ (i := 7) (N := some 61) (v := undef) (a' := ?_) #[true, true, true, true, true, true, true, true, false, false, false, false, false, false, false, false, false, false, false, false, false] rfl rfl (any_of HT_.out (by kernel_rfl)) (fun _ _ _ h => h) (Or.inr ⟨by rfl, rfl⟩) ?_ ?_
                              rotate_left
                              · simp only [Act.put, List.setIfInBounds_toArray, List.set_cons_zero, List.set_cons_succ, i64_w, i32_w]
                                rfl
                              refine pure_ (i := 8) (N := some 62) (v := undef) (a' := ?_) #[true, true, true, true, true, true, true, true, true, false, false, false, false, false, false, false, false, false, false, false, false] rfl rfl (any_of HT_.out (by kernel_rfl)) (fun _ _ _ h => h) (Or.inr ⟨by rfl, rfl⟩) ?_ ?_
                              rotate_left
                              · simp only [Act.put, List.setIfInBounds_toArray, List.set_cons_zero, List.set_cons_succ, i64_w, i32_w]
                                rfl
                              refine pure_ (i := 9) (N := some 63) (v := undef) (a' := ?_) #[true, true, true, true, true, true, true, true, true, true, false, false, false, false, false, false, false, false, false, false, false] rfl rfl (any_of HT_.out (by kernel_rfl)) (fun _ _ _ h => h) (Or.inr ⟨by rfl, rfl⟩) ?_ ?_
                              rotate_left
                              · simp only [Act.put, List.setIfInBounds_toArray, List.set_cons_zero, List.set_cons_succ, i64_w, i32_w]
                                rfl
                              refine pure_ (i := 10) (N := some 64) (v := undef) (a' := ?_) #[true, true, true, true, true, true, true, true, true, true, true, false, false, false, false, false, false, false, false, false, false] rfl rfl (any_of HT_.out (by kernel_rfl)) (fun _ _ _ h => h) (Or.inr ⟨by rfl, rfl⟩) ?_ ?_
                              rotate_left
                              · simp only [Act.put, List.setIfInBounds_toArray, List.set_cons_zero, List.set_cons_succ, i64_w, i32_w]
                                rfl
                              refine pure_ (i := 11) (N := some 65) (v := undef) (a' := ?_) #[true, true, true, true, true, true, true, true, true, true, true, true, false, false, false, false, false, false, false, false, false] rfl rfl (any_of HT_.out (by kernel_rfl)) (fun _ _ _ h => h) (Or.inr ⟨by rfl, rfl⟩) ?_ ?_
                              rotate_left
                              · simp only [Act.put, List.setIfInBounds_toArray, List.set_cons_zero, List.set_cons_succ, i64_w, i32_w]
                                rfl
                              refine pure_ (i := 12) (N := some 66) (v := undef) (a' := ?_) #[true, true, true, true, true, true, true, true, true, true, true, true, true, false, false, false, false, false, false, false, false] rfl rfl (any_of HT_.out (by kernel_rfl)) (fun _ _ _ h => h) (Or.inr ⟨by rfl, rfl⟩) ?_ ?_
                              rotate_left
                              · simp only [Act.put, List.setIfInBounds_toArray, List.set_cons_zero, List.set_cons_succ, i64_w, i32_w]
                                rfl
                              refine pure_ (i := 13) (N := some 67) (v := undef) (a' := ?_) #[true, true, true, true, true, true, true, true, true, true, true, true, true, true, false, false, false, false, false, false, false] rfl rfl (any_of HT_.out (by kernel_rfl)) (fun _ _ _ h => h) (Or.inr ⟨by rfl, rfl⟩) ?_ ?_
                              rotate_left
                              · simp only [Act.put, List.setIfInBounds_toArray, List.set_cons_zero, List.set_cons_succ, i64_w, i32_w]
                                rfl
                              refine pure_ (i := 14) (N := some 68) (v := undef) (a' := ?_) #[true, true, true, true, true, true, true, true, true, true, true, true, true, true, true, false, false, false, false, false, false] rfl rfl (any_of HT_.out (by kernel_rfl)) (fun _ _ _ h => h) (Or.inr ⟨by rfl, rfl⟩) ?_ ?_
                              rotate_left
                              · simp only [Act.put, List.setIfInBounds_toArray, List.set_cons_zero, List.set_cons_succ, i64_w, i32_w]
                                rfl
                              refine pure_ (i := 15) (N := some 69) (v := undef) (a' := ?_) #[true, true, true, true, true, true, true, true, true, true, true, true, true, true, true, true, false, false, false, false, false] rfl rfl (any_of HT_.out (by kernel_rfl)) (fun _ _ _ h => h) (Or.inr ⟨by rfl, rfl⟩) ?_ ?_
                              rotate_left
                              · simp only [Act.put, List.setIfInBounds_toArray, List.set_cons_zero, List.set_cons_succ, i64_w, i32_w]
                                rfl
                              refine pure_ (i := 16) (N := some 70) (v := undef) (a' := ?_) #[true, true, true, true, true, true, true, true, true, true, true, true, true, true, true, true, true, false, false, false, false] rfl rfl (any_of HT_.out (by kernel_rfl)) (fun _ _ _ h => h) (Or.inr ⟨by rfl, rfl⟩) ?_ ?_
                              rotate_left
                              · simp only [Act.put, List.setIfInBounds_toArray, List.set_cons_zero, List.set_cons_succ, i64_w, i32_w]
                                rfl
                              refine pure_ (i := 17) (N := some 71) (v := undef) (a' := ?_) #[true, true, true, true, true, true, true, true, true, true, true, true, true, true, true, true, true, true, false, false, false] rfl rfl (any_of HT_.out (by kernel_rfl)) (fun _ _ _ h => h) (Or.inr ⟨by rfl, rfl⟩) ?_ ?_
                              rotate_left
                              · simp only [Act.put, List.setIfInBounds_toArray, List.set_cons_zero, List.set_cons_succ, i64_w, i32_w]
                                rfl
                              refine pure_ (i := 18) (N := some 72) (v := undef) (a' := ?_) #[true, true, true, true, true, true, true, true, true, true, true, true, true, true, true, true, true, true, true, false, false] rfl rfl (any_of HT_.out (by kernel_rfl)) (fun _ _ _ h => h) (Or.inr ⟨by rfl, rfl⟩) ?_ ?_
                              rotate_left
                              · simp only [Act.put, List.setIfInBounds_toArray, List.set_cons_zero, List.set_cons_succ, i64_w, i32_w]
                                rfl
                              refine pure_ (i := 19) (N := some 73) (v := ?_) (a' := ?_) #[true, true, true, true, true, true, true, true, true, true, true, true, true, true, true, true, true, true, true, true, false] rfl rfl (any_of HT_.out (by kernel_rfl)) (fun _ _ _ h => h) (Or.inl ⟨by rfl, ?_⟩) ?_ ?_
                              rotate_left
                              · intro w'
                                go_simp
                                with_reducible rfl
                              rotate_left
                              · simp only [Act.put, List.setIfInBounds_toArray, List.set_cons_zero, List.set_cons_succ, i64_w, i32_w]
                                rfl
                              refine pure_ (i := 20) (N := some 74) (v := ?_) (a' := ?_) #[true, true, true, true, true, true, true, true, true, true, true, true, true, true, true, true, true, true, true, true, true] rfl rfl (any_of HT_.out (by kernel_rfl)) (fun _ _ _ h => h) (Or.inl ⟨by rfl, ?_⟩) ?_ ?_
                              rotate_left
                              · intro w'
                                go_simp
                                with_reducible rfl
                              rotate_left
                              · simp only [Act.put, List.setIfInBounds_toArray, List.set_cons_zero, List.set_cons_succ, i64_w, i32_w]
                                rfl
                              refine done_ (done_of HT_.out (by kernel_rfl)) ?_
                              try go_wp2
                              go_roundg k3
                              case measure => have := HK1.out; have := HK2.out; have := HK3.out; omega
                              case rel => exact ⟨(x32_2), (x15_3), (wrap64 (x32_2 + 1)), (by first | rfl | (simp; done) | (simp [*]; done)), (by first | rfl | (simp; done) | (simp [*]; done)), (by first | rfl | (simp; done) | (simp [*]; done)), H', ⟨by have := HK1.out; have := HK2.out; have := HK3.out; omega⟩, ⟨by (with_reducible repeat (first | apply Kd.R_alloc | apply Kd.R_drewN | apply Kd.R_drew)); exact HO_8.out⟩, ⟨by (with_reducible repeat (first | apply Kd.R_alloc | apply Kd.R_drewN | apply Kd.R_drew)); exact HO_9.out⟩, ⟨by repeat (first | (with_reducible first | exact HB.out | apply below_alloc | apply pw_below_drewN | apply below_drew1) | exact HB.out)⟩⟩
                            · rw [if_neg c23] at H
                              have c23b0 : decide (x11_2 < 0) = false := decide_eq_false c23
                              clear c23
                              by_cases c25 : 0 ≤ x32_2
                              · rw [if_pos c25] at H
                                have c25b0 : decide (0 ≤ x32_2) = true := decide_eq_true c25
                                clear c25
                                by_cases c26 : x32_2 < (l1.length : Int)
                                · rw [if_pos c26] at H
                                  have c26b0 : decide (x32_2 < (l1.length : Int)) = true := decide_eq_true c26
                                  clear c26
                                  by_cases c27 : 0 ≤ x11_2
                                  · rw [if_pos c27] at H
                                    have c27b0 : decide (0 ≤ x11_2) = true := decide_eq_true c27
                                    clear c27
                                    by_cases c28 : x11_2 < (l1.length : Int)
                                    · rw [if_pos c28] at H
                                      have c28b0 : decide (x11_2 < (l1.length : Int)) = true := decide_eq_true c28
                                      clear c28
                                      by_cases c29 : (wrap64 ((rd l1 x32_2) * x12_2)) < (wrap64 ((rd l1 x11_2) * x15_3))
                                      · rw [if_pos c29] at H
                                        have c29b0 : decide ((wrap64 ((rd l1 x32_2) * x12_2)) < (wrap64 ((rd l1 x11_2) * x15_3))) = true := decide_eq_true c29
                                        clear c29
                                        have H' := Aside0.mk H
                                        clear H
                                        try go_wp2
                                        have n0_ := Aside0.mk (Kd.R_drew HO_8.out)
                                        have n1_ := Aside0.mk (Kd.R_drew HO_9.out)
                                        have n2_ := Aside0.mk (below_drew1 HB.out)
                                        clear HO_8
                                        clear HO_9
                                        clear HB
                                        have HO_8 := n0_
                                        have HO_9 := n1_
                                        have HB := n2_
                                        clear n0_ n1_ n2_
                                        have p161 : 0 ≤ (x32_2 : Int) := of_decide_eq_true (by first | (with_reducible assumption) | assumption)
                                        have q161 : x32_2 < (l1.length : Int) := of_decide_eq_true (by first | (with_reducible assumption) | assumption)
                                        obtain ⟨ad161, e161, hx161_0⟩ := Kd.at_int HR1.out x32_2 p161 q161
                                        have hw161_0 := hx161_0
                                        cases e161
                                        replace hx161_0 := (HB.out.cell (World.block_lt_of_cell? w _ hx161_0)).trans hx161_0
                                        replace p161 := eq_true p161
                                        replace q161 := eq_true q161
                                        have p162 : 0 ≤ (x11_2 : Int) := of_decide_eq_true (by first | (with_reducible assumption) | assumption)
                                        have q162 : x11_2 < (l1.length : Int) := of_decide_eq_true (by first | (with_reducible assumption) | assumption)
                                        obtain ⟨ad162, e162, hx162_0⟩ := Kd.at_int HR1.out x11_2 p162 q162
                                        have hw162_0 := hx162_0
                                        obtain rfl : ad161 = ad162 := (by injection e162)
                                        replace hx162_0 := (HB.out.cell (World.block_lt_of_cell? w _ hx162_0)).trans hx162_0
                                        replace p162 := eq_true p162
                                        replace q162 := eq_true q162
                                        refine start_ (n := 21) (S := fun w' => w'.cell? (ad161.add (x32_2).toNat) = some (.int .i64 (rd l1 x32_2)) ∧ w'.cell? (ad161.add (x11_2).toNat) = some (.int .i64 (rd l1 x11_2))) (ds := []) #[false, false, false, false, false, false, false, false, false, false, false, false, false, false, false, false, false, false, false, false, false] (by kernel_rfl) rfl rfl ⟨((HB.out.cell (World.block_lt_of_cell? w _ hw161_0)).trans hw161_0), ((HB.out.cell (World.block_lt_of_cell? w _ hw162_0)).trans hw162_0)⟩ (fun hHeld => ?_); refine with_tabW choose_Greedy.tab19 choose_Greedy.bits19 (fun HT_ HW_ => ?_)
                                        generalize wr.drew = w30 at HO_8 HO_9 HB hx161_0 hx162_0 hHeld ⊢
                                        refine pure_ (i := 0) (N := some 54) (v := ?_) (a' := ?_) #[true, false, false, false, false, false, false, false, false, false, false, false, false, false, false, false, false, false, false, false, false] rfl rfl (any_of HT_.out (by kernel_rfl)) (fun _ _ _ h => h) (Or.inl ⟨by rfl, ?_⟩) ?_ ?_
                                        rotate_left
                                        · intro w'
                                          go_simp
                                          with_reducible rfl
                                        rotate_left
                                        · simp only [Act.put, List.setIfInBounds_toArray, List.set_cons_zero, List.set_cons_succ, i64_w, i32_w]
                                          rfl
                                        refine pure_ (i := 1) (N := some 55) (v := ?_) (a' := ?_) #[true, true, false, false, false, false, false, false, false, false, false, false, false, false, false, false, false, false, false, false, false] rfl rfl (any_of HT_.out (by kernel_rfl)) (fun _ _ _ h => h) (Or.inl ⟨by rfl, ?_⟩) ?_ ?_
                                        rotate_left
                                        · intro w'
                                          go_simp
                                          with_reducible rfl
                                        rotate_left
                                        · simp only [Act.put, List.setIfInBounds_toArray, List.set_cons_zero, List.set_cons_succ, i64_w, i32_w]
                                          rfl
                                        refine pure_ (i := 2) (N := some 56) (v := ?_) (a' := ?_) #[true, true, true, false, false, false, false, false, false, false, false, false, false, false, false, false, false, false, false, false, false] rfl rfl (any_of HT_.out (by kernel_rfl)) (fun _ _ _ h => h) (Or.inl ⟨by rfl, ?_⟩) ?_ ?_
                                        rotate_left
                                        · intro w'
                                          go_simp
                                          with_reducible rfl
                                        rotate_left
                                        · simp only [Act.put, List.setIfInBounds_toArray, List.set_cons_zero, List.set_cons_succ, i64_w, i32_w]
                                          rfl
                                        refine pure_ (i := 3) (N := some 57) (v := ?_) (a' := ?_) #[true, true, true, true, false, false, false, false, false, false, false, false, false, false, false, false, false, false, false, false, false] rfl rfl (any_of HT_.out (by kernel_rfl)) (fun _ _ _ h => h) (Or.inl ⟨by rfl, ?_⟩) ?_ ?_
                                        rotate_left
                                        · intro w'
                                          go_simp
                                          with_reducible rfl
                                        rotate_left
                                        · simp only [Act.put, List.setIfInBounds_toArray, List.set_cons_zero, List.set_cons_succ, i64_w, i32_w]
                                          rfl
                                        refine pure_ (i := 4) (N := some 58) (v := ?_) (a' := ?_) #[true, true, true, true, true, false, false, false, false, false, false, false, false, false, false, false, false, false, false, false, false] rfl rfl (any_of HT_.out (by kernel_rfl)) (fun _ _ _ h => h) (Or.inl ⟨by rfl, ?_⟩) ?_ ?_
                                        rotate_left
                                        · intro w'
                                          go_simp
                                          with_reducible rfl
                                        rotate_left
                                        · simp only [Act.put, List.setIfInBounds_toArray, List.set_cons_zero, List.set_cons_succ, i64_w, i32_w]
                                          rfl
                                        refine pure_ (i := 5) (N := some 59) (v := ?_) (a' := ?_) #[true, true, true, true, true, true, false, false, false, false, false, false, false, false, false, false, false, false, false, false, false] rfl rfl (any_of HT_.out (by kernel_rfl)) (fun _ _ _ h => h) (Or.inl ⟨by rfl, ?_⟩) ?_ ?_
                                        rotate_left
                                        · intro w'
                                          go_simp
                                          with_reducible rfl
                                        rotate_left
                                        · simp only [Act.put, List.setIfInBounds_toArray, List.set_cons_zero, List.set_cons_succ, i64_w, i32_w]
                                          rfl
                                        refine pure_ (i := 6) (N := some 60) (v := ?_) (a' := ?_) #[true, true, true, true, true, true, true, false, false, false, false, false, false, false, false, false, false, false, false, false, false] rfl rfl (any_of HT_.out (by kernel_rfl)) (fun _ _ _ h => h) (Or.inl ⟨by rfl, ?_⟩) ?_ ?_
                                        rotate_left
                                        · intro w'
                                          go_simp
                                          with_reducible rfl
                                        rotate_left
                                        · simp only [Act.put, List.setIfInBounds_toArray, List.set_cons_zero, List.set_cons_succ, i64_w, i32_w]
                                          rfl
                                        refine pure_ (i := 7) (N := some 61) (v := ?_) (a' := ?_) #[true, true, true, true, true, true, true, true, false, false, false, false, false, false, false, false, false, false, false, false, false] rfl rfl (any_of HT_.out (by kernel_rfl)) (fun _ _ _ h => h) (Or.inl ⟨by rfl, ?_⟩) ?_ ?_
                                        rotate_left
                                        · intro w'
                                          go_simp
                                          with_reducible rfl
                                        rotate_left
                                        · simp only [Act.put, List.setIfInBounds_toArray, List.set_cons_zero, List.set_cons_succ, i64_w, i32_w]
                                          rfl
                                        refine pure_ (i := 8) (N := some 62) (v := ?_) (a' := ?_) #[true, true, true, true, true, true, true, true, true, false, false, false, false, false, false, false, false, false, false, false, false] rfl rfl (any_of HT_.out (by kernel_rfl)) (fun _ _ _ h => h) (Or.inl ⟨by rfl, ?_⟩) ?_ ?_
                                        rotate_left
                                        · intro w'
                                          go_simp
                                          with_reducible rfl
                                        rotate_left
                                        · simp only [Act.put, List.setIfInBounds_toArray, List.set_cons_zero, List.set_cons_succ, i64_w, i32_w]
                                          rfl
                                        refine pure_ (i := 10) (N := some 64) (v := ?_) (a' := ?_) #[true, true, true, true, true, true, true, true, true, false, true, false, false, false, false, false, false, false, false, false, false] rfl rfl (any_of HT_.out (by kernel_rfl)) (fun _ _ _ h => h) (Or.inl ⟨by rfl, ?_⟩) ?_ ?_
                                        rotate_left
                                        · intro w'
                                          go_simp
                                          with_reducible rfl
                                        rotate_left
                                        · simp only [Act.put, List.setIfInBounds_toArray, List.set_cons_zero, List.set_cons_succ, i64_w, i32_w]
                                          rfl
                                        refine pure_ (i := 12) (N := some 66) (v := ?_) (a' := ?_) #[true, true, true, true, true, true, true, true, true, false, true, false, true, false, false, false, false, false, false, false, false] rfl rfl (any_of HT_.out (by kernel_rfl)) (fun _ _ _ h => h) (Or.inl ⟨by rfl, ?_⟩) ?_ ?_
                                        rotate_left
                                        · intro w'
                                          go_simp
                                          with_reducible rfl
                                        rotate_left
                                        · simp only [Act.put, List.setIfInBounds_toArray, List.set_cons_zero, List.set_cons_succ, i64_w, i32_w]
                                          rfl
                                        refine pure_ (i := 13) (N := some 67) (v := ?_) (a' := ?_) #[true, true, true, true, true, true, true, true, true, false, true, false, true, true, false, false, false, false, false, false, false] rfl rfl (any_of HT_.out (by kernel_rfl)) (fun _ _ _ h => h) (Or.inl ⟨by rfl, ?_⟩) ?_ ?_
                                        rotate_left
                                        · intro w'
                                          go_simp
                                          with_reducible rfl
                                        rotate_left
                                        · simp only [Act.put, List.setIfInBounds_toArray, List.set_cons_zero, List.set_cons_succ, i64_w, i32_w]
                                          rfl
                                        refine pure_ (i := 14) (N := some 68) (v := ?_) (a' := ?_) #[true, true, true, true, true, true, true, true, true, false, true, false, true, true, true, false, false, false, false, false, false] rfl rfl (any_of HT_.out (by kernel_rfl)) (fun _ _ _ h => h) (Or.inl ⟨by rfl, ?_⟩) ?_ ?_
                                        rotate_left
                                        · intro w'
                                          go_simp
                                          with_reducible rfl
                                        rotate_left
                                        · simp only [Act.put, List.setIfInBounds_toArray, List.set_cons_zero, List.set_cons_succ, i64_w, i32_w]
                                          rfl
                                        refine pure_ (i := 16) (N := some 70) (v := ?_) (a' := ?_) #[true, true, true, true, true, true, true, true, true, false, true, false, true, true, true, false, true, false, false, false, false] rfl rfl (any_of HT_.out (by kernel_rfl)) (fun _ _ _ h => h) (Or.inl ⟨by rfl, ?_⟩) ?_ ?_
                                        rotate_left
                                        · intro w'
                                          go_simp
                                          with_reducible rfl
                                        rotate_left
                                        · simp only [Act.put, List.setIfInBounds_toArray, List.set_cons_zero, List.set_cons_succ, i64_w, i32_w]
                                          rfl
                                        refine take_ (i := 9) (N := some 63) (v := ?_) (a' := ?_) #[true, true, true, true, true, true, true, true, true, true, true, false, true, true, true, false, true, false, false, false, false] rfl rfl (take_ofW HT_.out HW_.out (by kernel_rfl)) (fun _ _ _ h => h) (Or.inl ⟨by rfl, ?_⟩) hHeld ?_ ?_
                                        rotate_left
                                        · rintro w' ⟨s0, s1⟩
                                          go_simp
                                          with_reducible rfl
                                        rotate_left
                                        · simp only [Act.put, List.setIfInBounds_toArray, List.set_cons_zero, List.set_cons_succ, i64_w, i32_w]
                                          rfl
                                        refine pure_ (i := 11) (N := some 65) (v := ?_) (a' := ?_) #[true, true, true, true, true, true, true, true, true, true, true, true, true, true, true, false, true, false, false, false, false] rfl rfl (any_of HT_.out (by kernel_rfl)) (fun _ _ _ h => h) (Or.inl ⟨by rfl, ?_⟩) ?_ ?_
                                        rotate_left
                                        · intro w'
                                          go_simp
                                          with_reducible rfl
                                        rotate_left
                                        · simp only [Act.put, List.setIfInBounds_toArray, List.set_cons_zero, List.set_cons_succ, i64_w, i32_w]
                                          rfl
                                        refine take_ (i := 15) (N := some 69) (v := ?_) (a' := ?_) #[true, true, true, true, true, true, true, true, true, true, true, true, true, true, true, true, true, false, false, false, false] rfl rfl (take_ofW HT_.out HW_.out (by kernel_rfl)) (fun _ _ _ h => h) (Or.inl ⟨by rfl, ?_⟩) hHeld ?_ ?_
                                        rotate_left
                                        · rintro w' ⟨s0, s1⟩
                                          go_simp
                                          with_reducible rfl
                                        rotate_left
                                        · simp only [Act.put, List.setIfInBounds_toArray, List.set_cons_zero, List.set_cons_succ, i64_w, i32_w]
                                          rfl
                                        refine pure_ (i := 17) (N := some 71) (v := ?_) (a' := ?_) #[true, true, true, true, true, true, true, true, true, true, true, true, true, true, true, true, true, true, false, false, false] rfl rfl (any_of HT_.out (by kernel_rfl)) (fun _ _ _ h => h) (Or.inl ⟨by rfl, ?_⟩) ?_ ?_
                                        rotate_left
                                        · intro w'
                                          go_simp
                                          with_reducible rfl
                                        rotate_left
                                        · simp only [Act.put, List.setIfInBounds_toArray, List.set_cons_zero, List.set_cons_succ, i64_w, i32_w]
                                          rfl
                                        refine pure_ (i := 18) (N := some 72) (v := ?_) (a' := ?_) #[true, true, true, true, true, true, true, true, true, true, true, true, true, true, true, true, true, true, true, false, false] rfl rfl (any_of HT_.out (by kernel_rfl)) (fun _ _ _ h => h) (Or.inl ⟨by rfl, ?_⟩) ?_ ?_
                                        rotate_left
                                        · intro w'
                                          go_simp
                                          with_reducible rfl
                                        rotate_left
                                        · simp only [Act.put, List.setIfInBounds_toArray, List.set_cons_zero, List.set_cons_succ, i64_w, i32_w]
                                          rfl
                                        refine pure_ (i := 19) (N := some 73) (v := ?_) (a' := ?_) #[true, true, true, true, true, true, true, true, true, true, true, true, true, true, true, true, true, true, true, true, false] rfl rfl (any_of HT_.out (by kernel_rfl)) (fun _ _ _ h => h) (Or.inl ⟨by rfl, ?_⟩) ?_ ?_
                                        rotate_left
                                        · intro w'
                                          go_simp
                                          with_reducible rfl
                                        rotate_left
                                        · simp only [Act.put, List.setIfInBounds_toArray, List.set_cons_zero, List.set_cons_succ, i64_w, i32_w]
                                          rfl
                                        refine pure_ (i := 20) (N := some 74) (v := ?_) (a' := ?_) #[true, true, true, true, true, true, true, true, true, true, true, true, true, true, true, true, true, true, true, true, true] rfl rfl (any_of HT_.out (by kernel_rfl)) (fun _ _ _ h => h) (Or.inl ⟨by rfl, ?_⟩) ?_ ?_
                                        rotate_left
                                        · intro w'
                                          go_simp
                                          with_reducible rfl
                                        rotate_left
                                        · simp only [Act.put, List.setIfInBounds_toArray, List.set_cons_zero, List.set_cons_succ, i64_w, i32_w]
                                          rfl
                                        refine done_ (done_of HT_.out (by kernel_rfl)) ?_
                                        try go_wp2
                                        go_roundg k3
                                        case measure => have := HK1.out; have := HK2.out; have := HK3.out; omega
                                        case rel => exact ⟨(x32_2), (x15_3), (wrap64 (x32_2 + 1)), (by first | rfl | (simp; done) | (simp [*]; done)), (by first | rfl | (simp; done) | (simp [*]; done)), (by first | rfl | (simp; done) | (simp [*]; done)), H', ⟨by have := HK1.out; have := HK2.out; have := HK3.out; omega⟩, ⟨by (with_reducible repeat (first | apply Kd.R_alloc | apply Kd.R_drewN | apply Kd.R_drew)); exact HO_8.out⟩, ⟨by (with_reducible repeat (first | apply Kd.R_alloc | apply Kd.R_drewN | apply Kd.R_drew)); exact HO_9.out⟩, ⟨by repeat (first | (with_reducible first | exact HB.out | apply below_alloc | apply pw_below_drewN | apply below_drew1) | exact HB.out)⟩⟩
                                      · rw [if_neg c29] at H
                                        have c29b0 : decide ((wrap64 ((rd l1 x32_2) * x12_2)) < (wrap64 ((rd l1 x11_2) * x15_3))) = false := decide_eq_false c29
                                        clear c29
                                        have H' := Aside0.mk H
                                        clear H
                                        try go_wp2
                                        have n0_ := Aside0.mk (Kd.R_drew HO_8.out)
                                        have n1_ := Aside0.mk (Kd.R_drew HO_9.out)
                                        have n2_ := Aside0.mk (below_drew1 HB.out)
                                        clear HO_8
                                        clear HO_9
                                        clear HB
                                        have HO_8 := n0_
                                        have HO_9 := n1_
                                        have HB := n2_
                                        clear n0_ n1_ n2_
                                        have p161 : 0 ≤ (x32_2 : Int) := of_decide_eq_true (by first | (with_reducible assumption) | assumption)
                                        have q161 : x32_2 < (l1.length : Int) := of_decide_eq_true (by first | (with_reducible assumption) | assumption)
                                        obtain ⟨ad161, e161, hx161_0⟩ := Kd.at_int HR1.out x32_2 p161 q161
                                        have hw161_0 := hx161_0
                                        cases e161
                                        replace hx161_0 := (HB.out.cell (World.block_lt_of_cell? w _ hx161_0)).trans hx161_0
                                        replace p161 := eq_true p161
                                        replace q161 := eq_true q161
                                        have p162 : 0 ≤ (x11_2 : Int) := of_decide_eq_true (by first | (with_reducible assumption) | assumption)
                                        have q162 : x11_2 < (l1.length : Int) := of_decide_eq_true (by first | (with_reducible assumption) | assumption)
                                        obtain ⟨ad162, e162, hx162_0⟩ := Kd.at_int HR1.out x11_2 p162 q162
                                        have hw162_0 := hx162_0
                                        obtain rfl : ad161 = ad162 := (by injection e162)
                                        replace hx162_0 := (HB.out.cell (World.block_lt_of_cell? w _ hx162_0)).trans hx162_0
                                        replace p162 := eq_true p162
                                        replace q162 := eq_true q162
                                        refine start_ (n := 21) (S := fun w' => w'.cell? (ad161.add (x32_2).toNat) = some (.int .i64 (rd l1 x32_2)) ∧ w'.cell? (ad161.add (x11_2).toNat) = some (.int .i64 (rd l1 x11_2))) (ds := []) #[false, false, false, false, false, false, false, false, false, false, false, false, false, false, false, false, false, false, false, false, false] (by kernel_rfl) rfl rfl ⟨((HB.out.cell (World.block_lt_of_cell? w _ hw161_0)).trans hw161_0), ((HB.out.cell (World.block_lt_of_cell? w _ hw162_0)).trans hw162_0)⟩ (fun hHeld => ?_); refine with_tabW choose_Greedy.tab19 choose_Greedy.bits19 (fun HT_ HW_ => ?_)
                                        generalize wr.drew = w31 at HO_8 HO_9 HB hx161_0 hx162_0 hHeld ⊢
                                        refine pure_ (i := 0) (N := some 54) (v := ?_) (a' := ?_) #[true, false, false, false, false, false, false, false, false, false, false, false, false, false, false, false, false, false, false, false, false] rfl rfl (any_of HT_.out (by kernel_rfl)) (fun _ _ _ h => h) (Or.inl ⟨by rfl, ?_⟩) ?_ ?_
                                        rotate_left
                                        · intro w'
                                          go_simp
                                          with_reducible rfl
                                        rotate_left
                                        · simp only [Act.put, List.setIfInBounds_toArray, List.set_cons_zero, List.set_cons_succ, i64_w, i32_w]
                                          rfl
                                        refine pure_ (i := 1) (N := some 55) (v := ?_) (a' := ?_) #[true, true, false, false, false, false, false, false, false, false, false, false, false, false, false, false, false, false, false, false, false] rfl rfl (any_of HT_.out (by kernel_rfl)) (fun _ _ _ h => h) (Or.inl ⟨by rfl, ?_⟩) ?_ ?_
                                        rotate_left
                                        · intro w'
                                          go_simp
                                          with_reducible rfl
                                        rotate_left
                                        · simp only [Act.put, List.setIfInBounds_toArray, List.set_cons_zero, List.set_cons_succ, i64_w, i32_w]
                                          rfl
                                        refine pure_ (i := 2) (N := some 56) (v := ?_) (a' := ?_) #[true, true, true, false, false, false, false, false, false, false, false, false, false, false, false, false, false, false, false, false, false] rfl rfl (any_of HT_.out (by kernel_rfl)) (fun _ _ _ h => h) (Or.inl ⟨by rfl, ?_⟩) ?_ ?_
                                        rotate_left
                                        · intro w'
                                          go_simp
                                          with_reducible rfl
                                        rotate_left
                                        · simp only [Act.put, List.setIfInBounds_toArray, List.set_cons_zero, List.set_cons_succ, i64_w, i32_w]
                                          rfl
                                        refine pure_ (i := 3) (N := some 57) (v := ?_) (a' := ?_) #[true, true, true, true, false, false, false, false, false, false, false, false, false, false, false, false, false, false, false, false, false] rfl rfl (any_of HT_.out (by kernel_rfl)) (fun _ _ _ h => h) (Or.inl ⟨by rfl, ?_⟩) ?_ ?_
                                        rotate_left
                                        · intro w'
                                          go_simp
                                          with_reducible rfl
                                        rotate_left
                                        · simp only [Act.put, List.setIfInBounds_toArray, List.set_cons_zero, List.set_cons_succ, i64_w, i32_w]
                                          rfl
                                        refine pure_ (i := 4) (N := some 58) (v := ?_) (a' := ?_) #[true, true, true, true, true, false, false, false, false, false, false, false, false, false, false, false, false, false, false, false, false] rfl rfl (any_of HT_.out (by kernel_rfl)) (fun _ _ _ h => h) (Or.inl ⟨by rfl, ?_⟩) ?_ ?_
                                        rotate_left
                                        · intro w'
                                          go_simp
                                          with_reducible rfl
                                        rotate_left
                                        · simp only [Act.put, List.setIfInBounds_toArray, List.set_cons_zero, List.set_cons_succ, i64_w, i32_w]
                                          rfl
                                        refine pure_ (i := 5) (N := some 59) (v := ?_) (a' := ?_) #[true, true, true, true, true, true, false, false, false, false, false, false, false, false, false, false, false, false, false, false, false] rfl rfl (any_of HT_.out (by kernel_rfl)) (fun _ _ _ h => h) (Or.inl ⟨by rfl, ?_⟩) ?_ ?_
                                        rotate_left
                                        · intro w'
                                          go_simp
                                          with_reducible rfl
                                        rotate_left
                                        · simp only [Act.put, List.setIfInBounds_toArray, List.set_cons_zero, List.set_cons_succ, i64_w, i32_w]
                                          rfl
                                        refine pure_ (i := 6) (N := some 60) (v := ?_) (a' := ?_) #[true, true, true, true, true, true, true, false, false, false, false, false, false, false, false, false, false, false, false, false, false] rfl rfl (any_of HT_.out (by kernel_rfl)) (fun _ _ _ h => h) (Or.inl ⟨by rfl, ?_⟩) ?_ ?_
                                        rotate_left
                                        · intro w'
                                          go_simp
                                          with_reducible rfl
                                        rotate_left
                                        · simp only [Act.put, List.setIfInBounds_toArray, List.set_cons_zero, List.set_cons_succ, i64_w, i32_w]
                                          rfl
                                        refine pure_ (i := 7) (N := some 61) (v := ?_) (a' := ?_) #[true, true, true, true, true, true, true, true, false, false, false, false, false, false, false, false, false, false, false, false, false] rfl rfl (any_of HT_.out (by kernel_rfl)) (fun _ _ _ h => h) (Or.inl ⟨by rfl, ?_⟩) ?_ ?_
                                        rotate_left
                                        · intro w'
                                          go_simp
                                          with_reducible rfl
                                        rotate_left
                                        · simp only [Act.put, List.setIfInBounds_toArray, List.set_cons_zero, List.set_cons_succ, i64_w, i32_w]
                                          rfl
                                        refine pure_ (i := 8) (N := some 62) (v := ?_) (a' := ?_) #[true, true, true, true, true, true, true, true, true, false, false, false, false, false, false, false, false, false, false, false, false] rfl rfl (any_of HT_.out (by kernel_rfl)) (fun _ _ _ h => h) (Or.inl ⟨by rfl, ?_⟩) ?_ ?_
                                        rotate_left
                                        · intro w'
                                          go_simp
                                          with_reducible rfl
                                        rotate_left
                                        · simp only [Act.put, List.setIfInBounds_toArray, List.set_cons_zero, List.set_cons_succ, i64_w, i32_w]
                                          rfl
                                        refine pure_ (i := 10) (N := some 64) (v := ?_) (a' := ?_) #[true, true, true, true, true, true, true, true, true, false, true, false, false, false, false, false, false, false, false, false, false] rfl rfl (any_of HT_.out (by kernel_rfl)) (fun _ _ _ h => h) (Or.inl ⟨by rfl, ?_⟩) ?_ ?_
                                        rotate_left
                                        · intro w'
                                          go_simp
                                          with_reducible rfl
                                        rotate_left
                                        · simp only [Act.put, List.setIfInBounds_toArray, List.set_cons_zero, List.set_cons_succ, i64_w, i32_w]
                                          rfl
                                        refine pure_ (i := 12) (N := some 66) (v := ?_) (a' := ?_) #[true, true, true, true, true, true, true, true, true, false, true, false, true, false, false, false, false, false, false, false, false] rfl rfl (any_of HT_.out (by kernel_rfl)) (fun _ _ _ h => h) (Or.inl ⟨by rfl, ?_⟩) ?_ ?_
                                        rotate_left
                                        · intro w'
                                          go_simp
                                          with_reducible rfl
                                        rotate_left
                                        · simp only [Act.put, List.setIfInBounds_toArray, List.set_cons_zero, List.set_cons_succ, i64_w, i32_w]
                                          rfl
                                        refine pure_ (i := 13) (N := some 67) (v := ?_) (a' := ?_) #[true, true, true, true, true, true, true, true, true, false, true, false, true, true, false, false, false, false, false, false, false] rfl rfl (any_of HT_.out (by kernel_rfl)) (fun _ _ _ h => h) (Or.inl ⟨by rfl, ?_⟩) ?_ ?_
                                        rotate_left
                                        · intro w'
                                          go_simp
                                          with_reducible rfl
                                        rotate_left
                                        · simp only [Act.put, List.setIfInBounds_toArray, List.set_cons_zero, List.set_cons_succ, i64_w, i32_w]
                                          rfl
                                        refine pure_ (i := 14) (N := some 68) (v := ?_) (a' := ?_) #[true, true, true, true, true, true, true, true, true, false, true, false, true, true, true, false, false, false, false, false, false] rfl rfl (any_of HT_.out (by kernel_rfl)) (fun _ _ _ h => h) (Or.inl ⟨by rfl, ?_⟩) ?_ ?_
                                        rotate_left
                                        · intro w'
                                          go_simp
                                          with_reducible rfl
                                        rotate_left
                                        · simp only [Act.put, List.setIfInBounds_toArray, List.set_cons_zero, List.set_cons_succ, i64_w, i32_w]
                                          rfl
                                        refine pure_ (i := 16) (N := some 70) (v := ?_) (a' := ?_) #[true, true, true, true, true, true, true, true, true, false, true, false, true, true, true, false, true, false, false, false, false] rfl rfl (any_of HT_.out (by kernel_rfl)) (fun _ _ _ h => h) (Or.inl ⟨by rfl, ?_⟩) ?_ ?_
                                        rotate_left
                                        · intro w'
                                          go_simp
                                          with_reducible rfl
                                        rotate_left
                                        · simp only [Act.put, List.setIfInBounds_toArray, List.set_cons_zero, List.set_cons_succ, i64_w, i32_w]
                                          rfl
                                        refine take_ (i := 9) (N := some 63) (v := ?_) (a' := ?_) #[true, true, true, true, true, true, true, true, true, true, true, false, true, true, true, false, true, false, false, false, false] rfl rfl (take_ofW HT_.out HW_.out (by kernel_rfl)) (fun _ _ _ h => h) (Or.inl ⟨by rfl, ?_⟩) hHeld ?_ ?_
                                        rotate_left
                                        · rintro w' ⟨s0, s1⟩
                                          go_simp
                                          with_reducible rfl
                                        rotate_left
                                        · simp only [Act.put, List.setIfInBounds_toArray, List.set_cons_zero, List.set_cons_succ, i64_w, i32_w]
                                          rfl
                                        refine pure_ (i := 11) (N := some 65) (v := ?_) (a' := ?_) #[true, true, true, true, true, true, true, true, true, true, true, true, true, true, true, false, true, false, false, false, false] rfl rfl (any_of HT_.out (by kernel_rfl)) (fun _ _ _ h => h) (Or.inl ⟨by rfl, ?_⟩) ?_ ?_
                                        rotate_left
                                        · intro w'
                                          go_simp
                                          with_reducible rfl
                                        rotate_left
                                        · simp only [Act.put, List.setIfInBounds_toArray, List.set_cons_zero, List.set_cons_succ, i64_w, i32_w]
                                          rfl
                                        refine take_ (i := 15) (N := some 69) (v := ?_) (a' := ?_) #[true, true, true, true, true, true, true, true, true, true, true, true, true, true, true, true, true, false, false, false, false] rfl rfl (take_ofW HT_.out HW_.out (by kernel_rfl)) (fun _ _ _ h => h) (Or.inl ⟨by rfl, ?_⟩) hHeld ?_ ?_
                                        rotate_left
                                        · rintro w' ⟨s0, s1⟩
                                          go_simp
                                          with_reducible rfl
                                        rotate_left
                                        · simp only [Act.put, List.setIfInBounds_toArray, List.set_cons_zero, List.set_cons_succ, i64_w, i32_w]
                                          rfl
                                        refine pure_ (i := 17) (N := some 71) (v := ?_) (a' := ?_) #[true, true, true, true, true, true, true, true, true, true, true, true, true, true, true, true, true, true, false, false, false] rfl rfl (any_of HT_.out (by kernel_rfl)) (fun _ _ _ h => h) (Or.inl ⟨by rfl, ?_⟩) ?_ ?_
                                        rotate_left
                                        · intro w'
                                          go_simp
                                          with_reducible rfl
                                        rotate_left
                                        · simp only [Act.put, List.setIfInBounds_toArray, List.set_cons_zero, List.set_cons_succ, i64_w, i32_w]
                                          rfl
                                        refine pure_ (i := 18) (N := some 72) (v := ?_) (a' := ?_) #[true, true, true, true, true, true, true, true, true, true, true, true, true, true, true, true, true, true, true, false, false] rfl rfl (any_of HT_.out (by kernel_rfl)) (fun _ _ _ h => h) (Or.inl ⟨by rfl, ?_⟩) ?_ ?_
                                        rotate_left
                                        · intro w'
                                          go_simp
                                          with_reducible rfl
                                        rotate_left
                                        · simp only [Act.put, List.setIfInBounds_toArray, List.set_cons_zero, List.set_cons_succ, i64_w, i32_w]
                                          rfl
                                        refine pure_ (i := 19) (N := some 73) (v := ?_) (a' := ?_) #[true, true, true, true, true, true, true, true, true, true, true, true, true, true, true, true, true, true, true, true, false] rfl rfl (any_of HT_.out (by kernel_rfl)) (fun _ _ _ h => h) (Or.inl ⟨by rfl, ?_⟩) ?_ ?_
                                        rotate_left
                                        · intro w'
                                          go_simp
                                          with_reducible rfl
                                        rotate_left
                                        · simp only [Act.put, List.setIfInBounds_toArray, List.set_cons_zero, List.set_cons_succ, i64_w, i32_w]
                                          rfl
                                        refine pure_ (i := 20) (N := some 74) (v := ?_) (a' := ?_) #[true, true, true, true, true, true, true, true, true, true, true, true, true, true, true, true, true, true, true, true, true] rfl rfl (any_of HT_.out (by kernel_rfl)) (fun _ _ _ h => h) (Or.inl ⟨by rfl, ?_⟩) ?_ ?_
                                        rotate_left
                                        · intro w'
                                          go_simp
                                          with_reducible rfl
                                        rotate_left
                                        · simp only [Act.put, List.setIfInBounds_toArray, List.set_cons_zero, List.set_cons_succ, i64_w, i32_w]
                                          rfl
                                        refine done_ (done_of HT_.out (by kernel_rfl)) ?_
                                        try go_wp2
                                        go_roundg k3
                                        case measure => have := HK1.out; have := HK2.out; have := HK3.out; omega
                                        case rel => exact ⟨(x11_2), (x12_2), (wrap64 (x32_2 + 1)), (by first | rfl | (simp; done) | (simp [*]; done)), (by first | rfl | (simp; done) | (simp [*]; done)), (by first | rfl | (simp; done) | (simp [*]; done)), H', ⟨by have := HK1.out; have := HK2.out; have := HK3.out; omega⟩, ⟨by (with_reducible repeat (first | apply Kd.R_alloc | apply Kd.R_drewN | apply Kd.R_drew)); exact HO_8.out⟩, ⟨by (with_reducible repeat (first | apply Kd.R_alloc | apply Kd.R_drewN | apply Kd.R_drew)); exact HO_9.out⟩, ⟨by repeat (first | (with_reducible first | exact HB.out | apply below_alloc | apply pw_below_drewN | apply below_drew1) | exact HB.out)⟩⟩
                                    · rw [if_neg c28] at H
                                      exact absurd H (by simp)
                                  · rw [if_neg c27] at H
                                    exact absurd H (by simp)
                                · rw [if_neg c26] at H
                                  exact absurd H (by simp)
                              · rw [if_neg c25] at H
                                exact absurd H (by simp)
                          · rw [if_neg c22] at H
                            have c22b0 : decide (0 < x15_3) = false := decide_eq_false c22
                            clear c22
                            have H' := Aside0.mk H
                            clear H
                            try go_wp2
                            have n0_ := Aside0.mk (Kd.R_drew HO_8.out)
                            have n1_ := Aside0.mk (Kd.R_drew HO_9.out)
                            have n2_ := Aside0.mk (below_drew1 HB.out)
                            clear HO_8
                            clear HO_9
                            clear HB
                            have HO_8 := n0_
                            have HO_9 := n1_
                            have HB := n2_
                            clear n0_ n1_ n2_
                            refine start_ (n := 21) (S := fun w' => True) (ds := []) #[false, false, false, false, false, false, false, false, false, false, false, false, false, false, false, false, false, false, false, false, false] (by kernel_rfl) rfl rfl trivial (fun hHeld => ?_); refine with_tabW choose_Greedy.tab19 choose_Greedy.bits19 (fun HT_ HW_ => ?_)
                            generalize wr.drew = w32 at HO_8 HO_9 HB hHeld ⊢
                            refine pure_ (i := 0) (N := some 54) (v := ?_) (a' := ?_) #[true, false, false, false, false, false, false, false, false, false, false, false, false, false, false, false, false, false, false, false, false] rfl rfl (any_of HT_.out (by kernel_rfl)) (fun _ _ _ h => h) (Or.inl ⟨by rfl, ?_⟩) ?_ ?_
                            rotate_left
                            · intro w'
                              go_simp
                              with_reducible rfl
                            rotate_left
                            · simp only [Act.put, List.setIfInBounds_toArray, List.set_cons_zero, List.set_cons_succ, i64_w, i32_w]
                              rfl
                            refine pure_ (i := 1) (N := some 55) (v := ?_) (a' := ?_) #[true, true, false, false, false, false, false, false, false, false, false, false, false, false, false, false, false, false, false, false, false] rfl rfl (any_of HT_.out (by kernel_rfl)) (fun _ _ _ h => h) (Or.inl ⟨by rfl, ?_⟩) ?_ ?_
                            rotate_left
                            · intro w'
                              go_simp
                              with_reducible rfl
                            rotate_left
                            · simp only [Act.put, List.setIfInBounds_toArray, List.set_cons_zero, List.set_cons_succ, i64_w, i32_w]
                              rfl
                            refine pure_ (i := 2) (N := some 56) (v := ?_) (a' := ?_) #[true, true, true, false, false, false, false, false, false, false, false, false, false, false, false, false, false, false, false, false, false] rfl rfl (any_of HT_.out (by kernel_rfl)) (fun _ _ _ h => h) (Or.inl ⟨by rfl, ?_⟩) ?_ ?_
                            rotate_left
                            · intro w'
                              go_simp
                              with_reducible rfl
                            rotate_left
                            · simp only [Act.put, List.setIfInBounds_toArray, List.set_cons_zero, List.set_cons_succ, i64_w, i32_w]
                              rfl
                            refine pure_ (i := 3) (N := some 57) (v := undef) (a' := ?_) #[true, true, true, true, false, false, false, false, false, false, false, false, false, false, false, false, false, false, false, false, false] rfl rfl (any_of HT_.out (by kernel_rfl)) (fun _ _ _ h => h) (Or.inr ⟨by rfl, rfl⟩) ?_ ?_
                            rotate_left
                            · simp only [Act.put, List.setIfInBounds_toArray, List.set_cons_zero, List.set_cons_succ, i64_w, i32_w]
                              rfl
                            refine pure_ (i := 4) (N := some 58) (v := undef) (a' := ?_) #[true, true, true, true, true, false, false, false, false, false, false, false, false, false, false, false, false, false, false, false, false] rfl rfl (any_of HT_.out (by kernel_rfl)) (fun _ _ _ h => h) (Or.inr ⟨by rfl, rfl⟩) ?_ ?_
                            rotate_left
                            · simp only [Act.put, List.setIfInBounds_toArray, List.set_cons_zero, List.set_cons_succ, i64_w, i32_w]
                              rfl
                            refine pure_ (i := 5) (N := some 59) (v := undef) (a' := ?_) #[true, true, true, true, true, true, false, false, false, false, false, false, false, false, false, false, false, false, false, false, false] rfl rfl (any_of HT_.out (by kernel_rfl)) (fun _ _ _ h => h) (Or.inr ⟨by rfl, rfl⟩) ?_ ?_
                            rotate_left
                            · simp only [Act.put, List.setIfInBounds_toArray, List.set_cons_zero, List.set_cons_succ, i64_w, i32_w]
                              rfl
                            refine pure_ (i := 6) (N := some 60) (v := undef) (a' := ?_) #[true, true, true, true, true, true, true, false, false, false, false, false, false, false, false, false, false, false, false, false, false] rfl rfl (any_of HT_.out (by kernel_rfl)) (fun _ _ _ h => h) (Or.inr ⟨by rfl, rfl⟩) ?_ ?_
                            rotate_left
                            · simp only [Act.put, List.setIfInBounds_toArray, List.set_cons_zero, List.set_cons_succ, i64_w, i32_w]
                              rfl
                            refine pure_ (i := 7) (N := some 61) (v := undef) (a' := ?_) #[true, true, true, true, true, true, true, true, false, false, false, false, false, false, false, false, false, false, false, false, false] rfl rfl (any_of HT_.out (by kernel_rfl)) (fun _ _ _ h => h) (Or.inr ⟨by rfl, rfl⟩) ?_ ?_
                            rotate_left
                            · simp only [Act.put, List.setIfInBounds_toArray, List.set_cons_zero, List.set_cons_succ, i64_w, i32_w]
                              rfl
                            refine pure_ (i := 8) (N := some 62) (v := undef) (a' := ?_) #[true, true, true, true, true, true, true, true, true, false, false, false, false, false, false, false, false, false, false, false, false] rfl rfl (any_of HT_.out (by kernel_rfl)) (fun _ _ _ h => h) (Or.inr ⟨by rfl, rfl⟩) ?_ ?_
                            rotate_left
                            · simp only [Act.put, List.setIfInBounds_toArray, List.set_cons_zero, List.set_cons_succ, i64_w, i32_w]
                              rfl
                            refine pure_ (i := 9) (N := some 63) (v := undef) (a' := ?_) #[true, true, true, true, true, true, true, true, true, true, false, false, false, false, false, false, false, false, false, false, false] rfl rfl (any_of HT_.out (by kernel_rfl)) (fun _ _ _ h => h) (Or.inr ⟨by rfl, rfl⟩) ?_ ?_
                            rotate_left
                            · simp only [Act.put, List.setIfInBounds_toArray, List.set_cons_zero, List.set_cons_succ, i64_w, i32_w]
                              rfl
                            refine pure_ (i := 10) (N := some 64) (v := undef) (a' := ?_) #[true, true, true, true, true, true, true, true, true, true, true, false, false, false, false, false, false, false, false, false, false] rfl rfl (any_of HT_.out (by kernel_rfl)) (fun _ _ _ h => h) (Or.inr ⟨by rfl, rfl⟩) ?_ ?_
                            rotate_left
                            · simp only [Act.put, List.setIfInBounds_toArray, List.set_cons_zero, List.set_cons_succ, i64_w, i32_w]
                              rfl
                            refine pure_ (i := 11) (N := some 65) (v := undef) (a' := ?_) #[true, true, true, true, true, true, true, true, true, true, true, true, false, false, false, false, false, false, false, false, false] rfl rfl (any_of HT_.out (by kernel_rfl)) (fun _ _ _ h => h) (Or.inr ⟨by rfl, rfl⟩) ?_ ?_
                            rotate_left
                            · simp only [Act.put, List.setIfInBounds_toArray, List.set_cons_zero, List.set_cons_succ, i64_w, i32_w]
                              rfl
                            refine pure_ (i := 12) (N := some 66) (v := undef) (a' := ?_) #[true, true, true, true, true, true, true, true, true, true, true, true, true, false, false, false, false, false, false, false, false] rfl rfl (any_of HT_.out (by kernel_rfl)) (fun _ _ _ h => h) (Or.inr ⟨by rfl, rfl⟩) ?_ ?_
                            rotate_left
                            · simp only [Act.put, List.setIfInBounds_toArray, List.set_cons_zero, List.set_cons_succ, i64_w, i32_w]
                              rfl
                            refine pure_ (i := 13) (N := some 67) (v := undef) (a' := ?_) #[true, true, true, true, true, true, true, true, true, true, true, true, true, true, false, false, false, false, false, false, false] rfl rfl (any_of HT_.out (by kernel_rfl)) (fun _ _ _ h => h) (Or.inr ⟨by rfl, rfl⟩) ?_ ?_
                            rotate_left
                            · simp only [Act.put, List.setIfInBounds_toArray, List.set_cons_zero, List.set_cons_succ, i64_w, i32_w]
                              rfl
                            refine pure_ (i := 14) (N := some 68) (v := undef) (a' := ?_) #[true, true, true, true, true, true, true, true, true, true, true, true, true, true, true, false, false, false, false, false, false] rfl rfl (any_of HT_.out (by kernel_rfl)) (fun _ _ _ h => h) (Or.inr ⟨by rfl, rfl⟩) ?_ ?_
                            rotate_left
                            · simp only [Act.put, List.setIfInBounds_toArray, List.set_cons_zero, List.set_cons_succ, i64_w, i32_w]
                              rfl
                            refine pure_ (i := 15) (N := some 69) (v := undef) (a' := ?_) #[true, true, true, true, true, true, true, true, true, true, true, true, true, true, true, true, false, false, false, false, false] rfl rfl (any_of HT_.out (by kernel_rfl)) (fun _ _ _ h => h) (Or.inr ⟨by rfl, rfl⟩) ?_ ?_
                            rotate_left
                            · simp only [Act.put, List.setIfInBounds_toArray, List.set_cons_zero, List.set_cons_succ, i64_w, i32_w]
                              rfl
                            refine pure_ (i := 16) (N := some 70) (v := undef) (a' := ?_) #[true, true, true, true, true, true, true, true, true, true, true, true, true, true, true, true, true, false, false, false, false] rfl rfl (any_of HT_.out (by kernel_rfl)) (fun _ _ _ h => h) (Or.inr ⟨by rfl, rfl⟩) ?_ ?_
                            rotate_left
                            · simp only [Act.put, List.setIfInBounds_toArray, List.set_cons_zero, List.set_cons_succ, i64_w, i32_w]
                              rfl
                            refine pure_ (i := 17) (N := some 71) (v := undef) (a' := ?_) #[true, true, true, true, true, true, true, true, true, true, true, true, true, true, true, true, true, true, false, false, false] rfl rfl (any_of HT_.out (by kernel_rfl)) (fun _ _ _ h => h) (Or.inr ⟨by rfl, rfl⟩) ?_ ?_
                            rotate_left
                            · simp only [Act.put, List.setIfInBounds_toArray, List.set_cons_zero, List.set_cons_succ, i64_w, i32_w]
                              rfl
                            refine pure_ (i := 18) (N := some 72) (v := undef) (a' := ?_) #[true, true, true, true, true, true, true, true, true, true, true, true, true, true, true, true, true, true, true, false, false] rfl rfl (any_of HT_.out (by kernel_rfl)) (fun _ _ _ h => h) (Or.inr ⟨by rfl, rfl⟩) ?_ ?_
                            rotate_left
                            · simp only [Act.put, List.setIfInBounds_toArray, List.set_cons_zero, List.set_cons_succ, i64_w, i32_w]
                              rfl
                            refine pure_ (i := 19) (N := some 73) (v := undef) (a' := ?_) #[true, true, true, true, true, true, true, true, true, true, true, true, true, true, true, true, true, true, true, true, false] rfl rfl (any_of HT_.out (by kernel_rfl)) (fun _ _ _ h => h) (Or.inr ⟨by rfl, rfl⟩) ?_ ?_
                            rotate_left
                            · simp only [Act.put, List.setIfInBounds_toArray, List.set_cons_zero, List.set_cons_succ, i64_w, i32_w]
                              rfl
                            refine pure_ (i := 20) (N := some 74) (v := ?_) (a' := ?_) #[true, true, true, true, true, true, true, true, true, true, true, true, true, true, true, true, true, true, true, true, true] rfl rfl (any_of HT_.out (by kernel_rfl)) (fun _ _ _ h => h) (Or.inl ⟨by rfl, ?_⟩) ?_ ?_
                            rotate_left
                            · intro w'
                              go_simp
                              with_reducible rfl
                            rotate_left
                            · simp only [Act.put, List.setIfInBounds_toArray, List.set_cons_zero, List.set_cons_succ, i64_w, i32_w]
                              rfl
                            refine done_ (done_of HT_.out (by kernel_rfl)) ?_
                            try go_wp2
                            go_roundg k3
                            case measure => have := HK1.out; have := HK2.out; have := HK3.out; omega
                            case rel => exact ⟨(x11_2), (x12_2), (wrap64 (x32_2 + 1)), (by first | rfl | (simp; done) | (simp [*]; done)), (by first | rfl | (simp; done) | (simp [*]; done)), (by first | rfl | (simp; done) | (simp [*]; done)), H', ⟨by have := HK1.out; have := HK2.out; have := HK3.out; omega⟩, ⟨by (with_reducible repeat (first | apply Kd.R_alloc | apply Kd.R_drewN | apply Kd.R_drew)); exact HO_8.out⟩, ⟨by (with_reducible repeat (first | apply Kd.R_alloc | apply Kd.R_drewN | apply Kd.R_drew)); exact HO_9.out⟩, ⟨by repeat (first | (with_reducible first | exact HB.out | apply below_alloc | apply pw_below_drewN | apply below_drew1) | exact HB.out)⟩⟩
                  · rw [if_neg c13] at H
                    exact absurd H (by simp)
                · rw [if_neg c12] at H
                  exact absurd H (by simp)
              · rw [if_neg c11] at H
                have c11b0 : decide (x32_2 < (l0.length : Int)) = false := decide_eq_false c11
                clear c11
                by_cases c33 : 0 ≤ x11_2
                · rw [if_pos c33] at H
                  have c33b0 : decide (0 ≤ x11_2) = true := decide_eq_true c33
                  clear c33
                  by_cases c34 : x11_2 < (l0.length : Int)
                  · rw [if_pos c34] at H
                    have c34b0 : decide (x11_2 < (l0.length : Int)) = true := decide_eq_true c34
                    clear c34
                    have H' := Aside0.mk H
                    clear H
                    have p163 : 0 ≤ (x11_2 : Int) := of_decide_eq_true (by first | (with_reducible assumption) | assumption)
                    have q163 : x11_2 < (l0.length : Int) := of_decide_eq_true (by first | (with_reducible assumption) | assumption)
                    obtain ⟨ad163, A163_0, c163_0, e163, hx163_0, hl163_0, hi163_0⟩ := at_L1 HR0.out x11_2 p163 q163
                    cases e163
                    replace hx163_0 := (HB.out.cell (World.block_lt_of_cell? w _ hx163_0)).trans hx163_0
                    have HR163_0 := Aside0.mk hi163_0
                    have HC163_0 := Aside0.mk hl163_0
                    clear hi163_0 hl163_0
                    replace p163 := eq_true p163
                    replace q163 := eq_true q163
                    go_wp2
                    go_loopg [83] k2 (fun kq v83 w' => ∃ (x8_3 : List Bool) (x83_3 : Int), v83 = .int .i64 x83_3 ∧ Aside0 (choose_Greedy.l3 kq l0 l1 x8_3 x9_1 x10_1 x11_2 (rd_L1 l0 x11_2) ((rd_L1 l0 x11_2).length : Int) x83_3 = some (r1, r2, r3)) ∧ Aside0 (kq ≤ k2) ∧ Aside0 (Kd.R Kd.bool 4 w' w.heap.size (fun _ => True) (.slice Ao10 x8_1.length co10) x8_3) ∧ Aside0 (Kd.R (Kd.int .i64) 3 w' w.heap.size (fun _ => True) u9 x9_1) ∧ Aside0 (Below w.heap.size w w'))
                    case atStart => exact ⟨(x8_1), (0), (by first | rfl | (simp; done) | (simp [*]; done)), H', ⟨Nat.le_refl _⟩, ⟨by (with_reducible repeat (first | apply Kd.R_alloc | apply Kd.R_drewN | apply Kd.R_drew)); exact HO_8.out⟩, ⟨by (with_reducible repeat (first | apply Kd.R_alloc | apply Kd.R_drewN | apply Kd.R_drew)); exact HO_9.out⟩, ⟨by repeat (first | (with_reducible first | exact HB.out | apply below_alloc | apply pw_below_drewN | apply below_drew1) | exact HB.out)⟩⟩
                    case round =>
                      clear H'
                      try clear c1
                      try clear p1
                      try clear q1
                      try clear hx1
                      try clear c2
                      try clear p2
                      try clear c3
                      try clear p6
                      try clear c11
                      try clear c11b0
                      try clear c12
                      try clear c13
                      try clear c16
                      try clear p16
                      try clear q16
                      try clear hx16
                      try clear c22
                      try clear c22b0
                      try clear c23
                      try clear c23b0
                      try clear c25
                      try clear c25b0
                      try clear c26
                      try clear c26b0
                      try clear c27
                      try clear c27b0
                      try clear c28
                      try clear c28b0
                      try clear c29
                      try clear c29b0
                      try clear c33
                      try clear c33b0
                      try clear c34
                      try clear c34b0
                      try clear hx161_0
                      try clear hx162_0
                      try clear hx163_0
                      try clear p161
                      try clear p162
                      try clear p163
                      try clear q161
                      try clear q162
                      try clear q163
                      obtain ⟨x8_3, x83_3, rfl, HA, HK3, HO_8, HO_9, HB⟩ := hrel
                      have hl8_3 := (Kd.R_reads' HO_8.out).1
                      rw [hl8_3] at HO_8
                      (try simp only [hl8_3])
                      (try simp only [hl8_3] at HO_9)
                      cases gk with
                      | zero => exact absurd HA.out (by simp [choose_Greedy.l3])
                      | succ k3 =>
                        have H := HA.out
                        clear HA
                        simp only [choose_Greedy.l3] at H
                        by_cases c35 : x83_3 < ((rd_L1 l0 x11_2).length : Int)
                        · rw [if_pos c35] at H
                          have c35b0 : decide (x83_3 < ((rd_L1 l0 x11_2).length : Int)) = true := decide_eq_true c35
                          clear c35
                          by_cases c36 : 0 ≤ x83_3
                          · rw [if_pos c36] at H
                            have c36b0 : decide (0 ≤ x83_3) = true := decide_eq_true c36
                            clear c36
                            by_cases c37 : x83_3 < ((rd_L1 l0 x11_2).length : Int)
                            · rw [if_pos c37] at H
                              have c37b0 : decide (x83_3 < ((rd_L1 l0 x11_2).length : Int)) = true := decide_eq_true c37
                              clear c37
                              by_cases c38 : x83_3 < (x8_3.length : Int)
                              · rw [if_pos c38] at H
                                have c38b0 : decide (x83_3 < (x8_3.length : Int)) = true := decide_eq_true c38
                                clear c38
                                obtain ⟨bq39, hbq39⟩ : ∃ b_ : Bool, b_ = (rdOf false x8_3 x83_3) := ⟨_, rfl⟩
                                replace H : (if bq39 = true then (choose_Greedy.l3 k3 l0 l1 (x8_3.set (x83_3 : Int).toNat (!(rdOf false (rd_L1 l0 x11_2) x83_3))) x9_1 x10_1 x11_2 (rd_L1 l0 x11_2) ((rd_L1 l0 x11_2).length : Int) (wrap64 (x83_3 + 1))) else (choose_Greedy.l3 k3 l0 l1 (x8_3.set (x83_3 : Int).toNat false) x9_1 x10_1 x11_2 (rd_L1 l0 x11_2) ((rd_L1 l0 x11_2).length : Int) (wrap64 (x83_3 + 1)))) = some (r1, r2, r3) := by rw [← hbq39] at H; exact H
                                have Nbq39 := Aside0.mk hbq39
                                clear hbq39
                                by_cases c40 : bq39 = true
                                · subst c40
                                  have H1 : (choose_Greedy.l3 k3 l0 l1 (x8_3.set (x83_3 : Int).toNat (!(rdOf false (rd_L1 l0 x11_2) x83_3))) x9_1 x10_1 x11_2 (rd_L1 l0 x11_2) ((rd_L1 l0 x11_2).length : Int) (wrap64 (x83_3 + 1))) = some (r1, r2, r3) := by rw [if_pos rfl] at H; exact H
                                  clear H
                                  have H := H1
                                  clear H1
                                  obtain ⟨y166, hy166⟩ : ∃ y_ : List Bool, y_ = (x8_3.set (x83_3 : Int).toNat (!(rdOf false (rd_L1 l0 x11_2) x83_3))) := ⟨_, rfl⟩
                                  replace H : (choose_Greedy.l3 k3 l0 l1 y166 x9_1 x10_1 x11_2 (rd_L1 l0 x11_2) ((rd_L1 l0 x11_2).length : Int) (wrap64 (x83_3 + 1))) = some (r1, r2, r3) := by first | (rw [hy166]; with_reducible exact H) | (have H2_ := (Option.bind_some _ _).symm.trans H; rw [hy166]; with_reducible exact H2_) | (have H2_ := (Option.bind_some _ _).symm.trans H; with_reducible exact H2_) | with_reducible exact H | (rw [hy166]; exact H) | exact H
                                  have Ny166 := Aside0.mk hy166
                                  clear hy166
                                  have H' := Aside0.mk H
                                  clear H
                                  have p164 : 0 ≤ (x83_3 : Int) := of_decide_eq_true (by first | (with_reducible assumption) | assumption)
                                  have q164 : x83_3 < ((rd_L1 l0 x11_2).length : Int) := of_decide_eq_true (by first | (with_reducible assumption) | assumption)
                                  obtain ⟨ad164, e164, hx164_0⟩ := Kd.at_bool HR163_0.out x83_3 p164 q164
                                  (try rw [← Nbq39.out] at hx164_0)
                                  cases e164
                                  replace hx164_0 := (HB.out.cell (World.block_lt_of_cell? w _ hx164_0)).trans hx164_0
                                  replace p164 := eq_true p164
                                  replace q164 := eq_true q164
                                  have p165 : 0 ≤ (x83_3 : Int) := of_decide_eq_true (by first | (with_reducible assumption) | assumption)
                                  have q165 : x83_3 < (x8_3.length : Int) := of_decide_eq_true (by first | (with_reducible assumption) | assumption)
                                  obtain ⟨ad165, e165, hx165_0⟩ := Kd.at_bool (Kd.R_reads' HO_8.out).2.2 x83_3 p165 q165
                                  (try rw [← Nbq39.out] at hx165_0)
                                  cases e165
                                  replace p165 := eq_true p165
                                  replace q165 := eq_true q165
                                  have p41 : 0 ≤ (x83_3 : Int) := of_decide_eq_true (by first | (with_reducible assumption) | assumption)
                                  have q41 : (x83_3 : Int) < ((x8_3.length : Int) : Int) := of_decide_eq_true (by first | (with_reducible assumption) | assumption)
                                  obtain ⟨go41, co41, eo41, gb41, gl41, cl41, HG41⟩ := Kd.R_form HO_8.out (by omega)
                                  (first | cases eo41 | (injection eo41 with ea_ en_ ec_; (first | subst ea_ | (injection ea_ with ea_; subst ea_)); subst ec_; clear en_))
                                  have GB41 := Aside0.mk gb41
                                  have GG41 := Aside0.mk HG41
                                  clear gb41 gl41 HG41
                                  (first | simp only [add_plain] at hx165_0 | skip)
                                  obtain ⟨hx41_0, hf41_0⟩ := Kd.R_celln false HO_8.out (x83_3 : Int) p41 q41
                                  replace p41 := eq_true p41
                                  replace q41 := eq_true q41
                                  have HP42 := Kd.R_putg HO_8.out (x83_3 : Int) (!(rdOf false (rd_L1 l0 x11_2) x83_3))
                                  go_wp2_with (first | ((with_reducible refine gate_store (t := 4) (p := 98) rfl ?_); refine store_event (t := 4) (p := 98) (v := ?vo_w43) (w1 := (wr.setCell ⟨go41, (x83_3 : Int).toNat, none⟩ (.bool (!(rdOf false (rd_L1 l0 x11_2) x83_3))))) ?hg ?ho ?hn ?hr ?_; (case ho => rfl); (case hg => rfl); (case hn => rfl); (case hr => first | (go_simp; done) | (go_simp; rfl)); intro w43 hw; have hg : wr.grownBy w43 (some go41) := (by rw [hw]; exact HP42.2); have hp_ : Kd.R Kd.bool 4 w43 w.heap.size (fun _ => True) (.slice (some ⟨go41, 0, none⟩) x8_3.length co10) y166 := (by rw [hw, Ny166.out]; exact HP42.1); clear HP42; have n0_ := Aside0.mk (hp_); have n1_ := Aside0.mk (Kd.R_over' (v := (.slice (some ⟨go41, 0, none⟩) x8_3.length co10)) (by (with_reducible repeat (first | apply Kd.R_alloc | apply Kd.R_drewN | apply Kd.R_drew)); exact HO_9.out) (Kd.R_typed HO_8.out) (by decide) hg); have n2_ := Aside0.mk ((by rw [hw]; exact below_set (HB.out) GB41.out : Below w.heap.size w w43)); clear HO_8; clear HO_9; clear HB; have HO_8 := n0_; have HO_9 := n1_; have HB := n2_; clear n0_ n1_ n2_; clear hg hw hp_))
                                  (try simp only [← hl8_3])
                                  go_roundg k3
                                  case measure => have := HK1.out; have := HK2.out; have := HK3.out; omega
                                  case rel => exact ⟨(y166), (wrap64 (x83_3 + 1)), (by first | rfl | (simp; done) | (simp [*]; done)), H', ⟨by have := HK1.out; have := HK2.out; have := HK3.out; omega⟩, ⟨by (try simp only [hl8_3]); (with_reducible repeat (first | apply Kd.R_alloc | apply Kd.R_drewN | apply Kd.R_drew)); exact HO_8.out⟩, ⟨by (try simp only [hl8_3]); (with_reducible repeat (first | apply Kd.R_alloc | apply Kd.R_drewN | apply Kd.R_drew)); exact HO_9.out⟩, ⟨by repeat (first | (with_reducible first | exact HB.out | apply below_alloc | apply pw_below_drewN | apply below_drew1) | exact HB.out)⟩⟩
                                · replace c40 := Bool.eq_false_iff.mpr c40
                                  subst c40
                                  have H1 : (choose_Greedy.l3 k3 l0 l1 (x8_3.set (x83_3 : Int).toNat false) x9_1 x10_1 x11_2 (rd_L1 l0 x11_2) ((rd_L1 l0 x11_2).length : Int) (wrap64 (x83_3 + 1))) = some (r1, r2, r3) := by rw [if_neg (show ¬ (false = true) by decide)] at H; exact H
                                  clear H
                                  have H := H1
                                  clear H1
                                  obtain ⟨y167, hy167⟩ : ∃ y_ : List Bool, y_ = (x8_3.set (x83_3 : Int).toNat false) := ⟨_, rfl⟩
                                  replace H : (choose_Greedy.l3 k3 l0 l1 y167 x9_1 x10_1 x11_2 (rd_L1 l0 x11_2) ((rd_L1 l0 x11_2).length : Int) (wrap64 (x83_3 + 1))) = some (r1, r2, r3) := by first | (rw [hy167]; with_reducible exact H) | (have H2_ := (Option.bind_some _ _).symm.trans H; rw [hy167]; with_reducible exact H2_) | (have H2_ := (Option.bind_some _ _).symm.trans H; with_reducible exact H2_) | with_reducible exact H | (rw [hy167]; exact H) | exact H
                                  have Ny167 := Aside0.mk hy167
                                  clear hy167
                                  have H' := Aside0.mk H
                                  clear H
                                  have p164 : 0 ≤ (x83_3 : Int) := of_decide_eq_true (by first | (with_reducible assumption) | assumption)
                                  have q164 : x83_3 < ((rd_L1 l0 x11_2).length : Int) := of_decide_eq_true (by first | (with_reducible assumption) | assumption)
                                  obtain ⟨ad164, e164, hx164_0⟩ := Kd.at_bool HR163_0.out x83_3 p164 q164
                                  (try rw [← Nbq39.out] at hx164_0)
                                  cases e164
                                  replace hx164_0 := (HB.out.cell (World.block_lt_of_cell? w _ hx164_0)).trans hx164_0
                                  replace p164 := eq_true p164
                                  replace q164 := eq_true q164
                                  have p165 : 0 ≤ (x83_3 : Int) := of_decide_eq_true (by first | (with_reducible assumption) | assumption)
                                  have q165 : x83_3 < (x8_3.length : Int) := of_decide_eq_true (by first | (with_reducible assumption) | assumption)
                                  obtain ⟨ad165, e165, hx165_0⟩ := Kd.at_bool (Kd.R_reads' HO_8.out).2.2 x83_3 p165 q165
                                  (try rw [← Nbq39.out] at hx165_0)
                                  cases e165
                                  replace p165 := eq_true p165
                                  replace q165 := eq_true q165
                                  have p44 : 0 ≤ (x83_3 : Int) := of_decide_eq_true (by first | (with_reducible assumption) | assumption)
                                  have q44 : (x83_3 : Int) < ((x8_3.length : Int) : Int) := of_decide_eq_true (by first | (with_reducible assumption) | assumption)
                                  obtain ⟨go44, co44, eo44, gb44, gl44, cl44, HG44⟩ := Kd.R_form HO_8.out (by omega)
                                  (first | cases eo44 | (injection eo44 with ea_ en_ ec_; (first | subst ea_ | (injection ea_ with ea_; subst ea_)); subst ec_; clear en_))
                                  have GB44 := Aside0.mk gb44
                                  have GG44 := Aside0.mk HG44
                                  clear gb44 gl44 HG44
                                  (first | simp only [add_plain] at hx165_0 | skip)
                                  obtain ⟨hx44_0, hf44_0⟩ := Kd.R_celln false HO_8.out (x83_3 : Int) p44 q44
                                  replace p44 := eq_true p44
                                  replace q44 := eq_true q44
                                  have HP45 := Kd.R_putg HO_8.out (x83_3 : Int) false
                                  go_wp2_with (first | ((with_reducible refine gate_store (t := 4) (p := 98) rfl ?_); refine store_event (t := 4) (p := 98) (v := ?vo_w46) (w1 := (wr.setCell ⟨go44, (x83_3 : Int).toNat, none⟩ (.bool false))) ?hg ?ho ?hn ?hr ?_; (case ho => rfl); (case hg => rfl); (case hn => rfl); (case hr => first | (go_simp; done) | (go_simp; rfl)); intro w46 hw; have hg : wr.grownBy w46 (some go44) := (by rw [hw]; exact HP45.2); have hp_ : Kd.R Kd.bool 4 w46 w.heap.size (fun _ => True) (.slice (some ⟨go44, 0, none⟩) x8_3.length co10) y167 := (by rw [hw, Ny167.out]; exact HP45.1); clear HP45; have n0_ := Aside0.mk (hp_); have n1_ := Aside0.mk (Kd.R_over' (v := (.slice (some ⟨go44, 0, none⟩) x8_3.length co10)) (by (with_reducible repeat (first | apply Kd.R_alloc | apply Kd.R_drewN | apply Kd.R_drew)); exact HO_9.out) (Kd.R_typed HO_8.out) (by decide) hg); have n2_ := Aside0.mk ((by rw [hw]; exact below_set (HB.out) GB44.out : Below w.heap.size w w46)); clear HO_8; clear HO_9; clear HB; have HO_8 := n0_; have HO_9 := n1_; have HB := n2_; clear n0_ n1_ n2_; clear hg hw hp_))
                                  (try simp only [← hl8_3])
                                  go_roundg k3
                                  case measure => have := HK1.out; have := HK2.out; have := HK3.out; omega
                                  case rel => exact ⟨(y167), (wrap64 (x83_3 + 1)), (by first | rfl | (simp; done) | (simp [*]; done)), H', ⟨by have := HK1.out; have := HK2.out; have := HK3.out; omega⟩, ⟨by (try simp only [hl8_3]); (with_reducible repeat (first | apply Kd.R_alloc | apply Kd.R_drewN | apply Kd.R_drew)); exact HO_8.out⟩, ⟨by (try simp only [hl8_3]); (with_reducible repeat (first | apply Kd.R_alloc | apply Kd.R_drewN | apply Kd.R_drew)); exact HO_9.out⟩, ⟨by repeat (first | (with_reducible first | exact HB.out | apply below_alloc | apply pw_below_drewN | apply below_drew1) | exact HB.out)⟩⟩
                              · rw [if_neg c38] at H
                                exact absurd H (by simp)
                            · rw [if_neg c37] at H
                              exact absurd H (by simp)
                          · rw [if_neg c36] at H
                            exact absurd H (by simp)
                        · rw [if_neg c35] at H
                          have c35b0 : decide (x83_3 < ((rd_L1 l0 x11_2).length : Int)) = false := decide_eq_false c35
                          clear c35
                          by_cases c47 : x9_1.length < 17592186044416
                          · rw [if_pos c47] at H
                            have LMc47 := Aside0.mk c47
                            clear c47
                            obtain ⟨y168, hy168⟩ : ∃ y_ : List Int, y_ = (x9_1 ++ [x11_2]) := ⟨_, rfl⟩
                            replace H : (if 0 ≤ x11_2 then (if x11_2 < (l1.length : Int) then (choose_Greedy.l0 k3 l0 l1 x8_3 y168 (wrap64 (x10_1 + (rd l1 x11_2)))) else (none)) else (none)) = some (r1, r2, r3) := by first | (rw [hy168]; with_reducible exact H) | (have H2_ := (Option.bind_some _ _).symm.trans H; rw [hy168]; with_reducible exact H2_) | (have H2_ := (Option.bind_some _ _).symm.trans H; with_reducible exact H2_) | with_reducible exact H | (rw [hy168]; exact H) | exact H
                            have Ny168 := Aside0.mk hy168
                            clear hy168
                            by_cases c48 : 0 ≤ x11_2
                            · rw [if_pos c48] at H
                              have c48b0 : decide (0 ≤ x11_2) = true := decide_eq_true c48
                              clear c48
                              by_cases c49 : x11_2 < (l1.length : Int)
                              · rw [if_pos c49] at H
                                have c49b0 : decide (x11_2 < (l1.length : Int)) = true := decide_eq_true c49
                                clear c49
                                have H' := Aside0.mk H
                                clear H
                                try go_wp2
                                have n0_ := Aside0.mk (Kd.R_drew HO_8.out)
                                have n1_ := Aside0.mk (Kd.R_drew HO_9.out)
                                have n2_ := Aside0.mk (below_drew1 HB.out)
                                clear HO_8
                                clear HO_9
                                clear HB
                                have HO_8 := n0_
                                have HO_9 := n1_
                                have HB := n2_
                                clear n0_ n1_ n2_
                                have p171 : 0 ≤ (x11_2 : Int) := of_decide_eq_true (by first | (with_reducible assumption) | assumption)
                                have q171 : x11_2 < (l1.length : Int) := of_decide_eq_true (by first | (with_reducible assumption) | assumption)
                                obtain ⟨ad171, e171, hx171_0⟩ := Kd.at_int HR1.out x11_2 p171 q171
                                have hw171_0 := hx171_0
                                cases e171
                                replace hx171_0 := (HB.out.cell (World.block_lt_of_cell? w _ hx171_0)).trans hx171_0
                                replace p171 := eq_true p171
                                replace q171 := eq_true q171
                                refine start_ (n := 12) (S := fun w' => w'.cell? (ad171.add (x11_2).toNat) = some (.int .i64 (rd l1 x11_2))) (ds := []) #[false, false, false, false, false, false, false, false, false, false, false, false] (by kernel_rfl) rfl rfl (((HB.out.cell (World.block_lt_of_cell? w _ hw171_0)).trans hw171_0)) (fun hHeld => ?_); refine with_tabW choose_Greedy.tab27 choose_Greedy.bits27 (fun HT_ HW_ => ?_)
                                generalize wr.drew = w50 at HO_8 HO_9 HB hx171_0 hHeld ⊢
                                refine pure_ (i := 0) (N := some 100) (v := ?_) (a' := ?_) #[true, false, false, false, false, false, false, false, false, false, false, false] rfl rfl (any_of HT_.out (by kernel_rfl)) (fun _ _ _ h => h) (Or.inl ⟨by rfl, ?_⟩) ?_ ?_
                                rotate_left
                                · intro w'
                                  go_simp
                                  with_reducible rfl
                                rotate_left
                                · simp only [Act.put, List.setIfInBounds_toArray, List.set_cons_zero, List.set_cons_succ, i64_w, i32_w]
                                  rfl
                                refine pure_ (i := 1) (N := some 101) (v := ?_) (a' := ?_) #[true, true, false, false, false, false, false, false, false, false, false, false] rfl rfl (any_of HT_.out (by kernel_rfl)) (fun _ _ _ h => h) (Or.inl ⟨by rfl, ?_⟩) ?_ ?_
                                rotate_left
                                · intro w'
                                  go_simp
                                  with_reducible rfl
                                rotate_left
                                · simp only [Act.put, List.setIfInBounds_toArray, List.set_cons_zero, List.set_cons_succ, i64_w, i32_w]
                                  rfl
                                refine pure_ (i := 4) (N := some 104) (v := ?_) (a' := ?_) #[true, true, false, false, true, false, false, false, false, false, false, false] rfl rfl (any_of HT_.out (by kernel_rfl)) (fun _ _ _ h => h) (Or.inl ⟨by rfl, ?_⟩) ?_ ?_
                                rotate_left
                                · intro w'
                                  go_simp
                                  with_reducible rfl
                                rotate_left
                                · simp only [Act.put, List.setIfInBounds_toArray, List.set_cons_zero, List.set_cons_succ, i64_w, i32_w]
                                  rfl
                                refine pure_ (i := 5) (N := some 105) (v := ?_) (a' := ?_) #[true, true, false, false, true, true, false, false, false, false, false, false] rfl rfl (any_of HT_.out (by kernel_rfl)) (fun _ _ _ h => h) (Or.inl ⟨by rfl, ?_⟩) ?_ ?_
                                rotate_left
                                · intro w'
                                  go_simp
                                  with_reducible rfl
                                rotate_left
                                · simp only [Act.put, List.setIfInBounds_toArray, List.set_cons_zero, List.set_cons_succ, i64_w, i32_w]
                                  rfl
                                refine pure_ (i := 6) (N := some 106) (v := ?_) (a' := ?_) #[true, true, false, false, true, true, true, false, false, false, false, false] rfl rfl (any_of HT_.out (by kernel_rfl)) (fun _ _ _ h => h) (Or.inl ⟨by rfl, ?_⟩) ?_ ?_
                                rotate_left
                                · intro w'
                                  go_simp
                                  with_reducible rfl
                                rotate_left
                                · simp only [Act.put, List.setIfInBounds_toArray, List.set_cons_zero, List.set_cons_succ, i64_w, i32_w]
                                  rfl
                                refine pure_ (i := 7) (N := some 107) (v := ?_) (a' := ?_) #[true, true, false, false, true, true, true, true, false, false, false, false] rfl rfl (any_of HT_.out (by kernel_rfl)) (fun _ _ _ h => h) (Or.inl ⟨by rfl, ?_⟩) ?_ ?_
                                rotate_left
                                · intro w'
                                  go_simp
                                  with_reducible rfl
                                rotate_left
                                · simp only [Act.put, List.setIfInBounds_toArray, List.set_cons_zero, List.set_cons_succ, i64_w, i32_w]
                                  rfl
                                refine take_ (i := 8) (N := some 108) (v := ?_) (a' := ?_) #[true, true, false, false, true, true, true, true, true, false, false, false] rfl rfl (take_ofW HT_.out HW_.out (by kernel_rfl)) (fun _ _ _ h => h) (Or.inl ⟨by rfl, ?_⟩) hHeld ?_ ?_
                                rotate_left
                                · intro w' s0
                                  go_simp
                                  with_reducible rfl
                                rotate_left
                                · simp only [Act.put, List.setIfInBounds_toArray, List.set_cons_zero, List.set_cons_succ, i64_w, i32_w]
                                  rfl
                                refine pure_ (i := 9) (N := some 109) (v := ?_) (a' := ?_) #[true, true, false, false, true, true, true, true, true, true, false, false] rfl rfl (any_of HT_.out (by kernel_rfl)) (fun _ _ _ h => h) (Or.inl ⟨by rfl, ?_⟩) ?_ ?_
                                rotate_left
                                · intro w'
                                  go_simp
                                  with_reducible rfl
                                rotate_left
                                · simp only [Act.put, List.setIfInBounds_toArray, List.set_cons_zero, List.set_cons_succ, i64_w, i32_w]
                                  rfl
                                refine one_ (i := 2) (N := some 102) #[true, true, true, false, true, true, true, true, true, true, false, false] rfl rfl (one_of HT_.out (by kernel_rfl)) (by decide) (fun K hK => ?_)
                                refine value_ (w1 := ?_) (v := ?_) (by rfl) rfl ?_ ?_
                                rotate_left 2
                                · go_simp
                                  constructor
                                  · rfl
                                  · rfl
                                refine hK.out _ _ ((World.cell?_alloc_lt _ _ _ (World.block_lt_of_cell? _ _ (((HB.out.cell (World.block_lt_of_cell? w _ hw171_0)).trans hw171_0)))).trans (((HB.out.cell (World.block_lt_of_cell? w _ hw171_0)).trans hw171_0))) (fun hHeld => ?_)
                                clear hK K
                                refine norm_ (a' := ?_) ?_ ?_
                                rotate_left
                                · show Act.put _ (some 102) _ = _
                                  simp only [Act.put, List.setIfInBounds_toArray, List.set_cons_zero, List.set_cons_succ, i64_w, i32_w]
                                  rfl
                                refine one_ (i := 3) (N := some 103) #[true, true, true, true, true, true, true, true, true, true, false, false] rfl rfl (one_of HT_.out (by kernel_rfl)) (by decide) (fun K hK => ?_)
                                refine Kd.R_append_step (Kd.int .i64) (w0 := w) w.heap.size (by rfl) (.tmp 100) (.tmp 102) 49 3 (.int .i64 0) 8 rfl Try.underlying49 info3 rfl (by decide) (by omega) u9 x9_1 x11_2 [.int .i64 x11_2] (fun _ => True) (fun _ => False) rfl rfl ?aP (fun _ hk => hk.elim) ?aF ?aO ?aB ?aS ?aL ?_
                                (case aP => exact rfl)
                                (case aB => exact (by repeat (first | (with_reducible first | exact HB.out | apply below_alloc | apply pw_below_drewN | apply below_drew1) | exact HB.out)))
                                (case aF => exact (fun _ _ => trivial))
                                (case aO => exact (by (with_reducible repeat (first | apply Kd.R_alloc | apply Kd.R_drewN | apply Kd.R_drew)); exact HO_9.out))
                                (case aS => exact (below_size (by repeat (first | (with_reducible first | exact HB.out | apply below_alloc | apply pw_below_drewN | apply below_drew1) | exact HB.out))))
                                (case aL => have := LMc47.out; omega)
                                intro v169 w51 ho hb hg hat
                                rw [← Ny168.out] at ho
                                have n0_ := Aside0.mk (Kd.R_over' (by (with_reducible repeat (first | apply Kd.R_alloc | apply Kd.R_drewN | apply Kd.R_drew)); exact HO_8.out) (Kd.R_typed (by (with_reducible repeat (first | apply Kd.R_alloc | apply Kd.R_drewN | apply Kd.R_drew)); exact HO_9.out)) (by decide) hg)
                                have n1_ := Aside0.mk (hb)
                                have n2_ := Aside0.mk (ho)
                                clear HO_8
                                clear HB
                                clear HO_9
                                have HO_8 := n0_
                                have HB := n1_
                                have HO170 := n2_
                                clear n0_ n1_ n2_
                                clear ho hb hg hat
                                refine hK.out _ _ (((HB.out.cell (World.block_lt_of_cell? w _ hw171_0)).trans hw171_0)) (fun hHeld => ?_)
                                clear hK K
                                refine norm_ (a' := ?_) ?_ ?_
                                rotate_left
                                · show Act.put _ (some 103) _ = _
                                  simp only [Act.put, List.setIfInBounds_toArray, List.set_cons_zero, List.set_cons_succ, i64_w, i32_w]
                                  rfl
                                refine pure_ (i := 10) (N := some 9) (v := ?_) (a' := ?_) #[true, true, true, true, true, true, true, true, true, true, true, false] rfl rfl (any_of HT_.out (by kernel_rfl)) (fun _ _ _ h => h) (Or.inl ⟨by rfl, ?_⟩) ?_ ?_
                                rotate_left
                                · intro w'
                                  go_simp
                                  with_reducible rfl
                                rotate_left
                                · simp only [Act.put, List.setIfInBounds_toArray, List.set_cons_zero, List.set_cons_succ, i64_w, i32_w]
                                  rfl
                                refine pure_ (i := 11) (N := some 10) (v := ?_) (a' := ?_) #[true, true, true, true, true, true, true, true, true, true, true, true] rfl rfl (any_of HT_.out (by kernel_rfl)) (fun _ _ _ h => h) (Or.inl ⟨by rfl, ?_⟩) ?_ ?_
                                rotate_left
                                · intro w'
                                  go_simp
                                  with_reducible rfl
                                rotate_left
                                · simp only [Act.put, List.setIfInBounds_toArray, List.set_cons_zero, List.set_cons_succ, i64_w, i32_w]
                                  rfl
                                refine done_ (done_of HT_.out (by kernel_rfl)) ?_
                                try go_wp2
                                (try simp only [← hl8_3])
                                go_roundg k3
                                case measure => have := HK1.out; have := HK2.out; have := HK3.out; omega
                                case rel => exact ⟨(x8_3), (y168), (wrap64 (x10_1 + (rd l1 x11_2))), (by first | rfl | (simp; done) | (simp [*]; done)), H', ⟨by have := HK1.out; have := HK2.out; have := HK3.out; omega⟩, ⟨by (try simp only [hl8_3]); (with_reducible repeat (first | apply Kd.R_alloc | apply Kd.R_drewN | apply Kd.R_drew)); exact HO_8.out⟩, ⟨by (try simp only [hl8_3]); (with_reducible repeat (first | apply Kd.R_alloc | apply Kd.R_drewN | apply Kd.R_drew)); exact HO170.out⟩, ⟨by repeat (first | (with_reducible first | exact HB.out | apply below_alloc | apply pw_below_drewN | apply below_drew1) | exact HB.out)⟩⟩
                              · rw [if_neg c49] at H
                                exact absurd H (by simp)
                            · rw [if_neg c48] at H
                              exact absurd H (by simp)
                          · rw [if_neg c47] at H
                            exact absurd H (by simp)
                  · rw [if_neg c34] at H
                    exact absurd H (by simp)
                · rw [if_neg c33] at H
                  exact absurd H (by simp)
        · replace c9 := Bool.eq_false_iff.mpr c9
          subst c9
          have H1 : ((slices_Sort_int_int.f k1 x9_1).bind fun t157 => (some (t157, x10_1, 0))) = some (r1, r2, r3) := by rw [if_neg (show ¬ (false = true) by decide)] at H; exact H
          clear H
          have H := H1
          clear H1
          replace H := Option.bind_eq_some_iff.mp H
          obtain ⟨t157, A520, H⟩ := H
          replace H : (some (t157, x10_1, 0)) = some (r1, r2, r3) := H
          have A52 := Aside0.mk A520
          clear A520
          simp only [Option.some.injEq, Prod.mk.injEq] at H
          obtain ⟨rfl, rfl, rfl⟩ := H
          obtain ⟨Ao53, co53, eo53⟩ := Kd.R_slice HO_8.out
          subst eo53
          go_wp2_with (first | ((with_reducible refine gate_callee (f := 69) rfl ?_); refine goesL_ (some 29) rfl rfl Try.func69 (by kernel_rfl) rfl #[.slice Ao53 x8_1.length co53, .bool true] rfl (by (try simp only [List.map_toArray, List.map_cons, List.map_nil]); first | done | rfl | (simp only [List.length_drop, List.length_take]; rfl)) ?_; (with_reducible refine (slices_Contains_bool_bool.calls k1 _ _ x8_1 true false _ ?side1 ?side2 A8.out).mono ?_); (case side1 => repeat (first | exact (Kd.R_reads' HO_8.out).2.2 | (with_reducible refine Kd.C_alloc ?_ _) | (with_reducible refine Kd.C_drewN ?_ _) | (with_reducible refine Kd.C_drew ?_))); (case side2 => exact (Kd.R_reads' HO_8.out).2.1); rintro e w' ⟨rfl, ⟨nd, rfl⟩⟩; refine ⟨_, rfl, ?_⟩; obtain ⟨Ao54, co54, eo54⟩ := Kd.R_slice HO_9.out; subst eo54) | ((with_reducible refine gate_callee (f := 70) rfl ?_); refine goesL_ (some 111) rfl rfl Try.func70 (by kernel_rfl) rfl #[.slice Ao54 x9_1.length co54] rfl (by (try simp only [List.map_toArray, List.map_cons, List.map_nil]); first | done | rfl | (simp only [List.length_drop, List.length_take]; rfl)) ?_; (with_reducible refine (slices_Sort_int_int.calls k1 (fun k_ => some k_ = (.slice Ao54 x9_1.length co54 : Value).ownBlock) (.slice Ao54 x9_1.length co54) x9_1 t157 w _ ?side1 ?side2 A52.out).mono ?_); (case side1 => repeat (first | (with_reducible first | exact HB.out | apply below_alloc | apply pw_below_drewN | apply below_drew1) | exact HB.out)); (case side2 => exact Kd.R_tight rfl HO_9.out); rintro e w55 ⟨rfl, hy0, hb, hkp⟩; refine ⟨_, rfl, ?_⟩; have n0_ := Aside0.mk (Kd.R_mono (ok' := fun k_ => True) (Kd.R_keptB ((Kd.R_apart' HO_8.out (Kd.R_typed HO_9.out) (by decide))) hkp (fun k_ hk_ hs_ => (hk_.2) hs_)) (fun k_ hk_ => trivial)); have n1_ := Aside0.mk (Kd.R_reok rfl hy0 (fun k_ e_ => HO_9.out.1 k_ e_)); have n2_ := Aside0.mk (hb); clear HO_8; clear HO_9; clear HB; have HO_8 := n0_; have HO_9 := n1_; have HB := n2_; clear n0_ n1_ n2_; (try clear hb); (try clear hkp); (try clear hy0)))
          go_ret3
          exact ⟨_, by first | rfl | (simp [errW_none, errW_some] <;> rfl) | (simp [*, errW_none, errW_some] <;> rfl), by (with_reducible repeat (first | apply Kd.R_alloc | apply Kd.R_drewN | apply Kd.R_drew)); exact HO_9.out, by repeat (first | (with_reducible first | exact HB.out | apply below_alloc | apply pw_below_drewN | apply below_drew1) | exact HB.out)⟩
  · rw [if_neg c4] at H
    have c4b0 : (t152 == 0) = false := beq_eq_false_iff_ne.mpr c4
    have c4b1 : (t152 != 0) = true := bne_iff_ne.mpr c4
    simp only [Option.some.injEq, Prod.mk.injEq] at H
    obtain ⟨rfl, rfl, rfl⟩ := H
    go_enter Try.func31, Try.ntmps31
    go_wp2_with (first | ((with_reducible refine gate_callee (f := 26) rfl ?_); refine goesL_ (some 22) rfl rfl Try.func26 (by kernel_rfl) rfl #[.slice A0 l0.length c0, .slice A1 l1.length c1] rfl (by (try simp only [List.map_toArray, List.map_cons, List.map_nil]); first | done | rfl | (simp only [List.length_drop, List.length_take]; rfl)) ?_; (with_reducible refine (choose_Valid.calls k _ _ l0 _ _ l1 t152 _ ?side1 ?side2 ?side3 ?side4 A3.out).mono ?_); (case side1 => repeat (first | exact HR0.out | (with_reducible refine Kd.C_alloc ?_ _) | (with_reducible refine Kd.C_drewN ?_ _) | (with_reducible refine Kd.C_drew ?_))); (case side2 => exact HC0.out); (case side3 => repeat (first | exact HR1.out | (with_reducible refine Kd.C_alloc ?_ _) | (with_reducible refine Kd.C_drewN ?_ _) | (with_reducible refine Kd.C_drew ?_))); (case side4 => exact HC1.out); rintro e w56 ⟨rfl, hb⟩; refine ⟨_, rfl, ?_⟩; have n0_ := Aside0.mk (below_step (by repeat (first | (with_reducible first | exact HB.out | apply below_alloc | apply pw_below_drewN | apply below_drew1) | exact HB.out)) hb); clear HB; have HB := n0_; clear n0_; (try clear hb); (try clear hb2); (try clear hk); (try clear hi)))
    go_ret3
    exact ⟨_, by first | rfl | (simp [errW_none, errW_some] <;> rfl) | (simp [*, errW_none, errW_some] <;> rfl), by first | exact Kd.R_nil _ _ _ _ _ | exact Kd.N_nil _ _ _ _ _ | exact Kd.V_nil _ _ _ _ _ | exact Kd.Q_nil _ _ _ _ _ | exact Kd.S_nil _ _ _ _ _, by repeat (first | (with_reducible first | exact HB.out | apply below_alloc | apply pw_below_drewN | apply below_drew1) | exact HB.out)⟩

end Go.Proofs.Ytcaefoljlmdjaaa.CH
