-- printed for this seat by a program
import Derived.Test.YtcaefoljlmdjaaaCHx0
import Derived.Test.YtcaefoljlmdjaaaCHx1
import Derived.Test.YtcaefoljlmdjaaaValid
import Derived.Test.YtcaefoljlmdjaaaCHx3
import Derived.Test.YtcaefoljlmdjaaaCHx6
namespace Go.Proofs.Ytcaefoljlmdjaaa.CH
open Go.RowKit Go.Proofs.YtcaefoljlmdjaaaW.PrintWords Go.Proofs.YtcaefoljlmdjaaaW.PrintLast Go.Proofs.YtcaefoljlmdjaaaW.PrintMore
attribute [local go_sem] max2_int min2_int max_two min_two max_three min_three max_four min_four   -- for this text's walks alone
set_option linter.unusedVariables false
set_option linter.unusedSimpArgs false

/-! ### choose_Raise: function 36 -/
mutual
def choose_Raise.l0 : Nat → List (List Bool) → List Int → List Int → Int → Int → Option (List Int × Int)
  | 0, _, _, _, _, _ => none
  | k + 1, x0, x7, x8, x27, x28 => if x28 < x27 then (choose_Raise.l1 k x0 x7 x8 x28 (-1) x27 x28 x0 (x0.length : Int) 0) else (some (x8, 0))
def choose_Raise.l1 : Nat → List (List Bool) → List Int → List Int → Int → Int → Int → Int → List (List Bool) → Int → Int → Option (List Int × Int)
  | 0, _, _, _, _, _, _, _, _, _, _ => none
  | k + 1, x0, x7, x8, x9, x10, x27, x28, x31, x32, x33 => if x33 < x32 then (if 0 ≤ x33 then (if x33 < (x31.length : Int) then (if 0 ≤ x9 then (if x9 < ((rd_L1 x31 x33).length : Int) then (if rdOf false (rd_L1 x31 x33) x9 = true then (if x10 < 0 then (if x33 < (x7.length : Int) then (choose_Raise.l1 k x0 x7 x8 x9 (rd x7 x33) x27 x28 x31 x32 (wrap64 (x33 + 1))) else (none)) else (if x33 < (x7.length : Int) then (if (rd x7 x33) < x10 then (choose_Raise.l1 k x0 x7 x8 x9 (rd x7 x33) x27 x28 x31 x32 (wrap64 (x33 + 1))) else (choose_Raise.l1 k x0 x7 x8 x9 x10 x27 x28 x31 x32 (wrap64 (x33 + 1)))) else (none))) else (choose_Raise.l1 k x0 x7 x8 x9 x10 x27 x28 x31 x32 (wrap64 (x33 + 1)))) else (none)) else (none)) else (none)) else (none)) else (if 0 ≤ x9 then (if x9 < (x8.length : Int) then (choose_Raise.l2 k x0 x7 (x8.set (x9 : Int).toNat (mx 0 x10)) x9 x27 x28 x0 (x0.length : Int) 0) else (none)) else (none))
def choose_Raise.l2 : Nat → List (List Bool) → List Int → List Int → Int → Int → Int → List (List Bool) → Int → Int → Option (List Int × Int)
  | 0, _, _, _, _, _, _, _, _, _ => none
  | k + 1, x0, x7, x8, x9, x27, x28, x64, x65, x66 => if x66 < x65 then (if 0 ≤ x66 then (if x66 < (x64.length : Int) then (if 0 ≤ x9 then (if x9 < ((rd_L1 x64 x66).length : Int) then (if rdOf false (rd_L1 x64 x66) x9 = true then (if x66 < (x7.length : Int) then (if x9 < (x8.length : Int) then (choose_Raise.l2 k x0 (x7.set (x66 : Int).toNat (wrap64 ((rd x7 x66) - (rd x8 x9)))) x8 x9 x27 x28 x64 x65 (wrap64 (x66 + 1))) else (none)) else (none)) else (choose_Raise.l2 k x0 x7 x8 x9 x27 x28 x64 x65 (wrap64 (x66 + 1)))) else (none)) else (none)) else (none)) else (none)) else (choose_Raise.l0 k x0 x7 x8 x27 (wrap64 (x28 + 1)))
end
def choose_Raise.f (k : Nat) (l0 : List (List Bool)) (l1 : List Int) : Option (List Int × Int) := (choose_Valid.f k l0 l1).bind fun t188 => (if t188 = 0 then ((slices_Clone_int64_int64.f l1).bind fun t189 => ((choose_pieces.f l0).bind fun t192 => (if 0 ≤ t192 then (if (t192 : Int).toNat ≤ 35184372088832 then ((some (List.replicate (t192 : Int).toNat 0 : List Int)).bind fun y193 => (choose_Raise.l0 k l0 t189 y193 (y193.length : Int) 0)) else (none)) else (none)))) else (some (([] : List Int), t188)))
theorem choose_Raise.mono_l : ∀ k, (∀ y0 y1 y2 y3 y4, LeO (choose_Raise.l0 k y0 y1 y2 y3 y4) (choose_Raise.l0 (k + 1) y0 y1 y2 y3 y4)) ∧ (∀ y0 y1 y2 y3 y4 y5 y6 y7 y8 y9, LeO (choose_Raise.l1 k y0 y1 y2 y3 y4 y5 y6 y7 y8 y9) (choose_Raise.l1 (k + 1) y0 y1 y2 y3 y4 y5 y6 y7 y8 y9)) ∧ (∀ y0 y1 y2 y3 y4 y5 y6 y7 y8, LeO (choose_Raise.l2 k y0 y1 y2 y3 y4 y5 y6 y7 y8) (choose_Raise.l2 (k + 1) y0 y1 y2 y3 y4 y5 y6 y7 y8))
  | 0 => ⟨fun _ _ _ _ _ r h => by simp [choose_Raise.l0] at h, fun _ _ _ _ _ _ _ _ _ _ r h => by simp [choose_Raise.l1] at h, fun _ _ _ _ _ _ _ _ _ r h => by simp [choose_Raise.l2] at h⟩
  | k + 1 => by
    obtain ⟨ih0, ih1, ih2⟩ := choose_Raise.mono_l k
    refine ⟨?_, ?_, ?_⟩
    · intro y0 y1 y2 y3 y4
      unfold choose_Raise.l0
      repeat' first
      | (with_reducible exact ih0 _ _ _ _ _)
      | (with_reducible exact ih1 _ _ _ _ _ _ _ _ _ _)
      | (with_reducible exact ih2 _ _ _ _ _ _ _ _ _)
      | (with_reducible exact choose_Valid.mono _ _ _)
      | (with_reducible exact LeO.refl _)
      | (with_reducible exact LeO.none _)
      | (with_reducible refine LeO.ite ?_ ?_)
      | (with_reducible refine LeO.bind ?_ (fun _ => ?_))
      | exact ih0 _ _ _ _ _
      | exact ih1 _ _ _ _ _ _ _ _ _ _
      | exact ih2 _ _ _ _ _ _ _ _ _
      | exact choose_Valid.mono _ _ _
      | exact LeO.none _
      | refine LeO.ite ?_ ?_
      | refine LeO.bind ?_ (fun _ => ?_)
    · intro y0 y1 y2 y3 y4 y5 y6 y7 y8 y9
      unfold choose_Raise.l1
      repeat' first
      | (with_reducible exact ih0 _ _ _ _ _)
      | (with_reducible exact ih1 _ _ _ _ _ _ _ _ _ _)
      | (with_reducible exact ih2 _ _ _ _ _ _ _ _ _)
      | (with_reducible exact choose_Valid.mono _ _ _)
      | (with_reducible exact LeO.refl _)
      | (with_reducible exact LeO.none _)
      | (with_reducible refine LeO.ite ?_ ?_)
      | (with_reducible refine LeO.bind ?_ (fun _ => ?_))
      | exact ih0 _ _ _ _ _
      | exact ih1 _ _ _ _ _ _ _ _ _ _
      | exact ih2 _ _ _ _ _ _ _ _ _
      | exact choose_Valid.mono _ _ _
      | exact LeO.none _
      | refine LeO.ite ?_ ?_
      | refine LeO.bind ?_ (fun _ => ?_)
    · intro y0 y1 y2 y3 y4 y5 y6 y7 y8
      unfold choose_Raise.l2
      repeat' first
      | (with_reducible exact ih0 _ _ _ _ _)
      | (with_reducible exact ih1 _ _ _ _ _ _ _ _ _ _)
      | (with_reducible exact ih2 _ _ _ _ _ _ _ _ _)
      | (with_reducible exact choose_Valid.mono _ _ _)
      | (with_reducible exact LeO.refl _)
      | (with_reducible exact LeO.none _)
      | (with_reducible refine LeO.ite ?_ ?_)
      | (with_reducible refine LeO.bind ?_ (fun _ => ?_))
      | exact ih0 _ _ _ _ _
      | exact ih1 _ _ _ _ _ _ _ _ _ _
      | exact ih2 _ _ _ _ _ _ _ _ _
      | exact choose_Valid.mono _ _ _
      | exact LeO.none _
      | refine LeO.ite ?_ ?_
      | refine LeO.bind ?_ (fun _ => ?_)
theorem choose_Raise.mono : ∀ a0 a1 k, LeO (choose_Raise.f k a0 a1) (choose_Raise.f (k + 1) a0 a1) := by
  intro a0 a1 k
  obtain ⟨ih0, ih1, ih2⟩ := choose_Raise.mono_l k
  unfold choose_Raise.f
  repeat' first
      | (with_reducible exact ih0 _ _ _ _ _)
      | (with_reducible exact ih1 _ _ _ _ _ _ _ _ _ _)
      | (with_reducible exact ih2 _ _ _ _ _ _ _ _ _)
      | (with_reducible exact choose_Valid.mono _ _ _)
      | (with_reducible exact LeO.refl _)
      | (with_reducible exact LeO.none _)
      | (with_reducible refine LeO.ite ?_ ?_)
      | (with_reducible refine LeO.bind ?_ (fun _ => ?_))
      | exact ih0 _ _ _ _ _
      | exact ih1 _ _ _ _ _ _ _ _ _ _
      | exact ih2 _ _ _ _ _ _ _ _ _
      | exact choose_Valid.mono _ _ _
      | exact LeO.none _
      | refine LeO.ite ?_ ?_
      | refine LeO.bind ?_ (fun _ => ?_)
def choose_Raise.T21 : Bool × List (List Nat × List Nat) := (true, [([], []), ([], []), ([0, 1], [0, 1]), ([2], [2]), ([], []), ([], []), ([4, 5], [4, 5]), ([6], [6]), ([3, 7], [3, 7]), ([0, 1, 0, 1, 2, 3, 4, 5, 6, 7, 8], [0, 1]), ([9, 8, 0, 1, 2, 3, 4, 5, 6, 7, 8], [8, 9])])
def choose_Raise.B21 : List Nat := [0, 0, 3, 7, 0, 0, 48, 112, 255, 511, 1023]
theorem choose_Raise.tab21 : rtab .any (opsOf Try.f36 21) = choose_Raise.T21 := by kernel_rfl
theorem choose_Raise.bits21 : waitsOk choose_Raise.T21.2 choose_Raise.B21 = true := by kernel_rfl
set_option maxHeartbeats 8000000 in
set_option maxRecDepth 100000 in
theorem choose_Raise.calls (k : Nat) (A0 : Option Addr) (c0 : Nat) (l0 : List (List Bool)) (A1 : Option Addr) (c1 : Nat) (l1 : List Int) (r1 : List Int) (r2 : Int) (w : World) (hr0 : Kd.C (Kd.slice 4 Kd.bool) w A0 l0.length l0) (hc0 : l0.length ≤ c0) (hr1 : Kd.C (Kd.int .i64) w A1 l1.length l1) (hc1 : l1.length ≤ c1) (h : choose_Raise.f k l0 l1 = some (r1, r2)) :
    Calls Try.prog 36 #[.slice A0 l0.length c0, .slice A1 l1.length c1] w fun e w' => ∃ v0_ : Value, e = .returned (.tuple #[v0_, .int .i64 r2]) ∧ Kd.R (Kd.int .i64) 2 w' w.heap.size (fun _ => True) v0_ r1 ∧ Below w.heap.size w w' := by
  have HR0 := Aside0.mk hr0
  have HC0 := Aside0.mk hc0
  clear hr0 hc0
  have HR1 := Aside0.mk hr1
  have HC1 := Aside0.mk hc1
  clear hr1 hc1
  have HB := Aside0.mk (Below.refl w.heap.size w)
  have H : ((choose_Valid.f k l0 l1).bind fun t188 => (if t188 = 0 then ((slices_Clone_int64_int64.f l1).bind fun t189 => ((choose_pieces.f l0).bind fun t192 => (if 0 ≤ t192 then (if (t192 : Int).toNat ≤ 35184372088832 then ((some (List.replicate (t192 : Int).toNat 0 : List Int)).bind fun y193 => (choose_Raise.l0 k l0 t189 y193 (y193.length : Int) 0)) else (none)) else (none)))) else (some (([] : List Int), t188)))) = some (r1, r2) := h
  clear h
  replace H := Option.bind_eq_some_iff.mp H
  obtain ⟨t188, A30, H⟩ := H
  replace H : (if t188 = 0 then ((slices_Clone_int64_int64.f l1).bind fun t189 => ((choose_pieces.f l0).bind fun t192 => (if 0 ≤ t192 then (if (t192 : Int).toNat ≤ 35184372088832 then ((some (List.replicate (t192 : Int).toNat 0 : List Int)).bind fun y193 => (choose_Raise.l0 k l0 t189 y193 (y193.length : Int) 0)) else (none)) else (none)))) else (some (([] : List Int), t188))) = some (r1, r2) := H
  have A3 := Aside0.mk A30
  clear A30
  by_cases c4 : t188 = 0
  · rw [if_pos c4] at H
    have c4b0 : (t188 == 0) = true := beq_iff_eq.mpr c4
    have c4b1 : (t188 != 0) = false := bne_eq_false_iff_eq.mpr c4
    clear c4
    replace H := Option.bind_eq_some_iff.mp H
    obtain ⟨t189, A50, H⟩ := H
    replace H : ((choose_pieces.f l0).bind fun t192 => (if 0 ≤ t192 then (if (t192 : Int).toNat ≤ 35184372088832 then ((some (List.replicate (t192 : Int).toNat 0 : List Int)).bind fun y193 => (choose_Raise.l0 k l0 t189 y193 (y193.length : Int) 0)) else (none)) else (none))) = some (r1, r2) := H
    have A5 := Aside0.mk A50
    clear A50
    replace H := Option.bind_eq_some_iff.mp H
    obtain ⟨t192, A60, H⟩ := H
    replace H : (if 0 ≤ t192 then (if (t192 : Int).toNat ≤ 35184372088832 then ((some (List.replicate (t192 : Int).toNat 0 : List Int)).bind fun y193 => (choose_Raise.l0 k l0 t189 y193 (y193.length : Int) 0)) else (none)) else (none)) = some (r1, r2) := H
    have A6 := Aside0.mk A60
    clear A60
    by_cases c7 : 0 ≤ t192
    · rw [if_pos c7] at H
      have c7b0 := eq_true c7
      have c7b1 : decide (0 ≤ t192) = true := decide_eq_true c7
      clear c7
      by_cases c8 : (t192 : Int).toNat ≤ 35184372088832
      · rw [if_pos c8] at H
        have c8b0 := eq_true c8
        have c8b1 : decide ((t192 : Int).toNat ≤ 35184372088832) = true := decide_eq_true c8
        clear c8
        obtain ⟨y193, hy193⟩ : ∃ y_ : List Int, y_ = (List.replicate (t192 : Int).toNat 0) := ⟨_, rfl⟩
        replace H : (choose_Raise.l0 k l0 t189 y193 (y193.length : Int) 0) = some (r1, r2) := by first | (rw [hy193]; with_reducible exact H) | (have H2_ := (Option.bind_some _ _).symm.trans H; rw [hy193]; with_reducible exact H2_) | (have H2_ := (Option.bind_some _ _).symm.trans H; with_reducible exact H2_) | with_reducible exact H | (rw [hy193]; exact H) | exact H
        have Ny193 := Aside0.mk hy193
        clear hy193
        have H' := Aside0.mk H
        clear H
        go_enter Try.func36, Try.ntmps36
        go_wp2_with (first | ((with_reducible refine gate_callee (f := 26) rfl ?_); refine goesL_ (some 17) rfl rfl Try.func26 (by kernel_rfl) rfl #[.slice A0 l0.length c0, .slice A1 l1.length c1] rfl (by (try simp only [List.map_toArray, List.map_cons, List.map_nil]); first | done | rfl | (simp only [List.length_drop, List.length_take]; rfl)) ?_; (with_reducible refine (choose_Valid.calls k _ _ l0 _ _ l1 t188 _ ?side1 ?side2 ?side3 ?side4 A3.out).mono ?_); (case side1 => repeat (first | exact HR0.out | (with_reducible refine Kd.C_alloc ?_ _) | (with_reducible refine Kd.C_drewN ?_ _) | (with_reducible refine Kd.C_drew ?_))); (case side2 => exact HC0.out); (case side3 => repeat (first | exact HR1.out | (with_reducible refine Kd.C_alloc ?_ _) | (with_reducible refine Kd.C_drewN ?_ _) | (with_reducible refine Kd.C_drew ?_))); (case side4 => exact HC1.out); rintro e w9 ⟨rfl, hb⟩; refine ⟨_, rfl, ?_⟩; have n0_ := Aside0.mk (below_step (by repeat (first | (with_reducible first | exact HB.out | apply below_alloc | apply pw_below_drewN | apply below_drew1) | exact HB.out)) hb); clear HB; have HB := n0_; clear n0_; (try clear hb); (try clear hb2); (try clear hk); (try clear hi)) | ((with_reducible refine gate_callee (f := 74) rfl ?_); refine goesL_ (some 22) rfl rfl Try.func74 (by kernel_rfl) rfl #[.slice A1 l1.length c1] rfl (by (try simp only [List.map_toArray, List.map_cons, List.map_nil]); first | done | rfl | (simp only [List.length_drop, List.length_take]; rfl)) ?_; (with_reducible refine (slices_Clone_int64_int64.calls _ _ l1 t189 _ ?side1 ?side2 A5.out).mono ?_); (case side1 => repeat (first | exact (Kd.C_below HR1.out HB.out) | (with_reducible refine Kd.C_alloc ?_ _) | (with_reducible refine Kd.C_drewN ?_ _) | (with_reducible refine Kd.C_drew ?_))); (case side2 => exact HC1.out); rintro e w10 ⟨v190, rfl, ho0, hb⟩; refine ⟨_, rfl, ?_⟩; have n0_ := Aside0.mk (Kd.R_lower ho0 (below_size (by repeat (first | (with_reducible first | exact HB.out | apply below_alloc | apply pw_below_drewN | apply below_drew1) | exact HB.out)))); have n1_ := Aside0.mk (below_step (by repeat (first | (with_reducible first | exact HB.out | apply below_alloc | apply pw_below_drewN | apply below_drew1) | exact HB.out)) hb); clear HB; have HO191 := n0_; have HB := n1_; clear n0_ n1_; (try clear hb); (try clear hb2); (try clear hk); (try clear hi); (try clear ho0)) | ((with_reducible refine gate_callee (f := 72) rfl ?_); refine goesL_ (some 24) rfl rfl Try.func72 (by kernel_rfl) rfl #[.slice A0 l0.length c0] rfl (by (try simp only [List.map_toArray, List.map_cons, List.map_nil]); first | done | rfl | (simp only [List.length_drop, List.length_take]; rfl)) ?_; (with_reducible refine (choose_pieces.calls _ _ l0 t192 _ ?side1 ?side2 A6.out).mono ?_); (case side1 => repeat (first | exact (Kd.C_below HR0.out HB.out) | (with_reducible refine Kd.C_alloc ?_ _) | (with_reducible refine Kd.C_drewN ?_ _) | (with_reducible refine Kd.C_drew ?_))); (case side2 => exact HC0.out); rintro e w' ⟨rfl, ⟨nd, rfl⟩⟩; refine ⟨_, rfl, ?_⟩) | ((with_reducible refine gate_dst (N := 25) rfl ?_); refine Kd.R_make (Kd.int .i64) _ 2 rfl (N := 25) rfl 26 _ _ rfl t192 rfl rfl Try.underlying26 (.int .i64 0) 8 info2 rfl (by decide) (by omega) 0 (ok := fun _ => True) (okp := fun _ => True) rfl (fun _ hk => hk) trivial (of_decide_eq_true (by first | (with_reducible assumption) | assumption)) (Nat.le_trans (Nat.mul_le_mul_right _ (of_decide_eq_true (by first | (with_reducible assumption) | assumption) : t192.toNat ≤ 35184372088832)) (by omega)) (Below.refl _ _) (Nat.le_refl _) ?_; intro v194 w11 ho12 hb hg_ hnew_; clear hg_ hnew_; (first | rw [← Ny193.out] at ho12 | (simp only [Int.reduceToNat] at ho12; rw [← Ny193.out] at ho12)); have n0_ := Aside0.mk (Kd.R_elder' (by (with_reducible repeat (first | apply Kd.R_alloc | apply Kd.R_drewN | apply Kd.R_drew)); exact HO191.out) (Kd.R_base ho12) hb); have n1_ := Aside0.mk (Kd.R_lower (Kd.R_new' ho12 (Kd.R_lt (by (with_reducible repeat (first | apply Kd.R_alloc | apply Kd.R_drewN | apply Kd.R_drew)); exact HO191.out))) (below_size (by repeat (first | (with_reducible first | exact HB.out | apply below_alloc | apply pw_below_drewN | apply below_drew1) | exact HB.out)))); have n2_ := Aside0.mk (below_step (by repeat (first | (with_reducible first | exact HB.out | apply below_alloc | apply pw_below_drewN | apply below_drew1) | exact HB.out)) hb); clear HO191; clear HB; have HO191 := n0_; have HO195 := n1_; have HB := n2_; clear n0_ n1_ n2_; clear hb ho12; obtain ⟨Ao13, co13, eo13⟩ := Kd.R_slice HO195.out; subst eo13))
        go_loopg [28] k (fun kq v28 w' => ∃ (x7_1 : List Int) (x8_1 : List Int) (x28_1 : Int), v28 = .int .i64 x28_1 ∧ Aside0 (choose_Raise.l0 kq l0 x7_1 x8_1 (y193.length : Int) x28_1 = some (r1, r2)) ∧ Aside0 (kq ≤ k) ∧ Aside0 (Kd.R (Kd.int .i64) 2 w' w.heap.size (fun k_ => some k_ ≠ ((.slice Ao13 y193.length co13) : Value).ownBlock) v190 x7_1) ∧ Aside0 (Kd.R (Kd.int .i64) 2 w' w.heap.size (fun k_ => some k_ ≠ (v190 : Value).ownBlock) (.slice Ao13 y193.length co13) x8_1) ∧ Aside0 (Below w.heap.size w w'))
        case atStart => exact ⟨(t189), (y193), (0), (by first | rfl | (simp; done) | (simp [*]; done)), H', ⟨Nat.le_refl _⟩, ⟨by (with_reducible repeat (first | apply Kd.R_alloc | apply Kd.R_drewN | apply Kd.R_drew)); exact Kd.R_mono HO191.out (fun _ hk => hk.2)⟩, ⟨by (with_reducible repeat (first | apply Kd.R_alloc | apply Kd.R_drewN | apply Kd.R_drew)); exact Kd.R_mono HO195.out (fun _ hk => hk.2)⟩, ⟨by repeat (first | (with_reducible first | exact HB.out | apply below_alloc | apply pw_below_drewN | apply below_drew1) | exact HB.out)⟩⟩
        case round =>
          clear H'
          try clear c1
          try clear c2
          try clear p2
          try clear c3
          try clear c4
          try clear c4b0
          try clear c4b1
          try clear c7
          try clear c7b0
          try clear c7b1
          try clear c8
          try clear c8b0
          try clear c8b1
          obtain ⟨x7_1, x8_1, x28_1, rfl, HA, HK1, HO_7, HO_8, HB⟩ := hrel
          have hl8_1 := (Kd.R_reads' HO_8.out).1
          rw [hl8_1] at HO_8
          (try simp only [hl8_1])
          (try simp only [hl8_1] at HO_7)
          cases gk with
          | zero => exact absurd HA.out (by simp [choose_Raise.l0])
          | succ k1 =>
            have H := HA.out
            clear HA
            simp only [choose_Raise.l0] at H
            by_cases c14 : x28_1 < (y193.length : Int)
            · rw [if_pos c14] at H
              have c14b0 : decide (x28_1 < (y193.length : Int)) = true := decide_eq_true c14
              clear c14
              (try simp only [hl8_1] at c14b0)
              have H' := Aside0.mk H
              clear H
              go_wp2
              go_loopg [10, 33] k1 (fun kq v10 v33 w' => ∃ (x10_2 : Int) (x33_2 : Int), v10 = .int .i64 x10_2 ∧ v33 = .int .i64 x33_2 ∧ Aside0 (choose_Raise.l1 kq l0 x7_1 x8_1 x28_1 x10_2 (y193.length : Int) x28_1 l0 (l0.length : Int) x33_2 = some (r1, r2)) ∧ Aside0 (kq ≤ k1) ∧ Aside0 (Kd.R (Kd.int .i64) 2 w' w.heap.size (fun k_ => some k_ ≠ ((.slice Ao13 x8_1.length co13) : Value).ownBlock) v190 x7_1) ∧ Aside0 (Kd.R (Kd.int .i64) 2 w' w.heap.size (fun k_ => some k_ ≠ (v190 : Value).ownBlock) (.slice Ao13 x8_1.length co13) x8_1) ∧ Aside0 (Below w.heap.size w w'))
              case atStart => exact ⟨((-1)), (0), (by first | rfl | (simp; done) | (simp [*]; done)), (by first | rfl | (simp; done) | (simp [*]; done)), H', ⟨Nat.le_refl _⟩, ⟨by (try simp only [hl8_1]); (with_reducible repeat (first | apply Kd.R_alloc | apply Kd.R_drewN | apply Kd.R_drew)); exact HO_7.out⟩, ⟨by (try simp only [hl8_1]); (with_reducible repeat (first | apply Kd.R_alloc | apply Kd.R_drewN | apply Kd.R_drew)); exact HO_8.out⟩, ⟨by repeat (first | (with_reducible first | exact HB.out | apply below_alloc | apply pw_below_drewN | apply below_drew1) | exact HB.out)⟩⟩
              case round =>
                clear H'
                try clear c1
                try clear c2
                try clear p2
                try clear c3
                try clear c4
                try clear c4b0
                try clear c4b1
                try clear c7
                try clear c7b0
                try clear c7b1
                try clear c8
                try clear c8b0
                try clear c8b1
                try clear c14
                try clear c14b0
                try clear p2
                obtain ⟨x10_2, x33_2, rfl, rfl, HA, HK2, HO_7, HO_8, HB⟩ := hrel
                cases gk with
                | zero => exact absurd HA.out (by simp [choose_Raise.l1])
                | succ k2 =>
                  have H := HA.out
                  clear HA
                  simp only [choose_Raise.l1] at H
                  by_cases c15 : x33_2 < (l0.length : Int)
                  · rw [if_pos c15] at H
                    have c15b0 : decide (x33_2 < (l0.length : Int)) = true := decide_eq_true c15
                    clear c15
                    by_cases c16 : 0 ≤ x33_2
                    · rw [if_pos c16] at H
                      have c16b0 : decide (0 ≤ x33_2) = true := decide_eq_true c16
                      clear c16
                      by_cases c17 : x33_2 < (l0.length : Int)
                      · rw [if_pos c17] at H
                        have c17b0 : decide (x33_2 < (l0.length : Int)) = true := decide_eq_true c17
                        clear c17
                        by_cases c18 : 0 ≤ x28_1
                        · rw [if_pos c18] at H
                          have c18b0 : decide (0 ≤ x28_1) = true := decide_eq_true c18
                          clear c18
                          by_cases c19 : x28_1 < ((rd_L1 l0 x33_2).length : Int)
                          · rw [if_pos c19] at H
                            have c19b0 : decide (x28_1 < ((rd_L1 l0 x33_2).length : Int)) = true := decide_eq_true c19
                            clear c19
                            obtain ⟨bq20, hbq20⟩ : ∃ b_ : Bool, b_ = (rdOf false (rd_L1 l0 x33_2) x28_1) := ⟨_, rfl⟩
                            replace H : (if bq20 = true then (if x10_2 < 0 then (if x33_2 < (x7_1.length : Int) then (choose_Raise.l1 k2 l0 x7_1 x8_1 x28_1 (rd x7_1 x33_2) (y193.length : Int) x28_1 l0 (l0.length : Int) (wrap64 (x33_2 + 1))) else (none)) else (if x33_2 < (x7_1.length : Int) then (if (rd x7_1 x33_2) < x10_2 then (choose_Raise.l1 k2 l0 x7_1 x8_1 x28_1 (rd x7_1 x33_2) (y193.length : Int) x28_1 l0 (l0.length : Int) (wrap64 (x33_2 + 1))) else (choose_Raise.l1 k2 l0 x7_1 x8_1 x28_1 x10_2 (y193.length : Int) x28_1 l0 (l0.length : Int) (wrap64 (x33_2 + 1)))) else (none))) else (choose_Raise.l1 k2 l0 x7_1 x8_1 x28_1 x10_2 (y193.length : Int) x28_1 l0 (l0.length : Int) (wrap64 (x33_2 + 1)))) = some (r1, r2) := by rw [← hbq20] at H; exact H
                            have Nbq20 := Aside0.mk hbq20
                            clear hbq20
                            by_cases c21 : bq20 = true
                            · subst c21
                              have H1 : (if x10_2 < 0 then (if x33_2 < (x7_1.length : Int) then (choose_Raise.l1 k2 l0 x7_1 x8_1 x28_1 (rd x7_1 x33_2) (y193.length : Int) x28_1 l0 (l0.length : Int) (wrap64 (x33_2 + 1))) else (none)) else (if x33_2 < (x7_1.length : Int) then (if (rd x7_1 x33_2) < x10_2 then (choose_Raise.l1 k2 l0 x7_1 x8_1 x28_1 (rd x7_1 x33_2) (y193.length : Int) x28_1 l0 (l0.length : Int) (wrap64 (x33_2 + 1))) else (choose_Raise.l1 k2 l0 x7_1 x8_1 x28_1 x10_2 (y193.length : Int) x28_1 l0 (l0.length : Int) (wrap64 (x33_2 + 1)))) else (none))) = some (r1, r2) := by rw [if_pos rfl] at H; exact H
                              clear H
                              have H := H1
                              clear H1
                              by_cases c22 : x10_2 < 0
                              · rw [if_pos c22] at H
                                have c22b0 : decide (x10_2 < 0) = true := decide_eq_true c22
                                clear c22
                                by_cases c23 : x33_2 < (x7_1.length : Int)
                                · rw [if_pos c23] at H
                                  have c23b0 : decide (x33_2 < (x7_1.length : Int)) = true := decide_eq_true c23
                                  clear c23
                                  have H' := Aside0.mk H
                                  clear H
                                  have p196 : 0 ≤ (x33_2 : Int) := of_decide_eq_true (by first | (with_reducible assumption) | assumption)
                                  have q196 : x33_2 < (l0.length : Int) := of_decide_eq_true (by first | (with_reducible assumption) | assumption)
                                  obtain ⟨ad196, A196_0, c196_0, e196, hx196_0, hl196_0, hi196_0⟩ := at_L1 HR0.out x33_2 p196 q196
                                  cases e196
                                  replace hx196_0 := (HB.out.cell (World.block_lt_of_cell? w _ hx196_0)).trans hx196_0
                                  have HR196_0 := Aside0.mk hi196_0
                                  have HC196_0 := Aside0.mk hl196_0
                                  clear hi196_0 hl196_0
                                  replace p196 := eq_true p196
                                  replace q196 := eq_true q196
                                  have p197 : 0 ≤ (x28_1 : Int) := of_decide_eq_true (by first | (with_reducible assumption) | assumption)
                                  have q197 : x28_1 < ((rd_L1 l0 x33_2).length : Int) := of_decide_eq_true (by first | (with_reducible assumption) | assumption)
                                  obtain ⟨ad197, e197, hx197_0⟩ := Kd.at_bool HR196_0.out x28_1 p197 q197
                                  (try rw [← Nbq20.out] at hx197_0)
                                  cases e197
                                  replace hx197_0 := (HB.out.cell (World.block_lt_of_cell? w _ hx197_0)).trans hx197_0
                                  replace p197 := eq_true p197
                                  replace q197 := eq_true q197
                                  obtain ⟨Ao24, co24, eo24⟩ := Kd.R_slice HO_7.out
                                  subst eo24
                                  have p198 : 0 ≤ (x33_2 : Int) := of_decide_eq_true (by first | (with_reducible assumption) | assumption)
                                  have q198 : x33_2 < (x7_1.length : Int) := of_decide_eq_true (by first | (with_reducible assumption) | assumption)
                                  obtain ⟨ad198, e198, hx198_0⟩ := Kd.at_int (Kd.R_reads' HO_7.out).2.2 x33_2 p198 q198
                                  cases e198
                                  replace p198 := eq_true p198
                                  replace q198 := eq_true q198
                                  go_wp2
                                  go_roundg k2
                                  case measure => have := HK1.out; have := HK2.out; omega
                                  case rel => exact ⟨(rd x7_1 x33_2), (wrap64 (x33_2 + 1)), (by first | rfl | (simp; done) | (simp [*]; done)), (by first | rfl | (simp; done) | (simp [*]; done)), H', ⟨by have := HK1.out; have := HK2.out; omega⟩, ⟨by (try simp only [hl8_1]); (with_reducible repeat (first | apply Kd.R_alloc | apply Kd.R_drewN | apply Kd.R_drew)); exact HO_7.out⟩, ⟨by (try simp only [hl8_1]); (with_reducible repeat (first | apply Kd.R_alloc | apply Kd.R_drewN | apply Kd.R_drew)); exact HO_8.out⟩, ⟨by repeat (first | (with_reducible first | exact HB.out | apply below_alloc | apply pw_below_drewN | apply below_drew1) | exact HB.out)⟩⟩
                                · rw [if_neg c23] at H
                                  exact absurd H (by simp)
                              · rw [if_neg c22] at H
                                have c22b0 : decide (x10_2 < 0) = false := decide_eq_false c22
                                clear c22
                                by_cases c25 : x33_2 < (x7_1.length : Int)
                                · rw [if_pos c25] at H
                                  have c25b0 : decide (x33_2 < (x7_1.length : Int)) = true := decide_eq_true c25
                                  clear c25
                                  by_cases c26 : (rd x7_1 x33_2) < x10_2
                                  · rw [if_pos c26] at H
                                    have c26b0 : decide ((rd x7_1 x33_2) < x10_2) = true := decide_eq_true c26
                                    clear c26
                                    have H' := Aside0.mk H
                                    clear H
                                    have p196 : 0 ≤ (x33_2 : Int) := of_decide_eq_true (by first | (with_reducible assumption) | assumption)
                                    have q196 : x33_2 < (l0.length : Int) := of_decide_eq_true (by first | (with_reducible assumption) | assumption)
                                    obtain ⟨ad196, A196_0, c196_0, e196, hx196_0, hl196_0, hi196_0⟩ := at_L1 HR0.out x33_2 p196 q196
                                    cases e196
                                    replace hx196_0 := (HB.out.cell (World.block_lt_of_cell? w _ hx196_0)).trans hx196_0
                                    have HR196_0 := Aside0.mk hi196_0
                                    have HC196_0 := Aside0.mk hl196_0
                                    clear hi196_0 hl196_0
                                    replace p196 := eq_true p196
                                    replace q196 := eq_true q196
                                    have p197 : 0 ≤ (x28_1 : Int) := of_decide_eq_true (by first | (with_reducible assumption) | assumption)
                                    have q197 : x28_1 < ((rd_L1 l0 x33_2).length : Int) := of_decide_eq_true (by first | (with_reducible assumption) | assumption)
                                    obtain ⟨ad197, e197, hx197_0⟩ := Kd.at_bool HR196_0.out x28_1 p197 q197
                                    (try rw [← Nbq20.out] at hx197_0)
                                    cases e197
                                    replace hx197_0 := (HB.out.cell (World.block_lt_of_cell? w _ hx197_0)).trans hx197_0
                                    replace p197 := eq_true p197
                                    replace q197 := eq_true q197
                                    obtain ⟨Ao27, co27, eo27⟩ := Kd.R_slice HO_7.out
                                    subst eo27
                                    have p199 : 0 ≤ (x33_2 : Int) := of_decide_eq_true (by first | (with_reducible assumption) | assumption)
                                    have q199 : x33_2 < (x7_1.length : Int) := of_decide_eq_true (by first | (with_reducible assumption) | assumption)
                                    obtain ⟨ad199, e199, hx199_0⟩ := Kd.at_int (Kd.R_reads' HO_7.out).2.2 x33_2 p199 q199
                                    cases e199
                                    replace p199 := eq_true p199
                                    replace q199 := eq_true q199
                                    have p200 : 0 ≤ (x33_2 : Int) := of_decide_eq_true (by first | (with_reducible assumption) | assumption)
                                    have q200 : x33_2 < (x7_1.length : Int) := of_decide_eq_true (by first | (with_reducible assumption) | assumption)
                                    obtain ⟨ad200, e200, hx200_0⟩ := Kd.at_int (Kd.R_reads' HO_7.out).2.2 x33_2 p200 q200
                                    obtain rfl : ad199 = ad200 := (by injection e200)
                                    replace p200 := eq_true p200
                                    replace q200 := eq_true q200
                                    go_wp2
                                    go_roundg k2
                                    case measure => have := HK1.out; have := HK2.out; omega
                                    case rel => exact ⟨(rd x7_1 x33_2), (wrap64 (x33_2 + 1)), (by first | rfl | (simp; done) | (simp [*]; done)), (by first | rfl | (simp; done) | (simp [*]; done)), H', ⟨by have := HK1.out; have := HK2.out; omega⟩, ⟨by (try simp only [hl8_1]); (with_reducible repeat (first | apply Kd.R_alloc | apply Kd.R_drewN | apply Kd.R_drew)); exact HO_7.out⟩, ⟨by (try simp only [hl8_1]); (with_reducible repeat (first | apply Kd.R_alloc | apply Kd.R_drewN | apply Kd.R_drew)); exact HO_8.out⟩, ⟨by repeat (first | (with_reducible first | exact HB.out | apply below_alloc | apply pw_below_drewN | apply below_drew1) | exact HB.out)⟩⟩
                                  · rw [if_neg c26] at H
                                    have c26b0 : decide ((rd x7_1 x33_2) < x10_2) = false := decide_eq_false c26
                                    clear c26
                                    have H' := Aside0.mk H
                                    clear H
                                    have p196 : 0 ≤ (x33_2 : Int) := of_decide_eq_true (by first | (with_reducible assumption) | assumption)
                                    have q196 : x33_2 < (l0.length : Int) := of_decide_eq_true (by first | (with_reducible assumption) | assumption)
                                    obtain ⟨ad196, A196_0, c196_0, e196, hx196_0, hl196_0, hi196_0⟩ := at_L1 HR0.out x33_2 p196 q196
                                    cases e196
                                    replace hx196_0 := (HB.out.cell (World.block_lt_of_cell? w _ hx196_0)).trans hx196_0
                                    have HR196_0 := Aside0.mk hi196_0
                                    have HC196_0 := Aside0.mk hl196_0
                                    clear hi196_0 hl196_0
                                    replace p196 := eq_true p196
                                    replace q196 := eq_true q196
                                    have p197 : 0 ≤ (x28_1 : Int) := of_decide_eq_true (by first | (with_reducible assumption) | assumption)
                                    have q197 : x28_1 < ((rd_L1 l0 x33_2).length : Int) := of_decide_eq_true (by first | (with_reducible assumption) | assumption)
                                    obtain ⟨ad197, e197, hx197_0⟩ := Kd.at_bool HR196_0.out x28_1 p197 q197
                                    (try rw [← Nbq20.out] at hx197_0)
                                    cases e197
                                    replace hx197_0 := (HB.out.cell (World.block_lt_of_cell? w _ hx197_0)).trans hx197_0
                                    replace p197 := eq_true p197
                                    replace q197 := eq_true q197
                                    obtain ⟨Ao28, co28, eo28⟩ := Kd.R_slice HO_7.out
                                    subst eo28
                                    have p199 : 0 ≤ (x33_2 : Int) := of_decide_eq_true (by first | (with_reducible assumption) | assumption)
                                    have q199 : x33_2 < (x7_1.length : Int) := of_decide_eq_true (by first | (with_reducible assumption) | assumption)
                                    obtain ⟨ad199, e199, hx199_0⟩ := Kd.at_int (Kd.R_reads' HO_7.out).2.2 x33_2 p199 q199
                                    cases e199
                                    replace p199 := eq_true p199
                                    replace q199 := eq_true q199
                                    go_wp2
                                    go_roundg k2
                                    case measure => have := HK1.out; have := HK2.out; omega
                                    case rel => exact ⟨(x10_2), (wrap64 (x33_2 + 1)), (by first | rfl | (simp; done) | (simp [*]; done)), (by first | rfl | (simp; done) | (simp [*]; done)), H', ⟨by have := HK1.out; have := HK2.out; omega⟩, ⟨by (try simp only [hl8_1]); (with_reducible repeat (first | apply Kd.R_alloc | apply Kd.R_drewN | apply Kd.R_drew)); exact HO_7.out⟩, ⟨by (try simp only [hl8_1]); (with_reducible repeat (first | apply Kd.R_alloc | apply Kd.R_drewN | apply Kd.R_drew)); exact HO_8.out⟩, ⟨by repeat (first | (with_reducible first | exact HB.out | apply below_alloc | apply pw_below_drewN | apply below_drew1) | exact HB.out)⟩⟩
                                · rw [if_neg c25] at H
                                  exact absurd H (by simp)
                            · replace c21 := Bool.eq_false_iff.mpr c21
                              subst c21
                              have H1 : (choose_Raise.l1 k2 l0 x7_1 x8_1 x28_1 x10_2 (y193.length : Int) x28_1 l0 (l0.length : Int) (wrap64 (x33_2 + 1))) = some (r1, r2) := by rw [if_neg (show ¬ (false = true) by decide)] at H; exact H
                              clear H
                              have H := H1
                              clear H1
                              have H' := Aside0.mk H
                              clear H
                              have p196 : 0 ≤ (x33_2 : Int) := of_decide_eq_true (by first | (with_reducible assumption) | assumption)
                              have q196 : x33_2 < (l0.length : Int) := of_decide_eq_true (by first | (with_reducible assumption) | assumption)
                              obtain ⟨ad196, A196_0, c196_0, e196, hx196_0, hl196_0, hi196_0⟩ := at_L1 HR0.out x33_2 p196 q196
                              cases e196
                              replace hx196_0 := (HB.out.cell (World.block_lt_of_cell? w _ hx196_0)).trans hx196_0
                              have HR196_0 := Aside0.mk hi196_0
                              have HC196_0 := Aside0.mk hl196_0
                              clear hi196_0 hl196_0
                              replace p196 := eq_true p196
                              replace q196 := eq_true q196
                              have p197 : 0 ≤ (x28_1 : Int) := of_decide_eq_true (by first | (with_reducible assumption) | assumption)
                              have q197 : x28_1 < ((rd_L1 l0 x33_2).length : Int) := of_decide_eq_true (by first | (with_reducible assumption) | assumption)
                              obtain ⟨ad197, e197, hx197_0⟩ := Kd.at_bool HR196_0.out x28_1 p197 q197
                              (try rw [← Nbq20.out] at hx197_0)
                              cases e197
                              replace hx197_0 := (HB.out.cell (World.block_lt_of_cell? w _ hx197_0)).trans hx197_0
                              replace p197 := eq_true p197
                              replace q197 := eq_true q197
                              go_wp2
                              go_roundg k2
                              case measure => have := HK1.out; have := HK2.out; omega
                              case rel => exact ⟨(x10_2), (wrap64 (x33_2 + 1)), (by first | rfl | (simp; done) | (simp [*]; done)), (by first | rfl | (simp; done) | (simp [*]; done)), H', ⟨by have := HK1.out; have := HK2.out; omega⟩, ⟨by (try simp only [hl8_1]); (with_reducible repeat (first | apply Kd.R_alloc | apply Kd.R_drewN | apply Kd.R_drew)); exact HO_7.out⟩, ⟨by (try simp only [hl8_1]); (with_reducible repeat (first | apply Kd.R_alloc | apply Kd.R_drewN | apply Kd.R_drew)); exact HO_8.out⟩, ⟨by repeat (first | (with_reducible first | exact HB.out | apply below_alloc | apply pw_below_drewN | apply below_drew1) | exact HB.out)⟩⟩
                          · rw [if_neg c19] at H
                            exact absurd H (by simp)
                        · rw [if_neg c18] at H
                          exact absurd H (by simp)
                      · rw [if_neg c17] at H
                        exact absurd H (by simp)
                    · rw [if_neg c16] at H
                      exact absurd H (by simp)
                  · rw [if_neg c15] at H
                    have c15b0 : decide (x33_2 < (l0.length : Int)) = false := decide_eq_false c15
                    clear c15
                    obtain ⟨ji29, hji29⟩ : ∃ j_ : Int, (mx 0 x10_2) = j_ := ⟨_, rfl⟩
                    replace H : (if 0 ≤ x28_1 then (if x28_1 < (x8_1.length : Int) then (choose_Raise.l2 k2 l0 x7_1 (x8_1.set (x28_1 : Int).toNat (ji29)) x28_1 (y193.length : Int) x28_1 l0 (l0.length : Int) 0) else (none)) else (none)) = some (r1, r2) := by first | (rw [hji29] at H; exact H) | (simp only [hji29] at H ⊢; exact H)
                    have hji29_ : (if 0 < x10_2 then x10_2 else 0) = ji29 := hji29
                    by_cases c30 : 0 ≤ x28_1
                    · rw [if_pos c30] at H
                      have c30b0 : decide (0 ≤ x28_1) = true := decide_eq_true c30
                      clear c30
                      by_cases c31 : x28_1 < (x8_1.length : Int)
                      · rw [if_pos c31] at H
                        have c31b0 : decide (x28_1 < (x8_1.length : Int)) = true := decide_eq_true c31
                        clear c31
                        obtain ⟨y201, hy201⟩ : ∃ y_ : List Int, y_ = (x8_1.set (x28_1 : Int).toNat (ji29)) := ⟨_, rfl⟩
                        replace H : (choose_Raise.l2 k2 l0 x7_1 y201 x28_1 (y193.length : Int) x28_1 l0 (l0.length : Int) 0) = some (r1, r2) := by first | (rw [hy201]; with_reducible exact H) | (have H2_ := (Option.bind_some _ _).symm.trans H; rw [hy201]; with_reducible exact H2_) | (have H2_ := (Option.bind_some _ _).symm.trans H; with_reducible exact H2_) | with_reducible exact H | (rw [hy201]; exact H) | exact H
                        have Ny201 := Aside0.mk hy201
                        clear hy201
                        have H' := Aside0.mk H
                        clear H
                        have p32 : 0 ≤ (x28_1 : Int) := of_decide_eq_true (by first | (with_reducible assumption) | assumption)
                        have q32 : (x28_1 : Int) < ((x8_1.length : Int) : Int) := of_decide_eq_true (by first | (with_reducible assumption) | assumption)
                        obtain ⟨go32, co32, eo32, gb32, gl32, cl32, HG32⟩ := Kd.R_form HO_8.out (by omega)
                        (first | cases eo32 | (injection eo32 with ea_ en_ ec_; (first | subst ea_ | (injection ea_ with ea_; subst ea_)); subst ec_; clear en_))
                        have GB32 := Aside0.mk gb32
                        have GG32 := Aside0.mk HG32
                        clear gb32 gl32 HG32
                        obtain ⟨hx32_0, hf32_0⟩ := Kd.R_celln 0 HO_8.out (x28_1 : Int) p32 q32
                        replace p32 := eq_true p32
                        replace q32 := eq_true q32
                        have HP33 := Kd.R_putg HO_8.out (x28_1 : Int) ji29
                        go_wp2_with (first | ((with_reducible refine gate_store (t := 2) (p := 63) rfl ?_); refine store_event (t := 2) (p := 63) (v := ?vo_w34) (w1 := (wr.setCell ⟨go32, (x28_1 : Int).toNat, none⟩ (.int .i64 ji29))) ?hg ?ho ?hn ?hr ?_; (case ho => rfl); (case hg => rfl); (case hn => rfl); (case hr => first | (go_simp; done) | (go_simp; rfl)); intro w34 hw; have hg : wr.grownBy w34 (some go32) := (by rw [hw]; exact HP33.2); have hp_ : Kd.R (Kd.int .i64) 2 w34 w.heap.size (fun k_ => some k_ ≠ (v190 : Value).ownBlock) (.slice (some ⟨go32, 0, none⟩) x8_1.length co13) y201 := (by rw [hw, Ny201.out]; exact HP33.1); clear HP33; have n0_ := Aside0.mk (Kd.R_after (v := (.slice (some ⟨go32, 0, none⟩) x8_1.length co13)) (v1 := (.slice (some ⟨go32, 0, none⟩) x8_1.length co13)) (ok := (fun _ => True)) (by (with_reducible repeat (first | apply Kd.R_alloc | apply Kd.R_drewN | apply Kd.R_drew)); exact Kd.R_mono HO_7.out (fun _ hk => ⟨trivial, hk⟩)) hg (.inl rfl)); have n1_ := Aside0.mk (hp_); have n2_ := Aside0.mk ((by rw [hw]; exact below_set (HB.out) GB32.out : Below w.heap.size w w34)); clear HO_7; clear HO_8; clear HB; have HO_7 := n0_; have HO_8 := n1_; have HB := n2_; clear n0_ n1_ n2_; clear hg hw hp_))
                        go_loopg [66] k2 (fun kq v66 w' => ∃ (x7_3 : List Int) (x66_3 : Int), v66 = .int .i64 x66_3 ∧ Aside0 (choose_Raise.l2 kq l0 x7_3 y201 x28_1 (y193.length : Int) x28_1 l0 (l0.length : Int) x66_3 = some (r1, r2)) ∧ Aside0 (kq ≤ k2) ∧ Aside0 (Kd.R (Kd.int .i64) 2 w' w.heap.size (fun k_ => some k_ ≠ ((.slice (some ⟨go32, 0, none⟩) x8_1.length co13) : Value).ownBlock) v190 x7_3) ∧ Aside0 (Kd.R (Kd.int .i64) 2 w' w.heap.size (fun k_ => some k_ ≠ (v190 : Value).ownBlock) (.slice (some ⟨go32, 0, none⟩) x8_1.length co13) y201) ∧ Aside0 (Below w.heap.size w w'))
                        case atStart => exact ⟨(x7_1), (0), (by first | rfl | (simp; done) | (simp [*]; done)), H', ⟨Nat.le_refl _⟩, ⟨by (try simp only [hl8_1]); (with_reducible repeat (first | apply Kd.R_alloc | apply Kd.R_drewN | apply Kd.R_drew)); exact Kd.R_mono HO_7.out (fun _ hk => hk.2)⟩, ⟨by (try simp only [hl8_1]); (with_reducible repeat (first | apply Kd.R_alloc | apply Kd.R_drewN | apply Kd.R_drew)); exact HO_8.out⟩, ⟨by repeat (first | (with_reducible first | exact HB.out | apply below_alloc | apply pw_below_drewN | apply below_drew1) | exact HB.out)⟩⟩
                        case round =>
                          clear H'
                          try clear c1
                          try clear p1
                          try clear q1
                          try clear hx1
                          try clear c2
                          try clear p2
                          try clear q2
                          try clear hx2
                          try clear c3
                          try clear p3
                          try clear q3
                          try clear hx3
                          try clear hf3
                          try clear c4
                          try clear c4b0
                          try clear c4b1
                          try clear p6
                          try clear c7
                          try clear c7b0
                          try clear c7b1
                          try clear c8
                          try clear c8b0
                          try clear c8b1
                          try clear c14
                          try clear c14b0
                          try clear c15
                          try clear c15b0
                          try clear c16
                          try clear c16b0
                          try clear c17
                          try clear c17b0
                          try clear c18
                          try clear c18b0
                          try clear c19
                          try clear c19b0
                          try clear p19
                          try clear q19
                          try clear hx19
                          try clear p20
                          try clear q20
                          try clear hx20
                          try clear c21
                          try clear c22
                          try clear c22b0
                          try clear c23
                          try clear c23b0
                          try clear c25
                          try clear c25b0
                          try clear c26
                          try clear c26b0
                          try clear c30
                          try clear c30b0
                          try clear c31
                          try clear c31b0
                          try clear p32
                          try clear q32
                          try clear hx32
                          try clear hf32
                          try clear hx196_0
                          try clear hx197_0
                          try clear hx198_0
                          try clear hx199_0
                          try clear hx200_0
                          try clear hx32_0
                          try clear p196
                          try clear p197
                          try clear p198
                          try clear p199
                          try clear p2
                          try clear p200
                          try clear p32
                          try clear q196
                          try clear q197
                          try clear q198
                          try clear q199
                          try clear q200
                          try clear q32
                          obtain ⟨x7_3, x66_3, rfl, HA, HK3, HO_7, HO_8, HB⟩ := hrel
                          have hl8_3 := (Kd.R_reads' HO_8.out).1
                          rw [hl8_3] at HO_8
                          (try simp only [hl8_3])
                          (try simp only [hl8_3] at HO_7)
                          cases gk with
                          | zero => exact absurd HA.out (by simp [choose_Raise.l2])
                          | succ k3 =>
                            have H := HA.out
                            clear HA
                            simp only [choose_Raise.l2] at H
                            by_cases c35 : x66_3 < (l0.length : Int)
                            · rw [if_pos c35] at H
                              have c35b0 : decide (x66_3 < (l0.length : Int)) = true := decide_eq_true c35
                              clear c35
                              by_cases c36 : 0 ≤ x66_3
                              · rw [if_pos c36] at H
                                have c36b0 : decide (0 ≤ x66_3) = true := decide_eq_true c36
                                clear c36
                                by_cases c37 : x66_3 < (l0.length : Int)
                                · rw [if_pos c37] at H
                                  have c37b0 : decide (x66_3 < (l0.length : Int)) = true := decide_eq_true c37
                                  clear c37
                                  by_cases c38 : 0 ≤ x28_1
                                  · rw [if_pos c38] at H
                                    have c38b0 : decide (0 ≤ x28_1) = true := decide_eq_true c38
                                    clear c38
                                    by_cases c39 : x28_1 < ((rd_L1 l0 x66_3).length : Int)
                                    · rw [if_pos c39] at H
                                      have c39b0 : decide (x28_1 < ((rd_L1 l0 x66_3).length : Int)) = true := decide_eq_true c39
                                      clear c39
                                      obtain ⟨bq40, hbq40⟩ : ∃ b_ : Bool, b_ = (rdOf false (rd_L1 l0 x66_3) x28_1) := ⟨_, rfl⟩
                                      replace H : (if bq40 = true then (if x66_3 < (x7_3.length : Int) then (if x28_1 < (y201.length : Int) then (choose_Raise.l2 k3 l0 (x7_3.set (x66_3 : Int).toNat (wrap64 ((rd x7_3 x66_3) - (rd y201 x28_1)))) y201 x28_1 (y193.length : Int) x28_1 l0 (l0.length : Int) (wrap64 (x66_3 + 1))) else (none)) else (none)) else (choose_Raise.l2 k3 l0 x7_3 y201 x28_1 (y193.length : Int) x28_1 l0 (l0.length : Int) (wrap64 (x66_3 + 1)))) = some (r1, r2) := by rw [← hbq40] at H; exact H
                                      have Nbq40 := Aside0.mk hbq40
                                      clear hbq40
                                      by_cases c41 : bq40 = true
                                      · subst c41
                                        have H1 : (if x66_3 < (x7_3.length : Int) then (if x28_1 < (y201.length : Int) then (choose_Raise.l2 k3 l0 (x7_3.set (x66_3 : Int).toNat (wrap64 ((rd x7_3 x66_3) - (rd y201 x28_1)))) y201 x28_1 (y193.length : Int) x28_1 l0 (l0.length : Int) (wrap64 (x66_3 + 1))) else (none)) else (none)) = some (r1, r2) := by rw [if_pos rfl] at H; exact H
                                        clear H
                                        have H := H1
                                        clear H1
                                        by_cases c42 : x66_3 < (x7_3.length : Int)
                                        · rw [if_pos c42] at H
                                          have c42b0 : decide (x66_3 < (x7_3.length : Int)) = true := decide_eq_true c42
                                          clear c42
                                          by_cases c43 : x28_1 < (y201.length : Int)
                                          · rw [if_pos c43] at H
                                            have c43b0 : decide (x28_1 < (y201.length : Int)) = true := decide_eq_true c43
                                            clear c43
                                            obtain ⟨y206, hy206⟩ : ∃ y_ : List Int, y_ = (x7_3.set (x66_3 : Int).toNat (wrap64 ((rd x7_3 x66_3) - (rd y201 x28_1)))) := ⟨_, rfl⟩
                                            replace H : (choose_Raise.l2 k3 l0 y206 y201 x28_1 (y193.length : Int) x28_1 l0 (l0.length : Int) (wrap64 (x66_3 + 1))) = some (r1, r2) := by first | (rw [hy206]; with_reducible exact H) | (have H2_ := (Option.bind_some _ _).symm.trans H; rw [hy206]; with_reducible exact H2_) | (have H2_ := (Option.bind_some _ _).symm.trans H; with_reducible exact H2_) | with_reducible exact H | (rw [hy206]; exact H) | exact H
                                            have Ny206 := Aside0.mk hy206
                                            clear hy206
                                            have H' := Aside0.mk H
                                            clear H
                                            have p202 : 0 ≤ (x66_3 : Int) := of_decide_eq_true (by first | (with_reducible assumption) | assumption)
                                            have q202 : x66_3 < (l0.length : Int) := of_decide_eq_true (by first | (with_reducible assumption) | assumption)
                                            obtain ⟨ad202, A202_0, c202_0, e202, hx202_0, hl202_0, hi202_0⟩ := at_L1 HR0.out x66_3 p202 q202
                                            cases e202
                                            replace hx202_0 := (HB.out.cell (World.block_lt_of_cell? w _ hx202_0)).trans hx202_0
                                            have HR202_0 := Aside0.mk hi202_0
                                            have HC202_0 := Aside0.mk hl202_0
                                            clear hi202_0 hl202_0
                                            replace p202 := eq_true p202
                                            replace q202 := eq_true q202
                                            have p203 : 0 ≤ (x28_1 : Int) := of_decide_eq_true (by first | (with_reducible assumption) | assumption)
                                            have q203 : x28_1 < ((rd_L1 l0 x66_3).length : Int) := of_decide_eq_true (by first | (with_reducible assumption) | assumption)
                                            obtain ⟨ad203, e203, hx203_0⟩ := Kd.at_bool HR202_0.out x28_1 p203 q203
                                            (try rw [← Nbq40.out] at hx203_0)
                                            cases e203
                                            replace hx203_0 := (HB.out.cell (World.block_lt_of_cell? w _ hx203_0)).trans hx203_0
                                            replace p203 := eq_true p203
                                            replace q203 := eq_true q203
                                            try go_wp2
                                            have n0_ := Aside0.mk (Kd.R_drew HO_7.out)
                                            have n1_ := Aside0.mk (Kd.R_drew HO_8.out)
                                            have n2_ := Aside0.mk (below_drew1 HB.out)
                                            clear HO_7
                                            clear HO_8
                                            clear HB
                                            have HO_7 := n0_
                                            have HO_8 := n1_
                                            have HB := n2_
                                            clear n0_ n1_ n2_
                                            obtain ⟨Ao46, co46, eo46⟩ := Kd.R_slice HO_7.out
                                            (first | subst eo46 | (injection eo46 with f1_ f2_ f3_; have f4_ := f1_.symm; have f5_ := f3_.symm; clear f1_ f2_ f3_; subst f4_; subst f5_))
                                            have p204 : 0 ≤ (x66_3 : Int) := of_decide_eq_true (by first | (with_reducible assumption) | assumption)
                                            have q204 : x66_3 < (x7_3.length : Int) := of_decide_eq_true (by first | (with_reducible assumption) | assumption)
                                            obtain ⟨ad204, e204, hx204_0⟩ := Kd.at_int (Kd.R_reads' HO_7.out).2.2 x66_3 p204 q204
                                            cases e204
                                            replace p204 := eq_true p204
                                            replace q204 := eq_true q204
                                            have p205 : 0 ≤ (x28_1 : Int) := of_decide_eq_true (by first | (with_reducible assumption) | assumption)
                                            have q205 : x28_1 < (y201.length : Int) := of_decide_eq_true (by first | (with_reducible assumption) | assumption)
                                            obtain ⟨ad205, e205, hx205_0⟩ := Kd.at_int (Kd.R_reads' HO_8.out).2.2 x28_1 p205 q205
                                            obtain rfl : (⟨go32, 0, none⟩ : Addr) = ad205 := (by injection e205)
                                            (first | simp only [add_plain] at hx205_0 | simp only [add_at] at hx205_0 | simp only [Addr.add, Nat.zero_add] at hx205_0 | skip)
                                            replace p205 := eq_true p205
                                            replace q205 := eq_true q205
                                            have p44 : 0 ≤ (x66_3 : Int) := of_decide_eq_true (by first | (with_reducible assumption) | assumption)
                                            have q44 : (x66_3 : Int) < ((x7_3.length : Int) : Int) := of_decide_eq_true (by first | (with_reducible assumption) | assumption)
                                            obtain ⟨go44, co44, eo44, gb44, gl44, cl44, HG44⟩ := Kd.R_form HO_7.out (by omega)
                                            (first | cases eo44 | (injection eo44 with ea_ en_ ec_; (first | subst ea_ | (injection ea_ with ea_; subst ea_)); subst ec_; clear en_))
                                            have GB44 := Aside0.mk gb44
                                            have GG44 := Aside0.mk HG44
                                            clear gb44 gl44 HG44
                                            (first | simp only [add_plain] at hx204_0 | skip)
                                            obtain ⟨hx44_0, hf44_0⟩ := Kd.R_celln 0 HO_7.out (x66_3 : Int) p44 q44
                                            replace p44 := eq_true p44
                                            replace q44 := eq_true q44
                                            have HP47 := Kd.R_putn HO_7.out (x66_3 : Int) (wrap64 ((rd x7_3 x66_3) - (rd y201 x28_1)))
                                            rw [← Ny206.out] at HP47
                                            have HQ47 := Aside0.mk HP47
                                            clear HP47
                                            refine start_ (n := 11) (S := fun w' => w'.cell? ⟨go44, (x66_3).toNat, none⟩ = some (.int .i64 (rd x7_3 x66_3)) ∧ w'.cell? ⟨go32, (x28_1).toNat, none⟩ = some (.int .i64 (rd y201 x28_1))) (ds := [10]) #[false, false, false, false, false, false, false, false, false, false, false] (by kernel_rfl) rfl rfl ⟨hx204_0, hx205_0⟩ (fun hHeld => ?_); refine with_tabW choose_Raise.tab21 choose_Raise.bits21 (fun HT_ HW_ => ?_)
                                            generalize wr.drew = w45 at HO_7 HO_8 HB GG44 HQ47 hf44_0 hx204_0 hx205_0 hx44_0 hHeld ⊢
                                            refine pure_ (i := 0) (N := some 75) (v := ?_) (a' := ?_) #[true, false, false, false, false, false, false, false, false, false, false] rfl rfl (any_of HT_.out (by kernel_rfl)) (fun _ _ _ h => h) (Or.inl ⟨by rfl, ?_⟩) ?_ ?_
                                            rotate_left
                                            · intro w'
                                              go_simp
                                              with_reducible rfl
                                            rotate_left
                                            · simp only [Act.put, List.setIfInBounds_toArray, List.set_cons_zero, List.set_cons_succ, i64_w, i32_w]
                                              rfl
                                            refine pure_ (i := 1) (N := some 76) (v := ?_) (a' := ?_) #[true, true, false, false, false, false, false, false, false, false, false] rfl rfl (any_of HT_.out (by kernel_rfl)) (fun _ _ _ h => h) (Or.inl ⟨by rfl, ?_⟩) ?_ ?_
                                            rotate_left
                                            · intro w'
                                              go_simp
                                              with_reducible rfl
                                            rotate_left
                                            · simp only [Act.put, List.setIfInBounds_toArray, List.set_cons_zero, List.set_cons_succ, i64_w, i32_w]
                                              rfl
                                            refine pure_ (i := 2) (N := some 77) (v := ?_) (a' := ?_) #[true, true, true, false, false, false, false, false, false, false, false] rfl rfl (any_of HT_.out (by kernel_rfl)) (fun _ _ _ h => h) (Or.inl ⟨by rfl, ?_⟩) ?_ ?_
                                            rotate_left
                                            · intro w'
                                              go_simp
                                              with_reducible rfl
                                            rotate_left
                                            · simp only [Act.put, List.setIfInBounds_toArray, List.set_cons_zero, List.set_cons_succ, i64_w, i32_w]
                                              rfl
                                            refine pure_ (i := 4) (N := some 79) (v := ?_) (a' := ?_) #[true, true, true, false, true, false, false, false, false, false, false] rfl rfl (any_of HT_.out (by kernel_rfl)) (fun _ _ _ h => h) (Or.inl ⟨by rfl, ?_⟩) ?_ ?_
                                            rotate_left
                                            · intro w'
                                              go_simp
                                              with_reducible rfl
                                            rotate_left
                                            · simp only [Act.put, List.setIfInBounds_toArray, List.set_cons_zero, List.set_cons_succ, i64_w, i32_w]
                                              rfl
                                            refine pure_ (i := 5) (N := some 80) (v := ?_) (a' := ?_) #[true, true, true, false, true, true, false, false, false, false, false] rfl rfl (any_of HT_.out (by kernel_rfl)) (fun _ _ _ h => h) (Or.inl ⟨by rfl, ?_⟩) ?_ ?_
                                            rotate_left
                                            · intro w'
                                              go_simp
                                              with_reducible rfl
                                            rotate_left
                                            · simp only [Act.put, List.setIfInBounds_toArray, List.set_cons_zero, List.set_cons_succ, i64_w, i32_w]
                                              rfl
                                            refine pure_ (i := 6) (N := some 81) (v := ?_) (a' := ?_) #[true, true, true, false, true, true, true, false, false, false, false] rfl rfl (any_of HT_.out (by kernel_rfl)) (fun _ _ _ h => h) (Or.inl ⟨by rfl, ?_⟩) ?_ ?_
                                            rotate_left
                                            · intro w'
                                              go_simp
                                              with_reducible rfl
                                            rotate_left
                                            · simp only [Act.put, List.setIfInBounds_toArray, List.set_cons_zero, List.set_cons_succ, i64_w, i32_w]
                                              rfl
                                            refine take_ (i := 3) (N := some 78) (v := ?_) (a' := ?_) #[true, true, true, true, true, true, true, false, false, false, false] rfl rfl (take_ofW HT_.out HW_.out (by kernel_rfl)) (fun _ _ _ h => h) (Or.inl ⟨by rfl, ?_⟩) hHeld ?_ ?_
                                            rotate_left
                                            · rintro w' ⟨s0, s1⟩
                                              go_simp
                                              with_reducible rfl
                                            rotate_left
                                            · simp only [Act.put, List.setIfInBounds_toArray, List.set_cons_zero, List.set_cons_succ, i64_w, i32_w]
                                              rfl
                                            refine take_ (i := 7) (N := some 82) (v := ?_) (a' := ?_) #[true, true, true, true, true, true, true, true, false, false, false] rfl rfl (take_ofW HT_.out HW_.out (by kernel_rfl)) (fun _ _ _ h => h) (Or.inl ⟨by rfl, ?_⟩) hHeld ?_ ?_
                                            rotate_left
                                            · rintro w' ⟨s0, s1⟩
                                              go_simp
                                              with_reducible rfl
                                            rotate_left
                                            · simp only [Act.put, List.setIfInBounds_toArray, List.set_cons_zero, List.set_cons_succ, i64_w, i32_w]
                                              rfl
                                            refine pure_ (i := 8) (N := some 83) (v := ?_) (a' := ?_) #[true, true, true, true, true, true, true, true, true, false, false] rfl rfl (any_of HT_.out (by kernel_rfl)) (fun _ _ _ h => h) (Or.inl ⟨by rfl, ?_⟩) ?_ ?_
                                            rotate_left
                                            · intro w'
                                              go_simp
                                              with_reducible rfl
                                            rotate_left
                                            · simp only [Act.put, List.setIfInBounds_toArray, List.set_cons_zero, List.set_cons_succ, i64_w, i32_w]
                                              rfl
                                            refine pure_ (i := 9) (N := some 84) (v := ?_) (a' := ?_) #[true, true, true, true, true, true, true, true, true, true, false] rfl rfl (any_of HT_.out (by kernel_rfl)) (fun _ _ _ h => h) (Or.inl ⟨by rfl, ?_⟩) ?_ ?_
                                            rotate_left
                                            · intro w'
                                              go_simp
                                              with_reducible rfl
                                            rotate_left
                                            · simp only [Act.put, List.setIfInBounds_toArray, List.set_cons_zero, List.set_cons_succ, i64_w, i32_w]
                                              rfl
                                            refine last_ (i := 10) (N := none) #[true, true, true, true, true, true, true, true, true, true, true] rfl rfl (one_of HT_.out (by kernel_rfl)) (by decide) (fun K hK => ?_)
                                            refine skip_ (w1 := ?_) (by rfl) rfl ?_ ?_
                                            rotate_left
                                            · go_simp
                                              rfl
                                            refine hK.out _ _ ?_
                                            clear hK K
                                            refine done_ (done_of HT_.out (by kernel_rfl)) ?_
                                            try go_wp2
                                            (try simp only [← hl8_3])
                                            go_roundg k3
                                            case measure => have := HK1.out; have := HK2.out; have := HK3.out; omega
                                            case rel => exact ⟨(y206), (wrap64 (x66_3 + 1)), (by first | rfl | (simp; done) | (simp [*]; done)), H', ⟨by have := HK1.out; have := HK2.out; have := HK3.out; omega⟩, ⟨by (try simp only [hl8_1]); (try simp only [hl8_3]); (with_reducible repeat (first | apply Kd.R_alloc | apply Kd.R_drewN | apply Kd.R_drew)); exact HQ47.out⟩, ⟨by (try simp only [hl8_1]); (try simp only [hl8_3]); (with_reducible repeat (first | apply Kd.R_alloc | apply Kd.R_drewN | apply Kd.R_drew)); exact Kd.R_mono (Kd.R_far (p := ⟨go44, (x66_3 : Int).toNat, none⟩) (Kd.R_mono HO_8.out (fun k_ hk => (⟨hk, fun e_ => hk (by rw [e_]; rfl)⟩ : _ ∧ k_ ≠ go44))) (fun _ hk => hk.2) (.int .i64 (wrap64 ((rd x7_3 x66_3) - (rd y201 x28_1))))) (fun _ hk => hk.1)⟩, ⟨by repeat (first | (with_reducible first | exact HB.out | apply below_alloc | apply pw_below_drewN | apply below_drew1 | refine below_set ?_ GB44.out) | exact HB.out)⟩⟩
                                          · rw [if_neg c43] at H
                                            exact absurd H (by simp)
                                        · rw [if_neg c42] at H
                                          exact absurd H (by simp)
                                      · replace c41 := Bool.eq_false_iff.mpr c41
                                        subst c41
                                        have H1 : (choose_Raise.l2 k3 l0 x7_3 y201 x28_1 (y193.length : Int) x28_1 l0 (l0.length : Int) (wrap64 (x66_3 + 1))) = some (r1, r2) := by rw [if_neg (show ¬ (false = true) by decide)] at H; exact H
                                        clear H
                                        have H := H1
                                        clear H1
                                        have H' := Aside0.mk H
                                        clear H
                                        have p202 : 0 ≤ (x66_3 : Int) := of_decide_eq_true (by first | (with_reducible assumption) | assumption)
                                        have q202 : x66_3 < (l0.length : Int) := of_decide_eq_true (by first | (with_reducible assumption) | assumption)
                                        obtain ⟨ad202, A202_0, c202_0, e202, hx202_0, hl202_0, hi202_0⟩ := at_L1 HR0.out x66_3 p202 q202
                                        cases e202
                                        replace hx202_0 := (HB.out.cell (World.block_lt_of_cell? w _ hx202_0)).trans hx202_0
                                        have HR202_0 := Aside0.mk hi202_0
                                        have HC202_0 := Aside0.mk hl202_0
                                        clear hi202_0 hl202_0
                                        replace p202 := eq_true p202
                                        replace q202 := eq_true q202
                                        have p203 : 0 ≤ (x28_1 : Int) := of_decide_eq_true (by first | (with_reducible assumption) | assumption)
                                        have q203 : x28_1 < ((rd_L1 l0 x66_3).length : Int) := of_decide_eq_true (by first | (with_reducible assumption) | assumption)
                                        obtain ⟨ad203, e203, hx203_0⟩ := Kd.at_bool HR202_0.out x28_1 p203 q203
                                        (try rw [← Nbq40.out] at hx203_0)
                                        cases e203
                                        replace hx203_0 := (HB.out.cell (World.block_lt_of_cell? w _ hx203_0)).trans hx203_0
                                        replace p203 := eq_true p203
                                        replace q203 := eq_true q203
                                        go_wp2
                                        (try simp only [← hl8_3])
                                        go_roundg k3
                                        case measure => have := HK1.out; have := HK2.out; have := HK3.out; omega
                                        case rel => exact ⟨(x7_3), (wrap64 (x66_3 + 1)), (by first | rfl | (simp; done) | (simp [*]; done)), H', ⟨by have := HK1.out; have := HK2.out; have := HK3.out; omega⟩, ⟨by (try simp only [hl8_1]); (try simp only [hl8_3]); (with_reducible repeat (first | apply Kd.R_alloc | apply Kd.R_drewN | apply Kd.R_drew)); exact HO_7.out⟩, ⟨by (try simp only [hl8_1]); (try simp only [hl8_3]); (with_reducible repeat (first | apply Kd.R_alloc | apply Kd.R_drewN | apply Kd.R_drew)); exact HO_8.out⟩, ⟨by repeat (first | (with_reducible first | exact HB.out | apply below_alloc | apply pw_below_drewN | apply below_drew1) | exact HB.out)⟩⟩
                                    · rw [if_neg c39] at H
                                      exact absurd H (by simp)
                                  · rw [if_neg c38] at H
                                    exact absurd H (by simp)
                                · rw [if_neg c37] at H
                                  exact absurd H (by simp)
                              · rw [if_neg c36] at H
                                exact absurd H (by simp)
                            · rw [if_neg c35] at H
                              have c35b0 : decide (x66_3 < (l0.length : Int)) = false := decide_eq_false c35
                              clear c35
                              have H' := Aside0.mk H
                              clear H
                              go_wp2
                              (try simp only [← hl8_1, ← hl8_3])
                              go_roundg k3
                              case measure => have := HK1.out; have := HK2.out; have := HK3.out; omega
                              case rel => exact ⟨(x7_3), (y201), (wrap64 (x28_1 + 1)), (by first | rfl | (simp; done) | (simp [*]; done)), H', ⟨by have := HK1.out; have := HK2.out; have := HK3.out; omega⟩, ⟨by (try simp only [hl8_1]); (try simp only [hl8_3]); (with_reducible repeat (first | apply Kd.R_alloc | apply Kd.R_drewN | apply Kd.R_drew)); exact HO_7.out⟩, ⟨by (try simp only [hl8_1]); (try simp only [hl8_3]); (with_reducible repeat (first | apply Kd.R_alloc | apply Kd.R_drewN | apply Kd.R_drew)); exact HO_8.out⟩, ⟨by repeat (first | (with_reducible first | exact HB.out | apply below_alloc | apply pw_below_drewN | apply below_drew1) | exact HB.out)⟩⟩
                      · rw [if_neg c31] at H
                        exact absurd H (by simp)
                    · rw [if_neg c30] at H
                      exact absurd H (by simp)
            · rw [if_neg c14] at H
              have c14b0 : decide (x28_1 < (y193.length : Int)) = false := decide_eq_false c14
              clear c14
              (try simp only [hl8_1] at c14b0)
              simp only [Option.some.injEq, Prod.mk.injEq] at H
              obtain ⟨rfl, rfl⟩ := H
              go_wp2
              go_ret2
              exact ⟨_, by first | rfl | (simp [errW_none, errW_some] <;> rfl) | (simp [*, errW_none, errW_some] <;> rfl), by (with_reducible repeat (first | apply Kd.R_alloc | apply Kd.R_drewN | apply Kd.R_drew)); exact Kd.R_mono HO_8.out (fun _ hk => trivial), by repeat (first | (with_reducible first | exact HB.out | apply below_alloc | apply pw_below_drewN | apply below_drew1) | exact HB.out)⟩
      · rw [if_neg c8] at H
        exact absurd H (by simp)
    · rw [if_neg c7] at H
      exact absurd H (by simp)
  · rw [if_neg c4] at H
    have c4b0 : (t188 == 0) = false := beq_eq_false_iff_ne.mpr c4
    have c4b1 : (t188 != 0) = true := bne_iff_ne.mpr c4
    simp only [Option.some.injEq, Prod.mk.injEq] at H
    obtain ⟨rfl, rfl⟩ := H
    go_enter Try.func36, Try.ntmps36
    go_wp2_with (first | ((with_reducible refine gate_callee (f := 26) rfl ?_); refine goesL_ (some 17) rfl rfl Try.func26 (by kernel_rfl) rfl #[.slice A0 l0.length c0, .slice A1 l1.length c1] rfl (by (try simp only [List.map_toArray, List.map_cons, List.map_nil]); first | done | rfl | (simp only [List.length_drop, List.length_take]; rfl)) ?_; (with_reducible refine (choose_Valid.calls k _ _ l0 _ _ l1 t188 _ ?side1 ?side2 ?side3 ?side4 A3.out).mono ?_); (case side1 => repeat (first | exact HR0.out | (with_reducible refine Kd.C_alloc ?_ _) | (with_reducible refine Kd.C_drewN ?_ _) | (with_reducible refine Kd.C_drew ?_))); (case side2 => exact HC0.out); (case side3 => repeat (first | exact HR1.out | (with_reducible refine Kd.C_alloc ?_ _) | (with_reducible refine Kd.C_drewN ?_ _) | (with_reducible refine Kd.C_drew ?_))); (case side4 => exact HC1.out); rintro e w48 ⟨rfl, hb⟩; refine ⟨_, rfl, ?_⟩; have n0_ := Aside0.mk (below_step (by repeat (first | (with_reducible first | exact HB.out | apply below_alloc | apply pw_below_drewN | apply below_drew1) | exact HB.out)) hb); clear HB; have HB := n0_; clear n0_; (try clear hb); (try clear hb2); (try clear hk); (try clear hi)))
    go_ret2
    exact ⟨_, by first | rfl | (simp [errW_none, errW_some] <;> rfl) | (simp [*, errW_none, errW_some] <;> rfl), by first | exact Kd.R_nil _ _ _ _ _ | exact Kd.N_nil _ _ _ _ _ | exact Kd.V_nil _ _ _ _ _ | exact Kd.Q_nil _ _ _ _ _ | exact Kd.S_nil _ _ _ _ _, by repeat (first | (with_reducible first | exact HB.out | apply below_alloc | apply pw_below_drewN | apply below_drew1) | exact HB.out)⟩

end Go.Proofs.Ytcaefoljlmdjaaa.CH
