-- printed for this seat by a program
import Derived.Test.YtcaefoljlmdjaaaCHx0
namespace Go.Proofs.Ytcaefoljlmdjaaa.CH
open Go.RowKit Go.Proofs.YtcaefoljlmdjaaaW.PrintWords Go.Proofs.YtcaefoljlmdjaaaW.PrintLast Go.Proofs.YtcaefoljlmdjaaaW.PrintMore
attribute [local go_sem] max2_int min2_int max_two min_two max_three min_three max_four min_four   -- for this text's walks alone
set_option linter.unusedVariables false
set_option linter.unusedSimpArgs false

/-! ### choose_pieces: function 72 -/
def choose_pieces.f (l0 : List (List Bool)) : Option (Int) := if (l0.length : Int) = 0 then (some 0) else (if 0 < (l0.length : Int) then (some ((rd_L1 l0 0).length : Int)) else (none))
set_option maxHeartbeats 8000000 in
set_option maxRecDepth 100000 in
theorem choose_pieces.calls (A0 : Option Addr) (c0 : Nat) (l0 : List (List Bool)) (r : Int) (w : World) (hr0 : Kd.C (Kd.slice 4 Kd.bool) w A0 l0.length l0) (hc0 : l0.length ≤ c0) (h : choose_pieces.f l0 = some r) :
    Calls Try.prog 72 #[.slice A0 l0.length c0] w fun e w' => e = .returned (.int .i64 r) ∧ Drawn0 w w' := by
  have HR0 := Aside0.mk hr0
  have HC0 := Aside0.mk hc0
  clear hr0 hc0
  have H : (if (l0.length : Int) = 0 then (some 0) else (if 0 < (l0.length : Int) then (some ((rd_L1 l0 0).length : Int)) else (none))) = some r := h
  clear h
  by_cases c2 : (l0.length : Int) = 0
  · rw [if_pos c2] at H
    have c2b0 : ((l0.length : Int) == 0) = true := beq_iff_eq.mpr c2
    have c2b1 : ((l0.length : Int) != 0) = false := bne_eq_false_iff_eq.mpr c2
    clear c2
    obtain rfl := Option.some.inj H
    go_enter Try.func72, Try.ntmps72
    go_wp2
    go_ret
    exact ⟨by first | rfl | (simp; done) | (simp [*]; done), by repeat (first | exact Drawn0.refl _ | apply Drawn0.step)⟩
  · rw [if_neg c2] at H
    have c2b0 : ((l0.length : Int) == 0) = false := beq_eq_false_iff_ne.mpr c2
    have c2b1 : ((l0.length : Int) != 0) = true := bne_iff_ne.mpr c2
    have c2b2 : ¬ (l0 = []) := fun h_ => c2 (by rw [h_]; rfl)
    by_cases c3 : 0 < (l0.length : Int)
    · rw [if_pos c3] at H
      have c3b0 : decide (0 < (l0.length : Int)) = true := decide_eq_true c3
      have c3b1 : decide (0 < l0.length) = true := decide_eq_true (by omega)
      clear c3
      obtain rfl := Option.some.inj H
      have p101 : 0 ≤ (0 : Int) := (by omega)
      have q101 : 0 < (l0.length : Int) := of_decide_eq_true (by first | (with_reducible assumption) | assumption)
      obtain ⟨ad101, A101_0, c101_0, e101, hx101_0, hl101_0, hi101_0⟩ := at_L1 HR0.out 0 p101 q101
      cases e101
      have qi101 : (0 < l0.length) = True := eq_true (by omega)
      (try rw [show ((0 : Int)).toNat = 0 from rfl] at hx101_0)
      (try rw [Addr.add_zero'] at hx101_0)
      have HR101_0 := Aside0.mk hi101_0
      have HC101_0 := Aside0.mk hl101_0
      clear hi101_0 hl101_0
      replace p101 := eq_true p101
      replace q101 := eq_true q101
      go_enter Try.func72, Try.ntmps72
      go_wp2
      go_ret
      exact ⟨by first | rfl | (simp; done) | (simp [*]; done), by repeat (first | exact Drawn0.refl _ | apply Drawn0.step)⟩
    · rw [if_neg c3] at H
      exact absurd H (by simp)

/-! ### choose_Coverable: function 41 -/
mutual
def choose_Coverable.l0 : Nat → List Bool → List (List Bool) → Int → Int → Option (List Bool)
  | 0, _, _, _, _ => none
  | k + 1, x3, x11, x12, x13 => if x13 < x12 then (if 0 ≤ x13 then (if x13 < (x11.length : Int) then (choose_Coverable.l1 k x3 x11 x12 x13 (rd_L1 x11 x13) ((rd_L1 x11 x13).length : Int) 0) else (none)) else (none)) else (some x3)
def choose_Coverable.l1 : Nat → List Bool → List (List Bool) → Int → Int → List Bool → Int → Int → Option (List Bool)
  | 0, _, _, _, _, _, _, _ => none
  | k + 1, x3, x11, x12, x13, x17, x18, x19 => if x19 < x18 then (if 0 ≤ x19 then (if x19 < (x17.length : Int) then (if x19 < (x3.length : Int) then (if rdOf false x3 x19 = true then (choose_Coverable.l1 k (x3.set (x19 : Int).toNat true) x11 x12 x13 x17 x18 (wrap64 (x19 + 1))) else (choose_Coverable.l1 k (x3.set (x19 : Int).toNat (rdOf false x17 x19)) x11 x12 x13 x17 x18 (wrap64 (x19 + 1)))) else (none)) else (none)) else (none)) else (choose_Coverable.l0 k x3 x11 x12 (wrap64 (x13 + 1)))
end
def choose_Coverable.f (k : Nat) (l0 : List (List Bool)) : Option (List Bool) := (choose_pieces.f l0).bind fun t102 => (if 0 ≤ t102 then (if (t102 : Int).toNat ≤ 281474976710656 then (choose_Coverable.l0 k (List.replicate (t102 : Int).toNat false) l0 (l0.length : Int) 0) else (none)) else (none))
theorem choose_Coverable.mono_l : ∀ k, (∀ y0 y1 y2 y3, LeO (choose_Coverable.l0 k y0 y1 y2 y3) (choose_Coverable.l0 (k + 1) y0 y1 y2 y3)) ∧ (∀ y0 y1 y2 y3 y4 y5 y6, LeO (choose_Coverable.l1 k y0 y1 y2 y3 y4 y5 y6) (choose_Coverable.l1 (k + 1) y0 y1 y2 y3 y4 y5 y6))
  | 0 => ⟨fun _ _ _ _ r h => by simp [choose_Coverable.l0] at h, fun _ _ _ _ _ _ _ r h => by simp [choose_Coverable.l1] at h⟩
  | k + 1 => by
    obtain ⟨ih0, ih1⟩ := choose_Coverable.mono_l k
    refine ⟨?_, ?_⟩
    · intro y0 y1 y2 y3
      unfold choose_Coverable.l0
      repeat' first
      | (with_reducible exact ih0 _ _ _ _)
      | (with_reducible exact ih1 _ _ _ _ _ _ _)
      | (with_reducible exact LeO.refl _)
      | (with_reducible exact LeO.none _)
      | (with_reducible refine LeO.ite ?_ ?_)
      | (with_reducible refine LeO.bind ?_ (fun _ => ?_))
      | exact ih0 _ _ _ _
      | exact ih1 _ _ _ _ _ _ _
      | exact LeO.none _
      | refine LeO.ite ?_ ?_
      | refine LeO.bind ?_ (fun _ => ?_)
    · intro y0 y1 y2 y3 y4 y5 y6
      unfold choose_Coverable.l1
      repeat' first
      | (with_reducible exact ih0 _ _ _ _)
      | (with_reducible exact ih1 _ _ _ _ _ _ _)
      | (with_reducible exact LeO.refl _)
      | (with_reducible exact LeO.none _)
      | (with_reducible refine LeO.ite ?_ ?_)
      | (with_reducible refine LeO.bind ?_ (fun _ => ?_))
      | exact ih0 _ _ _ _
      | exact ih1 _ _ _ _ _ _ _
      | exact LeO.none _
      | refine LeO.ite ?_ ?_
      | refine LeO.bind ?_ (fun _ => ?_)
theorem choose_Coverable.mono : ∀ a0 k, LeO (choose_Coverable.f k a0) (choose_Coverable.f (k + 1) a0) := by
  intro a0 k
  obtain ⟨ih0, ih1⟩ := choose_Coverable.mono_l k
  unfold choose_Coverable.f
  repeat' first
      | (with_reducible exact ih0 _ _ _ _)
      | (with_reducible exact ih1 _ _ _ _ _ _ _)
      | (with_reducible exact LeO.refl _)
      | (with_reducible exact LeO.none _)
      | (with_reducible refine LeO.ite ?_ ?_)
      | (with_reducible refine LeO.bind ?_ (fun _ => ?_))
      | exact ih0 _ _ _ _
      | exact ih1 _ _ _ _ _ _ _
      | exact LeO.none _
      | refine LeO.ite ?_ ?_
      | refine LeO.bind ?_ (fun _ => ?_)
set_option maxHeartbeats 8000000 in
set_option maxRecDepth 100000 in
theorem choose_Coverable.calls (k : Nat) (A0 : Option Addr) (c0 : Nat) (l0 : List (List Bool)) (r : List Bool) (w : World) (hr0 : Kd.C (Kd.slice 4 Kd.bool) w A0 l0.length l0) (hc0 : l0.length ≤ c0) (h : choose_Coverable.f k l0 = some r) :
    Calls Try.prog 41 #[.slice A0 l0.length c0] w fun e w' => ∃ v0_ : Value, e = .returned (v0_) ∧ Kd.R Kd.bool 4 w' w.heap.size (fun _ => True) v0_ r ∧ Below w.heap.size w w' := by
  have HR0 := Aside0.mk hr0
  have HC0 := Aside0.mk hc0
  clear hr0 hc0
  have HB := Aside0.mk (Below.refl w.heap.size w)
  have H : ((choose_pieces.f l0).bind fun t102 => (if 0 ≤ t102 then (if (t102 : Int).toNat ≤ 281474976710656 then (choose_Coverable.l0 k (List.replicate (t102 : Int).toNat false) l0 (l0.length : Int) 0) else (none)) else (none))) = some r := h
  clear h
  replace H := Option.bind_eq_some_iff.mp H
  obtain ⟨t102, A20, H⟩ := H
  replace H : (if 0 ≤ t102 then (if (t102 : Int).toNat ≤ 281474976710656 then (choose_Coverable.l0 k (List.replicate (t102 : Int).toNat false) l0 (l0.length : Int) 0) else (none)) else (none)) = some r := H
  have A2 := Aside0.mk A20
  clear A20
  by_cases c3 : 0 ≤ t102
  · rw [if_pos c3] at H
    have c3b0 := eq_true c3
    have c3b1 : decide (0 ≤ t102) = true := decide_eq_true c3
    clear c3
    by_cases c4 : (t102 : Int).toNat ≤ 281474976710656
    · rw [if_pos c4] at H
      have c4b0 := eq_true c4
      have c4b1 : decide ((t102 : Int).toNat ≤ 281474976710656) = true := decide_eq_true c4
      clear c4
      obtain ⟨y103, hy103⟩ : ∃ y_ : List Bool, y_ = (List.replicate (t102 : Int).toNat false) := ⟨_, rfl⟩
      replace H : (choose_Coverable.l0 k y103 l0 (l0.length : Int) 0) = some r := by first | (rw [hy103]; with_reducible exact H) | (have H2_ := (Option.bind_some _ _).symm.trans H; rw [hy103]; with_reducible exact H2_) | (have H2_ := (Option.bind_some _ _).symm.trans H; with_reducible exact H2_) | with_reducible exact H | (rw [hy103]; exact H) | exact H
      have Ny103 := Aside0.mk hy103
      clear hy103
      have H' := Aside0.mk H
      clear H
      go_enter Try.func41, Try.ntmps41
      go_wp2_with (first | ((with_reducible refine gate_callee (f := 72) rfl ?_); refine goesL_ (some 9) rfl rfl Try.func72 (by kernel_rfl) rfl #[.slice A0 l0.length c0] rfl (by (try simp only [List.map_toArray, List.map_cons, List.map_nil]); first | done | rfl | (simp only [List.length_drop, List.length_take]; rfl)) ?_; (with_reducible refine (choose_pieces.calls _ _ l0 t102 _ ?side1 ?side2 A2.out).mono ?_); (case side1 => repeat (first | exact HR0.out | (with_reducible refine Kd.C_alloc ?_ _) | (with_reducible refine Kd.C_drewN ?_ _) | (with_reducible refine Kd.C_drew ?_))); (case side2 => exact HC0.out); rintro e w' ⟨rfl, ⟨nd, rfl⟩⟩; refine ⟨_, rfl, ?_⟩) | ((with_reducible refine gate_dst (N := 10) rfl ?_); refine Kd.R_make Kd.bool _ 4 rfl (N := 10) rfl 61 _ _ rfl t102 rfl rfl Try.underlying61 (.bool false) 1 info4 rfl (by decide) (by omega) false (ok := fun _ => True) (okp := fun _ => True) rfl (fun _ hk => hk) trivial (of_decide_eq_true (by first | (with_reducible assumption) | assumption)) (Nat.le_trans (Nat.mul_le_mul_right _ (of_decide_eq_true (by first | (with_reducible assumption) | assumption) : t102.toNat ≤ 281474976710656)) (by omega)) (Below.refl _ _) (Nat.le_refl _) ?_; intro v104 w5 ho6 hb hg_ hnew_; clear hg_ hnew_; (first | rw [← Ny103.out] at ho6 | (simp only [Int.reduceToNat] at ho6; rw [← Ny103.out] at ho6)); have n0_ := Aside0.mk (Kd.R_lower ho6 (below_size (by repeat (first | (with_reducible first | exact HB.out | apply below_alloc | apply pw_below_drewN | apply below_drew1) | exact HB.out)))); have n1_ := Aside0.mk (below_step (by repeat (first | (with_reducible first | exact HB.out | apply below_alloc | apply pw_below_drewN | apply below_drew1) | exact HB.out)) hb); clear HB; have HO105 := n0_; have HB := n1_; clear n0_ n1_; clear hb ho6))
      go_loopg [13] k (fun kq v13 w' => ∃ (x3_1 : List Bool) (x13_1 : Int), v13 = .int .i64 x13_1 ∧ Aside0 (choose_Coverable.l0 kq x3_1 l0 (l0.length : Int) x13_1 = some r) ∧ Aside0 (kq ≤ k) ∧ Aside0 (Kd.R Kd.bool 4 w' w.heap.size (fun _ => True) v104 x3_1) ∧ Aside0 (Below w.heap.size w w'))
      case atStart => exact ⟨(y103), (0), (by first | rfl | (simp; done) | (simp [*]; done)), H', ⟨Nat.le_refl _⟩, ⟨by (with_reducible repeat (first | apply Kd.R_alloc | apply Kd.R_drewN | apply Kd.R_drew)); exact HO105.out⟩, ⟨by repeat (first | (with_reducible first | exact HB.out | apply below_alloc | apply pw_below_drewN | apply below_drew1) | exact HB.out)⟩⟩
      case round =>
        clear H'
        try clear p2
        try clear c3
        try clear c3b0
        try clear c3b1
        try clear c4
        try clear c4b0
        try clear c4b1
        obtain ⟨x3_1, x13_1, rfl, HA, HK1, HO_3, HB⟩ := hrel
        cases gk with
        | zero => exact absurd HA.out (by simp [choose_Coverable.l0])
        | succ k1 =>
          have H := HA.out
          clear HA
          simp only [choose_Coverable.l0] at H
          by_cases c7 : x13_1 < (l0.length : Int)
          · rw [if_pos c7] at H
            have c7b0 : decide (x13_1 < (l0.length : Int)) = true := decide_eq_true c7
            clear c7
            by_cases c8 : 0 ≤ x13_1
            · rw [if_pos c8] at H
              have c8b0 : decide (0 ≤ x13_1) = true := decide_eq_true c8
              clear c8
              by_cases c9 : x13_1 < (l0.length : Int)
              · rw [if_pos c9] at H
                have c9b0 : decide (x13_1 < (l0.length : Int)) = true := decide_eq_true c9
                clear c9
                have H' := Aside0.mk H
                clear H
                have p106 : 0 ≤ (x13_1 : Int) := of_decide_eq_true (by first | (with_reducible assumption) | assumption)
                have q106 : x13_1 < (l0.length : Int) := of_decide_eq_true (by first | (with_reducible assumption) | assumption)
                obtain ⟨ad106, A106_0, c106_0, e106, hx106_0, hl106_0, hi106_0⟩ := at_L1 HR0.out x13_1 p106 q106
                cases e106
                replace hx106_0 := (HB.out.cell (World.block_lt_of_cell? w _ hx106_0)).trans hx106_0
                have HR106_0 := Aside0.mk hi106_0
                have HC106_0 := Aside0.mk hl106_0
                clear hi106_0 hl106_0
                replace p106 := eq_true p106
                replace q106 := eq_true q106
                go_wp2
                go_loopg [19] k1 (fun kq v19 w' => ∃ (x3_2 : List Bool) (x19_2 : Int), v19 = .int .i64 x19_2 ∧ Aside0 (choose_Coverable.l1 kq x3_2 l0 (l0.length : Int) x13_1 (rd_L1 l0 x13_1) ((rd_L1 l0 x13_1).length : Int) x19_2 = some r) ∧ Aside0 (kq ≤ k1) ∧ Aside0 (Kd.R Kd.bool 4 w' w.heap.size (fun _ => True) v104 x3_2) ∧ Aside0 (Below w.heap.size w w'))
                case atStart => exact ⟨(x3_1), (0), (by first | rfl | (simp; done) | (simp [*]; done)), H', ⟨Nat.le_refl _⟩, ⟨by (with_reducible repeat (first | apply Kd.R_alloc | apply Kd.R_drewN | apply Kd.R_drew)); exact HO_3.out⟩, ⟨by repeat (first | (with_reducible first | exact HB.out | apply below_alloc | apply pw_below_drewN | apply below_drew1) | exact HB.out)⟩⟩
                case round =>
                  clear H'
                  try clear c1
                  try clear p1
                  try clear q1
                  try clear hx1
                  try clear p2
                  try clear c3
                  try clear c3b0
                  try clear c3b1
                  try clear c4
                  try clear c4b0
                  try clear c4b1
                  try clear c7
                  try clear c7b0
                  try clear c8
                  try clear c8b0
                  try clear c9
                  try clear c9b0
                  try clear hx106_0
                  try clear p106
                  try clear p2
                  try clear q106
                  obtain ⟨x3_2, x19_2, rfl, HA, HK2, HO_3, HB⟩ := hrel
                  cases gk with
                  | zero => exact absurd HA.out (by simp [choose_Coverable.l1])
                  | succ k2 =>
                    have H := HA.out
                    clear HA
                    simp only [choose_Coverable.l1] at H
                    by_cases c10 : x19_2 < ((rd_L1 l0 x13_1).length : Int)
                    · rw [if_pos c10] at H
                      have c10b0 : decide (x19_2 < ((rd_L1 l0 x13_1).length : Int)) = true := decide_eq_true c10
                      clear c10
                      by_cases c11 : 0 ≤ x19_2
                      · rw [if_pos c11] at H
                        have c11b0 : decide (0 ≤ x19_2) = true := decide_eq_true c11
                        clear c11
                        by_cases c12 : x19_2 < ((rd_L1 l0 x13_1).length : Int)
                        · rw [if_pos c12] at H
                          have c12b0 : decide (x19_2 < ((rd_L1 l0 x13_1).length : Int)) = true := decide_eq_true c12
                          clear c12
                          by_cases c13 : x19_2 < (x3_2.length : Int)
                          · rw [if_pos c13] at H
                            have c13b0 : decide (x19_2 < (x3_2.length : Int)) = true := decide_eq_true c13
                            clear c13
                            obtain ⟨bq14, hbq14⟩ : ∃ b_ : Bool, b_ = (rdOf false x3_2 x19_2) := ⟨_, rfl⟩
                            replace H : (if bq14 = true then (choose_Coverable.l1 k2 (x3_2.set (x19_2 : Int).toNat true) l0 (l0.length : Int) x13_1 (rd_L1 l0 x13_1) ((rd_L1 l0 x13_1).length : Int) (wrap64 (x19_2 + 1))) else (choose_Coverable.l1 k2 (x3_2.set (x19_2 : Int).toNat (rdOf false (rd_L1 l0 x13_1) x19_2)) l0 (l0.length : Int) x13_1 (rd_L1 l0 x13_1) ((rd_L1 l0 x13_1).length : Int) (wrap64 (x19_2 + 1)))) = some r := by rw [← hbq14] at H; exact H
                            have Nbq14 := Aside0.mk hbq14
                            clear hbq14
                            by_cases c15 : bq14 = true
                            · subst c15
                              have H1 : (choose_Coverable.l1 k2 (x3_2.set (x19_2 : Int).toNat true) l0 (l0.length : Int) x13_1 (rd_L1 l0 x13_1) ((rd_L1 l0 x13_1).length : Int) (wrap64 (x19_2 + 1))) = some r := by rw [if_pos rfl] at H; exact H
                              clear H
                              have H := H1
                              clear H1
                              obtain ⟨y109, hy109⟩ : ∃ y_ : List Bool, y_ = (x3_2.set (x19_2 : Int).toNat true) := ⟨_, rfl⟩
                              replace H : (choose_Coverable.l1 k2 y109 l0 (l0.length : Int) x13_1 (rd_L1 l0 x13_1) ((rd_L1 l0 x13_1).length : Int) (wrap64 (x19_2 + 1))) = some r := by first | (rw [hy109]; with_reducible exact H) | (have H2_ := (Option.bind_some _ _).symm.trans H; rw [hy109]; with_reducible exact H2_) | (have H2_ := (Option.bind_some _ _).symm.trans H; with_reducible exact H2_) | with_reducible exact H | (rw [hy109]; exact H) | exact H
                              have Ny109 := Aside0.mk hy109
                              clear hy109
                              have H' := Aside0.mk H
                              clear H
                              have p107 : 0 ≤ (x19_2 : Int) := of_decide_eq_true (by first | (with_reducible assumption) | assumption)
                              have q107 : x19_2 < ((rd_L1 l0 x13_1).length : Int) := of_decide_eq_true (by first | (with_reducible assumption) | assumption)
                              obtain ⟨ad107, e107, hx107_0⟩ := Kd.at_bool HR106_0.out x19_2 p107 q107
                              (try rw [← Nbq14.out] at hx107_0)
                              cases e107
                              replace hx107_0 := (HB.out.cell (World.block_lt_of_cell? w _ hx107_0)).trans hx107_0
                              replace p107 := eq_true p107
                              replace q107 := eq_true q107
                              obtain ⟨Ao17, co17, eo17⟩ := Kd.R_slice HO_3.out
                              subst eo17
                              have p108 : 0 ≤ (x19_2 : Int) := of_decide_eq_true (by first | (with_reducible assumption) | assumption)
                              have q108 : x19_2 < (x3_2.length : Int) := of_decide_eq_true (by first | (with_reducible assumption) | assumption)
                              obtain ⟨ad108, e108, hx108_0⟩ := Kd.at_bool (Kd.R_reads' HO_3.out).2.2 x19_2 p108 q108
                              (try rw [← Nbq14.out] at hx108_0)
                              cases e108
                              replace p108 := eq_true p108
                              replace q108 := eq_true q108
                              have p16 : 0 ≤ (x19_2 : Int) := of_decide_eq_true (by first | (with_reducible assumption) | assumption)
                              have q16 : (x19_2 : Int) < ((x3_2.length : Int) : Int) := of_decide_eq_true (by first | (with_reducible assumption) | assumption)
                              obtain ⟨go16, co16, eo16, gb16, gl16, cl16, HG16⟩ := Kd.R_form HO_3.out (by omega)
                              (first | cases eo16 | (injection eo16 with ea_ en_ ec_; (first | subst ea_ | (injection ea_ with ea_; subst ea_)); subst ec_; clear en_))
                              have GB16 := Aside0.mk gb16
                              have GG16 := Aside0.mk HG16
                              clear gb16 gl16 HG16
                              (first | simp only [add_plain] at hx108_0 | skip)
                              obtain ⟨hx16_0, hf16_0⟩ := Kd.R_celln false HO_3.out (x19_2 : Int) p16 q16
                              replace p16 := eq_true p16
                              replace q16 := eq_true q16
                              have HP18 := Kd.R_putg HO_3.out (x19_2 : Int) true
                              go_wp2_with (first | ((with_reducible refine gate_store (t := 4) (p := 33) rfl ?_); refine store_event (t := 4) (p := 33) (v := ?vo_w19) (w1 := (wr.setCell ⟨go16, (x19_2 : Int).toNat, none⟩ (.bool true))) ?hg ?ho ?hn ?hr ?_; (case ho => rfl); (case hg => rfl); (case hn => rfl); (case hr => first | (go_simp; done) | (go_simp; rfl)); intro w19 hw; have hg : wr.grownBy w19 (some go16) := (by rw [hw]; exact HP18.2); have hp_ : Kd.R Kd.bool 4 w19 w.heap.size (fun _ => True) (.slice (some ⟨go16, 0, none⟩) x3_2.length co17) y109 := (by rw [hw, Ny109.out]; exact HP18.1); clear HP18; have n0_ := Aside0.mk (hp_); have n1_ := Aside0.mk ((by rw [hw]; exact below_set (HB.out) GB16.out : Below w.heap.size w w19)); clear HO_3; clear HB; have HO_3 := n0_; have HB := n1_; clear n0_ n1_; clear hg hw hp_))
                              go_roundg k2
                              case measure => have := HK1.out; have := HK2.out; omega
                              case rel => exact ⟨(y109), (wrap64 (x19_2 + 1)), (by first | rfl | (simp; done) | (simp [*]; done)), H', ⟨by have := HK1.out; have := HK2.out; omega⟩, ⟨by (with_reducible repeat (first | apply Kd.R_alloc | apply Kd.R_drewN | apply Kd.R_drew)); exact HO_3.out⟩, ⟨by repeat (first | (with_reducible first | exact HB.out | apply below_alloc | apply pw_below_drewN | apply below_drew1) | exact HB.out)⟩⟩
                            · replace c15 := Bool.eq_false_iff.mpr c15
                              subst c15
                              have H1 : (choose_Coverable.l1 k2 (x3_2.set (x19_2 : Int).toNat (rdOf false (rd_L1 l0 x13_1) x19_2)) l0 (l0.length : Int) x13_1 (rd_L1 l0 x13_1) ((rd_L1 l0 x13_1).length : Int) (wrap64 (x19_2 + 1))) = some r := by rw [if_neg (show ¬ (false = true) by decide)] at H; exact H
                              clear H
                              have H := H1
                              clear H1
                              obtain ⟨y110, hy110⟩ : ∃ y_ : List Bool, y_ = (x3_2.set (x19_2 : Int).toNat (rdOf false (rd_L1 l0 x13_1) x19_2)) := ⟨_, rfl⟩
                              replace H : (choose_Coverable.l1 k2 y110 l0 (l0.length : Int) x13_1 (rd_L1 l0 x13_1) ((rd_L1 l0 x13_1).length : Int) (wrap64 (x19_2 + 1))) = some r := by first | (rw [hy110]; with_reducible exact H) | (have H2_ := (Option.bind_some _ _).symm.trans H; rw [hy110]; with_reducible exact H2_) | (have H2_ := (Option.bind_some _ _).symm.trans H; with_reducible exact H2_) | with_reducible exact H | (rw [hy110]; exact H) | exact H
                              have Ny110 := Aside0.mk hy110
                              clear hy110
                              have H' := Aside0.mk H
                              clear H
                              have p107 : 0 ≤ (x19_2 : Int) := of_decide_eq_true (by first | (with_reducible assumption) | assumption)
                              have q107 : x19_2 < ((rd_L1 l0 x13_1).length : Int) := of_decide_eq_true (by first | (with_reducible assumption) | assumption)
                              obtain ⟨ad107, e107, hx107_0⟩ := Kd.at_bool HR106_0.out x19_2 p107 q107
                              (try rw [← Nbq14.out] at hx107_0)
                              cases e107
                              replace hx107_0 := (HB.out.cell (World.block_lt_of_cell? w _ hx107_0)).trans hx107_0
                              replace p107 := eq_true p107
                              replace q107 := eq_true q107
                              obtain ⟨Ao21, co21, eo21⟩ := Kd.R_slice HO_3.out
                              subst eo21
                              have p108 : 0 ≤ (x19_2 : Int) := of_decide_eq_true (by first | (with_reducible assumption) | assumption)
                              have q108 : x19_2 < (x3_2.length : Int) := of_decide_eq_true (by first | (with_reducible assumption) | assumption)
                              obtain ⟨ad108, e108, hx108_0⟩ := Kd.at_bool (Kd.R_reads' HO_3.out).2.2 x19_2 p108 q108
                              (try rw [← Nbq14.out] at hx108_0)
                              cases e108
                              replace p108 := eq_true p108
                              replace q108 := eq_true q108
                              have p20 : 0 ≤ (x19_2 : Int) := of_decide_eq_true (by first | (with_reducible assumption) | assumption)
                              have q20 : (x19_2 : Int) < ((x3_2.length : Int) : Int) := of_decide_eq_true (by first | (with_reducible assumption) | assumption)
                              obtain ⟨go20, co20, eo20, gb20, gl20, cl20, HG20⟩ := Kd.R_form HO_3.out (by omega)
                              (first | cases eo20 | (injection eo20 with ea_ en_ ec_; (first | subst ea_ | (injection ea_ with ea_; subst ea_)); subst ec_; clear en_))
                              have GB20 := Aside0.mk gb20
                              have GG20 := Aside0.mk HG20
                              clear gb20 gl20 HG20
                              (first | simp only [add_plain] at hx108_0 | skip)
                              obtain ⟨hx20_0, hf20_0⟩ := Kd.R_celln false HO_3.out (x19_2 : Int) p20 q20
                              replace p20 := eq_true p20
                              replace q20 := eq_true q20
                              have HP22 := Kd.R_putg HO_3.out (x19_2 : Int) (rdOf false (rd_L1 l0 x13_1) x19_2)
                              go_wp2_with (first | ((with_reducible refine gate_store (t := 4) (p := 33) rfl ?_); refine store_event (t := 4) (p := 33) (v := ?vo_w23) (w1 := (wr.setCell ⟨go20, (x19_2 : Int).toNat, none⟩ (.bool (rdOf false (rd_L1 l0 x13_1) x19_2)))) ?hg ?ho ?hn ?hr ?_; (case ho => rfl); (case hg => rfl); (case hn => rfl); (case hr => first | (go_simp; done) | (go_simp; rfl)); intro w23 hw; have hg : wr.grownBy w23 (some go20) := (by rw [hw]; exact HP22.2); have hp_ : Kd.R Kd.bool 4 w23 w.heap.size (fun _ => True) (.slice (some ⟨go20, 0, none⟩) x3_2.length co21) y110 := (by rw [hw, Ny110.out]; exact HP22.1); clear HP22; have n0_ := Aside0.mk (hp_); have n1_ := Aside0.mk ((by rw [hw]; exact below_set (HB.out) GB20.out : Below w.heap.size w w23)); clear HO_3; clear HB; have HO_3 := n0_; have HB := n1_; clear n0_ n1_; clear hg hw hp_))
                              go_roundg k2
                              case measure => have := HK1.out; have := HK2.out; omega
                              case rel => exact ⟨(y110), (wrap64 (x19_2 + 1)), (by first | rfl | (simp; done) | (simp [*]; done)), H', ⟨by have := HK1.out; have := HK2.out; omega⟩, ⟨by (with_reducible repeat (first | apply Kd.R_alloc | apply Kd.R_drewN | apply Kd.R_drew)); exact HO_3.out⟩, ⟨by repeat (first | (with_reducible first | exact HB.out | apply below_alloc | apply pw_below_drewN | apply below_drew1) | exact HB.out)⟩⟩
                          · rw [if_neg c13] at H
                            exact absurd H (by simp)
                        · rw [if_neg c12] at H
                          exact absurd H (by simp)
                      · rw [if_neg c11] at H
                        exact absurd H (by simp)
                    · rw [if_neg c10] at H
                      have c10b0 : decide (x19_2 < ((rd_L1 l0 x13_1).length : Int)) = false := decide_eq_false c10
                      clear c10
                      have H' := Aside0.mk H
                      clear H
                      go_wp2
                      go_roundg k2
                      case measure => have := HK1.out; have := HK2.out; omega
                      case rel => exact ⟨(x3_2), (wrap64 (x13_1 + 1)), (by first | rfl | (simp; done) | (simp [*]; done)), H', ⟨by have := HK1.out; have := HK2.out; omega⟩, ⟨by (with_reducible repeat (first | apply Kd.R_alloc | apply Kd.R_drewN | apply Kd.R_drew)); exact HO_3.out⟩, ⟨by repeat (first | (with_reducible first | exact HB.out | apply below_alloc | apply pw_below_drewN | apply below_drew1) | exact HB.out)⟩⟩
              · rw [if_neg c9] at H
                exact absurd H (by simp)
            · rw [if_neg c8] at H
              exact absurd H (by simp)
          · rw [if_neg c7] at H
            have c7b0 : decide (x13_1 < (l0.length : Int)) = false := decide_eq_false c7
            clear c7
            obtain rfl := Option.some.inj H
            go_wp2
            go_ret
            exact ⟨_, by first | rfl | (simp [errW_none, errW_some] <;> rfl) | (simp [*, errW_none, errW_some] <;> rfl), by (with_reducible repeat (first | apply Kd.R_alloc | apply Kd.R_drewN | apply Kd.R_drew)); exact HO_3.out, by repeat (first | (with_reducible first | exact HB.out | apply below_alloc | apply pw_below_drewN | apply below_drew1) | exact HB.out)⟩
    · rw [if_neg c4] at H
      exact absurd H (by simp)
  · rw [if_neg c3] at H
    exact absurd H (by simp)

/-! ### choose_valid: function 65 -/
mutual
def choose_valid.l0 : Nat → List (List Bool) → List Int → Int → Int → Option (Int)
  | 0, _, _, _, _ => none
  | k + 1, x0, x1, x3, x9 => if x9 < (x0.length : Int) then (if 0 ≤ x9 then (if ((rd_L1 x0 x9).length : Int) > x3 then (some 3) else (choose_valid.l0 k x0 x1 x3 (wrap64 (x9 + 1)))) else (none)) else (if (x1.length : Int) = (x0.length : Int) then (choose_valid.l1 k x0 x1 0) else (some 1))
def choose_valid.l1 : Nat → List (List Bool) → List Int → Int → Option (Int)
  | 0, _, _, _ => none
  | k + 1, x0, x1, x10 => if x10 < (x0.length : Int) then (if 0 ≤ x10 then (if 0 < (x0.length : Int) then (if ((rd_L1 x0 x10).length : Int) = ((rd_L1 x0 0).length : Int) then (if x10 < (x1.length : Int) then (if (rd x1 x10) < 0 then (some 1) else (if (rd x1 x10) > 2147483648 then (some 1) else (choose_valid.l1 k x0 x1 (wrap64 (x10 + 1))))) else (none)) else (some 1)) else (none)) else (none)) else (some 0)
end
def choose_valid.f (k : Nat) (l0 : List (List Bool)) (l1 : List Int) (a2 : Int) (a3 : Int) : Option (Int) := if (l0.length : Int) > a2 then (some 3) else (choose_valid.l0 k l0 l1 a3 0)
theorem choose_valid.mono_l : ∀ k, (∀ y0 y1 y2 y3, LeO (choose_valid.l0 k y0 y1 y2 y3) (choose_valid.l0 (k + 1) y0 y1 y2 y3)) ∧ (∀ y0 y1 y2, LeO (choose_valid.l1 k y0 y1 y2) (choose_valid.l1 (k + 1) y0 y1 y2))
  | 0 => ⟨fun _ _ _ _ r h => by simp [choose_valid.l0] at h, fun _ _ _ r h => by simp [choose_valid.l1] at h⟩
  | k + 1 => by
    obtain ⟨ih0, ih1⟩ := choose_valid.mono_l k
    refine ⟨?_, ?_⟩
    · intro y0 y1 y2 y3
      unfold choose_valid.l0
      repeat' first
      | (with_reducible exact ih0 _ _ _ _)
      | (with_reducible exact ih1 _ _ _)
      | (with_reducible exact LeO.refl _)
      | (with_reducible exact LeO.none _)
      | (with_reducible refine LeO.ite ?_ ?_)
      | (with_reducible refine LeO.bind ?_ (fun _ => ?_))
      | exact ih0 _ _ _ _
      | exact ih1 _ _ _
      | exact LeO.none _
      | refine LeO.ite ?_ ?_
      | refine LeO.bind ?_ (fun _ => ?_)
    · intro y0 y1 y2
      unfold choose_valid.l1
      repeat' first
      | (with_reducible exact ih0 _ _ _ _)
      | (with_reducible exact ih1 _ _ _)
      | (with_reducible exact LeO.refl _)
      | (with_reducible exact LeO.none _)
      | (with_reducible refine LeO.ite ?_ ?_)
      | (with_reducible refine LeO.bind ?_ (fun _ => ?_))
      | exact ih0 _ _ _ _
      | exact ih1 _ _ _
      | exact LeO.none _
      | refine LeO.ite ?_ ?_
      | refine LeO.bind ?_ (fun _ => ?_)
theorem choose_valid.mono : ∀ a0 a1 a2 a3 k, LeO (choose_valid.f k a0 a1 a2 a3) (choose_valid.f (k + 1) a0 a1 a2 a3) := by
  intro a0 a1 a2 a3 k
  obtain ⟨ih0, ih1⟩ := choose_valid.mono_l k
  unfold choose_valid.f
  repeat' first
      | (with_reducible exact ih0 _ _ _ _)
      | (with_reducible exact ih1 _ _ _)
      | (with_reducible exact LeO.refl _)
      | (with_reducible exact LeO.none _)
      | (with_reducible refine LeO.ite ?_ ?_)
      | (with_reducible refine LeO.bind ?_ (fun _ => ?_))
      | exact ih0 _ _ _ _
      | exact ih1 _ _ _
      | exact LeO.none _
      | refine LeO.ite ?_ ?_
      | refine LeO.bind ?_ (fun _ => ?_)
end Go.Proofs.Ytcaefoljlmdjaaa.CH
