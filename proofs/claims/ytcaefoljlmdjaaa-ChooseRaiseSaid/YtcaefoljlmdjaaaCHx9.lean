-- printed for this seat by a program
import Derived.Test.YtcaefoljlmdjaaaCHx0
import Derived.Test.YtcaefoljlmdjaaaCHx3
import Derived.Test.YtcaefoljlmdjaaaCHx8
namespace Go.Proofs.Ytcaefoljlmdjaaa.CH
open Go.RowKit Go.Proofs.YtcaefoljlmdjaaaW.PrintWords Go.Proofs.YtcaefoljlmdjaaaW.PrintLast Go.Proofs.YtcaefoljlmdjaaaW.PrintMore
attribute [local go_sem] max2_int min2_int max_two min_two max_three min_three max_four min_four   -- for this text's walks alone
set_option linter.unusedVariables false
set_option linter.unusedSimpArgs false

/-! ### swarfref30_Valid: function 27 -/
mutual
def swarfref30_Valid.l0 : Nat → List (List Bool) → List Int → Int → Int → Option (Int)
  | 0, _, _, _, _ => none
  | k + 1, x0, x1, x3, x9 => if x9 < (x0.length : Int) then (if 0 ≤ x9 then (if ((rd_L1 x0 x9).length : Int) > x3 then (some 3) else (swarfref30_Valid.l0 k x0 x1 x3 (wrap64 (x9 + 1)))) else (none)) else (if (x1.length : Int) = (x0.length : Int) then (swarfref30_Valid.l1 k x0 x1 0) else (some 1))
def swarfref30_Valid.l1 : Nat → List (List Bool) → List Int → Int → Option (Int)
  | 0, _, _, _ => none
  | k + 1, x0, x1, x10 => if x10 < (x0.length : Int) then (if 0 ≤ x10 then (if 0 < (x0.length : Int) then (if ((rd_L1 x0 x10).length : Int) = ((rd_L1 x0 0).length : Int) then (if x10 < (x1.length : Int) then (if (rd x1 x10) < 0 then (some 1) else (if (rd x1 x10) > 2147483648 then (some 1) else (swarfref30_Valid.l1 k x0 x1 (wrap64 (x10 + 1))))) else (none)) else (some 1)) else (none)) else (none)) else (some 0)
end
def swarfref30_Valid.f (k : Nat) (l0 : List (List Bool)) (l1 : List Int) (a2 : Int) (a3 : Int) : Option (Int) := if (l0.length : Int) > a2 then (some 3) else (swarfref30_Valid.l0 k l0 l1 a3 0)
theorem swarfref30_Valid.mono_l : ∀ k, (∀ y0 y1 y2 y3, LeO (swarfref30_Valid.l0 k y0 y1 y2 y3) (swarfref30_Valid.l0 (k + 1) y0 y1 y2 y3)) ∧ (∀ y0 y1 y2, LeO (swarfref30_Valid.l1 k y0 y1 y2) (swarfref30_Valid.l1 (k + 1) y0 y1 y2))
  | 0 => ⟨fun _ _ _ _ r h => by simp [swarfref30_Valid.l0] at h, fun _ _ _ r h => by simp [swarfref30_Valid.l1] at h⟩
  | k + 1 => by
    obtain ⟨ih0, ih1⟩ := swarfref30_Valid.mono_l k
    refine ⟨?_, ?_⟩
    · intro y0 y1 y2 y3
      unfold swarfref30_Valid.l0
      repeat' first
      | (with_reducible exact ih0 _ _ _ _)
      | (with_reducible exact ih1 _ _ _)
      | (with_reducible exact LeO.refl _)
      | (with_reducible exact LeO.none _)
      | (with_reducible refine LeO.ite ?_ ?_)
      | (with_reducible refine LeO.bind ?_ (fun _ => ?_))
      | exact ih0 _ _ _ _
      | exact ih1 _ _ _
      | exact LeO.none _
      | refine LeO.ite ?_ ?_
      | refine LeO.bind ?_ (fun _ => ?_)
    · intro y0 y1 y2
      unfold swarfref30_Valid.l1
      repeat' first
      | (with_reducible exact ih0 _ _ _ _)
      | (with_reducible exact ih1 _ _ _)
      | (with_reducible exact LeO.refl _)
      | (with_reducible exact LeO.none _)
      | (with_reducible refine LeO.ite ?_ ?_)
      | (with_reducible refine LeO.bind ?_ (fun _ => ?_))
      | exact ih0 _ _ _ _
      | exact ih1 _ _ _
      | exact LeO.none _
      | refine LeO.ite ?_ ?_
      | refine LeO.bind ?_ (fun _ => ?_)
theorem swarfref30_Valid.mono : ∀ a0 a1 a2 a3 k, LeO (swarfref30_Valid.f k a0 a1 a2 a3) (swarfref30_Valid.f (k + 1) a0 a1 a2 a3) := by
  intro a0 a1 a2 a3 k
  obtain ⟨ih0, ih1⟩ := swarfref30_Valid.mono_l k
  unfold swarfref30_Valid.f
  repeat' first
      | (with_reducible exact ih0 _ _ _ _)
      | (with_reducible exact ih1 _ _ _)
      | (with_reducible exact LeO.refl _)
      | (with_reducible exact LeO.none _)
      | (with_reducible refine LeO.ite ?_ ?_)
      | (with_reducible refine LeO.bind ?_ (fun _ => ?_))
      | exact ih0 _ _ _ _
      | exact ih1 _ _ _
      | exact LeO.none _
      | refine LeO.ite ?_ ?_
      | refine LeO.bind ?_ (fun _ => ?_)
set_option maxHeartbeats 8000000 in
set_option maxRecDepth 100000 in
theorem swarfref30_Valid.calls (k : Nat) (A0 : Option Addr) (c0 : Nat) (l0 : List (List Bool)) (A1 : Option Addr) (c1 : Nat) (l1 : List Int) (a2 : Int) (a3 : Int) (r : Int) (w : World) (hr0 : Kd.C (Kd.slice 4 Kd.bool) w A0 l0.length l0) (hc0 : l0.length ≤ c0) (hr1 : Kd.C (Kd.int .i64) w A1 l1.length l1) (hc1 : l1.length ≤ c1) (h : swarfref30_Valid.f k l0 l1 a2 a3 = some r) :
    Calls Try.prog 27 #[.slice A0 l0.length c0, .slice A1 l1.length c1, .int .i64 a2, .int .i64 a3] w fun e w' => e = .returned (.int .i64 r) ∧ Drawn0 w w' := by
  have HR0 := Aside0.mk hr0
  have HC0 := Aside0.mk hc0
  clear hr0 hc0
  have HR1 := Aside0.mk hr1
  have HC1 := Aside0.mk hc1
  clear hr1 hc1
  have H : (if (l0.length : Int) > a2 then (some 3) else (swarfref30_Valid.l0 k l0 l1 a3 0)) = some r := h
  clear h
  by_cases c5 : (l0.length : Int) > a2
  · rw [if_pos c5] at H
    have c5b0 : decide (a2 < (l0.length : Int)) = true := decide_eq_true c5
    clear c5
    obtain rfl := Option.some.inj H
    go_enter Try.func27, Try.ntmps27
    go_wp2
    repeat (go_quiet (fail); try go_wp2)
    go_ret
    exact ⟨by first | rfl | (simp; done) | (simp [*]; done), by repeat (first | exact Drawn0.refl _ | apply Drawn0.step)⟩
  · rw [if_neg c5] at H
    have c5b0 : decide (a2 < (l0.length : Int)) = false := decide_eq_false c5
    clear c5
    have H' := Aside0.mk H
    clear H
    go_enter Try.func27, Try.ntmps27
    go_wp2
    repeat (go_quiet (fail); try go_wp2)
    go_loopg [9] k (fun kq v9 w' => ∃ (x9_1 : Int), v9 = .int .i64 x9_1 ∧ Aside0 (swarfref30_Valid.l0 kq l0 l1 a3 x9_1 = some r) ∧ Aside0 (kq ≤ k) ∧ Drawn0 w w')
    case atStart => exact ⟨(0), (by first | rfl | (simp; done) | (simp [*]; done)), H', ⟨Nat.le_refl _⟩, by repeat (first | exact Drawn0.refl _ | apply Drawn0.step)⟩
    case round =>
      clear H'
      try clear c1
      try clear c2
      try clear p2
      try clear c5
      try clear c5b0
      obtain ⟨x9_1, rfl, HA, HK1, ⟨m1, rfl⟩⟩ := hrel
      cases gk with
      | zero => exact absurd HA.out (by simp [swarfref30_Valid.l0])
      | succ k1 =>
        have H := HA.out
        clear HA
        simp only [swarfref30_Valid.l0] at H
        by_cases c6 : x9_1 < (l0.length : Int)
        · rw [if_pos c6] at H
          have c6b0 : decide (x9_1 < (l0.length : Int)) = true := decide_eq_true c6
          clear c6
          by_cases c7 : 0 ≤ x9_1
          · rw [if_pos c7] at H
            have c7b0 : decide (0 ≤ x9_1) = true := decide_eq_true c7
            clear c7
            by_cases c8 : ((rd_L1 l0 x9_1).length : Int) > a3
            · rw [if_pos c8] at H
              have c8b0 : decide (a3 < ((rd_L1 l0 x9_1).length : Int)) = true := decide_eq_true c8
              clear c8
              obtain rfl := Option.some.inj H
              have p259 : 0 ≤ (x9_1 : Int) := of_decide_eq_true (by first | (with_reducible assumption) | assumption)
              have q259 : x9_1 < (l0.length : Int) := of_decide_eq_true (by first | (with_reducible assumption) | assumption)
              obtain ⟨ad259, A259_0, c259_0, e259, hx259_0, hl259_0, hi259_0⟩ := at_L1 HR0.out x9_1 p259 q259
              cases e259
              have HR259_0 := Aside0.mk hi259_0
              have HC259_0 := Aside0.mk hl259_0
              clear hi259_0 hl259_0
              replace p259 := eq_true p259
              replace q259 := eq_true q259
              go_wp2
              repeat (go_quiet (fail); try go_wp2)
              go_ret
              exact ⟨by first | rfl | (simp; done) | (simp [*]; done), by repeat (first | exact Drawn0.refl _ | apply Drawn0.step)⟩
            · rw [if_neg c8] at H
              have c8b0 : decide (a3 < ((rd_L1 l0 x9_1).length : Int)) = false := decide_eq_false c8
              clear c8
              have H' := Aside0.mk H
              clear H
              have p259 : 0 ≤ (x9_1 : Int) := of_decide_eq_true (by first | (with_reducible assumption) | assumption)
              have q259 : x9_1 < (l0.length : Int) := of_decide_eq_true (by first | (with_reducible assumption) | assumption)
              obtain ⟨ad259, A259_0, c259_0, e259, hx259_0, hl259_0, hi259_0⟩ := at_L1 HR0.out x9_1 p259 q259
              cases e259
              have HR259_0 := Aside0.mk hi259_0
              have HC259_0 := Aside0.mk hl259_0
              clear hi259_0 hl259_0
              replace p259 := eq_true p259
              replace q259 := eq_true q259
              go_wp2
              repeat (go_quiet (fail); try go_wp2)
              go_roundg k1
              case measure => have := HK1.out; omega
              case rel => exact ⟨(wrap64 (x9_1 + 1)), (by first | rfl | (simp; done) | (simp [*]; done)), H', ⟨by have := HK1.out; omega⟩, by repeat (first | exact Drawn0.refl _ | apply Drawn0.step)⟩
          · rw [if_neg c7] at H
            exact absurd H (by simp)
        · rw [if_neg c6] at H
          have c6b0 : decide (x9_1 < (l0.length : Int)) = false := decide_eq_false c6
          clear c6
          by_cases c9 : (l1.length : Int) = (l0.length : Int)
          · rw [if_pos c9] at H
            have c9b0 : ((l1.length : Int) == (l0.length : Int)) = true := beq_iff_eq.mpr c9
            have c9b1 : ((l1.length : Int) != (l0.length : Int)) = false := bne_eq_false_iff_eq.mpr c9
            have c9b2 : (l1.length == l0.length) = true := by first | simpa using c9 | (simp at c9 ⊢; omega)
            clear c9
            have H' := Aside0.mk H
            clear H
            go_wp2
            repeat (go_quiet (fail); try go_wp2)
            go_loopg [10] k1 (fun kq v10 w' => ∃ (x10_2 : Int), v10 = .int .i64 x10_2 ∧ Aside0 (swarfref30_Valid.l1 kq l0 l1 x10_2 = some r) ∧ Aside0 (kq ≤ k1) ∧ Drawn0 w w')
            case atStart => exact ⟨(0), (by first | rfl | (simp; done) | (simp [*]; done)), H', ⟨Nat.le_refl _⟩, by repeat (first | exact Drawn0.refl _ | apply Drawn0.step)⟩
            case round =>
              clear H'
              try clear c1
              try clear c2
              try clear p2
              try clear q2
              try clear hx2
              try clear c5
              try clear c5b0
              try clear c6
              try clear c6b0
              try clear p6
              try clear c7
              try clear c7b0
              try clear c8
              try clear c8b0
              try clear c9
              try clear c9b0
              try clear c9b1
              try clear c9b2
              try clear hx259_0
              try clear p2
              try clear p259
              try clear q259
              obtain ⟨x10_2, rfl, HA, HK2, ⟨m2, rfl⟩⟩ := hrel
              cases gk with
              | zero => exact absurd HA.out (by simp [swarfref30_Valid.l1])
              | succ k2 =>
                have H := HA.out
                clear HA
                simp only [swarfref30_Valid.l1] at H
                by_cases c10 : x10_2 < (l0.length : Int)
                · rw [if_pos c10] at H
                  have c10b0 : decide (x10_2 < (l0.length : Int)) = true := decide_eq_true c10
                  clear c10
                  by_cases c11 : 0 ≤ x10_2
                  · rw [if_pos c11] at H
                    have c11b0 : decide (0 ≤ x10_2) = true := decide_eq_true c11
                    clear c11
                    by_cases c12 : 0 < (l0.length : Int)
                    · rw [if_pos c12] at H
                      have c12b0 : decide (0 < (l0.length : Int)) = true := decide_eq_true c12
                      have c12b1 : decide (0 < l0.length) = true := decide_eq_true (by omega)
                      clear c12
                      by_cases c13 : ((rd_L1 l0 x10_2).length : Int) = ((rd_L1 l0 0).length : Int)
                      · rw [if_pos c13] at H
                        have c13b0 : (((rd_L1 l0 x10_2).length : Int) == ((rd_L1 l0 0).length : Int)) = true := beq_iff_eq.mpr c13
                        have c13b1 : (((rd_L1 l0 x10_2).length : Int) != ((rd_L1 l0 0).length : Int)) = false := bne_eq_false_iff_eq.mpr c13
                        have c13b2 : ((rd_L1 l0 x10_2).length == (rd_L1 l0 0).length) = true := by first | simpa using c13 | (simp at c13 ⊢; omega)
                        clear c13
                        by_cases c14 : x10_2 < (l1.length : Int)
                        · rw [if_pos c14] at H
                          have c14b0 : decide (x10_2 < (l1.length : Int)) = true := decide_eq_true c14
                          clear c14
                          by_cases c15 : (rd l1 x10_2) < 0
                          · rw [if_pos c15] at H
                            have c15b0 : decide ((rd l1 x10_2) < 0) = true := decide_eq_true c15
                            clear c15
                            obtain rfl := Option.some.inj H
                            have p260 : 0 ≤ (x10_2 : Int) := of_decide_eq_true (by first | (with_reducible assumption) | assumption)
                            have q260 : x10_2 < (l0.length : Int) := of_decide_eq_true (by first | (with_reducible assumption) | assumption)
                            obtain ⟨ad260, A260_0, c260_0, e260, hx260_0, hl260_0, hi260_0⟩ := at_L1 HR0.out x10_2 p260 q260
                            cases e260
                            have HR260_0 := Aside0.mk hi260_0
                            have HC260_0 := Aside0.mk hl260_0
                            clear hi260_0 hl260_0
                            replace p260 := eq_true p260
                            replace q260 := eq_true q260
                            have p261 : 0 ≤ (0 : Int) := (by omega)
                            have q261 : 0 < (l0.length : Int) := of_decide_eq_true (by first | (with_reducible assumption) | assumption)
                            obtain ⟨ad261, A261_0, c261_0, e261, hx261_0, hl261_0, hi261_0⟩ := at_L1 HR0.out 0 p261 q261
                            obtain rfl : ad260 = ad261 := (by injection e261)
                            have qi261 : (0 < l0.length) = True := eq_true (by omega)
                            (try rw [show ((0 : Int)).toNat = 0 from rfl] at hx261_0)
                            (try rw [Addr.add_zero'] at hx261_0)
                            have HR261_0 := Aside0.mk hi261_0
                            have HC261_0 := Aside0.mk hl261_0
                            clear hi261_0 hl261_0
                            replace p261 := eq_true p261
                            replace q261 := eq_true q261
                            have p262 : 0 ≤ (x10_2 : Int) := of_decide_eq_true (by first | (with_reducible assumption) | assumption)
                            have q262 : x10_2 < (l1.length : Int) := of_decide_eq_true (by first | (with_reducible assumption) | assumption)
                            obtain ⟨ad262, e262, hx262_0⟩ := Kd.at_int HR1.out x10_2 p262 q262
                            cases e262
                            replace p262 := eq_true p262
                            replace q262 := eq_true q262
                            go_wp2
                            repeat (go_quiet (fail); try go_wp2)
                            go_ret
                            exact ⟨by first | rfl | (simp; done) | (simp [*]; done), by repeat (first | exact Drawn0.refl _ | apply Drawn0.step)⟩
                          · rw [if_neg c15] at H
                            have c15b0 : decide ((rd l1 x10_2) < 0) = false := decide_eq_false c15
                            clear c15
                            by_cases c16 : (rd l1 x10_2) > 2147483648
                            · rw [if_pos c16] at H
                              have c16b0 : decide (2147483648 < (rd l1 x10_2)) = true := decide_eq_true c16
                              clear c16
                              obtain rfl := Option.some.inj H
                              have p260 : 0 ≤ (x10_2 : Int) := of_decide_eq_true (by first | (with_reducible assumption) | assumption)
                              have q260 : x10_2 < (l0.length : Int) := of_decide_eq_true (by first | (with_reducible assumption) | assumption)
                              obtain ⟨ad260, A260_0, c260_0, e260, hx260_0, hl260_0, hi260_0⟩ := at_L1 HR0.out x10_2 p260 q260
                              cases e260
                              have HR260_0 := Aside0.mk hi260_0
                              have HC260_0 := Aside0.mk hl260_0
                              clear hi260_0 hl260_0
                              replace p260 := eq_true p260
                              replace q260 := eq_true q260
                              have p261 : 0 ≤ (0 : Int) := (by omega)
                              have q261 : 0 < (l0.length : Int) := of_decide_eq_true (by first | (with_reducible assumption) | assumption)
                              obtain ⟨ad261, A261_0, c261_0, e261, hx261_0, hl261_0, hi261_0⟩ := at_L1 HR0.out 0 p261 q261
                              obtain rfl : ad260 = ad261 := (by injection e261)
                              have qi261 : (0 < l0.length) = True := eq_true (by omega)
                              (try rw [show ((0 : Int)).toNat = 0 from rfl] at hx261_0)
                              (try rw [Addr.add_zero'] at hx261_0)
                              have HR261_0 := Aside0.mk hi261_0
                              have HC261_0 := Aside0.mk hl261_0
                              clear hi261_0 hl261_0
                              replace p261 := eq_true p261
                              replace q261 := eq_true q261
                              have p262 : 0 ≤ (x10_2 : Int) := of_decide_eq_true (by first | (with_reducible assumption) | assumption)
                              have q262 : x10_2 < (l1.length : Int) := of_decide_eq_true (by first | (with_reducible assumption) | assumption)
                              obtain ⟨ad262, e262, hx262_0⟩ := Kd.at_int HR1.out x10_2 p262 q262
                              cases e262
                              replace p262 := eq_true p262
                              replace q262 := eq_true q262
                              have p263 : 0 ≤ (x10_2 : Int) := of_decide_eq_true (by first | (with_reducible assumption) | assumption)
                              have q263 : x10_2 < (l1.length : Int) := of_decide_eq_true (by first | (with_reducible assumption) | assumption)
                              obtain ⟨ad263, e263, hx263_0⟩ := Kd.at_int HR1.out x10_2 p263 q263
                              obtain rfl : ad262 = ad263 := (by injection e263)
                              replace p263 := eq_true p263
                              replace q263 := eq_true q263
                              go_wp2
                              repeat (go_quiet (fail); try go_wp2)
                              go_ret
                              exact ⟨by first | rfl | (simp; done) | (simp [*]; done), by repeat (first | exact Drawn0.refl _ | apply Drawn0.step)⟩
                            · rw [if_neg c16] at H
                              have c16b0 : decide (2147483648 < (rd l1 x10_2)) = false := decide_eq_false c16
                              clear c16
                              have H' := Aside0.mk H
                              clear H
                              have p260 : 0 ≤ (x10_2 : Int) := of_decide_eq_true (by first | (with_reducible assumption) | assumption)
                              have q260 : x10_2 < (l0.length : Int) := of_decide_eq_true (by first | (with_reducible assumption) | assumption)
                              obtain ⟨ad260, A260_0, c260_0, e260, hx260_0, hl260_0, hi260_0⟩ := at_L1 HR0.out x10_2 p260 q260
                              cases e260
                              have HR260_0 := Aside0.mk hi260_0
                              have HC260_0 := Aside0.mk hl260_0
                              clear hi260_0 hl260_0
                              replace p260 := eq_true p260
                              replace q260 := eq_true q260
                              have p261 : 0 ≤ (0 : Int) := (by omega)
                              have q261 : 0 < (l0.length : Int) := of_decide_eq_true (by first | (with_reducible assumption) | assumption)
                              obtain ⟨ad261, A261_0, c261_0, e261, hx261_0, hl261_0, hi261_0⟩ := at_L1 HR0.out 0 p261 q261
                              obtain rfl : ad260 = ad261 := (by injection e261)
                              have qi261 : (0 < l0.length) = True := eq_true (by omega)
                              (try rw [show ((0 : Int)).toNat = 0 from rfl] at hx261_0)
                              (try rw [Addr.add_zero'] at hx261_0)
                              have HR261_0 := Aside0.mk hi261_0
                              have HC261_0 := Aside0.mk hl261_0
                              clear hi261_0 hl261_0
                              replace p261 := eq_true p261
                              replace q261 := eq_true q261
                              have p262 : 0 ≤ (x10_2 : Int) := of_decide_eq_true (by first | (with_reducible assumption) | assumption)
                              have q262 : x10_2 < (l1.length : Int) := of_decide_eq_true (by first | (with_reducible assumption) | assumption)
                              obtain ⟨ad262, e262, hx262_0⟩ := Kd.at_int HR1.out x10_2 p262 q262
                              cases e262
                              replace p262 := eq_true p262
                              replace q262 := eq_true q262
                              have p263 : 0 ≤ (x10_2 : Int) := of_decide_eq_true (by first | (with_reducible assumption) | assumption)
                              have q263 : x10_2 < (l1.length : Int) := of_decide_eq_true (by first | (with_reducible assumption) | assumption)
                              obtain ⟨ad263, e263, hx263_0⟩ := Kd.at_int HR1.out x10_2 p263 q263
                              obtain rfl : ad262 = ad263 := (by injection e263)
                              replace p263 := eq_true p263
                              replace q263 := eq_true q263
                              go_wp2
                              repeat (go_quiet (fail); try go_wp2)
                              go_roundg k2
                              case measure => have := HK1.out; have := HK2.out; omega
                              case rel => exact ⟨(wrap64 (x10_2 + 1)), (by first | rfl | (simp; done) | (simp [*]; done)), H', ⟨by have := HK1.out; have := HK2.out; omega⟩, by repeat (first | exact Drawn0.refl _ | apply Drawn0.step)⟩
                        · rw [if_neg c14] at H
                          exact absurd H (by simp)
                      · rw [if_neg c13] at H
                        have c13b0 : (((rd_L1 l0 x10_2).length : Int) == ((rd_L1 l0 0).length : Int)) = false := beq_eq_false_iff_ne.mpr c13
                        have c13b1 : (((rd_L1 l0 x10_2).length : Int) != ((rd_L1 l0 0).length : Int)) = true := bne_iff_ne.mpr c13
                        have c13b2 : ((rd_L1 l0 x10_2).length == (rd_L1 l0 0).length) = false := by first | simpa using c13 | (simp at c13 ⊢; omega)
                        obtain rfl := Option.some.inj H
                        have p260 : 0 ≤ (x10_2 : Int) := of_decide_eq_true (by first | (with_reducible assumption) | assumption)
                        have q260 : x10_2 < (l0.length : Int) := of_decide_eq_true (by first | (with_reducible assumption) | assumption)
                        obtain ⟨ad260, A260_0, c260_0, e260, hx260_0, hl260_0, hi260_0⟩ := at_L1 HR0.out x10_2 p260 q260
                        cases e260
                        have HR260_0 := Aside0.mk hi260_0
                        have HC260_0 := Aside0.mk hl260_0
                        clear hi260_0 hl260_0
                        replace p260 := eq_true p260
                        replace q260 := eq_true q260
                        have p261 : 0 ≤ (0 : Int) := (by omega)
                        have q261 : 0 < (l0.length : Int) := of_decide_eq_true (by first | (with_reducible assumption) | assumption)
                        obtain ⟨ad261, A261_0, c261_0, e261, hx261_0, hl261_0, hi261_0⟩ := at_L1 HR0.out 0 p261 q261
                        obtain rfl : ad260 = ad261 := (by injection e261)
                        have qi261 : (0 < l0.length) = True := eq_true (by omega)
                        (try rw [show ((0 : Int)).toNat = 0 from rfl] at hx261_0)
                        (try rw [Addr.add_zero'] at hx261_0)
                        have HR261_0 := Aside0.mk hi261_0
                        have HC261_0 := Aside0.mk hl261_0
                        clear hi261_0 hl261_0
                        replace p261 := eq_true p261
                        replace q261 := eq_true q261
                        go_wp2
                        repeat (go_quiet (fail); try go_wp2)
                        go_ret
                        exact ⟨by first | rfl | (simp; done) | (simp [*]; done), by repeat (first | exact Drawn0.refl _ | apply Drawn0.step)⟩
                    · rw [if_neg c12] at H
                      exact absurd H (by simp)
                  · rw [if_neg c11] at H
                    exact absurd H (by simp)
                · rw [if_neg c10] at H
                  have c10b0 : decide (x10_2 < (l0.length : Int)) = false := decide_eq_false c10
                  clear c10
                  obtain rfl := Option.some.inj H
                  go_wp2
                  repeat (go_quiet (fail); try go_wp2)
                  go_ret
                  exact ⟨by first | rfl | (simp; done) | (simp [*]; done), by repeat (first | exact Drawn0.refl _ | apply Drawn0.step)⟩
          · rw [if_neg c9] at H
            have c9b0 : ((l1.length : Int) == (l0.length : Int)) = false := beq_eq_false_iff_ne.mpr c9
            have c9b1 : ((l1.length : Int) != (l0.length : Int)) = true := bne_iff_ne.mpr c9
            have c9b2 : (l1.length == l0.length) = false := by first | simpa using c9 | (simp at c9 ⊢; omega)
            obtain rfl := Option.some.inj H
            go_wp2
            repeat (go_quiet (fail); try go_wp2)
            go_ret
            exact ⟨by first | rfl | (simp; done) | (simp [*]; done), by repeat (first | exact Drawn0.refl _ | apply Drawn0.step)⟩

/-! ### swarflaw30_right: function 33 -/
def swarflaw30_right.f (k : Nat) (l0 : List (List Bool)) (l1 : List Int) : Option (Bool) := (swarfref30_Small.f k l0 l1 12 20).bind fun t269 => (if t269 = true then ((swarfref30_Valid.f k l0 l1 200 200).bind fun t270 => (some (t270 == 0))) else (some false))
theorem swarflaw30_right.mono : ∀ a0 a1 k, LeO (swarflaw30_right.f k a0 a1) (swarflaw30_right.f (k + 1) a0 a1) := by
  intro a0 a1 k
  unfold swarflaw30_right.f
  repeat' first
      | (with_reducible exact swarfref30_Small.mono _ _ _ _ _)
      | (with_reducible exact swarfref30_Valid.mono _ _ _ _ _)
      | (with_reducible exact LeO.refl _)
      | (with_reducible exact LeO.none _)
      | (with_reducible refine LeO.ite ?_ ?_)
      | (with_reducible refine LeO.bind ?_ (fun _ => ?_))
      | exact swarfref30_Small.mono _ _ _ _ _
      | exact swarfref30_Valid.mono _ _ _ _ _
      | exact LeO.none _
      | refine LeO.ite ?_ ?_
      | refine LeO.bind ?_ (fun _ => ?_)
set_option maxHeartbeats 8000000 in
set_option maxRecDepth 100000 in
theorem swarflaw30_right.calls (k : Nat) (A0 : Option Addr) (c0 : Nat) (l0 : List (List Bool)) (A1 : Option Addr) (c1 : Nat) (l1 : List Int) (r : Bool) (w : World) (hr0 : Kd.C (Kd.slice 4 Kd.bool) w A0 l0.length l0) (hc0 : l0.length ≤ c0) (hr1 : Kd.C (Kd.int .i64) w A1 l1.length l1) (hc1 : l1.length ≤ c1) (h : swarflaw30_right.f k l0 l1 = some r) :
    Calls Try.prog 33 #[.slice A0 l0.length c0, .slice A1 l1.length c1] w fun e w' => e = .returned (.bool r) ∧ Drawn0 w w' := by
  have HR0 := Aside0.mk hr0
  have HC0 := Aside0.mk hc0
  clear hr0 hc0
  have HR1 := Aside0.mk hr1
  have HC1 := Aside0.mk hc1
  clear hr1 hc1
  have H : ((swarfref30_Small.f k l0 l1 12 20).bind fun t269 => (if t269 = true then ((swarfref30_Valid.f k l0 l1 200 200).bind fun t270 => (some (t270 == 0))) else (some false))) = some r := h
  clear h
  replace H := Option.bind_eq_some_iff.mp H
  obtain ⟨t269, A30, H⟩ := H
  replace H : (if t269 = true then ((swarfref30_Valid.f k l0 l1 200 200).bind fun t270 => (some (t270 == 0))) else (some false)) = some r := H
  have A3 := Aside0.mk A30
  clear A30
  by_cases c4 : t269 = true
  · subst c4
    have H1 : ((swarfref30_Valid.f k l0 l1 200 200).bind fun t270 => (some (t270 == 0))) = some r := by rw [if_pos rfl] at H; exact H
    clear H
    have H := H1
    clear H1
    replace H := Option.bind_eq_some_iff.mp H
    obtain ⟨t270, A50, H⟩ := H
    replace H : (some (t270 == 0)) = some r := H
    have A5 := Aside0.mk A50
    clear A50
    obtain rfl := Option.some.inj H
    go_enter Try.func33, Try.ntmps33
    go_wp2_with (first | ((with_reducible refine gate_callee (f := 25) rfl ?_); refine goesL_ (some 7) rfl rfl Try.func25 (by kernel_rfl) rfl #[.slice A0 l0.length c0, .slice A1 l1.length c1, .int .i64 12, .int .i64 20] rfl (by (try simp only [List.map_toArray, List.map_cons, List.map_nil]); first | done | rfl | (simp only [List.length_drop, List.length_take]; rfl)) ?_; (with_reducible refine (swarfref30_Small.calls k _ _ l0 _ _ l1 12 20 true _ ?side1 ?side2 ?side3 ?side4 A3.out).mono ?_); (case side1 => repeat (first | exact HR0.out | (with_reducible refine Kd.C_alloc ?_ _) | (with_reducible refine Kd.C_drewN ?_ _) | (with_reducible refine Kd.C_drew ?_))); (case side2 => exact HC0.out); (case side3 => repeat (first | exact HR1.out | (with_reducible refine Kd.C_alloc ?_ _) | (with_reducible refine Kd.C_drewN ?_ _) | (with_reducible refine Kd.C_drew ?_))); (case side4 => exact HC1.out); rintro e w' ⟨rfl, ⟨nd, rfl⟩⟩; refine ⟨_, rfl, ?_⟩) | (go_at_call 27; (with_reducible refine (swarfref30_Valid.calls k _ _ l0 _ _ l1 200 200 t270 _ ?side1 ?side2 ?side3 ?side4 A5.out).mono ?_); (case side1 => repeat (first | exact HR0.out | (with_reducible refine Kd.C_alloc ?_ _) | (with_reducible refine Kd.C_drewN ?_ _) | (with_reducible refine Kd.C_drew ?_))); (case side2 => exact HC0.out); (case side3 => repeat (first | exact HR1.out | (with_reducible refine Kd.C_alloc ?_ _) | (with_reducible refine Kd.C_drewN ?_ _) | (with_reducible refine Kd.C_drew ?_))); (case side4 => exact HC1.out); rintro e w' ⟨rfl, ⟨nd, rfl⟩⟩))
    go_ret
    exact ⟨by first | rfl | (simp; done) | (simp [*]; done), by repeat (first | exact Drawn0.refl _ | apply Drawn0.step)⟩
  · replace c4 := Bool.eq_false_iff.mpr c4
    subst c4
    have H1 : (some false) = some r := by rw [if_neg (show ¬ (false = true) by decide)] at H; exact H
    clear H
    have H := H1
    clear H1
    obtain rfl := Option.some.inj H
    go_enter Try.func33, Try.ntmps33
    go_wp2_with (first | ((with_reducible refine gate_callee (f := 25) rfl ?_); refine goesL_ (some 7) rfl rfl Try.func25 (by kernel_rfl) rfl #[.slice A0 l0.length c0, .slice A1 l1.length c1, .int .i64 12, .int .i64 20] rfl (by (try simp only [List.map_toArray, List.map_cons, List.map_nil]); first | done | rfl | (simp only [List.length_drop, List.length_take]; rfl)) ?_; (with_reducible refine (swarfref30_Small.calls k _ _ l0 _ _ l1 12 20 false _ ?side1 ?side2 ?side3 ?side4 A3.out).mono ?_); (case side1 => repeat (first | exact HR0.out | (with_reducible refine Kd.C_alloc ?_ _) | (with_reducible refine Kd.C_drewN ?_ _) | (with_reducible refine Kd.C_drew ?_))); (case side2 => exact HC0.out); (case side3 => repeat (first | exact HR1.out | (with_reducible refine Kd.C_alloc ?_ _) | (with_reducible refine Kd.C_drewN ?_ _) | (with_reducible refine Kd.C_drew ?_))); (case side4 => exact HC1.out); rintro e w' ⟨rfl, ⟨nd, rfl⟩⟩; refine ⟨_, rfl, ?_⟩))
    go_ret
    exact ⟨by first | rfl | (simp; done) | (simp [*]; done), by repeat (first | exact Drawn0.refl _ | apply Drawn0.step)⟩

/-! ### swarfref30_pieces: function 73 -/
def swarfref30_pieces.f (l0 : List (List Bool)) : Option (Int) := if (l0.length : Int) = 0 then (some 0) else (if 0 < (l0.length : Int) then (some ((rd_L1 l0 0).length : Int)) else (none))
set_option maxHeartbeats 8000000 in
set_option maxRecDepth 100000 in
theorem swarfref30_pieces.calls (A0 : Option Addr) (c0 : Nat) (l0 : List (List Bool)) (r : Int) (w : World) (hr0 : Kd.C (Kd.slice 4 Kd.bool) w A0 l0.length l0) (hc0 : l0.length ≤ c0) (h : swarfref30_pieces.f l0 = some r) :
    Calls Try.prog 73 #[.slice A0 l0.length c0] w fun e w' => e = .returned (.int .i64 r) ∧ Drawn0 w w' := by
  have HR0 := Aside0.mk hr0
  have HC0 := Aside0.mk hc0
  clear hr0 hc0
  have H : (if (l0.length : Int) = 0 then (some 0) else (if 0 < (l0.length : Int) then (some ((rd_L1 l0 0).length : Int)) else (none))) = some r := h
  clear h
  by_cases c2 : (l0.length : Int) = 0
  · rw [if_pos c2] at H
    have c2b0 : ((l0.length : Int) == 0) = true := beq_iff_eq.mpr c2
    have c2b1 : ((l0.length : Int) != 0) = false := bne_eq_false_iff_eq.mpr c2
    clear c2
    obtain rfl := Option.some.inj H
    go_enter Try.func73, Try.ntmps73
    go_wp2
    go_ret
    exact ⟨by first | rfl | (simp; done) | (simp [*]; done), by repeat (first | exact Drawn0.refl _ | apply Drawn0.step)⟩
  · rw [if_neg c2] at H
    have c2b0 : ((l0.length : Int) == 0) = false := beq_eq_false_iff_ne.mpr c2
    have c2b1 : ((l0.length : Int) != 0) = true := bne_iff_ne.mpr c2
    have c2b2 : ¬ (l0 = []) := fun h_ => c2 (by rw [h_]; rfl)
    by_cases c3 : 0 < (l0.length : Int)
    · rw [if_pos c3] at H
      have c3b0 : decide (0 < (l0.length : Int)) = true := decide_eq_true c3
      have c3b1 : decide (0 < l0.length) = true := decide_eq_true (by omega)
      clear c3
      obtain rfl := Option.some.inj H
      have p271 : 0 ≤ (0 : Int) := (by omega)
      have q271 : 0 < (l0.length : Int) := of_decide_eq_true (by first | (with_reducible assumption) | assumption)
      obtain ⟨ad271, A271_0, c271_0, e271, hx271_0, hl271_0, hi271_0⟩ := at_L1 HR0.out 0 p271 q271
      cases e271
      have qi271 : (0 < l0.length) = True := eq_true (by omega)
      (try rw [show ((0 : Int)).toNat = 0 from rfl] at hx271_0)
      (try rw [Addr.add_zero'] at hx271_0)
      have HR271_0 := Aside0.mk hi271_0
      have HC271_0 := Aside0.mk hl271_0
      clear hi271_0 hl271_0
      replace p271 := eq_true p271
      replace q271 := eq_true q271
      go_enter Try.func73, Try.ntmps73
      go_wp2
      go_ret
      exact ⟨by first | rfl | (simp; done) | (simp [*]; done), by repeat (first | exact Drawn0.refl _ | apply Drawn0.step)⟩
    · rw [if_neg c3] at H
      exact absurd H (by simp)

/-! ### swarfref30_reached: function 75 -/
def swarfref30_reached.l0 : Nat → List (List Bool) → List Int → Int → Int → Option (Bool)
  | 0, _, _, _, _ => none
  | k + 1, x0, x1, x2, x7 => if x7 < (x1.length : Int) then (if 0 ≤ x7 then (if 0 ≤ (rd x1 x7) then (if (rd x1 x7) < (x0.length : Int) then (if 0 ≤ x2 then (if x2 < ((rd_L1 x0 (rd x1 x7)).length : Int) then (if rdOf false (rd_L1 x0 (rd x1 x7)) x2 = true then (some true) else (swarfref30_reached.l0 k x0 x1 x2 (wrap64 (x7 + 1)))) else (none)) else (none)) else (none)) else (none)) else (none)) else (some false)
def swarfref30_reached.f (k : Nat) (l0 : List (List Bool)) (l1 : List Int) (a2 : Int) : Option (Bool) := swarfref30_reached.l0 k l0 l1 a2 0
theorem swarfref30_reached.mono_l : ∀ k, (∀ y0 y1 y2 y3, LeO (swarfref30_reached.l0 k y0 y1 y2 y3) (swarfref30_reached.l0 (k + 1) y0 y1 y2 y3))
  | 0 => fun _ _ _ _ r h => by simp [swarfref30_reached.l0] at h
  | k + 1 => by
    have ih0 := swarfref30_reached.mono_l k
    · intro y0 y1 y2 y3
      unfold swarfref30_reached.l0
      repeat' first
      | (with_reducible exact ih0 _ _ _ _)
      | (with_reducible exact LeO.refl _)
      | (with_reducible exact LeO.none _)
      | (with_reducible refine LeO.ite ?_ ?_)
      | (with_reducible refine LeO.bind ?_ (fun _ => ?_))
      | exact ih0 _ _ _ _
      | exact LeO.none _
      | refine LeO.ite ?_ ?_
      | refine LeO.bind ?_ (fun _ => ?_)
theorem swarfref30_reached.mono : ∀ a0 a1 a2 k, LeO (swarfref30_reached.f k a0 a1 a2) (swarfref30_reached.f (k + 1) a0 a1 a2) := by
  intro a0 a1 a2 k
  have ih0 := swarfref30_reached.mono_l k
  unfold swarfref30_reached.f
  repeat' first
      | (with_reducible exact ih0 _ _ _ _)
      | (with_reducible exact LeO.refl _)
      | (with_reducible exact LeO.none _)
      | (with_reducible refine LeO.ite ?_ ?_)
      | (with_reducible refine LeO.bind ?_ (fun _ => ?_))
      | exact ih0 _ _ _ _
      | exact LeO.none _
      | refine LeO.ite ?_ ?_
      | refine LeO.bind ?_ (fun _ => ?_)
set_option maxHeartbeats 8000000 in
set_option maxRecDepth 100000 in
theorem swarfref30_reached.calls (k : Nat) (A0 : Option Addr) (c0 : Nat) (l0 : List (List Bool)) (A1 : Option Addr) (c1 : Nat) (l1 : List Int) (a2 : Int) (r : Bool) (w : World) (hr0 : Kd.C (Kd.slice 4 Kd.bool) w A0 l0.length l0) (hc0 : l0.length ≤ c0) (hr1 : Kd.C (Kd.int .i64) w A1 l1.length l1) (hc1 : l1.length ≤ c1) (h : swarfref30_reached.f k l0 l1 a2 = some r) :
    Calls Try.prog 75 #[.slice A0 l0.length c0, .slice A1 l1.length c1, .int .i64 a2] w fun e w' => e = .returned (.bool r) ∧ Drawn0 w w' := by
  have HR0 := Aside0.mk hr0
  have HC0 := Aside0.mk hc0
  clear hr0 hc0
  have HR1 := Aside0.mk hr1
  have HC1 := Aside0.mk hc1
  clear hr1 hc1
  have H : (swarfref30_reached.l0 k l0 l1 a2 0) = some r := h
  clear h
  have H' := Aside0.mk H
  clear H
  go_enter Try.func75, Try.ntmps75
  go_wp2
  go_loopg [7] k (fun kq v7 w' => ∃ (x7_1 : Int), v7 = .int .i64 x7_1 ∧ Aside0 (swarfref30_reached.l0 kq l0 l1 a2 x7_1 = some r) ∧ Aside0 (kq ≤ k) ∧ Drawn0 w w')
  case atStart => exact ⟨(0), (by first | rfl | (simp; done) | (simp [*]; done)), H', ⟨Nat.le_refl _⟩, by repeat (first | exact Drawn0.refl _ | apply Drawn0.step)⟩
  case round =>
    clear H'
    try clear c1
    try clear p2
    obtain ⟨x7_1, rfl, HA, HK1, ⟨m1, rfl⟩⟩ := hrel
    cases gk with
    | zero => exact absurd HA.out (by simp [swarfref30_reached.l0])
    | succ k1 =>
      have H := HA.out
      clear HA
      simp only [swarfref30_reached.l0] at H
      by_cases c4 : x7_1 < (l1.length : Int)
      · rw [if_pos c4] at H
        have c4b0 : decide (x7_1 < (l1.length : Int)) = true := decide_eq_true c4
        clear c4
        by_cases c5 : 0 ≤ x7_1
        · rw [if_pos c5] at H
          have c5b0 : decide (0 ≤ x7_1) = true := decide_eq_true c5
          clear c5
          by_cases c6 : 0 ≤ (rd l1 x7_1)
          · rw [if_pos c6] at H
            have c6b0 : decide (0 ≤ (rd l1 x7_1)) = true := decide_eq_true c6
            clear c6
            by_cases c7 : (rd l1 x7_1) < (l0.length : Int)
            · rw [if_pos c7] at H
              have c7b0 : decide ((rd l1 x7_1) < (l0.length : Int)) = true := decide_eq_true c7
              clear c7
              by_cases c8 : 0 ≤ a2
              · rw [if_pos c8] at H
                have c8b0 : decide (0 ≤ a2) = true := decide_eq_true c8
                clear c8
                by_cases c9 : a2 < ((rd_L1 l0 (rd l1 x7_1)).length : Int)
                · rw [if_pos c9] at H
                  have c9b0 : decide (a2 < ((rd_L1 l0 (rd l1 x7_1)).length : Int)) = true := decide_eq_true c9
                  clear c9
                  obtain ⟨bq10, hbq10⟩ : ∃ b_ : Bool, b_ = (rdOf false (rd_L1 l0 (rd l1 x7_1)) a2) := ⟨_, rfl⟩
                  replace H : (if bq10 = true then (some true) else (swarfref30_reached.l0 k1 l0 l1 a2 (wrap64 (x7_1 + 1)))) = some r := by rw [← hbq10] at H; exact H
                  have Nbq10 := Aside0.mk hbq10
                  clear hbq10
                  by_cases c11 : bq10 = true
                  · subst c11
                    have H1 : (some true) = some r := by rw [if_pos rfl] at H; exact H
                    clear H
                    have H := H1
                    clear H1
                    obtain rfl := Option.some.inj H
                    have p272 : 0 ≤ (x7_1 : Int) := of_decide_eq_true (by first | (with_reducible assumption) | assumption)
                    have q272 : x7_1 < (l1.length : Int) := of_decide_eq_true (by first | (with_reducible assumption) | assumption)
                    obtain ⟨ad272, e272, hx272_0⟩ := Kd.at_int HR1.out x7_1 p272 q272
                    cases e272
                    replace p272 := eq_true p272
                    replace q272 := eq_true q272
                    have p273 : 0 ≤ ((rd l1 x7_1) : Int) := of_decide_eq_true (by first | (with_reducible assumption) | assumption)
                    have q273 : (rd l1 x7_1) < (l0.length : Int) := of_decide_eq_true (by first | (with_reducible assumption) | assumption)
                    obtain ⟨ad273, A273_0, c273_0, e273, hx273_0, hl273_0, hi273_0⟩ := at_L1 HR0.out (rd l1 x7_1) p273 q273
                    cases e273
                    have HR273_0 := Aside0.mk hi273_0
                    have HC273_0 := Aside0.mk hl273_0
                    clear hi273_0 hl273_0
                    replace p273 := eq_true p273
                    replace q273 := eq_true q273
                    have p274 : 0 ≤ (a2 : Int) := of_decide_eq_true (by first | (with_reducible assumption) | assumption)
                    have q274 : a2 < ((rd_L1 l0 (rd l1 x7_1)).length : Int) := of_decide_eq_true (by first | (with_reducible assumption) | assumption)
                    obtain ⟨ad274, e274, hx274_0⟩ := Kd.at_bool HR273_0.out a2 p274 q274
                    (try rw [← Nbq10.out] at hx274_0)
                    cases e274
                    replace p274 := eq_true p274
                    replace q274 := eq_true q274
                    go_wp2
                    go_ret
                    exact ⟨by first | rfl | (simp; done) | (simp [*]; done), by repeat (first | exact Drawn0.refl _ | apply Drawn0.step)⟩
                  · replace c11 := Bool.eq_false_iff.mpr c11
                    subst c11
                    have H1 : (swarfref30_reached.l0 k1 l0 l1 a2 (wrap64 (x7_1 + 1))) = some r := by rw [if_neg (show ¬ (false = true) by decide)] at H; exact H
                    clear H
                    have H := H1
                    clear H1
                    have H' := Aside0.mk H
                    clear H
                    have p272 : 0 ≤ (x7_1 : Int) := of_decide_eq_true (by first | (with_reducible assumption) | assumption)
                    have q272 : x7_1 < (l1.length : Int) := of_decide_eq_true (by first | (with_reducible assumption) | assumption)
                    obtain ⟨ad272, e272, hx272_0⟩ := Kd.at_int HR1.out x7_1 p272 q272
                    cases e272
                    replace p272 := eq_true p272
                    replace q272 := eq_true q272
                    have p273 : 0 ≤ ((rd l1 x7_1) : Int) := of_decide_eq_true (by first | (with_reducible assumption) | assumption)
                    have q273 : (rd l1 x7_1) < (l0.length : Int) := of_decide_eq_true (by first | (with_reducible assumption) | assumption)
                    obtain ⟨ad273, A273_0, c273_0, e273, hx273_0, hl273_0, hi273_0⟩ := at_L1 HR0.out (rd l1 x7_1) p273 q273
                    cases e273
                    have HR273_0 := Aside0.mk hi273_0
                    have HC273_0 := Aside0.mk hl273_0
                    clear hi273_0 hl273_0
                    replace p273 := eq_true p273
                    replace q273 := eq_true q273
                    have p274 : 0 ≤ (a2 : Int) := of_decide_eq_true (by first | (with_reducible assumption) | assumption)
                    have q274 : a2 < ((rd_L1 l0 (rd l1 x7_1)).length : Int) := of_decide_eq_true (by first | (with_reducible assumption) | assumption)
                    obtain ⟨ad274, e274, hx274_0⟩ := Kd.at_bool HR273_0.out a2 p274 q274
                    (try rw [← Nbq10.out] at hx274_0)
                    cases e274
                    replace p274 := eq_true p274
                    replace q274 := eq_true q274
                    go_wp2
                    go_roundg k1
                    case measure => have := HK1.out; omega
                    case rel => exact ⟨(wrap64 (x7_1 + 1)), (by first | rfl | (simp; done) | (simp [*]; done)), H', ⟨by have := HK1.out; omega⟩, by repeat (first | exact Drawn0.refl _ | apply Drawn0.step)⟩
                · rw [if_neg c9] at H
                  exact absurd H (by simp)
              · rw [if_neg c8] at H
                exact absurd H (by simp)
            · rw [if_neg c7] at H
              exact absurd H (by simp)
          · rw [if_neg c6] at H
            exact absurd H (by simp)
        · rw [if_neg c5] at H
          exact absurd H (by simp)
      · rw [if_neg c4] at H
        have c4b0 : decide (x7_1 < (l1.length : Int)) = false := decide_eq_false c4
        clear c4
        obtain rfl := Option.some.inj H
        go_wp2
        go_ret
        exact ⟨by first | rfl | (simp; done) | (simp [*]; done), by repeat (first | exact Drawn0.refl _ | apply Drawn0.step)⟩

end Go.Proofs.Ytcaefoljlmdjaaa.CH
