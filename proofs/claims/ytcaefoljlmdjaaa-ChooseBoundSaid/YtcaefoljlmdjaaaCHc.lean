-- printed for this seat by a program
import Derived.Test.YtcaefoljlmdjaaaCHx0
import Derived.Test.YtcaefoljlmdjaaaCHx8
import Derived.Test.YtcaefoljlmdjaaaCHx9
namespace Go.Proofs.Ytcaefoljlmdjaaa.CH
open Go.RowKit Go.Proofs.YtcaefoljlmdjaaaW.PrintWords Go.Proofs.YtcaefoljlmdjaaaW.PrintLast Go.Proofs.YtcaefoljlmdjaaaW.PrintMore
attribute [local go_sem] max2_int min2_int max_two min_two max_three min_three max_four min_four   -- for this text's walks alone
set_option linter.unusedVariables false
set_option linter.unusedSimpArgs false
def swarfref30_Cost.l0 : Nat → List Int → List Int → Int → Int → Option (Int)
  | 0, _, _, _, _ => none
  | k + 1, x0, x1, x5, x6 => if x6 < (x1.length : Int) then (if 0 ≤ x6 then (if 0 ≤ (rd x1 x6) then (if (rd x1 x6) < (x0.length : Int) then (swarfref30_Cost.l0 k x0 x1 (wrap64 (x5 + (rd x0 (rd x1 x6)))) (wrap64 (x6 + 1))) else (none)) else (none)) else (none)) else (some x5)
def swarfref30_Cost.f (k : Nat) (l0 : List Int) (l1 : List Int) : Option (Int) := swarfref30_Cost.l0 k l0 l1 0 0
theorem swarfref30_Cost.mono_l : ∀ k, (∀ y0 y1 y2 y3, LeO (swarfref30_Cost.l0 k y0 y1 y2 y3) (swarfref30_Cost.l0 (k + 1) y0 y1 y2 y3))
  | 0 => fun _ _ _ _ r h => by simp [swarfref30_Cost.l0] at h
  | k + 1 => by
    have ih0 := swarfref30_Cost.mono_l k
    · intro y0 y1 y2 y3
      unfold swarfref30_Cost.l0
      repeat' first
      | (with_reducible exact ih0 _ _ _ _)
      | (with_reducible exact LeO.refl _)
      | (with_reducible exact LeO.none _)
      | (with_reducible refine LeO.ite ?_ ?_)
      | (with_reducible refine LeO.bind ?_ (fun _ => ?_))
      | exact ih0 _ _ _ _
      | exact LeO.none _
      | refine LeO.ite ?_ ?_
      | refine LeO.bind ?_ (fun _ => ?_)
theorem swarfref30_Cost.mono : ∀ a0 a1 k, LeO (swarfref30_Cost.f k a0 a1) (swarfref30_Cost.f (k + 1) a0 a1) := by
  intro a0 a1 k
  have ih0 := swarfref30_Cost.mono_l k
  unfold swarfref30_Cost.f
  repeat' first
      | (with_reducible exact ih0 _ _ _ _)
      | (with_reducible exact LeO.refl _)
      | (with_reducible exact LeO.none _)
      | (with_reducible refine LeO.ite ?_ ?_)
      | (with_reducible refine LeO.bind ?_ (fun _ => ?_))
      | exact ih0 _ _ _ _
      | exact LeO.none _
      | refine LeO.ite ?_ ?_
      | refine LeO.bind ?_ (fun _ => ?_)
set_option maxHeartbeats 8000000 in
set_option maxRecDepth 100000 in
theorem swarfref30_Cost.calls (k : Nat) (A0 : Option Addr) (c0 : Nat) (l0 : List Int) (A1 : Option Addr) (c1 : Nat) (l1 : List Int) (r : Int) (w : World) (hr0 : Kd.C (Kd.int .i64) w A0 l0.length l0) (hc0 : l0.length ≤ c0) (hr1 : Kd.C (Kd.int .i64) w A1 l1.length l1) (hc1 : l1.length ≤ c1) (h : swarfref30_Cost.f k l0 l1 = some r) :
    Calls Try.prog 40 #[.slice A0 l0.length c0, .slice A1 l1.length c1] w fun e w' => e = .returned (.int .i64 r) ∧ Drawn0 w w' := by
  have HR0 := Aside0.mk hr0
  have HC0 := Aside0.mk hc0
  clear hr0 hc0
  have HR1 := Aside0.mk hr1
  have HC1 := Aside0.mk hc1
  clear hr1 hc1
  have H : (swarfref30_Cost.l0 k l0 l1 0 0) = some r := h
  clear h
  have H' := Aside0.mk H
  clear H
  go_enter Try.func40, Try.ntmps40
  go_wp2
  go_loopg [5, 6] k (fun kq v5 v6 w' => ∃ (x5_1 : Int) (x6_1 : Int), v5 = .int .i64 x5_1 ∧ v6 = .int .i64 x6_1 ∧ Aside0 (swarfref30_Cost.l0 kq l0 l1 x5_1 x6_1 = some r) ∧ Aside0 (kq ≤ k) ∧ Drawn0 w w')
  case atStart => exact ⟨(0), (0), (by first | rfl | (simp; done) | (simp [*]; done)), (by first | rfl | (simp; done) | (simp [*]; done)), H', ⟨Nat.le_refl _⟩, by repeat (first | exact Drawn0.refl _ | apply Drawn0.step)⟩
  case round =>
    clear H'
    try clear c1
    try clear p2
    obtain ⟨x5_1, x6_1, rfl, rfl, HA, HK1, ⟨m1, rfl⟩⟩ := hrel
    cases gk with
    | zero => exact absurd HA.out (by simp [swarfref30_Cost.l0])
    | succ k1 =>
      have H := HA.out
      clear HA
      simp only [swarfref30_Cost.l0] at H
      by_cases c3 : x6_1 < (l1.length : Int)
      · rw [if_pos c3] at H
        have c3b0 : decide (x6_1 < (l1.length : Int)) = true := decide_eq_true c3
        clear c3
        by_cases c4 : 0 ≤ x6_1
        · rw [if_pos c4] at H
          have c4b0 : decide (0 ≤ x6_1) = true := decide_eq_true c4
          clear c4
          by_cases c5 : 0 ≤ (rd l1 x6_1)
          · rw [if_pos c5] at H
            have c5b0 : decide (0 ≤ (rd l1 x6_1)) = true := decide_eq_true c5
            clear c5
            by_cases c6 : (rd l1 x6_1) < (l0.length : Int)
            · rw [if_pos c6] at H
              have c6b0 : decide ((rd l1 x6_1) < (l0.length : Int)) = true := decide_eq_true c6
              clear c6
              have H' := Aside0.mk H
              clear H
              have p316 : 0 ≤ (x6_1 : Int) := of_decide_eq_true (by first | (with_reducible assumption) | assumption)
              have q316 : x6_1 < (l1.length : Int) := of_decide_eq_true (by first | (with_reducible assumption) | assumption)
              obtain ⟨ad316, e316, hx316_0⟩ := Kd.at_int HR1.out x6_1 p316 q316
              cases e316
              replace p316 := eq_true p316
              replace q316 := eq_true q316
              have p317 : 0 ≤ ((rd l1 x6_1) : Int) := of_decide_eq_true (by first | (with_reducible assumption) | assumption)
              have q317 : (rd l1 x6_1) < (l0.length : Int) := of_decide_eq_true (by first | (with_reducible assumption) | assumption)
              obtain ⟨ad317, e317, hx317_0⟩ := Kd.at_int HR0.out (rd l1 x6_1) p317 q317
              cases e317
              replace p317 := eq_true p317
              replace q317 := eq_true q317
              go_wp2
              go_roundg k1
              case measure => have := HK1.out; omega
              case rel => exact ⟨(wrap64 (x5_1 + (rd l0 (rd l1 x6_1)))), (wrap64 (x6_1 + 1)), (by first | rfl | (simp; done) | (simp [*]; done)), (by first | rfl | (simp; done) | (simp [*]; done)), H', ⟨by have := HK1.out; omega⟩, by repeat (first | exact Drawn0.refl _ | apply Drawn0.step)⟩
            · rw [if_neg c6] at H
              exact absurd H (by simp)
          · rw [if_neg c5] at H
            exact absurd H (by simp)
        · rw [if_neg c4] at H
          exact absurd H (by simp)
      · rw [if_neg c3] at H
        have c3b0 : decide (x6_1 < (l1.length : Int)) = false := decide_eq_false c3
        clear c3
        obtain rfl := Option.some.inj H
        go_wp2
        go_ret
        exact ⟨by first | rfl | (simp; done) | (simp [*]; done), by repeat (first | exact Drawn0.refl _ | apply Drawn0.step)⟩

end Go.Proofs.Ytcaefoljlmdjaaa.CH
