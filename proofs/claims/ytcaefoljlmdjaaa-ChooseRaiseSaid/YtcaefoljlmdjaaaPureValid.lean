/- ChooseValid, in plain lists. -/
import Derived.Test.YtcaefoljlmdjaaaCHx9
namespace Go.Proofs.Ytcaefoljlmdjaaa.Pure
open Go.RowKit Go.Proofs.Ytcaefoljlmdjaaa.CH Go.Proofs.YtcaefoljlmdjaaaW.PrintWords Go.Proofs.YtcaefoljlmdjaaaW.PrintLast
set_option linter.unusedVariables false
set_option linter.unusedSimpArgs false
set_option maxRecDepth 100000 in
theorem awake : swarflaw30_awake.f 120 = some true := by decide +kernel
theorem awake_at (k : Nat) (h : 120 ≤ k) : swarflaw30_awake.f k = some true := by
  obtain ⟨n, rfl⟩ : ∃ n, k = 120 + n := ⟨k - 120, by omega⟩
  clear h
  induction n with
  | zero => exact awake
  | succ n ih => exact swarflaw30_awake.mono _ _ ih
theorem wrap_next {m : Nat} (h : m < 9223372036854775807) : wrap64 ((m : Int) + 1) = ((m + 1 : Nat) : Int) := by unfold wrap64; omega
theorem valid_l1_eq : ∀ k x0 x1 i, choose_valid.l1 k x0 x1 i = swarfref30_Valid.l1 k x0 x1 i
  | 0, _, _, _ => rfl
  | k + 1, x0, x1, i => by
    rw [choose_valid.l1, swarfref30_Valid.l1, valid_l1_eq k]
theorem valid_l0_eq : ∀ k x0 x1 x3 i, choose_valid.l0 k x0 x1 x3 i = swarfref30_Valid.l0 k x0 x1 x3 i
  | 0, _, _, _, _ => rfl
  | k + 1, x0, x1, x3, i => by
    rw [choose_valid.l0, swarfref30_Valid.l0, valid_l0_eq k, valid_l1_eq k]
theorem valid_eq (k : Nat) (l0 : List (List Bool)) (l1 : List Int) (a b : Int) : choose_valid.f k l0 l1 a b = swarfref30_Valid.f k l0 l1 a b := by
  rw [choose_valid.f, swarfref30_Valid.f, valid_l0_eq]
theorem refValid_l1 {x0 : List (List Bool)} {x1 : List Int} (hn : x0.length ≤ 9223372036854775807) (hl : x1.length = x0.length) : ∀ (d k m : Nat), x0.length - m ≤ d → d < k → m ≤ x0.length → ∃ r, swarfref30_Valid.l1 k x0 x1 m = some r
  | d, 0, m, _, h, _ => by omega
  | d, k + 1, m, h1, h2, h3 => by
    rw [swarfref30_Valid.l1]
    by_cases hlt : m < x0.length
    · rw [if_pos (by omega), if_pos (by omega), if_pos (by omega), wrap_next (by omega)]
      obtain ⟨r, hr⟩ := refValid_l1 hn hl (d - 1) k (m + 1) (by omega) (by omega) (by omega)
      rw [hr]
      split
      · rw [if_pos (by omega)]
        split
        · exact ⟨_, rfl⟩
        · split <;> exact ⟨_, rfl⟩
      · exact ⟨_, rfl⟩
    · rw [if_neg (by omega)]
      exact ⟨_, rfl⟩
theorem refValid_l0 {x0 : List (List Bool)} {x1 : List Int} {x3 : Int} (hn : x0.length ≤ 9223372036854775807) : ∀ (d k m : Nat), x0.length - m ≤ d → d + x0.length + 1 < k → m ≤ x0.length → ∃ r, swarfref30_Valid.l0 k x0 x1 x3 m = some r
  | d, 0, m, _, h, _ => by omega
  | d, k + 1, m, h1, h2, h3 => by
    rw [swarfref30_Valid.l0]
    by_cases hlt : m < x0.length
    · rw [if_pos (by omega), if_pos (by omega), wrap_next (by omega)]
      obtain ⟨r, hr⟩ := refValid_l0 (x1 := x1) (x3 := x3) hn (d - 1) k (m + 1) (by omega) (by omega) (by omega)
      rw [hr]
      split <;> exact ⟨_, rfl⟩
    · rw [if_neg (by omega)]
      split
      · exact refValid_l1 hn (by omega) x0.length k 0 (by omega) (by omega) (by omega)
      · exact ⟨_, rfl⟩
theorem refValid (l0 : List (List Bool)) (n0 : l0.length ≤ 9223372036854775807) (l1 : List Int) (a b : Int) (k : Nat) (hk : 2 * l0.length + 1 < k) : ∃ r, swarfref30_Valid.f k l0 l1 a b = some r := by
  rw [swarfref30_Valid.f]
  split
  · exact ⟨_, rfl⟩
  · exact refValid_l0 n0 l0.length k 0 (by omega) (by omega) (by omega)
theorem small_l0 {x0 : List (List Bool)} {x3 : Int} (hn : x0.length ≤ 9223372036854775807) : ∀ (d k m : Nat), x0.length - m ≤ d → d < k → m ≤ x0.length → ∃ r, swarfref30_Small.l0 k x0 x3 m = some r
  | d, 0, m, _, h, _ => by omega
  | d, k + 1, m, h1, h2, h3 => by
    rw [swarfref30_Small.l0]
    by_cases hlt : m < x0.length
    · rw [if_pos (by omega), if_pos (by omega), wrap_next (by omega)]
      obtain ⟨r, hr⟩ := small_l0 (x3 := x3) hn (d - 1) k (m + 1) (by omega) (by omega) (by omega)
      rw [hr]
      split <;> exact ⟨_, rfl⟩
    · rw [if_neg (by omega)]
      exact ⟨_, rfl⟩
theorem small (l0 : List (List Bool)) (n0 : l0.length ≤ 9223372036854775807) (l1 : List Int) (a b : Int) (k : Nat) (hk : l0.length + 1 < k) : ∃ r, swarfref30_Small.f k l0 l1 a b = some r := by
  have hj : ∀ c, ∃ r, swarfref30_Small.j0 k l0 b c = some r := fun c => by
    obtain ⟨k, rfl⟩ : ∃ j, k = j + 1 := ⟨k - 1, by omega⟩
    rw [swarfref30_Small.j0]
    split
    · exact ⟨_, rfl⟩
    · exact small_l0 n0 l0.length k 0 (by omega) (by omega) (by omega)
  rw [swarfref30_Small.f]
  split <;> exact hj _
end Go.Proofs.Ytcaefoljlmdjaaa.Pure
