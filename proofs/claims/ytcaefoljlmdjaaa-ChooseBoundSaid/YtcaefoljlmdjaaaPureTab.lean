/- A table that Valid takes, in plain lists. -/
import Derived.Test.YtcaefoljlmdjaaaPureCoverable
namespace Go.Proofs.Ytcaefoljlmdjaaa.Pure
open Go.RowKit Go.Proofs.Ytcaefoljlmdjaaa.CH Go.Proofs.YtcaefoljlmdjaaaW.PrintWords Go.Proofs.YtcaefoljlmdjaaaW.PrintLast
set_option linter.unusedVariables false
set_option linter.unusedSimpArgs false
/-- what Valid says of a table that it takes -/
structure Good (T : List (List Bool)) (cost : List Int) (a b : Int) (P : Nat) : Prop where
  tab : Tab T P
  n : (T.length : Int) ≤ a
  p : (P : Int) ≤ b
  len : cost.length = T.length
  c0 : ∀ t : Nat, t < T.length → 0 ≤ rd cost (t : Int)
  c1 : ∀ t : Nat, t < T.length → rd cost (t : Int) ≤ 2147483648
theorem valid_good {l0 : List (List Bool)} {l1 : List Int} {a b : Int} (ha : a ≤ 1000) (hb : b ≤ 1000) (hb0 : 0 ≤ b) {k : Nat} (hv : swarfref30_Valid.f k l0 l1 a b = some 0) : ∃ P, Good l0 l1 a b P := by
  rw [← valid_eq, choose_valid.f] at hv
  by_cases hn : (l0.length : Int) > a
  · rw [if_pos hn] at hv
    cases hv
  · rw [if_neg hn] at hv
    rcases valid_l0 (by omega) k 0 hv (fun j h0 h1 => by omega) (Nat.zero_le _) with ⟨_, h3⟩ | ⟨h2, h3⟩
    · cases h3
    · rcases h3 with ⟨hl, k', hk⟩ | ⟨_, h3⟩
      · rcases valid_l1 (by omega) hl k' 0 hk (Nat.zero_le _) with ⟨_, h4⟩ | ⟨hb, _⟩
        · cases h4
        · have hB : ∀ t : Nat, t < l0.length → (rd_L1 l0 (t : Int)).length = (rd_L1 l0 0).length ∧ 0 ≤ rd l1 (t : Int) ∧ rd l1 (t : Int) ≤ 2147483648 := fun t ht => by
            have h5 := hb (t : Int) (by omega) (by omega)
            unfold Bad at h5
            omega
          refine ⟨if l0.length = 0 then 0 else (rd_L1 l0 0).length, ⟨by omega, ?_, ?_, ?_⟩, by omega, ?_, hl, fun t ht => (hB t ht).2.1, fun t ht => (hB t ht).2.2⟩
          · split
            · omega
            · have := h2 0 (by omega) (by omega); omega
          · intro t ht
            rw [if_neg (by omega)]
            exact (hB t ht).1
          · intro h6
            rw [if_pos h6]
          · split
            · omega
            · have := h2 0 (by omega) (by omega); omega
      · cases h3
/-- Valid's answer, on both sides -/
theorem vals_ev (l0 : List (List Bool)) (n0 : l0.length ≤ 9223372036854775807) (l1 : List Int) (a b : Int) : ∃ v, Ev (fun k => swarfref30_Valid.f k l0 l1 a b) v ∧ Ev (fun k => choose_valid.f k l0 l1 a b) v := by
  obtain ⟨v, hv⟩ := refValid l0 n0 l1 a b (2 * l0.length + 130) (by omega)
  have h : Ev (fun k => swarfref30_Valid.f k l0 l1 a b) v := Ev.of (fun k => swarfref30_Valid.mono _ _ _ _ _) hv
  exact ⟨v, h, Ev.congr (fun k => valid_eq k l0 l1 a b) h⟩
theorem at2_row {T : List (List Bool)} (t p : Nat) : rdOf false (rd_L1 T (t : Int)) (p : Int) = at2 T t p := by rw [rdOf_nat]; rfl
end Go.Proofs.Ytcaefoljlmdjaaa.Pure
