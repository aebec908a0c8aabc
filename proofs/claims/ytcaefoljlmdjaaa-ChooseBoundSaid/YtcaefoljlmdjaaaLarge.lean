/- choose.large: the function behind a function value. -/
import Derived.Test.YtcaefoljlmdjaaaCHx0
namespace Go.Proofs.Ytcaefoljlmdjaaa.CH
open Go.RowKit Go.Proofs.YtcaefoljlmdjaaaW.PrintWords Go.Proofs.YtcaefoljlmdjaaaW.PrintLast Go.Proofs.YtcaefoljlmdjaaaW.PrintMore
set_option linter.unusedVariables false
set_option linter.unusedSimpArgs false
set_option maxHeartbeats 1000000 in
theorem index_calls (w : World) (A0 : Option Addr) (c0 : Nat) (l0 : List (List Bool)) (hr0 : Kd.C (Kd.slice 4 Kd.bool) w A0 l0.length l0) (hc0 : l0.length ≤ c0) (p : Addr) (a3 : Int) (hp : w.cell? p = some (.int .i64 a3)) :
    Calls Try.prog 106 #[.slice A0 l0.length c0, .func (.func 87) #[] #[.pointer (some p)]] w fun e w' => ∃ i : Int, e = .returned (.int .i64 i) ∧ Below w.heap.size w w' ∧ ((i = -1 ∧ ∀ j : Int, 0 ≤ j → j < l0.length → ((rd_L1 l0 j).length : Int) ≤ a3) ∨ (0 ≤ i ∧ i < l0.length ∧ ((rd_L1 l0 i).length : Int) > a3)) := by
  have hmx := Kd.C_max hr0
  go_enter Try.func106, Try.ntmps106
  go_wp2
  go_loop [8] (fun s => ∃ m : Nat, m ≤ l0.length ∧ s = .int .i64 m ∧ ∀ j : Int, 0 ≤ j → j < m → ((rd_L1 l0 j).length : Int) ≤ a3) (fun s => l0.length - (intOf s).toNat)
  case atStart => exact ⟨0, Nat.zero_le _, rfl, fun j _ _ => by omega⟩
  case round =>
    obtain ⟨m, hm, rfl, hall⟩ := hrel
    by_cases hlt : m < l0.length
    · obtain ⟨ad, A1, c1, rfl, hc, hr1, hc1⟩ := at_L1 hr0 (m : Int) (by omega) (by omega)
      have hc' : w.cell? (ad.add m) = some (.slice A1 (rd_L1 l0 m).length c1) := by rw [Int.toNat_natCast] at hc; exact hc
      by_cases hgt : a3 < ((rd_L1 l0 m).length : Int)
      · go_wp2
        go_ret
        exact ⟨_, rfl, by repeat (first | exact Below.refl _ _ | apply below_alloc | apply pw_below_drewN | apply below_drew1), .inr ⟨by omega, by omega, hgt⟩⟩
      · go_wp2
        go_round
        case rel => exact ⟨m + 1, by omega, rfl, fun j h0 h1 => by
          by_cases e : j = m
          · rw [e]; omega
          · exact hall j h0 (by omega)⟩
        case measure => simp only [intOf]; omega
    · obtain rfl : m = l0.length := by omega
      go_wp2
      go_ret
      exact ⟨_, rfl, by repeat (first | exact Below.refl _ _ | apply below_alloc | apply pw_below_drewN | apply below_drew1), .inl ⟨rfl, hall⟩⟩
set_option maxHeartbeats 1000000 in
theorem contains_calls (w : World) (A0 : Option Addr) (c0 : Nat) (l0 : List (List Bool)) (hr0 : Kd.C (Kd.slice 4 Kd.bool) w A0 l0.length l0) (hc0 : l0.length ≤ c0) (p : Addr) (a3 : Int) (hp : w.cell? p = some (.int .i64 a3)) :
    Calls Try.prog 86 #[.slice A0 l0.length c0, .func (.func 87) #[] #[.pointer (some p)]] w fun e w' => ∃ b : Bool, e = .returned (.bool b) ∧ Below w.heap.size w w' ∧ (b = true ↔ ∃ j : Int, 0 ≤ j ∧ j < l0.length ∧ ((rd_L1 l0 j).length : Int) > a3) := by
  go_enter Try.func86, Try.ntmps86
  go_wp2_with fail
  refine (index_calls _ _ _ l0 (by exact hr0) hc0 p a3 (by exact hp)).mono ?_
  rintro e w1 ⟨i, rfl, hb, hi⟩
  have hB : Below w.heap.size w w1 := hb
  go_wp2_with fail
  go_ret
  refine ⟨_, rfl, by repeat (first | exact hB | apply below_alloc | apply pw_below_drewN | apply below_drew1), ?_⟩
  rcases hi with ⟨rfl, hn⟩ | ⟨h0, h1, h2⟩
  · constructor
    · intro h; simp at h
    · rintro ⟨j, h0, h1, h2⟩; have := hn j h0 h1; omega
  · exact ⟨fun _ => ⟨i, h0, h1, h2⟩, fun _ => by simpa using h0⟩
set_option maxHeartbeats 1000000 in
theorem large_calls (w : World) (A0 : Option Addr) (c0 : Nat) (l0 : List (List Bool)) (hr0 : Kd.C (Kd.slice 4 Kd.bool) w A0 l0.length l0) (hc0 : l0.length ≤ c0) (a2 a3 : Int) :
    Calls Try.prog 80 #[.slice A0 l0.length c0, .int .i64 a2, .int .i64 a3] w fun e w' => ∃ b : Bool, e = .returned (.bool b) ∧ Below w.heap.size w w' ∧ (b = true ↔ (l0.length : Int) > a2 ∨ ∃ j : Int, 0 ≤ j ∧ j < l0.length ∧ ((rd_L1 l0 j).length : Int) > a3) := by
  by_cases h : a2 < (l0.length : Int)
  · go_enter Try.func80, Try.ntmps80
    go_wp2_with fail
    refine bodyPost_ret (v := .bool true) (by simp [results, Try.results80, go_sem]) rfl ?_
    exact ⟨true, rfl, by repeat (first | exact Below.refl _ _ | apply below_alloc | apply pw_below_drewN | apply below_drew1), by simp; omega⟩
  · go_enter Try.func80, Try.ntmps80
    go_wp2_with fail
    have hcp : (w.alloc (Obj.cells #[Value.int IntKind.i64 a3] 3)).cell? ⟨w.heap.size, 0, none⟩ = some (.int .i64 a3) := by go_simp
    refine (contains_calls _ _ _ l0 (Kd.C_alloc hr0 _) hc0 _ a3 hcp).mono ?_
    rintro e w1 ⟨b, rfl, hb, hi⟩
    have hB : Below w.heap.size w w1 := below_step (below_alloc (Below.refl _ _) _) hb
    go_wp2_with fail
    go_ret
    refine ⟨_, rfl, by repeat (first | exact hB | apply below_alloc | apply pw_below_drewN | apply below_drew1), ?_⟩
    rw [hi]
    constructor
    · exact .inr
    · rintro (h1 | h1)
      · omega
      · exact h1
end Go.Proofs.Ytcaefoljlmdjaaa.CH
