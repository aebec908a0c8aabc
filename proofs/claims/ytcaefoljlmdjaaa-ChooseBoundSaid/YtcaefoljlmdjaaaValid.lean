/- choose.valid: the proof that its code comes to its printed answers. -/
import Derived.Test.YtcaefoljlmdjaaaCHx1
import Derived.Test.YtcaefoljlmdjaaaLarge
namespace Go.Proofs.Ytcaefoljlmdjaaa.CH
open Go.RowKit Go.Proofs.YtcaefoljlmdjaaaW.PrintWords Go.Proofs.YtcaefoljlmdjaaaW.PrintLast Go.Proofs.YtcaefoljlmdjaaaW.PrintMore
set_option linter.unusedVariables false
set_option linter.unusedSimpArgs false
theorem add0 (ad : Addr) : ad.add 0 = ad := by
  rcases ad with ⟨b, o, x⟩
  unfold Addr.add
  split <;> simp_all
theorem valid_l0 {x0 : List (List Bool)} {x1 : List Int} {x3 r : Int} (hn : x0.length ≤ 9223372036854775807) : ∀ (k : Nat) (m : Nat), choose_valid.l0 k x0 x1 x3 m = some r →
    (∀ j : Int, 0 ≤ j → j < m → ((rd_L1 x0 j).length : Int) ≤ x3) → m ≤ x0.length →
    ((∃ j : Int, 0 ≤ j ∧ j < x0.length ∧ ((rd_L1 x0 j).length : Int) > x3) ∧ r = 3) ∨ ((∀ j : Int, 0 ≤ j → j < x0.length → ((rd_L1 x0 j).length : Int) ≤ x3) ∧ ((x1.length = x0.length ∧ ∃ k', choose_valid.l1 k' x0 x1 0 = some r) ∨ (x1.length ≠ x0.length ∧ r = 1)))
  | 0, m, h, _, _ => by simp [choose_valid.l0] at h
  | k + 1, m, h, hall, hm => by
    rw [choose_valid.l0] at h
    by_cases hlt : m < x0.length
    · rw [if_pos (by omega), if_pos (by omega)] at h
      by_cases hgt : ((rd_L1 x0 m).length : Int) > x3
      · rw [if_pos hgt] at h
        exact .inl ⟨⟨m, by omega, by omega, hgt⟩, by simpa using h.symm⟩
      · rw [if_neg hgt, show wrap64 ((m : Int) + 1) = ((m + 1 : Nat) : Int) by unfold wrap64; omega] at h
        refine valid_l0 hn k (m + 1) h (fun j h0 h1 => ?_) (by omega)
        by_cases e : j = m
        · rw [e]; omega
        · exact hall j h0 (by omega)
    · rw [if_neg (by omega)] at h
      obtain rfl : m = x0.length := by omega
      refine .inr ⟨hall, ?_⟩
      by_cases e : x1.length = x0.length
      · rw [if_pos (by omega)] at h
        exact .inl ⟨e, k, h⟩
      · rw [if_neg (by omega)] at h
        exact .inr ⟨e, by simpa using h.symm⟩
/-- a tool's row that valid refuses -/
def Bad (x0 : List (List Bool)) (x1 : List Int) (t : Int) : Prop := (rd_L1 x0 t).length ≠ (rd_L1 x0 0).length ∨ rd x1 t < 0 ∨ rd x1 t > 2147483648
theorem valid_l1 {x0 : List (List Bool)} {x1 : List Int} {r : Int} (hn : x0.length ≤ 9223372036854775807) (hl : x1.length = x0.length) : ∀ (k : Nat) (m : Nat), choose_valid.l1 k x0 x1 m = some r →
    m ≤ x0.length → ((∃ t : Int, m ≤ t ∧ t < x0.length ∧ Bad x0 x1 t) ∧ r = 1) ∨ ((∀ t : Int, m ≤ t → t < x0.length → ¬ Bad x0 x1 t) ∧ r = 0)
  | 0, m, h, _ => by simp [choose_valid.l1] at h
  | k + 1, m, h, hm => by
    rw [choose_valid.l1] at h
    by_cases hlt : m < x0.length
    · rw [if_pos (by omega), if_pos (by omega), if_pos (by omega)] at h
      by_cases e1 : ((rd_L1 x0 m).length : Int) = ((rd_L1 x0 0).length : Int)
      · rw [if_pos e1, if_pos (by omega)] at h
        by_cases e2 : rd x1 m < 0
        · rw [if_pos e2] at h
          exact .inl ⟨⟨m, by omega, by omega, .inr (.inl e2)⟩, by simpa using h.symm⟩
        · rw [if_neg e2] at h
          by_cases e3 : rd x1 m > 2147483648
          · rw [if_pos e3] at h
            exact .inl ⟨⟨m, by omega, by omega, .inr (.inr e3)⟩, by simpa using h.symm⟩
          · rw [if_neg e3, show wrap64 ((m : Int) + 1) = ((m + 1 : Nat) : Int) by unfold wrap64; omega] at h
            rcases valid_l1 hn hl k (m + 1) h (by omega) with ⟨⟨t, h0, h1, h2⟩, h3⟩ | ⟨h2, h3⟩
            · exact .inl ⟨⟨t, by omega, h1, h2⟩, h3⟩
            · refine .inr ⟨fun t h0 h1 => ?_, h3⟩
              by_cases e : t = m
              · rw [e]
                rintro (h | h | h)
                · omega
                · exact e2 h
                · exact e3 h
              · exact h2 t (by omega) h1
      · rw [if_neg e1] at h
        exact .inl ⟨⟨m, by omega, by omega, .inl (by omega)⟩, by simpa using h.symm⟩
    · rw [if_neg (by omega)] at h
      exact .inr ⟨fun t h0 h1 => by omega, by simpa using h.symm⟩
set_option maxHeartbeats 2000000 in
set_option maxRecDepth 100000 in
theorem choose_valid.calls (k : Nat) (A0 : Option Addr) (c0 : Nat) (l0 : List (List Bool)) (A1 : Option Addr) (c1 : Nat) (l1 : List Int) (a2 : Int) (a3 : Int) (r : Int) (w : World) (hr0 : Kd.C (Kd.slice 4 Kd.bool) w A0 l0.length l0) (hc0 : l0.length ≤ c0) (hr1 : Kd.C (Kd.int .i64) w A1 l1.length l1) (hc1 : l1.length ≤ c1) (h : choose_valid.f k l0 l1 a2 a3 = some r) :
    Calls Try.prog 65 #[.slice A0 l0.length c0, .slice A1 l1.length c1, .int .i64 a2, .int .i64 a3] w fun e w' => e = .returned (.int .i64 r) ∧ Below w.heap.size w w' := by
  have hm0 := Kd.C_max hr0
  have hm1 := Kd.C_max hr1
  rw [choose_valid.f] at h
  go_enter Try.func65, Try.ntmps65
  go_wp2_with fail
  refine (large_calls _ _ _ l0 (by exact hr0) hc0 a2 a3).mono ?_
  rintro e w1 ⟨b, rfl, hb, hi⟩
  have hB : Below w.heap.size w w1 := hb
  have hr0' := Kd.C_below hr0 hB
  have hr1' := Kd.C_below hr1 hB
  rcases b with _ | _
  · have hno : ¬ ((l0.length : Int) > a2 ∨ ∃ j : Int, 0 ≤ j ∧ j < l0.length ∧ ((rd_L1 l0 j).length : Int) > a3) := fun hx => by simpa using hi.2 hx
    rw [if_neg (fun hx => hno (.inl hx))] at h
    have hv := valid_l0 hm0 k 0 h (fun j h0 h1 => by omega) (Nat.zero_le _)
    have hv2 : (l1.length = l0.length ∧ ∃ k', choose_valid.l1 k' l0 l1 0 = some r) ∨ (l1.length ≠ l0.length ∧ r = 1) := by
      rcases hv with ⟨hx, _⟩ | ⟨_, hx⟩
      · exact absurd (.inr hx) hno
      · exact hx
    clear hv h hi hno
    rcases hv2 with ⟨el, k', hk⟩ | ⟨el, rfl⟩
    · have hv := valid_l1 hm0 el k' 0 hk (Nat.zero_le _)
      have HV := Aside0.mk hv
      clear hv hk
      have HR0 := Aside0.mk hr0'
      have HR1 := Aside0.mk hr1'
      have hne : ((l0.length : Int) != (l1.length : Int)) = false := by simp [el]
      have EL := Aside0.mk el
      clear el
      go_wp2_with fail
      go_loop [22] (fun s => ∃ m : Nat, m ≤ l0.length ∧ s = .int .i64 m ∧ Aside0 (∀ t : Int, 0 ≤ t → t < m → ¬ Bad l0 l1 t)) (fun s => l0.length - (intOf s).toNat)
      case atStart => exact ⟨0, Nat.zero_le _, rfl, ⟨fun t h0 h1 => by omega⟩⟩
      case round =>
        obtain ⟨m, hm, rfl, hall⟩ := hrel
        by_cases hlt : m < l0.length
        · obtain ⟨ad, A2, c2, rfl, hc, hr2, hc2⟩ := at_L1 HR0.out (m : Int) (by omega) (by omega)
          obtain ⟨ad', A3, c3, e3, hc3, hr3, hc3'⟩ := at_L1 HR0.out 0 (by omega) (by omega)
          cases e3
          obtain ⟨bd, rfl, hc4⟩ := Kd.at_int HR1.out (m : Int) (by omega) (by have := EL.out; omega)
          rw [Int.toNat_natCast] at hc hc4
          have hc5 : w1.cell? ad = some (.slice A3 (rd_L1 l0 0).length c3) := by
            rw [show Int.toNat 0 = 0 from rfl, add0] at hc3
            exact hc3
          clear hc3
          have hmn : (m : Int) < (l1.length : Int) := by have := EL.out; omega
          have hbad : Bad l0 l1 m → r = 1 := fun hx => by
            rcases HV.out with ⟨_, h2⟩ | ⟨h2, _⟩
            · exact h2
            · exact absurd hx (h2 m (by omega) (by omega))
          obtain ⟨x, hx⟩ : ∃ x, rd l1 (m : Int) = x := ⟨_, rfl⟩
          rw [hx] at hc4
          by_cases b1 : ((rd_L1 l0 m).length : Int) = ((rd_L1 l0 0).length : Int)
          · have d1 : (((rd_L1 l0 m).length : Int) != ((rd_L1 l0 0).length : Int)) = false := by simp [b1]
            by_cases b2 : x < 0
            · have d2 : decide (x < 0) = true := by simp [b2]
              obtain rfl := hbad (.inr (.inl (by rw [hx]; exact b2)))
              clear b1 b2 hbad
              go_wp2_with fail
              go_ret
              exact ⟨rfl, by repeat (first | exact hB | apply below_alloc | apply pw_below_drewN | apply below_drew1)⟩
            · have d2 : decide (x < 0) = false := by simp; omega
              by_cases b3 : 2147483648 < x
              · have d3 : decide (2147483648 < x) = true := by simp [b3]
                obtain rfl := hbad (.inr (.inr (by rw [hx]; exact b3)))
                clear b1 b2 b3 hbad
                go_wp2_with fail
                go_ret
                exact ⟨rfl, by repeat (first | exact hB | apply below_alloc | apply pw_below_drewN | apply below_drew1)⟩
              · have d3 : decide (2147483648 < x) = false := by simp; omega
                have hnb := Aside0.mk (show ¬ Bad l0 l1 m by
                  rintro (h | h | h)
                  · omega
                  · rw [hx] at h; exact b2 h
                  · rw [hx] at h; exact b3 h)
                clear b1 b2 b3 hbad
                go_wp2_with fail
                go_round
                case rel => exact ⟨m + 1, by omega, rfl, ⟨fun t h0 h1 => by
                  by_cases e : t = m
                  · rw [e]; exact hnb.out
                  · exact hall.out t h0 (by omega)⟩⟩
                case measure => simp only [intOf]; omega
          · have d1 : (((rd_L1 l0 m).length : Int) != ((rd_L1 l0 0).length : Int)) = true := by simp; omega
            obtain rfl := hbad (.inl (by omega))
            clear b1 hbad
            go_wp2_with fail
            go_ret
            exact ⟨rfl, by repeat (first | exact hB | apply below_alloc | apply pw_below_drewN | apply below_drew1)⟩
        · obtain rfl : m = l0.length := by omega
          have hr : r = 0 := by
            rcases HV.out with ⟨⟨t, h0, h1, h2⟩, _⟩ | ⟨_, h2⟩
            · exact absurd h2 (hall.out t (by omega) h1)
            · exact h2
          subst hr
          go_wp2_with fail
          go_ret
          exact ⟨rfl, by repeat (first | exact hB | apply below_alloc | apply pw_below_drewN | apply below_drew1)⟩
    · have hne : ((l0.length : Int) != (l1.length : Int)) = true := by simp; omega
      go_wp2_with fail
      go_ret
      exact ⟨rfl, by repeat (first | exact hB | apply below_alloc | apply pw_below_drewN | apply below_drew1)⟩
  · have hr : r = 3 := by
      by_cases hx : (l0.length : Int) > a2
      · rw [if_pos hx] at h
        simpa using h.symm
      · rw [if_neg hx] at h
        rcases valid_l0 hm0 k 0 h (fun j h0 h1 => by omega) (Nat.zero_le _) with ⟨_, h3⟩ | ⟨hall, _⟩
        · exact h3
        · rcases hi.1 rfl with h4 | ⟨j, h0, h1, h2⟩
          · exact absurd h4 hx
          · have := hall j h0 h1; omega
    subst hr
    clear h hi
    go_wp2_with fail
    go_ret
    exact ⟨rfl, by repeat (first | exact hB | apply below_alloc | apply pw_below_drewN | apply below_drew1)⟩
end Go.Proofs.Ytcaefoljlmdjaaa.CH
