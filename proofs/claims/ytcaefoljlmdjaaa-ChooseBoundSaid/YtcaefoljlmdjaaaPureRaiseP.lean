/- Raise, in plain lists: the program's side. -/
import Derived.Test.YtcaefoljlmdjaaaPureRaise0
namespace Go.Proofs.Ytcaefoljlmdjaaa.Pure
open Go.RowKit Go.Proofs.Ytcaefoljlmdjaaa.CH Go.Proofs.YtcaefoljlmdjaaaW.PrintWords Go.Proofs.YtcaefoljlmdjaaaW.PrintLast Go.Proofs.YtcaefoljlmdjaaaW.PrintMore
set_option linter.unusedVariables false
set_option linter.unusedSimpArgs false
/-- the prices that Raise gives to the first pieces -/
def raiseL (T : List (List Bool)) (P : Nat) (cost : List Int) : Nat → List Int
  | 0 => List.replicate P 0
  | p + 1 => (raiseL T P cost p).set p (top T P cost (raiseL T P cost p) p)
theorem rd_zeros (P q : Nat) : rd (List.replicate P 0) (q : Int) = 0 := by
  rw [rd_nat]
  rcases Nat.lt_or_ge q P with h | h
  · simp [List.getD_eq_getElem?_getD, h]
  · simp [List.getD_eq_getElem?_getD, h]
theorem paid_zeros (T : List (List Bool)) (P t : Nat) : ∀ n, paid T (List.replicate P 0) t n = 0
  | 0 => rfl
  | n + 1 => by rw [paid, paid_zeros T P t n, rd_zeros]; simp
theorem raise_RS {T : List (List Bool)} {P : Nat} {cost : List Int} (hc0 : ∀ t : Nat, t < T.length → 0 ≤ rd cost (t : Int)) (hc : ∀ t : Nat, t < T.length → rd cost (t : Int) ≤ 2147483648) : ∀ p, p ≤ P → RS T P cost (raiseL T P cost p) p
  | 0, _ => ⟨by simp [raiseL], fun q _ _ => rd_zeros P q, fun q _ => by unfold badP raiseL; rw [rd_zeros]; omega, fun t ht => by rw [raiseL, paid_zeros]; exact hc0 t ht⟩
  | p + 1, hp => RS.next (raise_RS hc0 hc p (by omega)) (by omega) hc
/-! The program's side. -/
theorem left_set {T : List (List Bool)} {P : Nat} {cost x : List Int} {p : Nat} (R : RS T P cost x p) (hp : p < P) (y : Int) (t : Nat) : left T P cost (x.set p y) t = left T P cost x t - (if at2 T t p = true then y else 0) := by
  have hl := R.len
  unfold left
  rw [paid_set (by omega) (R.zeros p (Nat.le_refl _) hp)]
  by_cases e : at2 T t p = true
  · simp [e, hp]; omega
  · simp [e]
section
variable {T : List (List Bool)} {P : Nat} (h : Tab T P) {cost x : List Int} (hlc : cost.length = T.length) (hc : ∀ t : Nat, t < T.length → rd cost (t : Int) ≤ 2147483648) {p : Nat} (R : RS T P cost x p) (hp : p < P)
include h hlc hc R hp
theorem raise_l1 {s : List Int} (hs : s.length = T.length) (hsl : ∀ t : Nat, t < T.length → rd s (t : Int) = left T P cost x t) {r : List Int × Int} (hE : Ev (fun k => choose_Raise.l2 k T s (x.set p (top T P cost x p)) (p : Int) (P : Int) (p : Int) T (T.length : Int) ((0 : Nat) : Int)) r) :
    ∀ (d t : Nat), T.length - t = d → t ≤ T.length → Ev (fun k => choose_Raise.l1 k T s x (p : Int) (least T (left T P cost x) p t) (P : Int) (p : Int) T (T.length : Int) (t : Int)) r := by
  intro d
  have _u := hc
  have hl := R.len
  have hn := h.n
  induction d with
  | zero =>
    intro t hd ht
    refine Ev.step (fun k => ?_) hE
    rw [choose_Raise.l1, if_neg (by omega), if_pos (by omega), if_pos (by omega), Int.toNat_natCast, show t = T.length by omega]
    rfl
  | succ d ih =>
    intro t hd ht
    have h1 := ih (t + 1) (by omega) (by omega)
    have hrow := h.rect t (by omega)
    refine Ev.step (fun k => ?_) h1
    rw [choose_Raise.l1, if_pos (by omega), if_pos (by omega), if_pos (by omega), if_pos (by omega), if_pos (by omega), at2_rd, wrap_next (by omega), hsl t (by omega), least]
    by_cases e : at2 T t p = true
    · rw [if_pos e, if_pos e]
      by_cases h0 : least T (left T P cost x) p t < 0
      · rw [if_pos h0, if_pos (by omega), if_pos h0]
      · rw [if_neg h0, if_neg h0, if_pos (by omega)]
        by_cases h2 : left T P cost x t < least T (left T P cost x) p t
        · rw [if_pos h2, if_pos h2]
        · rw [if_neg h2, if_neg h2]
    · rw [if_neg e, if_neg e]
theorem raise_l2 {r : List Int × Int} (hE : ∀ s : List Int, s.length = T.length → (∀ u : Nat, u < T.length → rd s (u : Int) = left T P cost (x.set p (top T P cost x p)) u) → Ev (fun k => choose_Raise.l0 k T s (x.set p (top T P cost x p)) (P : Int) ((p + 1 : Nat) : Int)) r) :
    ∀ (d t : Nat) (s : List Int), T.length - t = d → t ≤ T.length → s.length = T.length → (∀ u : Nat, u < T.length → rd s (u : Int) = if u < t then left T P cost (x.set p (top T P cost x p)) u else left T P cost x u) →
      Ev (fun k => choose_Raise.l2 k T s (x.set p (top T P cost x p)) (p : Int) (P : Int) (p : Int) T (T.length : Int) (t : Int)) r := by
  intro d
  have hl := R.len
  have hn := h.n
  have hpp := h.p
  obtain ⟨t0, t1, ts⟩ := top_spec R hp hc
  induction d with
  | zero =>
    intro t s hd ht hs hsl
    refine Ev.step (fun k => ?_) (hE s hs (fun u hu => by rw [hsl u hu, if_pos (by omega)]))
    rw [choose_Raise.l2, if_neg (by omega), wrap_next (by omega)]
  | succ d ih =>
    intro t s hd ht hs hsl
    have hrow := h.rect t (by omega)
    have hst := hsl t (by omega)
    rw [if_neg (by omega)] at hst
    by_cases e : at2 T t p = true
    · have hle := ((ts _ t0).1 (Int.le_refl _)).2 t (by omega) e
      have hup : left T P cost x t ≤ 2147483648 := by
        have h2 := hc t (by omega)
        have h3 := paid_range (T := T) (P := P) (l := x) t P (fun q hq => R.good q hq)
        unfold left
        omega
      refine Ev.step (fun k => ?_) (ih (t + 1) (s.set t (left T P cost x t - top T P cost x p)) (by omega) (by omega) (by simp [hs]) (fun u hu => ?_))
      · rw [choose_Raise.l2, if_pos (by omega), if_pos (by omega), if_pos (by omega), if_pos (by omega), if_pos (by omega), at2_rd, if_pos e, if_pos (by omega), if_pos (by rw [List.length_set]; omega), wrap_next (by omega), Int.toNat_natCast, hst, rd_set_same (by omega), wrap_small (by omega) (by omega)]
      · by_cases eu : u = t
        · subst eu
          rw [rd_set_same (by omega), if_pos (by omega), left_set R hp, if_pos e]
        · rw [rd_set_other eu, hsl u hu]
          by_cases hlt : u < t
          · rw [if_pos hlt, if_pos (by omega)]
          · rw [if_neg hlt, if_neg (by omega)]
    · refine Ev.step (fun k => ?_) (ih (t + 1) s (by omega) (by omega) hs (fun u hu => ?_))
      · rw [choose_Raise.l2, if_pos (by omega), if_pos (by omega), if_pos (by omega), if_pos (by omega), if_pos (by omega), at2_rd, if_neg e, wrap_next (by omega)]
      · rw [hsl u hu]
        by_cases eu : u = t
        · subst eu
          rw [if_neg (by omega), if_pos (by omega), left_set R hp, if_neg e, Int.sub_zero]
        · by_cases hlt : u < t
          · rw [if_pos hlt, if_pos (by omega)]
          · rw [if_neg hlt, if_neg (by omega)]
end
theorem raise_l0 {T : List (List Bool)} {P : Nat} (h : Tab T P) {cost : List Int} (hlc : cost.length = T.length) (hc0 : ∀ t : Nat, t < T.length → 0 ≤ rd cost (t : Int)) (hc : ∀ t : Nat, t < T.length → rd cost (t : Int) ≤ 2147483648) :
    ∀ (d p : Nat) (s : List Int), P - p = d → p ≤ P → s.length = T.length → (∀ t : Nat, t < T.length → rd s (t : Int) = left T P cost (raiseL T P cost p) t) → Ev (fun k => choose_Raise.l0 k T s (raiseL T P cost p) (P : Int) (p : Int)) (raiseL T P cost P, 0) := by
  intro d
  induction d with
  | zero =>
    intro p s hd hp hs hsl
    refine Ev.step (f := fun _ => some _) (fun k => ?_) (Ev.now _)
    rw [choose_Raise.l0, if_neg (by omega), show p = P by omega]
  | succ d ih =>
    intro p s hd hp hs hsl
    have R := raise_RS (P := P) hc0 hc p hp
    refine Ev.step (fun k => ?_) (raise_l1 h hlc hc R (by omega) hs hsl (raise_l2 h hlc hc R (by omega) (fun s' hs' hsl' => ih (p + 1) s' (by omega) (by omega) hs' hsl') T.length 0 s (by omega) (Nat.zero_le _) hs (fun u hu => by rw [if_neg (by omega)]; exact hsl u hu)) T.length 0 (by omega) (Nat.zero_le _))
    rw [choose_Raise.l0, if_pos (by omega)]
    rfl
theorem left_zeros (T : List (List Bool)) (P : Nat) (cost : List Int) (t : Nat) : left T P cost (List.replicate P 0) t = rd cost (t : Int) := by
  unfold left
  rw [paid_zeros, Int.sub_zero]
theorem clone_eq {T : List (List Bool)} {P : Nat} (h : Tab T P) {cost : List Int} (hlc : cost.length = T.length) : slices_Clone_int64_int64.f cost = some cost := by
  have := h.n
  unfold slices_Clone_int64_int64.f
  rw [Option.bind_some, if_pos (by simp; omega)]
  rfl
/-- what Raise tells of a table without errors -/
theorem raise_ev {T : List (List Bool)} {P : Nat} (h : Tab T P) {cost : List Int} (hlc : cost.length = T.length) (hc0 : ∀ t : Nat, t < T.length → 0 ≤ rd cost (t : Int)) (hc : ∀ t : Nat, t < T.length → rd cost (t : Int) ≤ 2147483648) (hV : Ev (fun k => choose_Valid.f k T cost) 0) :
    Ev (fun k => choose_Raise.f k T cost) (raiseL T P cost P, 0) := by
  have hp := h.p
  refine Ev.congr (fun k => ?_) (Ev.bind (f := fun k v => if v = 0 then choose_Raise.l0 k T cost (raiseL T P cost 0) (P : Int) ((0 : Nat) : Int) else some (([] : List Int), v)) hV ?_)
  · rw [choose_Raise.f, clone_eq h hlc, pieces_eq h, Option.bind_some, Option.bind_some, if_pos (by omega), if_pos (by omega), Option.bind_some, Int.toNat_natCast, List.length_replicate]
    rfl
  · exact Ev.congr (fun k => if_pos rfl) (raise_l0 h hlc hc0 hc P 0 cost (by omega) (Nat.zero_le _) hlc (fun t ht => (left_zeros T P cost t).symm))
/-- the prices of Raise are fair -/
theorem raise_fair {T : List (List Bool)} {P : Nat} {cost : List Int} (hc0 : ∀ t : Nat, t < T.length → 0 ≤ rd cost (t : Int)) (hc : ∀ t : Nat, t < T.length → rd cost (t : Int) ≤ 2147483648) : (pricesV T P cost (raiseL T P cost P)).2 = true := by
  have R := raise_RS (P := P) hc0 hc P (Nat.le_refl _)
  exact (pricesV_true R.len).2 ⟨R.good, R.pay⟩
/-- Valid's answer, on both sides -/
theorem valid_ev (l0 : List (List Bool)) (n0 : l0.length ≤ 9223372036854775807) (l1 : List Int) : ∃ v, Ev (fun k => swarfref30_Valid.f k l0 l1 200 200) v ∧ Ev (fun k => choose_Valid.f k l0 l1) v := by
  obtain ⟨v, hv⟩ := refValid l0 n0 l1 200 200 (2 * l0.length + 130) (by omega)
  have h : Ev (fun k => swarfref30_Valid.f k l0 l1 200 200) v := Ev.of (fun k => swarfref30_Valid.mono _ _ _ _ _) hv
  refine ⟨v, h, Ev.congr (fun k => ?_) (Ev.bind (f := fun _ v => some v) h (Ev.now _))⟩
  rw [choose_Valid.f, valid_eq]
end Go.Proofs.Ytcaefoljlmdjaaa.Pure
