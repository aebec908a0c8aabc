/- Prices, in plain lists: what both sides tell. -/
import Derived.Test.YtcaefoljlmdjaaaPureCoverable
namespace Go.Proofs.Ytcaefoljlmdjaaa.Pure
open Go.RowKit Go.Proofs.Ytcaefoljlmdjaaa.CH Go.Proofs.YtcaefoljlmdjaaaW.PrintWords Go.Proofs.YtcaefoljlmdjaaaW.PrintLast
set_option linter.unusedVariables false
set_option linter.unusedSimpArgs false
/-- a price that isn't fair at its own piece -/
def badP (T : List (List Bool)) (P : Nat) (l : List Int) (p : Nat) : Prop := rd l (p : Int) < 0 ∨ rd l (p : Int) > 2147483648 ∨ (rd l (p : Int) > 0 ∧ (cov T P).getD p false = false)
/-- the sum of the first prices -/
def tot (l : List Int) : Nat → Int
  | 0 => 0
  | n + 1 => tot l n + rd l (n : Int)
/-- what the first pieces pay to a tool -/
def paid (T : List (List Bool)) (l : List Int) (t : Nat) : Nat → Int
  | 0 => 0
  | n + 1 => paid T l t n + (if at2 T t n = true then rd l (n : Int) else 0)
open Classical in
/-- what Prices tells -/
noncomputable def fairV (T : List (List Bool)) (P : Nat) (cost l : List Int) : Int × Bool :=
  if ∃ p, p < P ∧ badP T P l p then (0, false) else if ∃ t, t < T.length ∧ paid T l t P > rd cost (t : Int) then (0, false) else (tot l P, true)
theorem tot_range {T : List (List Bool)} {P : Nat} {l : List Int} : ∀ n, (∀ p, p < n → ¬ badP T P l p) → 0 ≤ tot l n ∧ tot l n ≤ 2147483648 * n
  | 0, _ => by simp [tot]
  | n + 1, h => by
    have h1 := tot_range n (fun p hp => h p (by omega))
    have h2 := h n (by omega)
    unfold badP at h2
    rw [tot]
    omega
theorem paid_range {T : List (List Bool)} {P : Nat} {l : List Int} (t : Nat) : ∀ n, (∀ p, p < n → ¬ badP T P l p) → 0 ≤ paid T l t n ∧ paid T l t n ≤ 2147483648 * n
  | 0, _ => by simp [paid]
  | n + 1, h => by
    have h1 := paid_range t n (fun p hp => h p (by omega))
    have h2 := h n (by omega)
    unfold badP at h2
    rw [paid]
    split <;> omega
theorem wrap_small {x : Int} (h0 : 0 ≤ x) (h1 : x ≤ 4611686018427387904) : wrap64 x = x := by unfold wrap64; omega
theorem at2_rd {T : List (List Bool)} (t p : Nat) : rdOf false (rd_L1 T (t : Int)) (p : Int) = at2 T t p := by rw [rdOf_nat]; rfl
section
variable {T : List (List Bool)} {P : Nat} (h : Tab T P) {cost l : List Int} (hc : cost.length = T.length) (hl : l.length = P)
include h hc hl
theorem prices_l2 (hgood : ∀ p, p < P → ¬ badP T P l p) {s : Int} {t : Nat} (ht : t < T.length) {r : Int × Bool} (hr : Ev (fun k => if paid T l t P > rd cost (t : Int) then some (0, false) else choose_Prices.l1 k cost l s T (T.length : Int) ((t + 1 : Nat) : Int)) r) :
    ∀ (d p : Nat), P - p = d → p ≤ P → Ev (fun k => choose_Prices.l2 k cost l s (t : Int) (paid T l t p) T (T.length : Int) (t : Int) (rd_L1 T (t : Int)) ((rd_L1 T (t : Int)).length : Int) (p : Int)) r := by
  intro d
  have hp := h.p
  have hn := h.n
  have hrow := h.rect t ht
  induction d with
  | zero =>
    intro p hd hpp
    refine Ev.step (fun k => ?_) hr
    rw [choose_Prices.l2, if_neg (by omega), if_pos (by omega), if_pos (by omega), show p = P by omega, wrap_next (by omega)]
  | succ d ih =>
    intro p hd hpp
    have h1 := ih (p + 1) (by omega) (by omega)
    refine Ev.step (fun k => ?_) h1
    rw [choose_Prices.l2, if_pos (by omega), if_pos (by omega), if_pos (by omega), at2_rd, paid, wrap_next (by omega)]
    by_cases e : at2 T t p = true
    · have hb := paid_range (T := T) (P := P) (l := l) t (p + 1) (fun q hq => hgood q (by omega))
      rw [paid, if_pos e] at hb
      rw [if_pos e, if_pos (by omega), if_pos e, wrap_small hb.1 (by omega)]
    · rw [if_neg e, if_neg e, Int.add_zero]
theorem prices_l1 (hgood : ∀ p, p < P → ¬ badP T P l p) : ∀ (d t : Nat), T.length - t = d → t ≤ T.length → (∀ u, u < t → ¬ paid T l u P > rd cost (u : Int)) → Ev (fun k => choose_Prices.l1 k cost l (tot l P) T (T.length : Int) (t : Int)) (fairV T P cost l) := by
  intro d
  have hn := h.n
  induction d with
  | zero =>
    intro t hd ht hall
    have e : fairV T P cost l = (tot l P, true) := by
      unfold fairV
      rw [if_neg (by rintro ⟨p, hp, hb⟩; exact hgood p hp hb), if_neg (by rintro ⟨u, hu, hb⟩; exact hall u (by omega) hb)]
    rw [e]
    refine Ev.step (f := fun _ => some _) (fun k => ?_) (Ev.now _)
    rw [choose_Prices.l1, if_neg (by omega)]
  | succ d ih =>
    intro t hd ht hall
    have h2 : Ev (fun k => if paid T l t P > rd cost (t : Int) then some (0, false) else choose_Prices.l1 k cost l (tot l P) T (T.length : Int) ((t + 1 : Nat) : Int)) (fairV T P cost l) := by
      by_cases hb : paid T l t P > rd cost (t : Int)
      · have e : fairV T P cost l = (0, false) := by
          unfold fairV
          rw [if_neg (by rintro ⟨p, hp, hb⟩; exact hgood p hp hb), if_pos ⟨t, by omega, hb⟩]
        rw [e]
        exact Ev.congr (fun k => if_pos hb) (Ev.now _)
      · refine Ev.congr (fun k => if_neg hb) (ih (t + 1) (by omega) (by omega) (fun u hu => ?_))
        by_cases eu : u = t
        · rw [eu]; exact hb
        · exact hall u (by omega)
    refine Ev.step (fun k => ?_) (prices_l2 h hc hl hgood (t := t) (by omega) h2 P 0 (by omega) (Nat.zero_le _))
    rw [choose_Prices.l1, if_pos (by omega), if_pos (by omega), if_pos (by omega)]
    rfl
theorem prices_l0 : ∀ (d p : Nat), P - p = d → p ≤ P → (∀ q, q < p → ¬ badP T P l q) → Ev (fun k => choose_Prices.l0 k T cost l (cov T P) (tot l p) l (l.length : Int) (p : Int)) (fairV T P cost l) := by
  intro d
  have hp := h.p
  have hcl : (cov T P).length = P := by simp [cov]
  induction d with
  | zero =>
    intro p hd hpp hall
    refine Ev.step (fun k => ?_) (prices_l1 h hc hl (fun q hq => hall q (by omega)) T.length 0 (by omega) (Nat.zero_le _) (fun u hu => by omega))
    rw [choose_Prices.l0, if_neg (by omega), show p = P by omega]
    rfl
  | succ d ih =>
    intro p hd hpp hall
    by_cases hb : badP T P l p
    · have e : fairV T P cost l = (0, false) := by
        unfold fairV
        rw [if_pos ⟨p, by omega, hb⟩]
      rw [e]
      refine Ev.step (f := fun _ => some _) (fun k => ?_) (Ev.now _)
      rw [choose_Prices.l0, if_pos (by omega), if_pos (by omega), if_pos (by omega)]
      unfold badP at hb
      by_cases h0 : rd l (p : Int) < 0
      · rw [if_pos h0]
      · by_cases h1 : rd l (p : Int) > 2147483648
        · rw [if_neg h0, if_pos h1]
        · have h2 : rd l (p : Int) > 0 ∧ (cov T P).getD p false = false := by
            rcases hb with hb | hb | hb
            · exact absurd hb h0
            · exact absurd hb h1
            · exact hb
          rw [if_neg h0, if_neg h1, if_pos h2.1, if_pos (by omega), rdOf_nat, if_neg (by rw [h2.2]; simp)]
    · have hgood : ∀ q, q < p + 1 → ¬ badP T P l q := fun q hq => by
        by_cases e : q = p
        · rw [e]; exact hb
        · exact hall q (by omega)
      have ht := tot_range (T := T) (P := P) (l := l) (p + 1) hgood
      rw [tot] at ht
      refine Ev.step (fun k => ?_) (ih (p + 1) (by omega) (by omega) hgood)
      unfold badP at hb
      rw [choose_Prices.l0, if_pos (by omega), if_pos (by omega), if_pos (by omega), if_neg (by omega), if_neg (by omega), wrap_small ht.1 (by omega), wrap_next (by omega), show tot l p + rd l (p : Int) = tot l (p + 1) from rfl]
      by_cases h1 : rd l (p : Int) > 0
      · have h2 : (cov T P).getD p false = true := by
          cases hx : (cov T P).getD p false with
          | true => rfl
          | false => exact absurd (.inr (.inr ⟨h1, hx⟩)) hb
        rw [if_pos h1, if_pos (by omega), rdOf_nat, if_pos h2]
      · rw [if_neg h1]
end
open Classical in
/-- what Prices tells of any list of prices -/
noncomputable def pricesV (T : List (List Bool)) (P : Nat) (cost l : List Int) : Int × Bool := if l.length = P then fairV T P cost l else (0, false)
theorem prices_ev {T : List (List Bool)} {P : Nat} (h : Tab T P) {cost l : List Int} (hc : cost.length = T.length) : Ev (fun k => choose_Prices.f k T cost l) (pricesV T P cost l) := by
  unfold pricesV
  by_cases hl : l.length = P
  · rw [if_pos hl]
    refine Ev.congr (fun k => ?_) (Ev.bind (f := fun k c => choose_Prices.l0 k T cost l c (tot l 0) l (l.length : Int) ((0 : Nat) : Int)) (coverable h) (prices_l0 h hc hl P 0 (by omega) (Nat.zero_le _) (fun q hq => by omega)))
    rw [choose_Prices.f, pieces_eq h, Option.bind_some, if_pos (by omega)]
    rfl
  · rw [if_neg hl]
    refine Ev.congr (fun k => ?_) (Ev.now _)
    rw [choose_Prices.f, pieces_eq h, Option.bind_some, if_neg (by omega)]
end Go.Proofs.Ytcaefoljlmdjaaa.Pure
