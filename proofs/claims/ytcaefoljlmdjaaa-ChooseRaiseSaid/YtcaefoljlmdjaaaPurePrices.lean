/- ChoosePrices, in plain lists. -/
import Derived.Test.YtcaefoljlmdjaaaPurePrices0
import Derived.Test.YtcaefoljlmdjaaaCHx14
namespace Go.Proofs.Ytcaefoljlmdjaaa.Pure
open Go.RowKit Go.Proofs.Ytcaefoljlmdjaaa.CH Go.Proofs.YtcaefoljlmdjaaaW.PrintWords Go.Proofs.YtcaefoljlmdjaaaW.PrintLast
set_option linter.unusedVariables false
set_option linter.unusedSimpArgs false
section
variable {T : List (List Bool)} {P : Nat} (h : Tab T P) {cost l : List Int} (hc : cost.length = T.length) (hl : l.length = P)
include h hc hl
theorem refPrices_l2 (hgood : ∀ p, p < P → ¬ badP T P l p) {s : Int} {t : Nat} (ht : t < T.length) {r : Int × Bool} (hr : Ev (fun k => if paid T l t P > rd cost (t : Int) then some (0, false) else swarfref30_Prices.l1 k T cost l s ((t + 1 : Nat) : Int)) r) :
    ∀ (d p : Nat), P - p = d → p ≤ P → Ev (fun k => swarfref30_Prices.l2 k T cost l s (t : Int) (paid T l t p) (p : Int)) r := by
  intro d
  have hp := h.p
  have hn := h.n
  have hrow := h.rect t ht
  induction d with
  | zero =>
    intro p hd hpp
    refine Ev.step (fun k => ?_) hr
    rw [swarfref30_Prices.l2, if_neg (by omega), if_pos (by omega), if_pos (by omega), show p = P by omega, wrap_next (by omega)]
  | succ d ih =>
    intro p hd hpp
    have h1 := ih (p + 1) (by omega) (by omega)
    refine Ev.step (fun k => ?_) h1
    rw [swarfref30_Prices.l2, if_pos (by omega), if_pos (by omega), if_pos (by omega), if_pos (by omega), if_pos (by omega), at2_rd, paid, wrap_next (by omega)]
    by_cases e : at2 T t p = true
    · have hb := paid_range (T := T) (P := P) (l := l) t (p + 1) (fun q hq => hgood q (by omega))
      rw [paid, if_pos e] at hb
      rw [if_pos e, if_pos e, wrap_small hb.1 (by omega)]
    · rw [if_neg e, if_neg e, Int.add_zero]
theorem refPrices_l1 (hgood : ∀ p, p < P → ¬ badP T P l p) : ∀ (d t : Nat), T.length - t = d → t ≤ T.length → (∀ u, u < t → ¬ paid T l u P > rd cost (u : Int)) → Ev (fun k => swarfref30_Prices.l1 k T cost l (tot l P) (t : Int)) (fairV T P cost l) := by
  intro d
  have hn := h.n
  induction d with
  | zero =>
    intro t hd ht hall
    have e : fairV T P cost l = (tot l P, true) := by
      unfold fairV
      rw [if_neg (by rintro ⟨p, hp, hb⟩; exact hgood p hp hb), if_neg (by rintro ⟨u, hu, hb⟩; exact hall u (by omega) hb)]
    rw [e]
    refine Ev.step (f := fun _ => some _) (fun k => ?_) (Ev.now _)
    rw [swarfref30_Prices.l1, if_neg (by omega)]
  | succ d ih =>
    intro t hd ht hall
    have h2 : Ev (fun k => if paid T l t P > rd cost (t : Int) then some (0, false) else swarfref30_Prices.l1 k T cost l (tot l P) ((t + 1 : Nat) : Int)) (fairV T P cost l) := by
      by_cases hb : paid T l t P > rd cost (t : Int)
      · have e : fairV T P cost l = (0, false) := by
          unfold fairV
          rw [if_neg (by rintro ⟨p, hp, hb⟩; exact hgood p hp hb), if_pos ⟨t, by omega, hb⟩]
        rw [e]
        exact Ev.congr (fun k => if_pos hb) (Ev.now _)
      · refine Ev.congr (fun k => if_neg hb) (ih (t + 1) (by omega) (by omega) (fun u hu => ?_))
        by_cases eu : u = t
        · rw [eu]; exact hb
        · exact hall u (by omega)
    refine Ev.step (fun k => ?_) (refPrices_l2 h hc hl hgood (t := t) (by omega) h2 P 0 (by omega) (Nat.zero_le _))
    rw [swarfref30_Prices.l1, if_pos (by omega)]
    rfl
theorem refPrices_l0 : ∀ (d p : Nat), P - p = d → p ≤ P → (∀ q, q < p → ¬ badP T P l q) → Ev (fun k => swarfref30_Prices.l0 k T cost l (cov T P) (tot l p) (p : Int)) (fairV T P cost l) := by
  intro d
  have hp := h.p
  have hcl : (cov T P).length = P := by simp [cov]
  induction d with
  | zero =>
    intro p hd hpp hall
    refine Ev.step (fun k => ?_) (refPrices_l1 h hc hl (fun q hq => hall q (by omega)) T.length 0 (by omega) (Nat.zero_le _) (fun u hu => by omega))
    rw [swarfref30_Prices.l0, if_neg (by omega), show p = P by omega]
    rfl
  | succ d ih =>
    intro p hd hpp hall
    by_cases hb : badP T P l p
    · have e : fairV T P cost l = (0, false) := by
        unfold fairV
        rw [if_pos ⟨p, by omega, hb⟩]
      rw [e]
      refine Ev.step (f := fun _ => some _) (fun k => ?_) (Ev.now _)
      rw [swarfref30_Prices.l0, if_pos (by omega), if_pos (by omega)]
      unfold badP at hb
      by_cases h0 : rd l (p : Int) < 0
      · rw [if_pos h0]
      · by_cases h1 : rd l (p : Int) > 2147483648
        · rw [if_neg h0, if_pos h1]
        · have h2 : rd l (p : Int) > 0 ∧ (cov T P).getD p false = false := by
            rcases hb with hb | hb | hb
            · exact absurd hb h0
            · exact absurd hb h1
            · exact hb
          rw [if_neg h0, if_neg h1, if_pos (by omega), rdOf_nat, if_neg (by rw [h2.2]; simp), if_neg (by omega)]
    · have hgood : ∀ q, q < p + 1 → ¬ badP T P l q := fun q hq => by
        by_cases e : q = p
        · rw [e]; exact hb
        · exact hall q (by omega)
      have ht := tot_range (T := T) (P := P) (l := l) (p + 1) hgood
      rw [tot] at ht
      refine Ev.step (fun k => ?_) (ih (p + 1) (by omega) (by omega) hgood)
      unfold badP at hb
      rw [swarfref30_Prices.l0, if_pos (by omega), if_pos (by omega), if_neg (by omega), if_neg (by omega), if_pos (by omega), wrap_small ht.1 (by omega), wrap_next (by omega), show tot l p + rd l (p : Int) = tot l (p + 1) from rfl, rdOf_nat]
      by_cases h1 : (cov T P).getD p false = true
      · rw [if_pos h1]
      · have h2 : ¬ rd l (p : Int) > 0 := fun h3 => hb (.inr (.inr ⟨h3, Bool.eq_false_iff.2 h1⟩))
        rw [if_neg h1, if_pos (by omega)]
end
theorem refPrices_ev {T : List (List Bool)} {P : Nat} (h : Tab T P) {cost l : List Int} (hc : cost.length = T.length) : Ev (fun k => swarfref30_Prices.f k T cost l) (pricesV T P cost l) := by
  unfold pricesV
  by_cases hl : l.length = P
  · rw [if_pos hl]
    refine Ev.congr (fun k => ?_) (Ev.bind (f := fun k c => swarfref30_Prices.l0 k T cost l c (tot l 0) ((0 : Nat) : Int)) (refCoverable h) (refPrices_l0 h hc hl P 0 (by omega) (Nat.zero_le _) (fun q hq => by omega)))
    rw [swarfref30_Prices.f, refPieces_eq h, Option.bind_some, if_pos (by omega)]
    rfl
  · rw [if_neg hl]
    refine Ev.congr (fun k => ?_) (Ev.now _)
    rw [swarfref30_Prices.f, refPieces_eq h, Option.bind_some, if_neg (by omega)]
theorem Prices (l0 : List (List Bool)) (n0 : l0.length ≤ 9223372036854775807) (l1 : List Int) (n1 : l1.length ≤ 9223372036854775807) (y1 : ∀ n ∈ l1, (Lit.int .i64 n).wf = true) (l2 : List Int) (n2 : l2.length ≤ 9223372036854775807) (y2 : ∀ n ∈ l2, (Lit.int .i64 n).wf = true) : ∃ k, swarflaw30_ChoosePrices.f k l0 l1 l2 = some true := by
  obtain ⟨r, hr⟩ := right_ev l0 n0 l1
  have hj : Ev (fun k => swarflaw30_ChoosePrices.j0 k l0 l1 l2 true) true := by
    refine Ev.step (fun k => ?_) (Ev.bind (f := fun _ t => some t) awake_ev (Ev.now _))
    rw [swarflaw30_ChoosePrices.j0, if_pos rfl]
  refine Ev.rounds (Ev.congr (f := fun k => (swarflaw30_awake.f k).bind fun a => if a = true then (swarflaw30_right.f k l0 l1).bind fun b => if b = true then swarflaw30_ChoosePrices.j0 k l0 l1 l2 (decide ((l2.length : Int) > 30)) else swarflaw30_ChoosePrices.j0 k l0 l1 l2 true else swarflaw30_ChoosePrices.j0 k l0 l1 l2 true) (fun k => by rw [swarflaw30_ChoosePrices.f]) ?_)
  refine Ev.bind (f := fun k a => if a = true then (swarflaw30_right.f k l0 l1).bind fun b => if b = true then swarflaw30_ChoosePrices.j0 k l0 l1 l2 (decide ((l2.length : Int) > 30)) else swarflaw30_ChoosePrices.j0 k l0 l1 l2 true else swarflaw30_ChoosePrices.j0 k l0 l1 l2 true) awake_ev ?_
  refine Ev.congr (fun k => if_pos rfl) ?_
  refine Ev.bind (f := fun k b => if b = true then swarflaw30_ChoosePrices.j0 k l0 l1 l2 (decide ((l2.length : Int) > 30)) else swarflaw30_ChoosePrices.j0 k l0 l1 l2 true) hr ?_
  cases r with
  | false => exact Ev.congr (fun k => if_neg (by simp)) hj
  | true =>
    refine Ev.congr (fun k => if_pos rfl) ?_
    obtain ⟨k, hk⟩ := Ev.rounds hr
    obtain ⟨P, hR⟩ := right_true hk
    by_cases h2 : (l2.length : Int) > 30
    · rw [decide_eq_true h2]
      exact hj
    · rw [decide_eq_false h2]
      refine Ev.step (fun k => ?_) (Ev.bind (f := fun k a => (swarfref30_Prices.f k l0 l1 l2).bind fun b => if a.1 = b.1 then some (a.2 == b.2) else some false) (prices_ev hR.tab (l := l2) hR.len)
        (Ev.bind (f := fun k b => if (pricesV l0 P l1 l2).1 = b.1 then some ((pricesV l0 P l1 l2).2 == b.2) else some false) (refPrices_ev hR.tab hR.len) ?_))
      · rw [swarflaw30_ChoosePrices.j0, if_neg (by simp)]
      · refine Ev.congr (fun k => if_pos rfl) ?_
        rw [beq_self_eq_true]
        exact Ev.now _
end Go.Proofs.Ytcaefoljlmdjaaa.Pure
