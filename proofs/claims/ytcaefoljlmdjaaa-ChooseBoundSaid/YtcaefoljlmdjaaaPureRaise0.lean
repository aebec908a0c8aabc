/- Raise, in plain lists: the greatest fair price at a piece. -/
import Derived.Test.YtcaefoljlmdjaaaPurePrices0
namespace Go.Proofs.Ytcaefoljlmdjaaa.Pure
open Go.RowKit Go.Proofs.Ytcaefoljlmdjaaa.CH Go.Proofs.YtcaefoljlmdjaaaW.PrintWords Go.Proofs.YtcaefoljlmdjaaaW.PrintLast
set_option linter.unusedVariables false
set_option linter.unusedSimpArgs false
/-- the least of what is left to the first n tools that reach a piece; -1 where none does -/
def least (T : List (List Bool)) (rest : Nat → Int) (p : Nat) : Nat → Int
  | 0 => -1
  | n + 1 => if at2 T n p = true then (if least T rest p n < 0 then rest n else if rest n < least T rest p n then rest n else least T rest p n) else least T rest p n
theorem least_spec {T : List (List Bool)} {rest : Nat → Int} {p : Nat} : ∀ n, (∀ t, t < n → 0 ≤ rest t) →
    (least T rest p n = -1 ∧ ∀ t, t < n → at2 T t p = false) ∨ (0 ≤ least T rest p n ∧ (∃ t, t < n ∧ at2 T t p = true ∧ rest t = least T rest p n) ∧ ∀ t, t < n → at2 T t p = true → least T rest p n ≤ rest t)
  | 0, _ => .inl ⟨rfl, fun t ht => by omega⟩
  | n + 1, h => by
    have ih := least_spec (T := T) (p := p) n (fun t ht => h t (by omega))
    have hn := h n (by omega)
    rw [least]
    by_cases e : at2 T n p = true
    · rw [if_pos e]
      rcases ih with ⟨h1, h2⟩ | ⟨h1, ⟨u, hu, hu2, hu3⟩, h3⟩
      · rw [if_pos (by omega)]
        refine .inr ⟨hn, ⟨n, by omega, e, rfl⟩, fun t ht hat => ?_⟩
        by_cases et : t = n
        · rw [et]; exact Int.le_refl _
        · rw [h2 t (by omega)] at hat; cases hat
      · rw [if_neg (by omega)]
        split
        · refine .inr ⟨hn, ⟨n, by omega, e, rfl⟩, fun t ht hat => ?_⟩
          by_cases et : t = n
          · rw [et]; exact Int.le_refl _
          · have := h3 t (by omega) hat; omega
        · refine .inr ⟨h1, ⟨u, by omega, hu2, hu3⟩, fun t ht hat => ?_⟩
          by_cases et : t = n
          · rw [et]; omega
          · exact h3 t (by omega) hat
    · rw [if_neg e]
      rcases ih with ⟨h1, h2⟩ | ⟨h1, ⟨u, hu, hu2, hu3⟩, h3⟩
      · refine .inl ⟨h1, fun t ht => ?_⟩
        by_cases et : t = n
        · rw [et]; exact Bool.eq_false_iff.2 e
        · exact h2 t (by omega)
      · refine .inr ⟨h1, ⟨u, by omega, hu2, hu3⟩, fun t ht hat => ?_⟩
        by_cases et : t = n
        · rw [et] at hat; exact absurd hat e
        · exact h3 t (by omega) hat
theorem rd_set_same {l : List Int} {p : Nat} (hp : p < l.length) (y : Int) : rd (l.set p y) (p : Int) = y := by rw [rd_nat]; simp [List.getD_eq_getElem?_getD, hp]
theorem rd_set_other {l : List Int} {p q : Nat} (h : q ≠ p) (y : Int) : rd (l.set p y) (q : Int) = rd l (q : Int) := by rw [rd_nat, rd_nat]; simp [List.getD_eq_getElem?_getD, List.getElem?_set_ne (Ne.symm h)]
theorem paid_set {T : List (List Bool)} {l : List Int} {p : Nat} (hp : p < l.length) (h0 : rd l (p : Int) = 0) (y : Int) (t : Nat) : ∀ n, paid T (l.set p y) t n = paid T l t n + (if p < n ∧ at2 T t p = true then y else 0)
  | 0 => by simp [paid]
  | n + 1 => by
    rw [paid, paid, paid_set hp h0 y t n]
    by_cases e : n = p
    · subst e
      rw [rd_set_same hp, h0]
      by_cases ea : at2 T t n = true
      · simp [ea]
      · simp [ea]
    · rw [rd_set_other e]
      by_cases hlt : p < n
      · by_cases ea : at2 T t p = true
        · simp [ea, hlt, show p < n + 1 by omega]; omega
        · simp [ea]
      · simp [hlt, show ¬ p < n + 1 by omega]
/-- the prices before the piece p are given -/
structure RS (T : List (List Bool)) (P : Nat) (cost x : List Int) (p : Nat) : Prop where
  len : x.length = P
  zeros : ∀ q, p ≤ q → q < P → rd x (q : Int) = 0
  good : ∀ q, q < P → ¬ badP T P x q
  pay : ∀ t, t < T.length → paid T x t P ≤ rd cost (t : Int)
/-- what is left to a tool -/
def left (T : List (List Bool)) (P : Nat) (cost x : List Int) (t : Nat) : Int := rd cost (t : Int) - paid T x t P
/-- the greatest fair price at the piece p -/
def top (T : List (List Bool)) (P : Nat) (cost x : List Int) (p : Nat) : Int := mx 0 (least T (left T P cost x) p T.length)
theorem cov_getD {T : List (List Bool)} {P p : Nat} (hp : p < P) : (cov T P).getD p false = true ↔ ∃ t, t < T.length ∧ at2 T t p = true := by
  unfold cov
  simp [List.getD_eq_getElem?_getD, hp]
theorem top_spec {T : List (List Bool)} {P : Nat} {cost x : List Int} {p : Nat} (R : RS T P cost x p) (hp : p < P) (hc : ∀ t : Nat, t < T.length → rd cost (t : Int) ≤ 2147483648) :
    0 ≤ top T P cost x p ∧ top T P cost x p ≤ 2147483648 ∧ ∀ y : Int, 0 ≤ y → (y ≤ top T P cost x p ↔ (y = 0 ∨ ∃ t, t < T.length ∧ at2 T t p = true) ∧ ∀ t, t < T.length → at2 T t p = true → y ≤ left T P cost x t) := by
  have hpos : ∀ t, t < T.length → 0 ≤ left T P cost x t := fun t ht => by
    have := R.pay t ht
    unfold left
    omega
  have hle : ∀ t, t < T.length → left T P cost x t ≤ 2147483648 := fun t ht => by
    have h1 := paid_range (T := T) (P := P) (l := x) t P (fun q hq => R.good q hq)
    have h2 := hc t ht
    unfold left
    omega
  rcases least_spec (T := T) (p := p) T.length hpos with ⟨h1, h2⟩ | ⟨h1, ⟨u, hu, hu2, hu3⟩, h3⟩
  · have e : top T P cost x p = 0 := by unfold top mx; rw [h1]; rfl
    rw [e]
    refine ⟨Int.le_refl _, by omega, fun y hy => ⟨fun h => ⟨.inl (by omega), fun t ht hat => ?_⟩, fun h => ?_⟩⟩
    · rw [h2 t ht] at hat; cases hat
    · rcases h.1 with h | ⟨t, ht, hat⟩
      · omega
      · rw [h2 t ht] at hat; cases hat
  · have e : top T P cost x p = least T (left T P cost x) p T.length := by unfold top mx; split <;> omega
    rw [e]
    refine ⟨h1, by rw [← hu3]; exact hle u hu, fun y hy => ⟨fun h => ⟨.inr ⟨u, hu, hu2⟩, fun t ht hat => ?_⟩, fun h => ?_⟩⟩
    · have := h3 t ht hat; omega
    · rw [← hu3]; exact h.2 u hu hu2
theorem pricesV_true {T : List (List Bool)} {P : Nat} {cost l : List Int} (hl : l.length = P) : (pricesV T P cost l).2 = true ↔ (∀ p, p < P → ¬ badP T P l p) ∧ ∀ t, t < T.length → paid T l t P ≤ rd cost (t : Int) := by
  unfold pricesV
  rw [if_pos hl]
  unfold fairV
  by_cases h1 : ∃ p, p < P ∧ badP T P l p
  · rw [if_pos h1]
    obtain ⟨p, hp, hb⟩ := h1
    exact ⟨fun h => (by cases h), fun h => absurd hb (h.1 p hp)⟩
  · rw [if_neg h1]
    by_cases h2 : ∃ t, t < T.length ∧ paid T l t P > rd cost (t : Int)
    · rw [if_pos h2]
      obtain ⟨t, ht, hb⟩ := h2
      exact ⟨fun h => (by cases h), fun h => by have := h.2 t ht; omega⟩
    · rw [if_neg h2]
      refine ⟨fun _ => ⟨fun p hp hb => h1 ⟨p, hp, hb⟩, fun t ht => ?_⟩, fun _ => rfl⟩
      rcases Int.lt_or_le (rd cost (t : Int)) (paid T l t P) with h3 | h3
      · exact absurd ⟨t, ht, h3⟩ h2
      · exact h3
theorem fair_set {T : List (List Bool)} {P : Nat} {cost x : List Int} {p : Nat} (R : RS T P cost x p) (hp : p < P) (hc : ∀ t : Nat, t < T.length → rd cost (t : Int) ≤ 2147483648) {y : Int} (hy : 0 ≤ y) : (pricesV T P cost (x.set p y)).2 = true ↔ y ≤ top T P cost x p := by
  obtain ⟨t0, t1, ts⟩ := top_spec R hp hc
  have hl := R.len
  have hz := R.zeros p (Nat.le_refl _) hp
  have hps := fun t => paid_set (T := T) (l := x) (p := p) (by omega) hz y t P
  rw [pricesV_true (by simp [hl])]
  constructor
  · rintro ⟨h1, h2⟩
    rw [ts y hy]
    refine ⟨?_, fun t ht hat => ?_⟩
    · by_cases e : y = 0
      · exact .inl e
      · refine .inr ((cov_getD hp).1 ?_)
        have h3 := h1 p hp
        unfold badP at h3
        rw [rd_set_same (by omega)] at h3
        cases hx : (cov T P).getD p false with
        | true => rfl
        | false => exact absurd (.inr (.inr ⟨by omega, hx⟩)) h3
    · have := h2 t ht
      rw [hps, if_pos ⟨hp, hat⟩] at this
      unfold left
      omega
  · intro h
    have hs := (ts y hy).1 h
    refine ⟨fun q hq => ?_, fun t ht => ?_⟩
    · by_cases e : q = p
      · subst e
        unfold badP
        rw [rd_set_same (by omega)]
        rintro (h3 | h3 | ⟨h3, h4⟩)
        · omega
        · omega
        · rcases hs.1 with h5 | h5
          · omega
          · rw [(cov_getD hq).2 h5] at h4; cases h4
      · have := R.good q hq
        unfold badP at this ⊢
        rw [rd_set_other e]
        exact this
    · rw [hps]
      by_cases hat : at2 T t p = true
      · have := hs.2 t ht hat
        rw [if_pos ⟨hp, hat⟩]
        unfold left at this
        omega
      · rw [if_neg (fun h => hat h.2), Int.add_zero]
        exact R.pay t ht
theorem RS.next {T : List (List Bool)} {P : Nat} {cost x : List Int} {p : Nat} (R : RS T P cost x p) (hp : p < P) (hc : ∀ t : Nat, t < T.length → rd cost (t : Int) ≤ 2147483648) : RS T P cost (x.set p (top T P cost x p)) (p + 1) := by
  have hl := R.len
  have h := (pricesV_true (cost := cost) (by simp [hl])).1 ((fair_set R hp hc (top_spec R hp hc).1).2 (Int.le_refl _))
  exact ⟨by simp [hl], fun q h1 h2 => by rw [rd_set_other (by omega)]; exact R.zeros q (by omega) h2, h.1, h.2⟩
end Go.Proofs.Ytcaefoljlmdjaaa.Pure
