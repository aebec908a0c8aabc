/- Greedy, in plain lists: the program's side. -/
import Derived.Test.YtcaefoljlmdjaaaPureCost
import Derived.Test.YtcaefoljlmdjaaaCHx5
namespace Go.Proofs.Ytcaefoljlmdjaaa.Pure
open Go.RowKit Go.Proofs.Ytcaefoljlmdjaaa.CH Go.Proofs.YtcaefoljlmdjaaaW.PrintWords Go.Proofs.YtcaefoljlmdjaaaW.PrintLast Go.Proofs.YtcaefoljlmdjaaaW.PrintMore
set_option linter.unusedVariables false
set_option linter.unusedSimpArgs false
/-- the new pieces of a tool among the first ones -/
def fre (T : List (List Bool)) (l : List Int) (t : Nat) : Nat → Int
  | 0 => 0
  | p + 1 => if at2 T t p = true ∧ reachedBy T l p = false then fre T l t p + 1 else fre T l t p
/-- the pieces that are still open -/
def opn (T : List (List Bool)) (P : Nat) (l : List Int) : List Bool := (List.range P).map fun p => (cov T P).getD p false && !reachedBy T l p
/-- their number among the first ones -/
def opc (T : List (List Bool)) (P : Nat) (l : List Int) : Nat → Nat
  | 0 => 0
  | p + 1 => if (cov T P).getD p false = true ∧ reachedBy T l p = false then opc T P l p + 1 else opc T P l p
theorem fre_range (T : List (List Bool)) (l : List Int) (t : Nat) : ∀ p, 0 ≤ fre T l t p ∧ fre T l t p ≤ (p : Int)
  | 0 => by simp [fre]
  | p + 1 => by
    have := fre_range T l t p
    rw [fre]
    split <;> omega
theorem fre_pos (T : List (List Bool)) (l : List Int) (t : Nat) : ∀ n, 0 < fre T l t n ↔ ∃ p, p < n ∧ at2 T t p = true ∧ reachedBy T l p = false
  | 0 => by simp [fre]
  | n + 1 => by
    have h0 := fre_range T l t n
    have ih := fre_pos T l t n
    rw [fre]
    by_cases e : at2 T t n = true ∧ reachedBy T l n = false
    · rw [if_pos e]
      exact ⟨fun _ => ⟨n, by omega, e⟩, fun _ => by omega⟩
    · rw [if_neg e, ih]
      constructor
      · rintro ⟨p, h1, h2⟩
        exact ⟨p, by omega, h2⟩
      · rintro ⟨p, h1, h2⟩
        by_cases ep : p = n
        · subst ep; exact absurd h2 e
        · exact ⟨p, by omega, h2⟩
theorem cov_at {T : List (List Bool)} {P p : Nat} (hp : p < P) {t : Nat} (ht : t < T.length) (h : at2 T t p = true) : (cov T P).getD p false = true := by
  unfold cov
  simp [List.getD_eq_getElem?_getD, hp]
  exact ⟨t, ht, by simpa using h⟩
theorem cov_ex {T : List (List Bool)} {P p : Nat} (hp : p < P) (h : (cov T P).getD p false = true) : ∃ t, t < T.length ∧ at2 T t p = true := by
  unfold cov at h
  simp [List.getD_eq_getElem?_getD, hp] at h
  obtain ⟨t, ht, h2⟩ := h
  exact ⟨t, ht, by simpa using h2⟩
theorem reached_append (T : List (List Bool)) (l : List Int) (t p : Nat) : reachedBy T (l ++ [(t : Int)]) p = (reachedBy T l p || at2 T t p) := by
  unfold reachedBy
  rw [List.any_append]
  simp
theorem opc_step {T : List (List Bool)} {P : Nat} {l : List Int} {t : Nat} (ht : t < T.length) : ∀ n, n ≤ P → (opc T P l n : Int) = opc T P (l ++ [(t : Int)]) n + fre T l t n
  | 0, _ => by simp [opc, fre]
  | n + 1, hn => by
    have ih := opc_step (P := P) (l := l) ht n (by omega)
    have hc := cov_at (T := T) (P := P) (p := n) (by omega) ht
    rw [opc, opc, fre, reached_append]
    cases h1 : at2 T t n with
    | true =>
      rw [hc h1]
      cases h2 : reachedBy T l n <;> simp <;> omega
    | false =>
      cases h2 : reachedBy T l n <;> cases h3 : (cov T P).getD n false <;> simp <;> omega
theorem opc_le (T : List (List Bool)) (P : Nat) (l : List Int) : ∀ n, opc T P l n ≤ n
  | 0 => by simp [opc]
  | n + 1 => by
    have := opc_le T P l n
    rw [opc]
    split <;> omega
theorem opn_length (T : List (List Bool)) (P : Nat) (l : List Int) : (opn T P l).length = P := by simp [opn]
theorem opn_getD {T : List (List Bool)} {P : Nat} {l : List Int} {p : Nat} (hp : p < P) : (opn T P l).getD p false = ((cov T P).getD p false && !reachedBy T l p) := by
  simp [opn, List.getD_eq_getElem?_getD, hp]
theorem opn_nil (T : List (List Bool)) (P : Nat) : opn T P [] = cov T P := by
  apply List.ext_getElem
  · simp [opn, cov]
  · intro p h1 h2
    rw [opn_length] at h1
    have := opn_getD (T := T) (l := []) h1
    simp [List.getD_eq_getElem?_getD, reachedBy, opn_length, h1, h2] at this
    exact this
theorem opn_step {T : List (List Bool)} {P : Nat} {l : List Int} {t : Nat} : offFrom 0 (opn T P l) (rd_L1 T (t : Int)) = opn T P (l ++ [(t : Int)]) := by
  unfold offFrom
  rw [opn_length]
  unfold opn
  apply List.map_congr_left
  intro p hp
  rw [List.mem_range] at hp
  rw [reached_append]
  have h1 := opn_getD (T := T) (l := l) hp
  unfold opn at h1
  rw [h1]
  simp only [Nat.zero_le, decide_true, Bool.true_and]
  rw [Bool.not_or, Bool.and_assoc]
  rfl
theorem opn_contains {T : List (List Bool)} {P : Nat} {l : List Int} : (opn T P l).contains true = !allBy T P (cov T P) l := by
  rw [Bool.eq_iff_iff]
  unfold opn allBy
  rw [List.contains_iff_mem, List.mem_map]
  simp only [Bool.not_eq_true', List.all_eq_false, List.mem_range, Bool.or_eq_true, Bool.not_eq_true, Bool.and_eq_true]
  constructor
  · rintro ⟨p, hp, h1, h2⟩
    exact ⟨p, hp, by rw [h1, h2]; simp⟩
  · rintro ⟨p, hp, h1⟩
    refine ⟨p, hp, ?_⟩
    cases hc : (cov T P).getD p false <;> cases hr : reachedBy T l p <;> simp_all
/-- the best tool among the first ones, -1 for none -/
def cho (T : List (List Bool)) (P : Nat) (cost l : List Int) : Nat → Int
  | 0 => -1
  | t + 1 => if fre T l t P > 0 ∧ (cho T P cost l t < 0 ∨ rd cost (t : Int) * fre T l (cho T P cost l t).toNat P < rd cost (cho T P cost l t) * fre T l t P) then (t : Int) else cho T P cost l t
/-- its new pieces -/
def gai (T : List (List Bool)) (P : Nat) (cost l : List Int) (t : Nat) : Int := if cho T P cost l t < 0 then 0 else fre T l (cho T P cost l t).toNat P
theorem cho_spec (T : List (List Bool)) (P : Nat) (cost l : List Int) : ∀ n, (cho T P cost l n = -1 ∧ ∀ t, t < n → ¬ fre T l t P > 0) ∨ (∃ t, t < n ∧ cho T P cost l n = (t : Int) ∧ fre T l t P > 0)
  | 0 => .inl ⟨rfl, fun t ht => by omega⟩
  | n + 1 => by
    rw [cho]
    by_cases e : fre T l n P > 0 ∧ (cho T P cost l n < 0 ∨ rd cost (n : Int) * fre T l (cho T P cost l n).toNat P < rd cost (cho T P cost l n) * fre T l n P)
    · rw [if_pos e]
      exact .inr ⟨n, by omega, rfl, e.1⟩
    · rw [if_neg e]
      rcases cho_spec T P cost l n with ⟨h1, h2⟩ | ⟨t, h1, h2, h3⟩
      · refine .inl ⟨h1, fun t ht => ?_⟩
        by_cases et : t = n
        · subst et
          intro h4
          exact e ⟨h4, .inl (by omega)⟩
        · exact h2 t (by omega)
      · exact .inr ⟨t, by omega, h2, h3⟩
theorem cho_take {T : List (List Bool)} {P : Nat} {cost l : List Int} {t : Nat} (h : fre T l t P > 0 ∧ (cho T P cost l t < 0 ∨ rd cost (t : Int) * fre T l (cho T P cost l t).toNat P < rd cost (cho T P cost l t) * fre T l t P)) : cho T P cost l (t + 1) = (t : Int) ∧ gai T P cost l (t + 1) = fre T l t P := by
  have e : cho T P cost l (t + 1) = (t : Int) := by rw [cho, if_pos h]
  exact ⟨e, by unfold gai; rw [e, if_neg (by omega), Int.toNat_natCast]⟩
theorem cho_keep {T : List (List Bool)} {P : Nat} {cost l : List Int} {t : Nat} (h : ¬ (fre T l t P > 0 ∧ (cho T P cost l t < 0 ∨ rd cost (t : Int) * fre T l (cho T P cost l t).toNat P < rd cost (cho T P cost l t) * fre T l t P))) : cho T P cost l (t + 1) = cho T P cost l t ∧ gai T P cost l (t + 1) = gai T P cost l t := by
  have e : cho T P cost l (t + 1) = cho T P cost l t := by rw [cho, if_neg h]
  exact ⟨e, by unfold gai; rw [e]⟩
section
variable {T : List (List Bool)} {cost : List Int} {P : Nat} (G : Good T cost 200 200 P) {l : List Int} (hl : l.length ≤ 1000) (hi : ∀ t ∈ l, 0 ≤ t ∧ t < T.length)
include G hl hi
/-- the program's count of new pieces -/
theorem greedy_l2 {t : Nat} (ht : t < T.length) {r : List Int × Int × Int} {m : Int} (hE : Ev (fun k => choose_Greedy.l1 k T cost (opn T P l) l m (cho T P cost l (t + 1)) (gai T P cost l (t + 1)) T (T.length : Int) ((t + 1 : Nat) : Int)) r) :
    ∀ (d p : Nat), P - p = d → p ≤ P → Ev (fun k => choose_Greedy.l2 k T cost (opn T P l) l m (cho T P cost l t) (gai T P cost l t) (t : Int) (fre T l t p) T (T.length : Int) (t : Int) (rd_L1 T (t : Int)) ((rd_L1 T (t : Int)).length : Int) (p : Int)) r := by
  have hp := G.p
  have hn := G.n
  have hlen := G.len
  have _u := And.intro hl hi
  have hrow := G.tab.rect t ht
  have hol := opn_length T P l
  intro d
  induction d with
  | zero =>
    intro p hd hpp
    obtain rfl : p = P := by omega
    have hf := fre_range T l t p
    have hnx : wrap64 ((t : Int) + 1) = ((t + 1 : Nat) : Int) := wrap_next (by omega)
    by_cases h2 : fre T l t p > 0
    · by_cases h3 : cho T p cost l t < 0
      · obtain ⟨ec, eg⟩ := cho_take (cost := cost) ⟨h2, .inl h3⟩
        rw [ec, eg] at hE
        refine Ev.step (fun k => ?_) hE
        rw [choose_Greedy.l2, if_neg (by omega), hnx, if_pos h2, if_pos h3]
      · rcases cho_spec T p cost l t with ⟨h4, _⟩ | ⟨u, h4, h5, h6⟩
        · omega
        · have hg : gai T p cost l t = fre T l u p := by unfold gai; rw [h5, if_neg (by omega), Int.toNat_natCast]
          have hfu := fre_range T l u p
          have m1 := mul_small (G.c0 t (by omega)) (G.c1 t (by omega)) (show 0 ≤ fre T l u p by omega) (by omega)
          have m2 := mul_small (G.c0 u (by omega)) (G.c1 u (by omega)) (show 0 ≤ fre T l t p by omega) (by omega)
          by_cases h7 : rd cost (t : Int) * fre T l u p < rd cost (u : Int) * fre T l t p
          · obtain ⟨ec, eg⟩ := cho_take (cost := cost) (l := l) (t := t) (P := p) ⟨h2, .inr (by rw [h5, Int.toNat_natCast]; exact h7)⟩
            rw [ec, eg] at hE
            refine Ev.step (fun k => ?_) hE
            rw [choose_Greedy.l2, if_neg (by omega), hnx, if_pos h2, if_neg h3, if_pos (by omega), if_pos (by omega), if_pos (by omega), hg, h5, if_pos (by omega), m1, m2, if_pos h7]
          · obtain ⟨ec, eg⟩ := cho_keep (cost := cost) (l := l) (t := t) (P := p) (by
              rw [h5, Int.toNat_natCast]
              rintro ⟨_, h8 | h8⟩
              · omega
              · exact h7 h8)
            rw [ec, eg] at hE
            refine Ev.step (fun k => ?_) hE
            rw [choose_Greedy.l2, if_neg (by omega), hnx, if_pos h2, if_neg h3, if_pos (by omega), if_pos (by omega), if_pos (by omega), hg, h5, if_pos (by omega), m1, m2, if_neg h7]
    · obtain ⟨ec, eg⟩ := cho_keep (cost := cost) (l := l) (t := t) (P := p) (fun h => h2 h.1)
      rw [ec, eg] at hE
      refine Ev.step (fun k => ?_) hE
      rw [choose_Greedy.l2, if_neg (by omega), hnx, if_neg h2]
  | succ d ih =>
    intro p hd hpp
    have h1 := ih (p + 1) (by omega) (by omega)
    have hf := fre_range T l t p
    rw [fre] at h1
    refine Ev.step (fun k => ?_) h1
    rw [choose_Greedy.l2, if_pos (by omega), if_pos (by omega), if_pos (by omega), at2_row, wrap_next (by omega)]
    by_cases e : at2 T t p = true
    · rw [if_pos e, if_pos (by omega), rdOf_nat, opn_getD (by omega), cov_at (by omega) ht e, Bool.true_and]
      cases hx : reachedBy T l p with
      | true => rw [if_neg (by simp), if_neg (by simp)]
      | false => rw [if_pos (by rfl), if_pos ⟨e, rfl⟩, show wrap64 (fre T l t p + 1) = fre T l t p + 1 by unfold wrap64; omega]
    · rw [if_neg e, if_neg (fun h => e h.1)]
/-- the program's round over the tools -/
theorem greedy_l1 {b : Nat} (hb : b < T.length) (hcb : cho T P cost l T.length = (b : Int)) {r : List Int × Int × Int} {m : Int} (hE : Ev (fun k => choose_Greedy.l3 k T cost (opn T P l) l m (b : Int) (rd_L1 T (b : Int)) ((rd_L1 T (b : Int)).length : Int) ((0 : Nat) : Int)) r) :
    ∀ (d t : Nat), T.length - t = d → t ≤ T.length → Ev (fun k => choose_Greedy.l1 k T cost (opn T P l) l m (cho T P cost l t) (gai T P cost l t) T (T.length : Int) (t : Int)) r := by
  have hn := G.n
  intro d
  induction d with
  | zero =>
    intro t hd ht
    obtain rfl : t = T.length := by omega
    refine Ev.step (fun k => ?_) hE
    rw [choose_Greedy.l1, if_neg (by omega), hcb, if_pos (by omega), if_pos (by omega)]
    rfl
  | succ d ih =>
    intro t hd ht
    refine Ev.step (fun k => ?_) (greedy_l2 G hl hi (t := t) (by omega) (ih (t + 1) (by omega) (by omega)) P 0 (by omega) (Nat.zero_le _))
    rw [choose_Greedy.l1, if_pos (by omega), if_pos (by omega), if_pos (by omega)]
    rfl
/-- the program takes the tool's pieces off -/
theorem greedy_l3 {b : Nat} (hb : b < T.length) {r : List Int × Int × Int} : ∀ (d p : Nat) (x : List Bool), x.length = P → P - p = d → p ≤ P →
    Ev (fun k => choose_Greedy.l0 k T cost (offFrom p x (rd_L1 T (b : Int))) (l ++ [(b : Int)]) (csum cost (l ++ [(b : Int)]))) r → Ev (fun k => choose_Greedy.l3 k T cost x l (csum cost l) (b : Int) (rd_L1 T (b : Int)) ((rd_L1 T (b : Int)).length : Int) (p : Int)) r := by
  intro d
  have hr := G.tab.rect b hb
  have hp := G.p
  have hlen := G.len
  induction d with
  | zero =>
    intro p x hx hd hpp hE
    have hc := csum_range G (l ++ [(b : Int)]) (fun t ht => by
      rcases List.mem_append.1 ht with ht | ht
      · exact hi t ht
      · rw [List.mem_singleton] at ht; omega)
    rw [csum_append, csum, csum, Int.add_zero, List.length_append, List.length_singleton] at hc
    rw [csum_append, csum, csum, Int.add_zero] at hE
    refine Ev.step (fun k => ?_) hE
    rw [choose_Greedy.l3, if_neg (by omega), if_pos (by omega), if_pos (by omega), if_pos (by omega), offFrom_end (by omega), show wrap64 (csum cost l + rd cost (b : Int)) = csum cost l + rd cost (b : Int) by unfold wrap64; omega]
  | succ d ih =>
    intro p x hx hd hpp hE
    by_cases hc : x.getD p false = true
    · refine Ev.step (f := fun k => choose_Greedy.l3 k T cost (x.set p (!((rd_L1 T (b : Int)).getD p false))) l (csum cost l) (b : Int) (rd_L1 T (b : Int)) ((rd_L1 T (b : Int)).length : Int) ((p + 1 : Nat) : Int)) (fun k => ?_) (ih (p + 1) _ (by simp [hx]) (by omega) (by omega) ?_)
      · rw [choose_Greedy.l3, if_pos (by omega), if_pos (by omega), if_pos (by omega), if_pos (by omega), rdOf_nat, if_pos hc, wrap_next (by omega), Int.toNat_natCast, rdOf_nat]
      · rw [← offFrom_step (by omega) _ (by rw [hc]; simp)]
        exact hE
    · refine Ev.step (f := fun k => choose_Greedy.l3 k T cost (x.set p false) l (csum cost l) (b : Int) (rd_L1 T (b : Int)) ((rd_L1 T (b : Int)).length : Int) ((p + 1 : Nat) : Int)) (fun k => ?_) (ih (p + 1) _ (by simp [hx]) (by omega) (by omega) ?_)
      · rw [choose_Greedy.l3, if_pos (by omega), if_pos (by omega), if_pos (by omega), if_pos (by omega), rdOf_nat, if_neg hc, wrap_next (by omega), Int.toNat_natCast]
      · rw [← offFrom_step (by omega) _ (by rw [Bool.eq_false_iff.2 hc]; simp)]
        exact hE
/-- an open piece has a tool with a new piece -/
theorem cho_ex (hx : allBy T P (cov T P) l = false) : ∃ b, b < T.length ∧ cho T P cost l T.length = (b : Int) ∧ fre T l b P > 0 := by
  have _u := And.intro G (And.intro hl hi)
  unfold allBy at hx
  rw [List.all_eq_false] at hx
  obtain ⟨p, hp, h1⟩ := hx
  rw [List.mem_range] at hp
  have h2 : (cov T P).getD p false = true ∧ reachedBy T l p = false := by
    cases hc : (cov T P).getD p false <;> cases hr : reachedBy T l p <;> simp_all
  obtain ⟨t, ht, h3⟩ := cov_ex hp h2.1
  rcases cho_spec T P cost l T.length with ⟨_, h5⟩ | h5
  · exact absurd ((fre_pos T l t P).2 ⟨p, hp, h3, h2.2⟩) (h5 t ht)
  · exact h5
end
/-- what is kept of the tools that Greedy takes -/
structure Grd (T : List (List Bool)) (P : Nat) (l : List Int) : Prop where
  mem : ∀ t ∈ l, 0 ≤ t ∧ t < T.length
  nodup : l.Nodup
  len : l.length + opc T P l P ≤ P
/-- the tools that Greedy has taken after some rounds more -/
def gL (T : List (List Bool)) (P : Nat) (cost : List Int) : Nat → List Int → List Int
  | 0, l => l
  | d + 1, l => if allBy T P (cov T P) l = true then l else gL T P cost d (l ++ [cho T P cost l T.length])
theorem grd_nil (T : List (List Bool)) (P : Nat) : Grd T P [] := ⟨fun t ht => (by cases ht), List.nodup_nil, (by have := opc_le T P [] P; simpa using this)⟩
section
variable {T : List (List Bool)} {cost : List Int} {P : Nat} (G : Good T cost 200 200 P)
include G
theorem grd_len {l : List Int} (R : Grd T P l) : l.length ≤ 1000 := by
  have := R.len
  have := G.p
  omega
theorem grd_step {l : List Int} (R : Grd T P l) (hx : allBy T P (cov T P) l = false) : ∃ b, b < T.length ∧ cho T P cost l T.length = (b : Int) ∧ Grd T P (l ++ [(b : Int)]) ∧ opc T P (l ++ [(b : Int)]) P < opc T P l P := by
  obtain ⟨b, hb, hcb, hfb⟩ := cho_ex G (grd_len G R) R.mem hx
  have hs := opc_step (P := P) (l := l) hb P (Nat.le_refl _)
  have hnew : ¬ (b : Int) ∈ l := fun hm => by
    obtain ⟨p, h1, h2, h3⟩ := (fre_pos T l b P).1 hfb
    have : reachedBy T l p = true := by
      unfold reachedBy
      rw [List.any_eq_true]
      exact ⟨(b : Int), hm, by simpa using h2⟩
    rw [this] at h3; cases h3
  refine ⟨b, hb, hcb, ⟨fun t ht => ?_, ?_, ?_⟩, by omega⟩
  · rcases List.mem_append.1 ht with ht | ht
    · exact R.mem t ht
    · rw [List.mem_singleton] at ht; omega
  · rw [List.nodup_append]
    refine ⟨R.nodup, by simp, fun x hx y hy => ?_⟩
    rw [List.mem_singleton] at hy
    subst hy
    intro e
    subst e
    exact hnew hx
  · have := R.len
    rw [List.length_append, List.length_singleton]
    omega
theorem gL_spec : ∀ (d : Nat) (l : List Int), opc T P l P ≤ d → Grd T P l → Grd T P (gL T P cost d l) ∧ allBy T P (cov T P) (gL T P cost d l) = true
  | 0, l, hd, R => by
    rw [gL]
    refine ⟨R, ?_⟩
    cases hx : allBy T P (cov T P) l with
    | true => rfl
    | false =>
      obtain ⟨b, _, _, _, h⟩ := grd_step G R hx
      omega
  | d + 1, l, hd, R => by
    rw [gL]
    cases hx : allBy T P (cov T P) l with
    | true => rw [if_pos rfl]; exact ⟨R, hx⟩
    | false =>
      obtain ⟨b, hb, hcb, R2, h⟩ := grd_step G R hx
      rw [if_neg (by simp), hcb]
      exact gL_spec d _ (by omega) R2
theorem greedy_end {l : List Int} (R : Grd T P l) (hx : allBy T P (cov T P) l = true) : Ev (fun k => choose_Greedy.l0 k T cost (opn T P l) l (csum cost l)) (isort l, csum cost l, 0) := by
  have hp := G.p
  have hll := grd_len G R
  refine Ev.step (fun k => ?_) (Ev.bind (f := fun k b => if b = true then choose_Greedy.l1 k T cost (opn T P l) l (csum cost l) (-1) 0 T (T.length : Int) 0 else (slices_Sort_int_int.f k l).bind fun s => some (s, csum cost l, 0)) (contains_ev (x := opn T P l) (a := true) (by rw [opn_length]; omega)) ?_)
  · rw [choose_Greedy.l0]
  · rw [opn_contains, hx]
    refine Ev.congr (fun k => if_neg (by simp)) ?_
    refine Ev.congr (fun k => ?_) (Ev.now _)
    unfold slices_Sort_int_int.f
    rw [if_pos (by omega)]
    rfl
theorem greedy_loop : ∀ (d : Nat) (l : List Int), opc T P l P ≤ d → Grd T P l → Ev (fun k => choose_Greedy.l0 k T cost (opn T P l) l (csum cost l)) (isort (gL T P cost d l), csum cost (gL T P cost d l), 0)
  | 0, l, hd, R => greedy_end G R (gL_spec G 0 l hd R).2
  | d + 1, l, hd, R => by
    have hp := G.p
    rw [gL]
    cases hx : allBy T P (cov T P) l with
    | true => rw [if_pos rfl]; exact greedy_end G R hx
    | false =>
      have hll := grd_len G R
      obtain ⟨b, hb, hcb, R2, h⟩ := grd_step G R hx
      rw [if_neg (by simp), hcb]
      have hA := greedy_loop d _ (by omega) R2
      rw [← opn_step] at hA
      have h3 := greedy_l3 G hll R.mem hb P 0 (opn T P l) (opn_length T P l) (by omega) (Nat.zero_le _) hA
      have h1 := greedy_l1 G hll R.mem hb hcb h3 T.length 0 (by omega) (Nat.zero_le _)
      refine Ev.step (fun k => ?_) (Ev.bind (f := fun k b => if b = true then choose_Greedy.l1 k T cost (opn T P l) l (csum cost l) (-1) 0 T (T.length : Int) 0 else (slices_Sort_int_int.f k l).bind fun s => some (s, csum cost l, 0)) (contains_ev (x := opn T P l) (a := true) (by rw [opn_length]; omega)) ?_)
      · rw [choose_Greedy.l0]
      · rw [opn_contains, hx]
        exact Ev.congr (fun k => if_pos rfl) h1
/-- what Greedy tells of a good table -/
theorem greedy_ev (hV : Ev (fun k => choose_valid.f k T cost 200 200) 0) : Ev (fun k => choose_Greedy.f k T cost) (isort (gL T P cost P []), csum cost (gL T P cost P []), 0) := by
  have hA := greedy_loop G P [] (opc_le T P [] P) (grd_nil T P)
  rw [opn_nil] at hA
  have hV' : Ev (fun k => choose_Valid.f k T cost) 0 := Ev.congr (fun k => by rw [choose_Valid.f]) (Ev.bind (f := fun _ v => some v) hV (Ev.now _))
  refine Ev.congr (fun k => ?_) (Ev.bind (f := fun k v => if v = 0 then (choose_Coverable.f k T).bind fun c => choose_Greedy.l0 k T cost c ([] : List Int) 0 else some (([] : List Int), 0, v)) hV' ?_)
  · rw [choose_Greedy.f]
  · refine Ev.congr (fun k => if_pos rfl) ?_
    exact Ev.bind (f := fun k c => choose_Greedy.l0 k T cost c ([] : List Int) 0) (coverable G.tab) hA
end
end Go.Proofs.Ytcaefoljlmdjaaa.Pure
