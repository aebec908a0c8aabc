/- ChooseGreedy, in plain lists. -/
import Derived.Test.YtcaefoljlmdjaaaPureGreedyP
import Derived.Test.YtcaefoljlmdjaaaCHx13
namespace Go.Proofs.Ytcaefoljlmdjaaa.Pure
open Go.RowKit Go.Proofs.Ytcaefoljlmdjaaa.CH Go.Proofs.YtcaefoljlmdjaaaW.PrintWords Go.Proofs.YtcaefoljlmdjaaaW.PrintLast Go.Proofs.YtcaefoljlmdjaaaW.PrintMore
set_option linter.unusedVariables false
set_option linter.unusedSimpArgs false
section
variable {T : List (List Bool)} {cost : List Int} {P : Nat} (G : Good T cost 200 200 P) {l : List Int} (hl : l.length ≤ 1000) (hi : ∀ t ∈ l, 0 ≤ t ∧ t < T.length)
include G hl hi
theorem fresh_l0 {t : Nat} (ht : t < T.length) : ∀ (d p : Nat), P - p = d → p ≤ P → Ev (fun k => swarfref30_fresh.l0 k T l (t : Int) (fre T l t p) (p : Int)) (fre T l t P) := by
  have hp := G.p
  intro d
  induction d with
  | zero =>
    intro p hd hpp
    obtain rfl : p = P := by omega
    refine Ev.step (f := fun _ => some _) (fun k => ?_) (Ev.now _)
    rw [swarfref30_fresh.l0, refPieces_eq G.tab, Option.bind_some, if_neg (by omega)]
  | succ d ih =>
    intro p hd hpp
    have hrow := G.tab.rect t ht
    have h1 := ih (p + 1) (by omega) (by omega)
    have hf := fre_range T l t p
    have hre := reached_ev G.tab (l := l) (by omega) hi (p := p) (by omega)
    rw [fre] at h1
    by_cases e : at2 T t p = true
    · refine Ev.step (fun k => ?_) (Ev.bind (f := fun k b => if b = true then swarfref30_fresh.l0 k T l (t : Int) (fre T l t p) ((p + 1 : Nat) : Int) else swarfref30_fresh.l0 k T l (t : Int) (fre T l t p + 1) ((p + 1 : Nat) : Int)) hre ?_)
      · rw [swarfref30_fresh.l0, refPieces_eq G.tab, Option.bind_some, if_pos (by omega), if_pos (by omega), if_pos (by omega), if_pos (by omega), if_pos (by omega), at2_row, if_pos e, wrap_next (by omega), show wrap64 (fre T l t p + 1) = fre T l t p + 1 by unfold wrap64; omega]
      · cases hx : reachedBy T l p with
        | true =>
          rw [hx, if_neg (by simp)] at h1
          exact Ev.congr (fun k => if_pos rfl) h1
        | false =>
          rw [hx, if_pos ⟨e, rfl⟩] at h1
          exact Ev.congr (fun k => if_neg (by simp)) h1
    · rw [if_neg (fun h => e h.1)] at h1
      refine Ev.step (fun k => ?_) h1
      rw [swarfref30_fresh.l0, refPieces_eq G.tab, Option.bind_some, if_pos (by omega), if_pos (by omega), if_pos (by omega), if_pos (by omega), if_pos (by omega), at2_row, if_neg e, wrap_next (by omega)]
theorem fresh_ev {t : Nat} (ht : t < T.length) : Ev (fun k => swarfref30_fresh.f k T l (t : Int)) (fre T l t P) := fresh_l0 G hl hi ht P 0 (by omega) (Nat.zero_le _)
/-- the reference's round over the tools -/
theorem refGreedy_l1 {r : List Int × Int × Int} (hE : Ev (fun k => swarfref30_Greedy.l0 k T cost (l ++ [cho T P cost l T.length])) r) :
    ∀ (d t : Nat), T.length - t = d → t ≤ T.length → Ev (fun k => swarfref30_Greedy.l1 k T cost l (cho T P cost l t) (t : Int)) r := by
  have hp := G.p
  have hn := G.n
  have hlen := G.len
  intro d
  induction d with
  | zero =>
    intro t hd ht
    obtain rfl : t = T.length := by omega
    refine Ev.step (fun k => ?_) hE
    rw [swarfref30_Greedy.l1, if_neg (by omega), if_pos (by omega)]
  | succ d ih =>
    intro t hd ht
    have h1 := ih (t + 1) (by omega) (by omega)
    have hf := fre_range T l t P
    have hft := fresh_ev G hl hi (t := t) (by omega)
    have hnx : wrap64 ((t : Int) + 1) = ((t + 1 : Nat) : Int) := wrap_next (by omega)
    rw [cho] at h1
    refine Ev.step (fun k => ?_) (Ev.bind (f := fun k b => if b > 0 then (if cho T P cost l t < 0 then swarfref30_Greedy.l1 k T cost l (t : Int) ((t + 1 : Nat) : Int) else (if 0 ≤ (t : Int) then (if (t : Int) < (cost.length : Int) then ((swarfref30_fresh.f k T l (cho T P cost l t)).bind fun c => (if 0 ≤ cho T P cost l t then (if cho T P cost l t < (cost.length : Int) then (if (wrap64 ((rd cost (t : Int)) * c)) < (wrap64 ((rd cost (cho T P cost l t)) * b)) then swarfref30_Greedy.l1 k T cost l (t : Int) ((t + 1 : Nat) : Int) else swarfref30_Greedy.l1 k T cost l (cho T P cost l t) ((t + 1 : Nat) : Int)) else none) else none)) else none) else none)) else swarfref30_Greedy.l1 k T cost l (cho T P cost l t) ((t + 1 : Nat) : Int)) hft ?_)
    · rw [swarfref30_Greedy.l1, if_pos (by omega), hnx]
    · by_cases h2 : fre T l t P > 0
      · refine Ev.congr (fun k => if_pos h2) ?_
        by_cases h3 : cho T P cost l t < 0
        · rw [if_pos ⟨h2, .inl h3⟩] at h1
          exact Ev.congr (fun k => if_pos h3) h1
        · refine Ev.congr (fun k => if_neg h3) (Ev.congr (fun k => if_pos (by omega)) (Ev.congr (fun k => if_pos (by omega)) ?_))
          rcases cho_spec T P cost l t with ⟨h4, _⟩ | ⟨u, h4, h5, h6⟩
          · omega
          · rw [h5] at h1 ⊢
            rw [Int.toNat_natCast] at h1
            have hfu := fre_range T l u P
            refine Ev.bind (f := fun k c => (if 0 ≤ (u : Int) then (if (u : Int) < (cost.length : Int) then (if (wrap64 ((rd cost (t : Int)) * c)) < (wrap64 ((rd cost (u : Int)) * fre T l t P)) then swarfref30_Greedy.l1 k T cost l (t : Int) ((t + 1 : Nat) : Int) else swarfref30_Greedy.l1 k T cost l (u : Int) ((t + 1 : Nat) : Int)) else none) else none)) (fresh_ev G hl hi (t := u) (by omega)) ?_
            refine Ev.congr (fun k => if_pos (by omega)) (Ev.congr (fun k => if_pos (by omega)) ?_)
            rw [mul_small (G.c0 t (by omega)) (G.c1 t (by omega)) (by omega) (by omega), mul_small (G.c0 u (by omega)) (G.c1 u (by omega)) (by omega) (by omega)]
            by_cases h7 : rd cost (t : Int) * fre T l u P < rd cost (u : Int) * fre T l t P
            · rw [if_pos ⟨h2, .inr h7⟩] at h1
              exact Ev.congr (fun k => if_pos h7) h1
            · rw [if_neg (by rintro ⟨_, h8 | h8⟩; exact absurd h8 (by omega); exact h7 h8)] at h1
              exact Ev.congr (fun k => if_neg h7) h1
      · rw [if_neg (fun h => h2 h.1)] at h1
        exact Ev.congr (fun k => if_neg h2) h1
end
/-- the list of tools, tool by tool -/
def bkt (l : List Int) : Nat → List Int
  | 0 => []
  | n + 1 => bkt l n ++ l.filter (fun t => decide (t = (n : Int)))
theorem bkt_mem (l : List Int) : ∀ n, ∀ t ∈ bkt l n, t ∈ l ∧ 0 ≤ t ∧ t < (n : Int)
  | 0, t, h => by simp [bkt] at h
  | n + 1, t, h => by
    rw [bkt, List.mem_append, List.mem_filter] at h
    rcases h with h | ⟨h, h2⟩
    · have := bkt_mem l n t h
      exact ⟨this.1, by omega⟩
    · rw [decide_eq_true_eq] at h2
      exact ⟨h, by omega⟩
theorem bkt_sorted (l : List Int) : ∀ n, (bkt l n).Pairwise (· ≤ ·)
  | 0 => List.Pairwise.nil
  | n + 1 => by
    rw [bkt, List.pairwise_append]
    refine ⟨bkt_sorted l n, ?_, fun x hx y hy => ?_⟩
    · rw [List.pairwise_iff_getElem]
      intro i j h1 h2 h3
      have e1 := List.getElem_mem h1
      have e2 := List.getElem_mem h2
      rw [List.mem_filter, decide_eq_true_eq] at e1 e2
      omega
    · have h1 := bkt_mem l n x hx
      rw [List.mem_filter, decide_eq_true_eq] at hy
      omega
theorem bkt_count (l : List Int) (t : Int) : ∀ n, (bkt l n).count t = if 0 ≤ t ∧ t < (n : Int) then l.count t else 0
  | 0 => by rw [if_neg (by omega)]; simp [bkt]
  | n + 1 => by
    rw [bkt, List.count_append, bkt_count l t n]
    by_cases e : t = (n : Int)
    · subst e
      rw [if_neg (by omega), if_pos (by omega), List.count_filter (by simp)]
      omega
    · have h1 : (l.filter (fun t => decide (t = (n : Int)))).count t = 0 := by
        rw [List.count_eq_zero]
        intro h
        rw [List.mem_filter, decide_eq_true_eq] at h
        exact e h.2
      rw [h1, Nat.add_zero]
      by_cases h2 : 0 ≤ t ∧ t < (n : Int)
      · rw [if_pos h2, if_pos (by omega)]
      · rw [if_neg h2, if_neg (by omega)]
theorem bkt_isort {l : List Int} {n : Nat} (h : ∀ t ∈ l, 0 ≤ t ∧ t < (n : Int)) : bkt l n = isort l := by
  refine List.Perm.eq_of_pairwise (le := fun a b : Int => a ≤ b) (fun a b _ _ h1 h2 => Int.le_antisymm h1 h2) (bkt_sorted l n) (isort_sorted l) (List.Perm.trans ?_ (isort_perm l).symm)
  rw [List.perm_iff_count]
  intro t
  rw [bkt_count]
  by_cases e : t ∈ l
  · rw [if_pos (h t e)]
  · rw [List.count_eq_zero.2 e]
    split <;> rfl
theorem bkt_length {l : List Int} {n : Nat} (h : ∀ t ∈ l, 0 ≤ t ∧ t < (n : Int)) : (bkt l n).length = l.length := by rw [bkt_isort h, isort_length]
section
variable {T : List (List Bool)} {cost : List Int} {P : Nat} (G : Good T cost 200 200 P) {l : List Int} (hl : l.length ≤ 1000) (hi : ∀ t ∈ l, 0 ≤ t ∧ t < T.length)
include G hl hi
theorem refGreedy_l3 {t : Nat} (ht : t < T.length) {m : List Int} (hm : m.length ≤ 1000000) {r : List Int × Int × Int} (hE : Ev (fun k => swarfref30_Greedy.l2 k T cost l (m ++ l.filter (fun u => decide (u = (t : Int)))) ((t + 1 : Nat) : Int)) r) :
    ∀ (d j : Nat), l.length - j = d → j ≤ l.length → Ev (fun k => swarfref30_Greedy.l3 k T cost l (m ++ (l.take j).filter (fun u => decide (u = (t : Int)))) (t : Int) (j : Int)) r := by
  have _u := hi
  have hn := G.n
  intro d
  induction d with
  | zero =>
    intro j hd hj
    refine Ev.step (fun k => ?_) hE
    rw [swarfref30_Greedy.l3, if_neg (by omega), wrap_next (by omega), List.take_of_length_le (by omega)]
  | succ d ih =>
    intro j hd hj
    have hlt : j < l.length := by omega
    have h1 := ih (j + 1) (by omega) (by omega)
    have hfl : ((l.take j).filter (fun u => decide (u = (t : Int)))).length ≤ j := Nat.le_trans (List.length_filter_le ..) (by rw [List.length_take]; omega)
    rw [← List.take_append_getElem hlt, List.filter_append, List.filter_cons] at h1
    refine Ev.step (fun k => ?_) h1
    rw [swarfref30_Greedy.l3, if_pos (by omega), if_pos (by omega), rd_at hlt, wrap_next (by omega)]
    by_cases e : l[j] = (t : Int)
    · rw [if_pos e, if_pos (by rw [List.length_append]; omega), if_pos (decide_eq_true e), List.filter_nil, e, List.append_assoc]
    · rw [if_neg e, if_neg (by simpa using e), List.filter_nil, List.append_nil]
theorem refGreedy_l2 : ∀ (d t : Nat), T.length - t = d → t ≤ T.length → Ev (fun k => swarfref30_Greedy.l2 k T cost l (bkt l t) (t : Int)) (bkt l T.length, csum cost (bkt l T.length), 0) := by
  have hn := G.n
  intro d
  induction d with
  | zero =>
    intro t hd ht
    obtain rfl : t = T.length := by omega
    refine Ev.step (fun k => ?_) (Ev.bind (f := fun _ c => some (bkt l T.length, c, (0 : Int))) (cost_ev G (l := bkt l T.length) (by rw [bkt_length hi]; omega) (fun t ht => hi t (bkt_mem l _ t ht).1)) (Ev.now _))
    rw [swarfref30_Greedy.l2, if_neg (by omega)]
  | succ d ih =>
    intro t hd ht
    have hbl : (bkt l t).length ≤ l.length := by
      have h1 := bkt_length hi
      have h2 : ∀ a b : Nat, (bkt l a).length ≤ (bkt l (a + b)).length := fun a b => by
        induction b with
        | zero => exact Nat.le_refl _
        | succ b ihb => rw [← Nat.add_assoc, bkt, List.length_append]; omega
      have h3 := h2 t (T.length - t)
      rw [show t + (T.length - t) = T.length by omega, h1] at h3
      exact h3
    have h1 := refGreedy_l3 G hl hi (t := t) (by omega) (m := bkt l t) (by omega) (ih (t + 1) (by omega) (by omega)) l.length 0 (by omega) (Nat.zero_le _)
    refine Ev.step (fun k => ?_) h1
    rw [swarfref30_Greedy.l2, if_pos (by omega), List.take_zero, List.filter_nil, List.append_nil]
    rfl
end
section
variable {T : List (List Bool)} {cost : List Int} {P : Nat} (G : Good T cost 200 200 P)
include G
theorem covers_at {l : List Int} (R : Grd T P l) : Ev (fun k => swarfref30_Covers.f k T l) (allBy T P (cov T P) l) := by
  have hcv := refCovers_ev G.tab (l := l) (grd_len G R)
  have hall : l.all (ok T) = true := by
    rw [List.all_eq_true]
    intro t ht
    have := R.mem t ht
    unfold ok
    rw [decide_eq_true this.1, decide_eq_true this.2]
    rfl
  rw [hall, Bool.true_and] at hcv
  exact hcv
theorem refGreedy_end {l : List Int} (R : Grd T P l) (hx : allBy T P (cov T P) l = true) : Ev (fun k => swarfref30_Greedy.l0 k T cost l) (isort l, csum cost l, 0) := by
  have hcv := covers_at G R
  rw [hx] at hcv
  have h2 := refGreedy_l2 G (grd_len G R) R.mem T.length 0 (by omega) (Nat.zero_le _)
  rw [bkt_isort R.mem, csum_perm cost (isort_perm l)] at h2
  refine Ev.step (fun k => ?_) (Ev.bind (f := fun k b => if b = true then swarfref30_Greedy.l2 k T cost l ([] : List Int) 0 else swarfref30_Greedy.l1 k T cost l (-1) 0) hcv (Ev.congr (fun k => if_pos rfl) h2))
  rw [swarfref30_Greedy.l0]
theorem refGreedy_loop : ∀ (d : Nat) (l : List Int), opc T P l P ≤ d → Grd T P l → Ev (fun k => swarfref30_Greedy.l0 k T cost l) (isort (gL T P cost d l), csum cost (gL T P cost d l), 0)
  | 0, l, hd, R => refGreedy_end G R (gL_spec G 0 l hd R).2
  | d + 1, l, hd, R => by
    rw [gL]
    cases hx : allBy T P (cov T P) l with
    | true => rw [if_pos rfl]; exact refGreedy_end G R hx
    | false =>
      obtain ⟨b, hb, hcb, R2, h⟩ := grd_step G R hx
      rw [if_neg (by simp), hcb]
      have hB := refGreedy_loop d _ (by omega) R2
      rw [← hcb] at hB ⊢
      have h1 := refGreedy_l1 G (grd_len G R) R.mem hB T.length 0 (by omega) (Nat.zero_le _)
      have hcv := covers_at G R
      rw [hx] at hcv
      refine Ev.step (fun k => ?_) (Ev.bind (f := fun k b => if b = true then swarfref30_Greedy.l2 k T cost l ([] : List Int) 0 else swarfref30_Greedy.l1 k T cost l (-1) 0) hcv (Ev.congr (fun k => if_neg (by simp)) h1))
      rw [swarfref30_Greedy.l0]
theorem refGreedy_ev (hW : Ev (fun k => swarfref30_Valid.f k T cost 200 200) 0) : Ev (fun k => swarfref30_Greedy.f k T cost) (isort (gL T P cost P []), csum cost (gL T P cost P []), 0) := by
  have hB := refGreedy_loop G P [] (opc_le T P [] P) (grd_nil T P)
  refine Ev.congr (fun k => ?_) (Ev.bind (f := fun k v => if v = 0 then swarfref30_Greedy.l0 k T cost ([] : List Int) else some (([] : List Int), 0, v)) hW (Ev.congr (fun k => if_pos rfl) hB))
  rw [swarfref30_Greedy.f]
end
theorem Greedy (l0 : List (List Bool)) (n0 : l0.length ≤ 9223372036854775807) (l1 : List Int) (n1 : l1.length ≤ 9223372036854775807) (y1 : ∀ n ∈ l1, (Lit.int .i64 n).wf = true) : ∃ k, swarflaw30_ChooseGreedy.f k l0 l1 = some true := by
  obtain ⟨s, hs⟩ := small l0 n0 l1 14 66 (2 * l0.length + 130) (by omega)
  have hS : Ev (fun k => swarfref30_Small.f k l0 l1 14 66) s := Ev.of (fun k => swarfref30_Small.mono _ _ _ _ _) hs
  obtain ⟨v, hV, hW⟩ := vals_ev l0 n0 l1 200 200
  have hj : Ev (fun k => swarflaw30_ChooseGreedy.j0 k l0 l1 true) true := by
    refine Ev.step (fun k => ?_) (Ev.bind (f := fun _ t => some t) awake_ev (Ev.now _))
    rw [swarflaw30_ChooseGreedy.j0, if_pos rfl]
  have hcore : Ev (fun k => swarflaw30_ChooseGreedy.j0 k l0 l1 false) true := by
    have hab : ∃ a n e, Ev (fun k => choose_Greedy.f k l0 l1) (a, n, e) ∧ Ev (fun k => swarfref30_Greedy.f k l0 l1) (a, n, e) ∧ a.length ≤ 1000 := by
      by_cases hv0 : v = 0
      · subst hv0
        obtain ⟨k, hk⟩ := Ev.rounds hV
        obtain ⟨P, G⟩ := valid_good (by omega) (by omega) (by omega) hk
        exact ⟨_, _, _, greedy_ev G hW, refGreedy_ev G hV, by rw [isort_length]; exact grd_len G (gL_spec G P [] (opc_le l0 P [] P) (grd_nil l0 P)).1⟩
      · have hW' : Ev (fun k => choose_Valid.f k l0 l1) v := Ev.congr (fun k => by rw [choose_Valid.f]) (Ev.bind (f := fun _ v => some v) hW (Ev.now _))
        refine ⟨[], 0, v, ?_, ?_, by simp⟩
        · refine Ev.congr (fun k => by rw [choose_Greedy.f]) (Ev.bind (f := fun k v => if v = 0 then _ else some (([] : List Int), 0, v)) hW' (Ev.congr (fun k => if_neg hv0) (Ev.now _)))
        · refine Ev.congr (fun k => by rw [swarfref30_Greedy.f]) (Ev.bind (f := fun k v => if v = 0 then _ else some (([] : List Int), 0, v)) hV (Ev.congr (fun k => if_neg hv0) (Ev.now _)))
    obtain ⟨a, n, e, hA, hB, hal⟩ := hab
    refine Ev.step (fun k => ?_) (Ev.bind (f := fun k a => (swarfref30_Greedy.f k l0 l1).bind fun b => if a.2.2 = b.2.2 then (if a.2.1 = b.2.1 then (swarfref30_SameInts.f k a.1 b.1).bind fun t => some t else some false) else some false) hA
      (Ev.bind (f := fun k b => if e = b.2.2 then (if n = b.2.1 then (swarfref30_SameInts.f k a b.1).bind fun t => some t else some false) else some false) hB ?_))
    · rw [swarflaw30_ChooseGreedy.j0, if_neg (by simp)]
    · refine Ev.congr (fun k => if_pos rfl) (Ev.congr (fun k => if_pos rfl) ?_)
      exact Ev.bind (f := fun _ t => some t) (sameInts_ev hal) (Ev.now _)
  refine Ev.rounds (Ev.congr (f := fun k => (swarflaw30_awake.f k).bind fun a => if a = true then (swarfref30_Small.f k l0 l1 14 66).bind fun b => swarflaw30_ChooseGreedy.j0 k l0 l1 (!b) else swarflaw30_ChooseGreedy.j0 k l0 l1 true) (fun k => by rw [swarflaw30_ChooseGreedy.f]) ?_)
  refine Ev.bind (f := fun k a => if a = true then (swarfref30_Small.f k l0 l1 14 66).bind fun b => swarflaw30_ChooseGreedy.j0 k l0 l1 (!b) else swarflaw30_ChooseGreedy.j0 k l0 l1 true) awake_ev ?_
  refine Ev.congr (fun k => if_pos rfl) ?_
  refine Ev.bind (f := fun k b => swarflaw30_ChooseGreedy.j0 k l0 l1 (!b)) hS ?_
  cases s with
  | false => exact hj
  | true => exact hcore
end Go.Proofs.Ytcaefoljlmdjaaa.Pure
