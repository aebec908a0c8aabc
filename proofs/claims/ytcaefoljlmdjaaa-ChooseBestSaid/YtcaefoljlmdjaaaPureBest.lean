/- ChooseBest, in plain lists. -/
import Derived.Test.YtcaefoljlmdjaaaPureBestP
import Derived.Test.YtcaefoljlmdjaaaCHx12
namespace Go.Proofs.Ytcaefoljlmdjaaa.Pure
open Go.RowKit Go.Proofs.Ytcaefoljlmdjaaa.CH Go.Proofs.YtcaefoljlmdjaaaW.PrintWords Go.Proofs.YtcaefoljlmdjaaaW.PrintLast Go.Proofs.YtcaefoljlmdjaaaW.PrintMore
set_option linter.unusedVariables false
set_option linter.unusedSimpArgs false
theorem before_l0 {x y : List Int} (hx : x.length ≤ 1000) : ∀ (d i : Nat), x.length - i = d → i ≤ x.length → i ≤ y.length → Ev (fun k => swarfref30_before.l0 k x y (i : Int)) (decide (cmpL (x.drop i) (y.drop i) < 0)) := by
  intro d
  induction d with
  | zero =>
    intro i hd hi hiy
    refine Ev.step (fun k => ?_) (Ev.step (f := fun _ => some _) (g := fun k => swarfref30_before.j1 k x y (i : Int) false) (fun k => ?_) (Ev.now _))
    · rw [swarfref30_before.l0, if_neg (by omega)]
    · rw [swarfref30_before.j1, if_neg (by simp), List.drop_of_length_le (i := i) (l := x) (by omega), show i = x.length by omega]
      by_cases h : x.length < y.length
      · rw [List.drop_eq_getElem_cons h, cmpL, decide_eq_true (show ((x.length : Int) < (y.length : Int)) by omega)]
        rfl
      · rw [List.drop_of_length_le (by omega), cmpL, decide_eq_false (show ¬ ((x.length : Int) < (y.length : Int)) by omega)]
        rfl
  | succ d ih =>
    intro i hd hi hiy
    have hlt : i < x.length := by omega
    by_cases h : i < y.length
    · rw [List.drop_eq_getElem_cons hlt, List.drop_eq_getElem_cons h, cmpL]
      by_cases e : x[i] = y[i]
      · rw [if_neg (by omega), if_neg (by omega)]
        refine Ev.step (fun k => ?_) (Ev.step (g := fun k => swarfref30_before.j1 k x y (i : Int) true) (fun k => ?_) (ih (i + 1) (by omega) (by omega) (by omega)))
        · rw [swarfref30_before.l0, if_pos (by omega), decide_eq_true (by omega)]
        · rw [swarfref30_before.j1, if_pos rfl, if_pos (by omega), if_pos (by omega), if_pos (by omega), rd_at hlt, rd_at h, if_pos e, wrap_next (by omega)]
      · refine Ev.step (fun k => ?_) (Ev.step (f := fun _ => some _) (g := fun k => swarfref30_before.j1 k x y (i : Int) true) (fun k => ?_) (Ev.now _))
        · rw [swarfref30_before.l0, if_pos (by omega), decide_eq_true (by omega)]
        · rw [swarfref30_before.j1, if_pos rfl, if_pos (by omega), if_pos (by omega), if_pos (by omega), rd_at hlt, rd_at h, if_neg e]
          by_cases e2 : x[i] < y[i]
          · rw [if_pos e2, decide_eq_true e2]; rfl
          · rw [if_neg e2, if_pos (by omega), decide_eq_false e2]; rfl
    · refine Ev.step (fun k => ?_) (Ev.step (f := fun _ => some _) (g := fun k => swarfref30_before.j1 k x y (i : Int) false) (fun k => ?_) (Ev.now _))
      · rw [swarfref30_before.l0, if_pos (by omega), decide_eq_false (by omega)]
      · rw [swarfref30_before.j1, if_neg (by simp), List.drop_of_length_le (i := i) (l := y) (by omega), List.drop_eq_getElem_cons hlt, cmpL, decide_eq_false (show ¬ ((x.length : Int) < (y.length : Int)) by omega)]
        rfl
theorem before_ev {x y : List Int} (hx : x.length ≤ 1000) : Ev (fun k => swarfref30_before.f k x y) (decide (cmpL x y < 0)) := before_l0 hx x.length 0 (by omega) (Nat.zero_le _) (Nat.zero_le _)
section
variable {T : List (List Bool)} {cost : List Int} {P : Nat} (G : Good T cost 12 64 P)
include G
theorem refBest_l1 {m : Nat} (hm : m < 2 ^ T.length) {r : List Int × Int × Int} (hE : Ev (fun k => swarfref30_Best.l0 k T cost ((bst T P cost (m + 1)).getD []) (bst T P cost (m + 1)).isSome ((m + 1 : Nat) : Int)) r) :
    ∀ (d i : Nat), T.length - i = d → i ≤ T.length → Ev (fun k => swarfref30_Best.l1 k T cost ((bst T P cost m).getD []) (bst T P cost m).isSome (m : Int) (lst m i) (i : Int)) r := by
  have hn := G.n
  have hm2 : 2 ^ T.length ≤ 2 ^ 12 := Nat.pow_le_pow_right (by decide) (by omega)
  intro d
  induction d with
  | zero =>
    intro i hd hi
    obtain rfl : i = T.length := by omega
    have hll := lst_length m T.length
    have hli := lst_in G m (Nat.le_refl T.length)
    have hbl := bst_len G m
    have hbi := bst_in G m
    have hcl := csum_range G _ hli
    have hcb := csum_range G _ hbi
    have hw : wrap64 (csum cost (lst m T.length) - csum cost ((bst T P cost m).getD [])) = csum cost (lst m T.length) - csum cost ((bst T P cost m).getD []) := by unfold wrap64; omega
    have hcov := refCovers_ev G.tab (l := lst m T.length) (by omega)
    have hall : (lst m T.length).all (ok T) = true := by
      rw [List.all_eq_true]
      intro t ht
      have := hli t ht
      unfold ok
      rw [decide_eq_true this.1, decide_eq_true this.2]
      rfl
    rw [hall, Bool.true_and] at hcov
    have hnext : wrap64 ((m : Int) + 1) = ((m + 1 : Nat) : Int) := wrap_next (by omega)
    refine Ev.step (f := fun k => (swarfref30_Covers.f k T (lst m T.length)).bind fun c => if c = true then (swarfref30_Cost.f k cost (lst m T.length)).bind fun d1 => (swarfref30_Cost.f k cost ((bst T P cost m).getD [])).bind fun d2 =>
        if (bst T P cost m).isSome = true then (if wrap64 (d1 - d2) < 0 then swarfref30_Best.l0 k T cost (lst m T.length) true ((m + 1 : Nat) : Int) else if wrap64 (d1 - d2) = 0 then (swarfref30_before.f k (lst m T.length) ((bst T P cost m).getD [])).bind fun t => if t = true then swarfref30_Best.l0 k T cost (lst m T.length) true ((m + 1 : Nat) : Int) else swarfref30_Best.l0 k T cost ((bst T P cost m).getD []) (bst T P cost m).isSome ((m + 1 : Nat) : Int) else swarfref30_Best.l0 k T cost ((bst T P cost m).getD []) (bst T P cost m).isSome ((m + 1 : Nat) : Int)) else swarfref30_Best.l0 k T cost (lst m T.length) true ((m + 1 : Nat) : Int)
        else swarfref30_Best.l0 k T cost ((bst T P cost m).getD []) (bst T P cost m).isSome ((m + 1 : Nat) : Int)) (fun k => ?_) (Ev.bind (f := fun k c => if c = true then (swarfref30_Cost.f k cost (lst m T.length)).bind fun d1 => (swarfref30_Cost.f k cost ((bst T P cost m).getD [])).bind fun d2 =>
        if (bst T P cost m).isSome = true then (if wrap64 (d1 - d2) < 0 then swarfref30_Best.l0 k T cost (lst m T.length) true ((m + 1 : Nat) : Int) else if wrap64 (d1 - d2) = 0 then (swarfref30_before.f k (lst m T.length) ((bst T P cost m).getD [])).bind fun t => if t = true then swarfref30_Best.l0 k T cost (lst m T.length) true ((m + 1 : Nat) : Int) else swarfref30_Best.l0 k T cost ((bst T P cost m).getD []) (bst T P cost m).isSome ((m + 1 : Nat) : Int) else swarfref30_Best.l0 k T cost ((bst T P cost m).getD []) (bst T P cost m).isSome ((m + 1 : Nat) : Int)) else swarfref30_Best.l0 k T cost (lst m T.length) true ((m + 1 : Nat) : Int)
        else swarfref30_Best.l0 k T cost ((bst T P cost m).getD []) (bst T P cost m).isSome ((m + 1 : Nat) : Int)) hcov ?_)
    · rw [swarfref30_Best.l1, if_neg (by omega), hnext]
    rw [bst] at hE
    unfold stp at hE
    by_cases hc : allBy T P (cov T P) (lst m T.length) = true
    · rw [if_pos hc] at hE
      refine Ev.congr (fun k => if_pos hc) ?_
      refine Ev.bind (f := fun k d1 => (swarfref30_Cost.f k cost ((bst T P cost m).getD [])).bind fun d2 =>
        if (bst T P cost m).isSome = true then (if wrap64 (d1 - d2) < 0 then swarfref30_Best.l0 k T cost (lst m T.length) true ((m + 1 : Nat) : Int) else if wrap64 (d1 - d2) = 0 then (swarfref30_before.f k (lst m T.length) ((bst T P cost m).getD [])).bind fun t => if t = true then swarfref30_Best.l0 k T cost (lst m T.length) true ((m + 1 : Nat) : Int) else swarfref30_Best.l0 k T cost ((bst T P cost m).getD []) (bst T P cost m).isSome ((m + 1 : Nat) : Int) else swarfref30_Best.l0 k T cost ((bst T P cost m).getD []) (bst T P cost m).isSome ((m + 1 : Nat) : Int)) else swarfref30_Best.l0 k T cost (lst m T.length) true ((m + 1 : Nat) : Int)) (cost_ev G (by omega) hli) ?_
      refine Ev.bind (f := fun k d2 =>
        if (bst T P cost m).isSome = true then (if wrap64 (csum cost (lst m T.length) - d2) < 0 then swarfref30_Best.l0 k T cost (lst m T.length) true ((m + 1 : Nat) : Int) else if wrap64 (csum cost (lst m T.length) - d2) = 0 then (swarfref30_before.f k (lst m T.length) ((bst T P cost m).getD [])).bind fun t => if t = true then swarfref30_Best.l0 k T cost (lst m T.length) true ((m + 1 : Nat) : Int) else swarfref30_Best.l0 k T cost ((bst T P cost m).getD []) (bst T P cost m).isSome ((m + 1 : Nat) : Int) else swarfref30_Best.l0 k T cost ((bst T P cost m).getD []) (bst T P cost m).isSome ((m + 1 : Nat) : Int)) else swarfref30_Best.l0 k T cost (lst m T.length) true ((m + 1 : Nat) : Int)) (cost_ev G (by omega) hbi) ?_
      rw [hw]
      cases hb : bst T P cost m with
      | none =>
        rw [hb] at hE
        exact Ev.congr (fun k => if_neg (by simp)) hE
      | some b =>
        rw [hb] at hE
        simp only [Option.getD_some, Option.isSome_some] at hE ⊢
        refine Ev.congr (fun k => if_pos trivial) ?_
        by_cases h1 : csum cost (lst m T.length) < csum cost b
        · rw [if_pos h1] at hE
          exact Ev.congr (fun k => if_pos (by omega)) hE
        · rw [if_neg h1] at hE
          refine Ev.congr (fun k => if_neg (by omega)) ?_
          by_cases h2 : csum cost (lst m T.length) = csum cost b
          · rw [if_pos h2] at hE
            refine Ev.congr (fun k => if_pos (by omega)) ?_
            refine Ev.bind (f := fun k t => if t = true then swarfref30_Best.l0 k T cost (lst m T.length) true ((m + 1 : Nat) : Int) else swarfref30_Best.l0 k T cost b true ((m + 1 : Nat) : Int)) (before_ev (by omega)) ?_
            by_cases h3 : cmpL (lst m T.length) b < 0
            · rw [if_pos h3] at hE
              exact Ev.congr (fun k => if_pos (decide_eq_true h3)) hE
            · rw [if_neg h3] at hE
              exact Ev.congr (fun k => if_neg (by simpa using h3)) hE
          · rw [if_neg h2] at hE
            exact Ev.congr (fun k => if_neg (by omega)) hE
    · rw [if_neg hc] at hE
      exact Ev.congr (fun k => if_neg hc) hE
  | succ d ih =>
    intro i hd hi
    have hll := lst_length m i
    refine Ev.step (fun k => ?_) (ih (i + 1) (by omega) (by omega))
    rw [swarfref30_Best.l1, if_pos (by omega), if_pos (by omega), wrap_next (by omega), lst]
    by_cases e : m.testBit i = true
    · rw [if_pos ((bit_tmod (by omega)).2 e), if_pos (by omega), if_pos e]
    · rw [if_neg (fun h => e ((bit_tmod (by omega)).1 h)), if_neg e]
theorem refBest_l0 : ∀ (d m : Nat), 2 ^ T.length - m = d → m ≤ 2 ^ T.length → Ev (fun k => swarfref30_Best.l0 k T cost ((bst T P cost m).getD []) (bst T P cost m).isSome (m : Int)) ((bst T P cost (2 ^ T.length)).getD [], csum cost ((bst T P cost (2 ^ T.length)).getD []), 0) := by
  have hn := G.n
  intro d
  induction d with
  | zero =>
    intro m hd hm
    obtain rfl : m = 2 ^ T.length := by omega
    have hbl := bst_len G (2 ^ T.length)
    refine Ev.step (fun k => ?_) (Ev.bind (f := fun _ c => some ((bst T P cost (2 ^ T.length)).getD [], c, (0 : Int))) (cost_ev G (l := (bst T P cost (2 ^ T.length)).getD []) (by omega) (bst_in G _)) (Ev.now _))
    rw [swarfref30_Best.l0, if_neg (by rw [shl_len (by omega)]; omega)]
  | succ d ih =>
    intro m hd hm
    refine Ev.step (fun k => ?_) (refBest_l1 G (m := m) (by omega) (ih (m + 1) (by omega) (by omega)) T.length 0 (by omega) (Nat.zero_le _))
    rw [swarfref30_Best.l0, if_pos (by rw [shl_len (by omega)]; omega)]
    rfl
theorem refBest_ev {b : List Int} (hb : bst T P cost (2 ^ T.length) = some b) (hV : Ev (fun k => swarfref30_Valid.f k T cost 12 64) 0) : Ev (fun k => swarfref30_Best.f k T cost) (b, csum cost b, 0) := by
  have h1 := refBest_l0 G (2 ^ T.length) 0 (Nat.sub_zero _) (Nat.zero_le _)
  rw [hb] at h1
  refine Ev.congr (fun k => ?_) (Ev.bind (f := fun k v => if v = 0 then swarfref30_Best.l0 k T cost ([] : List Int) false 0 else some (([] : List Int), 0, v)) hV ?_)
  · rw [swarfref30_Best.f]
  · exact Ev.congr (fun k => if_pos rfl) h1
end
theorem Best (l0 : List (List Bool)) (n0 : l0.length ≤ 9223372036854775807) (l1 : List Int) (n1 : l1.length ≤ 9223372036854775807) (y1 : ∀ n ∈ l1, (Lit.int .i64 n).wf = true) : ∃ k, swarflaw30_ChooseBest.f k l0 l1 = some true := by
  obtain ⟨s, hs⟩ := small l0 n0 l1 13 66 (2 * l0.length + 130) (by omega)
  have hS : Ev (fun k => swarfref30_Small.f k l0 l1 13 66) s := Ev.of (fun k => swarfref30_Small.mono _ _ _ _ _) hs
  obtain ⟨v, hV, hW⟩ := vals_ev l0 n0 l1 12 64
  have hj : Ev (fun k => swarflaw30_ChooseBest.j0 k l0 l1 true) true := by
    refine Ev.step (fun k => ?_) (Ev.bind (f := fun _ t => some t) awake_ev (Ev.now _))
    rw [swarflaw30_ChooseBest.j0, if_pos rfl]
  have hcore : Ev (fun k => swarflaw30_ChooseBest.j0 k l0 l1 false) true := by
    have hab : ∃ a n e, Ev (fun k => choose_Best.f k l0 l1) (a, n, e) ∧ Ev (fun k => swarfref30_Best.f k l0 l1) (a, n, e) ∧ a.length ≤ 1000 := by
      by_cases hv0 : v = 0
      · subst hv0
        obtain ⟨k, hk⟩ := Ev.rounds hV
        obtain ⟨P, G⟩ := valid_good (by omega) (by omega) (by omega) hk
        obtain ⟨b, hb⟩ := best_full G
        have hbl := bst_len G (2 ^ l0.length)
        rw [hb, Option.getD_some] at hbl
        exact ⟨_, _, _, best_ev G hb hW, refBest_ev G hb hV, by omega⟩
      · refine ⟨[], 0, v, ?_, ?_, by simp⟩
        · refine Ev.congr (fun k => by rw [choose_Best.f]) (Ev.bind (f := fun k v => if v = 0 then _ else some (([] : List Int), 0, v)) hW (Ev.congr (fun k => if_neg hv0) (Ev.now _)))
        · refine Ev.congr (fun k => by rw [swarfref30_Best.f]) (Ev.bind (f := fun k v => if v = 0 then _ else some (([] : List Int), 0, v)) hV (Ev.congr (fun k => if_neg hv0) (Ev.now _)))
    obtain ⟨a, n, e, hA, hB, hal⟩ := hab
    refine Ev.step (fun k => ?_) (Ev.bind (f := fun k a => (swarfref30_Best.f k l0 l1).bind fun b => if a.2.2 = b.2.2 then (if a.2.1 = b.2.1 then (swarfref30_SameInts.f k a.1 b.1).bind fun t => some t else some false) else some false) hA
      (Ev.bind (f := fun k b => if e = b.2.2 then (if n = b.2.1 then (swarfref30_SameInts.f k a b.1).bind fun t => some t else some false) else some false) hB ?_))
    · rw [swarflaw30_ChooseBest.j0, if_neg (by simp)]
    · refine Ev.congr (fun k => if_pos rfl) (Ev.congr (fun k => if_pos rfl) ?_)
      exact Ev.bind (f := fun _ t => some t) (sameInts_ev hal) (Ev.now _)
  refine Ev.rounds (Ev.congr (f := fun k => (swarflaw30_awake.f k).bind fun a => if a = true then (swarfref30_Small.f k l0 l1 13 66).bind fun b => swarflaw30_ChooseBest.j0 k l0 l1 (!b) else swarflaw30_ChooseBest.j0 k l0 l1 true) (fun k => by rw [swarflaw30_ChooseBest.f]) ?_)
  refine Ev.bind (f := fun k a => if a = true then (swarfref30_Small.f k l0 l1 13 66).bind fun b => swarflaw30_ChooseBest.j0 k l0 l1 (!b) else swarflaw30_ChooseBest.j0 k l0 l1 true) awake_ev ?_
  refine Ev.congr (fun k => if_pos rfl) ?_
  refine Ev.bind (f := fun k b => swarflaw30_ChooseBest.j0 k l0 l1 (!b)) hS ?_
  cases s with
  | false => exact hj
  | true => exact hcore
end Go.Proofs.Ytcaefoljlmdjaaa.Pure
