/- The sum of fair prices is at most the cost of tools that cover the pieces: plain lists. -/
import Derived.Test.YtcaefoljlmdjaaaPureRaiseP
import Derived.Test.YtcaefoljlmdjaaaPureGreedyP
import Derived.Test.YtcaefoljlmdjaaaPureBestP
import Derived.Test.YtcaefoljlmdjaaaCHx16
namespace Go.Proofs.Ytcaefoljlmdjaaa.Pure
open Go.RowKit Go.Proofs.Ytcaefoljlmdjaaa.CH Go.Proofs.YtcaefoljlmdjaaaW.PrintWords Go.Proofs.YtcaefoljlmdjaaaW.PrintLast Go.Proofs.YtcaefoljlmdjaaaW.PrintMore
set_option linter.unusedVariables false
set_option linter.unusedSimpArgs false
/-- what the first pieces pay to the tools of a list -/
def psum (T : List (List Bool)) (l : List Int) : List Int → Nat → Int
  | [], _ => 0
  | t :: b, n => paid T l t.toNat n + psum T l b n
def ssum (T : List (List Bool)) (l : List Int) : List Int → Nat → Int
  | [], _ => 0
  | t :: b, n => (if at2 T t.toNat n = true then rd l (n : Int) else 0) + ssum T l b n
theorem psum_succ (T : List (List Bool)) (l : List Int) : ∀ b n, psum T l b (n + 1) = psum T l b n + ssum T l b n
  | [], n => by simp [psum, ssum]
  | t :: b, n => by
    rw [psum, psum, ssum, psum_succ T l b n, paid]
    omega
theorem psum_zero (T : List (List Bool)) (l : List Int) : ∀ b, psum T l b 0 = 0
  | [] => rfl
  | t :: b => by rw [psum, psum_zero T l b, paid]; rfl
theorem ssum_ge (T : List (List Bool)) (l : List Int) {n : Nat} (h : 0 ≤ rd l (n : Int)) : ∀ b, 0 ≤ ssum T l b n ∧ (reachedBy T b n = true → rd l (n : Int) ≤ ssum T l b n)
  | [] => ⟨Int.le_refl _, fun h => by simp [reachedBy] at h⟩
  | t :: b => by
    obtain ⟨h1, h2⟩ := ssum_ge T l h b
    rw [ssum]
    by_cases e : at2 T t.toNat n = true
    · rw [if_pos e]
      exact ⟨by omega, fun _ => by omega⟩
    · rw [if_neg e]
      refine ⟨by omega, fun hr => ?_⟩
      have := h2 (by
        unfold reachedBy at hr ⊢
        rw [List.any_cons, Bool.eq_false_iff.2 e, Bool.false_or] at hr
        exact hr)
      omega
theorem tot_psum {T : List (List Bool)} {P : Nat} {l b : List Int} (hg : ∀ p, p < P → ¬ badP T P l p) (hc : allBy T P (cov T P) b = true) : ∀ n, n ≤ P → tot l n ≤ psum T l b n
  | 0, _ => by rw [tot, psum_zero]; exact Int.le_refl _
  | n + 1, hn => by
    have ih := tot_psum (b := b) hg hc n (by omega)
    rw [tot, psum_succ]
    have h1 := hg n (by omega)
    unfold badP at h1
    have h0 : 0 ≤ rd l (n : Int) := by omega
    obtain ⟨h2, h3⟩ := ssum_ge T l h0 b
    by_cases e : rd l (n : Int) = 0
    · omega
    · have h4 : (cov T P).getD n false = true := by
        cases hx : (cov T P).getD n false with
        | true => rfl
        | false => exact absurd (.inr (.inr ⟨by omega, hx⟩)) h1
      unfold allBy at hc
      rw [List.all_eq_true] at hc
      have h5 := hc n (List.mem_range.2 (by omega))
      rw [h4] at h5
      have := h3 (by simpa using h5)
      omega
theorem psum_cost {T : List (List Bool)} {P : Nat} {cost l : List Int} (hp : ∀ t, t < T.length → paid T l t P ≤ rd cost (t : Int)) : ∀ b : List Int, (∀ t ∈ b, 0 ≤ t ∧ t < T.length) → psum T l b P ≤ csum cost b
  | [], _ => Int.le_refl _
  | t :: b, h => by
    have ih := psum_cost hp b (fun u hu => h u (List.mem_cons_of_mem _ hu))
    obtain ⟨h0, h1⟩ := h t (List.mem_cons_self ..)
    have hto : ((t.toNat : Nat) : Int) = t := Int.toNat_of_nonneg h0
    have h2 := hp t.toNat (by omega)
    rw [hto] at h2
    rw [psum, csum]
    omega
theorem pricesV_sum {T : List (List Bool)} {P : Nat} {cost l : List Int} (h : (pricesV T P cost l).2 = true) : l.length = P ∧ (pricesV T P cost l).1 = tot l P := by
  unfold pricesV at h ⊢
  by_cases hl : l.length = P
  · rw [if_pos hl] at h ⊢
    refine ⟨hl, ?_⟩
    unfold fairV at h ⊢
    split at h
    · cases h
    · split at h
      · cases h
      · rename_i h1 h2
        rw [if_neg h1, if_neg h2]
  · rw [if_neg hl] at h
    cases h
/-- weak duality -/
theorem duality {T : List (List Bool)} {P : Nat} {cost l b : List Int} (h : (pricesV T P cost l).2 = true) (hb : ∀ t ∈ b, 0 ≤ t ∧ t < T.length) (hc : allBy T P (cov T P) b = true) : (pricesV T P cost l).1 ≤ csum cost b := by
  obtain ⟨hl, he⟩ := pricesV_sum h
  obtain ⟨h1, h2⟩ := (pricesV_true hl).1 h
  rw [he]
  exact Int.le_trans (tot_psum h1 hc P (Nat.le_refl _)) (psum_cost h2 b hb)
theorem lst_nodup (s : Nat) : ∀ n, (lst s n).Nodup
  | 0 => List.nodup_nil
  | n + 1 => by
    rw [lst]
    split
    · rw [List.nodup_append]
      refine ⟨lst_nodup s n, by simp, fun x hx y hy => ?_⟩
      obtain ⟨u, h1, _, h3⟩ := (lst_mem s n x).1 hx
      rw [List.mem_singleton] at hy
      omega
    · exact lst_nodup s n
theorem msk_lt2 (row : List Bool) : ∀ n, msk row n < 2 ^ n
  | 0 => by simp [msk]
  | n + 1 => by
    have ih := msk_lt2 row n
    have h1 : 2 ^ n < 2 ^ (n + 1) := Nat.pow_lt_pow_right (by decide) (by omega)
    rw [msk]
    split
    · exact Nat.or_lt_two_pow (by omega) h1
    · omega
theorem allBy_congr {T : List (List Bool)} {P : Nat} {x : List Bool} {l m : List Int} (h : ∀ t, t ∈ l ↔ t ∈ m) : allBy T P x l = allBy T P x m := by
  have : ∀ p, reachedBy T l p = reachedBy T m p := fun p => by
    unfold reachedBy
    rw [Bool.eq_iff_iff, List.any_eq_true, List.any_eq_true]
    exact ⟨fun ⟨t, h1, h2⟩ => ⟨t, (h t).1 h1, h2⟩, fun ⟨t, h1, h2⟩ => ⟨t, (h t).2 h1, h2⟩⟩
  unfold allBy
  simp only [this]
/-- a list of tools without repetition is that of a set -/
theorem set_of {n : Nat} {l : List Int} (hi : ∀ t ∈ l, 0 ≤ t ∧ t < (n : Int)) (hd : l.Nodup) : ∃ s, s < 2 ^ n ∧ List.Perm (lst s n) l := by
  refine ⟨msk ((List.range n).map fun u : Nat => decide ((u : Int) ∈ l)) n, msk_lt2 _ _, ?_⟩
  rw [List.perm_ext_iff_of_nodup (lst_nodup _ _) hd]
  intro t
  rw [lst_mem]
  constructor
  · rintro ⟨u, h1, h2, rfl⟩
    rw [msk_bit] at h2
    simp [List.getD_eq_getElem?_getD, h1] at h2
    exact h2
  · intro ht
    obtain ⟨h0, h1⟩ := hi t ht
    have hto : ((t.toNat : Nat) : Int) = t := Int.toNat_of_nonneg h0
    refine ⟨t.toNat, by omega, ?_, hto.symm⟩
    rw [msk_bit]
    have : t.toNat < n := by omega
    simp [List.getD_eq_getElem?_getD, this, hto, ht]
theorem Right.good {T : List (List Bool)} {cost : List Int} {P : Nat} (R : Right T cost P) {a b : Int} (ha : 12 ≤ a) (hb : 20 ≤ b) : Good T cost a b P :=
  ⟨R.tab, by have := R.n; omega, by have := R.p; omega, R.len, R.c0, R.c1⟩
/-- a right table has no error -/
theorem Right.zero {T : List (List Bool)} {cost : List Int} {P : Nat} (R : Right T cost P) {a b : Int} (ha : 12 ≤ a) (hb : 20 ≤ b) : Ev (fun k => swarfref30_Valid.f k T cost a b) 0 ∧ Ev (fun k => choose_valid.f k T cost a b) 0 := by
  have hn := R.n
  have hp := R.p
  obtain ⟨v, hV, hW⟩ := vals_ev T (by omega) cost a b
  have hv0 : v = 0 := by
    obtain ⟨k, hk⟩ := Ev.rounds hW
    rw [choose_valid.f, if_neg (by omega)] at hk
    rcases valid_l0 (by omega) k 0 hk (fun j h0 h1 => by omega) (Nat.zero_le _) with ⟨⟨j, h0, h1, h2⟩, _⟩ | ⟨_, h3⟩
    · exfalso
      have := R.tab.rect j.toNat (by omega)
      rw [Int.toNat_of_nonneg h0] at this
      omega
    · rcases h3 with ⟨hl, k', hk'⟩ | ⟨h4, _⟩
      · rcases valid_l1 (by omega) hl k' 0 hk' (Nat.zero_le _) with ⟨⟨t, h0, h1, h2⟩, _⟩ | ⟨_, h4⟩
        · exfalso
          have e : ((t.toNat : Nat) : Int) = t := Int.toNat_of_nonneg (by omega)
          have h5 := R.tab.rect t.toNat (by omega)
          have h6 := R.tab.rect 0 (by omega)
          have h7 := R.c0 t.toNat (by omega)
          have h8 := R.c1 t.toNat (by omega)
          rw [e] at h5 h7 h8
          simp at h6
          rcases h2 with h2 | h2 | h2
          · exact h2 (by rw [h5, h6])
          · omega
          · omega
        · exact h4
      · exact absurd R.len h4
  subst hv0
  exact ⟨hV, hW⟩
theorem Bound (l0 : List (List Bool)) (n0 : l0.length ≤ 9223372036854775807) (l1 : List Int) (n1 : l1.length ≤ 9223372036854775807) (y1 : ∀ n ∈ l1, (Lit.int .i64 n).wf = true) (l2 : List Int) (n2 : l2.length ≤ 9223372036854775807) (y2 : ∀ n ∈ l2, (Lit.int .i64 n).wf = true) : ∃ k, swarflaw30_ChooseBound.f k l0 l1 l2 = some true := by
  obtain ⟨r, hr⟩ := right_ev l0 n0 l1
  have hj : Ev (fun k => swarflaw30_ChooseBound.j0 k l0 l1 l2 true) true := by
    refine Ev.step (fun k => ?_) (Ev.bind (f := fun _ t => some t) awake_ev (Ev.now _))
    rw [swarflaw30_ChooseBound.j0, if_pos rfl]
  refine Ev.rounds (Ev.congr (f := fun k => (swarflaw30_awake.f k).bind fun a => if a = true then (swarflaw30_right.f k l0 l1).bind fun b => if b = true then swarflaw30_ChooseBound.j0 k l0 l1 l2 (decide ((l2.length : Int) > 30)) else swarflaw30_ChooseBound.j0 k l0 l1 l2 true else swarflaw30_ChooseBound.j0 k l0 l1 l2 true) (fun k => by rw [swarflaw30_ChooseBound.f]) ?_)
  refine Ev.bind (f := fun k a => if a = true then (swarflaw30_right.f k l0 l1).bind fun b => if b = true then swarflaw30_ChooseBound.j0 k l0 l1 l2 (decide ((l2.length : Int) > 30)) else swarflaw30_ChooseBound.j0 k l0 l1 l2 true else swarflaw30_ChooseBound.j0 k l0 l1 l2 true) awake_ev ?_
  refine Ev.congr (fun k => if_pos rfl) ?_
  refine Ev.bind (f := fun k b => if b = true then swarflaw30_ChooseBound.j0 k l0 l1 l2 (decide ((l2.length : Int) > 30)) else swarflaw30_ChooseBound.j0 k l0 l1 l2 true) hr ?_
  cases r with
  | false => exact Ev.congr (fun k => if_neg (by simp)) hj
  | true =>
    refine Ev.congr (fun k => if_pos rfl) ?_
    obtain ⟨k, hk⟩ := Ev.rounds hr
    obtain ⟨P, R⟩ := right_true hk
    by_cases h2 : (l2.length : Int) > 30
    · rw [decide_eq_true h2]
      exact hj
    · rw [decide_eq_false h2]
      have hP := R.p
      have hT := R.n
      obtain ⟨hV12, hW12⟩ := R.zero (a := 12) (b := 64) (by omega) (by omega)
      obtain ⟨hV2, hW2⟩ := R.zero (a := 200) (b := 200) (by omega) (by omega)
      have hVp : Ev (fun k => choose_Valid.f k l0 l1) 0 := Ev.congr (fun k => by rw [choose_Valid.f]) (Ev.bind (f := fun _ v => some v) hW2 (Ev.now _))
      have G := R.good (a := 12) (b := 64) (by omega) (by omega)
      have G2 := R.good (a := 200) (b := 200) (by omega) (by omega)
      obtain ⟨b, hb⟩ := best_full G
      have hbest := best_ev G hb hW12
      have hA := greedy_ev G2 hW2
      obtain ⟨hL, hLc⟩ := gL_spec G2 P [] (opc_le l0 P [] P) (grd_nil l0 P)
      generalize gL l0 P l1 P [] = L at hA hL hLc
      have hra := raise_ev R.tab R.len R.c0 R.c1 hVp
      have hRS := raise_RS (P := P) R.c0 R.c1 P (Nat.le_refl _)
      have hpa := prices_ev R.tab (cost := l1) (l := raiseL l0 P l1 P) R.len
      have hpb := prices_ev R.tab (cost := l1) (l := l2) R.len
      have hfair := raise_fair (T := l0) (P := P) R.c0 R.c1
      have hbi : ∀ t ∈ b, 0 ≤ t ∧ t < l0.length := by
        have := bst_in G (2 ^ l0.length)
        rwa [hb] at this
      have hbc := bst_covers G _ _ hb
      have hlow := duality hfair hbi hbc
      obtain ⟨s, hs, hp⟩ := set_of hL.mem hL.nodup
      have hLen := hL.len
      have hbm : csum l1 b ≤ csum l1 L := by
        obtain ⟨b', hb', hle⟩ := bst_least G (2 ^ l0.length) s hs (by rw [allBy_congr (m := L) (fun t => hp.mem_iff)]; exact hLc)
        rw [hb] at hb'
        injection hb' with hb'
        rw [csum_perm l1 hp, ← hb'] at hle
        exact hle
      have hcv := refCovers_ev R.tab (l := isort L) (by rw [isort_length]; omega)
      have hall : (isort L).all (ok l0) = true := by
        rw [List.all_eq_true]
        intro t ht
        have := hL.mem t ((isort_perm L).mem_iff.1 ht)
        unfold ok
        rw [decide_eq_true this.1, decide_eq_true this.2]
        rfl
      rw [hall, Bool.true_and, allBy_congr (m := L) (fun t => (isort_perm L).mem_iff), hLc] at hcv
      have hco := cost_ev G2 (l := isort L) (by rw [isort_length]; omega) (fun t ht => hL.mem t ((isort_perm L).mem_iff.1 ht))
      rw [csum_perm l1 (isort_perm L)] at hco
      have hend : Ev (fun k => (swarfref30_Covers.f k l0 (isort L)).bind fun c => if c = true then (swarfref30_Cost.f k l1 (isort L)).bind fun d => some (csum l1 L == d) else some false) true := by
        refine Ev.bind (f := fun k c => if c = true then (swarfref30_Cost.f k l1 (isort L)).bind fun d => some (csum l1 L == d) else some false) hcv (Ev.congr (fun k => if_pos rfl) ?_)
        have := Ev.bind (f := fun _ d => some (csum l1 L == d)) hco (Ev.now _)
        rwa [beq_self_eq_true] at this
      have hj1 : Ev (fun k => swarflaw30_ChooseBound.j1 k l0 l1 l2 (csum l1 b) (isort L) (csum l1 L) (raiseL l0 P l1 P) false) true := by
        refine Ev.step (fun k => ?_) (Ev.bind (f := fun k x => (choose_Prices.f k l0 l1 l2).bind fun y => if x.2 = true then (if x.1 ≤ csum l1 b then (if csum l1 b ≤ csum l1 L then (if y.2 = true then (if y.1 ≤ csum l1 b then ((swarfref30_Covers.f k l0 (isort L)).bind fun c => if c = true then (swarfref30_Cost.f k l1 (isort L)).bind fun d => some (csum l1 L == d) else some false) else some false) else ((swarfref30_Covers.f k l0 (isort L)).bind fun c => if c = true then (swarfref30_Cost.f k l1 (isort L)).bind fun d => some (csum l1 L == d) else some false)) else some false) else some false) else some false) hpa
          (Ev.bind (f := fun k y => if (pricesV l0 P l1 (raiseL l0 P l1 P)).2 = true then (if (pricesV l0 P l1 (raiseL l0 P l1 P)).1 ≤ csum l1 b then (if csum l1 b ≤ csum l1 L then (if y.2 = true then (if y.1 ≤ csum l1 b then ((swarfref30_Covers.f k l0 (isort L)).bind fun c => if c = true then (swarfref30_Cost.f k l1 (isort L)).bind fun d => some (csum l1 L == d) else some false) else some false) else ((swarfref30_Covers.f k l0 (isort L)).bind fun c => if c = true then (swarfref30_Cost.f k l1 (isort L)).bind fun d => some (csum l1 L == d) else some false)) else some false) else some false) else some false) hpb ?_))
        · rw [swarflaw30_ChooseBound.j1, if_neg (by simp)]
        · refine Ev.congr (fun k => if_pos hfair) (Ev.congr (fun k => if_pos hlow) (Ev.congr (fun k => if_pos hbm) ?_))
          by_cases hy : (pricesV l0 P l1 l2).2 = true
          · exact Ev.congr (fun k => if_pos hy) (Ev.congr (fun k => if_pos (duality hy hbi hbc)) hend)
          · exact Ev.congr (fun k => if_neg hy) hend
      refine Ev.step (fun k => ?_) (Ev.bind (f := fun k x => (choose_Greedy.f k l0 l1).bind fun y => (choose_Raise.f k l0 l1).bind fun z => if x.2.2 = 0 then (if y.2.2 = 0 then swarflaw30_ChooseBound.j1 k l0 l1 l2 x.2.1 y.1 y.2.1 z.1 (z.2 != 0) else swarflaw30_ChooseBound.j1 k l0 l1 l2 x.2.1 y.1 y.2.1 z.1 true) else swarflaw30_ChooseBound.j1 k l0 l1 l2 x.2.1 y.1 y.2.1 z.1 true) hbest
        (Ev.bind (f := fun k y => (choose_Raise.f k l0 l1).bind fun z => if (0 : Int) = 0 then (if y.2.2 = 0 then swarflaw30_ChooseBound.j1 k l0 l1 l2 (csum l1 b) y.1 y.2.1 z.1 (z.2 != 0) else swarflaw30_ChooseBound.j1 k l0 l1 l2 (csum l1 b) y.1 y.2.1 z.1 true) else swarflaw30_ChooseBound.j1 k l0 l1 l2 (csum l1 b) y.1 y.2.1 z.1 true) hA
          (Ev.bind (f := fun k z => if (0 : Int) = 0 then (if (0 : Int) = 0 then swarflaw30_ChooseBound.j1 k l0 l1 l2 (csum l1 b) (isort L) (csum l1 L) z.1 (z.2 != 0) else swarflaw30_ChooseBound.j1 k l0 l1 l2 (csum l1 b) (isort L) (csum l1 L) z.1 true) else swarflaw30_ChooseBound.j1 k l0 l1 l2 (csum l1 b) (isort L) (csum l1 L) z.1 true) hra ?_)))
      · rw [swarflaw30_ChooseBound.j0, if_neg (by simp)]
      · exact Ev.congr (fun k => if_pos rfl) (Ev.congr (fun k => if_pos rfl) hj1)
end Go.Proofs.Ytcaefoljlmdjaaa.Pure
