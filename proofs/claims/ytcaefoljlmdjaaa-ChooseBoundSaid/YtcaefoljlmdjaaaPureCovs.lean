/- Covers, in plain lists: the reference's side. -/
import Derived.Test.YtcaefoljlmdjaaaCHx10
import Derived.Test.YtcaefoljlmdjaaaPureCoverable
namespace Go.Proofs.Ytcaefoljlmdjaaa.Pure
open Go.RowKit Go.Proofs.Ytcaefoljlmdjaaa.CH Go.Proofs.YtcaefoljlmdjaaaW.PrintWords Go.Proofs.YtcaefoljlmdjaaaW.PrintLast
set_option linter.unusedVariables false
set_option linter.unusedSimpArgs false
theorem index_l0 {x : List Bool} {a : Bool} (hn : x.length ≤ 1000) : ∀ (d i : Nat), x.length - i = d → i ≤ x.length → ∃ r, Ev (fun k => slices_Index_bool_bool.l0 k x a (x.length : Int) (i : Int)) r ∧ (0 ≤ r ↔ a ∈ x.drop i) := by
  intro d
  induction d with
  | zero =>
    intro i hd hi
    refine ⟨-1, Ev.step (f := fun _ => some _) (fun k => ?_) (Ev.now _), ?_⟩
    · rw [slices_Index_bool_bool.l0, if_neg (by omega)]
    · rw [List.drop_of_length_le (by omega)]
      simp
  | succ d ih =>
    intro i hd hi
    have hlt : i < x.length := by omega
    rw [List.drop_eq_getElem_cons hlt]
    have hrd : rdOf false x (i : Int) = x[i] := by rw [rdOf_nat]; simp [List.getD_eq_getElem?_getD, hlt]
    by_cases hc : (a == rdOf false x (i : Int)) = true
    · refine ⟨(i : Int), Ev.step (f := fun _ => some _) (fun k => ?_) (Ev.now _), ?_⟩
      · rw [slices_Index_bool_bool.l0, if_pos (by omega), if_pos (by omega), if_pos (by omega), if_pos hc]
      · rw [hrd] at hc
        have : a = x[i] := by simpa using hc
        exact ⟨fun _ => List.mem_cons.2 (.inl this), fun _ => by omega⟩
    · obtain ⟨r, hr, he⟩ := ih (i + 1) (by omega) (by omega)
      refine ⟨r, Ev.step (fun k => ?_) hr, ?_⟩
      · rw [slices_Index_bool_bool.l0, if_pos (by omega), if_pos (by omega), if_pos (by omega), if_neg hc, wrap_next (by omega)]
      · rw [hrd] at hc
        have : ¬ a = x[i] := by simpa using hc
        rw [List.mem_cons, he]
        exact ⟨.inr, fun h => h.resolve_left this⟩
theorem contains_ev {x : List Bool} {a : Bool} (hn : x.length ≤ 1000) : Ev (fun k => slices_Contains_bool_bool.f k x a) (x.contains a) := by
  obtain ⟨r, hr, he⟩ := index_l0 (a := a) hn x.length 0 (by omega) (Nat.zero_le _)
  rw [List.drop_zero] at he
  refine Ev.congr (fun k => by rw [slices_Contains_bool_bool.f]) (Ev.bind (f := fun _ t => some (decide (t ≥ 0))) (g := fun k => slices_Index_bool_bool.f k x a) hr ?_)
  have : decide (r ≥ 0) = x.contains a := by
    rw [Bool.eq_iff_iff, decide_eq_true_eq, List.contains_iff_mem]
    exact he
  rw [this]
  exact Ev.now _
def offFrom (i : Nat) (x row : List Bool) : List Bool := (List.range x.length).map fun p => x.getD p false && !(decide (i ≤ p) && row.getD p false)
theorem offFrom_length (i : Nat) (x row : List Bool) : (offFrom i x row).length = x.length := by simp [offFrom]
theorem offFrom_step {i : Nat} {x row : List Bool} (hi : i < x.length) (b : Bool) (hb : b = (x.getD i false && !row.getD i false)) : offFrom i x row = offFrom (i + 1) (x.set i b) row := by
  unfold offFrom
  rw [List.length_set]
  apply List.map_congr_left
  intro p hp
  rw [List.mem_range] at hp
  by_cases e : p = i
  · subst e
    have h1 : decide (p + 1 ≤ p) = false := by simp
    have h2 : (x.set p b).getD p false = b := by simp [List.getD_eq_getElem?_getD, hp]
    rw [h1, h2, hb]
    simp
  · have h1 : (x.set i b).getD p false = x.getD p false := by simp [List.getD_eq_getElem?_getD, List.getElem?_set_ne (Ne.symm e)]
    have h2 : decide (i ≤ p) = decide (i + 1 ≤ p) := by
      rw [decide_eq_decide]; omega
    rw [h1, h2]
theorem offFrom_end {i : Nat} {x row : List Bool} (hi : x.length ≤ i) : offFrom i x row = x := by
  apply List.ext_getElem
  · simp [offFrom]
  · intro p h1 h2
    have : ¬ i ≤ p := by omega
    simp [offFrom, this, List.getD_eq_getElem?_getD, h2]
def ok (T : List (List Bool)) (t : Int) : Bool := decide (0 ≤ t) && decide (t < (T.length : Int))
def allBy (T : List (List Bool)) (P : Nat) (x : List Bool) (l : List Int) : Bool := (List.range P).all fun p => !x.getD p false || reachedBy T l p
theorem refCovers_l1 {T : List (List Bool)} {P : Nat} (h : Tab T P) {l : List Int} (hl : l.length ≤ 1000) (hok : ∀ t ∈ l, 0 ≤ t ∧ t < T.length) : ∀ (d p : Nat), P - p = d → p ≤ P →
    Ev (fun k => swarfref30_Covers.l1 k T l (cov T P) (p : Int)) ((List.range' p d).all fun q => !(cov T P).getD q false || reachedBy T l q) := by
  intro d
  have hp := h.p
  have hc : (cov T P).length = P := by simp [cov]
  induction d with
  | zero =>
    intro p hd hpp
    refine Ev.step (f := fun _ => some _) (fun k => ?_) (Ev.now _)
    rw [swarfref30_Covers.l1, if_neg (by omega)]
    rfl
  | succ d ih =>
    intro p hd hpp
    rw [List.range'_succ, List.all_cons]
    have h1 := ih (p + 1) (by omega) (by omega)
    by_cases hq : (cov T P).getD p false = true
    · rw [hq]
      have h2 := reached_ev h (l := l) (by omega) hok (p := p) (by omega)
      cases hb : reachedBy T l p with
      | true =>
        rw [hb] at h2
        refine Ev.step (fun k => ?_) (Ev.bind (f := fun k t => if t = true then swarfref30_Covers.l1 k T l (cov T P) (wrap64 ((p : Int) + 1)) else some false) h2 (Ev.congr (fun k => ?_) h1))
        · rw [swarfref30_Covers.l1, if_pos (by omega), if_pos (by omega), rdOf_nat, if_pos hq]
        · rw [if_pos rfl, wrap_next (by omega)]
      | false =>
        rw [hb] at h2
        refine Ev.step (fun k => ?_) (Ev.bind (f := fun k t => if t = true then swarfref30_Covers.l1 k T l (cov T P) (wrap64 ((p : Int) + 1)) else some false) h2 (Ev.congr (fun k => ?_) (Ev.now _)))
        · rw [swarfref30_Covers.l1, if_pos (by omega), if_pos (by omega), rdOf_nat, if_pos hq]
        · rw [if_neg (by simp)]
          rfl
    · rw [Bool.eq_false_iff.2 hq]
      refine Ev.step (fun k => ?_) h1
      rw [swarfref30_Covers.l1, if_pos (by omega), if_pos (by omega), rdOf_nat, if_neg hq, wrap_next (by omega)]
theorem refCovers_l0 {T : List (List Bool)} {P : Nat} (h : Tab T P) {l : List Int} (hl : l.length ≤ 1000) : ∀ (d i : Nat), l.length - i = d → i ≤ l.length → (∀ j, j < i → ∀ hj : j < l.length, 0 ≤ l[j] ∧ l[j] < T.length) →
    Ev (fun k => swarfref30_Covers.l0 k T l (i : Int)) ((l.drop i).all (ok T) && allBy T P (cov T P) l) := by
  intro d
  induction d with
  | zero =>
    intro i hd hi hok
    rw [List.drop_of_length_le (by omega), List.all_nil, Bool.true_and]
    have h1 := refCovers_l1 h hl (fun t ht => by
      obtain ⟨j, hj, rfl⟩ := List.getElem_of_mem ht
      exact hok j (by omega) hj) P 0 (by omega) (Nat.zero_le _)
    unfold allBy
    rw [List.range_eq_range']
    refine Ev.step (fun k => ?_) (Ev.bind (f := fun k c => swarfref30_Covers.l1 k T l c ((0 : Nat) : Int)) (refCoverable h) h1)
    rw [swarfref30_Covers.l0, if_neg (by omega)]
    rfl
  | succ d ih =>
    intro i hd hi hok
    have hlt : i < l.length := by omega
    have hrd : rd l (i : Int) = l[i] := by rw [rd_nat]; simp [List.getD_eq_getElem?_getD, hlt]
    rw [List.drop_eq_getElem_cons hlt, List.all_cons]
    by_cases h0 : l[i] < 0
    · have e : ok T l[i] = false := by unfold ok; simp; omega
      rw [e]
      refine Ev.step (f := fun _ => some _) (fun k => ?_) (Ev.now _)
      rw [swarfref30_Covers.l0, if_pos (by omega), if_pos (by omega), hrd, if_pos h0]
      rfl
    · by_cases h1 : l[i] ≥ (T.length : Int)
      · have e : ok T l[i] = false := by unfold ok; simp; omega
        rw [e]
        refine Ev.step (f := fun _ => some _) (fun k => ?_) (Ev.now _)
        rw [swarfref30_Covers.l0, if_pos (by omega), if_pos (by omega), hrd, if_neg h0, if_pos h1]
        rfl
      · have e : ok T l[i] = true := by unfold ok; simp; omega
        rw [e, Bool.true_and]
        refine Ev.step (fun k => ?_) (ih (i + 1) (by omega) (by omega) (fun j hj hjl => ?_))
        · rw [swarfref30_Covers.l0, if_pos (by omega), if_pos (by omega), hrd, if_neg h0, if_neg h1, wrap_next (by omega)]
        · by_cases ej : j = i
          · subst ej; omega
          · exact hok j (by omega) hjl
theorem refCovers_ev {T : List (List Bool)} {P : Nat} (h : Tab T P) {l : List Int} (hl : l.length ≤ 1000) : Ev (fun k => swarfref30_Covers.f k T l) (l.all (ok T) && allBy T P (cov T P) l) := by
  have := refCovers_l0 h hl l.length 0 (by omega) (Nat.zero_le _) (fun j hj => by omega)
  rwa [List.drop_zero] at this
end Go.Proofs.Ytcaefoljlmdjaaa.Pure
