/- ChooseCoverable, in plain lists: the second part. -/
import Derived.Test.YtcaefoljlmdjaaaPureCoverable
namespace Go.Proofs.Ytcaefoljlmdjaaa.Pure
open Go.RowKit Go.Proofs.Ytcaefoljlmdjaaa.CH Go.Proofs.YtcaefoljlmdjaaaW.PrintWords Go.Proofs.YtcaefoljlmdjaaaW.PrintLast
set_option linter.unusedVariables false
set_option linter.unusedSimpArgs false
theorem index_l0 {x : List Bool} {a : Bool} (hn : x.length ≤ 1000) : ∀ (d i : Nat), x.length - i = d → i ≤ x.length → ∃ r, Ev (fun k => slices_Index_bool_bool.l0 k x a (x.length : Int) (i : Int)) r ∧ (0 ≤ r ↔ a ∈ x.drop i) := by
  intro d
  induction d with
  | zero =>
    intro i hd hi
    refine ⟨-1, Ev.step (f := fun _ => some _) (fun k => ?_) (Ev.now _), ?_⟩
    · rw [slices_Index_bool_bool.l0, if_neg (by omega)]
    · rw [List.drop_of_length_le (by omega)]
      simp
  | succ d ih =>
    intro i hd hi
    have hlt : i < x.length := by omega
    rw [List.drop_eq_getElem_cons hlt]
    have hrd : rdOf false x (i : Int) = x[i] := by rw [rdOf_nat]; simp [List.getD_eq_getElem?_getD, hlt]
    by_cases hc : (a == rdOf false x (i : Int)) = true
    · refine ⟨(i : Int), Ev.step (f := fun _ => some _) (fun k => ?_) (Ev.now _), ?_⟩
      · rw [slices_Index_bool_bool.l0, if_pos (by omega), if_pos (by omega), if_pos (by omega), if_pos hc]
      · rw [hrd] at hc
        have : a = x[i] := by simpa using hc
        exact ⟨fun _ => List.mem_cons.2 (.inl this), fun _ => by omega⟩
    · obtain ⟨r, hr, he⟩ := ih (i + 1) (by omega) (by omega)
      refine ⟨r, Ev.step (fun k => ?_) hr, ?_⟩
      · rw [slices_Index_bool_bool.l0, if_pos (by omega), if_pos (by omega), if_pos (by omega), if_neg hc, wrap_next (by omega)]
      · rw [hrd] at hc
        have : ¬ a = x[i] := by simpa using hc
        rw [List.mem_cons, he]
        exact ⟨.inr, fun h => h.resolve_left this⟩
theorem contains_ev {x : List Bool} {a : Bool} (hn : x.length ≤ 1000) : Ev (fun k => slices_Contains_bool_bool.f k x a) (x.contains a) := by
  obtain ⟨r, hr, he⟩ := index_l0 (a := a) hn x.length 0 (by omega) (Nat.zero_le _)
  rw [List.drop_zero] at he
  refine Ev.congr (fun k => by rw [slices_Contains_bool_bool.f]) (Ev.bind (f := fun _ t => some (decide (t ≥ 0))) (g := fun k => slices_Index_bool_bool.f k x a) hr ?_)
  have : decide (r ≥ 0) = x.contains a := by
    rw [Bool.eq_iff_iff, decide_eq_true_eq, List.contains_iff_mem]
    exact he
  rw [this]
  exact Ev.now _
def offFrom (i : Nat) (x row : List Bool) : List Bool := (List.range x.length).map fun p => x.getD p false && !(decide (i ≤ p) && row.getD p false)
theorem offFrom_length (i : Nat) (x row : List Bool) : (offFrom i x row).length = x.length := by simp [offFrom]
theorem offFrom_step {i : Nat} {x row : List Bool} (hi : i < x.length) (b : Bool) (hb : b = (x.getD i false && !row.getD i false)) : offFrom i x row = offFrom (i + 1) (x.set i b) row := by
  unfold offFrom
  rw [List.length_set]
  apply List.map_congr_left
  intro p hp
  rw [List.mem_range] at hp
  by_cases e : p = i
  · subst e
    have h1 : decide (p + 1 ≤ p) = false := by simp
    have h2 : (x.set p b).getD p false = b := by simp [List.getD_eq_getElem?_getD, hp]
    rw [h1, h2, hb]
    simp
  · have h1 : (x.set i b).getD p false = x.getD p false := by simp [List.getD_eq_getElem?_getD, List.getElem?_set_ne (Ne.symm e)]
    have h2 : decide (i ≤ p) = decide (i + 1 ≤ p) := by
      rw [decide_eq_decide]; omega
    rw [h1, h2]
theorem offFrom_end {i : Nat} {x row : List Bool} (hi : x.length ≤ i) : offFrom i x row = x := by
  apply List.ext_getElem
  · simp [offFrom]
  · intro p h1 h2
    have : ¬ i ≤ p := by omega
    simp [offFrom, this, List.getD_eq_getElem?_getD, h2]
theorem covers_l1 {T : List (List Bool)} {P : Nat} (h : Tab T P) {l : List Int} (hl : l.length ≤ 1000) {i : Nat} (hi : i < l.length) {t : Nat} (ht : t < T.length) {r : Bool} : ∀ (d p : Nat) (x : List Bool), x.length = P → P - p = d → p ≤ P →
    Ev (fun k => choose_Covers.l0 k T (offFrom p x (rd_L1 T (t : Int))) l (l.length : Int) ((i + 1 : Nat) : Int)) r → Ev (fun k => choose_Covers.l1 k T x l (l.length : Int) (i : Int) (rd_L1 T (t : Int)) ((rd_L1 T (t : Int)).length : Int) (p : Int)) r := by
  intro d
  have hr := h.rect t ht
  have hp := h.p
  induction d with
  | zero =>
    intro p x hx hd hi hE
    refine Ev.step (fun k => ?_) hE
    rw [choose_Covers.l1, if_neg (by omega), wrap_next (by omega), offFrom_end (by omega)]
  | succ d ih =>
    intro p x hx hd hi hE
    by_cases hc : x.getD p false = true
    · refine Ev.step (f := fun k => choose_Covers.l1 k T (x.set p (!((rd_L1 T (t : Int)).getD p false))) l (l.length : Int) (i : Int) (rd_L1 T (t : Int)) ((rd_L1 T (t : Int)).length : Int) ((p + 1 : Nat) : Int)) (fun k => ?_) (ih (p + 1) _ (by simp [hx]) (by omega) (by omega) ?_)
      · rw [choose_Covers.l1, if_pos (by omega), if_pos (by omega), if_pos (by omega), if_pos (by omega), rdOf_nat, if_pos hc, wrap_next (by omega), Int.toNat_natCast, rdOf_nat]
      · rw [← offFrom_step (by omega) _ (by rw [hc]; simp)]
        exact hE
    · refine Ev.step (f := fun k => choose_Covers.l1 k T (x.set p false) l (l.length : Int) (i : Int) (rd_L1 T (t : Int)) ((rd_L1 T (t : Int)).length : Int) ((p + 1 : Nat) : Int)) (fun k => ?_) (ih (p + 1) _ (by simp [hx]) (by omega) (by omega) ?_)
      · rw [choose_Covers.l1, if_pos (by omega), if_pos (by omega), if_pos (by omega), if_pos (by omega), rdOf_nat, if_neg hc, wrap_next (by omega), Int.toNat_natCast]
      · rw [← offFrom_step (by omega) _ (by rw [Bool.eq_false_iff.2 hc]; simp)]
        exact hE
/-- what choose.Covers tells, from the pieces that are still open and the tools that are left -/
def coversFrom (T : List (List Bool)) : List Bool → List Int → Bool
  | x, [] => !x.contains true
  | x, t :: l => if t < 0 then false else if t ≥ (T.length : Int) then false else coversFrom T (offFrom 0 x (rd_L1 T t)) l
theorem covers_l0 {T : List (List Bool)} {P : Nat} (h : Tab T P) {l : List Int} (hl : l.length ≤ 1000) : ∀ (d i : Nat) (x : List Bool), x.length = P → l.length - i = d → i ≤ l.length → Ev (fun k => choose_Covers.l0 k T x l (l.length : Int) (i : Int)) (coversFrom T x (l.drop i)) := by
  intro d
  have hp := h.p
  induction d with
  | zero =>
    intro i x hx hd hi
    have e : coversFrom T x (l.drop i) = !x.contains true := by rw [List.drop_of_length_le (by omega)]; rfl
    rw [e]
    refine Ev.step (fun k => ?_) (Ev.bind (f := fun _ t => some (!t)) (contains_ev (x := x) (a := true) (by omega)) (Ev.now _))
    rw [choose_Covers.l0, if_neg (by omega)]
  | succ d ih =>
    intro i x hx hd hi
    have hlt : i < l.length := by omega
    rw [List.drop_eq_getElem_cons hlt]
    have hrd : rd l (i : Int) = l[i] := by rw [rd_nat]; simp [List.getD_eq_getElem?_getD, hlt]
    by_cases h0 : l[i] < 0
    · rw [coversFrom, if_pos h0]
      refine Ev.step (f := fun k => choose_Covers.j1 k T x (l[i]) l (l.length : Int) (i : Int) true) (fun k => ?_) (Ev.step (f := fun _ => some _) (fun k => ?_) (Ev.now _))
      · rw [choose_Covers.l0, if_pos (by omega), if_pos (by omega), if_pos (by omega), hrd, if_pos h0]
      · rw [choose_Covers.j1, if_pos rfl]
    · by_cases h1 : l[i] ≥ (T.length : Int)
      · rw [coversFrom, if_neg h0, if_pos h1]
        refine Ev.step (f := fun k => choose_Covers.j1 k T x (l[i]) l (l.length : Int) (i : Int) true) (fun k => ?_) (Ev.step (f := fun _ => some _) (fun k => ?_) (Ev.now _))
        · rw [choose_Covers.l0, if_pos (by omega), if_pos (by omega), if_pos (by omega), hrd, if_neg h0, decide_eq_true h1]
        · rw [choose_Covers.j1, if_pos rfl]
      · rw [coversFrom, if_neg h0, if_neg h1]
        have hto : ((l[i].toNat : Nat) : Int) = l[i] := Int.toNat_of_nonneg (by omega)
        have h2 := ih (i + 1) (offFrom 0 x (rd_L1 T l[i])) (by rw [offFrom_length]; exact hx) (by omega) (by omega)
        have h3 := covers_l1 h hl hlt (t := l[i].toNat) (by omega) P 0 x hx (by omega) (Nat.zero_le _) (by rw [hto]; exact h2)
        rw [hto] at h3
        refine Ev.step (f := fun k => choose_Covers.j1 k T x (l[i]) l (l.length : Int) (i : Int) false) (fun k => ?_) (Ev.step (fun k => ?_) h3)
        · rw [choose_Covers.l0, if_pos (by omega), if_pos (by omega), if_pos (by omega), hrd, if_neg h0, decide_eq_false h1]
        · rw [choose_Covers.j1, if_neg (by simp), if_pos (by omega), if_pos (by omega)]
          rfl
theorem covers_ev {T : List (List Bool)} {P : Nat} (h : Tab T P) {l : List Int} (hl : l.length ≤ 1000) : Ev (fun k => choose_Covers.f k T l) (coversFrom T (cov T P) l) := by
  have h1 := covers_l0 h hl l.length 0 (cov T P) (by simp [cov]) (by omega) (Nat.zero_le _)
  rw [List.drop_zero] at h1
  exact Ev.congr (fun k => by rw [choose_Covers.f]; rfl) (Ev.bind (f := fun k c => choose_Covers.l0 k T c l (l.length : Int) ((0 : Nat) : Int)) (coverable h) h1)
/-- a tool's number -/
def ok (T : List (List Bool)) (t : Int) : Bool := decide (0 ≤ t) && decide (t < (T.length : Int))
def allBy (T : List (List Bool)) (P : Nat) (x : List Bool) (l : List Int) : Bool := (List.range P).all fun p => !x.getD p false || reachedBy T l p
theorem coversFrom_eq (T : List (List Bool)) (P : Nat) : ∀ (l : List Int) (x : List Bool), x.length = P → coversFrom T x l = (l.all (ok T) && allBy T P x l)
  | [], x, hx => by
    rw [coversFrom, List.all_nil, Bool.true_and, Bool.eq_iff_iff]
    unfold allBy reachedBy
    simp only [Bool.not_eq_true', List.all_eq_true, List.mem_range, List.any_nil, Bool.or_false]
    rw [Bool.eq_false_iff, ne_eq, List.contains_iff_mem]
    constructor
    · intro h p hp
      rw [Bool.eq_false_iff]
      intro h2
      apply h
      have h3 : p < x.length := by omega
      have h4 : x.getD p false = x[p] := by simp [List.getD_eq_getElem?_getD, h3]
      rw [h4] at h2
      rw [← h2]
      exact List.getElem_mem h3
    · intro h h2
      obtain ⟨p, h3, h4⟩ := List.getElem_of_mem h2
      have h5 := h p (by omega)
      have h6 : x.getD p false = x[p] := by simp [List.getD_eq_getElem?_getD, h3]
      rw [h6, h4] at h5
      cases h5
  | t :: l, x, hx => by
    rw [coversFrom, List.all_cons]
    by_cases h0 : t < 0
    · have : ok T t = false := by unfold ok; simp; omega
      rw [if_pos h0, this]; rfl
    · by_cases h1 : t ≥ (T.length : Int)
      · have : ok T t = false := by unfold ok; simp; omega
        rw [if_neg h0, if_pos h1, this]; rfl
      · have h2 : ok T t = true := by unfold ok; simp; omega
        rw [if_neg h0, if_neg h1, h2, Bool.true_and, coversFrom_eq T P l _ (by rw [offFrom_length]; exact hx)]
        congr 1
        unfold allBy
        rw [Bool.eq_iff_iff, List.all_eq_true, List.all_eq_true]
        have hto : ((t.toNat : Nat) : Int) = t := Int.toNat_of_nonneg (by omega)
        have each : ∀ p, p ∈ List.range P → ((!(offFrom 0 x (rd_L1 T t)).getD p false || reachedBy T l p) = (!x.getD p false || reachedBy T (t :: l) p)) := by
          intro p hp
          rw [List.mem_range] at hp
          have h3 : (offFrom 0 x (rd_L1 T t)).getD p false = (x.getD p false && !at2 T t.toNat p) := by
            unfold at2
            rw [hto]
            simp [offFrom, List.getD_eq_getElem?_getD, show p < x.length by omega]
          rw [h3]
          unfold reachedBy
          rw [List.any_cons]
          cases x.getD p false <;> cases at2 T t.toNat p <;> simp
        constructor
        · intro h p hp
          rw [← each p hp]
          exact h p hp
        · intro h p hp
          rw [each p hp]
          exact h p hp
theorem refCovers_l1 {T : List (List Bool)} {P : Nat} (h : Tab T P) {l : List Int} (hl : l.length ≤ 1000) (hok : ∀ t ∈ l, 0 ≤ t ∧ t < T.length) : ∀ (d p : Nat), P - p = d → p ≤ P →
    Ev (fun k => swarfref30_Covers.l1 k T l (cov T P) (p : Int)) ((List.range' p d).all fun q => !(cov T P).getD q false || reachedBy T l q) := by
  intro d
  have hp := h.p
  have hc : (cov T P).length = P := by simp [cov]
  induction d with
  | zero =>
    intro p hd hpp
    refine Ev.step (f := fun _ => some _) (fun k => ?_) (Ev.now _)
    rw [swarfref30_Covers.l1, if_neg (by omega)]
    rfl
  | succ d ih =>
    intro p hd hpp
    rw [List.range'_succ, List.all_cons]
    have h1 := ih (p + 1) (by omega) (by omega)
    by_cases hq : (cov T P).getD p false = true
    · rw [hq]
      have h2 := reached_ev h (l := l) (by omega) hok (p := p) (by omega)
      cases hb : reachedBy T l p with
      | true =>
        rw [hb] at h2
        refine Ev.step (fun k => ?_) (Ev.bind (f := fun k t => if t = true then swarfref30_Covers.l1 k T l (cov T P) (wrap64 ((p : Int) + 1)) else some false) h2 (Ev.congr (fun k => ?_) h1))
        · rw [swarfref30_Covers.l1, if_pos (by omega), if_pos (by omega), rdOf_nat, if_pos hq]
        · rw [if_pos rfl, wrap_next (by omega)]
      | false =>
        rw [hb] at h2
        refine Ev.step (fun k => ?_) (Ev.bind (f := fun k t => if t = true then swarfref30_Covers.l1 k T l (cov T P) (wrap64 ((p : Int) + 1)) else some false) h2 (Ev.congr (fun k => ?_) (Ev.now _)))
        · rw [swarfref30_Covers.l1, if_pos (by omega), if_pos (by omega), rdOf_nat, if_pos hq]
        · rw [if_neg (by simp)]
          rfl
    · rw [Bool.eq_false_iff.2 hq]
      refine Ev.step (fun k => ?_) h1
      rw [swarfref30_Covers.l1, if_pos (by omega), if_pos (by omega), rdOf_nat, if_neg hq, wrap_next (by omega)]
theorem refCovers_l0 {T : List (List Bool)} {P : Nat} (h : Tab T P) {l : List Int} (hl : l.length ≤ 1000) : ∀ (d i : Nat), l.length - i = d → i ≤ l.length → (∀ j, j < i → ∀ hj : j < l.length, 0 ≤ l[j] ∧ l[j] < T.length) →
    Ev (fun k => swarfref30_Covers.l0 k T l (i : Int)) ((l.drop i).all (ok T) && allBy T P (cov T P) l) := by
  intro d
  induction d with
  | zero =>
    intro i hd hi hok
    rw [List.drop_of_length_le (by omega), List.all_nil, Bool.true_and]
    have h1 := refCovers_l1 h hl (fun t ht => by
      obtain ⟨j, hj, rfl⟩ := List.getElem_of_mem ht
      exact hok j (by omega) hj) P 0 (by omega) (Nat.zero_le _)
    unfold allBy
    rw [List.range_eq_range']
    refine Ev.step (fun k => ?_) (Ev.bind (f := fun k c => swarfref30_Covers.l1 k T l c ((0 : Nat) : Int)) (refCoverable h) h1)
    rw [swarfref30_Covers.l0, if_neg (by omega)]
    rfl
  | succ d ih =>
    intro i hd hi hok
    have hlt : i < l.length := by omega
    have hrd : rd l (i : Int) = l[i] := by rw [rd_nat]; simp [List.getD_eq_getElem?_getD, hlt]
    rw [List.drop_eq_getElem_cons hlt, List.all_cons]
    by_cases h0 : l[i] < 0
    · have e : ok T l[i] = false := by unfold ok; simp; omega
      rw [e]
      refine Ev.step (f := fun _ => some _) (fun k => ?_) (Ev.now _)
      rw [swarfref30_Covers.l0, if_pos (by omega), if_pos (by omega), hrd, if_pos h0]
      rfl
    · by_cases h1 : l[i] ≥ (T.length : Int)
      · have e : ok T l[i] = false := by unfold ok; simp; omega
        rw [e]
        refine Ev.step (f := fun _ => some _) (fun k => ?_) (Ev.now _)
        rw [swarfref30_Covers.l0, if_pos (by omega), if_pos (by omega), hrd, if_neg h0, if_pos h1]
        rfl
      · have e : ok T l[i] = true := by unfold ok; simp; omega
        rw [e, Bool.true_and]
        refine Ev.step (fun k => ?_) (ih (i + 1) (by omega) (by omega) (fun j hj hjl => ?_))
        · rw [swarfref30_Covers.l0, if_pos (by omega), if_pos (by omega), hrd, if_neg h0, if_neg h1, wrap_next (by omega)]
        · by_cases ej : j = i
          · subst ej; omega
          · exact hok j (by omega) hjl
theorem refCovers_ev {T : List (List Bool)} {P : Nat} (h : Tab T P) {l : List Int} (hl : l.length ≤ 1000) : Ev (fun k => swarfref30_Covers.f k T l) (l.all (ok T) && allBy T P (cov T P) l) := by
  have := refCovers_l0 h hl l.length 0 (by omega) (Nat.zero_le _) (fun j hj => by omega)
  rwa [List.drop_zero] at this
theorem covers_same {T : List (List Bool)} {P : Nat} (h : Tab T P) {l : List Int} (hl : l.length ≤ 1000) : Ev (fun k => choose_Covers.f k T l) (l.all (ok T) && allBy T P (cov T P) l) := by
  have := covers_ev h hl
  rwa [coversFrom_eq T P l _ (by simp [cov])] at this
theorem awake_ev : Ev (fun k => swarflaw30_awake.f k) true := ⟨120, fun k hk => awake_at k hk⟩
theorem law_l0 {T : List (List Bool)} {P : Nat} (h : Tab T P) {l : List Int} (hl : l.length ≤ 1000) {c : List Bool} (hc : c.length = P) : ∀ (d i : Nat), P - i = d → i ≤ P → Ev (fun k => swarflaw30_ChooseCoverable.l0 k T l c c (c.length : Int) (i : Int)) true := by
  intro d
  have hp := h.p
  induction d with
  | zero =>
    intro i hd hi
    refine Ev.step (fun k => ?_) (Ev.bind (f := fun k a => (swarfref30_Covers.f k T l).bind fun b => some (a == b)) (covers_same h hl) (Ev.bind (f := fun k b => some (_ == b)) (refCovers_ev h hl) ?_))
    · rw [swarflaw30_ChooseCoverable.l0, if_neg (by omega)]
    · rw [beq_self_eq_true]
      exact Ev.now _
  | succ d ih =>
    intro i hd hi
    refine Ev.step (fun k => ?_) (ih (i + 1) (by omega) (by omega))
    rw [swarflaw30_ChooseCoverable.l0, if_pos (by omega), if_pos (by omega), if_pos (by omega), if_pos (by omega), if_neg (by simp), wrap_next (by omega)]
theorem right_ev (l0 : List (List Bool)) (n0 : l0.length ≤ 9223372036854775807) (l1 : List Int) : ∃ r, Ev (fun k => swarflaw30_right.f k l0 l1) r := by
  obtain ⟨s, hs⟩ := small l0 n0 l1 12 20 (2 * l0.length + 130) (by omega)
  obtain ⟨v, hv⟩ := refValid l0 n0 l1 200 200 (2 * l0.length + 130) (by omega)
  have h : ∃ r, swarflaw30_right.f (2 * l0.length + 130) l0 l1 = some r := by
    rw [swarflaw30_right.f, hs, Option.bind_some]
    split
    · rw [hv]; exact ⟨_, rfl⟩
    · exact ⟨_, rfl⟩
  obtain ⟨r, hr⟩ := h
  exact ⟨r, Ev.of (fun k => swarflaw30_right.mono _ _ _) hr⟩
theorem Coverable (l0 : List (List Bool)) (n0 : l0.length ≤ 9223372036854775807) (l1 : List Int) (n1 : l1.length ≤ 9223372036854775807) (y1 : ∀ n ∈ l1, (Lit.int .i64 n).wf = true) (l2 : List Int) (n2 : l2.length ≤ 9223372036854775807) (y2 : ∀ n ∈ l2, (Lit.int .i64 n).wf = true) : ∃ k, swarflaw30_ChooseCoverable.f k l0 l1 l2 = some true := by
  obtain ⟨r, hr⟩ := right_ev l0 n0 l1
  have hj : Ev (fun k => swarflaw30_ChooseCoverable.j0 k l0 l2 true) true := by
    refine Ev.step (fun k => ?_) (Ev.bind (f := fun _ t => some t) awake_ev (Ev.now _))
    rw [swarflaw30_ChooseCoverable.j0, if_pos rfl]
  refine Ev.rounds (Ev.congr (f := fun k => (swarflaw30_awake.f k).bind fun a => if a = true then (swarflaw30_right.f k l0 l1).bind fun b => if b = true then swarflaw30_ChooseCoverable.j0 k l0 l2 (decide ((l2.length : Int) > 20)) else swarflaw30_ChooseCoverable.j0 k l0 l2 true else swarflaw30_ChooseCoverable.j0 k l0 l2 true) (fun k => by rw [swarflaw30_ChooseCoverable.f]) ?_)
  refine Ev.bind (f := fun k a => if a = true then (swarflaw30_right.f k l0 l1).bind fun b => if b = true then swarflaw30_ChooseCoverable.j0 k l0 l2 (decide ((l2.length : Int) > 20)) else swarflaw30_ChooseCoverable.j0 k l0 l2 true else swarflaw30_ChooseCoverable.j0 k l0 l2 true) awake_ev ?_
  refine Ev.congr (fun k => if_pos rfl) ?_
  refine Ev.bind (f := fun k b => if b = true then swarflaw30_ChooseCoverable.j0 k l0 l2 (decide ((l2.length : Int) > 20)) else swarflaw30_ChooseCoverable.j0 k l0 l2 true) hr ?_
  cases r with
  | false => exact Ev.congr (fun k => if_neg (by simp)) hj
  | true =>
    refine Ev.congr (fun k => if_pos rfl) ?_
    obtain ⟨k, hk⟩ := Ev.rounds hr
    obtain ⟨P, hR⟩ := right_true hk
    by_cases h2 : (l2.length : Int) > 20
    · rw [decide_eq_true h2]
      exact hj
    · rw [decide_eq_false h2]
      have hc : (cov l0 P).length = P := by simp [cov]
      have h3 := law_l0 hR.tab (l := l2) (by omega) hc P 0 (by omega) (Nat.zero_le _)
      refine Ev.step (fun k => ?_) (Ev.bind (f := fun k a => (swarfref30_Coverable.f k l0).bind fun b => if (a.length : Int) = (b.length : Int) then swarflaw30_ChooseCoverable.l0 k l0 l2 a b (a.length : Int) 0 else some false) (coverable hR.tab)
        (Ev.bind (f := fun k b => if ((cov l0 P).length : Int) = (b.length : Int) then swarflaw30_ChooseCoverable.l0 k l0 l2 (cov l0 P) b ((cov l0 P).length : Int) 0 else some false) (refCoverable hR.tab) (Ev.congr (fun k => if_pos rfl) h3)))
      rw [swarflaw30_ChooseCoverable.j0, if_neg (by simp)]
end Go.Proofs.Ytcaefoljlmdjaaa.Pure
