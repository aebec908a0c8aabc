/- ChooseCoverable, in plain lists. -/
import Derived.Test.YtcaefoljlmdjaaaCHx10
import Derived.Test.YtcaefoljlmdjaaaPureValid
namespace Go.Proofs.Ytcaefoljlmdjaaa.Pure
open Go.RowKit Go.Proofs.Ytcaefoljlmdjaaa.CH Go.Proofs.YtcaefoljlmdjaaaW.PrintWords Go.Proofs.YtcaefoljlmdjaaaW.PrintLast
set_option linter.unusedVariables false
set_option linter.unusedSimpArgs false
/-- whether a tool reaches a piece -/
def at2 (T : List (List Bool)) (t p : Nat) : Bool := (rd_L1 T (t : Int)).getD p false
/-- a table in which all rows have P pieces -/
structure Tab (T : List (List Bool)) (P : Nat) : Prop where
  n : T.length ≤ 1000
  p : P ≤ 1000
  rect : ∀ t : Nat, t < T.length → (rd_L1 T (t : Int)).length = P
  zero : T.length = 0 → P = 0
theorem small_l0_true {x0 : List (List Bool)} {x3 : Int} : ∀ (k m : Nat), x0.length ≤ 1000 → swarfref30_Small.l0 k x0 x3 m = some true → ∀ j : Nat, m ≤ j → j < x0.length → ((rd_L1 x0 (j : Int)).length : Int) ≤ x3
  | 0, m, _, h => by simp [swarfref30_Small.l0] at h
  | k + 1, m, hn, h => by
    intro j h0 h1
    rw [swarfref30_Small.l0, if_pos (by omega), if_pos (by omega)] at h
    by_cases hgt : ((rd_L1 x0 (m : Int)).length : Int) > x3
    · rw [if_pos hgt] at h
      cases h
    · rw [if_neg hgt, wrap_next (by omega)] at h
      by_cases e : j = m
      · rw [e]; omega
      · exact small_l0_true k (m + 1) hn h j (by omega) h1
theorem small_true {l0 : List (List Bool)} {l1 : List Int} {a b : Int} {k : Nat} (ha : a ≤ 1000) (h : swarfref30_Small.f k l0 l1 a b = some true) : (l0.length : Int) ≤ a ∧ ∀ j : Nat, j < l0.length → ((rd_L1 l0 (j : Int)).length : Int) ≤ b := by
  rw [swarfref30_Small.f] at h
  have hj : ∀ c, swarfref30_Small.j0 k l0 b c = some true → c = false ∧ ∃ k', swarfref30_Small.l0 k' l0 b 0 = some true := fun c hc => by
    cases k with
    | zero => simp [swarfref30_Small.j0] at hc
    | succ k =>
      rw [swarfref30_Small.j0] at hc
      cases c with
      | true => rw [if_pos rfl] at hc; cases hc
      | false => rw [if_neg (by simp)] at hc; exact ⟨rfl, k, hc⟩
  by_cases hl : (l0.length : Int) > a
  · rw [if_pos hl] at h
    have := (hj _ h).1
    cases this
  · rw [if_neg hl] at h
    obtain ⟨_, k', hk⟩ := hj _ h
    exact ⟨by omega, fun j hj => small_l0_true k' 0 (by omega) hk j (by omega) hj⟩
/-- what the guard of the laws says of a table -/
structure Right (T : List (List Bool)) (cost : List Int) (P : Nat) : Prop where
  tab : Tab T P
  n : T.length ≤ 12
  p : P ≤ 20
  len : cost.length = T.length
  c0 : ∀ t : Nat, t < T.length → 0 ≤ rd cost (t : Int)
  c1 : ∀ t : Nat, t < T.length → rd cost (t : Int) ≤ 2147483648
theorem right_true {l0 : List (List Bool)} {l1 : List Int} {k : Nat} (h : swarflaw30_right.f k l0 l1 = some true) : ∃ P, Right l0 l1 P := by
  rw [swarflaw30_right.f] at h
  obtain ⟨s, hs, h⟩ := Option.bind_eq_some_iff.1 h
  cases s with
  | false => rw [if_neg (by simp)] at h; cases h
  | true =>
    rw [if_pos rfl] at h
    obtain ⟨v, hv, h⟩ := Option.bind_eq_some_iff.1 h
    obtain ⟨h1, h2⟩ := small_true (by omega) hs
    have hv0 : v = 0 := by simpa using h
    subst hv0
    rw [← valid_eq, choose_valid.f, if_neg (by omega)] at hv
    rcases valid_l0 (by omega) k 0 hv (fun j h0 h1 => by omega) (Nat.zero_le _) with ⟨_, h3⟩ | ⟨_, h3⟩
    · cases h3
    · rcases h3 with ⟨hl, k', hk⟩ | ⟨_, h3⟩
      · rcases valid_l1 (by omega) hl k' 0 hk (Nat.zero_le _) with ⟨_, h4⟩ | ⟨hb, _⟩
        · cases h4
        · have hB : ∀ t : Nat, t < l0.length → (rd_L1 l0 (t : Int)).length = (rd_L1 l0 0).length ∧ 0 ≤ rd l1 (t : Int) ∧ rd l1 (t : Int) ≤ 2147483648 := fun t ht => by
            have h5 := hb (t : Int) (by omega) (by omega)
            unfold Bad at h5
            omega
          refine ⟨if l0.length = 0 then 0 else (rd_L1 l0 0).length, ⟨by omega, ?_, ?_, ?_⟩, by omega, ?_, hl, fun t ht => (hB t ht).2.1, fun t ht => (hB t ht).2.2⟩
          · split
            · omega
            · have := h2 0 (by omega); simp at this; omega
          · intro t ht
            rw [if_neg (by omega)]
            exact (hB t ht).1
          · intro h6
            rw [if_pos h6]
          · split
            · omega
            · have := h2 0 (by omega); simp at this; omega
      · cases h3
/-- the pieces that some tool reaches -/
def cov (T : List (List Bool)) (P : Nat) : List Bool := (List.range P).map fun p => (List.range T.length).any fun t => at2 T t p
def orFrom (i : Nat) (x row : List Bool) : List Bool := (List.range x.length).map fun p => x.getD p false || (decide (i ≤ p) && row.getD p false)
theorem orFrom_step {i : Nat} {x row : List Bool} (hi : i < x.length) (b : Bool) (hb : b = (x.getD i false || row.getD i false)) : orFrom i x row = orFrom (i + 1) (x.set i b) row := by
  unfold orFrom
  rw [List.length_set]
  apply List.map_congr_left
  intro p hp
  rw [List.mem_range] at hp
  by_cases e : p = i
  · subst e
    simp [List.getD_eq_getElem?_getD, hp, hb]
    intro h
    omega
  · have h1 : (x.set i b).getD p false = x.getD p false := by simp [List.getD_eq_getElem?_getD, List.getElem?_set_ne (Ne.symm e)]
    have h2 : decide (i ≤ p) = decide (i + 1 ≤ p) := by
      rw [decide_eq_decide]; omega
    rw [h1, h2]
theorem orFrom_end {i : Nat} {x row : List Bool} (hi : x.length ≤ i) : orFrom i x row = x := by
  apply List.ext_getElem
  · simp [orFrom]
  · intro p h1 h2
    have : ¬ i ≤ p := by omega
    simp [orFrom, this, List.getD_eq_getElem?_getD, h2]
theorem orFrom_length (i : Nat) (x row : List Bool) : (orFrom i x row).length = x.length := by simp [orFrom]
theorem rdOf_nat (d : Bool) (xs : List Bool) (i : Nat) : rdOf d xs (i : Int) = xs.getD i d := by simp [rdOf]
theorem pieces_eq {T : List (List Bool)} {P : Nat} (h : Tab T P) : choose_pieces.f T = some (P : Int) := by
  rw [choose_pieces.f]
  by_cases e : T.length = 0
  · rw [if_pos (by omega), h.zero e]; rfl
  · rw [if_neg (by omega), if_pos (by omega)]
    have := h.rect 0 (by omega)
    simp at this
    rw [this]
theorem refPieces_eq {T : List (List Bool)} {P : Nat} (h : Tab T P) : swarfref30_pieces.f T = some (P : Int) := pieces_eq h
theorem cov_l1 {T : List (List Bool)} {P : Nat} (h : Tab T P) {t : Nat} (ht : t < T.length) {r : List Bool} : ∀ (d i : Nat) (x : List Bool), x.length = P → P - i = d → i ≤ P →
    Ev (fun k => choose_Coverable.l0 k (orFrom i x (rd_L1 T (t : Int))) T (T.length : Int) ((t + 1 : Nat) : Int)) r → Ev (fun k => choose_Coverable.l1 k x T (T.length : Int) (t : Int) (rd_L1 T (t : Int)) ((rd_L1 T (t : Int)).length : Int) (i : Int)) r := by
  intro d
  have hr := h.rect t ht
  have hp := h.p
  induction d with
  | zero =>
    intro i x hx hd hi hE
    refine Ev.step (fun k => ?_) hE
    rw [choose_Coverable.l1, if_neg (by omega), wrap_next (by have := h.n; omega), orFrom_end (by omega)]
  | succ d ih =>
    intro i x hx hd hi hE
    by_cases hc : x.getD i false = true
    · refine Ev.step (f := fun k => choose_Coverable.l1 k (x.set i true) T (T.length : Int) (t : Int) (rd_L1 T (t : Int)) ((rd_L1 T (t : Int)).length : Int) ((i + 1 : Nat) : Int)) (fun k => ?_) (ih (i + 1) _ (by simp [hx]) (by omega) (by omega) ?_)
      · rw [choose_Coverable.l1, if_pos (by omega), if_pos (by omega), if_pos (by omega), if_pos (by omega), rdOf_nat, if_pos hc, wrap_next (by omega), Int.toNat_natCast]
      · rw [← orFrom_step (by omega) true (by rw [hc]; rfl)]
        exact hE
    · refine Ev.step (f := fun k => choose_Coverable.l1 k (x.set i ((rd_L1 T (t : Int)).getD i false)) T (T.length : Int) (t : Int) (rd_L1 T (t : Int)) ((rd_L1 T (t : Int)).length : Int) ((i + 1 : Nat) : Int)) (fun k => ?_) (ih (i + 1) _ (by simp [hx]) (by omega) (by omega) ?_)
      · rw [choose_Coverable.l1, if_pos (by omega), if_pos (by omega), if_pos (by omega), if_pos (by omega), rdOf_nat, if_neg hc, wrap_next (by omega), Int.toNat_natCast, rdOf_nat]
      · rw [← orFrom_step (by omega) _ (by rw [Bool.eq_false_iff.2 hc]; simp)]
        exact hE
/-- the pieces of x and those that a tool from t on reaches -/
def covFrom (T : List (List Bool)) (t : Nat) (x : List Bool) : List Bool := (List.range x.length).map fun p => x.getD p false || (List.range T.length).any fun u => decide (t ≤ u) && at2 T u p
theorem covFrom_step {T : List (List Bool)} {t : Nat} (ht : t < T.length) (x : List Bool) : covFrom T t x = covFrom T (t + 1) (orFrom 0 x (rd_L1 T (t : Int))) := by
  unfold covFrom
  rw [orFrom_length]
  apply List.map_congr_left
  intro p hp
  rw [List.mem_range] at hp
  have h1 : (orFrom 0 x (rd_L1 T (t : Int))).getD p false = (x.getD p false || at2 T t p) := by
    simp [orFrom, at2, List.getD_eq_getElem?_getD, hp]
  rw [h1, Bool.or_assoc]
  congr 1
  rw [Bool.eq_iff_iff]
  simp only [List.any_eq_true, List.mem_range, Bool.and_eq_true, decide_eq_true_eq, Bool.or_eq_true]
  constructor
  · rintro ⟨u, hu, h2, h3⟩
    by_cases e : u = t
    · subst e; exact .inl h3
    · exact .inr ⟨u, hu, by omega, h3⟩
  · rintro (h2 | ⟨u, hu, h2, h3⟩)
    · exact ⟨t, ht, Nat.le_refl _, h2⟩
    · exact ⟨u, hu, by omega, h3⟩
theorem covFrom_end {T : List (List Bool)} {t : Nat} (ht : T.length ≤ t) (x : List Bool) : covFrom T t x = x := by
  apply List.ext_getElem
  · simp [covFrom]
  · intro p h1 h2
    have : ((List.range T.length).any fun u => decide (t ≤ u) && at2 T u p) = false := by
      rw [Bool.eq_false_iff]
      intro h
      simp only [List.any_eq_true, List.mem_range, Bool.and_eq_true, decide_eq_true_eq] at h
      obtain ⟨u, hu, h3, _⟩ := h
      omega
    simp [covFrom, this, List.getD_eq_getElem?_getD, h2]
theorem covFrom_start (T : List (List Bool)) (P : Nat) : covFrom T 0 (List.replicate P false) = cov T P := by
  unfold covFrom cov
  rw [List.length_replicate]
  apply List.map_congr_left
  intro p hp
  rw [List.mem_range] at hp
  simp [List.getD_eq_getElem?_getD, hp]
theorem cov_l0 {T : List (List Bool)} {P : Nat} (h : Tab T P) : ∀ (d t : Nat) (x : List Bool), x.length = P → T.length - t = d → t ≤ T.length → Ev (fun k => choose_Coverable.l0 k x T (T.length : Int) (t : Int)) (covFrom T t x) := by
  intro d
  induction d with
  | zero =>
    intro t x hx hd ht
    refine Ev.step (f := fun _ => some (covFrom T t x)) (fun k => ?_) (Ev.now _)
    rw [choose_Coverable.l0, if_neg (by omega), covFrom_end (by omega)]
  | succ d ih =>
    intro t x hx hd ht
    have h1 := ih (t + 1) (orFrom 0 x (rd_L1 T (t : Int))) (by rw [orFrom_length]; exact hx) (by omega) (by omega)
    rw [← covFrom_step (by omega)] at h1
    refine Ev.step (fun k => ?_) (cov_l1 h (t := t) (by omega) P 0 x hx (by omega) (Nat.zero_le _) h1)
    rw [choose_Coverable.l0, if_pos (by omega), if_pos (by omega), if_pos (by omega)]
    rfl
theorem coverable {T : List (List Bool)} {P : Nat} (h : Tab T P) : Ev (fun k => choose_Coverable.f k T) (cov T P) := by
  have h1 := cov_l0 h T.length 0 (List.replicate P false) (by simp) (by omega) (Nat.zero_le _)
  rw [covFrom_start] at h1
  refine Ev.congr (fun k => ?_) h1
  have hp := h.p
  rw [choose_Coverable.f, pieces_eq h, Option.bind_some, if_pos (by omega), if_pos (by omega), Int.toNat_natCast]
  rfl
theorem all_l0 {T : List (List Bool)} (hn : T.length ≤ 1000) : ∀ (d i : Nat), T.length - i = d → i ≤ T.length → Ev (fun k => swarfref30_all.l0 k T ((List.range i).map fun j : Nat => (j : Int)) (i : Int)) ((List.range T.length).map fun j : Nat => (j : Int)) := by
  intro d
  induction d with
  | zero =>
    intro i hd hi
    refine Ev.step (f := fun _ => some _) (fun k => ?_) (Ev.now _)
    rw [swarfref30_all.l0, if_neg (by omega), show i = T.length by omega]
  | succ d ih =>
    intro i hd hi
    refine Ev.step (fun k => ?_) (ih (i + 1) (by omega) (by omega))
    rw [swarfref30_all.l0, if_pos (by omega), if_pos (by simp; omega), wrap_next (by omega), List.range_succ, List.map_append]
    rfl
theorem all_ev {T : List (List Bool)} (hn : T.length ≤ 1000) : Ev (fun k => swarfref30_all.f k T) ((List.range T.length).map fun j : Nat => (j : Int)) := all_l0 hn T.length 0 (by omega) (Nat.zero_le _)
theorem rd_nat (xs : List Int) (i : Nat) : rd xs (i : Int) = xs.getD i 0 := by simp [rd]
/-- whether a tool of a list reaches a piece -/
def reachedBy (T : List (List Bool)) (l : List Int) (p : Nat) : Bool := l.any fun t => at2 T t.toNat p
theorem reached_l0 {T : List (List Bool)} {P : Nat} (h : Tab T P) {l : List Int} (hl : l.length ≤ 100000) (hi : ∀ t ∈ l, 0 ≤ t ∧ t < T.length) {p : Nat} (hp : p < P) : ∀ (d i : Nat), l.length - i = d → i ≤ l.length → Ev (fun k => swarfref30_reached.l0 k T l (p : Int) (i : Int)) (reachedBy T (l.drop i) p) := by
  intro d
  induction d with
  | zero =>
    intro i hd hil
    refine Ev.step (f := fun _ => some _) (fun k => ?_) (Ev.now _)
    rw [swarfref30_reached.l0, if_neg (by omega), List.drop_of_length_le (by omega)]
    rfl
  | succ d ih =>
    intro i hd hil
    have hlt : i < l.length := by omega
    have hm : l[i] ∈ l := List.getElem_mem hlt
    obtain ⟨h0, h1⟩ := hi _ hm
    have hrd : rd l (i : Int) = l[i] := by rw [rd_nat]; simp [List.getD_eq_getElem?_getD, hlt]
    have hto : ((l[i].toNat : Nat) : Int) = l[i] := Int.toNat_of_nonneg h0
    have hrow : (rd_L1 T l[i]).length = P := by
      have := h.rect l[i].toNat (by omega)
      rwa [hto] at this
    have hat : at2 T l[i].toNat p = rdOf false (rd_L1 T l[i]) (p : Int) := by
      unfold at2
      rw [hto, rdOf_nat]
    rw [List.drop_eq_getElem_cons hlt]
    by_cases hc : rdOf false (rd_L1 T l[i]) (p : Int) = true
    · refine Ev.step (f := fun _ => some _) (fun k => ?_) (Ev.now _)
      rw [swarfref30_reached.l0, if_pos (by omega), if_pos (by omega), hrd, if_pos h0, if_pos h1, if_pos (by omega), if_pos (by omega), if_pos hc]
      unfold reachedBy
      rw [List.any_cons, hat, hc]
      rfl
    · refine Ev.step (fun k => ?_) (Ev.congr (fun k => rfl) (show Ev (fun k => swarfref30_reached.l0 k T l (p : Int) ((i + 1 : Nat) : Int)) (reachedBy T (l[i] :: l.drop (i + 1)) p) from ?_))
      · rw [swarfref30_reached.l0, if_pos (by omega), if_pos (by omega), hrd, if_pos h0, if_pos h1, if_pos (by omega), if_pos (by omega), if_neg hc, wrap_next (by omega)]
      · have := ih (i + 1) (by omega) (by omega)
        have e : reachedBy T (l[i] :: l.drop (i + 1)) p = reachedBy T (l.drop (i + 1)) p := by
          unfold reachedBy
          rw [List.any_cons, hat, Bool.eq_false_iff.2 hc]
          rfl
        rw [e]
        exact this
theorem reached_ev {T : List (List Bool)} {P : Nat} (h : Tab T P) {l : List Int} (hl : l.length ≤ 100000) (hi : ∀ t ∈ l, 0 ≤ t ∧ t < T.length) {p : Nat} (hp : p < P) : Ev (fun k => swarfref30_reached.f k T l (p : Int)) (reachedBy T l p) := by
  have := reached_l0 h hl hi hp l.length 0 (by omega) (Nat.zero_le _)
  rwa [List.drop_zero] at this
theorem refCov_l0 {T : List (List Bool)} {P : Nat} (h : Tab T P) : ∀ (d p : Nat), P - p = d → p ≤ P → Ev (fun k => swarfref30_Coverable.l0 k T (cov T p) (p : Int)) (cov T P) := by
  intro d
  have hn := h.n
  have hP := h.p
  induction d with
  | zero =>
    intro p hd hp
    refine Ev.step (f := fun _ => some _) (fun k => ?_) (Ev.now _)
    rw [swarfref30_Coverable.l0, refPieces_eq h, Option.bind_some, if_neg (by omega), show p = P by omega]
  | succ d ih =>
    intro p hd hp
    have hre := reached_ev h (l := (List.range T.length).map fun j : Nat => (j : Int)) (by simp; omega) (by simp) (p := p) (by omega)
    have e : reachedBy T ((List.range T.length).map fun j : Nat => (j : Int)) p = (List.range T.length).any fun t => at2 T t p := by
      unfold reachedBy
      rw [List.any_map]
      rfl
    rw [e] at hre
    have hlen : (cov T p).length < 140737488355328 := by simp [cov]; omega
    have hnext : Ev (fun k => if (cov T p).length < 140737488355328 then swarfref30_Coverable.l0 k T (cov T p ++ [(List.range T.length).any fun t => at2 T t p]) (wrap64 ((p : Int) + 1)) else none) (cov T P) := by
      refine Ev.congr (fun k => ?_) (ih (p + 1) (by omega) (by omega))
      rw [if_pos hlen, wrap_next (by omega)]
      have : cov T (p + 1) = cov T p ++ [(List.range T.length).any fun t => at2 T t p] := by
        unfold cov
        rw [List.range_succ, List.map_append]
        rfl
      rw [this]
    refine Ev.step (f := fun k => (swarfref30_all.f k T).bind fun a => (swarfref30_reached.f k T a (p : Int)).bind fun b => if (cov T p).length < 140737488355328 then swarfref30_Coverable.l0 k T (cov T p ++ [b]) (wrap64 ((p : Int) + 1)) else none) (fun k => ?_)
      (Ev.bind (f := fun k a => (swarfref30_reached.f k T a (p : Int)).bind fun b => if (cov T p).length < 140737488355328 then swarfref30_Coverable.l0 k T (cov T p ++ [b]) (wrap64 ((p : Int) + 1)) else none) (all_ev hn)
        (Ev.bind (f := fun k b => if (cov T p).length < 140737488355328 then swarfref30_Coverable.l0 k T (cov T p ++ [b]) (wrap64 ((p : Int) + 1)) else none) hre hnext))
    rw [swarfref30_Coverable.l0, refPieces_eq h, Option.bind_some, if_pos (by omega)]
theorem refCoverable {T : List (List Bool)} {P : Nat} (h : Tab T P) : Ev (fun k => swarfref30_Coverable.f k T) (cov T P) := refCov_l0 h P 0 (by omega) (Nat.zero_le _)
theorem awake_ev : Ev (fun k => swarflaw30_awake.f k) true := ⟨120, fun k hk => awake_at k hk⟩
theorem right_ev (l0 : List (List Bool)) (n0 : l0.length ≤ 9223372036854775807) (l1 : List Int) : ∃ r, Ev (fun k => swarflaw30_right.f k l0 l1) r := by
  obtain ⟨s, hs⟩ := small l0 n0 l1 12 20 (2 * l0.length + 130) (by omega)
  obtain ⟨v, hv⟩ := refValid l0 n0 l1 200 200 (2 * l0.length + 130) (by omega)
  have h : ∃ r, swarflaw30_right.f (2 * l0.length + 130) l0 l1 = some r := by
    rw [swarflaw30_right.f, hs, Option.bind_some]
    split
    · rw [hv]; exact ⟨_, rfl⟩
    · exact ⟨_, rfl⟩
  obtain ⟨r, hr⟩ := h
  exact ⟨r, Ev.of (fun k => swarflaw30_right.mono _ _ _) hr⟩
end Go.Proofs.Ytcaefoljlmdjaaa.Pure
