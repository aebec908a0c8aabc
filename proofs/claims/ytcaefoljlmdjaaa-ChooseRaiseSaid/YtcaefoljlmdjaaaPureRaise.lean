/- ChooseRaise, in plain lists. -/
import Derived.Test.YtcaefoljlmdjaaaPureRaise0
import Derived.Test.YtcaefoljlmdjaaaPurePrices
import Derived.Test.YtcaefoljlmdjaaaCHx15
namespace Go.Proofs.Ytcaefoljlmdjaaa.Pure
open Go.RowKit Go.Proofs.Ytcaefoljlmdjaaa.CH Go.Proofs.YtcaefoljlmdjaaaW.PrintWords Go.Proofs.YtcaefoljlmdjaaaW.PrintLast
set_option linter.unusedVariables false
set_option linter.unusedSimpArgs false
section
variable {T : List (List Bool)} {P : Nat} (h : Tab T P) {cost x : List Int} (hlc : cost.length = T.length) (hc : ∀ t : Nat, t < T.length → rd cost (t : Int) ≤ 2147483648) {p : Nat} (R : RS T P cost x p) (hp : p < P)
include h hlc hc R hp
theorem refRaise_end {r : List Int × Int} (hE : Ev (fun k => swarfref30_Raise.l0 k T cost (x.set p (top T P cost x p)) ((p + 1 : Nat) : Int)) r) : Ev (fun k => swarfref30_Raise.l1 k T cost (x.set p (top T P cost x p)) (p : Int) 0) r := by
  have _u := And.intro hlc (And.intro hc R)
  have hp2 := h.p
  refine Ev.step (fun k => ?_) hE
  rw [swarfref30_Raise.l1, if_neg (by omega), wrap_next (by omega)]
theorem refRaise_round {r : List Int × Int} {st cur nx : Int} (hs0 : 0 < st) (hs1 : st ≤ 2147483648) (h0 : 0 ≤ cur) (h1 : cur ≤ top T P cost x p) (hnx : Int.tdiv st 2 = nx) (hn0 : 0 ≤ nx) (hn1 : nx ≤ 2147483648)
    (hE : Ev (fun k => swarfref30_Raise.l1 k T cost (x.set p (if cur + st ≤ top T P cost x p then cur + st else cur)) (p : Int) nx) r) : Ev (fun k => swarfref30_Raise.l1 k T cost (x.set p cur) (p : Int) st) r := by
  obtain ⟨t0, t1, _⟩ := top_spec R hp hc
  have hl := R.len
  have hp2 := h.p
  have hf := fair_set R hp hc (y := cur + st) (by omega)
  have hpr := refPrices_ev h (cost := cost) (l := x.set p (cur + st)) hlc
  refine Ev.step (fun k => ?_) (Ev.bind (f := fun k b => if b.2 = true then swarfref30_Raise.l1 k T cost (x.set p (cur + st)) (p : Int) nx else swarfref30_Raise.l1 k T cost (x.set p cur) (p : Int) nx) hpr ?_)
  · rw [swarfref30_Raise.l1, if_pos (by omega), if_pos (by omega), if_pos (by simp; omega), Option.bind_some, Int.toNat_natCast, rd_set_same (by omega), List.set_set, wrap_small (x := cur + st) (by omega) (by omega), rd_set_same (by omega), List.set_set, hnx, wrap_small hn0 (by omega), show cur + st - st = cur by omega, wrap_small h0 (by omega)]
  · by_cases hq : cur + st ≤ top T P cost x p
    · rw [if_pos hq] at hE
      exact Ev.congr (fun k => if_pos (hf.2 hq)) hE
    · rw [if_neg hq] at hE
      exact Ev.congr (fun k => if_neg (fun h => hq (hf.1 h))) hE
theorem refRaise_l1 {r : List Int × Int} (hE : Ev (fun k => swarfref30_Raise.l0 k T cost (x.set p (top T P cost x p)) ((p + 1 : Nat) : Int)) r) :
    ∀ (s : Nat) (st cur : Int), st = ((2 ^ s : Nat) : Int) → s ≤ 31 → 0 ≤ cur → cur ≤ top T P cost x p → top T P cost x p < cur + 2 * st → Ev (fun k => swarfref30_Raise.l1 k T cost (x.set p cur) (p : Int) st) r := by
  obtain ⟨t0, t1, _⟩ := top_spec R hp hc
  have hl := R.len
  have hp2 := h.p
  intro s
  induction s with
  | zero =>
    intro st cur hst hs h0 h1 h2
    have e1 : st = 1 := by rw [hst]; rfl
    subst e1
    refine refRaise_round h hlc hc R hp (nx := 0) (by omega) (by omega) h0 h1 rfl (by omega) (by omega) ?_
    have e2 : (if cur + 1 ≤ top T P cost x p then cur + 1 else cur) = top T P cost x p := by split <;> omega
    rw [e2]
    exact refRaise_end h hlc hc R hp hE
  | succ s ih =>
    intro st cur hst hs h0 h1 h2
    have e1 : st = 2 * ((2 ^ s : Nat) : Int) := by rw [hst, Nat.pow_succ]; omega
    have e3 : 1 ≤ 2 ^ s := Nat.one_le_two_pow
    have e4 : 2 ^ s ≤ 2 ^ 30 := Nat.pow_le_pow_right (by omega) (by omega)
    have e5 : (2 ^ 30 : Nat) = 1073741824 := by decide
    obtain ⟨z, hz⟩ : ∃ z : Nat, 2 ^ s = z := ⟨_, rfl⟩
    rw [hz] at e1 e3 e4
    refine refRaise_round h hlc hc R hp (nx := (z : Int)) (by omega) (by omega) h0 h1 (by rw [e1]; exact Int.mul_tdiv_cancel_left _ (by omega)) (by omega) (by omega) ?_
    refine ih (z : Int) _ (by rw [hz]) (by omega) ?_ ?_ ?_
    · split <;> omega
    · split <;> omega
    · split <;> omega
end
/-- the prices that Raise gives to the first pieces -/
def raiseL (T : List (List Bool)) (P : Nat) (cost : List Int) : Nat → List Int
  | 0 => List.replicate P 0
  | p + 1 => (raiseL T P cost p).set p (top T P cost (raiseL T P cost p) p)
theorem rd_zeros (P q : Nat) : rd (List.replicate P 0) (q : Int) = 0 := by
  rw [rd_nat]
  rcases Nat.lt_or_ge q P with h | h
  · simp [List.getD_eq_getElem?_getD, h]
  · simp [List.getD_eq_getElem?_getD, h]
theorem paid_zeros (T : List (List Bool)) (P t : Nat) : ∀ n, paid T (List.replicate P 0) t n = 0
  | 0 => rfl
  | n + 1 => by rw [paid, paid_zeros T P t n, rd_zeros]; simp
theorem raise_RS {T : List (List Bool)} {P : Nat} {cost : List Int} (hc0 : ∀ t : Nat, t < T.length → 0 ≤ rd cost (t : Int)) (hc : ∀ t : Nat, t < T.length → rd cost (t : Int) ≤ 2147483648) : ∀ p, p ≤ P → RS T P cost (raiseL T P cost p) p
  | 0, _ => ⟨by simp [raiseL], fun q _ _ => rd_zeros P q, fun q _ => by unfold badP raiseL; rw [rd_zeros]; omega, fun t ht => by rw [raiseL, paid_zeros]; exact hc0 t ht⟩
  | p + 1, hp => RS.next (raise_RS hc0 hc p (by omega)) (by omega) hc
theorem refRaise_l0 {T : List (List Bool)} {P : Nat} (h : Tab T P) {cost : List Int} (hlc : cost.length = T.length) (hc0 : ∀ t : Nat, t < T.length → 0 ≤ rd cost (t : Int)) (hc : ∀ t : Nat, t < T.length → rd cost (t : Int) ≤ 2147483648) :
    ∀ (d p : Nat), P - p = d → p ≤ P → Ev (fun k => swarfref30_Raise.l0 k T cost (raiseL T P cost p) (p : Int)) (raiseL T P cost P, 0) := by
  intro d
  induction d with
  | zero =>
    intro p hd hp
    have hl := (raise_RS (P := P) hc0 hc p hp).len
    refine Ev.step (f := fun _ => some _) (fun k => ?_) (Ev.now _)
    rw [swarfref30_Raise.l0, if_neg (by omega), show p = P by omega]
  | succ d ih =>
    intro p hd hp
    have R := raise_RS (P := P) hc0 hc p hp
    have hl := R.len
    have hz := R.zeros p (Nat.le_refl _) (by omega)
    obtain ⟨t0, t1, _⟩ := top_spec R (by omega) hc
    have h1 := refRaise_l1 h hlc hc R (by omega) (ih (p + 1) (by omega) (by omega)) 31 2147483648 0 (by decide) (by omega) (Int.le_refl _) t0 (by omega)
    have e : (raiseL T P cost p).set p 0 = raiseL T P cost p := by
      apply List.ext_getElem (by simp)
      intro i h2 h3
      by_cases ei : i = p
      · subst ei
        rw [rd_nat] at hz
        simp [List.getD_eq_getElem?_getD, h3] at hz
        simp [hz]
      · simp [List.getElem_set_ne (Ne.symm ei)]
    rw [e] at h1
    refine Ev.step (fun k => ?_) h1
    rw [swarfref30_Raise.l0, if_pos (by omega)]
/-! The program's side. -/
theorem left_set {T : List (List Bool)} {P : Nat} {cost x : List Int} {p : Nat} (R : RS T P cost x p) (hp : p < P) (y : Int) (t : Nat) : left T P cost (x.set p y) t = left T P cost x t - (if at2 T t p = true then y else 0) := by
  have hl := R.len
  unfold left
  rw [paid_set (by omega) (R.zeros p (Nat.le_refl _) hp)]
  by_cases e : at2 T t p = true
  · simp [e, hp]; omega
  · simp [e]
section
variable {T : List (List Bool)} {P : Nat} (h : Tab T P) {cost x : List Int} (hlc : cost.length = T.length) (hc : ∀ t : Nat, t < T.length → rd cost (t : Int) ≤ 2147483648) {p : Nat} (R : RS T P cost x p) (hp : p < P)
include h hlc hc R hp
theorem raise_l1 {s : List Int} (hs : s.length = T.length) (hsl : ∀ t : Nat, t < T.length → rd s (t : Int) = left T P cost x t) {r : List Int × Int} (hE : Ev (fun k => choose_Raise.l2 k T s (x.set p (top T P cost x p)) (p : Int) (P : Int) (p : Int) T (T.length : Int) ((0 : Nat) : Int)) r) :
    ∀ (d t : Nat), T.length - t = d → t ≤ T.length → Ev (fun k => choose_Raise.l1 k T s x (p : Int) (least T (left T P cost x) p t) (P : Int) (p : Int) T (T.length : Int) (t : Int)) r := by
  intro d
  have _u := hc
  have hl := R.len
  have hn := h.n
  induction d with
  | zero =>
    intro t hd ht
    refine Ev.step (fun k => ?_) hE
    rw [choose_Raise.l1, if_neg (by omega), if_pos (by omega), if_pos (by omega), Int.toNat_natCast, show t = T.length by omega]
    rfl
  | succ d ih =>
    intro t hd ht
    have h1 := ih (t + 1) (by omega) (by omega)
    have hrow := h.rect t (by omega)
    refine Ev.step (fun k => ?_) h1
    rw [choose_Raise.l1, if_pos (by omega), if_pos (by omega), if_pos (by omega), if_pos (by omega), if_pos (by omega), at2_rd, wrap_next (by omega), hsl t (by omega), least]
    by_cases e : at2 T t p = true
    · rw [if_pos e, if_pos e]
      by_cases h0 : least T (left T P cost x) p t < 0
      · rw [if_pos h0, if_pos (by omega), if_pos h0]
      · rw [if_neg h0, if_neg h0, if_pos (by omega)]
        by_cases h2 : left T P cost x t < least T (left T P cost x) p t
        · rw [if_pos h2, if_pos h2]
        · rw [if_neg h2, if_neg h2]
    · rw [if_neg e, if_neg e]
theorem raise_l2 {r : List Int × Int} (hE : ∀ s : List Int, s.length = T.length → (∀ u : Nat, u < T.length → rd s (u : Int) = left T P cost (x.set p (top T P cost x p)) u) → Ev (fun k => choose_Raise.l0 k T s (x.set p (top T P cost x p)) (P : Int) ((p + 1 : Nat) : Int)) r) :
    ∀ (d t : Nat) (s : List Int), T.length - t = d → t ≤ T.length → s.length = T.length → (∀ u : Nat, u < T.length → rd s (u : Int) = if u < t then left T P cost (x.set p (top T P cost x p)) u else left T P cost x u) →
      Ev (fun k => choose_Raise.l2 k T s (x.set p (top T P cost x p)) (p : Int) (P : Int) (p : Int) T (T.length : Int) (t : Int)) r := by
  intro d
  have hl := R.len
  have hn := h.n
  have hpp := h.p
  obtain ⟨t0, t1, ts⟩ := top_spec R hp hc
  induction d with
  | zero =>
    intro t s hd ht hs hsl
    refine Ev.step (fun k => ?_) (hE s hs (fun u hu => by rw [hsl u hu, if_pos (by omega)]))
    rw [choose_Raise.l2, if_neg (by omega), wrap_next (by omega)]
  | succ d ih =>
    intro t s hd ht hs hsl
    have hrow := h.rect t (by omega)
    have hst := hsl t (by omega)
    rw [if_neg (by omega)] at hst
    by_cases e : at2 T t p = true
    · have hle := ((ts _ t0).1 (Int.le_refl _)).2 t (by omega) e
      have hup : left T P cost x t ≤ 2147483648 := by
        have h2 := hc t (by omega)
        have h3 := paid_range (T := T) (P := P) (l := x) t P (fun q hq => R.good q hq)
        unfold left
        omega
      refine Ev.step (fun k => ?_) (ih (t + 1) (s.set t (left T P cost x t - top T P cost x p)) (by omega) (by omega) (by simp [hs]) (fun u hu => ?_))
      · rw [choose_Raise.l2, if_pos (by omega), if_pos (by omega), if_pos (by omega), if_pos (by omega), if_pos (by omega), at2_rd, if_pos e, if_pos (by omega), if_pos (by rw [List.length_set]; omega), wrap_next (by omega), Int.toNat_natCast, hst, rd_set_same (by omega), wrap_small (by omega) (by omega)]
      · by_cases eu : u = t
        · subst eu
          rw [rd_set_same (by omega), if_pos (by omega), left_set R hp, if_pos e]
        · rw [rd_set_other eu, hsl u hu]
          by_cases hlt : u < t
          · rw [if_pos hlt, if_pos (by omega)]
          · rw [if_neg hlt, if_neg (by omega)]
    · refine Ev.step (fun k => ?_) (ih (t + 1) s (by omega) (by omega) hs (fun u hu => ?_))
      · rw [choose_Raise.l2, if_pos (by omega), if_pos (by omega), if_pos (by omega), if_pos (by omega), if_pos (by omega), at2_rd, if_neg e, wrap_next (by omega)]
      · rw [hsl u hu]
        by_cases eu : u = t
        · subst eu
          rw [if_neg (by omega), if_pos (by omega), left_set R hp, if_neg e, Int.sub_zero]
        · by_cases hlt : u < t
          · rw [if_pos hlt, if_pos (by omega)]
          · rw [if_neg hlt, if_neg (by omega)]
end
theorem raise_l0 {T : List (List Bool)} {P : Nat} (h : Tab T P) {cost : List Int} (hlc : cost.length = T.length) (hc0 : ∀ t : Nat, t < T.length → 0 ≤ rd cost (t : Int)) (hc : ∀ t : Nat, t < T.length → rd cost (t : Int) ≤ 2147483648) :
    ∀ (d p : Nat) (s : List Int), P - p = d → p ≤ P → s.length = T.length → (∀ t : Nat, t < T.length → rd s (t : Int) = left T P cost (raiseL T P cost p) t) → Ev (fun k => choose_Raise.l0 k T s (raiseL T P cost p) (P : Int) (p : Int)) (raiseL T P cost P, 0) := by
  intro d
  induction d with
  | zero =>
    intro p s hd hp hs hsl
    refine Ev.step (f := fun _ => some _) (fun k => ?_) (Ev.now _)
    rw [choose_Raise.l0, if_neg (by omega), show p = P by omega]
  | succ d ih =>
    intro p s hd hp hs hsl
    have R := raise_RS (P := P) hc0 hc p hp
    refine Ev.step (fun k => ?_) (raise_l1 h hlc hc R (by omega) hs hsl (raise_l2 h hlc hc R (by omega) (fun s' hs' hsl' => ih (p + 1) s' (by omega) (by omega) hs' hsl') T.length 0 s (by omega) (Nat.zero_le _) hs (fun u hu => by rw [if_neg (by omega)]; exact hsl u hu)) T.length 0 (by omega) (Nat.zero_le _))
    rw [choose_Raise.l0, if_pos (by omega)]
    rfl
theorem left_zeros (T : List (List Bool)) (P : Nat) (cost : List Int) (t : Nat) : left T P cost (List.replicate P 0) t = rd cost (t : Int) := by
  unfold left
  rw [paid_zeros, Int.sub_zero]
theorem clone_eq {T : List (List Bool)} {P : Nat} (h : Tab T P) {cost : List Int} (hlc : cost.length = T.length) : slices_Clone_int64_int64.f cost = some cost := by
  have := h.n
  unfold slices_Clone_int64_int64.f
  rw [Option.bind_some, if_pos (by simp; omega)]
  rfl
/-- what Raise tells of a table without errors -/
theorem raise_ev {T : List (List Bool)} {P : Nat} (h : Tab T P) {cost : List Int} (hlc : cost.length = T.length) (hc0 : ∀ t : Nat, t < T.length → 0 ≤ rd cost (t : Int)) (hc : ∀ t : Nat, t < T.length → rd cost (t : Int) ≤ 2147483648) (hV : Ev (fun k => choose_Valid.f k T cost) 0) :
    Ev (fun k => choose_Raise.f k T cost) (raiseL T P cost P, 0) := by
  have hp := h.p
  refine Ev.congr (fun k => ?_) (Ev.bind (f := fun k v => if v = 0 then choose_Raise.l0 k T cost (raiseL T P cost 0) (P : Int) ((0 : Nat) : Int) else some (([] : List Int), v)) hV ?_)
  · rw [choose_Raise.f, clone_eq h hlc, pieces_eq h, Option.bind_some, Option.bind_some, if_pos (by omega), if_pos (by omega), Option.bind_some, Int.toNat_natCast, List.length_replicate]
    rfl
  · exact Ev.congr (fun k => if_pos rfl) (raise_l0 h hlc hc0 hc P 0 cost (by omega) (Nat.zero_le _) hlc (fun t ht => (left_zeros T P cost t).symm))
theorem refRaise_ev {T : List (List Bool)} {P : Nat} (h : Tab T P) {cost : List Int} (hlc : cost.length = T.length) (hc0 : ∀ t : Nat, t < T.length → 0 ≤ rd cost (t : Int)) (hc : ∀ t : Nat, t < T.length → rd cost (t : Int) ≤ 2147483648) (hV : Ev (fun k => swarfref30_Valid.f k T cost 200 200) 0) :
    Ev (fun k => swarfref30_Raise.f k T cost) (raiseL T P cost P, 0) := by
  have hp := h.p
  refine Ev.congr (fun k => ?_) (Ev.bind (f := fun k v => if v = 0 then swarfref30_Raise.l0 k T cost (raiseL T P cost 0) ((0 : Nat) : Int) else some (([] : List Int), v)) hV ?_)
  · rw [swarfref30_Raise.f, refPieces_eq h, Option.bind_some, if_pos (by omega), if_pos (by omega), Int.toNat_natCast]
    rfl
  · exact Ev.congr (fun k => if_pos rfl) (refRaise_l0 h hlc hc0 hc P 0 (by omega) (Nat.zero_le _))
theorem same_l0 {l : List Int} (hl : l.length ≤ 1000) : ∀ (d i : Nat), l.length - i = d → i ≤ l.length → Ev (fun k => swarflaw30_same.l0 k l l (l.length : Int) (i : Int)) true := by
  intro d
  induction d with
  | zero =>
    intro i hd hi
    refine Ev.step (f := fun _ => some _) (fun k => ?_) (Ev.now _)
    rw [swarflaw30_same.l0, if_neg (by omega)]
  | succ d ih =>
    intro i hd hi
    refine Ev.step (fun k => ?_) (ih (i + 1) (by omega) (by omega))
    rw [swarflaw30_same.l0, if_pos (by omega), if_pos (by omega), if_pos (by omega), if_pos (by omega), if_pos rfl, wrap_next (by omega)]
theorem same_ev {l : List Int} (hl : l.length ≤ 1000) : Ev (fun k => swarflaw30_same.f k l l) true := by
  refine Ev.congr (fun k => ?_) (same_l0 hl l.length 0 (by omega) (Nat.zero_le _))
  rw [swarflaw30_same.f, if_pos rfl]
  rfl
/-- the prices of Raise are fair -/
theorem raise_fair {T : List (List Bool)} {P : Nat} {cost : List Int} (hc0 : ∀ t : Nat, t < T.length → 0 ≤ rd cost (t : Int)) (hc : ∀ t : Nat, t < T.length → rd cost (t : Int) ≤ 2147483648) : (pricesV T P cost (raiseL T P cost P)).2 = true := by
  have R := raise_RS (P := P) hc0 hc P (Nat.le_refl _)
  exact (pricesV_true R.len).2 ⟨R.good, R.pay⟩
/-- Valid's answer, on both sides -/
theorem valid_ev (l0 : List (List Bool)) (n0 : l0.length ≤ 9223372036854775807) (l1 : List Int) : ∃ v, Ev (fun k => swarfref30_Valid.f k l0 l1 200 200) v ∧ Ev (fun k => choose_Valid.f k l0 l1) v := by
  obtain ⟨v, hv⟩ := refValid l0 n0 l1 200 200 (2 * l0.length + 130) (by omega)
  have h : Ev (fun k => swarfref30_Valid.f k l0 l1 200 200) v := Ev.of (fun k => swarfref30_Valid.mono _ _ _ _ _) hv
  refine ⟨v, h, Ev.congr (fun k => ?_) (Ev.bind (f := fun _ v => some v) h (Ev.now _))⟩
  rw [choose_Valid.f, valid_eq]
theorem Raise (l0 : List (List Bool)) (n0 : l0.length ≤ 9223372036854775807) (l1 : List Int) (n1 : l1.length ≤ 9223372036854775807) (y1 : ∀ n ∈ l1, (Lit.int .i64 n).wf = true) : ∃ k, swarflaw30_ChooseRaise.f k l0 l1 = some true := by
  obtain ⟨s, hs⟩ := small l0 n0 l1 12 20 (2 * l0.length + 130) (by omega)
  have hS : Ev (fun k => swarfref30_Small.f k l0 l1 12 20) s := Ev.of (fun k => swarfref30_Small.mono _ _ _ _ _) hs
  obtain ⟨v, hV, hW⟩ := valid_ev l0 n0 l1
  have hj : Ev (fun k => swarflaw30_ChooseRaise.j0 k l0 l1 true) true := by
    refine Ev.step (fun k => ?_) (Ev.bind (f := fun _ t => some t) awake_ev (Ev.now _))
    rw [swarflaw30_ChooseRaise.j0, if_pos rfl]
  have hcore : s = true → Ev (fun k => swarflaw30_ChooseRaise.j0 k l0 l1 false) true := fun hst => by
    have hab : ∃ a e, Ev (fun k => choose_Raise.f k l0 l1) (a, e) ∧ Ev (fun k => swarfref30_Raise.f k l0 l1) (a, e) ∧ a.length ≤ 1000 ∧ (e ≠ 0 ∨ (e = 0 ∧ Ev (fun k => (choose_Prices.f k l0 l1 a).bind fun b => some b.2) true)) := by
      by_cases hv0 : v = 0
      · subst hv0
        obtain ⟨k, hk⟩ := Ev.rounds (Ev.congr (fun k => by rw [swarflaw30_right.f]) (Ev.bind (f := fun k s => if s = true then (swarfref30_Valid.f k l0 l1 200 200).bind fun v => some (v == 0) else some false) hS (r := true) (by
          rw [hst]
          exact Ev.congr (fun k => if_pos rfl) (Ev.bind (f := fun _ v => some (v == 0)) hV (Ev.now _)))) : Ev (fun k => swarflaw30_right.f k l0 l1) true)
        obtain ⟨P, hR⟩ := right_true hk
        have hP := hR.p
        refine ⟨raiseL l0 P l1 P, 0, raise_ev hR.tab hR.len hR.c0 hR.c1 hW, refRaise_ev hR.tab hR.len hR.c0 hR.c1 hV, by rw [(raise_RS (P := P) hR.c0 hR.c1 P (Nat.le_refl _)).len]; omega, .inr ⟨rfl, ?_⟩⟩
        have := Ev.bind (f := fun _ b => some b.2) (prices_ev hR.tab (cost := l1) (l := raiseL l0 P l1 P) hR.len) (Ev.now _)
        rwa [raise_fair hR.c0 hR.c1] at this
      · refine ⟨[], v, ?_, ?_, by simp, .inl hv0⟩
        · refine Ev.congr (fun k => by rw [choose_Raise.f]) (Ev.bind (f := fun k v => if v = 0 then _ else some (([] : List Int), v)) hW (Ev.congr (fun k => if_neg hv0) (Ev.now _)))
        · refine Ev.congr (fun k => by rw [swarfref30_Raise.f]) (Ev.bind (f := fun k v => if v = 0 then _ else some (([] : List Int), v)) hV (Ev.congr (fun k => if_neg hv0) (Ev.now _)))
    obtain ⟨a, e, hA, hB, hal, hrest⟩ := hab
    have hsame := same_ev hal
    have hj1 : Ev (fun k => swarflaw30_ChooseRaise.j1 k l0 l1 a e a e (e != 0)) true := by
      rcases hrest with he | ⟨he, hp⟩
      · refine Ev.step (fun k => ?_) (Ev.bind (f := fun _ t => some t) hsame (Ev.now _))
        rw [swarflaw30_ChooseRaise.j1, if_pos (by simpa using he), if_pos rfl]
      · refine Ev.step (fun k => ?_) hp
        rw [swarflaw30_ChooseRaise.j1, if_neg (by simp [he])]
    refine Ev.step (fun k => ?_) (Ev.bind (f := fun k a => (swarfref30_Raise.f k l0 l1).bind fun b => if a.2 = b.2 then (swarflaw30_same.f k a.1 b.1).bind fun t => if t = true then swarflaw30_ChooseRaise.j1 k l0 l1 a.1 a.2 b.1 b.2 (a.2 != 0) else swarflaw30_ChooseRaise.j1 k l0 l1 a.1 a.2 b.1 b.2 true else swarflaw30_ChooseRaise.j1 k l0 l1 a.1 a.2 b.1 b.2 true) hA
      (Ev.bind (f := fun k b => if e = b.2 then (swarflaw30_same.f k a b.1).bind fun t => if t = true then swarflaw30_ChooseRaise.j1 k l0 l1 a e b.1 b.2 (e != 0) else swarflaw30_ChooseRaise.j1 k l0 l1 a e b.1 b.2 true else swarflaw30_ChooseRaise.j1 k l0 l1 a e b.1 b.2 true) hB ?_))
    · rw [swarflaw30_ChooseRaise.j0, if_neg (by simp)]
    · refine Ev.congr (fun k => if_pos rfl) ?_
      refine Ev.bind (f := fun k t => if t = true then swarflaw30_ChooseRaise.j1 k l0 l1 a e a e (e != 0) else swarflaw30_ChooseRaise.j1 k l0 l1 a e a e true) hsame ?_
      exact Ev.congr (fun k => if_pos rfl) hj1
  refine Ev.rounds (Ev.congr (f := fun k => (swarflaw30_awake.f k).bind fun a => if a = true then (swarfref30_Small.f k l0 l1 12 20).bind fun b => swarflaw30_ChooseRaise.j0 k l0 l1 (!b) else swarflaw30_ChooseRaise.j0 k l0 l1 true) (fun k => by rw [swarflaw30_ChooseRaise.f]) ?_)
  refine Ev.bind (f := fun k a => if a = true then (swarfref30_Small.f k l0 l1 12 20).bind fun b => swarflaw30_ChooseRaise.j0 k l0 l1 (!b) else swarflaw30_ChooseRaise.j0 k l0 l1 true) awake_ev ?_
  refine Ev.congr (fun k => if_pos rfl) ?_
  refine Ev.bind (f := fun k b => swarflaw30_ChooseRaise.j0 k l0 l1 (!b)) hS ?_
  cases s with
  | false => exact hj
  | true => exact hcore rfl
end Go.Proofs.Ytcaefoljlmdjaaa.Pure
