/- ChooseRaise, in plain lists. -/
import Derived.Test.YtcaefoljlmdjaaaPureRaiseP
import Derived.Test.YtcaefoljlmdjaaaPurePrices
import Derived.Test.YtcaefoljlmdjaaaCHx15
namespace Go.Proofs.Ytcaefoljlmdjaaa.Pure
open Go.RowKit Go.Proofs.Ytcaefoljlmdjaaa.CH Go.Proofs.YtcaefoljlmdjaaaW.PrintWords Go.Proofs.YtcaefoljlmdjaaaW.PrintLast Go.Proofs.YtcaefoljlmdjaaaW.PrintMore
set_option linter.unusedVariables false
set_option linter.unusedSimpArgs false
section
variable {T : List (List Bool)} {P : Nat} (h : Tab T P) {cost x : List Int} (hlc : cost.length = T.length) (hc : ∀ t : Nat, t < T.length → rd cost (t : Int) ≤ 2147483648) {p : Nat} (R : RS T P cost x p) (hp : p < P)
include h hlc hc R hp
theorem refRaise_end {r : List Int × Int} (hE : Ev (fun k => swarfref30_Raise.l0 k T cost (x.set p (top T P cost x p)) ((p + 1 : Nat) : Int)) r) : Ev (fun k => swarfref30_Raise.l1 k T cost (x.set p (top T P cost x p)) (p : Int) 0) r := by
  have _u := And.intro hlc (And.intro hc R)
  have hp2 := h.p
  refine Ev.step (fun k => ?_) hE
  rw [swarfref30_Raise.l1, if_neg (by omega), wrap_next (by omega)]
theorem refRaise_round {r : List Int × Int} {st cur nx : Int} (hs0 : 0 < st) (hs1 : st ≤ 2147483648) (h0 : 0 ≤ cur) (h1 : cur ≤ top T P cost x p) (hnx : Int.tdiv st 2 = nx) (hn0 : 0 ≤ nx) (hn1 : nx ≤ 2147483648)
    (hE : Ev (fun k => swarfref30_Raise.l1 k T cost (x.set p (if cur + st ≤ top T P cost x p then cur + st else cur)) (p : Int) nx) r) : Ev (fun k => swarfref30_Raise.l1 k T cost (x.set p cur) (p : Int) st) r := by
  obtain ⟨t0, t1, _⟩ := top_spec R hp hc
  have hl := R.len
  have hp2 := h.p
  have hf := fair_set R hp hc (y := cur + st) (by omega)
  have hpr := refPrices_ev h (cost := cost) (l := x.set p (cur + st)) hlc
  refine Ev.step (fun k => ?_) (Ev.bind (f := fun k b => if b.2 = true then swarfref30_Raise.l1 k T cost (x.set p (cur + st)) (p : Int) nx else swarfref30_Raise.l1 k T cost (x.set p cur) (p : Int) nx) hpr ?_)
  · rw [swarfref30_Raise.l1, if_pos (by omega), if_pos (by omega), if_pos (by simp; omega), Option.bind_some, Int.toNat_natCast, rd_set_same (by omega), List.set_set, wrap_small (x := cur + st) (by omega) (by omega), rd_set_same (by omega), List.set_set, hnx, wrap_small hn0 (by omega), show cur + st - st = cur by omega, wrap_small h0 (by omega)]
  · by_cases hq : cur + st ≤ top T P cost x p
    · rw [if_pos hq] at hE
      exact Ev.congr (fun k => if_pos (hf.2 hq)) hE
    · rw [if_neg hq] at hE
      exact Ev.congr (fun k => if_neg (fun h => hq (hf.1 h))) hE
theorem refRaise_l1 {r : List Int × Int} (hE : Ev (fun k => swarfref30_Raise.l0 k T cost (x.set p (top T P cost x p)) ((p + 1 : Nat) : Int)) r) :
    ∀ (s : Nat) (st cur : Int), st = ((2 ^ s : Nat) : Int) → s ≤ 31 → 0 ≤ cur → cur ≤ top T P cost x p → top T P cost x p < cur + 2 * st → Ev (fun k => swarfref30_Raise.l1 k T cost (x.set p cur) (p : Int) st) r := by
  obtain ⟨t0, t1, _⟩ := top_spec R hp hc
  have hl := R.len
  have hp2 := h.p
  intro s
  induction s with
  | zero =>
    intro st cur hst hs h0 h1 h2
    have e1 : st = 1 := by rw [hst]; rfl
    subst e1
    refine refRaise_round h hlc hc R hp (nx := 0) (by omega) (by omega) h0 h1 rfl (by omega) (by omega) ?_
    have e2 : (if cur + 1 ≤ top T P cost x p then cur + 1 else cur) = top T P cost x p := by split <;> omega
    rw [e2]
    exact refRaise_end h hlc hc R hp hE
  | succ s ih =>
    intro st cur hst hs h0 h1 h2
    have e1 : st = 2 * ((2 ^ s : Nat) : Int) := by rw [hst, Nat.pow_succ]; omega
    have e3 : 1 ≤ 2 ^ s := Nat.one_le_two_pow
    have e4 : 2 ^ s ≤ 2 ^ 30 := Nat.pow_le_pow_right (by omega) (by omega)
    have e5 : (2 ^ 30 : Nat) = 1073741824 := by decide
    obtain ⟨z, hz⟩ : ∃ z : Nat, 2 ^ s = z := ⟨_, rfl⟩
    rw [hz] at e1 e3 e4
    refine refRaise_round h hlc hc R hp (nx := (z : Int)) (by omega) (by omega) h0 h1 (by rw [e1]; exact Int.mul_tdiv_cancel_left _ (by omega)) (by omega) (by omega) ?_
    refine ih (z : Int) _ (by rw [hz]) (by omega) ?_ ?_ ?_
    · split <;> omega
    · split <;> omega
    · split <;> omega
end
theorem refRaise_l0 {T : List (List Bool)} {P : Nat} (h : Tab T P) {cost : List Int} (hlc : cost.length = T.length) (hc0 : ∀ t : Nat, t < T.length → 0 ≤ rd cost (t : Int)) (hc : ∀ t : Nat, t < T.length → rd cost (t : Int) ≤ 2147483648) :
    ∀ (d p : Nat), P - p = d → p ≤ P → Ev (fun k => swarfref30_Raise.l0 k T cost (raiseL T P cost p) (p : Int)) (raiseL T P cost P, 0) := by
  intro d
  induction d with
  | zero =>
    intro p hd hp
    have hl := (raise_RS (P := P) hc0 hc p hp).len
    refine Ev.step (f := fun _ => some _) (fun k => ?_) (Ev.now _)
    rw [swarfref30_Raise.l0, if_neg (by omega), show p = P by omega]
  | succ d ih =>
    intro p hd hp
    have R := raise_RS (P := P) hc0 hc p hp
    have hl := R.len
    have hz := R.zeros p (Nat.le_refl _) (by omega)
    obtain ⟨t0, t1, _⟩ := top_spec R (by omega) hc
    have h1 := refRaise_l1 h hlc hc R (by omega) (ih (p + 1) (by omega) (by omega)) 31 2147483648 0 (by decide) (by omega) (Int.le_refl _) t0 (by omega)
    have e : (raiseL T P cost p).set p 0 = raiseL T P cost p := by
      apply List.ext_getElem (by simp)
      intro i h2 h3
      by_cases ei : i = p
      · subst ei
        rw [rd_nat] at hz
        simp [List.getD_eq_getElem?_getD, h3] at hz
        simp [hz]
      · simp [List.getElem_set_ne (Ne.symm ei)]
    rw [e] at h1
    refine Ev.step (fun k => ?_) h1
    rw [swarfref30_Raise.l0, if_pos (by omega)]
theorem refRaise_ev {T : List (List Bool)} {P : Nat} (h : Tab T P) {cost : List Int} (hlc : cost.length = T.length) (hc0 : ∀ t : Nat, t < T.length → 0 ≤ rd cost (t : Int)) (hc : ∀ t : Nat, t < T.length → rd cost (t : Int) ≤ 2147483648) (hV : Ev (fun k => swarfref30_Valid.f k T cost 200 200) 0) :
    Ev (fun k => swarfref30_Raise.f k T cost) (raiseL T P cost P, 0) := by
  have hp := h.p
  refine Ev.congr (fun k => ?_) (Ev.bind (f := fun k v => if v = 0 then swarfref30_Raise.l0 k T cost (raiseL T P cost 0) ((0 : Nat) : Int) else some (([] : List Int), v)) hV ?_)
  · rw [swarfref30_Raise.f, refPieces_eq h, Option.bind_some, if_pos (by omega), if_pos (by omega), Int.toNat_natCast]
    rfl
  · exact Ev.congr (fun k => if_pos rfl) (refRaise_l0 h hlc hc0 hc P 0 (by omega) (Nat.zero_le _))
theorem same_l0 {l : List Int} (hl : l.length ≤ 1000) : ∀ (d i : Nat), l.length - i = d → i ≤ l.length → Ev (fun k => swarflaw30_same.l0 k l l (l.length : Int) (i : Int)) true := by
  intro d
  induction d with
  | zero =>
    intro i hd hi
    refine Ev.step (f := fun _ => some _) (fun k => ?_) (Ev.now _)
    rw [swarflaw30_same.l0, if_neg (by omega)]
  | succ d ih =>
    intro i hd hi
    refine Ev.step (fun k => ?_) (ih (i + 1) (by omega) (by omega))
    rw [swarflaw30_same.l0, if_pos (by omega), if_pos (by omega), if_pos (by omega), if_pos (by omega), if_pos rfl, wrap_next (by omega)]
theorem same_ev {l : List Int} (hl : l.length ≤ 1000) : Ev (fun k => swarflaw30_same.f k l l) true := by
  refine Ev.congr (fun k => ?_) (same_l0 hl l.length 0 (by omega) (Nat.zero_le _))
  rw [swarflaw30_same.f, if_pos rfl]
  rfl
theorem Raise (l0 : List (List Bool)) (n0 : l0.length ≤ 9223372036854775807) (l1 : List Int) (n1 : l1.length ≤ 9223372036854775807) (y1 : ∀ n ∈ l1, (Lit.int .i64 n).wf = true) : ∃ k, swarflaw30_ChooseRaise.f k l0 l1 = some true := by
  obtain ⟨s, hs⟩ := small l0 n0 l1 12 20 (2 * l0.length + 130) (by omega)
  have hS : Ev (fun k => swarfref30_Small.f k l0 l1 12 20) s := Ev.of (fun k => swarfref30_Small.mono _ _ _ _ _) hs
  obtain ⟨v, hV, hW⟩ := valid_ev l0 n0 l1
  have hj : Ev (fun k => swarflaw30_ChooseRaise.j0 k l0 l1 true) true := by
    refine Ev.step (fun k => ?_) (Ev.bind (f := fun _ t => some t) awake_ev (Ev.now _))
    rw [swarflaw30_ChooseRaise.j0, if_pos rfl]
  have hcore : s = true → Ev (fun k => swarflaw30_ChooseRaise.j0 k l0 l1 false) true := fun hst => by
    have hab : ∃ a e, Ev (fun k => choose_Raise.f k l0 l1) (a, e) ∧ Ev (fun k => swarfref30_Raise.f k l0 l1) (a, e) ∧ a.length ≤ 1000 ∧ (e ≠ 0 ∨ (e = 0 ∧ Ev (fun k => (choose_Prices.f k l0 l1 a).bind fun b => some b.2) true)) := by
      by_cases hv0 : v = 0
      · subst hv0
        obtain ⟨k, hk⟩ := Ev.rounds (Ev.congr (fun k => by rw [swarflaw30_right.f]) (Ev.bind (f := fun k s => if s = true then (swarfref30_Valid.f k l0 l1 200 200).bind fun v => some (v == 0) else some false) hS (r := true) (by
          rw [hst]
          exact Ev.congr (fun k => if_pos rfl) (Ev.bind (f := fun _ v => some (v == 0)) hV (Ev.now _)))) : Ev (fun k => swarflaw30_right.f k l0 l1) true)
        obtain ⟨P, hR⟩ := right_true hk
        have hP := hR.p
        refine ⟨raiseL l0 P l1 P, 0, raise_ev hR.tab hR.len hR.c0 hR.c1 hW, refRaise_ev hR.tab hR.len hR.c0 hR.c1 hV, by rw [(raise_RS (P := P) hR.c0 hR.c1 P (Nat.le_refl _)).len]; omega, .inr ⟨rfl, ?_⟩⟩
        have := Ev.bind (f := fun _ b => some b.2) (prices_ev hR.tab (cost := l1) (l := raiseL l0 P l1 P) hR.len) (Ev.now _)
        rwa [raise_fair hR.c0 hR.c1] at this
      · refine ⟨[], v, ?_, ?_, by simp, .inl hv0⟩
        · refine Ev.congr (fun k => by rw [choose_Raise.f]) (Ev.bind (f := fun k v => if v = 0 then _ else some (([] : List Int), v)) hW (Ev.congr (fun k => if_neg hv0) (Ev.now _)))
        · refine Ev.congr (fun k => by rw [swarfref30_Raise.f]) (Ev.bind (f := fun k v => if v = 0 then _ else some (([] : List Int), v)) hV (Ev.congr (fun k => if_neg hv0) (Ev.now _)))
    obtain ⟨a, e, hA, hB, hal, hrest⟩ := hab
    have hsame := same_ev hal
    have hj1 : Ev (fun k => swarflaw30_ChooseRaise.j1 k l0 l1 a e a e (e != 0)) true := by
      rcases hrest with he | ⟨he, hp⟩
      · refine Ev.step (fun k => ?_) (Ev.bind (f := fun _ t => some t) hsame (Ev.now _))
        rw [swarflaw30_ChooseRaise.j1, if_pos (by simpa using he), if_pos rfl]
      · refine Ev.step (fun k => ?_) hp
        rw [swarflaw30_ChooseRaise.j1, if_neg (by simp [he])]
    refine Ev.step (fun k => ?_) (Ev.bind (f := fun k a => (swarfref30_Raise.f k l0 l1).bind fun b => if a.2 = b.2 then (swarflaw30_same.f k a.1 b.1).bind fun t => if t = true then swarflaw30_ChooseRaise.j1 k l0 l1 a.1 a.2 b.1 b.2 (a.2 != 0) else swarflaw30_ChooseRaise.j1 k l0 l1 a.1 a.2 b.1 b.2 true else swarflaw30_ChooseRaise.j1 k l0 l1 a.1 a.2 b.1 b.2 true) hA
      (Ev.bind (f := fun k b => if e = b.2 then (swarflaw30_same.f k a b.1).bind fun t => if t = true then swarflaw30_ChooseRaise.j1 k l0 l1 a e b.1 b.2 (e != 0) else swarflaw30_ChooseRaise.j1 k l0 l1 a e b.1 b.2 true else swarflaw30_ChooseRaise.j1 k l0 l1 a e b.1 b.2 true) hB ?_))
    · rw [swarflaw30_ChooseRaise.j0, if_neg (by simp)]
    · refine Ev.congr (fun k => if_pos rfl) ?_
      refine Ev.bind (f := fun k t => if t = true then swarflaw30_ChooseRaise.j1 k l0 l1 a e a e (e != 0) else swarflaw30_ChooseRaise.j1 k l0 l1 a e a e true) hsame ?_
      exact Ev.congr (fun k => if_pos rfl) hj1
  refine Ev.rounds (Ev.congr (f := fun k => (swarflaw30_awake.f k).bind fun a => if a = true then (swarfref30_Small.f k l0 l1 12 20).bind fun b => swarflaw30_ChooseRaise.j0 k l0 l1 (!b) else swarflaw30_ChooseRaise.j0 k l0 l1 true) (fun k => by rw [swarflaw30_ChooseRaise.f]) ?_)
  refine Ev.bind (f := fun k a => if a = true then (swarfref30_Small.f k l0 l1 12 20).bind fun b => swarflaw30_ChooseRaise.j0 k l0 l1 (!b) else swarflaw30_ChooseRaise.j0 k l0 l1 true) awake_ev ?_
  refine Ev.congr (fun k => if_pos rfl) ?_
  refine Ev.bind (f := fun k b => swarflaw30_ChooseRaise.j0 k l0 l1 (!b)) hS ?_
  cases s with
  | false => exact hj
  | true => exact hcore rfl
end Go.Proofs.Ytcaefoljlmdjaaa.Pure
