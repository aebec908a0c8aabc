/- The cost of tools, in plain lists. -/
import Derived.Test.YtcaefoljlmdjaaaPureTab
import Derived.Test.YtcaefoljlmdjaaaPureCovs
import Derived.Test.YtcaefoljlmdjaaaCHc
namespace Go.Proofs.Ytcaefoljlmdjaaa.Pure
open Go.RowKit Go.Proofs.Ytcaefoljlmdjaaa.CH Go.Proofs.YtcaefoljlmdjaaaW.PrintWords Go.Proofs.YtcaefoljlmdjaaaW.PrintLast Go.Proofs.YtcaefoljlmdjaaaW.PrintMore
set_option linter.unusedVariables false
set_option linter.unusedSimpArgs false
/-- the cost of tools -/
def csum (cost : List Int) : List Int → Int
  | [] => 0
  | t :: l => rd cost t + csum cost l
theorem csum_append (cost : List Int) : ∀ l m, csum cost (l ++ m) = csum cost l + csum cost m
  | [], m => by simp [csum]
  | t :: l, m => by rw [List.cons_append, csum, csum, csum_append cost l m]; omega
section
variable {T : List (List Bool)} {cost : List Int} {P : Nat} {a b : Int} (G : Good T cost a b P)
include G
theorem csum_range : ∀ l : List Int, (∀ t ∈ l, 0 ≤ t ∧ t < T.length) → 0 ≤ csum cost l ∧ csum cost l ≤ 2147483648 * (l.length : Int)
  | [], _ => by simp [csum]
  | t :: l, h => by
    have ih := csum_range l (fun u hu => h u (List.mem_cons_of_mem _ hu))
    obtain ⟨h0, h1⟩ := h t (List.mem_cons_self ..)
    have hto : ((t.toNat : Nat) : Int) = t := Int.toNat_of_nonneg h0
    have h2 := G.c0 t.toNat (by omega)
    have h3 := G.c1 t.toNat (by omega)
    rw [hto] at h2 h3
    rw [csum, List.length_cons]
    omega
theorem cost_l0 {l : List Int} (hl : l.length ≤ 1000) (hi : ∀ t ∈ l, 0 ≤ t ∧ t < T.length) : ∀ (d i : Nat), l.length - i = d → i ≤ l.length → Ev (fun k => swarfref30_Cost.l0 k cost l (csum cost (l.take i)) (i : Int)) (csum cost l) := by
  intro d
  have hlen := G.len
  induction d with
  | zero =>
    intro i hd hil
    refine Ev.step (f := fun _ => some _) (fun k => ?_) (Ev.now _)
    rw [swarfref30_Cost.l0, if_neg (by omega), List.take_of_length_le (by omega)]
  | succ d ih =>
    intro i hd hil
    have hlt : i < l.length := by omega
    obtain ⟨h0, h1⟩ := hi _ (List.getElem_mem hlt)
    have hrd : rd l (i : Int) = l[i] := by rw [rd_nat]; simp [List.getD_eq_getElem?_getD, hlt]
    have e : csum cost (l.take (i + 1)) = csum cost (l.take i) + rd cost l[i] := by
      rw [← List.take_append_getElem hlt, csum_append, csum, csum]
      omega
    have hb := csum_range G (l.take (i + 1)) (fun t ht => hi t (List.mem_of_mem_take ht))
    rw [List.length_take, Nat.min_eq_left (by omega), e] at hb
    refine Ev.step (fun k => ?_) (ih (i + 1) (by omega) (by omega))
    rw [swarfref30_Cost.l0, if_pos (by omega), if_pos (by omega), hrd, if_pos h0, if_pos (by omega), wrap_next (by omega), e, show wrap64 (csum cost (l.take i) + rd cost l[i]) = csum cost (l.take i) + rd cost l[i] by unfold wrap64; omega]
theorem cost_ev {l : List Int} (hl : l.length ≤ 1000) (hi : ∀ t ∈ l, 0 ≤ t ∧ t < T.length) : Ev (fun k => swarfref30_Cost.f k cost l) (csum cost l) := cost_l0 G hl hi l.length 0 (by omega) (Nat.zero_le _)
theorem cov_length : (cov T P).length = P := by
  have _u := G
  simp [cov]
end
theorem rd_at {l : List Int} {i : Nat} (hi : i < l.length) : rd l (i : Int) = l[i] := by rw [rd_nat]; simp [List.getD_eq_getElem?_getD, hi]
theorem sameInts_l0 {l : List Int} (hl : l.length ≤ 1000) : ∀ (d i : Nat), l.length - i = d → i ≤ l.length → Ev (fun k => swarfref30_SameInts.l0 k l l (i : Int)) true := by
  intro d
  induction d with
  | zero =>
    intro i hd hi
    refine Ev.step (f := fun _ => some _) (fun k => ?_) (Ev.now _)
    rw [swarfref30_SameInts.l0, if_neg (by omega)]
  | succ d ih =>
    intro i hd hi
    refine Ev.step (fun k => ?_) (ih (i + 1) (by omega) (by omega))
    rw [swarfref30_SameInts.l0, if_pos (by omega), if_pos (by omega), if_pos (by omega), if_pos rfl, wrap_next (by omega)]
theorem sameInts_ev {l : List Int} (hl : l.length ≤ 1000) : Ev (fun k => swarfref30_SameInts.f k l l) true := by
  refine Ev.congr (fun k => ?_) (sameInts_l0 hl l.length 0 (by omega) (Nat.zero_le _))
  rw [swarfref30_SameInts.f, if_pos rfl]
  rfl
theorem csum_perm (cost : List Int) {l m : List Int} (h : List.Perm l m) : csum cost l = csum cost m := by
  induction h with
  | nil => rfl
  | cons x _ ih => rw [csum, csum, ih]
  | swap x y l => rw [csum, csum, csum, csum]; omega
  | trans _ _ ih1 ih2 => exact ih1.trans ih2
theorem mul_small {x y : Int} (h0 : 0 ≤ x) (h1 : x ≤ 2147483648) (h2 : 0 ≤ y) (h3 : y ≤ 1000) : wrap64 (x * y) = x * y := by
  have h4 : 0 ≤ x * y := Int.mul_nonneg h0 h2
  have h5 : x * y ≤ 2147483648 * 1000 := Int.mul_le_mul h1 h3 h2 (by omega)
  generalize x * y = z at h4 h5
  unfold wrap64
  omega
end Go.Proofs.Ytcaefoljlmdjaaa.Pure
