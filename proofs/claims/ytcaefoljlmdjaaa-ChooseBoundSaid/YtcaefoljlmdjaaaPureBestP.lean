/- Best, in plain lists: the program's side. -/
import Derived.Test.YtcaefoljlmdjaaaPureCost
import Derived.Test.YtcaefoljlmdjaaaCHx2
import Derived.Laws.BitsAllLaws
namespace Go.Proofs.Ytcaefoljlmdjaaa.Pure
open Go.RowKit Go.Proofs.Ytcaefoljlmdjaaa.CH Go.Proofs.YtcaefoljlmdjaaaW.PrintWords Go.Proofs.YtcaefoljlmdjaaaW.PrintLast Go.Proofs.YtcaefoljlmdjaaaW.PrintMore
set_option linter.unusedVariables false
set_option linter.unusedSimpArgs false
/-! Bits. -/
theorem shr_nat {s t : Nat} (ht : t ≤ 64) : shr .i64 (s : Int) (t : Int) = ((s / 2 ^ t : Nat) : Int) := by
  unfold shr
  rw [Int.toNat_natCast, Nat.min_eq_left (by simp [IntKind.bits]; exact ht)]
  simp
theorem bit_tmod {s t : Nat} (ht : t ≤ 64) : (Int.tmod (shr .i64 (s : Int) (t : Int)) 2 = 1) ↔ s.testBit t = true := by
  rw [shr_nat ht, Int.tmod_eq_emod_of_nonneg (Int.natCast_nonneg _), Nat.testBit_eq_decide_div_mod_eq, decide_eq_true_eq]
  omega
theorem bit_and {s t : Nat} (ht : t ≤ 64) (hs : s < 9223372036854775808) : (Go.bits .and .i64 (shr .i64 (s : Int) (t : Int)) 1 = 1) ↔ s.testBit t = true := by
  have h1 : s / 2 ^ t < 9223372036854775808 := Nat.lt_of_le_of_lt (Nat.div_le_self _ _) hs
  have h2 := (Go.bits_nat .i64 63 (by simp [IntKind.bits]) (fun n h0 h1 => by rw [Go.IntKind.wrap_i64]; omega) (s / 2 ^ t) 1 (by simpa using h1) (by decide)).1
  rw [shr_nat ht, show (1 : Int) = ((1 : Nat) : Int) from rfl, h2, Nat.and_one_is_mod, Nat.testBit_eq_decide_div_mod_eq, decide_eq_true_eq]
  omega
theorem shl_one {t : Nat} (ht : t < 64) : shl .u64 1 (t : Int) = ((2 ^ t : Nat) : Int) := by
  have h1 : 2 ^ t < 2 ^ 64 := Nat.pow_lt_pow_right (by decide) ht
  have h3 : 0 < 2 ^ t := Nat.two_pow_pos t
  unfold shl
  rw [Int.toNat_natCast, Nat.min_eq_left (by simp [IntKind.bits]; omega), Int.one_mul]
  have h2 : ((2 : Int) ^ t) = ((2 ^ t : Nat) : Int) := by simp
  rw [h2]
  generalize 2 ^ t = z at h1 h3
  unfold IntKind.wrap
  simp only [IntKind.bits, IntKind.signed, Bool.false_and, Bool.false_eq_true, if_false]
  omega
theorem shl_len {n : Nat} (hn : n ≤ 12) : shl .i64 1 (n : Int) = ((2 ^ n : Nat) : Int) := by
  have h1 : 2 ^ n ≤ 2 ^ 12 := Nat.pow_le_pow_right (by decide) hn
  unfold shl
  rw [Int.toNat_natCast, Nat.min_eq_left (by simp [IntKind.bits]; omega), Int.one_mul]
  have h2 : ((2 : Int) ^ n) = ((2 ^ n : Nat) : Int) := by simp
  rw [h2, Go.IntKind.wrap_i64]
  generalize 2 ^ n = z at h1
  omega
/-- the first pieces of a row as bits -/
def msk (row : List Bool) : Nat → Nat
  | 0 => 0
  | n + 1 => if row.getD n false = true then msk row n ||| 2 ^ n else msk row n
theorem msk_bit (row : List Bool) : ∀ n p, (msk row n).testBit p = (decide (p < n) && row.getD p false)
  | 0, p => by simp [msk]
  | n + 1, p => by
    rw [msk]
    by_cases e : row.getD n false = true
    · rw [if_pos e, Nat.testBit_or, msk_bit row n, Nat.testBit_two_pow]
      by_cases hp : p = n
      · subst hp
        simp only [List.getD_eq_getElem?_getD] at e
        simp [e]
      · have h1 : decide (n = p) = false := by rw [decide_eq_false_iff_not]; omega
        have h2 : decide (p < n + 1) = decide (p < n) := by rw [decide_eq_decide]; omega
        rw [h1, h2, Bool.or_false]
    · rw [if_neg e, msk_bit row n]
      by_cases hp : p = n
      · subst hp
        rw [Bool.eq_false_iff.2 e]
        simp
      · have h2 : decide (p < n + 1) = decide (p < n) := by rw [decide_eq_decide]; omega
        rw [h2]
theorem msk_lt (row : List Bool) : ∀ n, n ≤ 64 → msk row n < 18446744073709551616
  | 0, _ => by simp [msk]
  | n + 1, hn => by
    have ih := msk_lt row n (by omega)
    rw [msk]
    split
    · exact Nat.or_lt_two_pow (n := 64) (by omega) (Nat.pow_lt_pow_right (by decide) (by omega))
    · exact ih
theorem mask_l0 {row : List Bool} (hr : row.length ≤ 64) : ∀ (d p : Nat), row.length - p = d → p ≤ row.length → Ev (fun k => choose_mask.l0 k (msk row p : Int) row (row.length : Int) (p : Int)) (msk row row.length : Int) := by
  intro d
  induction d with
  | zero =>
    intro p hd hp
    refine Ev.step (f := fun _ => some _) (fun k => ?_) (Ev.now _)
    rw [choose_mask.l0, if_neg (by omega), show p = row.length by omega]
  | succ d ih =>
    intro p hd hp
    refine Ev.step (fun k => ?_) (ih (p + 1) (by omega) (by omega))
    rw [choose_mask.l0, if_pos (by omega), if_pos (by omega), if_pos (by omega), rdOf_nat, wrap_next (by omega), msk]
    by_cases e : row.getD p false = true
    · rw [if_pos e, if_pos e, shl_one (by omega), Go.u64_or_nat _ _ (msk_lt row p (by omega)) (Nat.pow_lt_pow_right (a := 2) (n := 64) (by decide) (by omega))]
    · rw [if_neg e, if_neg e]
theorem mask_ev {row : List Bool} (hr : row.length ≤ 64) : Ev (fun k => choose_mask.f k row) (msk row row.length : Int) := mask_l0 hr row.length 0 (by omega) (Nat.zero_le _)
/-- the tools of a set -/
def lst (s : Nat) : Nat → List Int
  | 0 => []
  | n + 1 => if s.testBit n = true then lst s n ++ [(n : Int)] else lst s n
theorem lst_length (s : Nat) : ∀ n, (lst s n).length ≤ n
  | 0 => by simp [lst]
  | n + 1 => by
    have := lst_length s n
    rw [lst]
    split
    · simp; omega
    · omega
theorem lst_mem (s : Nat) : ∀ n, ∀ t : Int, t ∈ lst s n ↔ ∃ u : Nat, u < n ∧ s.testBit u = true ∧ t = (u : Int)
  | 0, t => by simp [lst]
  | n + 1, t => by
    have ih := lst_mem s n t
    rw [lst]
    by_cases e : s.testBit n = true
    · rw [if_pos e, List.mem_append, ih, List.mem_singleton]
      constructor
      · rintro (⟨u, h1, h2, h3⟩ | h1)
        · exact ⟨u, by omega, h2, h3⟩
        · exact ⟨n, by omega, e, h1⟩
      · rintro ⟨u, h1, h2, h3⟩
        by_cases hu : u = n
        · subst hu; exact .inr h3
        · exact .inl ⟨u, by omega, h2, h3⟩
    · rw [if_neg e, ih]
      constructor
      · rintro ⟨u, h1, h2, h3⟩
        exact ⟨u, by omega, h2, h3⟩
      · rintro ⟨u, h1, h2, h3⟩
        by_cases hu : u = n
        · subst hu; exact absurd h2 e
        · exact ⟨u, by omega, h2, h3⟩
/-- the pieces of the tools of a set as bits -/
def hav (T : List (List Bool)) (s : Nat) : Nat → Nat
  | 0 => 0
  | n + 1 => if s.testBit n = true then hav T s n ||| msk (rd_L1 T (n : Int)) (rd_L1 T (n : Int)).length else hav T s n
section
variable {T : List (List Bool)} {cost : List Int} {P : Nat} {a b : Int} (G : Good T cost a b P)
include G
theorem lst_in (s : Nat) {n : Nat} (hn : n ≤ T.length) : ∀ t ∈ lst s n, 0 ≤ t ∧ t < T.length := fun t ht => by
  have _u := G
  obtain ⟨u, h1, h2, h3⟩ := (lst_mem s n t).1 ht
  omega
theorem hav_bit (s p : Nat) : ∀ n, n ≤ T.length → (hav T s n).testBit p = (decide (p < P) && reachedBy T (lst s n) p)
  | 0, _ => by simp [hav, lst, reachedBy]
  | n + 1, hn => by
    have ih := hav_bit s p n (by omega)
    rw [hav, lst]
    by_cases e : s.testBit n = true
    · rw [if_pos e, if_pos e, Nat.testBit_or, ih, msk_bit, G.tab.rect n (by omega)]
      unfold reachedBy
      rw [List.any_append]
      simp only [List.any_cons, List.any_nil, Bool.or_false, Int.toNat_natCast]
      rw [← Bool.and_or_distrib_left]
      rfl
    · rw [if_neg e, if_neg e, ih]
theorem hav_lt (hb : P ≤ 64) (s : Nat) : ∀ n, n ≤ T.length → hav T s n < 18446744073709551616
  | 0, _ => by simp [hav]
  | n + 1, hn => by
    have ih := hav_lt hb s n (by omega)
    rw [hav]
    split
    · exact Nat.or_lt_two_pow (n := 64) (by omega) (msk_lt _ _ (by rw [G.tab.rect n (by omega)]; omega))
    · exact ih
/-- a set's bits are all bits iff its tools cover the pieces -/
theorem hav_all (s : Nat) : ((hav T s T.length : Nat) : Int) = ((msk (cov T P) P : Nat) : Int) ↔ allBy T P (cov T P) (lst s T.length) = true := by
  have hn := G.tab.n
  rw [Int.ofNat_inj]
  have key : ∀ p, reachedBy T (lst s T.length) p = true → p < P → (cov T P).getD p false = true := fun p hp hlt => by
    unfold reachedBy at hp
    obtain ⟨t, ht, h2⟩ := List.any_eq_true.1 hp
    obtain ⟨u, h3, h4, rfl⟩ := (lst_mem s _ t).1 ht
    unfold cov
    simp [List.getD_eq_getElem?_getD, hlt]
    exact ⟨u, h3, by simpa using h2⟩
  unfold allBy
  rw [List.all_eq_true]
  constructor
  · intro h p hp
    rw [List.mem_range] at hp
    have h1 : (hav T s T.length).testBit p = (msk (cov T P) P).testBit p := by rw [h]
    rw [hav_bit G s p T.length (Nat.le_refl _), msk_bit, decide_eq_true hp, Bool.true_and, Bool.true_and] at h1
    rw [h1]
    simp
  · intro h
    apply Nat.eq_of_testBit_eq
    intro p
    rw [hav_bit G s p T.length (Nat.le_refl _), msk_bit]
    by_cases hp : p < P
    · rw [decide_eq_true hp, Bool.true_and, Bool.true_and]
      have h1 := h p (List.mem_range.2 hp)
      have h2 := key p
      cases hx : reachedBy T (lst s T.length) p with
      | true => rw [h2 hx hp]
      | false =>
        rw [hx] at h1
        simpa using h1.symm
    · rw [decide_eq_false hp]; rfl
end
/-- two lists, word by word -/
def cmpL : List Int → List Int → Int
  | [], [] => 0
  | [], _ :: _ => -1
  | _ :: _, [] => 1
  | x :: xs, y :: ys => if x < y then -1 else if x > y then 1 else cmpL xs ys
theorem compare_l0 {x y : List Int} (hx : x.length ≤ 1000) : ∀ (d i : Nat), x.length - i = d → i ≤ x.length → i ≤ y.length → Ev (fun k => slices_Compare_int_int.l0 k x y x (x.length : Int) (i : Int)) (cmpL (x.drop i) (y.drop i)) := by
  intro d
  induction d with
  | zero =>
    intro i hd hi hiy
    refine Ev.step (f := fun _ => some _) (fun k => ?_) (Ev.now _)
    rw [slices_Compare_int_int.l0, if_neg (by omega), List.drop_of_length_le (i := i) (l := x) (by omega), show i = x.length by omega]
    by_cases h : x.length < y.length
    · rw [List.drop_eq_getElem_cons h, cmpL, if_pos (by omega)]
    · rw [List.drop_of_length_le (by omega), cmpL, if_neg (by omega)]
  | succ d ih =>
    intro i hd hi hiy
    have hlt : i < x.length := by omega
    by_cases h : i < y.length
    · rw [List.drop_eq_getElem_cons hlt, List.drop_eq_getElem_cons h, cmpL]
      by_cases e : x[i] = y[i]
      · rw [if_neg (by omega), if_neg (by omega)]
        refine Ev.step (fun k => ?_) (ih (i + 1) (by omega) (by omega) (by omega))
        rw [slices_Compare_int_int.l0, if_pos (by omega), if_pos (by omega), if_pos (by omega), if_neg (by omega), if_pos (by omega), rd_at hlt, rd_at h, e, wrap_next (by omega)]
        simp [cmp_Compare_int.f, cmp_isNaN_int.f]
      · refine Ev.step (f := fun _ => some _) (fun k => ?_) (Ev.now _)
        rw [slices_Compare_int_int.l0, if_pos (by omega), if_pos (by omega), if_pos (by omega), if_neg (by omega), if_pos (by omega), rd_at hlt, rd_at h]
        by_cases e2 : x[i] < y[i]
        · rw [if_pos e2]
          simp [cmp_Compare_int.f, cmp_isNaN_int.f, e2]
        · rw [if_neg e2, if_pos (by omega)]
          simp [cmp_Compare_int.f, cmp_isNaN_int.f, e2, show x[i] > y[i] by omega, show y[i] < x[i] by omega]
    · refine Ev.step (f := fun _ => some _) (fun k => ?_) (Ev.now _)
      rw [slices_Compare_int_int.l0, if_pos (by omega), if_pos (by omega), if_pos (by omega), if_pos (by omega), List.drop_of_length_le (i := i) (l := y) (by omega), List.drop_eq_getElem_cons hlt, cmpL]
theorem compare_ev {x y : List Int} (hx : x.length ≤ 1000) : Ev (fun k => slices_Compare_int_int.f k x y) (cmpL x y) := compare_l0 hx x.length 0 (by omega) (Nat.zero_le _) (Nat.zero_le _)
/-- one set more -/
def stp (T : List (List Bool)) (P : Nat) (cost : List Int) (o : Option (List Int)) (l : List Int) : Option (List Int) :=
  if allBy T P (cov T P) l = true then (match o with
    | none => some l
    | some b => if csum cost l < csum cost b then some l else if csum cost l = csum cost b then (if cmpL l b < 0 then some l else some b) else some b) else o
/-- the best of the first sets -/
def bst (T : List (List Bool)) (P : Nat) (cost : List Int) : Nat → Option (List Int)
  | 0 => none
  | m + 1 => stp T P cost (bst T P cost m) (lst m T.length)
theorem stp_or (T : List (List Bool)) (P : Nat) (cost : List Int) (o : Option (List Int)) (l : List Int) : stp T P cost o l = o ∨ stp T P cost o l = some l := by
  unfold stp
  split
  · cases o with
    | none => exact .inr rfl
    | some b =>
      simp only []
      split
      · exact .inr rfl
      · split
        · split
          · exact .inr rfl
          · exact .inl rfl
        · exact .inl rfl
  · exact .inl rfl
theorem bst_from (T : List (List Bool)) (P : Nat) (cost : List Int) : ∀ m b, bst T P cost m = some b → ∃ s, s < m ∧ b = lst s T.length
  | 0, b, h => by simp [bst] at h
  | m + 1, b, h => by
    rw [bst] at h
    rcases stp_or T P cost (bst T P cost m) (lst m T.length) with e | e
    · rw [e] at h
      obtain ⟨s, h1, h2⟩ := bst_from T P cost m b h
      exact ⟨s, by omega, h2⟩
    · rw [e] at h
      injection h with h
      exact ⟨m, by omega, h.symm⟩
section
variable {T : List (List Bool)} {cost : List Int} {P : Nat} (G : Good T cost 12 64 P)
include G
/-- the reference's cell of the best list -/
theorem bst_in (m : Nat) : ∀ t ∈ (bst T P cost m).getD [], 0 ≤ t ∧ t < T.length := by
  cases h : bst T P cost m with
  | none => simp
  | some b =>
    obtain ⟨s, _, rfl⟩ := bst_from T P cost m b h
    exact lst_in G s (Nat.le_refl _)
theorem bst_len (m : Nat) : ((bst T P cost m).getD []).length ≤ 12 := by
  have := G.n
  cases h : bst T P cost m with
  | none => simp
  | some b =>
    obtain ⟨s, _, rfl⟩ := bst_from T P cost m b h
    have := lst_length s T.length
    simp
    omega
/-- the program's least -/
def lea (cost : List Int) (o : Option (List Int)) : Int := match o with
  | none => -1
  | some b => csum cost b
theorem best_l1 {m : Nat} (hm : m < 2 ^ T.length) {r : List Int × Int × Int} (hE : Ev (fun k => choose_Best.l0 k T cost ((msk (cov T P) P : Nat) : Int) ((bst T P cost (m + 1)).getD []) (lea cost (bst T P cost (m + 1))) ((2 ^ T.length : Nat) : Int) ((m + 1 : Nat) : Int)) r) :
    ∀ (d i : Nat), T.length - i = d → i ≤ T.length → Ev (fun k => choose_Best.l1 k T cost ((msk (cov T P) P : Nat) : Int) ((bst T P cost m).getD []) (lea cost (bst T P cost m)) (m : Int) (lst m i) ((hav T m i : Nat) : Int) (csum cost (lst m i)) ((2 ^ T.length : Nat) : Int) (m : Int) cost (cost.length : Int) (i : Int)) r := by
  have hn := G.n
  have hp := G.p
  have hlen := G.len
  have hm2 : 2 ^ T.length ≤ 2 ^ 12 := Nat.pow_le_pow_right (by decide) (by omega)
  intro d
  induction d with
  | zero =>
    intro i hd hi
    obtain rfl : i = T.length := by omega
    have hll := lst_length m T.length
    have hli := lst_in G m (Nat.le_refl T.length)
    have hbl := bst_len G m
    have hbi := bst_in G m
    have hcl := csum_range G _ hli
    have hcb := csum_range G _ hbi
    have hnext : wrap64 ((m : Int) + 1) = ((m + 1 : Nat) : Int) := wrap_next (by omega)
    have ha := hav_all G m
    rw [bst] at hE
    unfold stp at hE
    by_cases hc : allBy T P (cov T P) (lst m T.length) = true
    · rw [if_pos hc] at hE
      cases hb : bst T P cost m with
      | none =>
        rw [hb] at hE
        refine Ev.step (fun k => ?_) hE
        rw [choose_Best.l1, if_neg (by omega), if_pos (ha.2 hc), if_pos (by simp [lea]), hnext]
        rfl
      | some b =>
        rw [hb] at hE hcb
        simp only [Option.getD_some] at hE hcb ⊢
        have e1 : lea cost (some b) = csum cost b := rfl
        rw [e1]
        by_cases h1 : csum cost (lst m T.length) < csum cost b
        · rw [if_pos h1] at hE
          refine Ev.step (fun k => ?_) hE
          rw [choose_Best.l1, if_neg (by omega), if_pos (ha.2 hc), if_neg (by omega), if_pos h1, hnext]
          rfl
        · rw [if_neg h1] at hE
          by_cases h2 : csum cost (lst m T.length) = csum cost b
          · rw [if_pos h2] at hE
            refine Ev.step (fun k => ?_) (Ev.bind (f := fun k t => if t < 0 then choose_Best.l0 k T cost ((msk (cov T P) P : Nat) : Int) (lst m T.length) (csum cost (lst m T.length)) ((2 ^ T.length : Nat) : Int) ((m + 1 : Nat) : Int) else choose_Best.l0 k T cost ((msk (cov T P) P : Nat) : Int) b (csum cost b) ((2 ^ T.length : Nat) : Int) ((m + 1 : Nat) : Int)) (compare_ev (x := lst m T.length) (y := b) (by omega)) ?_)
            · rw [choose_Best.l1, if_neg (by omega), if_pos (ha.2 hc), if_neg (by omega), if_neg h1, if_pos h2, hnext]
            · by_cases h3 : cmpL (lst m T.length) b < 0
              · rw [if_pos h3] at hE
                exact Ev.congr (fun k => if_pos h3) hE
              · rw [if_neg h3] at hE
                exact Ev.congr (fun k => if_neg h3) hE
          · rw [if_neg h2] at hE
            refine Ev.step (fun k => ?_) hE
            rw [choose_Best.l1, if_neg (by omega), if_pos (ha.2 hc), if_neg (by omega), if_neg h1, if_neg h2, hnext]
            rfl
    · rw [if_neg hc] at hE
      refine Ev.step (fun k => ?_) hE
      rw [choose_Best.l1, if_neg (by omega), if_neg (fun h => hc (ha.1 h)), hnext]
  | succ d ih =>
    intro i hd hi
    have hll := lst_length m i
    have h1 := ih (i + 1) (by omega) (by omega)
    have hrow := G.tab.rect i (by omega)
    by_cases e : m.testBit i = true
    · have hb := csum_range G (lst m i ++ [(i : Int)]) (fun t ht => by
        rcases List.mem_append.1 ht with ht | ht
        · exact lst_in G m (by omega) t ht
        · rw [List.mem_singleton] at ht; omega)
      rw [csum_append, csum, csum, Int.add_zero, List.length_append, List.length_singleton] at hb
      rw [lst, if_pos e, hav, if_pos e, csum_append, csum, csum, Int.add_zero] at h1
      refine Ev.step (fun k => ?_) (Ev.bind (f := fun k t => choose_Best.l1 k T cost ((msk (cov T P) P : Nat) : Int) ((bst T P cost m).getD []) (lea cost (bst T P cost m)) (m : Int) (lst m i ++ [(i : Int)]) (Go.bits .or .u64 ((hav T m i : Nat) : Int) t) (csum cost (lst m i) + rd cost (i : Int)) ((2 ^ T.length : Nat) : Int) (m : Int) cost (cost.length : Int) ((i + 1 : Nat) : Int)) (mask_ev (row := rd_L1 T (i : Int)) (by omega)) ?_)
      · rw [choose_Best.l1, if_pos (by omega), if_pos (by omega), if_pos (by omega), if_pos ((bit_and (by omega) (by omega)).2 e), if_pos (by omega), if_pos (by omega), wrap_next (by omega), show wrap64 (csum cost (lst m i) + rd cost (i : Int)) = csum cost (lst m i) + rd cost (i : Int) by unfold wrap64; omega]
      · rw [Go.u64_or_nat _ _ (hav_lt G (by omega) m i (by omega)) (msk_lt _ _ (by omega))]
        exact h1
    · rw [lst, if_neg e, hav, if_neg e] at h1
      refine Ev.step (fun k => ?_) h1
      rw [choose_Best.l1, if_pos (by omega), if_pos (by omega), if_pos (by omega), if_neg (fun h => e ((bit_and (by omega) (by omega)).1 h)), wrap_next (by omega)]
theorem best_l0 : ∀ (d m : Nat), 2 ^ T.length - m = d → m ≤ 2 ^ T.length → Ev (fun k => choose_Best.l0 k T cost ((msk (cov T P) P : Nat) : Int) ((bst T P cost m).getD []) (lea cost (bst T P cost m)) ((2 ^ T.length : Nat) : Int) (m : Int)) ((bst T P cost (2 ^ T.length)).getD [], lea cost (bst T P cost (2 ^ T.length)), 0) := by
  have hn := G.n
  intro d
  induction d with
  | zero =>
    intro m hd hm
    obtain rfl : m = 2 ^ T.length := by omega
    refine Ev.step (f := fun _ => some _) (fun k => ?_) (Ev.now _)
    rw [choose_Best.l0, if_neg (by omega)]
  | succ d ih =>
    intro m hd hm
    refine Ev.step (fun k => ?_) (best_l1 G (m := m) (by omega) (ih (m + 1) (by omega) (by omega)) T.length 0 (by omega) (Nat.zero_le _))
    rw [choose_Best.l0, if_pos (by omega)]
    rfl
/-- all tools cover the pieces -/
theorem all_cover {s : Nat} (hs : ∀ t, t < T.length → s.testBit t = true) : allBy T P (cov T P) (lst s T.length) = true := by
  have _u := G
  unfold allBy
  rw [List.all_eq_true]
  intro p hp
  rw [List.mem_range] at hp
  cases hx : (cov T P).getD p false with
  | false => rfl
  | true =>
    unfold cov at hx
    simp [List.getD_eq_getElem?_getD, hp] at hx
    obtain ⟨t, ht, h2⟩ := hx
    have : reachedBy T (lst s T.length) p = true := by
      unfold reachedBy
      rw [List.any_eq_true]
      exact ⟨(t : Int), (lst_mem s _ _).2 ⟨t, ht, hs t ht, rfl⟩, by simpa using h2⟩
    rw [this]; rfl
/-- the best's cost is the least of the first sets -/
theorem bst_least : ∀ m s, s < m → allBy T P (cov T P) (lst s T.length) = true → ∃ b, bst T P cost m = some b ∧ csum cost b ≤ csum cost (lst s T.length)
  | 0, s, h, _ => by omega
  | m + 1, s, h, hs => by
    have _u := G
    rw [bst]
    by_cases e : s = m
    · subst e
      unfold stp
      rw [if_pos hs]
      cases hb : bst T P cost s with
      | none => exact ⟨_, rfl, Int.le_refl _⟩
      | some b =>
        simp only []
        split
        · exact ⟨_, rfl, Int.le_refl _⟩
        · split
          · split
            · exact ⟨_, rfl, Int.le_refl _⟩
            · exact ⟨_, rfl, by omega⟩
          · exact ⟨_, rfl, by omega⟩
    · obtain ⟨b, hb, hle⟩ := bst_least m s (by omega) hs
      rw [hb]
      unfold stp
      split
      · simp only []
        split
        · exact ⟨_, rfl, by omega⟩
        · split
          · split
            · exact ⟨_, rfl, by omega⟩
            · exact ⟨_, rfl, hle⟩
          · exact ⟨_, rfl, hle⟩
      · exact ⟨_, rfl, hle⟩
theorem bst_covers : ∀ m b, bst T P cost m = some b → allBy T P (cov T P) b = true
  | 0, b, h => by simp [bst] at h
  | m + 1, b, h => by
    have _u := G
    rw [bst] at h
    by_cases hc : allBy T P (cov T P) (lst m T.length) = true
    · rcases stp_or T P cost (bst T P cost m) (lst m T.length) with e | e
      · rw [e] at h
        exact bst_covers m b h
      · rw [e] at h
        injection h with h
        rw [← h]; exact hc
    · unfold stp at h
      rw [if_neg hc] at h
      exact bst_covers m b h
theorem best_full : ∃ b, bst T P cost (2 ^ T.length) = some b := by
  have h1 : 1 ≤ 2 ^ T.length := Nat.one_le_two_pow
  obtain ⟨b, hb, _⟩ := bst_least G (2 ^ T.length) (2 ^ T.length - 1) (by omega) (all_cover G (fun t ht => by rw [Nat.testBit_two_pow_sub_one]; exact decide_eq_true ht))
  exact ⟨b, hb⟩
/-- what Best tells of a good table, on both sides -/
theorem best_ev {b : List Int} (hb : bst T P cost (2 ^ T.length) = some b) (hV : Ev (fun k => choose_valid.f k T cost 12 64) 0) : Ev (fun k => choose_Best.f k T cost) (b, csum cost b, 0) := by
  have hn := G.n
  have hp := G.p
  have h1 := best_l0 G (2 ^ T.length) 0 (Nat.sub_zero _) (Nat.zero_le _)
  rw [hb] at h1
  refine Ev.congr (fun k => ?_) (Ev.bind (f := fun k v => if v = 0 then (choose_Coverable.f k T).bind fun c => (choose_mask.f k c).bind fun m => choose_Best.l0 k T cost m ([] : List Int) (-1) ((2 ^ T.length : Nat) : Int) 0 else some (([] : List Int), 0, v)) hV ?_)
  · rw [choose_Best.f, shl_len (by omega)]
  · refine Ev.congr (fun k => if_pos rfl) ?_
    refine Ev.bind (f := fun k c => (choose_mask.f k c).bind fun m => choose_Best.l0 k T cost m ([] : List Int) (-1) ((2 ^ T.length : Nat) : Int) 0) (coverable G.tab) ?_
    have hm := mask_ev (row := cov T P) (by rw [cov_length G]; omega)
    rw [cov_length G] at hm
    exact Ev.bind (f := fun k m => choose_Best.l0 k T cost m ([] : List Int) (-1) ((2 ^ T.length : Nat) : Int) 0) hm h1
end
end Go.Proofs.Ytcaefoljlmdjaaa.Pure
