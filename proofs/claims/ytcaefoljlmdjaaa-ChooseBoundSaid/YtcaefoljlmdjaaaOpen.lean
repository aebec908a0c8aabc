/- How an argument that is a slice (of whole numbers, of bools, of slices) is opened: what the memory holds, as the walks read it. -/
import Derived.Test.YtcaefoljlmdjaaaCHx0
import Derived.ChangeArms
import Derived.ChangeSlices
import Derived.WideShapes
import Derived.ChangeShapes
namespace Go.Proofs.Ytcaefoljlmdjaaa.CH
open Go.RowKit Go.Proofs.YtcaefoljlmdjaaaW.PrintWords Go.ChangeShapes Go.WideShapes
set_option linter.unusedVariables false
set_option linter.unusedSimpArgs false
section
variable {H : Type} {enc : TypeId × Value → H} {P : Program} {w : World} {base : Nat} {spare : Nat → Bool} {held : Bool}
theorem row_upto {α : Type} (R : Nat → α → Prop) : ∀ (n : Nat), (∀ i, i < n → ∃ x, R i x) → ∃ xs : List α, xs.length = n ∧ ∀ (i : Nat) (x : α), xs[i]? = some x → R i x
  | 0, _ => ⟨[], rfl, fun i x h => by simp at h⟩
  | n + 1, h => by
    obtain ⟨xs, hl, hx⟩ := row_upto R n (fun i hi => h i (by omega))
    obtain ⟨y, hy⟩ := h n (by omega)
    refine ⟨xs ++ [y], by simp [hl], fun i x hi => ?_⟩
    by_cases e : i < n
    · rw [List.getElem?_append_left (by omega)] at hi
      exact hx i x hi
    · rw [List.getElem?_append_right (by omega)] at hi
      have hb : i - xs.length < 1 := by
        have := (List.getElem?_eq_some_iff.1 hi).1
        simpa using this
      obtain rfl : i = n := by omega
      rw [hl, Nat.sub_self] at hi
      obtain rfl : y = x := by simpa using hi
      exact hy
theorem open_slice {α : Type} (d : Kd α) (hs : d.sz = 1) {t e : TypeId} {fuel : Nat} {cs : List Value} {x : DataW H × List MemPlace} (ht : P.underlying t = some (.slice e)) (hc : P.cellsOf e = 1)
    (he : ∀ (n : Nat) (c : List Value) (y : DataW H × List MemPlace), DataW.trod enc P w base spare held n e c = some y → ∃ z : α, d.K w z c)
    (h : DataW.trod enc P w base spare held fuel t cs = some x) : ∃ (A : Option Addr) (c : Nat) (xs : List α), cs = [.slice A xs.length c] ∧ xs.length ≤ c ∧ d.C w A xs.length xs := by
  rcases DataW.trod_slice ht h with ⟨rfl, _⟩ | ⟨a, len, cap, elems, rest, n, _, rfl, _, _, hl, hm, hlen, hel, _, _⟩
  · exact ⟨none, 0, [], rfl, Nat.zero_le _, rfl, by simp, fun h => absurd h (Nat.lt_irrefl 0)⟩
  · have hmx : maxLen ≤ 9223372036854775807 := by decide
    obtain ⟨xs, hxl, hx⟩ := row_upto (fun i (z : α) => ∃ v, w.cell? (a.add i) = some v ∧ d.K w z [v]) len (fun i hi => by
      have h1 := hel i hi
      rw [hc, Nat.mul_one, List.getElem?_eq_getElem (by omega), Option.bind_eq_some_iff] at h1
      obtain ⟨c1, hc1, hy1⟩ := h1
      obtain ⟨z, hz⟩ := he n c1 _ hy1
      have hlen1 : c1.length = 1 := by rw [d.K_len hz, hs]
      obtain ⟨v, rfl⟩ : ∃ v, c1 = [v] := by
        match c1, hlen1 with
        | [v], _ => exact ⟨v, rfl⟩
      exact ⟨z, v, cell_of_cells?_one hc1, hz⟩)
    refine ⟨some a, cap, xs, by rw [hxl], by omega, rfl, by omega, fun _ => ⟨a, rfl, fun j p hp => ?_⟩⟩
    obtain ⟨v, hv, hK⟩ := hx j p hp
    refine ⟨[v], by simp [hs], hK, fun i u hu => ?_⟩
    rw [hs, Nat.mul_one]
    match i, hu with
    | 0, hu =>
      obtain rfl : v = u := by simpa using hu
      exact hv
theorem open_bool_row {t e : TypeId} {fuel : Nat} {cs : List Value} {x : DataW H × List MemPlace} (ht : P.underlying t = some (.slice e)) (hc : P.cellsOf e = 1) (he : P.underlying e = some .bool)
    (h : DataW.trod enc P w base spare held fuel t cs = some x) : ∃ (A : Option Addr) (c : Nat) (xs : List Bool), cs = [.slice A xs.length c] ∧ xs.length ≤ c ∧ Kd.bool.C w A xs.length xs :=
  open_slice Kd.bool rfl ht hc (fun n c y hy => by
    obtain ⟨b, rfl, _⟩ := DataW.trod_bool he hy
    exact ⟨b, rfl⟩) h
theorem open_int_row {t e : TypeId} {k : IntKind} {fuel : Nat} {cs : List Value} {x : DataW H × List MemPlace} (ht : P.underlying t = some (.slice e)) (hc : P.cellsOf e = 1) (he : P.underlying e = some (.int k))
    (h : DataW.trod enc P w base spare held fuel t cs = some x) : ∃ (A : Option Addr) (c : Nat) (xs : List Int), cs = [.slice A xs.length c] ∧ xs.length ≤ c ∧ (Kd.int k).C w A xs.length xs ∧ ∀ n ∈ xs, (Lit.int k n).wf = true := by
  rcases open_ints ht he hc h with ⟨rfl, _⟩ | ⟨a, len, cap, zs, rfl, _, hl, hm, hz, _, hcell, hwz⟩
  · exact ⟨none, 0, [], rfl, Nat.zero_le _, ⟨rfl, by simp, fun h => absurd h (Nat.lt_irrefl 0)⟩, fun n hn => by simp at hn⟩
  · have hmx : maxLen ≤ 9223372036854775807 := by decide
    have hzl : len ≤ zs.length := by rw [hz]; split <;> omega
    have htl : (zs.take len).length = len := by simp; omega
    refine ⟨some a, cap, zs.take len, by rw [htl], by omega, ?_, fun n hn => hwz n (List.mem_of_mem_take hn)⟩
    refine Kd.C_of_reads (d := (0 : Int)) (h1 := fun _ => rfl) ⟨rfl, by rw [htl]; omega, fun _ => ⟨a, rfl, fun i hi => ?_⟩⟩
    rw [hcell i (by omega)]
    simp only [List.getD_eq_getElem?_getD]
    rw [List.getElem?_take_of_lt (by omega)]
theorem open_bool_rows {t e f : TypeId} {fuel : Nat} {cs : List Value} {x : DataW H × List MemPlace} (ht : P.underlying t = some (.slice e)) (hc : P.cellsOf e = 1) (he : P.underlying e = some (.slice f)) (hcf : P.cellsOf f = 1) (hf : P.underlying f = some .bool)
    (h : DataW.trod enc P w base spare held fuel t cs = some x) : ∃ (A : Option Addr) (c : Nat) (xs : List (List Bool)), cs = [.slice A xs.length c] ∧ xs.length ≤ c ∧ (Kd.slice f Kd.bool).C w A xs.length xs :=
  open_slice (Kd.slice f Kd.bool) rfl ht hc (fun n c y hy => by
    obtain ⟨A, c', xs, rfl, h1, h2⟩ := open_bool_row he hcf hf hy
    exact ⟨xs, A, c', rfl, h1, h2⟩) h
end
end Go.Proofs.Ytcaefoljlmdjaaa.CH
