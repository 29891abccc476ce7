/-
  Lists of memories: equal to themselves; a program in two parts.
-/
import Derived.Test.YtdblbilgnfomaaaPAllx9
import Derived.Test.YtdblbilgnfomaaaFlashBits
namespace Go.Proofs.Ytdblbilgnfomaaa.FlashPlain
open Go.RowKit Go.Proofs.Ytdblbilgnfomaaa.PAll Go.Proofs.Ytdblbilgnfomaaa.FlashB Go.Proofs.Ytdblbilgnfomaaa.FlashC Go.Proofs.Ytdblbilgnfomaaa.FlashE Go.Proofs.YtdblbilgnfomaaaW.PrintWords Go.Proofs.YtdblbilgnfomaaaW.PrintLast
set_option linter.unusedSimpArgs false
set_option linter.unusedVariables false

theorem rdT_nat (L : List Fl) (i : Nat) (h : i < L.length) : rd_T24 L (i : Int) = L[i] := by
  unfold rd_T24
  rw [List.getD_eq_getElem?_getD, Int.toNat_natCast, List.getElem?_eq_getElem h]
  rfl
theorem sameList_self (L : List Fl) (hl : L.length ≤ 100000) (hm : ∀ x ∈ L, x.f1.length ≤ 100000) : Ev (fun k => chargeparkref17_SameList.f k L L) true := by
  have loop : ∀ d : Nat, ∀ i : Nat, i + d = L.length → Ev (fun k => chargeparkref17_SameList.l0 k L L (i : Int)) true := by
    intro d
    induction d with
    | zero =>
      intro i hi
      refine evs ?_
      simp only [chargeparkref17_SameList.l0, if_neg (show ¬ (i : Int) < (L.length : Int) by omega)]
      exact Ev.now _
    | succ d ih =>
      intro i hi
      have hlt : i < L.length := by omega
      have w1 : wrap64 ((i : Int) + 1) = ((i + 1 : Nat) : Int) := by rw [fp_wrap (by omega) (by omega)]; omega
      refine evs ?_
      simp only [chargeparkref17_SameList.l0, if_pos (show (i : Int) < (L.length : Int) by omega), if_pos (show (0 : Int) ≤ (i : Int) by omega), rdT_nat L i hlt, w1]
      refine Ev.bind (same_self _ _ (hm _ (List.getElem_mem hlt))) ?_
      simp only [if_true]
      exact ih (i + 1) (by omega)
  unfold chargeparkref17_SameList.f
  simp only [if_true]
  exact loop L.length 0 (by omega)

theorem stL_congr {bc bc' : Int → Int → Int} {at_ : Int} {l : List Int} (m : Nat) (h : ∀ i : Nat, i < m → ∀ x, bc i x = bc' i x) : stL bc at_ l m = stL bc' at_ l m := by
  induction m with
  | zero => rfl
  | succ m ih =>
    show stepL bc at_ (stL bc at_ l m) m = stepL bc' at_ (stL bc' at_ l m) m
    rw [ih (fun i hi => h i (by omega))]
    unfold stepL
    rw [h m (by omega)]
theorem stL_add (bc : Int → Int → Int) (at_ : Int) (l : List Int) (k m : Nat) : stL bc at_ l (k + m) = stL (fun i x => bc (k + i) x) (at_ + k) (stL bc at_ l k) m := by
  induction m with
  | zero => rfl
  | succ m ih =>
    show stepL bc at_ (stL bc at_ l (k + m)) (k + m) = stepL (fun i x => bc (k + i) x) (at_ + k) (stL (fun i x => bc (k + i) x) (at_ + k) (stL bc at_ l k) m) m
    rw [← ih]
    unfold stepL
    have e : at_ + ((k + m : Nat) : Int) = at_ + (k : Int) + (m : Int) := by omega
    rw [e]
    simp only [Int.natCast_add]
theorem rd_take (d : List Int) (k : Nat) (j : Int) (h0 : 0 ≤ j) (h1 : j < k) (h2 : k ≤ d.length) : rd (d.take k) j = rd d j := by
  obtain ⟨j, rfl⟩ := Int.eq_ofNat_of_zero_le h0
  rw [rd_nat _ j (by rw [List.length_take]; omega), rd_nat d j (by omega), List.getElem_take]
theorem rd_drop (d : List Int) (k : Nat) (j : Int) (h0 : 0 ≤ j) (h1 : k + j < d.length) : rd (d.drop k) j = rd d (k + j) := by
  obtain ⟨j, rfl⟩ := Int.eq_ofNat_of_zero_le h0
  rw [rd_nat _ j (by rw [List.length_drop]; omega), show (k : Int) + (j : Int) = ((k + j : Nat) : Int) by omega, rd_nat d (k + j) (by omega), List.getElem_drop]
/-- A program in two parts leads through the same memories. -/
theorem mems_parts (S : Int) (at_ : Int) (l : List Int) (d : List Int) (k : Nat) (hk : k ≤ d.length) :
    memsOf S (clearB d) at_ l d.length = memsOf S (clearB (d.take k)) at_ l k ++ (memsOf S (clearB (d.drop k)) (at_ + k) (stL (clearB (d.take k)) at_ l k) (d.length - k)).drop 1 := by
  have e1 : ∀ i, i ≤ k → stL (clearB (d.take k)) at_ l i = stL (clearB d) at_ l i := fun i hi => stL_congr i (fun j hj x => by unfold clearB; rw [rd_take d k (j : Int) (by omega) (by omega) hk])
  have e2 : ∀ i, i ≤ d.length - k → stL (clearB (d.drop k)) (at_ + k) (stL (clearB (d.take k)) at_ l k) i = stL (clearB d) at_ l (k + i) := fun i hi => by
    rw [stL_add, e1 k (Nat.le_refl _)]
    exact stL_congr i (fun j hj x => by unfold clearB; rw [rd_drop d k (j : Int) (by omega) (by omega)])
  apply List.ext_getElem
  · simp [memsOf]; omega
  · intro i h1 h2
    have hi : i < d.length + 1 := by simpa [memsOf] using h1
    by_cases c : i < k + 1
    · rw [List.getElem_append_left (by simp [memsOf]; exact c)]
      simp only [memsOf, List.getElem_map, List.getElem_range]
      rw [e1 i (by omega)]
    · rw [List.getElem_append_right (by simp [memsOf]; omega)]
      simp only [memsOf, List.getElem_drop, List.getElem_map, List.getElem_range, List.length_map, List.length_range]
      rw [e2 _ (by omega), show k + (1 + (i - (k + 1))) = i by omega]
end Go.Proofs.Ytdblbilgnfomaaa.FlashPlain
