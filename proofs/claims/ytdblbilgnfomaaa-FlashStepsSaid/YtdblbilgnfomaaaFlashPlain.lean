/-
  What package flash computes, in plain words: each byte after some steps.
-/
import Derived.Test.YtdblbilgnfomaaaFlashE
import Derived.Test.YtdblbilgnfomaaaPAllx4
namespace Go.Proofs.Ytdblbilgnfomaaa.FlashPlain
open Go.RowKit Go.Proofs.Ytdblbilgnfomaaa.PAll Go.Proofs.Ytdblbilgnfomaaa.FlashB Go.Proofs.Ytdblbilgnfomaaa.FlashC Go.Proofs.Ytdblbilgnfomaaa.FlashE Go.Proofs.YtdblbilgnfomaaaW.PrintWords
set_option linter.unusedSimpArgs false
set_option linter.unusedVariables false

theorem evs {α : Type} {g : Nat → Option α} {r : α} (h : Ev (fun k => g (k + 1)) r) : Ev g r := Ev.step (fun _ => rfl) h
theorem evn {α : Type} {o : Option α} {r : α} (h : o = some r) : Ev (fun _ => o) r := ⟨0, fun _ _ => h⟩
theorem evb {α β : Type} {o : Option α} {f : Nat → α → Option β} {a : α} {r : β} (h : o = some a) (k : Ev (fun n => f n a) r) : Ev (fun n => o.bind (f n)) r := by
  obtain ⟨K, hK⟩ := k
  exact ⟨K, fun n hn => by rw [h]; exact hK n hn⟩
theorem fp_wrap {x : Int} (h0 : -9000000000000000000 ≤ x) (h1 : x ≤ 9000000000000000000) : wrap64 x = x := by unfold wrap64; omega

theorem rd_nat (l : List Int) (i : Nat) (h : i < l.length) : rd l (i : Int) = l[i] := by
  unfold rd
  rw [List.getD_eq_getElem?_getD, Int.toNat_natCast, List.getElem?_eq_getElem h]
  rfl
/-- Two lists of one length that read alike are one. -/
theorem eq_of_rd {a b : List Int} (hl : a.length = b.length) (h : ∀ j : Int, 0 ≤ j → j < a.length → rd a j = rd b j) : a = b := by
  apply List.ext_getElem hl
  intro i h1 h2
  have := h i (by omega) (by omega)
  rwa [rd_nat a i h1, rd_nat b i h2] at this
theorem rd_set (l : List Int) (i : Nat) (v : Int) (j : Int) (h0 : 0 ≤ j) (h1 : j < l.length) : rd (l.set i v) j = if j = i then v else rd l j := by
  obtain ⟨j, rfl⟩ := Int.eq_ofNat_of_zero_le h0
  rw [rd_nat _ j (by rw [List.length_set]; omega), rd_nat l j (by omega), List.getElem_set]
  by_cases e : i = j
  · rw [if_pos e, if_pos (by omega)]
  · rw [if_neg e, if_neg (by omega)]

/-- The byte at j after i steps. -/
theorem stL_rd (bc : Int → Int → Int) (at_ : Int) (l : List Int) (i : Nat) (hat : 0 ≤ at_) (hm : at_ + i ≤ l.length) (j : Int) (h0 : 0 ≤ j) (h1 : j < l.length) :
    rd (stL bc at_ l i) j = if at_ ≤ j ∧ j < at_ + i then bc (j - at_) (rd l j) else rd l j := by
  induction i with
  | zero => rw [if_neg (by omega)]; rfl
  | succ i ih =>
    have ih := ih (by omega)
    show rd (stepL bc at_ (stL bc at_ l i) i) j = _
    unfold stepL
    rw [rd_set _ _ _ _ h0 (by rw [stL_length]; exact h1)]
    by_cases e : j = (at_ + (i : Int)).toNat
    · have e2 : j = at_ + i := by omega
      rw [if_pos e, if_pos (by omega)]
      subst e2
      rw [ih, if_neg (by omega)]
      congr 1
      omega
    · rw [if_neg e, ih]
      by_cases c : at_ ≤ j ∧ j < at_ + i
      · rw [if_pos c, if_pos (by omega)]
      · rw [if_neg c, if_neg (by omega)]

/-- The list of memories is not empty; its last one. -/
theorem memsOf_length (S : Int) (bc : Int → Int → Int) (at_ : Int) (l : List Int) (many : Nat) : (memsOf S bc at_ l many).length = many + 1 := by unfold memsOf; simp
theorem memsOf_rd (S : Int) (bc : Int → Int → Int) (at_ : Int) (l : List Int) (many : Nat) (i : Nat) (h : i ≤ many) : rd_T24 (memsOf S bc at_ l many) (i : Int) = ⟨S, stL bc at_ l i⟩ := by
  unfold rd_T24 memsOf
  rw [List.getD_eq_getElem?_getD, Int.toNat_natCast, List.getElem?_map, List.getElem?_range (by omega)]
  rfl
theorem last_mems (S : Int) (bc : Int → Int → Int) (at_ : Int) (l : List Int) (many : Nat) (hm : many ≤ 100000) : chargeparklaw17_last.f (memsOf S bc at_ l many) 0 ((many : Int) + 1) = some (S, stL bc at_ l many, true) := by
  unfold chargeparklaw17_last.f
  have hl := memsOf_length S bc at_ l many
  have w1 : wrap64 ((many : Int) + 1 - 1) = (many : Int) := by rw [fp_wrap (by omega) (by omega)]; omega
  rw [if_pos rfl, if_pos (by rw [hl]; omega), if_neg (by omega), w1, if_pos (by omega), if_pos (by rw [hl]; omega), memsOf_rd _ _ _ _ _ _ (Nat.le_refl _)]

theorem valF_self {S : Int} {n m : Nat} (h : valF S n = true) (e : m = n) : valF S m = true := by rw [e]; exact h
/-- Programming where it fits. -/
theorem prog_ok {S : Int} {l : List Int} {at_ : Int} {d : List Int} (hv : valF S l.length = true) (h0 : 0 ≤ at_) (h1 : at_ + d.length ≤ l.length) : flash_Program.f S l at_ d = some (memsOf S (clearB d) at_ l d.length, 0) := by
  unfold flash_Program.f progF badP farP
  rw [hv, decide_eq_false (show ¬ at_ < 0 by omega), decide_eq_false (show ¬ (l.length : Int) < at_ by omega), decide_eq_false (show ¬ (l.length : Int) - at_ < d.length by omega)]
  rfl
theorem prog_cases (S : Int) (l : List Int) (at_ : Int) (d : List Int) : (∃ e, e ≠ 0 ∧ flash_Program.f S l at_ d = some ([], e)) ∨ (valF S l.length = true ∧ 0 ≤ at_ ∧ at_ + d.length ≤ l.length ∧ flash_Program.f S l at_ d = some (memsOf S (clearB d) at_ l d.length, 0)) := by
  cases hb : badP S l at_
  · cases hf : farP l at_ d
    · right
      unfold badP at hb
      unfold farP at hf
      simp only [Bool.or_eq_false_iff, Bool.not_eq_false', decide_eq_false_iff_not] at hb hf
      exact ⟨hb.1, by omega, by omega, prog_ok hb.1 (by omega) (by omega)⟩
    · left
      exact ⟨3, by decide, by unfold flash_Program.f progF; rw [hb, hf]; rfl⟩
  · left
    exact ⟨1, by decide, by unfold flash_Program.f progF; rw [hb]; rfl⟩
theorem erase_ok {S : Int} {l : List Int} {a1 : Int} (hv : valF S l.length = true) (h0 : 0 ≤ a1) (h1 : a1 < (l.length : Int) / S) : flash_Erase.f S l a1 = some (memsOf S (fun _ _ => 255) (a1 * S) l S.toNat, 0) := by
  unfold flash_Erase.f eraseF badE
  rw [hv, decide_eq_false (show ¬ a1 < 0 by omega), decide_eq_false (show ¬ (l.length : Int) / S ≤ a1 by omega)]
  rfl
theorem erase_cases (S : Int) (l : List Int) (a1 : Int) : flash_Erase.f S l a1 = some ([], 1) ∨ (valF S l.length = true ∧ 0 ≤ a1 ∧ a1 * S + S ≤ l.length ∧ a1 < (l.length : Int) / S ∧ flash_Erase.f S l a1 = some (memsOf S (fun _ _ => 255) (a1 * S) l S.toNat, 0)) := by
  cases hb : badE S l a1
  · right
    have hb' := hb
    unfold badE at hb'
    simp only [Bool.or_eq_false_iff, Bool.not_eq_false', decide_eq_false_iff_not] at hb'
    obtain ⟨hv, h1, h2⟩ := hb'
    have hS := valF_iff.1 hv
    have h3 : (a1 + 1) * S ≤ (l.length : Int) / S * S := Int.mul_le_mul_of_nonneg_right (by omega) (by omega)
    have h4 : (l.length : Int) / S * S ≤ l.length := Int.ediv_mul_le _ (by omega)
    rw [Int.add_mul, Int.one_mul] at h3
    exact ⟨hv, by omega, by omega, by omega, erase_ok hv (by omega) (by omega)⟩
  · left
    unfold flash_Erase.f eraseF
    rw [hb]
    rfl
theorem done_ok {S : Int} {l : List Int} {at_ : Int} {d : List Int} (hv : valF S l.length = true) (h0 : 0 ≤ at_) (h1 : at_ + d.length ≤ l.length) : (flash_Program.f S l at_ d).bind (fun b => (chargeparklaw17_last.f b.1 b.2 (wrap64 ((d.length : Int) + 1))).bind fun c => some (c.1, c.2.1, c.2.2)) = some (S, stL (clearB d) at_ l d.length, true) := by
  have hS := valF_iff.1 hv
  rw [prog_ok hv h0 h1, Option.bind_some, fp_wrap (by omega) (by omega), last_mems _ _ _ _ _ (by omega)]
  rfl

/-- Same, of two that are the same. -/
theorem same_self (S : Int) (l : List Int) (hl : l.length ≤ 100000) : Ev (fun k => chargeparkref17_Same.f k S l S l) true := by
  have loop : ∀ d : Nat, ∀ i : Nat, i + d = l.length → Ev (fun k => chargeparkref17_Same.l0 k (i : Int) S l S l) true := by
    intro d
    induction d with
    | zero =>
      intro i hi
      refine evs ?_
      simp only [chargeparkref17_Same.l0, if_neg (show ¬ (i : Int) < (l.length : Int) by omega)]
      exact Ev.now _
    | succ d ih =>
      intro i hi
      refine evs ?_
      simp only [chargeparkref17_Same.l0, if_pos (show (i : Int) < (l.length : Int) by omega), if_pos (show (0 : Int) ≤ (i : Int) by omega), if_true]
      have w1 : wrap64 ((i : Int) + 1) = ((i + 1 : Nat) : Int) := by rw [fp_wrap (by omega) (by omega)]; omega
      rw [w1]
      exact ih (i + 1) (by omega)
  unfold chargeparkref17_Same.f
  simp only [if_true]
  refine evs ?_
  simp only [chargeparkref17_Same.j0, bne_self_eq_false, if_neg (show ¬ (false = true) by decide)]
  exact loop l.length 0 (by omega)

theorem head_tells : Ev (fun k => chargeparklaw17_head.f k) true := Ev.of chargeparklaw17_head.mono (k := 12) (by decide +kernel)
end Go.Proofs.Ytdblbilgnfomaaa.FlashPlain
