/-
  After erasing, all bytes of the sector are 255 and the others as before; from whatever memory in between, erasing again leads to the same memory (up to 300 bytes).
-/
import Derived.Test.YtdblbilgnfomaaaPAllx15
import Derived.Test.YtdblbilgnfomaaaFlashBits
namespace Go.Proofs.Ytdblbilgnfomaaa.Pure
open Go.RowKit Go.Proofs.Ytdblbilgnfomaaa.PAll Go.Proofs.Ytdblbilgnfomaaa.FlashB Go.Proofs.Ytdblbilgnfomaaa.FlashC Go.Proofs.Ytdblbilgnfomaaa.FlashE Go.Proofs.Ytdblbilgnfomaaa.FlashPlain Go.Proofs.YtdblbilgnfomaaaW.PrintWords Go.Proofs.YtdblbilgnfomaaaW.PrintLast
set_option linter.unusedSimpArgs false
set_option linter.unusedVariables false

theorem erasing_eq (l : List Int) (at_ : Int) (m i : Nat) (hat : 0 ≤ at_) (hm : at_ + m ≤ l.length) (hi : i ≤ m) :
    stL (fun _ _ => 255) at_ (stL (fun _ _ => 255) at_ l i) m = stL (fun _ _ => 255) at_ l m := by
  have hs := stL_length (fun _ _ => 255) at_ l i
  refine eq_of_rd (by rw [stL_length, stL_length, stL_length]) (fun j h0 h1 => ?_)
  rw [stL_length, hs] at h1
  rw [stL_rd _ _ _ _ hat (by rw [hs]; exact hm) j h0 (by rw [hs]; exact h1), stL_rd _ _ _ _ hat hm j h0 h1, stL_rd _ _ _ _ hat (by omega) j h0 h1]
  by_cases c : at_ ≤ j ∧ j < at_ + (m : Int)
  · rw [if_pos c, if_pos c]
  · rw [if_neg c, if_neg c, if_neg (by omega)]

theorem erasing_loop (S : Int) (l g : List Int) (a1 a2 : Int) (L : List Fl) (hS : 1 ≤ S) (hg : g.length = l.length) (hl : l.length ≤ 300)
    (hread : ∀ j : Int, 0 ≤ j → j < l.length → rd g j = if a1 * S ≤ j ∧ j < a1 * S + S then 255 else rd l j)
    (hend : Ev (fun k => chargeparklaw17_FlashErasing.l0 k a1 a2 true L g (l.length : Int) (l.length : Int) S l S g) true) :
    ∀ e : Nat, ∀ i : Nat, i + e = l.length → Ev (fun k => chargeparklaw17_FlashErasing.l0 k a1 a2 true L g (l.length : Int) (i : Int) S l S g) true := by
  intro e
  induction e with
  | zero =>
    intro i hi
    obtain rfl : i = l.length := by omega
    exact hend
  | succ e ih =>
    intro i hi
    have hw : wrap64 ((i : Int) + 1) = ((i + 1 : Nat) : Int) := by rw [fp_wrap (by omega) (by omega)]; omega
    have hrd := hread (i : Int) (by omega) (by omega)
    have hq0 : 0 ≤ (i : Int) / S := Int.ediv_nonneg (by omega) (by omega)
    have hq1 : (i : Int) / S ≤ i := Int.ediv_le_self _ (by omega)
    have hq : wrap64 (Int.tdiv (i : Int) S) = (i : Int) / S := by rw [Int.tdiv_eq_ediv_of_nonneg (by omega), fp_wrap (by omega) (by omega)]
    have hiff : (i : Int) / S = a1 ↔ a1 * S ≤ i ∧ (i : Int) < a1 * S + S := by
      constructor
      · rintro rfl
        have h1 := Int.ediv_mul_le (i : Int) (show S ≠ 0 by omega)
        have h2 := Int.lt_ediv_add_one_mul_self (i : Int) (show 0 < S by omega)
        rw [Int.add_mul, Int.one_mul] at h2
        exact ⟨h1, h2⟩
      · rintro ⟨h1, h2⟩
        have h3 : a1 ≤ (i : Int) / S := (Int.le_ediv_iff_mul_le (by omega)).2 h1
        have h4 : (i : Int) / S < a1 + 1 := (Int.ediv_lt_iff_lt_mul (by omega)).2 (by rw [Int.add_mul, Int.one_mul]; exact h2)
        omega
    refine evs ?_
    simp only [chargeparklaw17_FlashErasing.l0, if_pos (show (i : Int) < (l.length : Int) by omega), if_pos (show (0 : Int) ≤ (i : Int) by omega), hg, if_neg (show ¬ S = 0 by omega), hq, hw]
    by_cases c : (i : Int) / S = a1
    · rw [if_pos (hiff.1 c)] at hrd
      simp only [if_pos c, if_pos hrd]
      exact ih (i + 1) (by omega)
    · rw [if_neg (fun h => c (hiff.2 h))] at hrd
      simp only [if_neg c, if_pos hrd]
      exact ih (i + 1) (by omega)

theorem FlashErasing : chargeparklaw17_FlashErasing.Pure := by
  intro a0 a1 a2 hok h1 h2
  obtain ⟨S, l⟩ := a0
  obtain ⟨_, hlm, hlb⟩ := hok
  dsimp only at hlm hlb ⊢
  replace h2 := u16_wf h2
  unfold chargeparklaw17_FlashErasing.f
  refine Ev.rounds (Ev.bind head_tells ?_)
  by_cases c1 : (l.length : Int) > 300
  · simp only [if_pos c1]; exact Ev.now _
  simp only [if_neg c1]
  rcases erase_cases S l a1 with h | ⟨hv, h0, hm, hlt, h⟩
  · refine evb h ?_
    simp only [if_neg (show ¬ (1 : Int) = 0 by decide), if_true, List.length_nil]
    exact evn rfl
  refine evb h ?_
  have hS := valF_iff.1 hv
  have hSn : ((S.toNat : Nat) : Int) = S := Int.toNat_of_nonneg (by omega)
  have w1 : wrap64 (S + 1) = S + 1 := fp_wrap (by omega) (by omega)
  simp only [if_true, w1]
  have hlast := last_mems S (fun _ _ => 255) (a1 * S) l S.toNat (by omega)
  rw [hSn] at hlast
  refine evb hlast ?_
  have h0' : 0 ≤ a1 * S := Int.mul_nonneg h0 (by omega)
  have hgl := stL_length (fun _ _ => 255) (a1 * S) l S.toNat
  simp only [if_true, hgl, decide_eq_false (show ¬ a1 < 0 by omega)]
  have hread : ∀ j : Int, 0 ≤ j → j < l.length → rd (stL (fun _ _ => 255) (a1 * S) l S.toNat) j = if a1 * S ≤ j ∧ j < a1 * S + S then 255 else rd l j := fun j j0 j1 => by
    rw [stL_rd _ _ _ _ h0' (by rw [hSn]; exact hm) j j0 j1, hSn]
  refine evs ?_
  simp only [chargeparklaw17_FlashErasing.j0, if_neg (show ¬ (false = true) by decide), hgl]
  refine erasing_loop S l _ a1 a2 _ (by omega) hgl (by omega) hread ?_ l.length 0 (by omega)
  have hml := memsOf_length S (fun _ _ => 255) (a1 * S) l S.toNat
  have hw3 : wrap64 a2 = a2 := fp_wrap (by omega) (by omega)
  have htm : Int.tmod a2 ((S.toNat + 1 : Nat) : Int) = a2 % ((S.toNat + 1 : Nat) : Int) := Int.tmod_eq_emod_of_nonneg h2.1
  obtain ⟨p, hp⟩ := Int.eq_ofNat_of_zero_le (Int.emod_nonneg a2 (show ((S.toNat + 1 : Nat) : Int) ≠ 0 by omega))
  have hp1 : p < S.toNat + 1 := by
    have := Int.emod_lt_of_pos a2 (show (0 : Int) < ((S.toNat + 1 : Nat) : Int) by omega)
    rw [hp] at this
    omega
  refine evs ?_
  simp only [chargeparklaw17_FlashErasing.l0, if_neg (show ¬ (l.length : Int) < (l.length : Int) by omega), hml, hw3, htm, hp, if_neg (show ¬ ((S.toNat + 1 : Nat) : Int) = 0 by omega), if_pos (show (0 : Int) ≤ (p : Int) by omega), if_pos (show (p : Int) < ((S.toNat + 1 : Nat) : Int) by omega), memsOf_rd _ _ _ _ _ p (show p ≤ S.toNat by omega)]
  have hs := stL_length (fun _ _ => 255) (a1 * S) l p
  refine evb (erase_ok (valF_self hv hs) h0 (by rw [hs]; exact hlt)) ?_
  have hlast2 := last_mems S (fun _ _ => 255) (a1 * S) (stL (fun _ _ => 255) (a1 * S) l p) S.toNat (by omega)
  rw [hSn] at hlast2
  simp only [w1]
  refine evb hlast2 ?_
  rw [erasing_eq l (a1 * S) S.toNat p h0' (by rw [hSn]; exact hm) (by omega)]
  simp only [if_true]
  refine Ev.bind (same_self S _ (by rw [hgl]; omega)) ?_
  exact Ev.now _
end Go.Proofs.Ytdblbilgnfomaaa.Pure
