/-
  Programming the same data again changes nothing, and from whatever memory in between, it leads to the same memory (up to 300 bytes).
-/
import Derived.Test.YtdblbilgnfomaaaPAllx13
import Derived.Test.YtdblbilgnfomaaaFlashBits
namespace Go.Proofs.Ytdblbilgnfomaaa.Pure
open Go.RowKit Go.Proofs.Ytdblbilgnfomaaa.PAll Go.Proofs.Ytdblbilgnfomaaa.FlashB Go.Proofs.Ytdblbilgnfomaaa.FlashC Go.Proofs.Ytdblbilgnfomaaa.FlashE Go.Proofs.Ytdblbilgnfomaaa.FlashPlain Go.Proofs.YtdblbilgnfomaaaW.PrintWords Go.Proofs.YtdblbilgnfomaaaW.PrintLast
set_option linter.unusedSimpArgs false
set_option linter.unusedVariables false

/-- Programming from a memory in between leads to the same. -/
theorem again_eq (l : List Int) (at_ : Int) (d : List Int) (i : Nat) (hat : 0 ≤ at_) (hm : at_ + d.length ≤ l.length) (hi : i ≤ d.length) (hl : isBs l) (hd : isBs d) :
    stL (clearB d) at_ (stL (clearB d) at_ l i) d.length = stL (clearB d) at_ l d.length := by
  have hs := stL_length (clearB d) at_ l i
  refine eq_of_rd (by rw [stL_length, stL_length, stL_length]) (fun j h0 h1 => ?_)
  rw [stL_length, hs] at h1
  rw [prog_rd _ _ _ hat (by rw [hs]; exact hm) j h0 (by rw [hs]; exact h1), prog_rd _ _ _ hat hm j h0 h1, stL_rd _ _ _ _ hat (by omega) j h0 h1]
  unfold prg
  have hx := hl.rd j h0 h1
  by_cases c : at_ ≤ j ∧ j < at_ + (d.length : Int)
  · rw [if_pos c, if_pos c]
    by_cases c2 : at_ ≤ j ∧ j < at_ + (i : Int)
    · rw [if_pos c2]
      exact and8_idem hx (hd.rd _ (by omega) (by omega))
    · rw [if_neg c2]
  · rw [if_neg c, if_neg c, if_neg (by omega)]

theorem FlashAgain : chargeparklaw17_FlashAgain.Pure := by
  intro a0 at_ d a3 hok hat_ hm hd hb h3
  obtain ⟨S, l⟩ := a0
  obtain ⟨_, hlm, hlb⟩ := hok
  dsimp only at hlm hlb ⊢
  replace hlb := isBs_wf hlb
  replace hb := isBs_wf hb
  replace h3 := u16_wf h3
  unfold chargeparklaw17_FlashAgain.f
  refine Ev.rounds (Ev.bind head_tells ?_)
  have hout : Ev (fun k => chargeparklaw17_FlashAgain.j0 k at_ d a3 true true S l) true := by
    refine evs ?_
    simp only [chargeparklaw17_FlashAgain.j0, if_true]
    exact Ev.now _
  by_cases c1 : (l.length : Int) > 300
  · simp only [if_pos c1]; exact hout
  by_cases c2 : (d.length : Int) > 300
  · simp only [if_neg c1, decide_eq_true c2]; exact hout
  simp only [if_neg c1, decide_eq_false c2]
  refine evs ?_
  simp only [chargeparklaw17_FlashAgain.j0, if_neg (show ¬ (false = true) by decide)]
  rcases prog_cases S l at_ d with ⟨e, he, h⟩ | ⟨hv, h0, h1, h⟩
  · refine evb h ?_
    simp only [if_neg he, if_true, List.length_nil]
    exact evn rfl
  refine evb h ?_
  simp only [if_true]
  have w1 : wrap64 ((d.length : Int) + 1) = (d.length : Int) + 1 := fp_wrap (by omega) (by omega)
  rw [w1]
  refine evb (last_mems _ _ _ _ _ (by omega)) ?_
  have hml := memsOf_length S (clearB d) at_ l d.length
  have hw3 : wrap64 a3 = a3 := fp_wrap (by omega) (by omega)
  have htm : Int.tmod a3 ((d.length + 1 : Nat) : Int) = a3 % ((d.length + 1 : Nat) : Int) := Int.tmod_eq_emod_of_nonneg h3.1
  obtain ⟨p, hp⟩ := Int.eq_ofNat_of_zero_le (Int.emod_nonneg a3 (show ((d.length + 1 : Nat) : Int) ≠ 0 by omega))
  have hp1 : p < d.length + 1 := by
    have := Int.emod_lt_of_pos a3 (show (0 : Int) < ((d.length + 1 : Nat) : Int) by omega)
    rw [hp] at this
    omega
  simp only [if_true, hml, hw3, htm, hp, if_neg (show ¬ ((d.length + 1 : Nat) : Int) = 0 by omega), if_pos (show (0 : Int) ≤ (p : Int) by omega), if_pos (show (p : Int) < ((d.length + 1 : Nat) : Int) by omega), memsOf_rd _ _ _ _ _ p (show p ≤ d.length by omega)]
  have hs := stL_length (clearB d) at_ l p
  have hs2 := stL_length (clearB d) at_ l d.length
  refine evb (done_ok (valF_self hv hs) h0 (by rw [hs]; exact h1)) ?_
  refine evb (done_ok (valF_self hv hs2) h0 (by rw [hs2]; exact h1)) ?_
  rw [again_eq l at_ d p h0 h1 (by omega) hlb hb, again_eq l at_ d d.length h0 h1 (Nat.le_refl _) hlb hb]
  simp only [if_true]
  have hsame := same_self S (stL (clearB d) at_ l d.length) (by omega)
  refine Ev.bind hsame ?_
  simp only [if_true]
  refine Ev.bind hsame ?_
  exact Ev.now _
end Go.Proofs.Ytdblbilgnfomaaa.Pure
