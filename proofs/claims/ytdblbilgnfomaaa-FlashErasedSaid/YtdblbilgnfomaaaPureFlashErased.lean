/-
  Data that are programmed into an erased memory can be read there, and all other bytes stay erased (up to 300 bytes).
-/
import Derived.Test.YtdblbilgnfomaaaPAllx12
import Derived.Test.YtdblbilgnfomaaaFlashBits
namespace Go.Proofs.Ytdblbilgnfomaaa.Pure
open Go.RowKit Go.Proofs.Ytdblbilgnfomaaa.PAll Go.Proofs.Ytdblbilgnfomaaa.FlashB Go.Proofs.Ytdblbilgnfomaaa.FlashC Go.Proofs.Ytdblbilgnfomaaa.FlashE Go.Proofs.Ytdblbilgnfomaaa.FlashPlain Go.Proofs.YtdblbilgnfomaaaW.PrintWords Go.Proofs.YtdblbilgnfomaaaW.PrintLast
set_option linter.unusedSimpArgs false
set_option linter.unusedVariables false

theorem erased_loop (d g : List Int) (n : Nat) (p : Int) (hsl : g.length = n) (hn : n ≤ 256) (p0 : 0 ≤ p) (p1 : p + d.length ≤ n) (hread : ∀ j : Int, 0 ≤ j → j < n → rd g j = if p ≤ j ∧ j < p + d.length then rd d (j - p) else 255) : ∀ e : Nat, ∀ i : Nat, i + e = n → Ev (fun k => chargeparklaw17_FlashErased.l0 k d true p g (n : Int) (i : Int)) true := by
  intro e
  induction e with
  | zero =>
    intro i hi
    refine evs ?_
    simp only [chargeparklaw17_FlashErased.l0, if_neg (show ¬ (i : Int) < (n : Int) by omega)]
    exact Ev.now _
  | succ e ih =>
    intro i hi
    have hw : wrap64 ((i : Int) + 1) = ((i + 1 : Nat) : Int) := by rw [fp_wrap (by omega) (by omega)]; omega
    have hrd := hread (i : Int) (by omega) (by omega)
    have hw2 : wrap64 (p + (d.length : Int)) = p + d.length := fp_wrap (by omega) (by omega)
    refine evs ?_
    simp only [chargeparklaw17_FlashErased.l0, if_pos (show (i : Int) < (n : Int) by omega), if_pos (show (0 : Int) ≤ (i : Int) by omega), hsl, hw2]
    by_cases c1 : (i : Int) ≥ p
    · simp only [if_pos c1]
      by_cases c2 : (i : Int) < p + d.length
      · have hw3 : wrap64 ((i : Int) - p) = (i : Int) - p := fp_wrap (by omega) (by omega)
        simp only [decide_eq_true c2]
        rw [if_pos ⟨by omega, c2⟩] at hrd
        refine evs ?_
        simp only [chargeparklaw17_FlashErased.j3, if_true, hw3, if_pos (show 0 ≤ (i : Int) - p by omega), if_pos (show (i : Int) - p < (d.length : Int) by omega), if_pos hrd, hw]
        exact ih (i + 1) (by omega)
      · simp only [decide_eq_false c2]
        rw [if_neg (by omega)] at hrd
        refine evs ?_
        simp only [chargeparklaw17_FlashErased.j3, if_neg (show ¬ (false = true) by decide), if_pos hrd, hw]
        exact ih (i + 1) (by omega)
    · simp only [if_neg c1]
      rw [if_neg (by omega)] at hrd
      refine evs ?_
      simp only [chargeparklaw17_FlashErased.j3, if_neg (show ¬ (false = true) by decide), if_pos hrd, hw]
      exact ih (i + 1) (by omega)

theorem FlashErased : chargeparklaw17_FlashErased.Pure := by
  intro a0 a1 a2 d h0 h1 h2 hm hd hb
  replace h0 := isB_wf h0
  replace h1 := isB_wf h1
  replace h2 := u16_wf h2
  replace hb := isBs_wf hb
  obtain ⟨h00, h01⟩ := h0
  obtain ⟨h10, h11⟩ := h1
  unfold chargeparklaw17_FlashErased.f
  refine Ev.rounds (Ev.bind head_tells ?_)
  have e0 : wrap64 (1 + Int.tmod (wrap64 a0) 64) = 1 + a0 % 64 := by
    rw [fp_wrap (x := a0) (by omega) (by omega), Int.tmod_eq_emod_of_nonneg h00, fp_wrap (by omega) (by omega)]
  have e1 : wrap64 (1 + Int.tmod (wrap64 a1) 4) = 1 + a1 % 4 := by
    rw [fp_wrap (x := a1) (by omega) (by omega), Int.tmod_eq_emod_of_nonneg h10, fp_wrap (by omega) (by omega)]
  rw [e0, e1]
  obtain ⟨S, hS⟩ : ∃ S, 1 + a0 % 64 = S := ⟨_, rfl⟩
  obtain ⟨T, hT⟩ : ∃ T, 1 + a1 % 4 = T := ⟨_, rfl⟩
  rw [hS, hT]
  clear e0 e1
  have s0 : 1 ≤ S ∧ S ≤ 64 := by omega
  have t0 : 1 ≤ T ∧ T ≤ 4 := by omega
  clear hS hT h00 h01 h10 h11
  have hq : T ≤ 4096 / S := by
    rw [Int.le_ediv_iff_mul_le (by omega)]
    have := Int.mul_le_mul t0.2 s0.2 (by omega) (by omega)
    omega
  obtain ⟨n, hn⟩ := Int.eq_ofNat_of_zero_le (show 0 ≤ S * T from Int.mul_nonneg (by omega) (by omega))
  have hn1 : S ≤ n := by
    have := Int.mul_le_mul_of_nonneg_left t0.1 (show 0 ≤ S by omega)
    omega
  have hn2 : n ≤ 256 := by
    have := Int.mul_le_mul s0.2 t0.2 (by omega) (by omega)
    omega
  have hnew : flash_New.f S T = some (S, List.replicate n 255, 0) := by
    unfold flash_New.f FlashD.newF FlashD.badNew
    rw [decide_eq_false (show ¬ S < 1 by omega), decide_eq_false (show ¬ 512 < S by omega), decide_eq_false (show ¬ T < 1 by omega), decide_eq_false (show ¬ 4096 / S < T by omega), hn]
    rfl
  refine evb hnew ?_
  have hlen : (List.replicate n (255 : Int)).length = n := List.length_replicate
  have hval : valF S (List.replicate n (255 : Int)).length = true := by
    rw [hlen, valF_iff]
    exact ⟨by omega, by omega, by omega, by omega, by rw [← hn]; exact Int.mul_emod_right S T⟩
  simp only [if_true, hlen, if_neg (show ¬ (n : Int) = 0 by omega)]
  by_cases c : (d.length : Int) > n
  · rw [decide_eq_true c]
    refine evs ?_
    simp only [chargeparklaw17_FlashErased.j0, if_true, hlen, decide_eq_true (show (n : Int) > 0 by omega)]
    exact Ev.now _
  rw [decide_eq_false c]
  have w1 : wrap64 (wrap64 ((n : Int) - d.length) + 1) = (n : Int) - d.length + 1 := by rw [fp_wrap (x := (n : Int) - d.length) (by omega) (by omega), fp_wrap (by omega) (by omega)]
  have w2 : Int.tmod (wrap64 a2) ((n : Int) - d.length + 1) = a2 % ((n : Int) - d.length + 1) := by rw [fp_wrap (x := a2) (by omega) (by omega), Int.tmod_eq_emod_of_nonneg h2.1]
  obtain ⟨p, hp⟩ : ∃ p, a2 % ((n : Int) - d.length + 1) = p := ⟨_, rfl⟩
  have p0 : 0 ≤ p := by rw [← hp]; exact Int.emod_nonneg _ (by omega)
  have p1 : p < (n : Int) - d.length + 1 := by rw [← hp]; exact Int.emod_lt_of_pos _ (by omega)
  rw [hp] at w2
  clear hp
  refine evs ?_
  simp only [chargeparklaw17_FlashErased.j0, if_neg (show ¬ (false = true) by decide), hlen, w1, if_neg (show ¬ (n : Int) - d.length + 1 = 0 by omega), w2]
  have hdone : chargeparklaw17_done.f S (List.replicate n 255) p d = some (S, stL (clearB d) p (List.replicate n 255) d.length, true) := done_ok hval p0 (by rw [hlen]; omega)
  refine evb hdone ?_
  have hsl : (stL (clearB d) p (List.replicate n 255) d.length).length = n := by rw [stL_length, hlen]
  simp only [if_true, hsl, bne_self_eq_false]
  have hread : ∀ j : Int, 0 ≤ j → j < n → rd (stL (clearB d) p (List.replicate n 255) d.length) j = if p ≤ j ∧ j < p + d.length then rd d (j - p) else 255 := fun j j0 j1 => by
    rw [prog_rd _ _ _ p0 (by rw [hlen]; omega) j j0 (by rw [hlen]; exact j1)]
    have hr : rd (List.replicate n (255 : Int)) j = 255 := by
      obtain ⟨j, rfl⟩ := Int.eq_ofNat_of_zero_le j0
      rw [rd_nat _ j (by rw [hlen]; omega), List.getElem_replicate]
    unfold prg
    rw [hr]
    split
    · exact and8_255 (hb.rd _ (by omega) (by omega))
    · rfl
  generalize stL (clearB d) p (List.replicate n 255) d.length = g at hsl hread ⊢
  refine evs ?_
  simp only [chargeparklaw17_FlashErased.j1, if_neg (show ¬ (false = true) by decide), hsl]
  exact erased_loop d g n p hsl hn2 p0 (by omega) hread n 0 (by omega)
end Go.Proofs.Ytdblbilgnfomaaa.Pure
