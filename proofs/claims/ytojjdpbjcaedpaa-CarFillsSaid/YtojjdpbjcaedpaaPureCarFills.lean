/-
  For any good car that has a phase in common with a charger that always allows at least its Max, it has got what it needs after as many ticks as this takes on all common phases, and not before.
-/
import Derived.Test.YtojjdpbjcaedpaaPAllx7
import Derived.Test.YtojjdpbjcaedpaaCarPlain
namespace Go.Proofs.Ytojjdpbjcaedpaa.Pure
open Go.RowKit Go.Proofs.Ytojjdpbjcaedpaa.PAll Go.Proofs.Ytojjdpbjcaedpaa.CarWalk Go.Proofs.Ytojjdpbjcaedpaa.CarA Go.Proofs.Ytojjdpbjcaedpaa.CarB Go.Proofs.Ytojjdpbjcaedpaa.CarDraw Go.Proofs.Ytojjdpbjcaedpaa.CarGood Go.Proofs.Ytojjdpbjcaedpaa.CarExt Go.Proofs.Ytojjdpbjcaedpaa.CarPlain
open Go.Proofs.YtojjdpbjcaedpaaW.PrintWords Go.Proofs.YtojjdpbjcaedpaaW.PrintLast Go.Proofs.YtojjdpbjcaedpaaW.PrintMore
set_option linter.unusedVariables false
set_option linter.unusedSimpArgs false

theorem fills_l (c : Car) (hv : Valid c) (hk : c.f0 = 0) (x1 x2 : Int) (h1 : 1 ≤ x1) (h7 : x1 ≤ 7) (hx0 : 0 ≤ x2) (hx : c.f2 + x2 ≤ 80) (n E : Int) (hn : n = cnt (comm 0 c.f1 x1)) (hn0 : comm 0 c.f1 x1 ≠ 0) (hE : E = 2300 * c.f2 * n) (hE1 : 1 ≤ E) (hE2 : E ≤ 552000) (T : Nat) (hT : T ≤ 200)
    (hbefore : ∀ i : Nat, i < T → E * (i : Int) < c.f3) (hafter : c.f3 ≤ E * (T : Int)) : ∀ d i : Nat, T - i = d → i ≤ T → ∀ (pil : List Int), Rem pil (i : Int) (E * (i : Int)) →
    Ev (fun k => chargeparklaw13_CarFills.l0 k x1 x2 true (T : Int) (i : Int) c.f0 c.f1 c.f2 c.f3 c.f4 pil (i : Int) (E * (i : Int))) true := by
  intro d
  induction d with
  | zero =>
    intro i hd hi pil hr
    obtain rfl : i = T := by omega
    refine evs ?_
    simp only [chargeparklaw13_CarFills.l0, if_neg (Int.lt_irrefl _), if_true, decide_eq_true (show E * (i : Int) ≥ c.f3 from hafter)]
    exact Ev.now _
  | succ d ih =>
    intro i hd hi pil hr
    have hlt : i < T := by omega
    have hb := hbefore i hlt
    have hm := hv.m80
    have hm1 := hv.m1
    have hal : wrap64 (c.f2 + x2) = c.f2 + x2 := cp_wrap (by omega) (by omega)
    have hf : Fine c pil (i : Int) (E * (i : Int)) x1 (c.f2 + x2) := ⟨hv, hr, h1, h7, by omega, hx, by omega⟩
    have hcomm : comm c.f0 c.f1 x1 = comm 0 c.f1 x1 := by rw [hk]
    have hA : amps c pil (i : Int) (E * (i : Int)) (comm c.f0 c.f1 x1) (c.f2 + x2) = c.f2 := by
      rw [amps_eq, if_pos ⟨by rw [hcomm]; exact hn0, hb⟩]
      have : curV c pil (i : Int) (c.f2 + x2) = c.f2 + x2 := by unfold curV; rw [if_neg (by omega), if_neg (by omega), if_neg (by omega)]
      rw [this]
      unfold mn
      split <;> omega
    have hON : cnt (onOf c pil (i : Int) (E * (i : Int)) x1 (c.f2 + x2)) = n := by
      unfold onOf
      rw [hA, if_neg (by omega), hcomm, hn]
    refine evs ?_
    simp only [chargeparklaw13_CarFills.l0, if_pos (show (i : Int) < (T : Int) by omega), if_neg (show ¬ E * (i : Int) ≥ c.f3 by omega), hal]
    refine evb (draw_fine hf) ?_
    have hg : E * (i : Int) + 2300 * c.f2 * n = E * ((i + 1 : Nat) : Int) := by
      rw [← hE, show ((i + 1 : Nat) : Int) = (i : Int) + 1 by omega, Int.mul_add, Int.mul_one]
    have hbig : E * ((i + 1 : Nat) : Int) ≤ 552000 * 200 := Int.mul_le_mul hE2 (by omega) (by omega) (by omega)
    have hpos : 0 ≤ E * ((i + 1 : Nat) : Int) := Int.mul_nonneg (by omega) (by omega)
    unfold drawR
    simp only [hA, hON, hg, if_true, show wrap64 ((i : Int) + 1) = ((i + 1 : Nat) : Int) by rw [cp_wrap (by omega) (by omega)]; omega]
    have hnext := rem_next hf hpos (by omega)
    rw [show (i : Int) + 1 = ((i + 1 : Nat) : Int) by omega] at hnext ⊢
    exact ih (i + 1) (by omega) (by omega) _ hnext

theorem CarFills : chargeparklaw13_CarFills.Pure := by
  intro c a1 a2 hc h1w h2w
  unfold chargeparklaw13_CarFills.f
  refine Ev.rounds (Ev.bind head_ev ?_)
  have hout : ∀ x p q r, Ev (fun k => chargeparklaw13_CarFills.j0 k a1 a2 true x true 0 c.f1 c.f2 c.f3 c.f4 p q r) true := fun x p q r => by
    refine evs ?_
    simp only [chargeparklaw13_CarFills.j0, if_true]
    exact Ev.now _
  obtain ⟨t, ht⟩ : ∃ t, chargeparkref13_Count.f (Go.bits .and .i64 (Go.bits .and .i64 c.f1 7) a1) = some t := ⟨_, rfl⟩
  by_cases hv : Valid ⟨0, c.f1, c.f2, c.f3, c.f4⟩
  · have hp : car_Plug.f 0 c.f1 c.f2 c.f3 c.f4 = some ([], 0, 0, 0) := plug_good hv
    refine evb hp (evb ht ?_)
    simp only [if_true]
    by_cases h1 : a1 < 1
    · simp only [if_pos h1]; exact hout _ _ _ _
    by_cases h7 : a1 > 7
    · simp only [if_neg h1, if_pos h7]; exact hout _ _ _ _
    by_cases h0 : t = 0
    · simp only [if_neg h1, if_neg h7, if_pos h0]; exact hout _ _ _ _
    by_cases hx0 : a2 < 0
    · simp only [if_neg h1, if_neg h7, if_neg h0, if_pos hx0]; exact hout _ _ _ _
    have hm := hv.m80
    have hm1 := hv.m1
    have hp1 := hv.p1
    have hp7 := hv.p7
    have hn0 := hv.n0
    have hn1 := hv.n1
    simp only at hm hm1 hp1 hp7 hn0 hn1
    have hw : wrap64 (80 - c.f2) = 80 - c.f2 := cp_wrap (by omega) (by omega)
    simp only [if_neg h1, if_neg h7, if_neg h0, if_neg hx0, hw]
    by_cases hx : a2 > 80 - c.f2
    · rw [decide_eq_true hx]; exact hout _ _ _ _
    rw [decide_eq_false hx]
    have ph := CarPlain.phases (k := 0) (a := c.f1) (b := a1) ⟨by decide, by decide⟩ ⟨by omega, by omega⟩ ⟨by omega, by omega⟩
    have cb := comm_bounds (k := 0) (a := c.f1) (b := a1) ⟨by decide, by decide⟩ ⟨by omega, by omega⟩ ⟨by omega, by omega⟩
    rw [ph.seven, count_is cb.1 cb.2] at ht
    have ht := (Option.some.inj ht).symm
    have ht0 := ph.c0
    have ht3 := ph.c3
    rw [← ht] at ht0 ht3
    have hc0 : comm 0 c.f1 a1 ≠ 0 := by
      intro e
      apply h0
      rw [ht, e]; rfl
    refine evs ?_
    obtain ⟨E, hE⟩ : ∃ E, E = 2300 * c.f2 * t := ⟨_, rfl⟩
    have hEb : 1 ≤ E ∧ E ≤ 552000 := by
      have h : t = 1 ∨ t = 2 ∨ t = 3 := by omega
      rw [hE]
      rcases h with e | e | e <;> rw [e] <;> omega
    have w1 : wrap64 (2300 * c.f2) = 2300 * c.f2 := cp_wrap (by omega) (by omega)
    have w2 : wrap64 (2300 * c.f2 * t) = E := by rw [← hE]; exact cp_wrap (by omega) (by omega)
    have w3 : wrap64 (c.f3 + E) = c.f3 + E := cp_wrap (by omega) (by omega)
    have w4 : wrap64 (c.f3 + E - 1) = c.f3 + E - 1 := cp_wrap (by omega) (by omega)
    have hdiv : Int.tdiv (c.f3 + E - 1) E = (c.f3 + E - 1) / E := Int.tdiv_eq_ediv_of_nonneg (by omega)
    have hd0 : 0 ≤ (c.f3 + E - 1) / E := Int.ediv_nonneg (by omega) (by omega)
    have hd1 : (c.f3 + E - 1) / E ≤ c.f3 + E - 1 := Int.ediv_le_self _ (by omega)
    have w5 : wrap64 ((c.f3 + E - 1) / E) = (c.f3 + E - 1) / E := cp_wrap (by omega) (by omega)
    simp only [chargeparklaw13_CarFills.j0, if_neg (show ¬ (false = true) by decide), w1, w2, w3, w4, hdiv, w5, if_neg (show ¬ E = 0 by omega)]
    obtain ⟨T, hT⟩ : ∃ T : Nat, (T : Int) = (c.f3 + E - 1) / E := ⟨((c.f3 + E - 1) / E).toNat, by omega⟩
    rw [← hT]
    by_cases h200 : (T : Int) > 200
    · simp only [if_pos h200]; exact Ev.now _
    · simp only [if_neg h200]
      have m1 : E * (T : Int) ≤ c.f3 + E - 1 := by rw [hT]; exact Int.mul_ediv_self_le (by omega)
      have m2 : c.f3 + E - 1 < E * (T : Int) + E := by rw [hT]; exact Int.lt_mul_ediv_self_add (by omega)
      have hbefore : ∀ i : Nat, i < T → E * (i : Int) < c.f3 := by
        intro i hi
        have h : E * (i : Int) ≤ E * ((T : Int) - 1) := Int.mul_le_mul_of_nonneg_left (by omega) (by omega)
        rw [Int.mul_sub, Int.mul_one] at h
        omega
      have := fills_l ⟨0, c.f1, c.f2, c.f3, c.f4⟩ hv rfl a1 a2 (by omega) (by omega) (by omega) (by show c.f2 + a2 ≤ 80; omega) t E ht hc0 hE hEb.1 hEb.2 T (by omega) hbefore (show c.f3 ≤ E * (T : Int) by omega) T 0 (by omega) (by omega) [] (by
        rw [show E * ((0 : Nat) : Int) = 0 by simp]
        exact ⟨by simp, by simp, by decide, by decide, by decide, by decide⟩)
      rw [show E * ((0 : Nat) : Int) = 0 by simp] at this
      exact this
  · have hp : car_Plug.f 0 c.f1 c.f2 c.f3 c.f4 = some ([], 0, 0, 1) := plug_bad hv
    refine evb hp (evb ht ?_)
    exact hout _ _ _ _
end Go.Proofs.Ytojjdpbjcaedpaa.Pure
