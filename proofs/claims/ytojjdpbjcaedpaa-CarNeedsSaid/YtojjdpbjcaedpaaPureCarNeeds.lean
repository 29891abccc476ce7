/-
  For any car that is plugged in, and currents that are allowed tick by tick, it draws nothing once it has got what it needs; what it has got is the sum of what its ticks gave.
-/
import Derived.Test.YtojjdpbjcaedpaaPAllx7
import Derived.Test.YtojjdpbjcaedpaaCarPlain
namespace Go.Proofs.Ytojjdpbjcaedpaa.Pure
open Go.RowKit Go.Proofs.Ytojjdpbjcaedpaa.PAll Go.Proofs.Ytojjdpbjcaedpaa.CarWalk Go.Proofs.Ytojjdpbjcaedpaa.CarA Go.Proofs.Ytojjdpbjcaedpaa.CarB Go.Proofs.Ytojjdpbjcaedpaa.CarDraw Go.Proofs.Ytojjdpbjcaedpaa.CarGood Go.Proofs.Ytojjdpbjcaedpaa.CarExt Go.Proofs.Ytojjdpbjcaedpaa.CarPlain
open Go.Proofs.YtojjdpbjcaedpaaW.PrintWords Go.Proofs.YtojjdpbjcaedpaaW.PrintLast Go.Proofs.YtojjdpbjcaedpaaW.PrintMore
set_option linter.unusedVariables false
set_option linter.unusedSimpArgs false

theorem needs_l (c : Car) (hv : Valid c) (x1 : Int) (l2 : List Int) (hl : l2.length ≤ 200) : ∀ d i : Nat, l2.length - i = d → i ≤ l2.length → ∀ (pil : List Int) (got : Int), Rem pil (i : Int) got → got ≤ 1000552000 →
    Ev (fun k => chargeparklaw13_CarNeeds.l0 k x1 l2 true got l2 (l2.length : Int) (i : Int) c.f0 c.f1 c.f2 c.f3 c.f4 pil (i : Int) got) true := by
  intro d
  induction d with
  | zero =>
    intro i hd hi pil got hr hg
    obtain rfl : i = l2.length := by omega
    refine evs ?_
    simp only [chargeparklaw13_CarNeeds.l0, if_neg (Int.lt_irrefl _), if_true, beq_self_eq_true]
    exact Ev.now _
  | succ d ih =>
    intro i hd hi pil got hr hg
    have hlt : i < l2.length := by omega
    refine evs ?_
    simp only [chargeparklaw13_CarNeeds.l0, if_pos (show (i : Int) < (l2.length : Int) by omega), if_pos (Int.natCast_nonneg _)]
    by_cases hf : Fine c pil (i : Int) got x1 (rd l2 (i : Int))
    · refine evb (draw_fine hf) ?_
      have hb := amps_bounds hf (comm c.f0 c.f1 x1)
      have ho := on_bounds hf
      have hq := on_cnt hf
      have hon := fun h => amps_on (c := c) (l := pil) (t := (i : Int)) (g := got) (al := rd l2 (i : Int)) (on := comm c.f0 c.f1 x1) h
      have hcount := count_is ho.1 ho.2
      have hg0 := hr.g0
      have hn1 := hv.n1
      have hn0 := hv.n0
      have hm := hv.m80
      have hm1 := hv.m1
      have hnext := fun g' h0 h1 => rem_next (g' := g') hf h0 h1
      unfold drawR
      simp only [if_true]
      refine evb hcount ?_
      generalize amps c pil (i : Int) got (comm c.f0 c.f1 x1) (rd l2 (i : Int)) = A at *
      generalize cnt (onOf c pil (i : Int) got x1 (rd l2 (i : Int))) = q at *
      have hst := got_step hb.1 hb.2 hm hq
      have hd1 : l2.length - (i + 1) = d := by clear hst hnext hon hcount; omega
      have hd2 : i + 1 ≤ l2.length := hlt
      have hi1 : (i : Int) + 1 = ((i + 1 : Nat) : Int) := rfl
      have hge : 0 ≤ got + 2300 * A * q := Int.add_nonneg hg0 hst.1
      have hrec : got + 2300 * A * q ≤ 1000552000 → Ev (fun k => chargeparklaw13_CarNeeds.l0 k x1 l2 true (got + 2300 * A * q) l2 (l2.length : Int) ((i + 1 : Nat) : Int) c.f0 c.f1 c.f2 c.f3 c.f4 ((pil ++ [rd l2 (i : Int)]).drop (pil.length + 1 - 21)) ((i : Int) + 1) (got + 2300 * A * q)) true := fun hle => by
        have h1 := hnext (got + 2300 * A * q) hge (Int.le_trans hle (by decide))
        rw [hi1] at h1 ⊢
        exact ih (i + 1) hd1 hd2 _ _ h1 hle
      have w1 : wrap64 (2300 * A) = 2300 * A := cp_wrap (by omega) (by omega)
      have w2 : wrap64 (2300 * A * q) = 2300 * A * q := cp_wrap (by omega) (by omega)
      have w3 : wrap64 (got + 2300 * A * q) = got + 2300 * A * q := cp_wrap (by omega) (by omega)
      have w4 : wrap64 (2300 * c.f2) = 2300 * c.f2 := cp_wrap (by omega) (by omega)
      have w5 : wrap64 (2300 * c.f2 * 3) = 2300 * c.f2 * 3 := cp_wrap (by omega) (by omega)
      have w6 : wrap64 (c.f3 + 2300 * c.f2 * 3) = c.f3 + 2300 * c.f2 * 3 := cp_wrap (by omega) (by omega)
      have w7 : wrap64 ((i : Int) + 1) = ((i + 1 : Nat) : Int) := by rw [cp_wrap (by omega) (by omega)]; omega
      simp only [w1, w2, w3, w4, w5, w6, w7, if_true]
      by_cases hn : got ≥ c.f3
      · have hA : A = 0 := by
          by_cases e : A = 0
          · exact e
          · have := (hon e).2; omega
        simp only [if_pos hn, if_pos hA]
        have hp : 2300 * A * q = 0 := by rw [hA]; simp
        split
        · exact hrec (by omega)
        · exact hrec (by omega)
      · simp only [if_neg hn, if_neg (show ¬ got + 2300 * A * q ≥ c.f3 + 2300 * c.f2 * 3 by omega)]
        exact hrec (by omega)
    · refine evb (draw_bad hf) ?_
      exact Ev.now _

theorem CarNeeds : chargeparklaw13_CarNeeds.Pure := by
  intro c x1 l2 hc hx hm hm8 hw
  unfold chargeparklaw13_CarNeeds.f
  refine Ev.rounds (Ev.bind head_ev ?_)
  have hout : ∀ a b d, Ev (fun k => chargeparklaw13_CarNeeds.j0 k x1 l2 true true c.f0 c.f1 c.f2 c.f3 c.f4 a b d) true := fun a b d => by
    refine evs ?_
    simp only [chargeparklaw13_CarNeeds.j0, if_true]
    exact Ev.now _
  by_cases hv : Valid c
  · refine evb (plug_good hv) ?_
    simp only [if_true]
    by_cases h : (l2.length : Int) > 200
    · rw [decide_eq_true h]; exact hout _ _ _
    · rw [decide_eq_false h]
      refine evs ?_
      simp only [chargeparklaw13_CarNeeds.j0, if_neg (show ¬ (false = true) by decide)]
      exact needs_l c hv x1 l2 (by omega) l2.length 0 (by omega) (by omega) [] 0 ⟨by simp, by simp, by decide, by decide, by decide, by decide⟩ (by decide)
  · refine evb (plug_bad hv) ?_
    exact hout _ _ _
end Go.Proofs.Ytojjdpbjcaedpaa.Pure
