/-
  For any car and state, without the currents that were allowed more than Delay ticks ago the car draws the same.
-/
import Derived.Test.YtojjdpbjcaedpaaPAllx10
import Derived.Test.YtojjdpbjcaedpaaCarPlain
namespace Go.Proofs.Ytojjdpbjcaedpaa.Pure
open Go.RowKit Go.Proofs.Ytojjdpbjcaedpaa.PAll Go.Proofs.Ytojjdpbjcaedpaa.CarWalk Go.Proofs.Ytojjdpbjcaedpaa.CarA Go.Proofs.Ytojjdpbjcaedpaa.CarB Go.Proofs.Ytojjdpbjcaedpaa.CarDraw Go.Proofs.Ytojjdpbjcaedpaa.CarGood Go.Proofs.Ytojjdpbjcaedpaa.CarExt Go.Proofs.Ytojjdpbjcaedpaa.CarPlain
open Go.Proofs.YtojjdpbjcaedpaaW.PrintWords Go.Proofs.YtojjdpbjcaedpaaW.PrintLast Go.Proofs.YtojjdpbjcaedpaaW.PrintMore
set_option linter.unusedVariables false
set_option linter.unusedSimpArgs false

theorem late_short (l : List Int) (d : Nat) (al : Int) : lateI (l.drop (l.length - d)) (d : Int) al = lateI l (d : Int) al := by
  by_cases h : l.length ≤ d
  · rw [show l.length - d = 0 by omega, List.drop_zero]
  · have e1 : (l.drop (l.length - d)).length = d := by rw [List.length_drop]; omega
    have e2 : ((l.drop (l.length - d) ++ [al]).length : Int) = (d : Int) + 1 := by rw [List.length_append, e1]; simp
    have e3 : ((l ++ [al]).length : Int) = (l.length : Int) + 1 := by simp
    unfold lateI
    rw [e2, e3, if_neg (by omega), if_neg (by omega)]
    congr 1
    rw [show (d : Int) + 1 - 1 - (d : Int) = ((0 : Nat) : Int) by omega, show (l.length : Int) + 1 - 1 - (d : Int) = ((l.length - d : Nat) : Int) by omega]
    have e : l.drop (l.length - d) ++ [al] = (l ++ [al]).drop (l.length - d) := by rw [List.drop_append_of_le_length (by omega)]
    rw [cp_rd _ 0 (by rw [List.length_append, e1]; simp), cp_rd _ (l.length - d) (by rw [List.length_append]; simp; omega)]
    simp only [e, List.getElem_drop, Nat.add_zero]
theorem CarMemory : chargeparklaw13_CarMemory.Pure := by
  intro c s ph al hc hs hph hal
  unfold chargeparklaw13_CarMemory.f
  refine Ev.rounds (Ev.bind head_ev ?_)
  by_cases hf : Fine c s.f0 s.f1 s.f2 ph al
  · refine evb (draw_fine hf) ?_
    simp only [show (drawR c s.f0 s.f1 s.f2 ph al).2.2.2.2.2 = 0 from rfl, if_true]
    have hlen := hf.r.len
    have hd0 := hf.v.d0
    have hd20 := hf.v.d20
    obtain ⟨d, hd⟩ : ∃ d : Nat, (d : Int) = c.f4 := ⟨c.f4.toNat, by omega⟩
    have hmx : mx 0 (wrap64 ((s.f0.length : Int) - c.f4)) = ((s.f0.length - d : Nat) : Int) := by
      rw [cp_wrap (by omega) (by omega)]
      unfold mx
      split <;> omega
    simp only [if_neg (show ¬ (s.f0.length : Int) > 40 by omega), if_neg (show ¬ c.f4 < 0 by omega), hmx, if_pos (Int.natCast_nonneg _), if_pos (show ((s.f0.length - d : Nat) : Int) ≤ (s.f0.length : Int) by omega), Int.toNat_natCast]
    have hfs : Fine c (s.f0.drop (s.f0.length - d)) s.f1 s.f2 ph al :=
      ⟨hf.v, ⟨by rw [List.length_drop]; omega, fun x hx => hf.r.all x (List.mem_of_mem_drop hx), hf.r.t0, hf.r.t1, hf.r.g0, hf.r.g1⟩, hf.p1, hf.p7, hf.a0, hf.a80, hf.t⟩
    refine evb (draw_fine hfs) ?_
    simp only [show (drawR c (s.f0.drop (s.f0.length - d)) s.f1 s.f2 ph al).2.2.2.2.2 = 0 from rfl, if_true]
    have hA : amps c (s.f0.drop (s.f0.length - d)) s.f1 s.f2 (comm c.f0 c.f1 ph) al = amps c s.f0 s.f1 s.f2 (comm c.f0 c.f1 ph) al := by
      unfold amps
      rw [← hd, late_short]
    have hON : onOf c (s.f0.drop (s.f0.length - d)) s.f1 s.f2 ph al = onOf c s.f0 s.f1 s.f2 ph al := by
      unfold onOf
      rw [hA]
    simp only [show (drawR c s.f0 s.f1 s.f2 ph al).1 = amps c s.f0 s.f1 s.f2 (comm c.f0 c.f1 ph) al from rfl, show (drawR c (s.f0.drop (s.f0.length - d)) s.f1 s.f2 ph al).1 = amps c (s.f0.drop (s.f0.length - d)) s.f1 s.f2 (comm c.f0 c.f1 ph) al from rfl, hA, if_true,
      show (drawR c s.f0 s.f1 s.f2 ph al).2.1 = onOf c s.f0 s.f1 s.f2 ph al from rfl, show (drawR c (s.f0.drop (s.f0.length - d)) s.f1 s.f2 ph al).2.1 = onOf c (s.f0.drop (s.f0.length - d)) s.f1 s.f2 ph al from rfl, hON, beq_self_eq_true]
    exact Ev.now _
  · refine evb (draw_bad hf) ?_
    exact Ev.now _
end Go.Proofs.Ytojjdpbjcaedpaa.Pure
