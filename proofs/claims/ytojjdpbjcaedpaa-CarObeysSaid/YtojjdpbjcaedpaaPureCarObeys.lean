/-
  For any car, state, phases and allowed current, a car draws at most its Max, only on phases that it and the charger have, at most what is allowed unless it is greedy, and nothing if nothing is allowed.
-/
import Derived.Test.YtojjdpbjcaedpaaPAllx7
import Derived.Test.YtojjdpbjcaedpaaCarPlain
namespace Go.Proofs.Ytojjdpbjcaedpaa.Pure
open Go.RowKit Go.Proofs.Ytojjdpbjcaedpaa.PAll Go.Proofs.Ytojjdpbjcaedpaa.CarWalk Go.Proofs.Ytojjdpbjcaedpaa.CarA Go.Proofs.Ytojjdpbjcaedpaa.CarB Go.Proofs.Ytojjdpbjcaedpaa.CarDraw Go.Proofs.Ytojjdpbjcaedpaa.CarGood Go.Proofs.Ytojjdpbjcaedpaa.CarExt Go.Proofs.Ytojjdpbjcaedpaa.CarPlain
open Go.Proofs.YtojjdpbjcaedpaaW.PrintWords Go.Proofs.YtojjdpbjcaedpaaW.PrintLast Go.Proofs.YtojjdpbjcaedpaaW.PrintMore
set_option linter.unusedVariables false
set_option linter.unusedSimpArgs false

theorem CarObeys : chargeparklaw13_CarObeys.Pure := by
  intro c s ph al hc hs hph hal
  unfold chargeparklaw13_CarObeys.f
  refine Ev.rounds (Ev.bind head_ev ?_)
  by_cases hf : Fine c s.f0 s.f1 s.f2 ph al
  · refine evb (draw_fine hf) ?_
    have hp := Fine.phases hf
    have hb := amps_bounds hf (comm c.f0 c.f1 ph)
    have ho := on_bounds hf
    have hz := on_zero hf
    have hle := fun hk => amps_le hf hk (comm c.f0 c.f1 ph)
    have h0 := fun e => amps_zero hf e (comm c.f0 c.f1 ph)
    have hal0 := hf.a0
    have hA1 : Go.bits .and .i64 (onOf c s.f0 s.f1 s.f2 ph al) c.f1 = onOf c s.f0 s.f1 s.f2 ph al := by
      unfold onOf
      split
      · have h1 := hf.v.p1
        have h7 := hf.v.p7
        have h : c.f1 = 1 ∨ c.f1 = 2 ∨ c.f1 = 3 ∨ c.f1 = 4 ∨ c.f1 = 5 ∨ c.f1 = 6 ∨ c.f1 = 7 := by omega
        rcases h with e | e | e | e | e | e | e <;> rw [e] <;> rfl
      · exact hp.car
    have hA2 : Go.bits .and .i64 (onOf c s.f0 s.f1 s.f2 ph al) ph = onOf c s.f0 s.f1 s.f2 ph al := by
      unfold onOf
      split
      · have h1 := hf.p1
        have h7 := hf.p7
        have h : ph = 1 ∨ ph = 2 ∨ ph = 3 ∨ ph = 4 ∨ ph = 5 ∨ ph = 6 ∨ ph = 7 := by omega
        rcases h with e | e | e | e | e | e | e <;> rw [e] <;> rfl
      · exact hp.here
    unfold drawR
    generalize amps c s.f0 s.f1 s.f2 (comm c.f0 c.f1 ph) al = A at *
    generalize onOf c s.f0 s.f1 s.f2 ph al = ON at *
    have hfin : ((decide (A > 0)) == (decide (ON > 0))) = true := by
      rw [beq_iff_eq, decide_eq_decide]
      omega
    simp only [if_true, hfin, if_pos (show A ≥ 0 by omega), if_pos hb.2, if_pos (show ON ≥ 0 by omega), hA1, hA2]
    by_cases hk : A ≤ al
    · simp only [if_pos hk]
      by_cases h1 : al > 0
      · simp only [if_pos h1]; exact Ev.now _
      · simp only [if_neg h1, if_pos (h0 (by omega))]; exact Ev.now _
    · have hk4 : c.f0 = 4 := by
        by_cases e : c.f0 = 4
        · exact e
        · exact absurd (hle e) hk
      simp only [if_neg hk, if_pos hk4]
      by_cases h1 : al > 0
      · simp only [if_pos h1]; exact Ev.now _
      · simp only [if_neg h1, if_pos (h0 (by omega))]; exact Ev.now _
  · refine evb (draw_bad hf) ?_
    exact Ev.now _
end Go.Proofs.Ytojjdpbjcaedpaa.Pure
