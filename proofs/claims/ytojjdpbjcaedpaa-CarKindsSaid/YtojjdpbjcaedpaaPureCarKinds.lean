/-
  For any car that is not greedy, state, phases and allowed current, it gets at most what a good car with the same data gets in the same tick.
-/
import Derived.Test.YtojjdpbjcaedpaaPAllx8
import Derived.Test.YtojjdpbjcaedpaaCarPlain
namespace Go.Proofs.Ytojjdpbjcaedpaa.Pure
open Go.RowKit Go.Proofs.Ytojjdpbjcaedpaa.PAll Go.Proofs.Ytojjdpbjcaedpaa.CarWalk Go.Proofs.Ytojjdpbjcaedpaa.CarA Go.Proofs.Ytojjdpbjcaedpaa.CarB Go.Proofs.Ytojjdpbjcaedpaa.CarDraw Go.Proofs.Ytojjdpbjcaedpaa.CarGood Go.Proofs.Ytojjdpbjcaedpaa.CarExt Go.Proofs.Ytojjdpbjcaedpaa.CarPlain
open Go.Proofs.YtojjdpbjcaedpaaW.PrintWords Go.Proofs.YtojjdpbjcaedpaaW.PrintLast Go.Proofs.YtojjdpbjcaedpaaW.PrintMore
set_option linter.unusedVariables false
set_option linter.unusedSimpArgs false

theorem CarKinds : chargeparklaw13_CarKinds.Pure := by
  intro c s ph al hc hs hph hal
  unfold chargeparklaw13_CarKinds.f
  refine Ev.rounds (Ev.bind head_ev ?_)
  by_cases hf : Fine c s.f0 s.f1 s.f2 ph al
  · refine evb (draw_fine hf) ?_
    simp only [show (drawR c s.f0 s.f1 s.f2 ph al).2.2.2.2.2 = 0 from rfl, if_true]
    by_cases hk : c.f0 = 4
    · simp only [if_pos hk]; exact Ev.now _
    · simp only [if_neg hk]
      obtain ⟨g, hg⟩ : ∃ g : Car, g = ⟨0, c.f1, c.f2, c.f3, c.f4⟩ := ⟨_, rfl⟩
      have hv : Valid g := by rw [hg]; exact ⟨by show (0 : Int) ≤ 0; decide, by show (0 : Int) ≤ 4; decide, hf.v.p1, hf.v.p7, hf.v.m1, hf.v.m80, hf.v.n0, hf.v.n1, hf.v.d0, hf.v.d20, fun e => by cases e⟩
      have hfg : Fine g s.f0 s.f1 s.f2 ph al := ⟨hv, hf.r, hf.p1, hf.p7, hf.a0, hf.a80, hf.t⟩
      have hd := draw_fine hfg
      rw [show g.f0 = 0 by rw [hg], show g.f1 = c.f1 by rw [hg], show g.f2 = c.f2 by rw [hg], show g.f3 = c.f3 by rw [hg], show g.f4 = c.f4 by rw [hg]] at hd
      refine evb hd ?_
      simp only [show (drawR g s.f0 s.f1 s.f2 ph al).2.2.2.2.2 = 0 from rfl, if_true]
      have hp := Fine.phases hf
      have hb := amps_bounds hf (comm c.f0 c.f1 ph)
      have hq := on_cnt hf
      have hbg := amps_bounds hfg (comm g.f0 g.f1 ph)
      have hqg := on_cnt hfg
      have hcl := cur_le hf hk
      have key : s.f2 + 2300 * amps c s.f0 s.f1 s.f2 (comm c.f0 c.f1 ph) al * cnt (onOf c s.f0 s.f1 s.f2 ph al) ≤ s.f2 + 2300 * amps g s.f0 s.f1 s.f2 (comm g.f0 g.f1 ph) al * cnt (onOf g s.f0 s.f1 s.f2 ph al) := by
        by_cases hA : amps c s.f0 s.f1 s.f2 (comm c.f0 c.f1 ph) al = 0
        · rw [hA]
          have := got_step hbg.1 hbg.2 hfg.v.m80 hqg
          omega
        · obtain ⟨hc0, hn⟩ := amps_on hA
          have hc1 : comm g.f0 g.f1 ph ≠ 0 := by
            rw [show g.f0 = 0 by rw [hg], show g.f1 = c.f1 by rw [hg]]
            exact fun e => hc0 (hp.none.2 e)
          have hle : amps c s.f0 s.f1 s.f2 (comm c.f0 c.f1 ph) al ≤ amps g s.f0 s.f1 s.f2 (comm g.f0 g.f1 ph) al := by
            rw [amps_eq, amps_eq, if_pos ⟨hc0, hn⟩, if_pos ⟨hc1, by rw [show g.f3 = c.f3 by rw [hg]]; exact hn⟩]
            have e : curV g s.f0 s.f1 al = al := by unfold curV; rw [show g.f0 = 0 by rw [hg]]; rfl
            rw [e, show g.f2 = c.f2 by rw [hg]]
            unfold mn
            repeat' split
            all_goals omega
          have hAg : amps g s.f0 s.f1 s.f2 (comm g.f0 g.f1 ph) al ≠ 0 := by omega
          have hon : cnt (onOf c s.f0 s.f1 s.f2 ph al) ≤ cnt (onOf g s.f0 s.f1 s.f2 ph al) := by
            unfold onOf
            rw [if_neg hA, if_neg hAg, show g.f0 = 0 by rw [hg], show g.f1 = c.f1 by rw [hg]]
            exact hp.least
          have h1 : 2300 * amps c s.f0 s.f1 s.f2 (comm c.f0 c.f1 ph) al * cnt (onOf c s.f0 s.f1 s.f2 ph al) ≤ 2300 * amps g s.f0 s.f1 s.f2 (comm g.f0 g.f1 ph) al * cnt (onOf g s.f0 s.f1 s.f2 ph al) :=
            Int.mul_le_mul (by omega) hon hq.1 (by omega)
          omega
      simp only [show (drawR c s.f0 s.f1 s.f2 ph al).2.2.2.2.1 = s.f2 + 2300 * amps c s.f0 s.f1 s.f2 (comm c.f0 c.f1 ph) al * cnt (onOf c s.f0 s.f1 s.f2 ph al) from rfl, show (drawR g s.f0 s.f1 s.f2 ph al).2.2.2.2.1 = s.f2 + 2300 * amps g s.f0 s.f1 s.f2 (comm g.f0 g.f1 ph) al * cnt (onOf g s.f0 s.f1 s.f2 ph al) from rfl, if_pos key]
      rw [show ((drawR c s.f0 s.f1 s.f2 ph al).2.2.2.1 == (drawR g s.f0 s.f1 s.f2 ph al).2.2.2.1) = true from by rw [beq_iff_eq]; rfl]
      exact Ev.now _
  · refine evb (draw_bad hf) ?_
    exact Ev.now _
end Go.Proofs.Ytojjdpbjcaedpaa.Pure
