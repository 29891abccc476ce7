/-
  For all numbers of ticks and drifts, clock.Shown, clock.Wait and clock.Early return what the reference returns. No condition.
-/
import Derived.Test.YtfkehboecnoaiaaPClockMatchesReferencex1
namespace Go.Proofs.Ytfkehboecnoaiaa.Pure
open Go.RowKit Go.Proofs.Ytfkehboecnoaiaa.PClockMatchesReference Go.Proofs.YtfkehboecnoaiaaW.PrintWords Go.Proofs.YtfkehboecnoaiaaW.PrintLast

theorem cmr_head : chargeparklaw15_head.f = some true := by decide +kernel

theorem cmr_wrap {x : Int} (h0 : -9000000000000000000 ≤ x) (h1 : x ≤ 9000000000000000000) : wrap64 x = x := by unfold wrap64; omega

theorem cmr_shown (a d : Int) : clock_Shown.f a d = chargeparkref15_Shown.f a d := by
  unfold clock_Shown.f chargeparkref15_Shown.f clock_isTicks_int.f chargeparkref15_Ticks.f clock_rate_down.f
  simp only [Option.bind_some]

theorem cmr_wait (a : Int) : clock_Wait.f a = chargeparkref15_Wait.f a := by
  unfold clock_Wait.f Go.Proofs.Ytfkehboecnoaiaa.ClockExt.waitF chargeparkref15_Wait.f chargeparkref15_Ticks.f
  by_cases h0 : 0 ≤ a
  · rw [if_pos (show a ≥ 0 from h0)]
    simp only [Option.bind_some, decide_eq_true_eq]
    by_cases h1 : a ≤ 1000000
    · rw [if_pos ⟨h0, h1⟩, if_pos h1, cmr_wrap (x := a * 1000000) (by omega) (by omega), cmr_wrap (x := a * 1000000 + 999799) (by omega) (by omega), Int.tdiv_eq_ediv_of_nonneg (by omega), cmr_wrap (by omega) (by omega)]
    · rw [if_neg (by omega), if_neg h1]
  · rw [if_neg (show ¬ a ≥ 0 by omega), if_neg (by omega)]
    simp

theorem cmr_early (a : Int) : clock_Early.f a = chargeparkref15_Early.f a := by
  unfold clock_Early.f Go.Proofs.Ytfkehboecnoaiaa.ClockExt.earlyF chargeparkref15_Early.f chargeparkref15_Ticks.f
  by_cases h0 : 0 ≤ a
  · rw [if_pos (show a ≥ 0 from h0)]
    simp only [Option.bind_some, decide_eq_true_eq]
    by_cases h1 : a ≤ 1000000
    · rw [if_pos ⟨h0, h1⟩, if_pos h1]
      by_cases h2 : a = 0
      · rw [if_pos h2, if_pos h2]
      · rw [if_neg h2, if_neg h2, cmr_wrap (x := a - 1) (by omega) (by omega), cmr_wrap (x := (a - 1) * 1000000) (by omega) (by omega), Int.tdiv_eq_ediv_of_nonneg (by omega), cmr_wrap (x := (a - 1) * 1000000 / 1000200) (by omega) (by omega), cmr_wrap (by omega) (by omega)]
    · rw [if_neg (by omega), if_neg h1]
  · rw [if_neg (show ¬ a ≥ 0 by omega), if_neg (by omega)]
    simp

theorem cmr_some (a d : Int) : (∃ r, chargeparkref15_Shown.f a d = some r) ∧ (∃ r, chargeparkref15_Wait.f a = some r) ∧ ∃ r, chargeparkref15_Early.f a = some r := by
  unfold chargeparkref15_Shown.f chargeparkref15_Wait.f chargeparkref15_Early.f chargeparkref15_Ticks.f
  refine ⟨?_, ?_, ?_⟩ <;> (by_cases h : a ≥ 0 <;> simp only [h, if_true, if_false, Option.bind_some] <;> repeat' split) <;> exact ⟨_, rfl⟩

theorem ClockMatchesReference : chargeparklaw15_ClockMatchesReference.Pure := by
  intro a d _ _
  unfold chargeparklaw15_ClockMatchesReference.f
  obtain ⟨⟨r, hr⟩, ⟨s, hs⟩, t, ht⟩ := cmr_some a d
  rw [cmr_head, cmr_shown, cmr_wait, cmr_early, hr, hs, ht]
  simp

end Go.Proofs.Ytfkehboecnoaiaa.Pure
