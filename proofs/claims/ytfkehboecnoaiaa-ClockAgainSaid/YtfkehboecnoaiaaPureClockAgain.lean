/-
  A clock that has surely counted what it shows with the least drift after some ticks has waited for no more than them; and the time that is surely over when Wait of some ticks have been counted is at least the ticks. No condition.
-/
import Derived.Test.YtfkehboecnoaiaaPClockAgainx1
namespace Go.Proofs.Ytfkehboecnoaiaa.Pure
open Go.RowKit Go.Proofs.Ytfkehboecnoaiaa.PClockAgain Go.Proofs.YtfkehboecnoaiaaW.PrintWords Go.Proofs.YtfkehboecnoaiaaW.PrintLast

theorem ck_head : chargeparklaw15_head.f = some true := by decide +kernel

theorem ck_wrap {x : Int} (h0 : -9000000000000000000 ≤ x) (h1 : x ≤ 9000000000000000000) : wrap64 x = x := by unfold wrap64; omega

theorem ck_ticks (a : Int) : chargeparklaw15_ticks.f a = some (decide (0 ≤ a ∧ a ≤ 1000000)) := by
  unfold chargeparklaw15_ticks.f
  by_cases h : a ≥ 0
  · rw [if_pos h]; simp [show (0 : Int) ≤ a from h]
  · rw [if_neg h]; simp [show ¬ (0 : Int) ≤ a from h]

/-- What n times d is bounded by. -/
theorem ck_prod {n d : Int} (h0 : 0 ≤ n) (h2 : -200 ≤ d) (h3 : d ≤ 200) : -200 * n ≤ n * d ∧ n * d ≤ 200 * n := by
  constructor
  · rw [Int.mul_comm]; exact Int.mul_le_mul_of_nonneg_left h2 h0
  · rw [Int.mul_comm 200]; exact Int.mul_le_mul_of_nonneg_left h3 h0

theorem ck_shown {n d : Int} (h0 : 0 ≤ n) (h1 : n ≤ 1000000) (h2 : -200 ≤ d) (h3 : d ≤ 200) : clock_Shown.f n d = some ((1000000 * n + n * d) / 1000000, 0) := by
  obtain ⟨p0, p1⟩ := ck_prod h0 h2 h3
  unfold clock_Shown.f clock_isTicks_int.f clock_rate_down.f
  rw [if_pos (show n ≥ 0 from h0)]
  simp only [Option.bind_some, decide_eq_true_eq]
  rw [if_pos h1, if_neg (by omega), if_neg (by omega), ck_wrap (x := 1000000 + d) (by omega) (by omega), show n * (1000000 + d) = 1000000 * n + n * d by rw [Int.mul_add]; omega]
  generalize n * d = p at *
  rw [ck_wrap (x := 1000000 * n + p) (by omega) (by omega), Int.tdiv_eq_ediv_of_nonneg (by omega), ck_wrap (by omega) (by omega)]

theorem ck_shown_bad {n d : Int} (h : n < 0 ∨ 1000000 < n) : clock_Shown.f n d = some (0, 1) := by
  unfold clock_Shown.f clock_isTicks_int.f
  by_cases h0 : n ≥ 0
  · rw [if_pos h0]; simp only [Option.bind_some, decide_eq_true_eq]; rw [if_neg (by omega)]
  · rw [if_neg h0]; simp

theorem ck_wait {n : Int} (h0 : 0 ≤ n) (h1 : n ≤ 1000000) : clock_Wait.f n = some ((n * 1000000 + 999799) / 999800, 0) := by
  unfold clock_Wait.f Go.Proofs.Ytfkehboecnoaiaa.ClockExt.waitF; rw [if_pos ⟨h0, h1⟩]

theorem ck_early {n : Int} (h0 : 0 ≤ n) (h1 : n ≤ 1000000) : clock_Early.f n = some (if n = 0 then 0 else (n - 1) * 1000000 / 1000200 + 1, 0) := by
  unfold clock_Early.f Go.Proofs.Ytfkehboecnoaiaa.ClockExt.earlyF; rw [if_pos ⟨h0, h1⟩]

theorem ck_mn (a b : Int) : mn a b = if a ≤ b then a else b := by unfold mn; split <;> (split <;> omega)

theorem ClockAgain : chargeparklaw15_ClockAgain.Pure := by
  intro n _
  unfold chargeparklaw15_ClockAgain.f
  rw [ck_head, ck_ticks]
  simp only [Option.bind_some, decide_eq_true_eq]
  by_cases hn : 0 ≤ n ∧ n ≤ 1000000
  · obtain ⟨n0, n1⟩ := hn
    rw [if_pos ⟨n0, n1⟩, ck_shown n0 n1 (by omega) (by omega), ck_wait n0 n1]
    simp only [Option.bind_some]
    rw [ck_wait (n := (1000000 * n + n * -200) / 1000000) (by omega) (by omega)]
    simp only [Option.bind_some]
    have hmn : 0 ≤ mn ((n * 1000000 + 999799) / 999800) 1000000 ∧ mn ((n * 1000000 + 999799) / 999800) 1000000 ≤ 1000000 := by rw [ck_mn]; split <;> omega
    rw [ck_early hmn.1 hmn.2]
    simp only [Option.bind_some, if_true]
    rw [if_pos (by omega)]
    by_cases hv : (n * 1000000 + 999799) / 999800 > 1000000
    · rw [if_pos hv]
    · rw [if_neg hv, ck_mn, if_pos (show (n * 1000000 + 999799) / 999800 ≤ 1000000 by omega)]
      exact congrArg some (decide_eq_true (by split <;> omega))
  · rw [if_neg hn]

end Go.Proofs.Ytfkehboecnoaiaa.Pure
