/-
  Two stretches of ticks together are counted as at least the sum of both, and at most 1 more; and waiting for one number of ticks after another one takes as long as waiting for their sum, or one tick more. No condition.
-/
import Derived.Test.YtfkehboecnoaiaaPClockPartsx1
namespace Go.Proofs.Ytfkehboecnoaiaa.Pure
open Go.RowKit Go.Proofs.Ytfkehboecnoaiaa.PClockParts Go.Proofs.YtfkehboecnoaiaaW.PrintWords Go.Proofs.YtfkehboecnoaiaaW.PrintLast

theorem ck_head : chargeparklaw15_head.f = some true := by decide +kernel

theorem ck_wrap {x : Int} (h0 : -9000000000000000000 ≤ x) (h1 : x ≤ 9000000000000000000) : wrap64 x = x := by unfold wrap64; omega

theorem ck_ticks (a : Int) : chargeparklaw15_ticks.f a = some (decide (0 ≤ a ∧ a ≤ 1000000)) := by
  unfold chargeparklaw15_ticks.f
  by_cases h : a ≥ 0
  · rw [if_pos h]; simp [show (0 : Int) ≤ a from h]
  · rw [if_neg h]; simp [show ¬ (0 : Int) ≤ a from h]

theorem ck_drift (a : Int) : chargeparklaw15_drift.f a = some (decide (-200 ≤ a ∧ a ≤ 200)) := by
  unfold chargeparklaw15_drift.f
  by_cases h : a ≥ -200
  · rw [if_pos h]; simp [show (-200 : Int) ≤ a from h]
  · rw [if_neg h]; simp [show ¬ (-200 : Int) ≤ a from h]

/-- What n times d is bounded by. -/
theorem ck_prod {n d : Int} (h0 : 0 ≤ n) (h2 : -200 ≤ d) (h3 : d ≤ 200) : -200 * n ≤ n * d ∧ n * d ≤ 200 * n := by
  constructor
  · rw [Int.mul_comm]; exact Int.mul_le_mul_of_nonneg_left h2 h0
  · rw [Int.mul_comm 200]; exact Int.mul_le_mul_of_nonneg_left h3 h0

theorem ck_shown {n d : Int} (h0 : 0 ≤ n) (h1 : n ≤ 1000000) (h2 : -200 ≤ d) (h3 : d ≤ 200) : clock_Shown.f n d = some ((1000000 * n + n * d) / 1000000, 0) := by
  obtain ⟨p0, p1⟩ := ck_prod h0 h2 h3
  unfold clock_Shown.f clock_isTicks_int.f clock_rate_down.f
  rw [if_pos (show n ≥ 0 from h0)]
  simp only [Option.bind_some, decide_eq_true_eq]
  rw [if_pos h1, if_neg (by omega), if_neg (by omega), ck_wrap (x := 1000000 + d) (by omega) (by omega), show n * (1000000 + d) = 1000000 * n + n * d by rw [Int.mul_add]; omega]
  generalize n * d = p at *
  rw [ck_wrap (x := 1000000 * n + p) (by omega) (by omega), Int.tdiv_eq_ediv_of_nonneg (by omega), ck_wrap (by omega) (by omega)]

theorem ck_shown_bad {n d : Int} (h : n < 0 ∨ 1000000 < n) : clock_Shown.f n d = some (0, 1) := by
  unfold clock_Shown.f clock_isTicks_int.f
  by_cases h0 : n ≥ 0
  · rw [if_pos h0]; simp only [Option.bind_some, decide_eq_true_eq]; rw [if_neg (by omega)]
  · rw [if_neg h0]; simp

theorem ck_wait {n : Int} (h0 : 0 ≤ n) (h1 : n ≤ 1000000) : clock_Wait.f n = some ((n * 1000000 + 999799) / 999800, 0) := by
  unfold clock_Wait.f Go.Proofs.Ytfkehboecnoaiaa.ClockExt.waitF; rw [if_pos ⟨h0, h1⟩]

theorem ck_early {n : Int} (h0 : 0 ≤ n) (h1 : n ≤ 1000000) : clock_Early.f n = some (if n = 0 then 0 else (n - 1) * 1000000 / 1000200 + 1, 0) := by
  unfold clock_Early.f Go.Proofs.Ytfkehboecnoaiaa.ClockExt.earlyF; rw [if_pos ⟨h0, h1⟩]

theorem ClockParts : chargeparklaw15_ClockParts.Pure := by
  intro n m d _ _ _
  refine ⟨1, ?_⟩
  unfold chargeparklaw15_ClockParts.f
  rw [ck_head, ck_ticks, ck_ticks, ck_ticks, ck_drift]
  simp only [Option.bind_some, decide_eq_true_eq]
  by_cases hn : 0 ≤ n ∧ n ≤ 1000000
  · by_cases hm : 0 ≤ m ∧ m ≤ 1000000
    · rw [if_pos hn, if_pos hm, ck_wrap (x := n + m) (by omega) (by omega)]
      by_cases hnm : 0 ≤ n + m ∧ n + m ≤ 1000000
      · by_cases hd : -200 ≤ d ∧ d ≤ 200
        · rw [if_pos hnm, decide_eq_true hd]
          obtain ⟨n0, n1⟩ := hn
          obtain ⟨m0, m1⟩ := hm
          obtain ⟨d0, d1⟩ := hd
          simp only [chargeparklaw15_ClockParts.j0]
          rw [if_neg (by decide), ck_wrap (x := n + m) (by omega) (by omega), ck_shown n0 n1 d0 d1, ck_shown m0 m1 d0 d1, ck_shown hnm.1 hnm.2 d0 d1, ck_wait n0 n1, ck_wait m0 m1, ck_wait hnm.1 hnm.2]
          simp only [Option.bind_some, if_true]
          obtain ⟨h0, h1⟩ := ck_prod n0 d0 d1
          obtain ⟨h2, h3⟩ := ck_prod m0 d0 d1
          rw [show (n + m) * d = n * d + m * d from Int.add_mul _ _ _]
          generalize n * d = p at *
          generalize m * d = q at *
          rw [ck_wrap (x := (1000000 * (n + m) + (p + q)) / 1000000 - (1000000 * n + p) / 1000000) (by omega) (by omega), ck_wrap (x := (1000000 * (n + m) + (p + q)) / 1000000 - (1000000 * n + p) / 1000000 - (1000000 * m + q) / 1000000) (by omega) (by omega), ck_wrap (x := (n * 1000000 + 999799) / 999800 + (m * 1000000 + 999799) / 999800) (by omega) (by omega), ck_wrap (x := (n * 1000000 + 999799) / 999800 + (m * 1000000 + 999799) / 999800 - ((n + m) * 1000000 + 999799) / 999800) (by omega) (by omega)]
          rw [if_pos (by omega), if_pos (by omega), if_pos (by omega)]
          exact congrArg some (decide_eq_true (by omega))
        · rw [if_pos hnm, decide_eq_false hd]
          simp only [chargeparklaw15_ClockParts.j0]
          rfl
      · rw [if_neg hnm]
        simp only [chargeparklaw15_ClockParts.j0]
        rfl
    · rw [if_pos hn, if_neg hm]
      simp only [chargeparklaw15_ClockParts.j0]
      rfl
  · rw [if_neg hn]
    simp only [chargeparklaw15_ClockParts.j0]
    rfl

end Go.Proofs.Ytfkehboecnoaiaa.Pure
