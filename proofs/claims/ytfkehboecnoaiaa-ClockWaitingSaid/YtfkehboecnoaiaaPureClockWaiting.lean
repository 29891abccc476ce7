/-
  After Wait of some ticks, a clock with any drift shows at least them; and the slowest clock does not one tick earlier, unless nothing is waited for. No condition.
-/
import Derived.Test.YtfkehboecnoaiaaPClockWaitingx1
namespace Go.Proofs.Ytfkehboecnoaiaa.Pure
open Go.RowKit Go.Proofs.Ytfkehboecnoaiaa.PClockWaiting Go.Proofs.YtfkehboecnoaiaaW.PrintWords Go.Proofs.YtfkehboecnoaiaaW.PrintLast

theorem ck_head : chargeparklaw15_head.f = some true := by decide +kernel

theorem ck_wrap {x : Int} (h0 : -9000000000000000000 ≤ x) (h1 : x ≤ 9000000000000000000) : wrap64 x = x := by unfold wrap64; omega

theorem ck_ticks (a : Int) : chargeparklaw15_ticks.f a = some (decide (0 ≤ a ∧ a ≤ 1000000)) := by
  unfold chargeparklaw15_ticks.f
  by_cases h : a ≥ 0
  · rw [if_pos h]; simp [show (0 : Int) ≤ a from h]
  · rw [if_neg h]; simp [show ¬ (0 : Int) ≤ a from h]

theorem ck_drift (a : Int) : chargeparklaw15_drift.f a = some (decide (-200 ≤ a ∧ a ≤ 200)) := by
  unfold chargeparklaw15_drift.f
  by_cases h : a ≥ -200
  · rw [if_pos h]; simp [show (-200 : Int) ≤ a from h]
  · rw [if_neg h]; simp [show ¬ (-200 : Int) ≤ a from h]

/-- What n times d is bounded by. -/
theorem ck_prod {n d : Int} (h0 : 0 ≤ n) (h2 : -200 ≤ d) (h3 : d ≤ 200) : -200 * n ≤ n * d ∧ n * d ≤ 200 * n := by
  constructor
  · rw [Int.mul_comm]; exact Int.mul_le_mul_of_nonneg_left h2 h0
  · rw [Int.mul_comm 200]; exact Int.mul_le_mul_of_nonneg_left h3 h0

theorem ck_shown {n d : Int} (h0 : 0 ≤ n) (h1 : n ≤ 1000000) (h2 : -200 ≤ d) (h3 : d ≤ 200) : clock_Shown.f n d = some ((1000000 * n + n * d) / 1000000, 0) := by
  obtain ⟨p0, p1⟩ := ck_prod h0 h2 h3
  unfold clock_Shown.f clock_isTicks_int.f clock_rate_down.f
  rw [if_pos (show n ≥ 0 from h0)]
  simp only [Option.bind_some, decide_eq_true_eq]
  rw [if_pos h1, if_neg (by omega), if_neg (by omega), ck_wrap (x := 1000000 + d) (by omega) (by omega), show n * (1000000 + d) = 1000000 * n + n * d by rw [Int.mul_add]; omega]
  generalize n * d = p at *
  rw [ck_wrap (x := 1000000 * n + p) (by omega) (by omega), Int.tdiv_eq_ediv_of_nonneg (by omega), ck_wrap (by omega) (by omega)]

theorem ck_shown_bad {n d : Int} (h : n < 0 ∨ 1000000 < n) : clock_Shown.f n d = some (0, 1) := by
  unfold clock_Shown.f clock_isTicks_int.f
  by_cases h0 : n ≥ 0
  · rw [if_pos h0]; simp only [Option.bind_some, decide_eq_true_eq]; rw [if_neg (by omega)]
  · rw [if_neg h0]; simp

theorem ck_wait {n : Int} (h0 : 0 ≤ n) (h1 : n ≤ 1000000) : clock_Wait.f n = some ((n * 1000000 + 999799) / 999800, 0) := by
  unfold clock_Wait.f Go.Proofs.Ytfkehboecnoaiaa.ClockExt.waitF; rw [if_pos ⟨h0, h1⟩]

theorem ck_early {n : Int} (h0 : 0 ≤ n) (h1 : n ≤ 1000000) : clock_Early.f n = some (if n = 0 then 0 else (n - 1) * 1000000 / 1000200 + 1, 0) := by
  unfold clock_Early.f Go.Proofs.Ytfkehboecnoaiaa.ClockExt.earlyF; rw [if_pos ⟨h0, h1⟩]

theorem ClockWaiting : chargeparklaw15_ClockWaiting.Pure := by
  intro n d _ _
  refine ⟨2, ?_⟩
  unfold chargeparklaw15_ClockWaiting.f
  rw [ck_head, ck_ticks, ck_drift]
  simp only [Option.bind_some, decide_eq_true_eq]
  by_cases hn : 0 ≤ n ∧ n ≤ 1000000
  · by_cases hd : -200 ≤ d ∧ d ≤ 200
    · obtain ⟨n0, n1⟩ := hn
      obtain ⟨d0, d1⟩ := hd
      rw [if_pos ⟨n0, n1⟩, decide_eq_true ⟨d0, d1⟩]
      simp only [chargeparklaw15_ClockWaiting.j0]
      rw [if_neg (by decide), ck_wait n0 n1]
      simp only [Option.bind_some, if_true]
      obtain ⟨w, hw⟩ : ∃ w, w = (n * 1000000 + 999799) / 999800 := ⟨_, rfl⟩
      rw [← hw, decide_eq_false (show ¬ w < n by omega)]
      have w0 : 0 ≤ w := by omega
      have w1 : w ≤ 1000201 := by omega
      simp only [chargeparklaw15_ClockWaiting.j1]
      rw [if_neg (by decide), ck_wrap (x := w - 1) (by omega) (by omega)]
      obtain ⟨p0, p1⟩ := ck_prod w0 d0 d1
      have h2 : (∃ s, clock_Shown.f w d = some (s, 0) ∧ s ≥ n) ∨ (∃ s, clock_Shown.f w d = some (s, 1) ∧ w > 1000000) := by
        by_cases hw1 : w ≤ 1000000
        · exact .inl ⟨_, ck_shown w0 hw1 d0 d1, by generalize w * d = p at *; omega⟩
        · exact .inr ⟨_, ck_shown_bad (.inr (by omega)), by omega⟩
      have h3 : (∃ s, clock_Shown.f (w - 1) (-200) = some (s, 0) ∧ s < n) ∨ (∃ s, clock_Shown.f (w - 1) (-200) = some (s, 1) ∧ (w - 1 > 1000000 ∨ (w = 0 ∧ n = 0))) := by
        by_cases hw0 : w = 0
        · exact .inr ⟨_, ck_shown_bad (.inl (by omega)), .inr ⟨hw0, by omega⟩⟩
        · by_cases hw1 : w - 1 ≤ 1000000
          · exact .inl ⟨_, ck_shown (by omega) hw1 (by omega) (by omega), by omega⟩
          · exact .inr ⟨_, ck_shown_bad (.inr (by omega)), .inl (by omega)⟩
      clear hw
      rcases h2 with ⟨s, hs, s0⟩ | ⟨s, hs, s0⟩ <;> rcases h3 with ⟨t, ht, t0⟩ | ⟨t, ht, t0⟩ <;> rw [hs, ht] <;> simp only [Option.bind_some, if_true]
      all_goals (repeat' split)
      all_goals first | rfl | omega | (exact congrArg some (decide_eq_true (by omega)))
    · rw [if_pos hn, decide_eq_false hd]
      simp only [chargeparklaw15_ClockWaiting.j0]
      rfl
  · rw [if_neg hn]
    simp only [chargeparklaw15_ClockWaiting.j0]
    rfl

end Go.Proofs.Ytfkehboecnoaiaa.Pure
