/-
  If a clock may have counted some ticks (what it shows, or 1 more), at least Early of them have passed; and what the fastest clock counts at most while Early ticks pass is at least the ticks. No condition.
-/
import Derived.Test.YtfkehboecnoaiaaPClockEarlyx1
namespace Go.Proofs.Ytfkehboecnoaiaa.Pure
open Go.RowKit Go.Proofs.Ytfkehboecnoaiaa.PClockEarly Go.Proofs.YtfkehboecnoaiaaW.PrintWords Go.Proofs.YtfkehboecnoaiaaW.PrintLast

theorem ck_head : chargeparklaw15_head.f = some true := by decide +kernel

theorem ck_wrap {x : Int} (h0 : -9000000000000000000 ≤ x) (h1 : x ≤ 9000000000000000000) : wrap64 x = x := by unfold wrap64; omega

theorem ck_ticks (a : Int) : chargeparklaw15_ticks.f a = some (decide (0 ≤ a ∧ a ≤ 1000000)) := by
  unfold chargeparklaw15_ticks.f
  by_cases h : a ≥ 0
  · rw [if_pos h]; simp [show (0 : Int) ≤ a from h]
  · rw [if_neg h]; simp [show ¬ (0 : Int) ≤ a from h]

theorem ck_drift (a : Int) : chargeparklaw15_drift.f a = some (decide (-200 ≤ a ∧ a ≤ 200)) := by
  unfold chargeparklaw15_drift.f
  by_cases h : a ≥ -200
  · rw [if_pos h]; simp [show (-200 : Int) ≤ a from h]
  · rw [if_neg h]; simp [show ¬ (-200 : Int) ≤ a from h]

/-- What n times d is bounded by. -/
theorem ck_prod {n d : Int} (h0 : 0 ≤ n) (h2 : -200 ≤ d) (h3 : d ≤ 200) : -200 * n ≤ n * d ∧ n * d ≤ 200 * n := by
  constructor
  · rw [Int.mul_comm]; exact Int.mul_le_mul_of_nonneg_left h2 h0
  · rw [Int.mul_comm 200]; exact Int.mul_le_mul_of_nonneg_left h3 h0

theorem ck_shown {n d : Int} (h0 : 0 ≤ n) (h1 : n ≤ 1000000) (h2 : -200 ≤ d) (h3 : d ≤ 200) : clock_Shown.f n d = some ((1000000 * n + n * d) / 1000000, 0) := by
  obtain ⟨p0, p1⟩ := ck_prod h0 h2 h3
  unfold clock_Shown.f clock_isTicks_int.f clock_rate_down.f
  rw [if_pos (show n ≥ 0 from h0)]
  simp only [Option.bind_some, decide_eq_true_eq]
  rw [if_pos h1, if_neg (by omega), if_neg (by omega), ck_wrap (x := 1000000 + d) (by omega) (by omega), show n * (1000000 + d) = 1000000 * n + n * d by rw [Int.mul_add]; omega]
  generalize n * d = p at *
  rw [ck_wrap (x := 1000000 * n + p) (by omega) (by omega), Int.tdiv_eq_ediv_of_nonneg (by omega), ck_wrap (by omega) (by omega)]

theorem ck_shown_bad {n d : Int} (h : n < 0 ∨ 1000000 < n) : clock_Shown.f n d = some (0, 1) := by
  unfold clock_Shown.f clock_isTicks_int.f
  by_cases h0 : n ≥ 0
  · rw [if_pos h0]; simp only [Option.bind_some, decide_eq_true_eq]; rw [if_neg (by omega)]
  · rw [if_neg h0]; simp

theorem ck_wait {n : Int} (h0 : 0 ≤ n) (h1 : n ≤ 1000000) : clock_Wait.f n = some ((n * 1000000 + 999799) / 999800, 0) := by
  unfold clock_Wait.f Go.Proofs.Ytfkehboecnoaiaa.ClockExt.waitF; rw [if_pos ⟨h0, h1⟩]

theorem ck_early {n : Int} (h0 : 0 ≤ n) (h1 : n ≤ 1000000) : clock_Early.f n = some (if n = 0 then 0 else (n - 1) * 1000000 / 1000200 + 1, 0) := by
  unfold clock_Early.f Go.Proofs.Ytfkehboecnoaiaa.ClockExt.earlyF; rw [if_pos ⟨h0, h1⟩]

theorem ck_early_num {n : Int} (h0 : 0 ≤ n) (h1 : n ≤ 1000000) : ∃ m, clock_Early.f n = some (m, 0) ∧ 0 ≤ m ∧ m ≤ 1000000 ∧ (n = 0 → m = 0) ∧ (0 < n → 1 ≤ m ∧ (m - 1) * 1000200 ≤ (n - 1) * 1000000 ∧ (n - 1) * 1000000 < m * 1000200) := by
  refine ⟨_, ck_early h0 h1, ?_⟩
  split <;> omega

theorem ck_mn (a b : Int) : mn a b = if a ≤ b then a else b := by unfold mn; split <;> (split <;> omega)

theorem ck_final {up : Bool} (e1 m k e3 p n : Int) (hup : up = true) (he1 : e1 = 0) (he3 : e3 = 0) (hk : k ≤ p) (hm : 0 ≤ m) (hm1 : m ≤ 1000000) (hn0 : 0 ≤ n) (hz : n = 0 → m = 0) (hp : 0 < n → 1 ≤ m ∧ (m - 1) * 1000200 ≤ (n - 1) * 1000000 ∧ (n - 1) * 1000000 < m * 1000200) :
    (if up = true then (if e1 = 0 then (if (0 : Int) = 0 then (if e3 = 0 then (if k ≤ p then (if (wrap64 (Int.tdiv (wrap64 ((wrap64 (m * 1000200)) + 999999)) 1000000)) ≥ n then (if m = 0 then (some true) else (some (decide ((wrap64 (Int.tdiv (wrap64 ((wrap64 ((wrap64 (m - 1)) * 1000200)) + 999999)) 1000000)) < n)))) else (some false)) else (some false)) else (some false)) else (some false)) else (some false)) else (some false)) = some true := by
  rw [if_pos hup, if_pos he1, if_pos rfl, if_pos he3, if_pos hk, ck_wrap (x := m * 1000200) (by omega) (by omega), ck_wrap (x := m * 1000200 + 999999) (by omega) (by omega), Int.tdiv_eq_ediv_of_nonneg (by omega), ck_wrap (x := (m * 1000200 + 999999) / 1000000) (by omega) (by omega), if_pos (by omega)]
  by_cases h : m = 0
  · rw [if_pos h]
  · rw [if_neg h, ck_wrap (x := m - 1) (by omega) (by omega), ck_wrap (x := (m - 1) * 1000200) (by omega) (by omega), ck_wrap (x := (m - 1) * 1000200 + 999999) (by omega) (by omega), Int.tdiv_eq_ediv_of_nonneg (by omega), ck_wrap (x := ((m - 1) * 1000200 + 999999) / 1000000) (by omega) (by omega)]
    exact congrArg some (decide_eq_true (by omega))

theorem ClockEarly : chargeparklaw15_ClockEarly.Pure := by
  intro p d n _ _ _
  refine ⟨1, ?_⟩
  unfold chargeparklaw15_ClockEarly.f
  rw [ck_head, ck_ticks, ck_drift, ck_ticks]
  simp only [Option.bind_some, decide_eq_true_eq]
  by_cases hp : 0 ≤ p ∧ p ≤ 1000000
  · by_cases hd : -200 ≤ d ∧ d ≤ 200
    · by_cases hn : 0 ≤ n ∧ n ≤ 1000000
      · rw [if_pos hp, if_pos hd, decide_eq_true hn]
        obtain ⟨p0, p1⟩ := hp
        obtain ⟨d0, d1⟩ := hd
        obtain ⟨n0, n1⟩ := hn
        obtain ⟨q0, q1⟩ := ck_prod p0 d0 d1
        obtain ⟨m, hm, m0, m1, m2, m3⟩ := ck_early_num n0 n1
        simp only [chargeparklaw15_ClockEarly.j0]
        rw [if_neg (by decide), ck_shown p0 p1 d0 d1, hm, ck_wrap (x := 1000000 + d) (by omega) (by omega), show p * (1000000 + d) = 1000000 * p + p * d by rw [Int.mul_add]; omega]
        simp only [Option.bind_some]
        generalize p * d = q at *
        rw [ck_wrap (x := 1000000 * p + q) (by omega) (by omega), Int.tmod_eq_emod_of_nonneg (by omega), ck_wrap (x := (1000000 * p + q) / 1000000 + 1) (by omega) (by omega)]
        obtain ⟨k, hk, k0, k1, k2, k3⟩ := ck_early_num (n := mn ((1000000 * p + q) / 1000000 + 1) 1000000) (by rw [ck_mn]; split <;> omega) (by rw [ck_mn]; split <;> omega)
        obtain ⟨l, hl, l0, l1, l2, l3⟩ := ck_early_num (n := mn ((1000000 * p + q) / 1000000) 1000000) (by rw [ck_mn]; split <;> omega) (by rw [ck_mn]; split <;> omega)
        rw [ck_mn] at k2 k3 l2 l3
        by_cases hr : (1000000 * p + q) % 1000000 > 0
        · rw [if_pos hr, hk]
          simp only [Option.bind_some]
          exact ck_final 0 m k 0 p n rfl rfl rfl (by clear hk hl hm m2 m3 l2 l3; split at k3 <;> omega) m0 m1 n0 m2 m3
        · rw [if_neg hr, hl]
          simp only [Option.bind_some]
          exact ck_final 0 m l 0 p n rfl rfl rfl (by clear hk hl hm m2 m3 k2 k3; split at l3 <;> split at l2 <;> omega) m0 m1 n0 m2 m3
      · rw [if_pos hp, if_pos hd, decide_eq_false hn]
        simp only [chargeparklaw15_ClockEarly.j0]
        rfl
    · rw [if_pos hp, if_neg hd]
      simp only [chargeparklaw15_ClockEarly.j0]
      rfl
  · rw [if_neg hp]
    simp only [chargeparklaw15_ClockEarly.j0]
    rfl

end Go.Proofs.Ytfkehboecnoaiaa.Pure
