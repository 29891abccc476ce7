/-
  The walk of package clock: what clock.Wait and clock.Early compute, in closed form, for every number of ticks.
-/
import Derived.Test.YtpngiddelhcepaaKit
namespace Go.Proofs.Ytpngiddelhcepaa.ClockWait
open Go.RowKit Go.Proofs.Ytpngiddelhcepaa.Kit
set_option linter.unusedVariables false
set_option linter.unusedSimpArgs false

/-- What rate.down gives. -/
theorem down_c (r t : Int) (w : World) (h0 : 0 ≤ r) (h1 : r ≤ 2000000) (h2 : 0 ≤ t) (h3 : t ≤ 4000000) :
    Calls Try.prog 34 #[.int .i64 r, .int .i64 t] w fun e w' => e = .returned (.int .i64 (t * r / 1000000)) ∧ w = w' := by
  have hm : 0 ≤ t * r := Int.mul_nonneg h2 h0
  have hm2 : t * r ≤ 4000000 * 2000000 := by
    calc t * r ≤ 4000000 * r := Int.mul_le_mul_of_nonneg_right h3 h0
      _ ≤ 4000000 * 2000000 := by omega
  go_enter Try.func34, Try.ntmps34
  go_wp2
  go_ret
  refine ⟨ret_int ?_, rfl⟩
  generalize t * r = p at *
  first | rfl | (unfold wrap64; rw [Int.tdiv_eq_ediv_of_nonneg (by omega)]; omega)

/-- The closure of least: is the count of n at least the ticks. -/
theorem closure_c (g : Nat) (F : Int → Int) (r t n : Int) (bc br bt : Nat) (W : World)
    (hg : ∀ W, Calls Try.prog g #[.int .i64 r, .int .i64 n] W fun e w' => e = .returned (.int .i64 (F n)) ∧ ∃ m, w' = W.drewN m)
    (eg : ∀ args w, (callFunc g args).run Try.prog w = .ok (.enter g args) w)
    (c1 : W.cell? ⟨bc, 0, none⟩ = some (.func (.func g) #[] #[])) (c2 : W.cell? ⟨br, 0, none⟩ = some (.int .i64 r)) (c3 : W.cell? ⟨bt, 0, none⟩ = some (.int .i64 t)) :
    Calls Try.prog 42 #[.int .i64 n, .pointer (some ⟨bc, 0, none⟩), .pointer (some ⟨br, 0, none⟩), .pointer (some ⟨bt, 0, none⟩)] W fun e w' => e = .returned (.bool (decide (t ≤ F n))) ∧ ∃ q, w' = W.drewN q := by
  have hg' := Lib.hid hg
  clear hg
  go_enter Try.func42, Try.ntmps42
  go_wp2
  go_quiet ((go_at_fn g; exact Calls.quiet_of (hg'.out _)))
  go_wp2
  go_ret
  exact ⟨rfl, _, rfl⟩

/-- sort.Search over a monotone predicate: the first place at which it holds, and nothing that lay below is turned. -/
theorem search_c (g : Nat) (cb : Array Value) (n : Nat) (p : Nat → Bool) (r : Nat) (w : World) (hsz : n < 4611686018427387904)
    (eg : ∀ args w, (callFunc g args).run Try.prog w = .ok (.enter g args) w)
    (hf : ∀ (W : World) (i : Nat), Below w.heap.size w W → i < n → Calls Try.prog g (#[.int .i64 i] ++ cb) W fun e w' => e = .returned (.bool (p i)) ∧ Below W.heap.size W w')
    (hr : r ≤ n) (hlow : ∀ i, i < r → p i = false) (hhigh : ∀ i, r ≤ i → i < n → p i = true) :
    Calls Try.prog 41 #[.int .i64 n, .func (.func g) #[] cb] w fun e w' => e = .returned (.int .i64 r) ∧ Below w.heap.size w w' := by
  have HF := Lib.hid hf
  have HL := Lib.hid hlow
  have HH := Lib.hid hhigh
  clear hf hlow hhigh
  go_enter Try.func41, Try.ntmps41
  go_wp2
  go_loopg [5, 6] n (fun kx s5 s6 wr => ∃ (lo hi : Nat), s5 = .int .i64 lo ∧ s6 = .int .i64 hi ∧ lo ≤ r ∧ r ≤ hi ∧ hi ≤ n ∧ hi - lo ≤ kx ∧ Below w.heap.size w wr)
  case atStart => exact ⟨0, n, rfl, rfl, Nat.zero_le _, hr, Nat.le_refl _, by omega, Below.refl _ _⟩
  case round =>
    obtain ⟨lo, hi, rfl, rfl, hlr, hrh, hin, hg, hb⟩ := hrel
    by_cases hlt : lo < hi
    · have hc := HF.out wr ((lo + hi) / 2) hb (by omega)
      rw [show (((lo + hi) / 2 : Nat) : Int) = ((lo : Int) + (hi : Int)) / 2 by omega] at hc
      cases hp : p ((lo + hi) / 2) <;> rw [hp] at hc
      · have hlow2 : (lo + hi) / 2 < r := by
          rcases Nat.lt_or_ge ((lo + hi) / 2) r with h | h
          · exact h
          · rw [HH.out _ h (by omega)] at hp; cases hp
        clear hp
        go_wp2_with (go_at_fn g; refine hc.mono ?_; rintro e w' ⟨rfl, hb'⟩)
        go_roundg (hi - ((lo + hi) / 2 + 1))
        case measure => omega
        case rel => exact ⟨(lo + hi) / 2 + 1, hi, by rw [show ((lo : Int) + (hi : Int)) / 2 + 1 = (((lo + hi) / 2 + 1 : Nat) : Int) by omega], rfl, by omega, hrh, hin, Nat.le_refl _, hb.trans (hb'.mono hb.size)⟩
      · have hhigh2 : r ≤ (lo + hi) / 2 := by
          rcases Nat.lt_or_ge ((lo + hi) / 2) r with h | h
          · rw [HL.out _ h] at hp; cases hp
          · exact h
        clear hp
        go_wp2_with (go_at_fn g; refine hc.mono ?_; rintro e w' ⟨rfl, hb'⟩)
        go_roundg ((lo + hi) / 2 - lo)
        case measure => omega
        case rel => exact ⟨lo, (lo + hi) / 2, rfl, by rw [show ((lo : Int) + (hi : Int)) / 2 = (((lo + hi) / 2 : Nat) : Int) by omega], hlr, hhigh2, by omega, Nat.le_refl _, hb.trans (hb'.mono hb.size)⟩
    · obtain rfl : hi = lo := by omega
      obtain rfl : r = hi := by omega
      go_wp2
      go_ret
      exact ⟨rfl, hb⟩

theorem isTicks_good (t : Int) (w : World) (h0 : 0 ≤ t) (h1 : t ≤ 1000000) :
    Calls Try.prog 35 #[.int .i64 t] w fun e w' => e = .returned (.bool true) ∧ w = w' := by
  have hd1 : decide (0 ≤ t) = true := decide_eq_true h0
  have hd2 : decide (t ≤ 1000000) = true := decide_eq_true h1
  go_enter Try.func35, Try.ntmps35
  go_wp2
  go_ret
  exact ⟨rfl, rfl⟩

/-- least, of a number that is no number of ticks. -/
theorem least_bad (g : Nat) (r t : Int) (w : World) (h : t < 0 ∨ 1000000 < t) :
    Calls Try.prog 33 #[.int .i64 r, .func (.func g) #[] #[], .int .i64 t] w fun e w' => e = .returned (.tuple #[.int .i64 0, .int .i64 1]) ∧ Below w.heap.size w w' := by
  rcases h with h | h
  · have h1 : decide (0 ≤ t) = false := decide_eq_false (by omega)
    go_enter Try.func33, Try.ntmps33
    go_wp2
    go_ret2
    exact ⟨rfl, (((Below.refl _ _).alloc (Nat.le_refl _) _).alloc (by simp) _).alloc (by simp; omega) _⟩
  · have h1 : decide (0 ≤ t) = true := decide_eq_true (by omega)
    have h2 : decide (t ≤ 1000000) = false := decide_eq_false (by omega)
    go_enter Try.func33, Try.ntmps33
    go_wp2
    go_ret2
    exact ⟨rfl, (((Below.refl _ _).alloc (Nat.le_refl _) _).alloc (by simp) _).alloc (by simp; omega) _⟩

/-- least, of a number of ticks: the first number at which the count is at least the ticks. -/
theorem least_good (g : Nat) (F : Int → Int) (r t : Int) (res : Nat) (w : World) (h0 : 0 ≤ t) (h1 : t ≤ 1000000)
    (hg : ∀ n W, 0 ≤ n → n ≤ 2000000 → Calls Try.prog g #[.int .i64 r, .int .i64 n] W fun e w' => e = .returned (.int .i64 (F n)) ∧ ∃ m, w' = W.drewN m)
    (eg : ∀ args w, (callFunc g args).run Try.prog w = .ok (.enter g args) w)
    (hr : res ≤ 2000000) (hlow : ∀ i : Nat, i < res → F i < t) (hhigh : ∀ i : Nat, res ≤ i → i < 2000000 → t ≤ F i) :
    Calls Try.prog 33 #[.int .i64 r, .func (.func g) #[] #[], .int .i64 t] w fun e w' => e = .returned (.tuple #[.int .i64 res, .int .i64 0]) ∧ Below w.heap.size w w' := by
  obtain ⟨W0, hW0⟩ : ∃ W0, W0 = ((w.alloc (.cells #[.int .i64 r] 60)).alloc (.cells #[.func (.func g) #[] #[]] 61)).alloc (.cells #[.int .i64 t] 3) := ⟨_, rfl⟩
  have hB0 : Below w.heap.size w W0 := by rw [hW0]; exact below_alloc (below_alloc (below_alloc (Below.refl _ _) _) _) _
  have c1 : W0.cell? ⟨w.heap.size, 0, none⟩ = some (.int .i64 r) := by
    rw [hW0]; exact cell_alloc _ (cell_alloc _ (cell_new _ _ _))
  have c2 : W0.cell? ⟨w.heap.size + 1, 0, none⟩ = some (.func (.func g) #[] #[]) := by
    rw [hW0]; exact cell_alloc _ (cell_new_at _ _ _ _ (by simp))
  have c3 : W0.cell? ⟨w.heap.size + 1 + 1, 0, none⟩ = some (.int .i64 t) := by
    rw [hW0]; exact cell_new_at _ _ _ _ (by simp)
  have hS := search_c 42 #[.pointer (some ⟨w.heap.size + 1, 0, none⟩), .pointer (some ⟨w.heap.size, 0, none⟩), .pointer (some ⟨w.heap.size + 1 + 1, 0, none⟩)] 2000000 (fun i => decide (t ≤ F i)) res W0 (by decide)
    (enters_of Try.func42 (by kernel_rfl) rfl)
    (fun W i hW hi => (closure_c g F r t i (w.heap.size + 1) w.heap.size (w.heap.size + 1 + 1) W (fun W => hg _ _ (by omega) (by omega)) eg
      (below_cell hW c2) (below_cell hW c1) (below_cell hW c3)).mono
      fun _ _ ⟨he, q, hq⟩ => ⟨he, by rw [hq]; exact below_drewN (Below.refl _ _) _⟩)
    hr (fun i hi => decide_eq_false (by have := hlow i hi; omega)) (fun i h2 h3 => decide_eq_true (hhigh i h2 h3))
  have HS := Lib.hid hS
  have HB0 := Lib.hid hB0
  have HW0 := Lib.hid hW0
  clear hS hg hlow hhigh c1 c2 c3 hB0 hW0
  go_enter Try.func33, Try.ntmps33
  go_wp2_with (first | (go_at_call 35; refine (isTicks_good t _ h0 h1).mono ?_; rintro e w' ⟨rfl, rfl⟩) | (go_at_call 41; rw [← HW0.out]; refine HS.out.mono ?_; rintro e w' ⟨rfl, hb'⟩))
  go_ret2
  exact ⟨rfl, HB0.out.trans (hb'.mono HB0.out.size)⟩


def waitF (a0 : Int) : Option (Int × Int) := if 0 ≤ a0 ∧ a0 ≤ 1000000 then some ((a0 * 1000000 + 999799) / 999800, 0) else some (0, 1)

theorem wait_calls (a0 r1 r2 : Int) (w : World) (h : waitF a0 = some (r1, r2)) :
    Calls Try.prog 21 #[.int .i64 a0] w (fun e w' => e = .returned (.tuple #[.int .i64 r1, .int .i64 r2]) ∧ Below w.heap.size w w') := by
  unfold waitF at h
  by_cases c : 0 ≤ a0 ∧ a0 ≤ 1000000
  · rw [if_pos c] at h
    obtain ⟨n, hn⟩ : ∃ n : Nat, (n : Int) = (a0 * 1000000 + 999799) / 999800 := ⟨((a0 * 1000000 + 999799) / 999800).toNat, by omega⟩
    rw [← hn] at h
    obtain ⟨rfl, rfl⟩ : (n : Int) = r1 ∧ 0 = r2 := by simpa using h
    have hL := least_good 34 (fun t => t * 999800 / 1000000) 999800 a0 n w c.1 c.2
      (fun t W h0 h1 => (down_c 999800 t W (by omega) (by omega) h0 (by omega)).mono fun _ _ ⟨he, hw⟩ => ⟨he, 0, hw ▸ rfl⟩)
      (enters_of Try.func34 (by kernel_rfl) rfl) (by omega) (fun i hi => by show (i : Int) * 999800 / 1000000 < a0; omega) (fun i h1 h2 => by show a0 ≤ (i : Int) * 999800 / 1000000; omega)
    have HL := Lib.hid hL
    clear hL hn h
    go_enter Try.func21, Try.ntmps21
    go_wp2_with (go_at_call 33; refine HL.out.mono ?_; rintro e w' ⟨rfl, hb⟩)
    go_ret2
    exact ⟨rfl, hb⟩
  · rw [if_neg c] at h
    obtain ⟨rfl, rfl⟩ : 0 = r1 ∧ 1 = r2 := by simpa using h
    have hL := least_bad 34 999800 a0 w (by omega)
    have HL := Lib.hid hL
    clear hL h
    go_enter Try.func21, Try.ntmps21
    go_wp2_with (go_at_call 33; refine HL.out.mono ?_; rintro e w' ⟨rfl, hb⟩)
    go_ret2
    exact ⟨rfl, hb⟩
end Go.Proofs.Ytpngiddelhcepaa.ClockWait
