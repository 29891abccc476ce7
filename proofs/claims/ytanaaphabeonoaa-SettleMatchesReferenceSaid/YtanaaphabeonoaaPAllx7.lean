-- Written by a program of this session (xprint.py, over the kit's print.py), with contracts proved by hand.
import Derived.Test.YtanaaphabeonoaaPAllx0
import Derived.Test.YtanaaphabeonoaaPAllx2
import Derived.Test.YtanaaphabeonoaaPAllx3
import Derived.Test.YtanaaphabeonoaaPAllx4
import Derived.Test.YtanaaphabeonoaaPAllx5
import Derived.Test.YtanaaphabeonoaaPAllx6
namespace Go.Proofs.Ytanaaphabeonoaa.PAll
open Go.RowKit Go.Proofs.Ytanaaphabeonoaa.Open Go.Proofs.YtanaaphabeonoaaW.PrintWords Go.Proofs.YtanaaphabeonoaaW.PrintLast Go.Proofs.YtanaaphabeonoaaW.PrintMore
attribute [local go_sem] max2_int min2_int max_two min_two max_three min_three max_four min_four   -- for this text's walks alone
set_option linter.unusedVariables false
set_option linter.unusedSimpArgs false

attribute [local go_sem high] eqA49
/-! ### chargeparkref42_Dispute: function 15 -/
mutual
def chargeparkref42_Dispute.j0 : Nat → List (S49) → List (S49) → Bool → Option (Int × Bool × Int)
  | 0, _, _, _ => none
  | k + 1, x0, x1, x15 => if x15 = true then (some (0, false, 2)) else (chargeparkref42_Dispute.l0 k x0 x1 0)
def chargeparkref42_Dispute.l0 : Nat → List (S49) → List (S49) → Int → Option (Int × Bool × Int)
  | 0, _, _, _ => none
  | k + 1, x0, x1, x7 => if x7 < (x0.length : Int) then (if x7 < (x1.length : Int) then (if 0 ≤ x7 then (if (((rd_T49 x0 x7).f0) == ((rd_T49 x1 x7).f0) && (((rd_T49 x0 x7).f1) == ((rd_T49 x1 x7).f1) && (((rd_T49 x0 x7).f2) == ((rd_T49 x1 x7).f2) && (((rd_T49 x0 x7).f3) == ((rd_T49 x1 x7).f3) && (((rd_T49 x0 x7).f4) == ((rd_T49 x1 x7).f4)))))) = true then (chargeparkref42_Dispute.l0 k x0 x1 (wrap64 (x7 + 1))) else (if x7 = (x0.length : Int) then (if x7 = (x1.length : Int) then (some (0, false, 0)) else (some (x7, true, 0))) else (some (x7, true, 0)))) else (none)) else (if x7 = (x0.length : Int) then (if x7 = (x1.length : Int) then (some (0, false, 0)) else (some (x7, true, 0))) else (some (x7, true, 0)))) else (if x7 = (x0.length : Int) then (if x7 = (x1.length : Int) then (some (0, false, 0)) else (some (x7, true, 0))) else (some (x7, true, 0)))
end
def chargeparkref42_Dispute.f (k : Nat) (l0 : List (S49)) (l1 : List (S49)) : Option (Int × Bool × Int) := if (l0.length : Int) > 64 then (chargeparkref42_Dispute.j0 k l0 l1 true) else (chargeparkref42_Dispute.j0 k l0 l1 (decide ((l1.length : Int) > 64)))
theorem chargeparkref42_Dispute.mono_l : ∀ k, (∀ y0 y1 y2, LeO (chargeparkref42_Dispute.j0 k y0 y1 y2) (chargeparkref42_Dispute.j0 (k + 1) y0 y1 y2)) ∧ (∀ y0 y1 y2, LeO (chargeparkref42_Dispute.l0 k y0 y1 y2) (chargeparkref42_Dispute.l0 (k + 1) y0 y1 y2))
  | 0 => ⟨fun _ _ _ r h => by simp [chargeparkref42_Dispute.j0] at h, fun _ _ _ r h => by simp [chargeparkref42_Dispute.l0] at h⟩
  | k + 1 => by
    obtain ⟨ih0, ih1⟩ := chargeparkref42_Dispute.mono_l k
    refine ⟨?_, ?_⟩
    · intro y0 y1 y2
      unfold chargeparkref42_Dispute.j0
      repeat' first
      | (with_reducible exact ih0 _ _ _)
      | (with_reducible exact ih1 _ _ _)
      | (with_reducible exact LeO.refl _)
      | (with_reducible exact LeO.none _)
      | (with_reducible refine LeO.ite ?_ ?_)
      | (with_reducible refine LeO.bind ?_ (fun _ => ?_))
      | exact ih0 _ _ _
      | exact ih1 _ _ _
      | exact LeO.none _
      | refine LeO.ite ?_ ?_
      | refine LeO.bind ?_ (fun _ => ?_)
    · intro y0 y1 y2
      unfold chargeparkref42_Dispute.l0
      repeat' first
      | (with_reducible exact ih0 _ _ _)
      | (with_reducible exact ih1 _ _ _)
      | (with_reducible exact LeO.refl _)
      | (with_reducible exact LeO.none _)
      | (with_reducible refine LeO.ite ?_ ?_)
      | (with_reducible refine LeO.bind ?_ (fun _ => ?_))
      | exact ih0 _ _ _
      | exact ih1 _ _ _
      | exact LeO.none _
      | refine LeO.ite ?_ ?_
      | refine LeO.bind ?_ (fun _ => ?_)
theorem chargeparkref42_Dispute.mono : ∀ a0 a1 k, LeO (chargeparkref42_Dispute.f k a0 a1) (chargeparkref42_Dispute.f (k + 1) a0 a1) := by
  intro a0 a1 k
  obtain ⟨ih0, ih1⟩ := chargeparkref42_Dispute.mono_l k
  unfold chargeparkref42_Dispute.f
  repeat' first
      | (with_reducible exact ih0 _ _ _)
      | (with_reducible exact ih1 _ _ _)
      | (with_reducible exact LeO.refl _)
      | (with_reducible exact LeO.none _)
      | (with_reducible refine LeO.ite ?_ ?_)
      | (with_reducible refine LeO.bind ?_ (fun _ => ?_))
      | exact ih0 _ _ _
      | exact ih1 _ _ _
      | exact LeO.none _
      | refine LeO.ite ?_ ?_
      | refine LeO.bind ?_ (fun _ => ?_)
set_option maxHeartbeats 8000000 in
set_option maxRecDepth 100000 in
theorem chargeparkref42_Dispute.calls (k : Nat) (A0 : Option Addr) (c0 : Nat) (l0 : List (S49)) (A1 : Option Addr) (c1 : Nat) (l1 : List (S49)) (r1 : Int) (r2 : Bool) (r3 : Int) (w : World) (hr0 : Kd.C k49 w A0 l0.length l0) (hc0 : l0.length ≤ c0) (hr1 : Kd.C k49 w A1 l1.length l1) (hc1 : l1.length ≤ c1) (h : chargeparkref42_Dispute.f k l0 l1 = some (r1, r2, r3)) :
    Calls Try.prog 15 #[.slice A0 l0.length c0, .slice A1 l1.length c1] w fun e w' => e = .returned (.tuple #[.int .i64 r1, .bool r2, .int .i64 r3]) ∧ Drawn0 w w' := by
  have hu49 := Try.underlying49
  have HR0 := Aside0.mk hr0
  have HC0 := Aside0.mk hc0
  clear hr0 hc0
  have HR1 := Aside0.mk hr1
  have HC1 := Aside0.mk hc1
  clear hr1 hc1
  have H : (if (l0.length : Int) > 64 then (chargeparkref42_Dispute.j0 k l0 l1 true) else (chargeparkref42_Dispute.j0 k l0 l1 (decide ((l1.length : Int) > 64)))) = some (r1, r2, r3) := h
  clear h
  have HC3 := Aside0.mk H
  clear H
  go_enter Try.func15, Try.ntmps15
  go_upto_region 1 with (fail)
  repeat (go_quiet (fail); go_upto_region 1 with (fail))
  go_cut [15] (fun v15 wc => ∃ (kq : Nat) (x15_2 : Bool), v15 = .bool x15_2 ∧ Aside0 (chargeparkref42_Dispute.j0 kq l0 l1 x15_2 = some (r1, r2, r3)) ∧ Aside0 (kq ≤ k) ∧ Drawn0 w wc)
  case first =>
    have H := HC3.out
    clear HC3
    by_cases c4 : (l0.length : Int) > 64
    · rw [if_pos c4] at H
      have c4b0 : decide (64 < (l0.length : Int)) = true := decide_eq_true c4
      have c4b1 : decide (64 < l0.length) = true := decide_eq_true (by omega)
      clear c4
      (first | rw [c4b0] | (simp only [i64_w, i32_w]; rw [c4b0]) | skip)
      have H' := Aside0.mk H
      clear H
      go_wp2
      repeat (go_quiet (fail); try go_wp2)
      go_meet
      case rel => exact ⟨_, (true), (by first | rfl | (simp; done) | (simp [*]; done)), H', ⟨by first | omega | exact Nat.le_refl _⟩, by repeat (first | exact Drawn0.refl _ | apply Drawn0.step)⟩
    · rw [if_neg c4] at H
      have c4b0 : decide (64 < (l0.length : Int)) = false := decide_eq_false c4
      have c4b1 : decide (64 < l0.length) = false := decide_eq_false (by omega)
      clear c4
      (first | rw [c4b0] | (simp only [i64_w, i32_w]; rw [c4b0]) | skip)
      have H' := Aside0.mk H
      clear H
      go_wp2
      repeat (go_quiet (fail); try go_wp2)
      go_meet
      case rel => exact ⟨_, (decide ((l1.length : Int) > 64)), (by first | rfl | (simp; done) | (simp [*]; done)), H', ⟨by first | omega | exact Nat.le_refl _⟩, by repeat (first | exact Drawn0.refl _ | apply Drawn0.step)⟩
  case rest =>
    clear HC3
    try clear c1
    try clear p2
    try clear c4
    try clear c4b0
    try clear c4b1
    obtain ⟨kq, x15_2, rfl, HA, HJ2, ⟨mc2, rfl⟩⟩ := hcut
    cases kq with
    | zero => exact absurd HA.out (by simp [chargeparkref42_Dispute.j0])
    | succ kj2 =>
      have H := HA.out
      clear HA
      simp only [chargeparkref42_Dispute.j0] at H
      by_cases c5 : x15_2 = true
      · subst c5
        have H1 : (some (0, false, 2)) = some (r1, r2, r3) := by rw [if_pos rfl] at H; exact H
        clear H
        have H := H1
        clear H1
        simp only [Option.some.injEq, Prod.mk.injEq] at H
        obtain ⟨rfl, rfl, rfl⟩ := H
        go_wp2
        repeat (go_quiet (fail); try go_wp2)
        go_ret3
        exact ⟨by first | rfl | (simp; done) | (simp [*]; done), by repeat (first | exact Drawn0.refl _ | apply Drawn0.step)⟩
      · replace c5 := Bool.eq_false_iff.mpr c5
        subst c5
        have H1 : (chargeparkref42_Dispute.l0 kj2 l0 l1 0) = some (r1, r2, r3) := by rw [if_neg (show ¬ (false = true) by decide)] at H; exact H
        clear H
        have H := H1
        clear H1
        have H' := Aside0.mk H
        clear H
        go_wp2
        repeat (go_quiet (fail); try go_wp2)
        go_loopg [7] kj2 (fun kq v7 w' => ∃ (x7_2 : Int), v7 = .int .i64 x7_2 ∧ Aside0 (chargeparkref42_Dispute.l0 kq l0 l1 x7_2 = some (r1, r2, r3)) ∧ Aside0 (kq ≤ kj2) ∧ Drawn0 w w')
        case atStart => exact ⟨(0), (by first | rfl | (simp; done) | (simp [*]; done)), H', ⟨Nat.le_refl _⟩, by repeat (first | exact Drawn0.refl _ | apply Drawn0.step)⟩
        case round =>
          clear H'
          try clear c1
          try clear c2
          try clear p2
          try clear c4
          try clear c4b0
          try clear c4b1
          try clear c5
          try clear p2
          obtain ⟨x7_2, rfl, HA, HK2, ⟨m2, rfl⟩⟩ := hrel
          cases gk with
          | zero => exact absurd HA.out (by simp [chargeparkref42_Dispute.l0])
          | succ k2 =>
            have H := HA.out
            clear HA
            simp only [chargeparkref42_Dispute.l0] at H
            by_cases c6 : x7_2 < (l0.length : Int)
            · rw [if_pos c6] at H
              have c6b0 : decide (x7_2 < (l0.length : Int)) = true := decide_eq_true c6
              clear c6
              by_cases c7 : x7_2 < (l1.length : Int)
              · rw [if_pos c7] at H
                have c7b0 : decide (x7_2 < (l1.length : Int)) = true := decide_eq_true c7
                clear c7
                by_cases c8 : 0 ≤ x7_2
                · rw [if_pos c8] at H
                  have c8b0 : decide (0 ≤ x7_2) = true := decide_eq_true c8
                  clear c8
                  by_cases c9 : (((rd_T49 l0 x7_2).f0) == ((rd_T49 l1 x7_2).f0) && (((rd_T49 l0 x7_2).f1) == ((rd_T49 l1 x7_2).f1) && (((rd_T49 l0 x7_2).f2) == ((rd_T49 l1 x7_2).f2) && (((rd_T49 l0 x7_2).f3) == ((rd_T49 l1 x7_2).f3) && (((rd_T49 l0 x7_2).f4) == ((rd_T49 l1 x7_2).f4)))))) = true
                  · rw [if_pos c9] at H
                    have c9b0 : (((rd_T49 l0 x7_2).f0) == ((rd_T49 l1 x7_2).f0) && (((rd_T49 l0 x7_2).f1) == ((rd_T49 l1 x7_2).f1) && (((rd_T49 l0 x7_2).f2) == ((rd_T49 l1 x7_2).f2) && (((rd_T49 l0 x7_2).f3) == ((rd_T49 l1 x7_2).f3) && (((rd_T49 l0 x7_2).f4) == ((rd_T49 l1 x7_2).f4)))))) = true := c9
                    (try (have c9b1 : decide (((rd_T49 l0 x7_2).f0) = ((rd_T49 l1 x7_2).f0) && (((rd_T49 l0 x7_2).f1) == ((rd_T49 l1 x7_2).f1) && (((rd_T49 l0 x7_2).f2) == ((rd_T49 l1 x7_2).f2) && (((rd_T49 l0 x7_2).f3) == ((rd_T49 l1 x7_2).f3) && (((rd_T49 l0 x7_2).f4) == ((rd_T49 l1 x7_2).f4)))))) = true := by simpa using c9))
                    (try (have c9b2 : (((rd_T49 l0 x7_2).f0) == ((rd_T49 l1 x7_2).f0) && (((rd_T49 l0 x7_2).f1) == ((rd_T49 l1 x7_2).f1) && (((rd_T49 l0 x7_2).f2) == ((rd_T49 l1 x7_2).f2) && (((rd_T49 l0 x7_2).f3) == ((rd_T49 l1 x7_2).f3) && (((rd_T49 l0 x7_2).f4) == ((rd_T49 l1 x7_2).f4)))))) = true := by simpa using c9))
                    clear c9
                    have H' := Aside0.mk H
                    clear H
                    have p286 : 0 ≤ (x7_2 : Int) := of_decide_eq_true (by first | (with_reducible assumption) | assumption)
                    have q286 : x7_2 < (l0.length : Int) := of_decide_eq_true (by first | (with_reducible assumption) | assumption)
                    obtain ⟨ad286, e286, hx286_0, hx286_1, hx286_2, hx286_3, hx286_4⟩ := at_T49 HR0.out x7_2 p286 q286
                    cases e286
                    replace p286 := eq_true p286
                    replace q286 := eq_true q286
                    have p287 : 0 ≤ (x7_2 : Int) := of_decide_eq_true (by first | (with_reducible assumption) | assumption)
                    have q287 : x7_2 < (l1.length : Int) := of_decide_eq_true (by first | (with_reducible assumption) | assumption)
                    obtain ⟨ad287, e287, hx287_0, hx287_1, hx287_2, hx287_3, hx287_4⟩ := at_T49 HR1.out x7_2 p287 q287
                    cases e287
                    replace p287 := eq_true p287
                    replace q287 := eq_true q287
                    go_wp2
                    repeat (go_quiet (fail); try go_wp2)
                    go_roundg k2
                    case measure => have := HJ2.out; have := HK2.out; omega
                    case rel => exact ⟨(wrap64 (x7_2 + 1)), (by first | rfl | (simp; done) | (simp [*]; done)), H', ⟨by have := HJ2.out; have := HK2.out; omega⟩, by repeat (first | exact Drawn0.refl _ | apply Drawn0.step)⟩
                  · rw [if_neg c9] at H
                    have c9b0 : (((rd_T49 l0 x7_2).f0) == ((rd_T49 l1 x7_2).f0) && (((rd_T49 l0 x7_2).f1) == ((rd_T49 l1 x7_2).f1) && (((rd_T49 l0 x7_2).f2) == ((rd_T49 l1 x7_2).f2) && (((rd_T49 l0 x7_2).f3) == ((rd_T49 l1 x7_2).f3) && (((rd_T49 l0 x7_2).f4) == ((rd_T49 l1 x7_2).f4)))))) = false := by simpa using c9
                    (try (have c9b1 : decide (((rd_T49 l0 x7_2).f0) = ((rd_T49 l1 x7_2).f0) && (((rd_T49 l0 x7_2).f1) == ((rd_T49 l1 x7_2).f1) && (((rd_T49 l0 x7_2).f2) == ((rd_T49 l1 x7_2).f2) && (((rd_T49 l0 x7_2).f3) == ((rd_T49 l1 x7_2).f3) && (((rd_T49 l0 x7_2).f4) == ((rd_T49 l1 x7_2).f4)))))) = false := by simpa using c9))
                    (try (have c9b2 : (((rd_T49 l0 x7_2).f0) == ((rd_T49 l1 x7_2).f0) && (((rd_T49 l0 x7_2).f1) == ((rd_T49 l1 x7_2).f1) && (((rd_T49 l0 x7_2).f2) == ((rd_T49 l1 x7_2).f2) && (((rd_T49 l0 x7_2).f3) == ((rd_T49 l1 x7_2).f3) && (((rd_T49 l0 x7_2).f4) == ((rd_T49 l1 x7_2).f4)))))) = false := by simpa using c9))
                    (try (have c9b3 : ¬ (((rd_T49 l0 x7_2).f0) = ((rd_T49 l1 x7_2).f0) && (((rd_T49 l0 x7_2).f1) == ((rd_T49 l1 x7_2).f1) && (((rd_T49 l0 x7_2).f2) == ((rd_T49 l1 x7_2).f2) && (((rd_T49 l0 x7_2).f3) == ((rd_T49 l1 x7_2).f3) && (((rd_T49 l0 x7_2).f4) == ((rd_T49 l1 x7_2).f4)))))) := by simpa using c9))
                    clear c9
                    by_cases c10 : x7_2 = (l0.length : Int)
                    · rw [if_pos c10] at H
                      have c10b0 : (x7_2 == (l0.length : Int)) = true := beq_iff_eq.mpr c10
                      have c10b1 : (x7_2 != (l0.length : Int)) = false := bne_eq_false_iff_eq.mpr c10
                      clear c10
                      by_cases c11 : x7_2 = (l1.length : Int)
                      · rw [if_pos c11] at H
                        have c11b0 : (x7_2 == (l1.length : Int)) = true := beq_iff_eq.mpr c11
                        have c11b1 : (x7_2 != (l1.length : Int)) = false := bne_eq_false_iff_eq.mpr c11
                        clear c11
                        simp only [Option.some.injEq, Prod.mk.injEq] at H
                        obtain ⟨rfl, rfl, rfl⟩ := H
                        have p286 : 0 ≤ (x7_2 : Int) := of_decide_eq_true (by first | (with_reducible assumption) | assumption)
                        have q286 : x7_2 < (l0.length : Int) := of_decide_eq_true (by first | (with_reducible assumption) | assumption)
                        obtain ⟨ad286, e286, hx286_0, hx286_1, hx286_2, hx286_3, hx286_4⟩ := at_T49 HR0.out x7_2 p286 q286
                        cases e286
                        replace p286 := eq_true p286
                        replace q286 := eq_true q286
                        have p287 : 0 ≤ (x7_2 : Int) := of_decide_eq_true (by first | (with_reducible assumption) | assumption)
                        have q287 : x7_2 < (l1.length : Int) := of_decide_eq_true (by first | (with_reducible assumption) | assumption)
                        obtain ⟨ad287, e287, hx287_0, hx287_1, hx287_2, hx287_3, hx287_4⟩ := at_T49 HR1.out x7_2 p287 q287
                        cases e287
                        replace p287 := eq_true p287
                        replace q287 := eq_true q287
                        go_wp2
                        repeat (go_quiet (fail); try go_wp2)
                        go_ret3
                        exact ⟨by first | rfl | (simp; done) | (simp [*]; done), by repeat (first | exact Drawn0.refl _ | apply Drawn0.step)⟩
                      · rw [if_neg c11] at H
                        have c11b0 : (x7_2 == (l1.length : Int)) = false := beq_eq_false_iff_ne.mpr c11
                        have c11b1 : (x7_2 != (l1.length : Int)) = true := bne_iff_ne.mpr c11
                        simp only [Option.some.injEq, Prod.mk.injEq] at H
                        obtain ⟨rfl, rfl, rfl⟩ := H
                        have p286 : 0 ≤ (x7_2 : Int) := of_decide_eq_true (by first | (with_reducible assumption) | assumption)
                        have q286 : x7_2 < (l0.length : Int) := of_decide_eq_true (by first | (with_reducible assumption) | assumption)
                        obtain ⟨ad286, e286, hx286_0, hx286_1, hx286_2, hx286_3, hx286_4⟩ := at_T49 HR0.out x7_2 p286 q286
                        cases e286
                        replace p286 := eq_true p286
                        replace q286 := eq_true q286
                        have p287 : 0 ≤ (x7_2 : Int) := of_decide_eq_true (by first | (with_reducible assumption) | assumption)
                        have q287 : x7_2 < (l1.length : Int) := of_decide_eq_true (by first | (with_reducible assumption) | assumption)
                        obtain ⟨ad287, e287, hx287_0, hx287_1, hx287_2, hx287_3, hx287_4⟩ := at_T49 HR1.out x7_2 p287 q287
                        cases e287
                        replace p287 := eq_true p287
                        replace q287 := eq_true q287
                        go_wp2
                        repeat (go_quiet (fail); try go_wp2)
                        go_ret3
                        exact ⟨by first | rfl | (simp; done) | (simp [*]; done), by repeat (first | exact Drawn0.refl _ | apply Drawn0.step)⟩
                    · rw [if_neg c10] at H
                      have c10b0 : (x7_2 == (l0.length : Int)) = false := beq_eq_false_iff_ne.mpr c10
                      have c10b1 : (x7_2 != (l0.length : Int)) = true := bne_iff_ne.mpr c10
                      simp only [Option.some.injEq, Prod.mk.injEq] at H
                      obtain ⟨rfl, rfl, rfl⟩ := H
                      have p286 : 0 ≤ (x7_2 : Int) := of_decide_eq_true (by first | (with_reducible assumption) | assumption)
                      have q286 : x7_2 < (l0.length : Int) := of_decide_eq_true (by first | (with_reducible assumption) | assumption)
                      obtain ⟨ad286, e286, hx286_0, hx286_1, hx286_2, hx286_3, hx286_4⟩ := at_T49 HR0.out x7_2 p286 q286
                      cases e286
                      replace p286 := eq_true p286
                      replace q286 := eq_true q286
                      have p287 : 0 ≤ (x7_2 : Int) := of_decide_eq_true (by first | (with_reducible assumption) | assumption)
                      have q287 : x7_2 < (l1.length : Int) := of_decide_eq_true (by first | (with_reducible assumption) | assumption)
                      obtain ⟨ad287, e287, hx287_0, hx287_1, hx287_2, hx287_3, hx287_4⟩ := at_T49 HR1.out x7_2 p287 q287
                      cases e287
                      replace p287 := eq_true p287
                      replace q287 := eq_true q287
                      go_wp2
                      repeat (go_quiet (fail); try go_wp2)
                      go_ret3
                      exact ⟨by first | rfl | (simp; done) | (simp [*]; done), by repeat (first | exact Drawn0.refl _ | apply Drawn0.step)⟩
                · rw [if_neg c8] at H
                  exact absurd H (by simp)
              · rw [if_neg c7] at H
                have c7b0 : decide (x7_2 < (l1.length : Int)) = false := decide_eq_false c7
                clear c7
                by_cases c12 : x7_2 = (l0.length : Int)
                · rw [if_pos c12] at H
                  have c12b0 : (x7_2 == (l0.length : Int)) = true := beq_iff_eq.mpr c12
                  have c12b1 : (x7_2 != (l0.length : Int)) = false := bne_eq_false_iff_eq.mpr c12
                  clear c12
                  by_cases c13 : x7_2 = (l1.length : Int)
                  · rw [if_pos c13] at H
                    have c13b0 : (x7_2 == (l1.length : Int)) = true := beq_iff_eq.mpr c13
                    have c13b1 : (x7_2 != (l1.length : Int)) = false := bne_eq_false_iff_eq.mpr c13
                    clear c13
                    simp only [Option.some.injEq, Prod.mk.injEq] at H
                    obtain ⟨rfl, rfl, rfl⟩ := H
                    go_wp2
                    repeat (go_quiet (fail); try go_wp2)
                    go_ret3
                    exact ⟨by first | rfl | (simp; done) | (simp [*]; done), by repeat (first | exact Drawn0.refl _ | apply Drawn0.step)⟩
                  · rw [if_neg c13] at H
                    have c13b0 : (x7_2 == (l1.length : Int)) = false := beq_eq_false_iff_ne.mpr c13
                    have c13b1 : (x7_2 != (l1.length : Int)) = true := bne_iff_ne.mpr c13
                    simp only [Option.some.injEq, Prod.mk.injEq] at H
                    obtain ⟨rfl, rfl, rfl⟩ := H
                    go_wp2
                    repeat (go_quiet (fail); try go_wp2)
                    go_ret3
                    exact ⟨by first | rfl | (simp; done) | (simp [*]; done), by repeat (first | exact Drawn0.refl _ | apply Drawn0.step)⟩
                · rw [if_neg c12] at H
                  have c12b0 : (x7_2 == (l0.length : Int)) = false := beq_eq_false_iff_ne.mpr c12
                  have c12b1 : (x7_2 != (l0.length : Int)) = true := bne_iff_ne.mpr c12
                  simp only [Option.some.injEq, Prod.mk.injEq] at H
                  obtain ⟨rfl, rfl, rfl⟩ := H
                  go_wp2
                  repeat (go_quiet (fail); try go_wp2)
                  go_ret3
                  exact ⟨by first | rfl | (simp; done) | (simp [*]; done), by repeat (first | exact Drawn0.refl _ | apply Drawn0.step)⟩
            · rw [if_neg c6] at H
              have c6b0 : decide (x7_2 < (l0.length : Int)) = false := decide_eq_false c6
              clear c6
              by_cases c14 : x7_2 = (l0.length : Int)
              · rw [if_pos c14] at H
                have c14b0 : (x7_2 == (l0.length : Int)) = true := beq_iff_eq.mpr c14
                have c14b1 : (x7_2 != (l0.length : Int)) = false := bne_eq_false_iff_eq.mpr c14
                clear c14
                by_cases c15 : x7_2 = (l1.length : Int)
                · rw [if_pos c15] at H
                  have c15b0 : (x7_2 == (l1.length : Int)) = true := beq_iff_eq.mpr c15
                  have c15b1 : (x7_2 != (l1.length : Int)) = false := bne_eq_false_iff_eq.mpr c15
                  clear c15
                  simp only [Option.some.injEq, Prod.mk.injEq] at H
                  obtain ⟨rfl, rfl, rfl⟩ := H
                  go_wp2
                  repeat (go_quiet (fail); try go_wp2)
                  go_ret3
                  exact ⟨by first | rfl | (simp; done) | (simp [*]; done), by repeat (first | exact Drawn0.refl _ | apply Drawn0.step)⟩
                · rw [if_neg c15] at H
                  have c15b0 : (x7_2 == (l1.length : Int)) = false := beq_eq_false_iff_ne.mpr c15
                  have c15b1 : (x7_2 != (l1.length : Int)) = true := bne_iff_ne.mpr c15
                  simp only [Option.some.injEq, Prod.mk.injEq] at H
                  obtain ⟨rfl, rfl, rfl⟩ := H
                  go_wp2
                  repeat (go_quiet (fail); try go_wp2)
                  go_ret3
                  exact ⟨by first | rfl | (simp; done) | (simp [*]; done), by repeat (first | exact Drawn0.refl _ | apply Drawn0.step)⟩
              · rw [if_neg c14] at H
                have c14b0 : (x7_2 == (l0.length : Int)) = false := beq_eq_false_iff_ne.mpr c14
                have c14b1 : (x7_2 != (l0.length : Int)) = true := bne_iff_ne.mpr c14
                simp only [Option.some.injEq, Prod.mk.injEq] at H
                obtain ⟨rfl, rfl, rfl⟩ := H
                go_wp2
                repeat (go_quiet (fail); try go_wp2)
                go_ret3
                exact ⟨by first | rfl | (simp; done) | (simp [*]; done), by repeat (first | exact Drawn0.refl _ | apply Drawn0.step)⟩


/-! ### chargeparklaw42_SettleMatchesReference: function 3 -/
def chargeparklaw42_SettleMatchesReference.j0 : Nat → List (S40) → Int → List Int → List (S49) → List (S49) → Bool → Bool → Option (Bool)
  | 0, _, _, _, _, _, _, _ => none
  | k + 1, x0, x1, x2, x3, x4, x11, x44 => if x44 = true then (some x11) else ((settle_Net.f x0 x1).bind fun bt289 => ((chargeparkref42_Net.f k x0 x1).bind fun bt293 => ((settle_Payments.f k x2).bind fun bt297 => ((chargeparkref42_Payments.f k x2).bind fun bt301 => ((settle_Dispute.f k x3 x4).bind fun bt305 => ((chargeparkref42_Dispute.f k x3 x4).bind fun bt308 => (if x11 = true then ((chargeparkref42_Ints.f k bt289.1 bt293.1).bind fun t311 => (if t311 = true then (if bt289.2 = bt293.2 then ((chargeparkref42_Same.f k bt297.1 bt301.1).bind fun t312 => (if t312 = true then (if bt297.2 = bt301.2 then (if bt305.1 = bt308.1 then (if (bt305.2.1 == bt308.2.1) = true then (some (bt305.2.2 == bt308.2.2)) else (none)) else (none)) else (none)) else (none))) else (none)) else (none))) else (none))))))))
def chargeparklaw42_SettleMatchesReference.f (k : Nat) (l0 : List (S40)) (a1 : Int) (l2 : List Int) (l3 : List (S49)) (l4 : List (S49)) : Option (Bool) := (chargeparklaw42_head.f k).bind fun t288 => (if (l0.length : Int) > 100 then (chargeparklaw42_SettleMatchesReference.j0 k l0 a1 l2 l3 l4 t288 true) else (if (l2.length : Int) > 100 then (chargeparklaw42_SettleMatchesReference.j0 k l0 a1 l2 l3 l4 t288 true) else (if (l3.length : Int) > 100 then (chargeparklaw42_SettleMatchesReference.j0 k l0 a1 l2 l3 l4 t288 true) else (chargeparklaw42_SettleMatchesReference.j0 k l0 a1 l2 l3 l4 t288 (decide ((l4.length : Int) > 100))))))
theorem chargeparklaw42_SettleMatchesReference.mono_l : ∀ k, (∀ y0 y1 y2 y3 y4 y5 y6, LeO (chargeparklaw42_SettleMatchesReference.j0 k y0 y1 y2 y3 y4 y5 y6) (chargeparklaw42_SettleMatchesReference.j0 (k + 1) y0 y1 y2 y3 y4 y5 y6))
  | 0 => fun _ _ _ _ _ _ _ r h => by simp [chargeparklaw42_SettleMatchesReference.j0] at h
  | k + 1 => by
    have ih0 := chargeparklaw42_SettleMatchesReference.mono_l k
    · intro y0 y1 y2 y3 y4 y5 y6
      unfold chargeparklaw42_SettleMatchesReference.j0
      repeat' first
      | (with_reducible exact ih0 _ _ _ _ _ _ _)
      | (with_reducible exact chargeparklaw42_head.mono _)
      | (with_reducible exact chargeparkref42_Dispute.mono _ _ _)
      | (with_reducible exact chargeparkref42_Ints.mono _ _ _)
      | (with_reducible exact chargeparkref42_Net.mono _ _ _)
      | (with_reducible exact chargeparkref42_Payments.mono _ _)
      | (with_reducible exact chargeparkref42_Same.mono _ _ _)
      | (with_reducible exact settle_Dispute.mono _ _ _)
      | (with_reducible exact settle_Payments.mono _ _)
      | (with_reducible exact LeO.refl _)
      | (with_reducible exact LeO.none _)
      | (with_reducible refine LeO.ite ?_ ?_)
      | (with_reducible refine LeO.bind ?_ (fun _ => ?_))
      | exact ih0 _ _ _ _ _ _ _
      | exact chargeparklaw42_head.mono _
      | exact chargeparkref42_Dispute.mono _ _ _
      | exact chargeparkref42_Ints.mono _ _ _
      | exact chargeparkref42_Net.mono _ _ _
      | exact chargeparkref42_Payments.mono _ _
      | exact chargeparkref42_Same.mono _ _ _
      | exact settle_Dispute.mono _ _ _
      | exact settle_Payments.mono _ _
      | exact LeO.none _
      | refine LeO.ite ?_ ?_
      | refine LeO.bind ?_ (fun _ => ?_)
theorem chargeparklaw42_SettleMatchesReference.mono : ∀ a0 a1 a2 a3 a4 k, LeO (chargeparklaw42_SettleMatchesReference.f k a0 a1 a2 a3 a4) (chargeparklaw42_SettleMatchesReference.f (k + 1) a0 a1 a2 a3 a4) := by
  intro a0 a1 a2 a3 a4 k
  have ih0 := chargeparklaw42_SettleMatchesReference.mono_l k
  unfold chargeparklaw42_SettleMatchesReference.f
  repeat' first
      | (with_reducible exact ih0 _ _ _ _ _ _ _)
      | (with_reducible exact chargeparklaw42_head.mono _)
      | (with_reducible exact chargeparkref42_Dispute.mono _ _ _)
      | (with_reducible exact chargeparkref42_Ints.mono _ _ _)
      | (with_reducible exact chargeparkref42_Net.mono _ _ _)
      | (with_reducible exact chargeparkref42_Payments.mono _ _)
      | (with_reducible exact chargeparkref42_Same.mono _ _ _)
      | (with_reducible exact settle_Dispute.mono _ _ _)
      | (with_reducible exact settle_Payments.mono _ _)
      | (with_reducible exact LeO.refl _)
      | (with_reducible exact LeO.none _)
      | (with_reducible refine LeO.ite ?_ ?_)
      | (with_reducible refine LeO.bind ?_ (fun _ => ?_))
      | exact ih0 _ _ _ _ _ _ _
      | exact chargeparklaw42_head.mono _
      | exact chargeparkref42_Dispute.mono _ _ _
      | exact chargeparkref42_Ints.mono _ _ _
      | exact chargeparkref42_Net.mono _ _ _
      | exact chargeparkref42_Payments.mono _ _
      | exact chargeparkref42_Same.mono _ _ _
      | exact settle_Dispute.mono _ _ _
      | exact settle_Payments.mono _ _
      | exact LeO.none _
      | refine LeO.ite ?_ ?_
      | refine LeO.bind ?_ (fun _ => ?_)
set_option maxHeartbeats 8000000 in
set_option maxRecDepth 100000 in
theorem chargeparklaw42_SettleMatchesReference.calls (k : Nat) (A0 : Option Addr) (c0 : Nat) (l0 : List (S40)) (a1 : Int) (A2 : Option Addr) (c2 : Nat) (l2 : List Int) (A3 : Option Addr) (c3 : Nat) (l3 : List (S49)) (A4 : Option Addr) (c4 : Nat) (l4 : List (S49)) (r : Bool) (w : World) (hr0 : Kd.C k40 w A0 l0.length l0) (hc0 : l0.length ≤ c0) (hr2 : Kd.C (Kd.int .i64) w A2 l2.length l2) (hc2 : l2.length ≤ c2) (hr3 : Kd.C k49 w A3 l3.length l3) (hc3 : l3.length ≤ c3) (hr4 : Kd.C k49 w A4 l4.length l4) (hc4 : l4.length ≤ c4) (h : chargeparklaw42_SettleMatchesReference.f k l0 a1 l2 l3 l4 = some r) :
    Calls Try.prog 3 #[.slice A0 l0.length c0, .int .i64 a1, .slice A2 l2.length c2, .slice A3 l3.length c3, .slice A4 l4.length c4] w fun e w' => e = .returned (.bool r) ∧ Below w.heap.size w w' := by
  have HR0 := Aside0.mk hr0
  have HC0 := Aside0.mk hc0
  clear hr0 hc0
  have HR2 := Aside0.mk hr2
  have HC2 := Aside0.mk hc2
  clear hr2 hc2
  have HR3 := Aside0.mk hr3
  have HC3 := Aside0.mk hc3
  clear hr3 hc3
  have HR4 := Aside0.mk hr4
  have HC4 := Aside0.mk hc4
  clear hr4 hc4
  have HB := Aside0.mk (Below.refl w.heap.size w)
  have H : ((chargeparklaw42_head.f k).bind fun t288 => (if (l0.length : Int) > 100 then (chargeparklaw42_SettleMatchesReference.j0 k l0 a1 l2 l3 l4 t288 true) else (if (l2.length : Int) > 100 then (chargeparklaw42_SettleMatchesReference.j0 k l0 a1 l2 l3 l4 t288 true) else (if (l3.length : Int) > 100 then (chargeparklaw42_SettleMatchesReference.j0 k l0 a1 l2 l3 l4 t288 true) else (chargeparklaw42_SettleMatchesReference.j0 k l0 a1 l2 l3 l4 t288 (decide ((l4.length : Int) > 100))))))) = some r := h
  clear h
  replace H := Option.bind_eq_some_iff.mp H
  obtain ⟨t288, A60, H⟩ := H
  replace H : (if (l0.length : Int) > 100 then (chargeparklaw42_SettleMatchesReference.j0 k l0 a1 l2 l3 l4 t288 true) else (if (l2.length : Int) > 100 then (chargeparklaw42_SettleMatchesReference.j0 k l0 a1 l2 l3 l4 t288 true) else (if (l3.length : Int) > 100 then (chargeparklaw42_SettleMatchesReference.j0 k l0 a1 l2 l3 l4 t288 true) else (chargeparklaw42_SettleMatchesReference.j0 k l0 a1 l2 l3 l4 t288 (decide ((l4.length : Int) > 100)))))) = some r := H
  have A6 := Aside0.mk A60
  clear A60
  have HC7 := Aside0.mk H
  clear H
  go_enter Try.func3, Try.ntmps3
  go_upto_region 2 with (first | ((with_reducible refine gate_callee (f := 9) rfl ?_); refine goesL_ (some 26) rfl rfl Try.func9 (by kernel_rfl) rfl #[] rfl (by (try simp only [List.map_toArray, List.map_cons, List.map_nil]); first | done | rfl | (simp only [List.length_drop, List.length_take]; rfl)) ?_; (with_reducible refine (chargeparklaw42_head.calls k  t288 _ A6.out).mono ?_); rintro e w8 ⟨rfl, hb⟩; refine ⟨_, rfl, ?_⟩; have n0_ := Aside0.mk (below_step (by repeat (first | (with_reducible first | exact HB.out | apply below_alloc | apply pw_below_drewN | apply below_drew1) | exact HB.out)) hb); clear HB; have HB := n0_; clear n0_; (try clear hb); (try clear hb2); (try clear hk); (try clear hi)))
  (try simp only [Act.put, List.setIfInBounds_toArray, List.set_cons_zero, List.set_cons_succ])
  go_cut [44] (fun v44 wc => ∃ (kq : Nat) (x44_6 : Bool), v44 = .bool x44_6 ∧ Aside0 (chargeparklaw42_SettleMatchesReference.j0 kq l0 a1 l2 l3 l4 t288 x44_6 = some r) ∧ Aside0 (kq ≤ k) ∧ Aside0 (Below w.heap.size w wc))
  case first =>
    have H := HC7.out
    clear HC7
    by_cases c9 : (l0.length : Int) > 100
    · rw [if_pos c9] at H
      have c9b0 : decide (100 < (l0.length : Int)) = true := decide_eq_true c9
      have c9b1 : decide (100 < l0.length) = true := decide_eq_true (by omega)
      clear c9
      (first | rw [c9b0] | (simp only [i64_w, i32_w]; rw [c9b0]) | skip)
      have H' := Aside0.mk H
      clear H
      go_wp2
      go_meet
      case rel => exact ⟨_, (true), (by first | rfl | (simp; done) | (simp [*]; done)), H', ⟨by first | omega | exact Nat.le_refl _⟩, ⟨by repeat (first | (with_reducible first | exact HB.out | apply below_alloc | apply pw_below_drewN | apply below_drew1) | exact HB.out)⟩⟩
    · rw [if_neg c9] at H
      have c9b0 : decide (100 < (l0.length : Int)) = false := decide_eq_false c9
      have c9b1 : decide (100 < l0.length) = false := decide_eq_false (by omega)
      clear c9
      (first | rw [c9b0] | (simp only [i64_w, i32_w]; rw [c9b0]) | skip)
      by_cases c10 : (l2.length : Int) > 100
      · rw [if_pos c10] at H
        have c10b0 : decide (100 < (l2.length : Int)) = true := decide_eq_true c10
        have c10b1 : decide (100 < l2.length) = true := decide_eq_true (by omega)
        clear c10
        have H' := Aside0.mk H
        clear H
        go_wp2
        go_meet
        case rel => exact ⟨_, (true), (by first | rfl | (simp; done) | (simp [*]; done)), H', ⟨by first | omega | exact Nat.le_refl _⟩, ⟨by repeat (first | (with_reducible first | exact HB.out | apply below_alloc | apply pw_below_drewN | apply below_drew1) | exact HB.out)⟩⟩
      · rw [if_neg c10] at H
        have c10b0 : decide (100 < (l2.length : Int)) = false := decide_eq_false c10
        have c10b1 : decide (100 < l2.length) = false := decide_eq_false (by omega)
        clear c10
        by_cases c11 : (l3.length : Int) > 100
        · rw [if_pos c11] at H
          have c11b0 : decide (100 < (l3.length : Int)) = true := decide_eq_true c11
          have c11b1 : decide (100 < l3.length) = true := decide_eq_true (by omega)
          clear c11
          have H' := Aside0.mk H
          clear H
          go_wp2
          go_meet
          case rel => exact ⟨_, (true), (by first | rfl | (simp; done) | (simp [*]; done)), H', ⟨by first | omega | exact Nat.le_refl _⟩, ⟨by repeat (first | (with_reducible first | exact HB.out | apply below_alloc | apply pw_below_drewN | apply below_drew1) | exact HB.out)⟩⟩
        · rw [if_neg c11] at H
          have c11b0 : decide (100 < (l3.length : Int)) = false := decide_eq_false c11
          have c11b1 : decide (100 < l3.length) = false := decide_eq_false (by omega)
          clear c11
          have H' := Aside0.mk H
          clear H
          go_wp2
          go_meet
          case rel => exact ⟨_, (decide ((l4.length : Int) > 100)), (by first | rfl | (simp; done) | (simp [*]; done)), H', ⟨by first | omega | exact Nat.le_refl _⟩, ⟨by repeat (first | (with_reducible first | exact HB.out | apply below_alloc | apply pw_below_drewN | apply below_drew1) | exact HB.out)⟩⟩
  case rest =>
    clear HC7
    try clear c1
    try clear c2
    try clear p2
    try clear c3
    try clear c4
    try clear c9
    try clear c9b0
    try clear c9b1
    try clear c10
    try clear c10b0
    try clear c10b1
    try clear c11
    try clear c11b0
    try clear c11b1
    obtain ⟨kq, x44_6, rfl, HA, HJ6, HB⟩ := hcut
    cases kq with
    | zero => exact absurd HA.out (by simp [chargeparklaw42_SettleMatchesReference.j0])
    | succ kj6 =>
      have H := HA.out
      clear HA
      simp only [chargeparklaw42_SettleMatchesReference.j0] at H
      by_cases c12 : x44_6 = true
      · subst c12
        have H1 : (some t288) = some r := by rw [if_pos rfl] at H; exact H
        clear H
        have H := H1
        clear H1
        obtain rfl := Option.some.inj H
        go_wp2
        go_ret
        exact ⟨by first | rfl | (simp [errW_none, errW_some] <;> rfl) | (simp [*, errW_none, errW_some] <;> rfl), by repeat (first | (with_reducible first | exact HB.out | apply below_alloc | apply pw_below_drewN | apply below_drew1) | exact HB.out)⟩
      · replace c12 := Bool.eq_false_iff.mpr c12
        subst c12
        have H1 : ((settle_Net.f l0 a1).bind fun bt289 => ((chargeparkref42_Net.f kj6 l0 a1).bind fun bt293 => ((settle_Payments.f kj6 l2).bind fun bt297 => ((chargeparkref42_Payments.f kj6 l2).bind fun bt301 => ((settle_Dispute.f kj6 l3 l4).bind fun bt305 => ((chargeparkref42_Dispute.f kj6 l3 l4).bind fun bt308 => (if t288 = true then ((chargeparkref42_Ints.f kj6 bt289.1 bt293.1).bind fun t311 => (if t311 = true then (if bt289.2 = bt293.2 then ((chargeparkref42_Same.f kj6 bt297.1 bt301.1).bind fun t312 => (if t312 = true then (if bt297.2 = bt301.2 then (if bt305.1 = bt308.1 then (if (bt305.2.1 == bt308.2.1) = true then (some (bt305.2.2 == bt308.2.2)) else (none)) else (none)) else (none)) else (none))) else (none)) else (none))) else (none)))))))) = some r := by rw [if_neg (show ¬ (false = true) by decide)] at H; exact H
        clear H
        have H := H1
        clear H1
        replace H := Option.bind_eq_some_iff.mp H
        obtain ⟨⟨t289, t290⟩, A130, H⟩ := H
        replace H : ((chargeparkref42_Net.f kj6 l0 a1).bind fun bt293 => ((settle_Payments.f kj6 l2).bind fun bt297 => ((chargeparkref42_Payments.f kj6 l2).bind fun bt301 => ((settle_Dispute.f kj6 l3 l4).bind fun bt305 => ((chargeparkref42_Dispute.f kj6 l3 l4).bind fun bt308 => (if t288 = true then ((chargeparkref42_Ints.f kj6 t289 bt293.1).bind fun t311 => (if t311 = true then (if t290 = bt293.2 then ((chargeparkref42_Same.f kj6 bt297.1 bt301.1).bind fun t312 => (if t312 = true then (if bt297.2 = bt301.2 then (if bt305.1 = bt308.1 then (if (bt305.2.1 == bt308.2.1) = true then (some (bt305.2.2 == bt308.2.2)) else (none)) else (none)) else (none)) else (none))) else (none)) else (none))) else (none))))))) = some r := H
        have A13 := Aside0.mk A130
        clear A130
        replace H := Option.bind_eq_some_iff.mp H
        obtain ⟨⟨t293, t294⟩, A140, H⟩ := H
        replace H : ((settle_Payments.f kj6 l2).bind fun bt297 => ((chargeparkref42_Payments.f kj6 l2).bind fun bt301 => ((settle_Dispute.f kj6 l3 l4).bind fun bt305 => ((chargeparkref42_Dispute.f kj6 l3 l4).bind fun bt308 => (if t288 = true then ((chargeparkref42_Ints.f kj6 t289 t293).bind fun t311 => (if t311 = true then (if t290 = t294 then ((chargeparkref42_Same.f kj6 bt297.1 bt301.1).bind fun t312 => (if t312 = true then (if bt297.2 = bt301.2 then (if bt305.1 = bt308.1 then (if (bt305.2.1 == bt308.2.1) = true then (some (bt305.2.2 == bt308.2.2)) else (none)) else (none)) else (none)) else (none))) else (none)) else (none))) else (none)))))) = some r := H
        have A14 := Aside0.mk A140
        clear A140
        replace H := Option.bind_eq_some_iff.mp H
        obtain ⟨⟨t297, t298⟩, A150, H⟩ := H
        replace H : ((chargeparkref42_Payments.f kj6 l2).bind fun bt301 => ((settle_Dispute.f kj6 l3 l4).bind fun bt305 => ((chargeparkref42_Dispute.f kj6 l3 l4).bind fun bt308 => (if t288 = true then ((chargeparkref42_Ints.f kj6 t289 t293).bind fun t311 => (if t311 = true then (if t290 = t294 then ((chargeparkref42_Same.f kj6 t297 bt301.1).bind fun t312 => (if t312 = true then (if t298 = bt301.2 then (if bt305.1 = bt308.1 then (if (bt305.2.1 == bt308.2.1) = true then (some (bt305.2.2 == bt308.2.2)) else (none)) else (none)) else (none)) else (none))) else (none)) else (none))) else (none))))) = some r := H
        have A15 := Aside0.mk A150
        clear A150
        replace H := Option.bind_eq_some_iff.mp H
        obtain ⟨⟨t301, t302⟩, A160, H⟩ := H
        replace H : ((settle_Dispute.f kj6 l3 l4).bind fun bt305 => ((chargeparkref42_Dispute.f kj6 l3 l4).bind fun bt308 => (if t288 = true then ((chargeparkref42_Ints.f kj6 t289 t293).bind fun t311 => (if t311 = true then (if t290 = t294 then ((chargeparkref42_Same.f kj6 t297 t301).bind fun t312 => (if t312 = true then (if t298 = t302 then (if bt305.1 = bt308.1 then (if (bt305.2.1 == bt308.2.1) = true then (some (bt305.2.2 == bt308.2.2)) else (none)) else (none)) else (none)) else (none))) else (none)) else (none))) else (none)))) = some r := H
        have A16 := Aside0.mk A160
        clear A160
        replace H := Option.bind_eq_some_iff.mp H
        obtain ⟨⟨t305, t306, t307⟩, A170, H⟩ := H
        replace H : ((chargeparkref42_Dispute.f kj6 l3 l4).bind fun bt308 => (if t288 = true then ((chargeparkref42_Ints.f kj6 t289 t293).bind fun t311 => (if t311 = true then (if t290 = t294 then ((chargeparkref42_Same.f kj6 t297 t301).bind fun t312 => (if t312 = true then (if t298 = t302 then (if t305 = bt308.1 then (if (t306 == bt308.2.1) = true then (some (t307 == bt308.2.2)) else (none)) else (none)) else (none)) else (none))) else (none)) else (none))) else (none))) = some r := H
        have A17 := Aside0.mk A170
        clear A170
        replace H := Option.bind_eq_some_iff.mp H
        obtain ⟨⟨t308, t309, t310⟩, A180, H⟩ := H
        replace H : (if t288 = true then ((chargeparkref42_Ints.f kj6 t289 t293).bind fun t311 => (if t311 = true then (if t290 = t294 then ((chargeparkref42_Same.f kj6 t297 t301).bind fun t312 => (if t312 = true then (if t298 = t302 then (if t305 = t308 then (if (t306 == t309) = true then (some (t307 == t310)) else (none)) else (none)) else (none)) else (none))) else (none)) else (none))) else (none)) = some r := H
        have A18 := Aside0.mk A180
        clear A180
        by_cases c19 : t288 = true
        · subst c19
          have H1 : ((chargeparkref42_Ints.f kj6 t289 t293).bind fun t311 => (if t311 = true then (if t290 = t294 then ((chargeparkref42_Same.f kj6 t297 t301).bind fun t312 => (if t312 = true then (if t298 = t302 then (if t305 = t308 then (if (t306 == t309) = true then (some (t307 == t310)) else (none)) else (none)) else (none)) else (none))) else (none)) else (none))) = some r := by rw [if_pos rfl] at H; exact H
          clear H
          have H := H1
          clear H1
          replace H := Option.bind_eq_some_iff.mp H
          obtain ⟨t311, A200, H⟩ := H
          replace H : (if t311 = true then (if t290 = t294 then ((chargeparkref42_Same.f kj6 t297 t301).bind fun t312 => (if t312 = true then (if t298 = t302 then (if t305 = t308 then (if (t306 == t309) = true then (some (t307 == t310)) else (none)) else (none)) else (none)) else (none))) else (none)) else (none)) = some r := H
          have A20 := Aside0.mk A200
          clear A200
          by_cases c21 : t311 = true
          · subst c21
            have H1 : (if t290 = t294 then ((chargeparkref42_Same.f kj6 t297 t301).bind fun t312 => (if t312 = true then (if t298 = t302 then (if t305 = t308 then (if (t306 == t309) = true then (some (t307 == t310)) else (none)) else (none)) else (none)) else (none))) else (none)) = some r := by rw [if_pos rfl] at H; exact H
            clear H
            have H := H1
            clear H1
            by_cases c22 : t290 = t294
            · rw [if_pos c22] at H
              have c22b0 : (t290 == t294) = true := beq_iff_eq.mpr c22
              have c22b1 : (t290 != t294) = false := bne_eq_false_iff_eq.mpr c22
              clear c22
              replace H := Option.bind_eq_some_iff.mp H
              obtain ⟨t312, A230, H⟩ := H
              replace H : (if t312 = true then (if t298 = t302 then (if t305 = t308 then (if (t306 == t309) = true then (some (t307 == t310)) else (none)) else (none)) else (none)) else (none)) = some r := H
              have A23 := Aside0.mk A230
              clear A230
              by_cases c24 : t312 = true
              · subst c24
                have H1 : (if t298 = t302 then (if t305 = t308 then (if (t306 == t309) = true then (some (t307 == t310)) else (none)) else (none)) else (none)) = some r := by rw [if_pos rfl] at H; exact H
                clear H
                have H := H1
                clear H1
                by_cases c25 : t298 = t302
                · rw [if_pos c25] at H
                  have c25b0 : (t298 == t302) = true := beq_iff_eq.mpr c25
                  have c25b1 : (t298 != t302) = false := bne_eq_false_iff_eq.mpr c25
                  clear c25
                  by_cases c26 : t305 = t308
                  · rw [if_pos c26] at H
                    have c26b0 : (t305 == t308) = true := beq_iff_eq.mpr c26
                    have c26b1 : (t305 != t308) = false := bne_eq_false_iff_eq.mpr c26
                    clear c26
                    by_cases c27 : (t306 == t309) = true
                    · rw [if_pos c27] at H
                      have c27b0 : (t306 == t309) = true := c27
                      (try (have c27b1 : decide (t306 = t309) = true := by simpa using c27))
                      (try (have c27b2 : (t306 == t309) = true := by simpa using c27))
                      clear c27
                      obtain rfl := Option.some.inj H
                      go_wp2_with (first | ((with_reducible refine gate_callee (f := 10) rfl ?_); refine goesL_ (some 49) rfl rfl Try.func10 (by kernel_rfl) rfl #[.slice A0 l0.length c0, .int .i64 a1] rfl (by (try simp only [List.map_toArray, List.map_cons, List.map_nil]); first | done | rfl | (simp only [List.length_drop, List.length_take]; rfl)) ?_; (with_reducible refine (settle_Net.calls _ _ l0 a1 t289 t290 _ ?side1 ?side2 A13.out).mono ?_); (case side1 => repeat (first | exact (Kd.C_below HR0.out HB.out) | (with_reducible refine Kd.C_alloc ?_ _) | (with_reducible refine Kd.C_drewN ?_ _) | (with_reducible refine Kd.C_drew ?_))); (case side2 => exact HC0.out); rintro e w28 ⟨v291, rfl, ho0, hb⟩; refine ⟨_, rfl, ?_⟩; have n0_ := Aside0.mk (Kd.R_lower ho0 (below_size (by repeat (first | (with_reducible first | exact HB.out | apply below_alloc | apply pw_below_drewN | apply below_drew1) | exact HB.out)))); have n1_ := Aside0.mk (below_step (by repeat (first | (with_reducible first | exact HB.out | apply below_alloc | apply pw_below_drewN | apply below_drew1) | exact HB.out)) hb); clear HB; have HO292 := n0_; have HB := n1_; clear n0_ n1_; (try clear hb); (try clear hb2); (try clear hk); (try clear hi); (try clear ho0)) | ((with_reducible refine gate_callee (f := 11) rfl ?_); refine goesL_ (some 55) rfl rfl Try.func11 (by kernel_rfl) rfl #[.slice A0 l0.length c0, .int .i64 a1] rfl (by (try simp only [List.map_toArray, List.map_cons, List.map_nil]); first | done | rfl | (simp only [List.length_drop, List.length_take]; rfl)) ?_; (with_reducible refine (chargeparkref42_Net.calls kj6 _ _ l0 a1 t293 t294 _ ?side1 ?side2 A14.out).mono ?_); (case side1 => repeat (first | exact (Kd.C_below HR0.out HB.out) | (with_reducible refine Kd.C_alloc ?_ _) | (with_reducible refine Kd.C_drewN ?_ _) | (with_reducible refine Kd.C_drew ?_))); (case side2 => exact HC0.out); rintro e w29 ⟨v295, rfl, ho0, hb⟩; refine ⟨_, rfl, ?_⟩; have n0_ := Aside0.mk (Kd.R_elder' (by (with_reducible repeat (first | apply Kd.R_alloc | apply Kd.R_drewN | apply Kd.R_drew)); exact HO292.out) (Kd.R_base ho0) hb); have n1_ := Aside0.mk (Kd.R_lower (Kd.R_new' ho0 (Kd.R_lt (by (with_reducible repeat (first | apply Kd.R_alloc | apply Kd.R_drewN | apply Kd.R_drew)); exact HO292.out))) (below_size (by repeat (first | (with_reducible first | exact HB.out | apply below_alloc | apply pw_below_drewN | apply below_drew1) | exact HB.out)))); have n2_ := Aside0.mk (below_step (by repeat (first | (with_reducible first | exact HB.out | apply below_alloc | apply pw_below_drewN | apply below_drew1) | exact HB.out)) hb); clear HO292; clear HB; have HO292 := n0_; have HO296 := n1_; have HB := n2_; clear n0_ n1_ n2_; (try clear hb); (try clear hb2); (try clear hk); (try clear hi); (try clear ho0)) | ((with_reducible refine gate_callee (f := 12) rfl ?_); refine goesL_ (some 60) rfl rfl Try.func12 (by kernel_rfl) rfl #[.slice A2 l2.length c2] rfl (by (try simp only [List.map_toArray, List.map_cons, List.map_nil]); first | done | rfl | (simp only [List.length_drop, List.length_take]; rfl)) ?_; (with_reducible refine (settle_Payments.calls kj6 _ _ l2 t297 t298 _ ?side1 ?side2 A15.out).mono ?_); (case side1 => repeat (first | exact (Kd.C_below HR2.out HB.out) | (with_reducible refine Kd.C_alloc ?_ _) | (with_reducible refine Kd.C_drewN ?_ _) | (with_reducible refine Kd.C_drew ?_))); (case side2 => exact HC2.out); rintro e w30 ⟨v299, rfl, ho0, hb⟩; refine ⟨_, rfl, ?_⟩; have n0_ := Aside0.mk (Kd.R_below (by (with_reducible repeat (first | apply Kd.R_alloc | apply Kd.R_drewN | apply Kd.R_drew)); exact HO292.out) hb); have n1_ := Aside0.mk (Kd.R_below (by (with_reducible repeat (first | apply Kd.R_alloc | apply Kd.R_drewN | apply Kd.R_drew)); exact HO296.out) hb); have n2_ := Aside0.mk (Kd.R_lower ho0 (below_size (by repeat (first | (with_reducible first | exact HB.out | apply below_alloc | apply pw_below_drewN | apply below_drew1) | exact HB.out)))); have n3_ := Aside0.mk (below_step (by repeat (first | (with_reducible first | exact HB.out | apply below_alloc | apply pw_below_drewN | apply below_drew1) | exact HB.out)) hb); clear HO292; clear HO296; clear HB; have HO292 := n0_; have HO296 := n1_; have HO300 := n2_; have HB := n3_; clear n0_ n1_ n2_ n3_; (try clear hb); (try clear hb2); (try clear hk); (try clear hi); (try clear ho0)) | ((with_reducible refine gate_callee (f := 13) rfl ?_); refine goesL_ (some 65) rfl rfl Try.func13 (by kernel_rfl) rfl #[.slice A2 l2.length c2] rfl (by (try simp only [List.map_toArray, List.map_cons, List.map_nil]); first | done | rfl | (simp only [List.length_drop, List.length_take]; rfl)) ?_; (with_reducible refine (chargeparkref42_Payments.calls kj6 _ _ l2 t301 t302 _ ?side1 ?side2 A16.out).mono ?_); (case side1 => repeat (first | exact (Kd.C_below HR2.out HB.out) | (with_reducible refine Kd.C_alloc ?_ _) | (with_reducible refine Kd.C_drewN ?_ _) | (with_reducible refine Kd.C_drew ?_))); (case side2 => exact HC2.out); rintro e w31 ⟨v303, rfl, ho0, hb⟩; refine ⟨_, rfl, ?_⟩; have n0_ := Aside0.mk (Kd.R_below (by (with_reducible repeat (first | apply Kd.R_alloc | apply Kd.R_drewN | apply Kd.R_drew)); exact HO292.out) hb); have n1_ := Aside0.mk (Kd.R_below (by (with_reducible repeat (first | apply Kd.R_alloc | apply Kd.R_drewN | apply Kd.R_drew)); exact HO296.out) hb); have n2_ := Aside0.mk (Kd.R_elder' (by (with_reducible repeat (first | apply Kd.R_alloc | apply Kd.R_drewN | apply Kd.R_drew)); exact HO300.out) (Kd.R_base ho0) hb); have n3_ := Aside0.mk (Kd.R_lower (Kd.R_new' ho0 (Kd.R_lt (by (with_reducible repeat (first | apply Kd.R_alloc | apply Kd.R_drewN | apply Kd.R_drew)); exact HO300.out))) (below_size (by repeat (first | (with_reducible first | exact HB.out | apply below_alloc | apply pw_below_drewN | apply below_drew1) | exact HB.out)))); have n4_ := Aside0.mk (below_step (by repeat (first | (with_reducible first | exact HB.out | apply below_alloc | apply pw_below_drewN | apply below_drew1) | exact HB.out)) hb); clear HO292; clear HO296; clear HO300; clear HB; have HO292 := n0_; have HO296 := n1_; have HO300 := n2_; have HO304 := n3_; have HB := n4_; clear n0_ n1_ n2_ n3_ n4_; (try clear hb); (try clear hb2); (try clear hk); (try clear hi); (try clear ho0)) | ((with_reducible refine gate_callee (f := 14) rfl ?_); refine goesL_ (some 71) rfl rfl Try.func14 (by kernel_rfl) rfl #[.slice A3 l3.length c3, .slice A4 l4.length c4] rfl (by (try simp only [List.map_toArray, List.map_cons, List.map_nil]); first | done | rfl | (simp only [List.length_drop, List.length_take]; rfl)) ?_; (with_reducible refine (settle_Dispute.calls kj6 _ _ l3 _ _ l4 t305 t306 t307 _ ?side1 ?side2 ?side3 ?side4 A17.out).mono ?_); (case side1 => repeat (first | exact (Kd.C_below HR3.out HB.out) | (with_reducible refine Kd.C_alloc ?_ _) | (with_reducible refine Kd.C_drewN ?_ _) | (with_reducible refine Kd.C_drew ?_))); (case side2 => exact HC3.out); (case side3 => repeat (first | exact (Kd.C_below HR4.out HB.out) | (with_reducible refine Kd.C_alloc ?_ _) | (with_reducible refine Kd.C_drewN ?_ _) | (with_reducible refine Kd.C_drew ?_))); (case side4 => exact HC4.out); rintro e w32 ⟨rfl, hb⟩; refine ⟨_, rfl, ?_⟩; have n0_ := Aside0.mk (Kd.R_below (by (with_reducible repeat (first | apply Kd.R_alloc | apply Kd.R_drewN | apply Kd.R_drew)); exact HO292.out) hb); have n1_ := Aside0.mk (Kd.R_below (by (with_reducible repeat (first | apply Kd.R_alloc | apply Kd.R_drewN | apply Kd.R_drew)); exact HO296.out) hb); have n2_ := Aside0.mk (Kd.R_below (by (with_reducible repeat (first | apply Kd.R_alloc | apply Kd.R_drewN | apply Kd.R_drew)); exact HO300.out) hb); have n3_ := Aside0.mk (Kd.R_below (by (with_reducible repeat (first | apply Kd.R_alloc | apply Kd.R_drewN | apply Kd.R_drew)); exact HO304.out) hb); have n4_ := Aside0.mk (below_step (by repeat (first | (with_reducible first | exact HB.out | apply below_alloc | apply pw_below_drewN | apply below_drew1) | exact HB.out)) hb); clear HO292; clear HO296; clear HO300; clear HO304; clear HB; have HO292 := n0_; have HO296 := n1_; have HO300 := n2_; have HO304 := n3_; have HB := n4_; clear n0_ n1_ n2_ n3_ n4_; (try clear hb); (try clear hb2); (try clear hk); (try clear hi)) | ((with_reducible refine gate_callee (f := 15) rfl ?_); refine goesL_ (some 78) rfl rfl Try.func15 (by kernel_rfl) rfl #[.slice A3 l3.length c3, .slice A4 l4.length c4] rfl (by (try simp only [List.map_toArray, List.map_cons, List.map_nil]); first | done | rfl | (simp only [List.length_drop, List.length_take]; rfl)) ?_; (with_reducible refine (chargeparkref42_Dispute.calls kj6 _ _ l3 _ _ l4 t308 t309 t310 _ ?side1 ?side2 ?side3 ?side4 A18.out).mono ?_); (case side1 => repeat (first | exact (Kd.C_below HR3.out HB.out) | (with_reducible refine Kd.C_alloc ?_ _) | (with_reducible refine Kd.C_drewN ?_ _) | (with_reducible refine Kd.C_drew ?_))); (case side2 => exact HC3.out); (case side3 => repeat (first | exact (Kd.C_below HR4.out HB.out) | (with_reducible refine Kd.C_alloc ?_ _) | (with_reducible refine Kd.C_drewN ?_ _) | (with_reducible refine Kd.C_drew ?_))); (case side4 => exact HC4.out); rintro e w' ⟨rfl, ⟨nd, rfl⟩⟩; refine ⟨_, rfl, ?_⟩; obtain ⟨Ao33, co33, eo33⟩ := Kd.R_slice HO292.out; subst eo33; obtain ⟨Ao34, co34, eo34⟩ := Kd.R_slice HO296.out; subst eo34) | (go_at_call 16; (with_reducible refine (chargeparkref42_Ints.calls kj6 _ _ t289 _ _ t293 true _ ?side1 ?side2 ?side3 ?side4 A20.out).mono ?_); (case side1 => repeat (first | exact (Kd.R_reads' HO292.out).2.2 | (with_reducible refine Kd.C_alloc ?_ _) | (with_reducible refine Kd.C_drewN ?_ _) | (with_reducible refine Kd.C_drew ?_))); (case side2 => exact (Kd.R_reads' HO292.out).2.1); (case side3 => repeat (first | exact (Kd.R_reads' HO296.out).2.2 | (with_reducible refine Kd.C_alloc ?_ _) | (with_reducible refine Kd.C_drewN ?_ _) | (with_reducible refine Kd.C_drew ?_))); (case side4 => exact (Kd.R_reads' HO296.out).2.1); rintro e w' ⟨rfl, ⟨nd, rfl⟩⟩; obtain ⟨Ao35, co35, eo35⟩ := Kd.R_slice HO300.out; subst eo35; obtain ⟨Ao36, co36, eo36⟩ := Kd.R_slice HO304.out; subst eo36) | (go_at_call 17; (with_reducible refine (chargeparkref42_Same.calls kj6 _ _ t297 _ _ t301 true _ ?side1 ?side2 ?side3 ?side4 A23.out).mono ?_); (case side1 => repeat (first | exact (Kd.R_reads' HO300.out).2.2 | (with_reducible refine Kd.C_alloc ?_ _) | (with_reducible refine Kd.C_drewN ?_ _) | (with_reducible refine Kd.C_drew ?_))); (case side2 => exact (Kd.R_reads' HO300.out).2.1); (case side3 => repeat (first | exact (Kd.R_reads' HO304.out).2.2 | (with_reducible refine Kd.C_alloc ?_ _) | (with_reducible refine Kd.C_drewN ?_ _) | (with_reducible refine Kd.C_drew ?_))); (case side4 => exact (Kd.R_reads' HO304.out).2.1); rintro e w' ⟨rfl, ⟨nd, rfl⟩⟩))
                      go_ret
                      exact ⟨by first | rfl | (simp [errW_none, errW_some] <;> rfl) | (simp [*, errW_none, errW_some] <;> rfl), by repeat (first | (with_reducible first | exact HB.out | apply below_alloc | apply pw_below_drewN | apply below_drew1) | exact HB.out)⟩
                    · rw [if_neg c27] at H
                      exact absurd H (by simp)
                  · rw [if_neg c26] at H
                    exact absurd H (by simp)
                · rw [if_neg c25] at H
                  exact absurd H (by simp)
              · replace c24 := Bool.eq_false_iff.mpr c24
                subst c24
                have H1 : (none) = some r := by rw [if_neg (show ¬ (false = true) by decide)] at H; exact H
                clear H
                have H := H1
                clear H1
                exact absurd H (by simp)
            · rw [if_neg c22] at H
              exact absurd H (by simp)
          · replace c21 := Bool.eq_false_iff.mpr c21
            subst c21
            have H1 : (none) = some r := by rw [if_neg (show ¬ (false = true) by decide)] at H; exact H
            clear H
            have H := H1
            clear H1
            exact absurd H (by simp)
        · replace c19 := Bool.eq_false_iff.mpr c19
          subst c19
          have H1 : (none) = some r := by rw [if_neg (show ¬ (false = true) by decide)] at H; exact H
          clear H
          have H := H1
          clear H1
          exact absurd H (by simp)

/-- THE ONE PURE STATEMENT of chargeparklaw42_SettleMatchesReference: yours. -/
def chargeparklaw42_SettleMatchesReference.Pure : Prop := ∀ (l0 : List (S40)) (a1 : Int) (l2 : List Int) (l3 : List (S49)) (l4 : List (S49)), l0.length ≤ maxLen → (∀ y ∈ l0, ok40 y) → (Lit.int .i64 a1).wf = true → l2.length ≤ maxLen → l2.length * 8 ≤ 140737488351232 → (∀ x ∈ l2, (Lit.int .i64 x).wf = true) → l3.length ≤ maxLen → (∀ y ∈ l3, ok49 y) → l4.length ≤ maxLen → (∀ y ∈ l4, ok49 y) → ∃ k, chargeparklaw42_SettleMatchesReference.f k l0 a1 l2 l3 l4 = some true
theorem chargeparklaw42_SettleMatchesReference.walk (P : chargeparklaw42_SettleMatchesReference.Pure) (A0 : Option Addr) (c0 : Nat) (l0 : List (S40)) (a1 : Int) (a2 : Option Addr) (len2 cap2 : Nat) (z2 : List Int) (A3 : Option Addr) (c3 : Nat) (l3 : List (S49)) (A4 : Option Addr) (c4 : Nat) (l4 : List (S49)) (w : World) (hC0 : Kd.C k40 w A0 l0.length l0) (hc0 : l0.length ≤ c0) (hm0 : l0.length ≤ maxLen) (ho0 : ∀ y ∈ l0, ok40 y) (w1 : (Lit.int .i64 a1).wf = true) (w2 : (a2 = none ∧ len2 = 0 ∧ cap2 = 0 ∧ z2 = []) ∨ ∃ x, a2 = some x ∧ len2 ≤ cap2 ∧ cap2 ≤ maxLen ∧ z2.length = cap2 ∧ (∀ i, i < z2.length → w.cell? (x.add i) = some (.int .i64 (z2.getD i 0))) ∧ ∀ n ∈ z2, (Lit.int .i64 n).wf = true) (y2 : len2 * 8 ≤ 140737488351232) (hC3 : Kd.C k49 w A3 l3.length l3) (hc3 : l3.length ≤ c3) (hm3 : l3.length ≤ maxLen) (ho3 : ∀ y ∈ l3, ok49 y) (hC4 : Kd.C k49 w A4 l4.length l4) (hc4 : l4.length ≤ c4) (hm4 : l4.length ≤ maxLen) (ho4 : ∀ y ∈ l4, ok49 y) :
    Calls Try.prog 3 #[.slice A0 l0.length c0, .int .i64 a1, .slice a2 len2 cap2, .slice A3 l3.length c3, .slice A4 l4.length c4] w fun e w' => e = .returned (.bool true) ∧ Below w.heap.size w w' := by
  obtain ⟨l2, rfl, hr2, hm2, hw2, hc2⟩ := ReadsInt.ofRowC w2
  obtain ⟨k, h⟩ := P l0 a1 l2 l3 l4 hm0 ho0 w1 hm2 y2 hw2 hm3 ho3 hm4 ho4
  refine (chargeparklaw42_SettleMatchesReference.calls k _ _ l0 a1 _ _ l2 _ _ l3 _ _ l4 true w hC0 hc0 (Kd.C_of_reads (d := (0 : Int)) (h1 := fun _ => rfl) hr2) hc2 hC3 hc3 hC4 hc4 h).mono ?_
  rintro e w' ⟨rfl, hd⟩
  exact ⟨rfl, hd⟩


end Go.Proofs.Ytanaaphabeonoaa.PAll
