-- Written by a program of this session (xprint.py, over the kit's print.py), with contracts proved by hand.
import Derived.Test.YtpngiddelhcepaaPAllx0
import Derived.Test.YtpngiddelhcepaaPAllx2
import Derived.Test.YtpngiddelhcepaaPAllx3
import Derived.Test.YtpngiddelhcepaaPAllx8
namespace Go.Proofs.Ytpngiddelhcepaa.PAll
open Go.RowKit Go.Proofs.Ytpngiddelhcepaa.Open Go.Proofs.YtpngiddelhcepaaW.PrintWords Go.Proofs.YtpngiddelhcepaaW.PrintLast Go.Proofs.YtpngiddelhcepaaW.PrintMore
attribute [local go_sem] max2_int min2_int max_two min_two max_three min_three max_four min_four   -- for this text's walks alone
set_option linter.unusedVariables false
set_option linter.unusedSimpArgs false

/-! ### clock_Shown: function 22 -/
def clock_Shown.f (a0 : Int) (a1 : Int) : Option (Int × Int) := (clock_isTicks_int.f a0).bind fun t330 => (if t330 = true then (if a1 < (-200) then (some (0, 1)) else (if a1 > 200 then (some (0, 1)) else ((clock_rate_down.f (wrap64 (1000000 + a1)) a0).bind fun t331 => (some (t331, 0))))) else (some (0, 1)))
set_option maxHeartbeats 8000000 in
set_option maxRecDepth 100000 in
theorem clock_Shown.calls (a0 : Int) (a1 : Int) (r1 : Int) (r2 : Int) (w : World) (h : clock_Shown.f a0 a1 = some (r1, r2)) :
    Calls Try.prog 22 #[.int .i64 a0, .int .i64 a1] w fun e w' => e = .returned (.tuple #[.int .i64 r1, .int .i64 r2]) ∧ Drawn0 w w' := by
  have H : ((clock_isTicks_int.f a0).bind fun t330 => (if t330 = true then (if a1 < (-200) then (some (0, 1)) else (if a1 > 200 then (some (0, 1)) else ((clock_rate_down.f (wrap64 (1000000 + a1)) a0).bind fun t331 => (some (t331, 0))))) else (some (0, 1)))) = some (r1, r2) := h
  clear h
  replace H := Option.bind_eq_some_iff.mp H
  obtain ⟨t330, A30, H⟩ := H
  replace H : (if t330 = true then (if a1 < (-200) then (some (0, 1)) else (if a1 > 200 then (some (0, 1)) else ((clock_rate_down.f (wrap64 (1000000 + a1)) a0).bind fun t331 => (some (t331, 0))))) else (some (0, 1))) = some (r1, r2) := H
  have A3 := Aside0.mk A30
  clear A30
  by_cases c4 : t330 = true
  · subst c4
    have H1 : (if a1 < (-200) then (some (0, 1)) else (if a1 > 200 then (some (0, 1)) else ((clock_rate_down.f (wrap64 (1000000 + a1)) a0).bind fun t331 => (some (t331, 0))))) = some (r1, r2) := by rw [if_pos rfl] at H; exact H
    clear H
    have H := H1
    clear H1
    by_cases c5 : a1 < (-200)
    · rw [if_pos c5] at H
      have c5b0 : decide (a1 < (-200)) = true := decide_eq_true c5
      clear c5
      simp only [Option.some.injEq, Prod.mk.injEq] at H
      obtain ⟨rfl, rfl⟩ := H
      go_enter Try.func22, Try.ntmps22
      go_wp2_with (first | ((with_reducible refine gate_callee (f := 35) rfl ?_); refine goesL_ (some 7) rfl rfl Try.func35 (by kernel_rfl) rfl #[.int .i64 a0] rfl (by (try simp only [List.map_toArray, List.map_cons, List.map_nil]); first | done | rfl | (simp only [List.length_drop, List.length_take]; rfl)) ?_; (with_reducible refine (clock_isTicks_int.calls a0 true _ A3.out).mono ?_); rintro e w' ⟨rfl, ⟨nd, rfl⟩⟩; refine ⟨_, rfl, ?_⟩))
      go_ret2
      exact ⟨by first | rfl | (simp; done) | (simp [*]; done), by repeat (first | exact Drawn0.refl _ | apply Drawn0.step)⟩
    · rw [if_neg c5] at H
      have c5b0 : decide (a1 < (-200)) = false := decide_eq_false c5
      clear c5
      by_cases c6 : a1 > 200
      · rw [if_pos c6] at H
        have c6b0 : decide (200 < a1) = true := decide_eq_true c6
        clear c6
        simp only [Option.some.injEq, Prod.mk.injEq] at H
        obtain ⟨rfl, rfl⟩ := H
        go_enter Try.func22, Try.ntmps22
        go_wp2_with (first | ((with_reducible refine gate_callee (f := 35) rfl ?_); refine goesL_ (some 7) rfl rfl Try.func35 (by kernel_rfl) rfl #[.int .i64 a0] rfl (by (try simp only [List.map_toArray, List.map_cons, List.map_nil]); first | done | rfl | (simp only [List.length_drop, List.length_take]; rfl)) ?_; (with_reducible refine (clock_isTicks_int.calls a0 true _ A3.out).mono ?_); rintro e w' ⟨rfl, ⟨nd, rfl⟩⟩; refine ⟨_, rfl, ?_⟩))
        go_ret2
        exact ⟨by first | rfl | (simp; done) | (simp [*]; done), by repeat (first | exact Drawn0.refl _ | apply Drawn0.step)⟩
      · rw [if_neg c6] at H
        have c6b0 : decide (200 < a1) = false := decide_eq_false c6
        clear c6
        replace H := Option.bind_eq_some_iff.mp H
        obtain ⟨t331, A70, H⟩ := H
        replace H : (some (t331, 0)) = some (r1, r2) := H
        have A7 := Aside0.mk A70
        clear A70
        simp only [Option.some.injEq, Prod.mk.injEq] at H
        obtain ⟨rfl, rfl⟩ := H
        go_enter Try.func22, Try.ntmps22
        go_wp2_with (first | ((with_reducible refine gate_callee (f := 35) rfl ?_); refine goesL_ (some 7) rfl rfl Try.func35 (by kernel_rfl) rfl #[.int .i64 a0] rfl (by (try simp only [List.map_toArray, List.map_cons, List.map_nil]); first | done | rfl | (simp only [List.length_drop, List.length_take]; rfl)) ?_; (with_reducible refine (clock_isTicks_int.calls a0 true _ A3.out).mono ?_); rintro e w' ⟨rfl, ⟨nd, rfl⟩⟩; refine ⟨_, rfl, ?_⟩) | ((with_reducible refine gate_callee (f := 34) rfl ?_); refine goesL_ (some 20) rfl rfl Try.func34 (by kernel_rfl) rfl #[.int .i64 (wrap64 (1000000 + a1)), .int .i64 a0] rfl (by (try simp only [List.map_toArray, List.map_cons, List.map_nil]); first | done | rfl | (simp only [List.length_drop, List.length_take]; rfl)) ?_; (with_reducible refine (clock_rate_down.calls (wrap64 (1000000 + a1)) a0 t331 _ A7.out).mono ?_); rintro e w' ⟨rfl, ⟨nd, rfl⟩⟩; refine ⟨_, rfl, ?_⟩))
        go_ret2
        exact ⟨by first | rfl | (simp; done) | (simp [*]; done), by repeat (first | exact Drawn0.refl _ | apply Drawn0.step)⟩
  · replace c4 := Bool.eq_false_iff.mpr c4
    subst c4
    have H1 : (some (0, 1)) = some (r1, r2) := by rw [if_neg (show ¬ (false = true) by decide)] at H; exact H
    clear H
    have H := H1
    clear H1
    simp only [Option.some.injEq, Prod.mk.injEq] at H
    obtain ⟨rfl, rfl⟩ := H
    go_enter Try.func22, Try.ntmps22
    go_wp2_with (first | ((with_reducible refine gate_callee (f := 35) rfl ?_); refine goesL_ (some 7) rfl rfl Try.func35 (by kernel_rfl) rfl #[.int .i64 a0] rfl (by (try simp only [List.map_toArray, List.map_cons, List.map_nil]); first | done | rfl | (simp only [List.length_drop, List.length_take]; rfl)) ?_; (with_reducible refine (clock_isTicks_int.calls a0 false _ A3.out).mono ?_); rintro e w' ⟨rfl, ⟨nd, rfl⟩⟩; refine ⟨_, rfl, ?_⟩))
    go_ret2
    exact ⟨by first | rfl | (simp; done) | (simp [*]; done), by repeat (first | exact Drawn0.refl _ | apply Drawn0.step)⟩


/-! ### chargeparklaw16_LeaseTruth: function 9 -/
mutual
def chargeparklaw16_LeaseTruth.j0 : Nat → List (S24) → List Int → Int → Int → Bool → Bool → Option (Bool)
  | 0, _, _, _, _, _, _ => none
  | k + 1, x0, x1, x2, x3, x9, x48 => if x48 = true then (some x9) else ((lease_Alive.f x0 16 x3).bind fun bt334 => (if bt334.2 = 0 then (chargeparklaw16_LeaseTruth.j1 k x0 x1 x2 x3 x9 bt334.1 ((bt334.1.length : Int) != 16)) else (chargeparklaw16_LeaseTruth.j1 k x0 x1 x2 x3 x9 bt334.1 true)))
def chargeparklaw16_LeaseTruth.j1 : Nat → List (S24) → List Int → Int → Int → Bool → List Int → Bool → Option (Bool)
  | 0, _, _, _, _, _, _, _ => none
  | k + 1, x0, x1, x2, x3, x9, x10, x62 => if x62 = true then (none) else (chargeparklaw16_LeaseTruth.l0 k x1 x2 x3 x9 x10 x0 (x0.length : Int) 0)
def chargeparklaw16_LeaseTruth.l0 : Nat → List Int → Int → Int → Bool → List Int → List (S24) → Int → Int → Option (Bool)
  | 0, _, _, _, _, _, _, _, _ => none
  | k + 1, x1, x2, x3, x9, x10, x63, x64, x65 => if x65 < x64 then (if 0 ≤ x65 then (if x65 < (x63.length : Int) then (if x65 < (x1.length : Int) then (if (rd x1 x65) > 10 then (chargeparklaw16_LeaseTruth.j3 k x1 x2 x3 x9 x10 (wrap64 (((rd_T24 x63 x65).f3) + (wrap64 (rd x1 x65)))) x63 x64 x65 true ((rd_T24 x63 x65).f0) ((rd_T24 x63 x65).f1) ((rd_T24 x63 x65).f2) ((rd_T24 x63 x65).f3) ((rd_T24 x63 x65).f4)) else (if x3 < (wrap64 (((rd_T24 x63 x65).f3) + (wrap64 (rd x1 x65)))) then (chargeparklaw16_LeaseTruth.j3 k x1 x2 x3 x9 x10 (wrap64 (((rd_T24 x63 x65).f3) + (wrap64 (rd x1 x65)))) x63 x64 x65 true ((rd_T24 x63 x65).f0) ((rd_T24 x63 x65).f1) ((rd_T24 x63 x65).f2) ((rd_T24 x63 x65).f3) ((rd_T24 x63 x65).f4)) else (chargeparklaw16_LeaseTruth.j3 k x1 x2 x3 x9 x10 (wrap64 (((rd_T24 x63 x65).f3) + (wrap64 (rd x1 x65)))) x63 x64 x65 (decide ((wrap64 (x3 - (wrap64 (((rd_T24 x63 x65).f3) + (wrap64 (rd x1 x65)))))) > 1000000)) ((rd_T24 x63 x65).f0) ((rd_T24 x63 x65).f1) ((rd_T24 x63 x65).f2) ((rd_T24 x63 x65).f3) ((rd_T24 x63 x65).f4)))) else (none)) else (none)) else (none)) else (some x9)
def chargeparklaw16_LeaseTruth.j3 : Nat → List Int → Int → Int → Bool → List Int → Int → List (S24) → Int → Int → Bool → Int → Int → Int → Int → Int → Option (Bool)
  | 0, _, _, _, _, _, _, _, _, _, _, _, _, _, _, _ => none
  | k + 1, x1, x2, x3, x9, x10, x14, x63, x64, x65, x93, x340000, x340001, x340002, x340003, x340004 => if x93 = true then (chargeparklaw16_LeaseTruth.l0 k x1 x2 x3 x9 x10 x63 x64 (wrap64 (x65 + 1))) else ((clock_Shown.f (wrap64 (x3 - x14)) x2).bind fun bt342 => (if bt342.2 = 0 then (if bt342.1 < x340004 then (if 0 ≤ x340001 then (if x340001 < (x10.length : Int) then (if x340002 > (rd x10 x340001) then (none) else (chargeparklaw16_LeaseTruth.l0 k x1 x2 x3 x9 x10 x63 x64 (wrap64 (x65 + 1)))) else (none)) else (none)) else (chargeparklaw16_LeaseTruth.l0 k x1 x2 x3 x9 x10 x63 x64 (wrap64 (x65 + 1)))) else (none)))
end
def chargeparklaw16_LeaseTruth.f (k : Nat) (l0 : List (S24)) (l1 : List Int) (a2 : Int) (a3 : Int) : Option (Bool) := (chargeparklaw16_head.f k).bind fun t332 => (if (l0.length : Int) > 100 then (chargeparklaw16_LeaseTruth.j0 k l0 l1 a2 a3 t332 true) else ((chargeparkref16_Valid.f k l0).bind fun t333 => (if t333 = true then (if (l1.length : Int) < (l0.length : Int) then (chargeparklaw16_LeaseTruth.j0 k l0 l1 a2 a3 t332 true) else (if a3 < 0 then (chargeparklaw16_LeaseTruth.j0 k l0 l1 a2 a3 t332 true) else (if a3 > 1100000 then (chargeparklaw16_LeaseTruth.j0 k l0 l1 a2 a3 t332 true) else (if a2 < (-200) then (chargeparklaw16_LeaseTruth.j0 k l0 l1 a2 a3 t332 true) else (chargeparklaw16_LeaseTruth.j0 k l0 l1 a2 a3 t332 (decide (a2 > 200))))))) else (chargeparklaw16_LeaseTruth.j0 k l0 l1 a2 a3 t332 true))))
theorem chargeparklaw16_LeaseTruth.mono_l : ∀ k, (∀ y0 y1 y2 y3 y4 y5, LeO (chargeparklaw16_LeaseTruth.j0 k y0 y1 y2 y3 y4 y5) (chargeparklaw16_LeaseTruth.j0 (k + 1) y0 y1 y2 y3 y4 y5)) ∧ (∀ y0 y1 y2 y3 y4 y5 y6, LeO (chargeparklaw16_LeaseTruth.j1 k y0 y1 y2 y3 y4 y5 y6) (chargeparklaw16_LeaseTruth.j1 (k + 1) y0 y1 y2 y3 y4 y5 y6)) ∧ (∀ y0 y1 y2 y3 y4 y5 y6 y7, LeO (chargeparklaw16_LeaseTruth.l0 k y0 y1 y2 y3 y4 y5 y6 y7) (chargeparklaw16_LeaseTruth.l0 (k + 1) y0 y1 y2 y3 y4 y5 y6 y7)) ∧ (∀ y0 y1 y2 y3 y4 y5 y6 y7 y8 y9 y10 y11 y12 y13 y14, LeO (chargeparklaw16_LeaseTruth.j3 k y0 y1 y2 y3 y4 y5 y6 y7 y8 y9 y10 y11 y12 y13 y14) (chargeparklaw16_LeaseTruth.j3 (k + 1) y0 y1 y2 y3 y4 y5 y6 y7 y8 y9 y10 y11 y12 y13 y14))
  | 0 => ⟨fun _ _ _ _ _ _ r h => by simp [chargeparklaw16_LeaseTruth.j0] at h, fun _ _ _ _ _ _ _ r h => by simp [chargeparklaw16_LeaseTruth.j1] at h, fun _ _ _ _ _ _ _ _ r h => by simp [chargeparklaw16_LeaseTruth.l0] at h, fun _ _ _ _ _ _ _ _ _ _ _ _ _ _ _ r h => by simp [chargeparklaw16_LeaseTruth.j3] at h⟩
  | k + 1 => by
    obtain ⟨ih0, ih1, ih2, ih3⟩ := chargeparklaw16_LeaseTruth.mono_l k
    refine ⟨?_, ?_, ?_, ?_⟩
    · intro y0 y1 y2 y3 y4 y5
      unfold chargeparklaw16_LeaseTruth.j0
      repeat' first
      | (with_reducible exact ih0 _ _ _ _ _ _)
      | (with_reducible exact ih1 _ _ _ _ _ _ _)
      | (with_reducible exact ih2 _ _ _ _ _ _ _ _)
      | (with_reducible exact ih3 _ _ _ _ _ _ _ _ _ _ _ _ _ _ _)
      | (with_reducible exact chargeparklaw16_head.mono _)
      | (with_reducible exact chargeparkref16_Valid.mono _ _)
      | (with_reducible exact LeO.refl _)
      | (with_reducible exact LeO.none _)
      | (with_reducible refine LeO.ite ?_ ?_)
      | (with_reducible refine LeO.bind ?_ (fun _ => ?_))
      | exact ih0 _ _ _ _ _ _
      | exact ih1 _ _ _ _ _ _ _
      | exact ih2 _ _ _ _ _ _ _ _
      | exact ih3 _ _ _ _ _ _ _ _ _ _ _ _ _ _ _
      | exact chargeparklaw16_head.mono _
      | exact chargeparkref16_Valid.mono _ _
      | exact LeO.none _
      | refine LeO.ite ?_ ?_
      | refine LeO.bind ?_ (fun _ => ?_)
    · intro y0 y1 y2 y3 y4 y5 y6
      unfold chargeparklaw16_LeaseTruth.j1
      repeat' first
      | (with_reducible exact ih0 _ _ _ _ _ _)
      | (with_reducible exact ih1 _ _ _ _ _ _ _)
      | (with_reducible exact ih2 _ _ _ _ _ _ _ _)
      | (with_reducible exact ih3 _ _ _ _ _ _ _ _ _ _ _ _ _ _ _)
      | (with_reducible exact chargeparklaw16_head.mono _)
      | (with_reducible exact chargeparkref16_Valid.mono _ _)
      | (with_reducible exact LeO.refl _)
      | (with_reducible exact LeO.none _)
      | (with_reducible refine LeO.ite ?_ ?_)
      | (with_reducible refine LeO.bind ?_ (fun _ => ?_))
      | exact ih0 _ _ _ _ _ _
      | exact ih1 _ _ _ _ _ _ _
      | exact ih2 _ _ _ _ _ _ _ _
      | exact ih3 _ _ _ _ _ _ _ _ _ _ _ _ _ _ _
      | exact chargeparklaw16_head.mono _
      | exact chargeparkref16_Valid.mono _ _
      | exact LeO.none _
      | refine LeO.ite ?_ ?_
      | refine LeO.bind ?_ (fun _ => ?_)
    · intro y0 y1 y2 y3 y4 y5 y6 y7
      unfold chargeparklaw16_LeaseTruth.l0
      repeat' first
      | (with_reducible exact ih0 _ _ _ _ _ _)
      | (with_reducible exact ih1 _ _ _ _ _ _ _)
      | (with_reducible exact ih2 _ _ _ _ _ _ _ _)
      | (with_reducible exact ih3 _ _ _ _ _ _ _ _ _ _ _ _ _ _ _)
      | (with_reducible exact chargeparklaw16_head.mono _)
      | (with_reducible exact chargeparkref16_Valid.mono _ _)
      | (with_reducible exact LeO.refl _)
      | (with_reducible exact LeO.none _)
      | (with_reducible refine LeO.ite ?_ ?_)
      | (with_reducible refine LeO.bind ?_ (fun _ => ?_))
      | exact ih0 _ _ _ _ _ _
      | exact ih1 _ _ _ _ _ _ _
      | exact ih2 _ _ _ _ _ _ _ _
      | exact ih3 _ _ _ _ _ _ _ _ _ _ _ _ _ _ _
      | exact chargeparklaw16_head.mono _
      | exact chargeparkref16_Valid.mono _ _
      | exact LeO.none _
      | refine LeO.ite ?_ ?_
      | refine LeO.bind ?_ (fun _ => ?_)
    · intro y0 y1 y2 y3 y4 y5 y6 y7 y8 y9 y10 y11 y12 y13 y14
      unfold chargeparklaw16_LeaseTruth.j3
      repeat' first
      | (with_reducible exact ih0 _ _ _ _ _ _)
      | (with_reducible exact ih1 _ _ _ _ _ _ _)
      | (with_reducible exact ih2 _ _ _ _ _ _ _ _)
      | (with_reducible exact ih3 _ _ _ _ _ _ _ _ _ _ _ _ _ _ _)
      | (with_reducible exact chargeparklaw16_head.mono _)
      | (with_reducible exact chargeparkref16_Valid.mono _ _)
      | (with_reducible exact LeO.refl _)
      | (with_reducible exact LeO.none _)
      | (with_reducible refine LeO.ite ?_ ?_)
      | (with_reducible refine LeO.bind ?_ (fun _ => ?_))
      | exact ih0 _ _ _ _ _ _
      | exact ih1 _ _ _ _ _ _ _
      | exact ih2 _ _ _ _ _ _ _ _
      | exact ih3 _ _ _ _ _ _ _ _ _ _ _ _ _ _ _
      | exact chargeparklaw16_head.mono _
      | exact chargeparkref16_Valid.mono _ _
      | exact LeO.none _
      | refine LeO.ite ?_ ?_
      | refine LeO.bind ?_ (fun _ => ?_)
theorem chargeparklaw16_LeaseTruth.mono : ∀ a0 a1 a2 a3 k, LeO (chargeparklaw16_LeaseTruth.f k a0 a1 a2 a3) (chargeparklaw16_LeaseTruth.f (k + 1) a0 a1 a2 a3) := by
  intro a0 a1 a2 a3 k
  obtain ⟨ih0, ih1, ih2, ih3⟩ := chargeparklaw16_LeaseTruth.mono_l k
  unfold chargeparklaw16_LeaseTruth.f
  repeat' first
      | (with_reducible exact ih0 _ _ _ _ _ _)
      | (with_reducible exact ih1 _ _ _ _ _ _ _)
      | (with_reducible exact ih2 _ _ _ _ _ _ _ _)
      | (with_reducible exact ih3 _ _ _ _ _ _ _ _ _ _ _ _ _ _ _)
      | (with_reducible exact chargeparklaw16_head.mono _)
      | (with_reducible exact chargeparkref16_Valid.mono _ _)
      | (with_reducible exact LeO.refl _)
      | (with_reducible exact LeO.none _)
      | (with_reducible refine LeO.ite ?_ ?_)
      | (with_reducible refine LeO.bind ?_ (fun _ => ?_))
      | exact ih0 _ _ _ _ _ _
      | exact ih1 _ _ _ _ _ _ _
      | exact ih2 _ _ _ _ _ _ _ _
      | exact ih3 _ _ _ _ _ _ _ _ _ _ _ _ _ _ _
      | exact chargeparklaw16_head.mono _
      | exact chargeparkref16_Valid.mono _ _
      | exact LeO.none _
      | refine LeO.ite ?_ ?_
      | refine LeO.bind ?_ (fun _ => ?_)
set_option maxHeartbeats 8000000 in
set_option maxRecDepth 100000 in
theorem chargeparklaw16_LeaseTruth.calls (k : Nat) (A0 : Option Addr) (c0 : Nat) (l0 : List (S24)) (A1 : Option Addr) (c1 : Nat) (l1 : List Int) (a2 : Int) (a3 : Int) (r : Bool) (w : World) (hr0 : Kd.C k24 w A0 l0.length l0) (hc0 : l0.length ≤ c0) (hr1 : Kd.C (Kd.int .u8) w A1 l1.length l1) (hc1 : l1.length ≤ c1) (h : chargeparklaw16_LeaseTruth.f k l0 l1 a2 a3 = some r) :
    Calls Try.prog 9 #[.slice A0 l0.length c0, .slice A1 l1.length c1, .int .i64 a2, .int .i64 a3] w fun e w' => e = .returned (.bool r) ∧ Below w.heap.size w w' := by
  have hu24 := Try.underlying24
  have HR0 := Aside0.mk hr0
  have HC0 := Aside0.mk hc0
  clear hr0 hc0
  have HR1 := Aside0.mk hr1
  have HC1 := Aside0.mk hc1
  clear hr1 hc1
  have HB := Aside0.mk (Below.refl w.heap.size w)
  have H : ((chargeparklaw16_head.f k).bind fun t332 => (if (l0.length : Int) > 100 then (chargeparklaw16_LeaseTruth.j0 k l0 l1 a2 a3 t332 true) else ((chargeparkref16_Valid.f k l0).bind fun t333 => (if t333 = true then (if (l1.length : Int) < (l0.length : Int) then (chargeparklaw16_LeaseTruth.j0 k l0 l1 a2 a3 t332 true) else (if a3 < 0 then (chargeparklaw16_LeaseTruth.j0 k l0 l1 a2 a3 t332 true) else (if a3 > 1100000 then (chargeparklaw16_LeaseTruth.j0 k l0 l1 a2 a3 t332 true) else (if a2 < (-200) then (chargeparklaw16_LeaseTruth.j0 k l0 l1 a2 a3 t332 true) else (chargeparklaw16_LeaseTruth.j0 k l0 l1 a2 a3 t332 (decide (a2 > 200))))))) else (chargeparklaw16_LeaseTruth.j0 k l0 l1 a2 a3 t332 true))))) = some r := h
  clear h
  replace H := Option.bind_eq_some_iff.mp H
  obtain ⟨t332, A50, H⟩ := H
  replace H : (if (l0.length : Int) > 100 then (chargeparklaw16_LeaseTruth.j0 k l0 l1 a2 a3 t332 true) else ((chargeparkref16_Valid.f k l0).bind fun t333 => (if t333 = true then (if (l1.length : Int) < (l0.length : Int) then (chargeparklaw16_LeaseTruth.j0 k l0 l1 a2 a3 t332 true) else (if a3 < 0 then (chargeparklaw16_LeaseTruth.j0 k l0 l1 a2 a3 t332 true) else (if a3 > 1100000 then (chargeparklaw16_LeaseTruth.j0 k l0 l1 a2 a3 t332 true) else (if a2 < (-200) then (chargeparklaw16_LeaseTruth.j0 k l0 l1 a2 a3 t332 true) else (chargeparklaw16_LeaseTruth.j0 k l0 l1 a2 a3 t332 (decide (a2 > 200))))))) else (chargeparklaw16_LeaseTruth.j0 k l0 l1 a2 a3 t332 true)))) = some r := H
  have A5 := Aside0.mk A50
  clear A50
  have HC6 := Aside0.mk H
  clear H
  go_enter Try.func9, Try.ntmps9
  go_upto_region 2 with (first | (go_at_call 10; (with_reducible refine (chargeparklaw16_head.calls k  t332 _ A5.out).mono ?_); rintro e w7 ⟨rfl, hb⟩; have n0_ := Aside0.mk (below_step (by repeat (first | (with_reducible first | exact HB.out | apply below_alloc | apply pw_below_drewN | apply below_drew1) | exact HB.out)) hb); clear HB; have HB := n0_; clear n0_; (try clear hb); (try clear hb2); (try clear hk); (try clear hi)))
  repeat (go_quiet (first | (go_at_call 10; (with_reducible refine (chargeparklaw16_head.calls k  t332 _ A5.out).mono ?_); rintro e w7 ⟨rfl, hb⟩; have n0_ := Aside0.mk (below_step (by repeat (first | (with_reducible first | exact HB.out | apply below_alloc | apply pw_below_drewN | apply below_drew1) | exact HB.out)) hb); clear HB; have HB := n0_; clear n0_; (try clear hb); (try clear hb2); (try clear hk); (try clear hi))); go_upto_region 2 with (first | (go_at_call 10; (with_reducible refine (chargeparklaw16_head.calls k  t332 _ A5.out).mono ?_); rintro e w7 ⟨rfl, hb⟩; have n0_ := Aside0.mk (below_step (by repeat (first | (with_reducible first | exact HB.out | apply below_alloc | apply pw_below_drewN | apply below_drew1) | exact HB.out)) hb); clear HB; have HB := n0_; clear n0_; (try clear hb); (try clear hb2); (try clear hk); (try clear hi))))
  (try simp only [Act.put, List.setIfInBounds_toArray, List.set_cons_zero, List.set_cons_succ])
  go_cut [48] (fun v48 wc => ∃ (kq : Nat) (x48_5 : Bool), v48 = .bool x48_5 ∧ Aside0 (chargeparklaw16_LeaseTruth.j0 kq l0 l1 a2 a3 t332 x48_5 = some r) ∧ Aside0 (kq ≤ k) ∧ Aside0 (Below w.heap.size w wc))
  case first =>
    have H := HC6.out
    clear HC6
    by_cases c8 : (l0.length : Int) > 100
    · rw [if_pos c8] at H
      have c8b0 : decide (100 < (l0.length : Int)) = true := decide_eq_true c8
      have c8b1 : decide (100 < l0.length) = true := decide_eq_true (by omega)
      clear c8
      (first | rw [c8b0] | (simp only [i64_w, i32_w]; rw [c8b0]) | skip)
      have H' := Aside0.mk H
      clear H
      go_wp2
      repeat (go_quiet (fail); try go_wp2)
      go_meet
      case rel => exact ⟨_, (true), (by first | rfl | (simp; done) | (simp [*]; done)), H', ⟨by first | omega | exact Nat.le_refl _⟩, ⟨by repeat (first | (with_reducible first | exact HB.out | apply below_alloc | apply pw_below_drewN | apply below_drew1) | exact HB.out)⟩⟩
    · rw [if_neg c8] at H
      have c8b0 : decide (100 < (l0.length : Int)) = false := decide_eq_false c8
      have c8b1 : decide (100 < l0.length) = false := decide_eq_false (by omega)
      clear c8
      (first | rw [c8b0] | (simp only [i64_w, i32_w]; rw [c8b0]) | skip)
      replace H := Option.bind_eq_some_iff.mp H
      obtain ⟨t333, A90, H⟩ := H
      replace H : (if t333 = true then (if (l1.length : Int) < (l0.length : Int) then (chargeparklaw16_LeaseTruth.j0 k l0 l1 a2 a3 t332 true) else (if a3 < 0 then (chargeparklaw16_LeaseTruth.j0 k l0 l1 a2 a3 t332 true) else (if a3 > 1100000 then (chargeparklaw16_LeaseTruth.j0 k l0 l1 a2 a3 t332 true) else (if a2 < (-200) then (chargeparklaw16_LeaseTruth.j0 k l0 l1 a2 a3 t332 true) else (chargeparklaw16_LeaseTruth.j0 k l0 l1 a2 a3 t332 (decide (a2 > 200))))))) else (chargeparklaw16_LeaseTruth.j0 k l0 l1 a2 a3 t332 true)) = some r := H
      have A9 := Aside0.mk A90
      clear A90
      by_cases c10 : t333 = true
      · subst c10
        have H1 : (if (l1.length : Int) < (l0.length : Int) then (chargeparklaw16_LeaseTruth.j0 k l0 l1 a2 a3 t332 true) else (if a3 < 0 then (chargeparklaw16_LeaseTruth.j0 k l0 l1 a2 a3 t332 true) else (if a3 > 1100000 then (chargeparklaw16_LeaseTruth.j0 k l0 l1 a2 a3 t332 true) else (if a2 < (-200) then (chargeparklaw16_LeaseTruth.j0 k l0 l1 a2 a3 t332 true) else (chargeparklaw16_LeaseTruth.j0 k l0 l1 a2 a3 t332 (decide (a2 > 200))))))) = some r := by rw [if_pos rfl] at H; exact H
        clear H
        have H := H1
        clear H1
        by_cases c11 : (l1.length : Int) < (l0.length : Int)
        · rw [if_pos c11] at H
          have c11b0 : decide ((l1.length : Int) < (l0.length : Int)) = true := decide_eq_true c11
          have c11b1 : decide (l1.length < l0.length) = true := decide_eq_true (Int.ofNat_lt.mp c11)
          clear c11
          have H' := Aside0.mk H
          clear H
          go_wp2_with (first | (go_at_call 18; (with_reducible refine (chargeparkref16_Valid.calls k _ _ l0 true _ ?side1 ?side2 A9.out).mono ?_); (case side1 => repeat (first | exact (Kd.C_below HR0.out HB.out) | (with_reducible refine Kd.C_alloc ?_ _) | (with_reducible refine Kd.C_drewN ?_ _) | (with_reducible refine Kd.C_drew ?_))); (case side2 => exact HC0.out); rintro e w12 ⟨rfl, hb⟩; have n0_ := Aside0.mk (below_step (by repeat (first | (with_reducible first | exact HB.out | apply below_alloc | apply pw_below_drewN | apply below_drew1) | exact HB.out)) hb); clear HB; have HB := n0_; clear n0_; (try clear hb); (try clear hb2); (try clear hk); (try clear hi)))
          repeat (go_quiet (first | (go_at_call 18; (with_reducible refine (chargeparkref16_Valid.calls k _ _ l0 true _ ?side1 ?side2 A9.out).mono ?_); (case side1 => repeat (first | exact (Kd.C_below HR0.out HB.out) | (with_reducible refine Kd.C_alloc ?_ _) | (with_reducible refine Kd.C_drewN ?_ _) | (with_reducible refine Kd.C_drew ?_))); (case side2 => exact HC0.out); rintro e w12 ⟨rfl, hb⟩; have n0_ := Aside0.mk (below_step (by repeat (first | (with_reducible first | exact HB.out | apply below_alloc | apply pw_below_drewN | apply below_drew1) | exact HB.out)) hb); clear HB; have HB := n0_; clear n0_; (try clear hb); (try clear hb2); (try clear hk); (try clear hi))); try go_wp2_with (first | (go_at_call 18; (with_reducible refine (chargeparkref16_Valid.calls k _ _ l0 true _ ?side1 ?side2 A9.out).mono ?_); (case side1 => repeat (first | exact (Kd.C_below HR0.out HB.out) | (with_reducible refine Kd.C_alloc ?_ _) | (with_reducible refine Kd.C_drewN ?_ _) | (with_reducible refine Kd.C_drew ?_))); (case side2 => exact HC0.out); rintro e w12 ⟨rfl, hb⟩; have n0_ := Aside0.mk (below_step (by repeat (first | (with_reducible first | exact HB.out | apply below_alloc | apply pw_below_drewN | apply below_drew1) | exact HB.out)) hb); clear HB; have HB := n0_; clear n0_; (try clear hb); (try clear hb2); (try clear hk); (try clear hi))))
          go_meet
          case rel => exact ⟨_, (true), (by first | rfl | (simp; done) | (simp [*]; done)), H', ⟨by first | omega | exact Nat.le_refl _⟩, ⟨by repeat (first | (with_reducible first | exact HB.out | apply below_alloc | apply pw_below_drewN | apply below_drew1) | exact HB.out)⟩⟩
        · rw [if_neg c11] at H
          have c11b0 : decide ((l1.length : Int) < (l0.length : Int)) = false := decide_eq_false c11
          have c11b1 : decide (l1.length < l0.length) = false := decide_eq_false (fun h => c11 (Int.ofNat_lt.mpr h))
          clear c11
          by_cases c13 : a3 < 0
          · rw [if_pos c13] at H
            have c13b0 : decide (a3 < 0) = true := decide_eq_true c13
            clear c13
            have H' := Aside0.mk H
            clear H
            go_wp2_with (first | (go_at_call 18; (with_reducible refine (chargeparkref16_Valid.calls k _ _ l0 true _ ?side1 ?side2 A9.out).mono ?_); (case side1 => repeat (first | exact (Kd.C_below HR0.out HB.out) | (with_reducible refine Kd.C_alloc ?_ _) | (with_reducible refine Kd.C_drewN ?_ _) | (with_reducible refine Kd.C_drew ?_))); (case side2 => exact HC0.out); rintro e w14 ⟨rfl, hb⟩; have n0_ := Aside0.mk (below_step (by repeat (first | (with_reducible first | exact HB.out | apply below_alloc | apply pw_below_drewN | apply below_drew1) | exact HB.out)) hb); clear HB; have HB := n0_; clear n0_; (try clear hb); (try clear hb2); (try clear hk); (try clear hi)))
            repeat (go_quiet (first | (go_at_call 18; (with_reducible refine (chargeparkref16_Valid.calls k _ _ l0 true _ ?side1 ?side2 A9.out).mono ?_); (case side1 => repeat (first | exact (Kd.C_below HR0.out HB.out) | (with_reducible refine Kd.C_alloc ?_ _) | (with_reducible refine Kd.C_drewN ?_ _) | (with_reducible refine Kd.C_drew ?_))); (case side2 => exact HC0.out); rintro e w14 ⟨rfl, hb⟩; have n0_ := Aside0.mk (below_step (by repeat (first | (with_reducible first | exact HB.out | apply below_alloc | apply pw_below_drewN | apply below_drew1) | exact HB.out)) hb); clear HB; have HB := n0_; clear n0_; (try clear hb); (try clear hb2); (try clear hk); (try clear hi))); try go_wp2_with (first | (go_at_call 18; (with_reducible refine (chargeparkref16_Valid.calls k _ _ l0 true _ ?side1 ?side2 A9.out).mono ?_); (case side1 => repeat (first | exact (Kd.C_below HR0.out HB.out) | (with_reducible refine Kd.C_alloc ?_ _) | (with_reducible refine Kd.C_drewN ?_ _) | (with_reducible refine Kd.C_drew ?_))); (case side2 => exact HC0.out); rintro e w14 ⟨rfl, hb⟩; have n0_ := Aside0.mk (below_step (by repeat (first | (with_reducible first | exact HB.out | apply below_alloc | apply pw_below_drewN | apply below_drew1) | exact HB.out)) hb); clear HB; have HB := n0_; clear n0_; (try clear hb); (try clear hb2); (try clear hk); (try clear hi))))
            go_meet
            case rel => exact ⟨_, (true), (by first | rfl | (simp; done) | (simp [*]; done)), H', ⟨by first | omega | exact Nat.le_refl _⟩, ⟨by repeat (first | (with_reducible first | exact HB.out | apply below_alloc | apply pw_below_drewN | apply below_drew1) | exact HB.out)⟩⟩
          · rw [if_neg c13] at H
            have c13b0 : decide (a3 < 0) = false := decide_eq_false c13
            clear c13
            by_cases c15 : a3 > 1100000
            · rw [if_pos c15] at H
              have c15b0 : decide (1100000 < a3) = true := decide_eq_true c15
              clear c15
              have H' := Aside0.mk H
              clear H
              go_wp2_with (first | (go_at_call 18; (with_reducible refine (chargeparkref16_Valid.calls k _ _ l0 true _ ?side1 ?side2 A9.out).mono ?_); (case side1 => repeat (first | exact (Kd.C_below HR0.out HB.out) | (with_reducible refine Kd.C_alloc ?_ _) | (with_reducible refine Kd.C_drewN ?_ _) | (with_reducible refine Kd.C_drew ?_))); (case side2 => exact HC0.out); rintro e w16 ⟨rfl, hb⟩; have n0_ := Aside0.mk (below_step (by repeat (first | (with_reducible first | exact HB.out | apply below_alloc | apply pw_below_drewN | apply below_drew1) | exact HB.out)) hb); clear HB; have HB := n0_; clear n0_; (try clear hb); (try clear hb2); (try clear hk); (try clear hi)))
              repeat (go_quiet (first | (go_at_call 18; (with_reducible refine (chargeparkref16_Valid.calls k _ _ l0 true _ ?side1 ?side2 A9.out).mono ?_); (case side1 => repeat (first | exact (Kd.C_below HR0.out HB.out) | (with_reducible refine Kd.C_alloc ?_ _) | (with_reducible refine Kd.C_drewN ?_ _) | (with_reducible refine Kd.C_drew ?_))); (case side2 => exact HC0.out); rintro e w16 ⟨rfl, hb⟩; have n0_ := Aside0.mk (below_step (by repeat (first | (with_reducible first | exact HB.out | apply below_alloc | apply pw_below_drewN | apply below_drew1) | exact HB.out)) hb); clear HB; have HB := n0_; clear n0_; (try clear hb); (try clear hb2); (try clear hk); (try clear hi))); try go_wp2_with (first | (go_at_call 18; (with_reducible refine (chargeparkref16_Valid.calls k _ _ l0 true _ ?side1 ?side2 A9.out).mono ?_); (case side1 => repeat (first | exact (Kd.C_below HR0.out HB.out) | (with_reducible refine Kd.C_alloc ?_ _) | (with_reducible refine Kd.C_drewN ?_ _) | (with_reducible refine Kd.C_drew ?_))); (case side2 => exact HC0.out); rintro e w16 ⟨rfl, hb⟩; have n0_ := Aside0.mk (below_step (by repeat (first | (with_reducible first | exact HB.out | apply below_alloc | apply pw_below_drewN | apply below_drew1) | exact HB.out)) hb); clear HB; have HB := n0_; clear n0_; (try clear hb); (try clear hb2); (try clear hk); (try clear hi))))
              go_meet
              case rel => exact ⟨_, (true), (by first | rfl | (simp; done) | (simp [*]; done)), H', ⟨by first | omega | exact Nat.le_refl _⟩, ⟨by repeat (first | (with_reducible first | exact HB.out | apply below_alloc | apply pw_below_drewN | apply below_drew1) | exact HB.out)⟩⟩
            · rw [if_neg c15] at H
              have c15b0 : decide (1100000 < a3) = false := decide_eq_false c15
              clear c15
              by_cases c17 : a2 < (-200)
              · rw [if_pos c17] at H
                have c17b0 : decide (a2 < (-200)) = true := decide_eq_true c17
                clear c17
                have H' := Aside0.mk H
                clear H
                go_wp2_with (first | (go_at_call 18; (with_reducible refine (chargeparkref16_Valid.calls k _ _ l0 true _ ?side1 ?side2 A9.out).mono ?_); (case side1 => repeat (first | exact (Kd.C_below HR0.out HB.out) | (with_reducible refine Kd.C_alloc ?_ _) | (with_reducible refine Kd.C_drewN ?_ _) | (with_reducible refine Kd.C_drew ?_))); (case side2 => exact HC0.out); rintro e w18 ⟨rfl, hb⟩; have n0_ := Aside0.mk (below_step (by repeat (first | (with_reducible first | exact HB.out | apply below_alloc | apply pw_below_drewN | apply below_drew1) | exact HB.out)) hb); clear HB; have HB := n0_; clear n0_; (try clear hb); (try clear hb2); (try clear hk); (try clear hi)))
                repeat (go_quiet (first | (go_at_call 18; (with_reducible refine (chargeparkref16_Valid.calls k _ _ l0 true _ ?side1 ?side2 A9.out).mono ?_); (case side1 => repeat (first | exact (Kd.C_below HR0.out HB.out) | (with_reducible refine Kd.C_alloc ?_ _) | (with_reducible refine Kd.C_drewN ?_ _) | (with_reducible refine Kd.C_drew ?_))); (case side2 => exact HC0.out); rintro e w18 ⟨rfl, hb⟩; have n0_ := Aside0.mk (below_step (by repeat (first | (with_reducible first | exact HB.out | apply below_alloc | apply pw_below_drewN | apply below_drew1) | exact HB.out)) hb); clear HB; have HB := n0_; clear n0_; (try clear hb); (try clear hb2); (try clear hk); (try clear hi))); try go_wp2_with (first | (go_at_call 18; (with_reducible refine (chargeparkref16_Valid.calls k _ _ l0 true _ ?side1 ?side2 A9.out).mono ?_); (case side1 => repeat (first | exact (Kd.C_below HR0.out HB.out) | (with_reducible refine Kd.C_alloc ?_ _) | (with_reducible refine Kd.C_drewN ?_ _) | (with_reducible refine Kd.C_drew ?_))); (case side2 => exact HC0.out); rintro e w18 ⟨rfl, hb⟩; have n0_ := Aside0.mk (below_step (by repeat (first | (with_reducible first | exact HB.out | apply below_alloc | apply pw_below_drewN | apply below_drew1) | exact HB.out)) hb); clear HB; have HB := n0_; clear n0_; (try clear hb); (try clear hb2); (try clear hk); (try clear hi))))
                go_meet
                case rel => exact ⟨_, (true), (by first | rfl | (simp; done) | (simp [*]; done)), H', ⟨by first | omega | exact Nat.le_refl _⟩, ⟨by repeat (first | (with_reducible first | exact HB.out | apply below_alloc | apply pw_below_drewN | apply below_drew1) | exact HB.out)⟩⟩
              · rw [if_neg c17] at H
                have c17b0 : decide (a2 < (-200)) = false := decide_eq_false c17
                clear c17
                have H' := Aside0.mk H
                clear H
                go_wp2_with (first | (go_at_call 18; (with_reducible refine (chargeparkref16_Valid.calls k _ _ l0 true _ ?side1 ?side2 A9.out).mono ?_); (case side1 => repeat (first | exact (Kd.C_below HR0.out HB.out) | (with_reducible refine Kd.C_alloc ?_ _) | (with_reducible refine Kd.C_drewN ?_ _) | (with_reducible refine Kd.C_drew ?_))); (case side2 => exact HC0.out); rintro e w19 ⟨rfl, hb⟩; have n0_ := Aside0.mk (below_step (by repeat (first | (with_reducible first | exact HB.out | apply below_alloc | apply pw_below_drewN | apply below_drew1) | exact HB.out)) hb); clear HB; have HB := n0_; clear n0_; (try clear hb); (try clear hb2); (try clear hk); (try clear hi)))
                repeat (go_quiet (first | (go_at_call 18; (with_reducible refine (chargeparkref16_Valid.calls k _ _ l0 true _ ?side1 ?side2 A9.out).mono ?_); (case side1 => repeat (first | exact (Kd.C_below HR0.out HB.out) | (with_reducible refine Kd.C_alloc ?_ _) | (with_reducible refine Kd.C_drewN ?_ _) | (with_reducible refine Kd.C_drew ?_))); (case side2 => exact HC0.out); rintro e w19 ⟨rfl, hb⟩; have n0_ := Aside0.mk (below_step (by repeat (first | (with_reducible first | exact HB.out | apply below_alloc | apply pw_below_drewN | apply below_drew1) | exact HB.out)) hb); clear HB; have HB := n0_; clear n0_; (try clear hb); (try clear hb2); (try clear hk); (try clear hi))); try go_wp2_with (first | (go_at_call 18; (with_reducible refine (chargeparkref16_Valid.calls k _ _ l0 true _ ?side1 ?side2 A9.out).mono ?_); (case side1 => repeat (first | exact (Kd.C_below HR0.out HB.out) | (with_reducible refine Kd.C_alloc ?_ _) | (with_reducible refine Kd.C_drewN ?_ _) | (with_reducible refine Kd.C_drew ?_))); (case side2 => exact HC0.out); rintro e w19 ⟨rfl, hb⟩; have n0_ := Aside0.mk (below_step (by repeat (first | (with_reducible first | exact HB.out | apply below_alloc | apply pw_below_drewN | apply below_drew1) | exact HB.out)) hb); clear HB; have HB := n0_; clear n0_; (try clear hb); (try clear hb2); (try clear hk); (try clear hi))))
                go_meet
                case rel => exact ⟨_, (decide (a2 > 200)), (by first | rfl | (simp; done) | (simp [*]; done)), H', ⟨by first | omega | exact Nat.le_refl _⟩, ⟨by repeat (first | (with_reducible first | exact HB.out | apply below_alloc | apply pw_below_drewN | apply below_drew1) | exact HB.out)⟩⟩
      · replace c10 := Bool.eq_false_iff.mpr c10
        subst c10
        have H1 : (chargeparklaw16_LeaseTruth.j0 k l0 l1 a2 a3 t332 true) = some r := by rw [if_neg (show ¬ (false = true) by decide)] at H; exact H
        clear H
        have H := H1
        clear H1
        have H' := Aside0.mk H
        clear H
        go_wp2_with (first | (go_at_call 18; (with_reducible refine (chargeparkref16_Valid.calls k _ _ l0 false _ ?side1 ?side2 A9.out).mono ?_); (case side1 => repeat (first | exact (Kd.C_below HR0.out HB.out) | (with_reducible refine Kd.C_alloc ?_ _) | (with_reducible refine Kd.C_drewN ?_ _) | (with_reducible refine Kd.C_drew ?_))); (case side2 => exact HC0.out); rintro e w20 ⟨rfl, hb⟩; have n0_ := Aside0.mk (below_step (by repeat (first | (with_reducible first | exact HB.out | apply below_alloc | apply pw_below_drewN | apply below_drew1) | exact HB.out)) hb); clear HB; have HB := n0_; clear n0_; (try clear hb); (try clear hb2); (try clear hk); (try clear hi)))
        repeat (go_quiet (first | (go_at_call 18; (with_reducible refine (chargeparkref16_Valid.calls k _ _ l0 false _ ?side1 ?side2 A9.out).mono ?_); (case side1 => repeat (first | exact (Kd.C_below HR0.out HB.out) | (with_reducible refine Kd.C_alloc ?_ _) | (with_reducible refine Kd.C_drewN ?_ _) | (with_reducible refine Kd.C_drew ?_))); (case side2 => exact HC0.out); rintro e w20 ⟨rfl, hb⟩; have n0_ := Aside0.mk (below_step (by repeat (first | (with_reducible first | exact HB.out | apply below_alloc | apply pw_below_drewN | apply below_drew1) | exact HB.out)) hb); clear HB; have HB := n0_; clear n0_; (try clear hb); (try clear hb2); (try clear hk); (try clear hi))); try go_wp2_with (first | (go_at_call 18; (with_reducible refine (chargeparkref16_Valid.calls k _ _ l0 false _ ?side1 ?side2 A9.out).mono ?_); (case side1 => repeat (first | exact (Kd.C_below HR0.out HB.out) | (with_reducible refine Kd.C_alloc ?_ _) | (with_reducible refine Kd.C_drewN ?_ _) | (with_reducible refine Kd.C_drew ?_))); (case side2 => exact HC0.out); rintro e w20 ⟨rfl, hb⟩; have n0_ := Aside0.mk (below_step (by repeat (first | (with_reducible first | exact HB.out | apply below_alloc | apply pw_below_drewN | apply below_drew1) | exact HB.out)) hb); clear HB; have HB := n0_; clear n0_; (try clear hb); (try clear hb2); (try clear hk); (try clear hi))))
        go_meet
        case rel => exact ⟨_, (true), (by first | rfl | (simp; done) | (simp [*]; done)), H', ⟨by first | omega | exact Nat.le_refl _⟩, ⟨by repeat (first | (with_reducible first | exact HB.out | apply below_alloc | apply pw_below_drewN | apply below_drew1) | exact HB.out)⟩⟩
  case rest =>
    clear HC6
    try clear c1
    try clear p2
    try clear c8
    try clear c8b0
    try clear c8b1
    try clear c9
    try clear c10
    try clear c11
    try clear c11b0
    try clear c11b1
    try clear c13
    try clear c13b0
    try clear c15
    try clear c15b0
    try clear c17
    try clear c17b0
    obtain ⟨kq, x48_5, rfl, HA, HJ5, HB⟩ := hcut
    cases kq with
    | zero => exact absurd HA.out (by simp [chargeparklaw16_LeaseTruth.j0])
    | succ kj5 =>
      have H := HA.out
      clear HA
      simp only [chargeparklaw16_LeaseTruth.j0] at H
      by_cases c21 : x48_5 = true
      · subst c21
        have H1 : (some t332) = some r := by rw [if_pos rfl] at H; exact H
        clear H
        have H := H1
        clear H1
        obtain rfl := Option.some.inj H
        go_wp2
        repeat (go_quiet (fail); try go_wp2)
        go_ret
        exact ⟨by first | rfl | (simp [errW_none, errW_some] <;> rfl) | (simp [*, errW_none, errW_some] <;> rfl), by repeat (first | (with_reducible first | exact HB.out | apply below_alloc | apply pw_below_drewN | apply below_drew1) | exact HB.out)⟩
      · replace c21 := Bool.eq_false_iff.mpr c21
        subst c21
        have H1 : ((lease_Alive.f l0 16 a3).bind fun bt334 => (if bt334.2 = 0 then (chargeparklaw16_LeaseTruth.j1 kj5 l0 l1 a2 a3 t332 bt334.1 ((bt334.1.length : Int) != 16)) else (chargeparklaw16_LeaseTruth.j1 kj5 l0 l1 a2 a3 t332 bt334.1 true))) = some r := by rw [if_neg (show ¬ (false = true) by decide)] at H; exact H
        clear H
        have H := H1
        clear H1
        replace H := Option.bind_eq_some_iff.mp H
        obtain ⟨⟨t334, t335⟩, A220, H⟩ := H
        replace H : (if t335 = 0 then (chargeparklaw16_LeaseTruth.j1 kj5 l0 l1 a2 a3 t332 t334 ((t334.length : Int) != 16)) else (chargeparklaw16_LeaseTruth.j1 kj5 l0 l1 a2 a3 t332 t334 true)) = some r := H
        have A22 := Aside0.mk A220
        clear A220
        have HC23 := Aside0.mk H
        clear H
        go_upto_region 5 with (first | (go_at_call 13; (with_reducible refine (lease_Alive.calls _ _ l0 16 a3 t334 t335 _ ?side1 ?side2 A22.out).mono ?_); (case side1 => repeat (first | exact (Kd.C_below HR0.out HB.out) | (with_reducible refine Kd.C_alloc ?_ _) | (with_reducible refine Kd.C_drewN ?_ _) | (with_reducible refine Kd.C_drew ?_))); (case side2 => exact HC0.out); rintro e w24 ⟨v336, rfl, ho0, hb⟩; have n0_ := Aside0.mk (Kd.R_lower ho0 (below_size (by repeat (first | (with_reducible first | exact HB.out | apply below_alloc | apply pw_below_drewN | apply below_drew1) | exact HB.out)))); have n1_ := Aside0.mk (below_step (by repeat (first | (with_reducible first | exact HB.out | apply below_alloc | apply pw_below_drewN | apply below_drew1) | exact HB.out)) hb); clear HB; have HO337 := n0_; have HB := n1_; clear n0_ n1_; (try clear hb); (try clear hb2); (try clear hk); (try clear hi); (try clear ho0)))
        repeat (go_quiet (first | (go_at_call 13; (with_reducible refine (lease_Alive.calls _ _ l0 16 a3 t334 t335 _ ?side1 ?side2 A22.out).mono ?_); (case side1 => repeat (first | exact (Kd.C_below HR0.out HB.out) | (with_reducible refine Kd.C_alloc ?_ _) | (with_reducible refine Kd.C_drewN ?_ _) | (with_reducible refine Kd.C_drew ?_))); (case side2 => exact HC0.out); rintro e w24 ⟨v336, rfl, ho0, hb⟩; have n0_ := Aside0.mk (Kd.R_lower ho0 (below_size (by repeat (first | (with_reducible first | exact HB.out | apply below_alloc | apply pw_below_drewN | apply below_drew1) | exact HB.out)))); have n1_ := Aside0.mk (below_step (by repeat (first | (with_reducible first | exact HB.out | apply below_alloc | apply pw_below_drewN | apply below_drew1) | exact HB.out)) hb); clear HB; have HO337 := n0_; have HB := n1_; clear n0_ n1_; (try clear hb); (try clear hb2); (try clear hk); (try clear hi); (try clear ho0))); go_upto_region 5 with (first | (go_at_call 13; (with_reducible refine (lease_Alive.calls _ _ l0 16 a3 t334 t335 _ ?side1 ?side2 A22.out).mono ?_); (case side1 => repeat (first | exact (Kd.C_below HR0.out HB.out) | (with_reducible refine Kd.C_alloc ?_ _) | (with_reducible refine Kd.C_drewN ?_ _) | (with_reducible refine Kd.C_drew ?_))); (case side2 => exact HC0.out); rintro e w24 ⟨v336, rfl, ho0, hb⟩; have n0_ := Aside0.mk (Kd.R_lower ho0 (below_size (by repeat (first | (with_reducible first | exact HB.out | apply below_alloc | apply pw_below_drewN | apply below_drew1) | exact HB.out)))); have n1_ := Aside0.mk (below_step (by repeat (first | (with_reducible first | exact HB.out | apply below_alloc | apply pw_below_drewN | apply below_drew1) | exact HB.out)) hb); clear HB; have HO337 := n0_; have HB := n1_; clear n0_ n1_; (try clear hb); (try clear hb2); (try clear hk); (try clear hi); (try clear ho0))))
        (try simp only [Act.put, List.setIfInBounds_toArray, List.set_cons_zero, List.set_cons_succ])
        go_cut [62] (fun v62 wc => ∃ (kq : Nat) (x62_22 : Bool), v62 = .bool x62_22 ∧ Aside0 (chargeparklaw16_LeaseTruth.j1 kq l0 l1 a2 a3 t332 t334 x62_22 = some r) ∧ Aside0 (kq ≤ kj5) ∧ Aside0 (Kd.R (Kd.int .i64) 3 wc w.heap.size (fun _ => True) v336 t334) ∧ Aside0 (Below w.heap.size w wc))
        case first =>
          have H := HC23.out
          clear HC23
          by_cases c25 : t335 = 0
          · rw [if_pos c25] at H
            have c25b0 : (t335 == 0) = true := beq_iff_eq.mpr c25
            have c25b1 : (t335 != 0) = false := bne_eq_false_iff_eq.mpr c25
            clear c25
            (first | rw [c25b0] | (simp only [i64_w, i32_w]; rw [c25b0]) | skip)
            have H' := Aside0.mk H
            clear H
            obtain ⟨Ao26, co26, eo26⟩ := Kd.R_slice HO337.out
            subst eo26
            go_wp2
            repeat (go_quiet (fail); try go_wp2)
            go_meet
            case rel => exact ⟨_, (((t334.length : Int) != 16)), (by first | rfl | (simp; done) | (simp [*]; done)), H', ⟨by have := HJ5.out; first | omega | exact Nat.le_refl _⟩, ⟨by (with_reducible repeat (first | apply Kd.R_alloc | apply Kd.R_drewN | apply Kd.R_drew)); exact HO337.out⟩, ⟨by repeat (first | (with_reducible first | exact HB.out | apply below_alloc | apply pw_below_drewN | apply below_drew1) | exact HB.out)⟩⟩
          · rw [if_neg c25] at H
            have c25b0 : (t335 == 0) = false := beq_eq_false_iff_ne.mpr c25
            have c25b1 : (t335 != 0) = true := bne_iff_ne.mpr c25
            (first | rw [c25b0] | (simp only [i64_w, i32_w]; rw [c25b0]) | skip)
            have H' := Aside0.mk H
            clear H
            go_wp2
            repeat (go_quiet (fail); try go_wp2)
            go_meet
            case rel => exact ⟨_, (true), (by first | rfl | (simp; done) | (simp [*]; done)), H', ⟨by have := HJ5.out; first | omega | exact Nat.le_refl _⟩, ⟨by (with_reducible repeat (first | apply Kd.R_alloc | apply Kd.R_drewN | apply Kd.R_drew)); exact HO337.out⟩, ⟨by repeat (first | (with_reducible first | exact HB.out | apply below_alloc | apply pw_below_drewN | apply below_drew1) | exact HB.out)⟩⟩
        case rest =>
          clear HC23
          try clear c1
          try clear c2
          try clear p2
          try clear c8
          try clear c8b0
          try clear c8b1
          try clear c9
          try clear c10
          try clear c11
          try clear c11b0
          try clear c11b1
          try clear c13
          try clear c13b0
          try clear c15
          try clear c15b0
          try clear c17
          try clear c17b0
          try clear c21
          try clear c25
          try clear c25b0
          try clear c25b1
          try clear p2
          obtain ⟨kq, x62_22, rfl, HA, HJ22, HO_10, HB⟩ := hcut
          cases kq with
          | zero => exact absurd HA.out (by simp [chargeparklaw16_LeaseTruth.j1])
          | succ kj22 =>
            have H := HA.out
            clear HA
            simp only [chargeparklaw16_LeaseTruth.j1] at H
            by_cases c27 : x62_22 = true
            · subst c27
              have H1 : (none) = some r := by rw [if_pos rfl] at H; exact H
              clear H
              have H := H1
              clear H1
              exact absurd H (by simp)
            · replace c27 := Bool.eq_false_iff.mpr c27
              subst c27
              have H1 : (chargeparklaw16_LeaseTruth.l0 kj22 l1 a2 a3 t332 t334 l0 (l0.length : Int) 0) = some r := by rw [if_neg (show ¬ (false = true) by decide)] at H; exact H
              clear H
              have H := H1
              clear H1
              have H' := Aside0.mk H
              clear H
              go_wp2
              repeat (go_quiet (fail); try go_wp2)
              go_loopg [65] kj22 (fun kq v65 w' => ∃ (x65_3 : Int), v65 = .int .i64 x65_3 ∧ Aside0 (chargeparklaw16_LeaseTruth.l0 kq l1 a2 a3 t332 t334 l0 (l0.length : Int) x65_3 = some r) ∧ Aside0 (kq ≤ kj22) ∧ Aside0 (Kd.R (Kd.int .i64) 3 w' w.heap.size (fun _ => True) v336 t334) ∧ Aside0 (Below w.heap.size w w'))
              case atStart => exact ⟨(0), (by first | rfl | (simp; done) | (simp [*]; done)), H', ⟨Nat.le_refl _⟩, ⟨by (with_reducible repeat (first | apply Kd.R_alloc | apply Kd.R_drewN | apply Kd.R_drew)); exact HO_10.out⟩, ⟨by repeat (first | (with_reducible first | exact HB.out | apply below_alloc | apply pw_below_drewN | apply below_drew1) | exact HB.out)⟩⟩
              case round =>
                clear H'
                try clear c1
                try clear c2
                try clear p2
                try clear c8
                try clear c8b0
                try clear c8b1
                try clear c9
                try clear c10
                try clear c11
                try clear c11b0
                try clear c11b1
                try clear c13
                try clear c13b0
                try clear c15
                try clear c15b0
                try clear c17
                try clear c17b0
                try clear c21
                try clear c25
                try clear c25b0
                try clear c25b1
                try clear c27
                try clear p2
                obtain ⟨x65_3, rfl, HA, HK3, HO_10, HB⟩ := hrel
                cases gk with
                | zero => exact absurd HA.out (by simp [chargeparklaw16_LeaseTruth.l0])
                | succ k3 =>
                  have H := HA.out
                  clear HA
                  simp only [chargeparklaw16_LeaseTruth.l0] at H
                  by_cases c28 : x65_3 < (l0.length : Int)
                  · rw [if_pos c28] at H
                    have c28b0 : decide (x65_3 < (l0.length : Int)) = true := decide_eq_true c28
                    clear c28
                    by_cases c29 : 0 ≤ x65_3
                    · rw [if_pos c29] at H
                      have c29b0 : decide (0 ≤ x65_3) = true := decide_eq_true c29
                      clear c29
                      by_cases c30 : x65_3 < (l0.length : Int)
                      · rw [if_pos c30] at H
                        have c30b0 : decide (x65_3 < (l0.length : Int)) = true := decide_eq_true c30
                        clear c30
                        by_cases c31 : x65_3 < (l1.length : Int)
                        · rw [if_pos c31] at H
                          have c31b0 : decide (x65_3 < (l1.length : Int)) = true := decide_eq_true c31
                          clear c31
                          have HC32 := Aside0.mk H
                          clear H
                          have p338 : 0 ≤ (x65_3 : Int) := of_decide_eq_true (by first | (with_reducible assumption) | assumption)
                          have q338 : x65_3 < (l0.length : Int) := of_decide_eq_true (by first | (with_reducible assumption) | assumption)
                          obtain ⟨ad338, e338, hx338_0, hx338_1, hx338_2, hx338_3, hx338_4⟩ := at_T24 HR0.out x65_3 p338 q338
                          cases e338
                          replace hx338_0 := (HB.out.cell (World.block_lt_of_cell? w _ hx338_0)).trans hx338_0
                          replace hx338_1 := (HB.out.cell (World.block_lt_of_cell? w _ hx338_1)).trans hx338_1
                          replace hx338_2 := (HB.out.cell (World.block_lt_of_cell? w _ hx338_2)).trans hx338_2
                          replace hx338_3 := (HB.out.cell (World.block_lt_of_cell? w _ hx338_3)).trans hx338_3
                          replace hx338_4 := (HB.out.cell (World.block_lt_of_cell? w _ hx338_4)).trans hx338_4
                          replace p338 := eq_true p338
                          replace q338 := eq_true q338
                          go_upto_region 11 with (first | ((with_reducible refine gate_dst (N := 13) rfl ?_); (try (refine gate_guard (by rfl) ?_; dsimp only)); refine box_event ?hg (N := 13) ?hd (cs := #[.int .i64 0, .int .i64 0, .int .i64 0, .int .i64 0, .int .i64 0]) (t := 24) ?hr ?_; (case hd => rfl); (case hg => rfl); (case hr => first | (go_simp; done) | (go_simp; rfl)); intro gb339 hg w33 hbox hb; have n0_ := Aside0.mk (Kd.R_below (by (with_reducible repeat (first | apply Kd.R_alloc | apply Kd.R_drewN | apply Kd.R_drew)); exact HO_10.out) hb); have n1_ := Aside0.mk (below_step (by repeat (first | (with_reducible first | exact HB.out | apply below_alloc | apply pw_below_drewN | apply below_drew1) | exact HB.out)) hb); have n2_ := Aside0.mk (hbox); have n3_ := Aside0.mk ((by rw [hg]; exact (below_size (by repeat (first | (with_reducible first | exact HB.out | apply below_alloc | apply pw_below_drewN | apply below_drew1) | exact HB.out))) : w.heap.size ≤ gb339)); have n4_ := Aside0.mk ((by rw [hg]; exact (below_size (by repeat (first | (with_reducible first | exact HB.out | apply below_alloc | apply pw_below_drewN | apply below_drew1) | exact HB.out))) : w.heap.size ≤ gb339)); clear HO_10; clear HB; have HO_10 := n0_; have HB := n1_; have BK339 := n2_; have GW339 := n3_; have GE339 := n4_; clear n0_ n1_ n2_ n3_ n4_; clear hb hbox hg; have hcz34_0 : w33.cell? ⟨gb339, 0, none⟩ = some (.int .i64 0) := (blk_cell BK339.out 0).trans rfl; have hcz34_1 : w33.cell? ⟨gb339, 1, none⟩ = some (.int .i64 0) := (blk_cell BK339.out 1).trans rfl; have hcz34_2 : w33.cell? ⟨gb339, 2, none⟩ = some (.int .i64 0) := (blk_cell BK339.out 2).trans rfl; have hcz34_3 : w33.cell? ⟨gb339, 3, none⟩ = some (.int .i64 0) := (blk_cell BK339.out 3).trans rfl; have hcz34_4 : w33.cell? ⟨gb339, 4, none⟩ = some (.int .i64 0) := (blk_cell BK339.out 4).trans rfl; have hfz34_0 := blk_frozen BK339.out 0; have hfz34_1 := blk_frozen BK339.out 1; have hfz34_2 := blk_frozen BK339.out 2; have hfz34_3 := blk_frozen BK339.out 3; have hfz34_4 := blk_frozen BK339.out 4; have p340 : 0 ≤ (x65_3 : Int) := of_decide_eq_true (by first | (with_reducible assumption) | assumption); have q340 : x65_3 < (l1.length : Int) := of_decide_eq_true (by first | (with_reducible assumption) | assumption); obtain ⟨ad340, e340, hx340_0⟩ := Kd.at_int HR1.out x65_3 p340 q340; cases e340; have hn340_0 : ad340.block ≠ gb339 := Nat.ne_of_lt (Nat.lt_of_lt_of_le (by have := World.block_lt_of_cell? _ _ hx340_0; first | rwa [add_block] at this | exact this) GW339.out); have hn340_1 : ad340.block ≠ gb339 := Nat.ne_of_lt (Nat.lt_of_lt_of_le (by have := World.block_lt_of_cell? _ _ hx340_0; first | rwa [add_block] at this | exact this) GW339.out); have hn340_2 : ad340.block ≠ gb339 := Nat.ne_of_lt (Nat.lt_of_lt_of_le (by have := World.block_lt_of_cell? _ _ hx340_0; first | rwa [add_block] at this | exact this) GW339.out); have hn340_3 : ad340.block ≠ gb339 := Nat.ne_of_lt (Nat.lt_of_lt_of_le (by have := World.block_lt_of_cell? _ _ hx340_0; first | rwa [add_block] at this | exact this) GW339.out); have hn340_4 : ad340.block ≠ gb339 := Nat.ne_of_lt (Nat.lt_of_lt_of_le (by have := World.block_lt_of_cell? _ _ hx340_0; first | rwa [add_block] at this | exact this) GW339.out); replace hx340_0 := (HB.out.cell (World.block_lt_of_cell? w _ hx340_0)).trans hx340_0; replace hx340_0 := (cell_far (p := ⟨gb339, 0, none⟩) (by first | (rw [add_block]; exact hn340_0) | (show (Addr.add _ _).block ≠ _; rw [add_block]; exact hn340_0) | exact hn340_0) (.int .i64 ((rd_T24 l0 x65_3).f0))).trans hx340_0; replace hx340_0 := (cell_far (p := ⟨gb339, 1, none⟩) (by first | (rw [add_block]; exact hn340_1) | (show (Addr.add _ _).block ≠ _; rw [add_block]; exact hn340_1) | exact hn340_1) (.int .i64 ((rd_T24 l0 x65_3).f1))).trans hx340_0; replace hx340_0 := (cell_far (p := ⟨gb339, 2, none⟩) (by first | (rw [add_block]; exact hn340_2) | (show (Addr.add _ _).block ≠ _; rw [add_block]; exact hn340_2) | exact hn340_2) (.int .i64 ((rd_T24 l0 x65_3).f2))).trans hx340_0; replace hx340_0 := (cell_far (p := ⟨gb339, 3, none⟩) (by first | (rw [add_block]; exact hn340_3) | (show (Addr.add _ _).block ≠ _; rw [add_block]; exact hn340_3) | exact hn340_3) (.int .i64 ((rd_T24 l0 x65_3).f3))).trans hx340_0; replace hx340_0 := (cell_far (p := ⟨gb339, 4, none⟩) (by first | (rw [add_block]; exact hn340_4) | (show (Addr.add _ _).block ≠ _; rw [add_block]; exact hn340_4) | exact hn340_4) (.int .i64 ((rd_T24 l0 x65_3).f4))).trans hx340_0; (try have hy340_0 := fun (n_ : Nat) => (show (((((((w33.drewN n_).setCell ⟨gb339, 0, none⟩ (.int .i64 ((rd_T24 l0 x65_3).f0))).setCell ⟨gb339, 1, none⟩ (.int .i64 ((rd_T24 l0 x65_3).f1))).setCell ⟨gb339, 2, none⟩ (.int .i64 ((rd_T24 l0 x65_3).f2))).setCell ⟨gb339, 3, none⟩ (.int .i64 ((rd_T24 l0 x65_3).f3))).setCell ⟨gb339, 4, none⟩ (.int .i64 ((rd_T24 l0 x65_3).f4)))).cell? _ = some _ from hx340_0)); clear hn340_0; clear hn340_1; clear hn340_2; clear hn340_3; clear hn340_4; replace p340 := eq_true p340; replace q340 := eq_true q340))
                          repeat (go_quiet (first | ((with_reducible refine gate_dst (N := 13) rfl ?_); (try (refine gate_guard (by rfl) ?_; dsimp only)); refine box_event ?hg (N := 13) ?hd (cs := #[.int .i64 0, .int .i64 0, .int .i64 0, .int .i64 0, .int .i64 0]) (t := 24) ?hr ?_; (case hd => rfl); (case hg => rfl); (case hr => first | (go_simp; done) | (go_simp; rfl)); intro gb339 hg w33 hbox hb; have n0_ := Aside0.mk (Kd.R_below (by (with_reducible repeat (first | apply Kd.R_alloc | apply Kd.R_drewN | apply Kd.R_drew)); exact HO_10.out) hb); have n1_ := Aside0.mk (below_step (by repeat (first | (with_reducible first | exact HB.out | apply below_alloc | apply pw_below_drewN | apply below_drew1) | exact HB.out)) hb); have n2_ := Aside0.mk (hbox); have n3_ := Aside0.mk ((by rw [hg]; exact (below_size (by repeat (first | (with_reducible first | exact HB.out | apply below_alloc | apply pw_below_drewN | apply below_drew1) | exact HB.out))) : w.heap.size ≤ gb339)); have n4_ := Aside0.mk ((by rw [hg]; exact (below_size (by repeat (first | (with_reducible first | exact HB.out | apply below_alloc | apply pw_below_drewN | apply below_drew1) | exact HB.out))) : w.heap.size ≤ gb339)); clear HO_10; clear HB; have HO_10 := n0_; have HB := n1_; have BK339 := n2_; have GW339 := n3_; have GE339 := n4_; clear n0_ n1_ n2_ n3_ n4_; clear hb hbox hg; have hcz34_0 : w33.cell? ⟨gb339, 0, none⟩ = some (.int .i64 0) := (blk_cell BK339.out 0).trans rfl; have hcz34_1 : w33.cell? ⟨gb339, 1, none⟩ = some (.int .i64 0) := (blk_cell BK339.out 1).trans rfl; have hcz34_2 : w33.cell? ⟨gb339, 2, none⟩ = some (.int .i64 0) := (blk_cell BK339.out 2).trans rfl; have hcz34_3 : w33.cell? ⟨gb339, 3, none⟩ = some (.int .i64 0) := (blk_cell BK339.out 3).trans rfl; have hcz34_4 : w33.cell? ⟨gb339, 4, none⟩ = some (.int .i64 0) := (blk_cell BK339.out 4).trans rfl; have hfz34_0 := blk_frozen BK339.out 0; have hfz34_1 := blk_frozen BK339.out 1; have hfz34_2 := blk_frozen BK339.out 2; have hfz34_3 := blk_frozen BK339.out 3; have hfz34_4 := blk_frozen BK339.out 4; have p340 : 0 ≤ (x65_3 : Int) := of_decide_eq_true (by first | (with_reducible assumption) | assumption); have q340 : x65_3 < (l1.length : Int) := of_decide_eq_true (by first | (with_reducible assumption) | assumption); obtain ⟨ad340, e340, hx340_0⟩ := Kd.at_int HR1.out x65_3 p340 q340; cases e340; have hn340_0 : ad340.block ≠ gb339 := Nat.ne_of_lt (Nat.lt_of_lt_of_le (by have := World.block_lt_of_cell? _ _ hx340_0; first | rwa [add_block] at this | exact this) GW339.out); have hn340_1 : ad340.block ≠ gb339 := Nat.ne_of_lt (Nat.lt_of_lt_of_le (by have := World.block_lt_of_cell? _ _ hx340_0; first | rwa [add_block] at this | exact this) GW339.out); have hn340_2 : ad340.block ≠ gb339 := Nat.ne_of_lt (Nat.lt_of_lt_of_le (by have := World.block_lt_of_cell? _ _ hx340_0; first | rwa [add_block] at this | exact this) GW339.out); have hn340_3 : ad340.block ≠ gb339 := Nat.ne_of_lt (Nat.lt_of_lt_of_le (by have := World.block_lt_of_cell? _ _ hx340_0; first | rwa [add_block] at this | exact this) GW339.out); have hn340_4 : ad340.block ≠ gb339 := Nat.ne_of_lt (Nat.lt_of_lt_of_le (by have := World.block_lt_of_cell? _ _ hx340_0; first | rwa [add_block] at this | exact this) GW339.out); replace hx340_0 := (HB.out.cell (World.block_lt_of_cell? w _ hx340_0)).trans hx340_0; replace hx340_0 := (cell_far (p := ⟨gb339, 0, none⟩) (by first | (rw [add_block]; exact hn340_0) | (show (Addr.add _ _).block ≠ _; rw [add_block]; exact hn340_0) | exact hn340_0) (.int .i64 ((rd_T24 l0 x65_3).f0))).trans hx340_0; replace hx340_0 := (cell_far (p := ⟨gb339, 1, none⟩) (by first | (rw [add_block]; exact hn340_1) | (show (Addr.add _ _).block ≠ _; rw [add_block]; exact hn340_1) | exact hn340_1) (.int .i64 ((rd_T24 l0 x65_3).f1))).trans hx340_0; replace hx340_0 := (cell_far (p := ⟨gb339, 2, none⟩) (by first | (rw [add_block]; exact hn340_2) | (show (Addr.add _ _).block ≠ _; rw [add_block]; exact hn340_2) | exact hn340_2) (.int .i64 ((rd_T24 l0 x65_3).f2))).trans hx340_0; replace hx340_0 := (cell_far (p := ⟨gb339, 3, none⟩) (by first | (rw [add_block]; exact hn340_3) | (show (Addr.add _ _).block ≠ _; rw [add_block]; exact hn340_3) | exact hn340_3) (.int .i64 ((rd_T24 l0 x65_3).f3))).trans hx340_0; replace hx340_0 := (cell_far (p := ⟨gb339, 4, none⟩) (by first | (rw [add_block]; exact hn340_4) | (show (Addr.add _ _).block ≠ _; rw [add_block]; exact hn340_4) | exact hn340_4) (.int .i64 ((rd_T24 l0 x65_3).f4))).trans hx340_0; (try have hy340_0 := fun (n_ : Nat) => (show (((((((w33.drewN n_).setCell ⟨gb339, 0, none⟩ (.int .i64 ((rd_T24 l0 x65_3).f0))).setCell ⟨gb339, 1, none⟩ (.int .i64 ((rd_T24 l0 x65_3).f1))).setCell ⟨gb339, 2, none⟩ (.int .i64 ((rd_T24 l0 x65_3).f2))).setCell ⟨gb339, 3, none⟩ (.int .i64 ((rd_T24 l0 x65_3).f3))).setCell ⟨gb339, 4, none⟩ (.int .i64 ((rd_T24 l0 x65_3).f4)))).cell? _ = some _ from hx340_0)); clear hn340_0; clear hn340_1; clear hn340_2; clear hn340_3; clear hn340_4; replace p340 := eq_true p340; replace q340 := eq_true q340)); go_upto_region 11 with (first | ((with_reducible refine gate_dst (N := 13) rfl ?_); (try (refine gate_guard (by rfl) ?_; dsimp only)); refine box_event ?hg (N := 13) ?hd (cs := #[.int .i64 0, .int .i64 0, .int .i64 0, .int .i64 0, .int .i64 0]) (t := 24) ?hr ?_; (case hd => rfl); (case hg => rfl); (case hr => first | (go_simp; done) | (go_simp; rfl)); intro gb339 hg w33 hbox hb; have n0_ := Aside0.mk (Kd.R_below (by (with_reducible repeat (first | apply Kd.R_alloc | apply Kd.R_drewN | apply Kd.R_drew)); exact HO_10.out) hb); have n1_ := Aside0.mk (below_step (by repeat (first | (with_reducible first | exact HB.out | apply below_alloc | apply pw_below_drewN | apply below_drew1) | exact HB.out)) hb); have n2_ := Aside0.mk (hbox); have n3_ := Aside0.mk ((by rw [hg]; exact (below_size (by repeat (first | (with_reducible first | exact HB.out | apply below_alloc | apply pw_below_drewN | apply below_drew1) | exact HB.out))) : w.heap.size ≤ gb339)); have n4_ := Aside0.mk ((by rw [hg]; exact (below_size (by repeat (first | (with_reducible first | exact HB.out | apply below_alloc | apply pw_below_drewN | apply below_drew1) | exact HB.out))) : w.heap.size ≤ gb339)); clear HO_10; clear HB; have HO_10 := n0_; have HB := n1_; have BK339 := n2_; have GW339 := n3_; have GE339 := n4_; clear n0_ n1_ n2_ n3_ n4_; clear hb hbox hg; have hcz34_0 : w33.cell? ⟨gb339, 0, none⟩ = some (.int .i64 0) := (blk_cell BK339.out 0).trans rfl; have hcz34_1 : w33.cell? ⟨gb339, 1, none⟩ = some (.int .i64 0) := (blk_cell BK339.out 1).trans rfl; have hcz34_2 : w33.cell? ⟨gb339, 2, none⟩ = some (.int .i64 0) := (blk_cell BK339.out 2).trans rfl; have hcz34_3 : w33.cell? ⟨gb339, 3, none⟩ = some (.int .i64 0) := (blk_cell BK339.out 3).trans rfl; have hcz34_4 : w33.cell? ⟨gb339, 4, none⟩ = some (.int .i64 0) := (blk_cell BK339.out 4).trans rfl; have hfz34_0 := blk_frozen BK339.out 0; have hfz34_1 := blk_frozen BK339.out 1; have hfz34_2 := blk_frozen BK339.out 2; have hfz34_3 := blk_frozen BK339.out 3; have hfz34_4 := blk_frozen BK339.out 4; have p340 : 0 ≤ (x65_3 : Int) := of_decide_eq_true (by first | (with_reducible assumption) | assumption); have q340 : x65_3 < (l1.length : Int) := of_decide_eq_true (by first | (with_reducible assumption) | assumption); obtain ⟨ad340, e340, hx340_0⟩ := Kd.at_int HR1.out x65_3 p340 q340; cases e340; have hn340_0 : ad340.block ≠ gb339 := Nat.ne_of_lt (Nat.lt_of_lt_of_le (by have := World.block_lt_of_cell? _ _ hx340_0; first | rwa [add_block] at this | exact this) GW339.out); have hn340_1 : ad340.block ≠ gb339 := Nat.ne_of_lt (Nat.lt_of_lt_of_le (by have := World.block_lt_of_cell? _ _ hx340_0; first | rwa [add_block] at this | exact this) GW339.out); have hn340_2 : ad340.block ≠ gb339 := Nat.ne_of_lt (Nat.lt_of_lt_of_le (by have := World.block_lt_of_cell? _ _ hx340_0; first | rwa [add_block] at this | exact this) GW339.out); have hn340_3 : ad340.block ≠ gb339 := Nat.ne_of_lt (Nat.lt_of_lt_of_le (by have := World.block_lt_of_cell? _ _ hx340_0; first | rwa [add_block] at this | exact this) GW339.out); have hn340_4 : ad340.block ≠ gb339 := Nat.ne_of_lt (Nat.lt_of_lt_of_le (by have := World.block_lt_of_cell? _ _ hx340_0; first | rwa [add_block] at this | exact this) GW339.out); replace hx340_0 := (HB.out.cell (World.block_lt_of_cell? w _ hx340_0)).trans hx340_0; replace hx340_0 := (cell_far (p := ⟨gb339, 0, none⟩) (by first | (rw [add_block]; exact hn340_0) | (show (Addr.add _ _).block ≠ _; rw [add_block]; exact hn340_0) | exact hn340_0) (.int .i64 ((rd_T24 l0 x65_3).f0))).trans hx340_0; replace hx340_0 := (cell_far (p := ⟨gb339, 1, none⟩) (by first | (rw [add_block]; exact hn340_1) | (show (Addr.add _ _).block ≠ _; rw [add_block]; exact hn340_1) | exact hn340_1) (.int .i64 ((rd_T24 l0 x65_3).f1))).trans hx340_0; replace hx340_0 := (cell_far (p := ⟨gb339, 2, none⟩) (by first | (rw [add_block]; exact hn340_2) | (show (Addr.add _ _).block ≠ _; rw [add_block]; exact hn340_2) | exact hn340_2) (.int .i64 ((rd_T24 l0 x65_3).f2))).trans hx340_0; replace hx340_0 := (cell_far (p := ⟨gb339, 3, none⟩) (by first | (rw [add_block]; exact hn340_3) | (show (Addr.add _ _).block ≠ _; rw [add_block]; exact hn340_3) | exact hn340_3) (.int .i64 ((rd_T24 l0 x65_3).f3))).trans hx340_0; replace hx340_0 := (cell_far (p := ⟨gb339, 4, none⟩) (by first | (rw [add_block]; exact hn340_4) | (show (Addr.add _ _).block ≠ _; rw [add_block]; exact hn340_4) | exact hn340_4) (.int .i64 ((rd_T24 l0 x65_3).f4))).trans hx340_0; (try have hy340_0 := fun (n_ : Nat) => (show (((((((w33.drewN n_).setCell ⟨gb339, 0, none⟩ (.int .i64 ((rd_T24 l0 x65_3).f0))).setCell ⟨gb339, 1, none⟩ (.int .i64 ((rd_T24 l0 x65_3).f1))).setCell ⟨gb339, 2, none⟩ (.int .i64 ((rd_T24 l0 x65_3).f2))).setCell ⟨gb339, 3, none⟩ (.int .i64 ((rd_T24 l0 x65_3).f3))).setCell ⟨gb339, 4, none⟩ (.int .i64 ((rd_T24 l0 x65_3).f4)))).cell? _ = some _ from hx340_0)); clear hn340_0; clear hn340_1; clear hn340_2; clear hn340_3; clear hn340_4; replace p340 := eq_true p340; replace q340 := eq_true q340)))
                          (try simp only [Act.put, List.setIfInBounds_toArray, List.set_cons_zero, List.set_cons_succ])
                          go_cut [93] (fun v93 wc => ∃ (kq : Nat) (x93_31 : Bool), v93 = .bool x93_31 ∧ Aside0 (chargeparklaw16_LeaseTruth.j3 kq l1 a2 a3 t332 t334 (wrap64 (((rd_T24 l0 x65_3).f3) + (wrap64 (rd l1 x65_3)))) l0 (l0.length : Int) x65_3 x93_31 ((rd_T24 l0 x65_3).f0) ((rd_T24 l0 x65_3).f1) ((rd_T24 l0 x65_3).f2) ((rd_T24 l0 x65_3).f3) ((rd_T24 l0 x65_3).f4) = some r) ∧ Aside0 (kq ≤ k3) ∧ Aside0 (Kd.R (Kd.int .i64) 3 wc w.heap.size (fun _ => True) v336 t334) ∧ Aside0 (wc.heap[gb339]? = some (.cells #[.int .i64 ((rd_T24 l0 x65_3).f0), .int .i64 ((rd_T24 l0 x65_3).f1), .int .i64 ((rd_T24 l0 x65_3).f2), .int .i64 ((rd_T24 l0 x65_3).f3), .int .i64 ((rd_T24 l0 x65_3).f4)] 24 (0, 0))) ∧ Aside0 (Below w.heap.size w wc))
                          case first =>
                            have H := HC32.out
                            clear HC32
                            by_cases c35 : (rd l1 x65_3) > 10
                            · rw [if_pos c35] at H
                              have c35b0 : decide (10 < (rd l1 x65_3)) = true := decide_eq_true c35
                              clear c35
                              (first | rw [c35b0] | (simp only [i64_w, i32_w]; rw [c35b0]) | skip)
                              have H' := Aside0.mk H
                              clear H
                              have p341 : 0 ≤ (x65_3 : Int) := of_decide_eq_true (by first | (with_reducible assumption) | assumption)
                              have q341 : x65_3 < (l1.length : Int) := of_decide_eq_true (by first | (with_reducible assumption) | assumption)
                              obtain ⟨ad341, e341, hx341_0⟩ := Kd.at_int HR1.out x65_3 p341 q341
                              obtain rfl : ad340 = ad341 := (by injection e341)
                              have hn341_0 : ad340.block ≠ gb339 := Nat.ne_of_lt (Nat.lt_of_lt_of_le (by have := World.block_lt_of_cell? _ _ hx341_0; first | rwa [add_block] at this | exact this) GW339.out)
                              have hn341_1 : ad340.block ≠ gb339 := Nat.ne_of_lt (Nat.lt_of_lt_of_le (by have := World.block_lt_of_cell? _ _ hx341_0; first | rwa [add_block] at this | exact this) GW339.out)
                              have hn341_2 : ad340.block ≠ gb339 := Nat.ne_of_lt (Nat.lt_of_lt_of_le (by have := World.block_lt_of_cell? _ _ hx341_0; first | rwa [add_block] at this | exact this) GW339.out)
                              have hn341_3 : ad340.block ≠ gb339 := Nat.ne_of_lt (Nat.lt_of_lt_of_le (by have := World.block_lt_of_cell? _ _ hx341_0; first | rwa [add_block] at this | exact this) GW339.out)
                              have hn341_4 : ad340.block ≠ gb339 := Nat.ne_of_lt (Nat.lt_of_lt_of_le (by have := World.block_lt_of_cell? _ _ hx341_0; first | rwa [add_block] at this | exact this) GW339.out)
                              replace hx341_0 := (HB.out.cell (World.block_lt_of_cell? w _ hx341_0)).trans hx341_0
                              replace hx341_0 := (cell_far (p := ⟨gb339, 0, none⟩) (by first | (rw [add_block]; exact hn341_0) | (show (Addr.add _ _).block ≠ _; rw [add_block]; exact hn341_0) | exact hn341_0) (.int .i64 ((rd_T24 l0 x65_3).f0))).trans hx341_0
                              replace hx341_0 := (cell_far (p := ⟨gb339, 1, none⟩) (by first | (rw [add_block]; exact hn341_1) | (show (Addr.add _ _).block ≠ _; rw [add_block]; exact hn341_1) | exact hn341_1) (.int .i64 ((rd_T24 l0 x65_3).f1))).trans hx341_0
                              replace hx341_0 := (cell_far (p := ⟨gb339, 2, none⟩) (by first | (rw [add_block]; exact hn341_2) | (show (Addr.add _ _).block ≠ _; rw [add_block]; exact hn341_2) | exact hn341_2) (.int .i64 ((rd_T24 l0 x65_3).f2))).trans hx341_0
                              replace hx341_0 := (cell_far (p := ⟨gb339, 3, none⟩) (by first | (rw [add_block]; exact hn341_3) | (show (Addr.add _ _).block ≠ _; rw [add_block]; exact hn341_3) | exact hn341_3) (.int .i64 ((rd_T24 l0 x65_3).f3))).trans hx341_0
                              replace hx341_0 := (cell_far (p := ⟨gb339, 4, none⟩) (by first | (rw [add_block]; exact hn341_4) | (show (Addr.add _ _).block ≠ _; rw [add_block]; exact hn341_4) | exact hn341_4) (.int .i64 ((rd_T24 l0 x65_3).f4))).trans hx341_0
                              (try have hy341_0 := fun (n_ : Nat) => (show (((((((w33.drewN n_).setCell ⟨gb339, 0, none⟩ (.int .i64 ((rd_T24 l0 x65_3).f0))).setCell ⟨gb339, 1, none⟩ (.int .i64 ((rd_T24 l0 x65_3).f1))).setCell ⟨gb339, 2, none⟩ (.int .i64 ((rd_T24 l0 x65_3).f2))).setCell ⟨gb339, 3, none⟩ (.int .i64 ((rd_T24 l0 x65_3).f3))).setCell ⟨gb339, 4, none⟩ (.int .i64 ((rd_T24 l0 x65_3).f4)))).cell? _ = some _ from hx341_0))
                              clear hn341_0
                              clear hn341_1
                              clear hn341_2
                              clear hn341_3
                              clear hn341_4
                              replace p341 := eq_true p341
                              replace q341 := eq_true q341
                              go_wp2
                              repeat (go_quiet (fail); try go_wp2)
                              go_meet
                              case rel => exact ⟨_, (true), (by first | rfl | (simp; done) | (simp [*]; done)), H', ⟨by have := HJ5.out; have := HJ22.out; have := HK3.out; first | omega | exact Nat.le_refl _⟩, ⟨by (with_reducible repeat (first | apply Kd.R_alloc | apply Kd.R_drewN | apply Kd.R_drew)); exact Kd.R_mono (Kd.R_far (p := ⟨gb339, 4, none⟩) (Kd.R_far (p := ⟨gb339, 3, none⟩) (Kd.R_far (p := ⟨gb339, 2, none⟩) (Kd.R_far (p := ⟨gb339, 1, none⟩) (Kd.R_far (p := ⟨gb339, 0, none⟩) (Kd.R_types HO_10.out BK339.out (by decide)) (fun _ hk => hk.2) (.int .i64 ((rd_T24 l0 x65_3).f0))) (fun _ hk => hk.2) (.int .i64 ((rd_T24 l0 x65_3).f1))) (fun _ hk => hk.2) (.int .i64 ((rd_T24 l0 x65_3).f2))) (fun _ hk => hk.2) (.int .i64 ((rd_T24 l0 x65_3).f3))) (fun _ hk => hk.2) (.int .i64 ((rd_T24 l0 x65_3).f4))) (fun _ hk => trivial)⟩, ⟨by (with_reducible repeat (first | refine blk_drewN ?_ _ | refine blk_drew ?_ | refine blk_alloc ?_ _)); refine blk_put (cs := #[.int .i64 ((rd_T24 l0 x65_3).f0), .int .i64 ((rd_T24 l0 x65_3).f1), .int .i64 ((rd_T24 l0 x65_3).f2), .int .i64 ((rd_T24 l0 x65_3).f3), .int .i64 0]) ?_ 4 _ rfl; (with_reducible repeat (first | refine blk_drewN ?_ _ | refine blk_drew ?_ | refine blk_alloc ?_ _)); refine blk_put (cs := #[.int .i64 ((rd_T24 l0 x65_3).f0), .int .i64 ((rd_T24 l0 x65_3).f1), .int .i64 ((rd_T24 l0 x65_3).f2), .int .i64 0, .int .i64 0]) ?_ 3 _ rfl; (with_reducible repeat (first | refine blk_drewN ?_ _ | refine blk_drew ?_ | refine blk_alloc ?_ _)); refine blk_put (cs := #[.int .i64 ((rd_T24 l0 x65_3).f0), .int .i64 ((rd_T24 l0 x65_3).f1), .int .i64 0, .int .i64 0, .int .i64 0]) ?_ 2 _ rfl; (with_reducible repeat (first | refine blk_drewN ?_ _ | refine blk_drew ?_ | refine blk_alloc ?_ _)); refine blk_put (cs := #[.int .i64 ((rd_T24 l0 x65_3).f0), .int .i64 0, .int .i64 0, .int .i64 0, .int .i64 0]) ?_ 1 _ rfl; (with_reducible repeat (first | refine blk_drewN ?_ _ | refine blk_drew ?_ | refine blk_alloc ?_ _)); refine blk_put (cs := #[.int .i64 0, .int .i64 0, .int .i64 0, .int .i64 0, .int .i64 0]) ?_ 0 _ rfl; (with_reducible repeat (first | refine blk_drewN ?_ _ | refine blk_drew ?_ | refine blk_alloc ?_ _)); exact BK339.out⟩, ⟨by repeat (first | (with_reducible first | exact HB.out | apply below_alloc | apply pw_below_drewN | apply below_drew1 | refine below_set ?_ GE339.out) | exact HB.out)⟩⟩
                            · rw [if_neg c35] at H
                              have c35b0 : decide (10 < (rd l1 x65_3)) = false := decide_eq_false c35
                              clear c35
                              (first | rw [c35b0] | (simp only [i64_w, i32_w]; rw [c35b0]) | skip)
                              by_cases c36 : a3 < (wrap64 (((rd_T24 l0 x65_3).f3) + (wrap64 (rd l1 x65_3))))
                              · rw [if_pos c36] at H
                                have c36b0 : decide (a3 < (wrap64 (((rd_T24 l0 x65_3).f3) + (wrap64 (rd l1 x65_3))))) = true := decide_eq_true c36
                                clear c36
                                have H' := Aside0.mk H
                                clear H
                                have p341 : 0 ≤ (x65_3 : Int) := of_decide_eq_true (by first | (with_reducible assumption) | assumption)
                                have q341 : x65_3 < (l1.length : Int) := of_decide_eq_true (by first | (with_reducible assumption) | assumption)
                                obtain ⟨ad341, e341, hx341_0⟩ := Kd.at_int HR1.out x65_3 p341 q341
                                obtain rfl : ad340 = ad341 := (by injection e341)
                                have hn341_0 : ad340.block ≠ gb339 := Nat.ne_of_lt (Nat.lt_of_lt_of_le (by have := World.block_lt_of_cell? _ _ hx341_0; first | rwa [add_block] at this | exact this) GW339.out)
                                have hn341_1 : ad340.block ≠ gb339 := Nat.ne_of_lt (Nat.lt_of_lt_of_le (by have := World.block_lt_of_cell? _ _ hx341_0; first | rwa [add_block] at this | exact this) GW339.out)
                                have hn341_2 : ad340.block ≠ gb339 := Nat.ne_of_lt (Nat.lt_of_lt_of_le (by have := World.block_lt_of_cell? _ _ hx341_0; first | rwa [add_block] at this | exact this) GW339.out)
                                have hn341_3 : ad340.block ≠ gb339 := Nat.ne_of_lt (Nat.lt_of_lt_of_le (by have := World.block_lt_of_cell? _ _ hx341_0; first | rwa [add_block] at this | exact this) GW339.out)
                                have hn341_4 : ad340.block ≠ gb339 := Nat.ne_of_lt (Nat.lt_of_lt_of_le (by have := World.block_lt_of_cell? _ _ hx341_0; first | rwa [add_block] at this | exact this) GW339.out)
                                replace hx341_0 := (HB.out.cell (World.block_lt_of_cell? w _ hx341_0)).trans hx341_0
                                replace hx341_0 := (cell_far (p := ⟨gb339, 0, none⟩) (by first | (rw [add_block]; exact hn341_0) | (show (Addr.add _ _).block ≠ _; rw [add_block]; exact hn341_0) | exact hn341_0) (.int .i64 ((rd_T24 l0 x65_3).f0))).trans hx341_0
                                replace hx341_0 := (cell_far (p := ⟨gb339, 1, none⟩) (by first | (rw [add_block]; exact hn341_1) | (show (Addr.add _ _).block ≠ _; rw [add_block]; exact hn341_1) | exact hn341_1) (.int .i64 ((rd_T24 l0 x65_3).f1))).trans hx341_0
                                replace hx341_0 := (cell_far (p := ⟨gb339, 2, none⟩) (by first | (rw [add_block]; exact hn341_2) | (show (Addr.add _ _).block ≠ _; rw [add_block]; exact hn341_2) | exact hn341_2) (.int .i64 ((rd_T24 l0 x65_3).f2))).trans hx341_0
                                replace hx341_0 := (cell_far (p := ⟨gb339, 3, none⟩) (by first | (rw [add_block]; exact hn341_3) | (show (Addr.add _ _).block ≠ _; rw [add_block]; exact hn341_3) | exact hn341_3) (.int .i64 ((rd_T24 l0 x65_3).f3))).trans hx341_0
                                replace hx341_0 := (cell_far (p := ⟨gb339, 4, none⟩) (by first | (rw [add_block]; exact hn341_4) | (show (Addr.add _ _).block ≠ _; rw [add_block]; exact hn341_4) | exact hn341_4) (.int .i64 ((rd_T24 l0 x65_3).f4))).trans hx341_0
                                (try have hy341_0 := fun (n_ : Nat) => (show (((((((w33.drewN n_).setCell ⟨gb339, 0, none⟩ (.int .i64 ((rd_T24 l0 x65_3).f0))).setCell ⟨gb339, 1, none⟩ (.int .i64 ((rd_T24 l0 x65_3).f1))).setCell ⟨gb339, 2, none⟩ (.int .i64 ((rd_T24 l0 x65_3).f2))).setCell ⟨gb339, 3, none⟩ (.int .i64 ((rd_T24 l0 x65_3).f3))).setCell ⟨gb339, 4, none⟩ (.int .i64 ((rd_T24 l0 x65_3).f4)))).cell? _ = some _ from hx341_0))
                                clear hn341_0
                                clear hn341_1
                                clear hn341_2
                                clear hn341_3
                                clear hn341_4
                                replace p341 := eq_true p341
                                replace q341 := eq_true q341
                                go_wp2
                                repeat (go_quiet (fail); try go_wp2)
                                go_meet
                                case rel => exact ⟨_, (true), (by first | rfl | (simp; done) | (simp [*]; done)), H', ⟨by have := HJ5.out; have := HJ22.out; have := HK3.out; first | omega | exact Nat.le_refl _⟩, ⟨by (with_reducible repeat (first | apply Kd.R_alloc | apply Kd.R_drewN | apply Kd.R_drew)); exact Kd.R_mono (Kd.R_far (p := ⟨gb339, 4, none⟩) (Kd.R_far (p := ⟨gb339, 3, none⟩) (Kd.R_far (p := ⟨gb339, 2, none⟩) (Kd.R_far (p := ⟨gb339, 1, none⟩) (Kd.R_far (p := ⟨gb339, 0, none⟩) (Kd.R_types HO_10.out BK339.out (by decide)) (fun _ hk => hk.2) (.int .i64 ((rd_T24 l0 x65_3).f0))) (fun _ hk => hk.2) (.int .i64 ((rd_T24 l0 x65_3).f1))) (fun _ hk => hk.2) (.int .i64 ((rd_T24 l0 x65_3).f2))) (fun _ hk => hk.2) (.int .i64 ((rd_T24 l0 x65_3).f3))) (fun _ hk => hk.2) (.int .i64 ((rd_T24 l0 x65_3).f4))) (fun _ hk => trivial)⟩, ⟨by (with_reducible repeat (first | refine blk_drewN ?_ _ | refine blk_drew ?_ | refine blk_alloc ?_ _)); refine blk_put (cs := #[.int .i64 ((rd_T24 l0 x65_3).f0), .int .i64 ((rd_T24 l0 x65_3).f1), .int .i64 ((rd_T24 l0 x65_3).f2), .int .i64 ((rd_T24 l0 x65_3).f3), .int .i64 0]) ?_ 4 _ rfl; (with_reducible repeat (first | refine blk_drewN ?_ _ | refine blk_drew ?_ | refine blk_alloc ?_ _)); refine blk_put (cs := #[.int .i64 ((rd_T24 l0 x65_3).f0), .int .i64 ((rd_T24 l0 x65_3).f1), .int .i64 ((rd_T24 l0 x65_3).f2), .int .i64 0, .int .i64 0]) ?_ 3 _ rfl; (with_reducible repeat (first | refine blk_drewN ?_ _ | refine blk_drew ?_ | refine blk_alloc ?_ _)); refine blk_put (cs := #[.int .i64 ((rd_T24 l0 x65_3).f0), .int .i64 ((rd_T24 l0 x65_3).f1), .int .i64 0, .int .i64 0, .int .i64 0]) ?_ 2 _ rfl; (with_reducible repeat (first | refine blk_drewN ?_ _ | refine blk_drew ?_ | refine blk_alloc ?_ _)); refine blk_put (cs := #[.int .i64 ((rd_T24 l0 x65_3).f0), .int .i64 0, .int .i64 0, .int .i64 0, .int .i64 0]) ?_ 1 _ rfl; (with_reducible repeat (first | refine blk_drewN ?_ _ | refine blk_drew ?_ | refine blk_alloc ?_ _)); refine blk_put (cs := #[.int .i64 0, .int .i64 0, .int .i64 0, .int .i64 0, .int .i64 0]) ?_ 0 _ rfl; (with_reducible repeat (first | refine blk_drewN ?_ _ | refine blk_drew ?_ | refine blk_alloc ?_ _)); exact BK339.out⟩, ⟨by repeat (first | (with_reducible first | exact HB.out | apply below_alloc | apply pw_below_drewN | apply below_drew1 | refine below_set ?_ GE339.out) | exact HB.out)⟩⟩
                              · rw [if_neg c36] at H
                                have c36b0 : decide (a3 < (wrap64 (((rd_T24 l0 x65_3).f3) + (wrap64 (rd l1 x65_3))))) = false := decide_eq_false c36
                                clear c36
                                have H' := Aside0.mk H
                                clear H
                                have p341 : 0 ≤ (x65_3 : Int) := of_decide_eq_true (by first | (with_reducible assumption) | assumption)
                                have q341 : x65_3 < (l1.length : Int) := of_decide_eq_true (by first | (with_reducible assumption) | assumption)
                                obtain ⟨ad341, e341, hx341_0⟩ := Kd.at_int HR1.out x65_3 p341 q341
                                obtain rfl : ad340 = ad341 := (by injection e341)
                                have hn341_0 : ad340.block ≠ gb339 := Nat.ne_of_lt (Nat.lt_of_lt_of_le (by have := World.block_lt_of_cell? _ _ hx341_0; first | rwa [add_block] at this | exact this) GW339.out)
                                have hn341_1 : ad340.block ≠ gb339 := Nat.ne_of_lt (Nat.lt_of_lt_of_le (by have := World.block_lt_of_cell? _ _ hx341_0; first | rwa [add_block] at this | exact this) GW339.out)
                                have hn341_2 : ad340.block ≠ gb339 := Nat.ne_of_lt (Nat.lt_of_lt_of_le (by have := World.block_lt_of_cell? _ _ hx341_0; first | rwa [add_block] at this | exact this) GW339.out)
                                have hn341_3 : ad340.block ≠ gb339 := Nat.ne_of_lt (Nat.lt_of_lt_of_le (by have := World.block_lt_of_cell? _ _ hx341_0; first | rwa [add_block] at this | exact this) GW339.out)
                                have hn341_4 : ad340.block ≠ gb339 := Nat.ne_of_lt (Nat.lt_of_lt_of_le (by have := World.block_lt_of_cell? _ _ hx341_0; first | rwa [add_block] at this | exact this) GW339.out)
                                replace hx341_0 := (HB.out.cell (World.block_lt_of_cell? w _ hx341_0)).trans hx341_0
                                replace hx341_0 := (cell_far (p := ⟨gb339, 0, none⟩) (by first | (rw [add_block]; exact hn341_0) | (show (Addr.add _ _).block ≠ _; rw [add_block]; exact hn341_0) | exact hn341_0) (.int .i64 ((rd_T24 l0 x65_3).f0))).trans hx341_0
                                replace hx341_0 := (cell_far (p := ⟨gb339, 1, none⟩) (by first | (rw [add_block]; exact hn341_1) | (show (Addr.add _ _).block ≠ _; rw [add_block]; exact hn341_1) | exact hn341_1) (.int .i64 ((rd_T24 l0 x65_3).f1))).trans hx341_0
                                replace hx341_0 := (cell_far (p := ⟨gb339, 2, none⟩) (by first | (rw [add_block]; exact hn341_2) | (show (Addr.add _ _).block ≠ _; rw [add_block]; exact hn341_2) | exact hn341_2) (.int .i64 ((rd_T24 l0 x65_3).f2))).trans hx341_0
                                replace hx341_0 := (cell_far (p := ⟨gb339, 3, none⟩) (by first | (rw [add_block]; exact hn341_3) | (show (Addr.add _ _).block ≠ _; rw [add_block]; exact hn341_3) | exact hn341_3) (.int .i64 ((rd_T24 l0 x65_3).f3))).trans hx341_0
                                replace hx341_0 := (cell_far (p := ⟨gb339, 4, none⟩) (by first | (rw [add_block]; exact hn341_4) | (show (Addr.add _ _).block ≠ _; rw [add_block]; exact hn341_4) | exact hn341_4) (.int .i64 ((rd_T24 l0 x65_3).f4))).trans hx341_0
                                (try have hy341_0 := fun (n_ : Nat) => (show (((((((w33.drewN n_).setCell ⟨gb339, 0, none⟩ (.int .i64 ((rd_T24 l0 x65_3).f0))).setCell ⟨gb339, 1, none⟩ (.int .i64 ((rd_T24 l0 x65_3).f1))).setCell ⟨gb339, 2, none⟩ (.int .i64 ((rd_T24 l0 x65_3).f2))).setCell ⟨gb339, 3, none⟩ (.int .i64 ((rd_T24 l0 x65_3).f3))).setCell ⟨gb339, 4, none⟩ (.int .i64 ((rd_T24 l0 x65_3).f4)))).cell? _ = some _ from hx341_0))
                                clear hn341_0
                                clear hn341_1
                                clear hn341_2
                                clear hn341_3
                                clear hn341_4
                                replace p341 := eq_true p341
                                replace q341 := eq_true q341
                                go_wp2
                                repeat (go_quiet (fail); try go_wp2)
                                go_meet
                                case rel => exact ⟨_, (decide ((wrap64 (a3 - (wrap64 (((rd_T24 l0 x65_3).f3) + (wrap64 (rd l1 x65_3)))))) > 1000000)), (by first | rfl | (simp; done) | (simp [*]; done)), H', ⟨by have := HJ5.out; have := HJ22.out; have := HK3.out; first | omega | exact Nat.le_refl _⟩, ⟨by (with_reducible repeat (first | apply Kd.R_alloc | apply Kd.R_drewN | apply Kd.R_drew)); exact Kd.R_mono (Kd.R_far (p := ⟨gb339, 4, none⟩) (Kd.R_far (p := ⟨gb339, 3, none⟩) (Kd.R_far (p := ⟨gb339, 2, none⟩) (Kd.R_far (p := ⟨gb339, 1, none⟩) (Kd.R_far (p := ⟨gb339, 0, none⟩) (Kd.R_types HO_10.out BK339.out (by decide)) (fun _ hk => hk.2) (.int .i64 ((rd_T24 l0 x65_3).f0))) (fun _ hk => hk.2) (.int .i64 ((rd_T24 l0 x65_3).f1))) (fun _ hk => hk.2) (.int .i64 ((rd_T24 l0 x65_3).f2))) (fun _ hk => hk.2) (.int .i64 ((rd_T24 l0 x65_3).f3))) (fun _ hk => hk.2) (.int .i64 ((rd_T24 l0 x65_3).f4))) (fun _ hk => trivial)⟩, ⟨by (with_reducible repeat (first | refine blk_drewN ?_ _ | refine blk_drew ?_ | refine blk_alloc ?_ _)); refine blk_put (cs := #[.int .i64 ((rd_T24 l0 x65_3).f0), .int .i64 ((rd_T24 l0 x65_3).f1), .int .i64 ((rd_T24 l0 x65_3).f2), .int .i64 ((rd_T24 l0 x65_3).f3), .int .i64 0]) ?_ 4 _ rfl; (with_reducible repeat (first | refine blk_drewN ?_ _ | refine blk_drew ?_ | refine blk_alloc ?_ _)); refine blk_put (cs := #[.int .i64 ((rd_T24 l0 x65_3).f0), .int .i64 ((rd_T24 l0 x65_3).f1), .int .i64 ((rd_T24 l0 x65_3).f2), .int .i64 0, .int .i64 0]) ?_ 3 _ rfl; (with_reducible repeat (first | refine blk_drewN ?_ _ | refine blk_drew ?_ | refine blk_alloc ?_ _)); refine blk_put (cs := #[.int .i64 ((rd_T24 l0 x65_3).f0), .int .i64 ((rd_T24 l0 x65_3).f1), .int .i64 0, .int .i64 0, .int .i64 0]) ?_ 2 _ rfl; (with_reducible repeat (first | refine blk_drewN ?_ _ | refine blk_drew ?_ | refine blk_alloc ?_ _)); refine blk_put (cs := #[.int .i64 ((rd_T24 l0 x65_3).f0), .int .i64 0, .int .i64 0, .int .i64 0, .int .i64 0]) ?_ 1 _ rfl; (with_reducible repeat (first | refine blk_drewN ?_ _ | refine blk_drew ?_ | refine blk_alloc ?_ _)); refine blk_put (cs := #[.int .i64 0, .int .i64 0, .int .i64 0, .int .i64 0, .int .i64 0]) ?_ 0 _ rfl; (with_reducible repeat (first | refine blk_drewN ?_ _ | refine blk_drew ?_ | refine blk_alloc ?_ _)); exact BK339.out⟩, ⟨by repeat (first | (with_reducible first | exact HB.out | apply below_alloc | apply pw_below_drewN | apply below_drew1 | refine below_set ?_ GE339.out) | exact HB.out)⟩⟩
                          case rest =>
                            clear HC32
                            try clear c1
                            try clear c2
                            try clear p2
                            try clear c3
                            try clear p3
                            try clear q3
                            try clear hx3
                            try clear p6
                            try clear c8
                            try clear c8b0
                            try clear c8b1
                            try clear c9
                            try clear c10
                            try clear c11
                            try clear c11b0
                            try clear c11b1
                            try clear c13
                            try clear c13b0
                            try clear c15
                            try clear c15b0
                            try clear c17
                            try clear c17b0
                            try clear c21
                            try clear c25
                            try clear c25b0
                            try clear c25b1
                            try clear c27
                            try clear c28
                            try clear c28b0
                            try clear c29
                            try clear c29b0
                            try clear c30
                            try clear c30b0
                            try clear c31
                            try clear c31b0
                            try clear p33
                            try clear q33
                            try clear hx33
                            try clear p34
                            try clear q34
                            try clear hx34
                            try clear c35
                            try clear c35b0
                            try clear c36
                            try clear c36b0
                            try clear hcz34_0
                            try clear hcz34_1
                            try clear hcz34_2
                            try clear hcz34_3
                            try clear hcz34_4
                            try clear hfz34_0
                            try clear hfz34_1
                            try clear hfz34_2
                            try clear hfz34_3
                            try clear hfz34_4
                            try clear hx338_0
                            try clear hx338_1
                            try clear hx338_2
                            try clear hx338_3
                            try clear hx338_4
                            try clear hx340_0
                            try clear hx341_0
                            try clear p2
                            try clear p338
                            try clear p340
                            try clear p341
                            try clear q338
                            try clear q340
                            try clear q341
                            obtain ⟨kq, x93_31, rfl, HA, HJ31, HO_10, BK339, HB⟩ := hcut
                            cases kq with
                            | zero => exact absurd HA.out (by simp [chargeparklaw16_LeaseTruth.j3])
                            | succ kj31 =>
                              have H := HA.out
                              clear HA
                              simp only [chargeparklaw16_LeaseTruth.j3] at H
                              by_cases c37 : x93_31 = true
                              · subst c37
                                have H1 : (chargeparklaw16_LeaseTruth.l0 kj31 l1 a2 a3 t332 t334 l0 (l0.length : Int) (wrap64 (x65_3 + 1))) = some r := by rw [if_pos rfl] at H; exact H
                                clear H
                                have H := H1
                                clear H1
                                have H' := Aside0.mk H
                                clear H
                                go_wp2
                                repeat (go_quiet (fail); try go_wp2)
                                go_roundg kj31
                                case measure => have := HJ5.out; have := HJ22.out; have := HK3.out; have := HJ31.out; omega
                                case rel => exact ⟨(wrap64 (x65_3 + 1)), (by first | rfl | (simp; done) | (simp [*]; done)), H', ⟨by have := HJ5.out; have := HJ22.out; have := HK3.out; have := HJ31.out; omega⟩, ⟨by (with_reducible repeat (first | apply Kd.R_alloc | apply Kd.R_drewN | apply Kd.R_drew)); exact HO_10.out⟩, ⟨by repeat (first | (with_reducible first | exact HB.out | apply below_alloc | apply pw_below_drewN | apply below_drew1 | refine below_set ?_ GE339.out) | exact HB.out)⟩⟩
                              · replace c37 := Bool.eq_false_iff.mpr c37
                                subst c37
                                have H1 : ((clock_Shown.f (wrap64 (a3 - (wrap64 (((rd_T24 l0 x65_3).f3) + (wrap64 (rd l1 x65_3)))))) a2).bind fun bt342 => (if bt342.2 = 0 then (if bt342.1 < ((rd_T24 l0 x65_3).f4) then (if 0 ≤ ((rd_T24 l0 x65_3).f1) then (if ((rd_T24 l0 x65_3).f1) < (t334.length : Int) then (if ((rd_T24 l0 x65_3).f2) > (rd t334 ((rd_T24 l0 x65_3).f1)) then (none) else (chargeparklaw16_LeaseTruth.l0 kj31 l1 a2 a3 t332 t334 l0 (l0.length : Int) (wrap64 (x65_3 + 1)))) else (none)) else (none)) else (chargeparklaw16_LeaseTruth.l0 kj31 l1 a2 a3 t332 t334 l0 (l0.length : Int) (wrap64 (x65_3 + 1)))) else (none))) = some r := by rw [if_neg (show ¬ (false = true) by decide)] at H; exact H
                                clear H
                                have H := H1
                                clear H1
                                replace H := Option.bind_eq_some_iff.mp H
                                obtain ⟨⟨t342, t343⟩, A380, H⟩ := H
                                replace H : (if t343 = 0 then (if t342 < ((rd_T24 l0 x65_3).f4) then (if 0 ≤ ((rd_T24 l0 x65_3).f1) then (if ((rd_T24 l0 x65_3).f1) < (t334.length : Int) then (if ((rd_T24 l0 x65_3).f2) > (rd t334 ((rd_T24 l0 x65_3).f1)) then (none) else (chargeparklaw16_LeaseTruth.l0 kj31 l1 a2 a3 t332 t334 l0 (l0.length : Int) (wrap64 (x65_3 + 1)))) else (none)) else (none)) else (chargeparklaw16_LeaseTruth.l0 kj31 l1 a2 a3 t332 t334 l0 (l0.length : Int) (wrap64 (x65_3 + 1)))) else (none)) = some r := H
                                have A38 := Aside0.mk A380
                                clear A380
                                by_cases c39 : t343 = 0
                                · rw [if_pos c39] at H
                                  have c39b0 : (t343 == 0) = true := beq_iff_eq.mpr c39
                                  have c39b1 : (t343 != 0) = false := bne_eq_false_iff_eq.mpr c39
                                  clear c39
                                  by_cases c40 : t342 < ((rd_T24 l0 x65_3).f4)
                                  · rw [if_pos c40] at H
                                    have c40b0 : decide (t342 < ((rd_T24 l0 x65_3).f4)) = true := decide_eq_true c40
                                    clear c40
                                    by_cases c41 : 0 ≤ ((rd_T24 l0 x65_3).f1)
                                    · rw [if_pos c41] at H
                                      have c41b0 : decide (0 ≤ ((rd_T24 l0 x65_3).f1)) = true := decide_eq_true c41
                                      clear c41
                                      by_cases c42 : ((rd_T24 l0 x65_3).f1) < (t334.length : Int)
                                      · rw [if_pos c42] at H
                                        have c42b0 : decide (((rd_T24 l0 x65_3).f1) < (t334.length : Int)) = true := decide_eq_true c42
                                        clear c42
                                        by_cases c43 : ((rd_T24 l0 x65_3).f2) > (rd t334 ((rd_T24 l0 x65_3).f1))
                                        · rw [if_pos c43] at H
                                          exact absurd H (by simp)
                                        · rw [if_neg c43] at H
                                          have c43b0 : decide ((rd t334 ((rd_T24 l0 x65_3).f1)) < ((rd_T24 l0 x65_3).f2)) = false := decide_eq_false c43
                                          clear c43
                                          have H' := Aside0.mk H
                                          clear H
                                          go_wp2_with (first | (go_at_call 22; (with_reducible refine (clock_Shown.calls (wrap64 (a3 - (wrap64 (((rd_T24 l0 x65_3).f3) + (wrap64 (rd l1 x65_3)))))) a2 t342 t343 _ A38.out).mono ?_); rintro e w' ⟨rfl, ⟨nd, rfl⟩⟩; (try first | exact ⟨rfl, _, World.drewN_drewN _ _ _⟩ | exact ⟨rfl, _, Eq.trans (World.drewN_drewN _ _ _) (congrArg (World.drewN _) (Nat.add_assoc _ _ _))⟩); have hcz44_0 : wc.cell? ⟨gb339, 0, none⟩ = some (.int .i64 ((rd_T24 l0 x65_3).f0)) := (blk_cell BK339.out 0).trans rfl; have hcz44_1 : wc.cell? ⟨gb339, 1, none⟩ = some (.int .i64 ((rd_T24 l0 x65_3).f1)) := (blk_cell BK339.out 1).trans rfl; have hcz44_2 : wc.cell? ⟨gb339, 2, none⟩ = some (.int .i64 ((rd_T24 l0 x65_3).f2)) := (blk_cell BK339.out 2).trans rfl; have hcz44_3 : wc.cell? ⟨gb339, 3, none⟩ = some (.int .i64 ((rd_T24 l0 x65_3).f3)) := (blk_cell BK339.out 3).trans rfl; have hcz44_4 : wc.cell? ⟨gb339, 4, none⟩ = some (.int .i64 ((rd_T24 l0 x65_3).f4)) := (blk_cell BK339.out 4).trans rfl; have hfz44_0 := blk_frozen BK339.out 0; have hfz44_1 := blk_frozen BK339.out 1; have hfz44_2 := blk_frozen BK339.out 2; have hfz44_3 := blk_frozen BK339.out 3; have hfz44_4 := blk_frozen BK339.out 4; obtain ⟨Ao45, co45, eo45⟩ := Kd.R_slice HO_10.out; subst eo45; have p344 : 0 ≤ (((rd_T24 l0 x65_3).f1) : Int) := of_decide_eq_true (by first | (with_reducible assumption) | assumption); have q344 : ((rd_T24 l0 x65_3).f1) < (t334.length : Int) := of_decide_eq_true (by first | (with_reducible assumption) | assumption); obtain ⟨ad344, e344, hx344_0⟩ := Kd.at_int (Kd.R_reads' HO_10.out).2.2 ((rd_T24 l0 x65_3).f1) p344 q344; cases e344; replace p344 := eq_true p344; replace q344 := eq_true q344))
                                          repeat (go_quiet (first | (go_at_call 22; (with_reducible refine (clock_Shown.calls (wrap64 (a3 - (wrap64 (((rd_T24 l0 x65_3).f3) + (wrap64 (rd l1 x65_3)))))) a2 t342 t343 _ A38.out).mono ?_); rintro e w' ⟨rfl, ⟨nd, rfl⟩⟩; (try first | exact ⟨rfl, _, World.drewN_drewN _ _ _⟩ | exact ⟨rfl, _, Eq.trans (World.drewN_drewN _ _ _) (congrArg (World.drewN _) (Nat.add_assoc _ _ _))⟩); have hcz44_0 : wc.cell? ⟨gb339, 0, none⟩ = some (.int .i64 ((rd_T24 l0 x65_3).f0)) := (blk_cell BK339.out 0).trans rfl; have hcz44_1 : wc.cell? ⟨gb339, 1, none⟩ = some (.int .i64 ((rd_T24 l0 x65_3).f1)) := (blk_cell BK339.out 1).trans rfl; have hcz44_2 : wc.cell? ⟨gb339, 2, none⟩ = some (.int .i64 ((rd_T24 l0 x65_3).f2)) := (blk_cell BK339.out 2).trans rfl; have hcz44_3 : wc.cell? ⟨gb339, 3, none⟩ = some (.int .i64 ((rd_T24 l0 x65_3).f3)) := (blk_cell BK339.out 3).trans rfl; have hcz44_4 : wc.cell? ⟨gb339, 4, none⟩ = some (.int .i64 ((rd_T24 l0 x65_3).f4)) := (blk_cell BK339.out 4).trans rfl; have hfz44_0 := blk_frozen BK339.out 0; have hfz44_1 := blk_frozen BK339.out 1; have hfz44_2 := blk_frozen BK339.out 2; have hfz44_3 := blk_frozen BK339.out 3; have hfz44_4 := blk_frozen BK339.out 4; obtain ⟨Ao45, co45, eo45⟩ := Kd.R_slice HO_10.out; subst eo45; have p344 : 0 ≤ (((rd_T24 l0 x65_3).f1) : Int) := of_decide_eq_true (by first | (with_reducible assumption) | assumption); have q344 : ((rd_T24 l0 x65_3).f1) < (t334.length : Int) := of_decide_eq_true (by first | (with_reducible assumption) | assumption); obtain ⟨ad344, e344, hx344_0⟩ := Kd.at_int (Kd.R_reads' HO_10.out).2.2 ((rd_T24 l0 x65_3).f1) p344 q344; cases e344; replace p344 := eq_true p344; replace q344 := eq_true q344)); try go_wp2_with (first | (go_at_call 22; (with_reducible refine (clock_Shown.calls (wrap64 (a3 - (wrap64 (((rd_T24 l0 x65_3).f3) + (wrap64 (rd l1 x65_3)))))) a2 t342 t343 _ A38.out).mono ?_); rintro e w' ⟨rfl, ⟨nd, rfl⟩⟩; (try first | exact ⟨rfl, _, World.drewN_drewN _ _ _⟩ | exact ⟨rfl, _, Eq.trans (World.drewN_drewN _ _ _) (congrArg (World.drewN _) (Nat.add_assoc _ _ _))⟩); have hcz44_0 : wc.cell? ⟨gb339, 0, none⟩ = some (.int .i64 ((rd_T24 l0 x65_3).f0)) := (blk_cell BK339.out 0).trans rfl; have hcz44_1 : wc.cell? ⟨gb339, 1, none⟩ = some (.int .i64 ((rd_T24 l0 x65_3).f1)) := (blk_cell BK339.out 1).trans rfl; have hcz44_2 : wc.cell? ⟨gb339, 2, none⟩ = some (.int .i64 ((rd_T24 l0 x65_3).f2)) := (blk_cell BK339.out 2).trans rfl; have hcz44_3 : wc.cell? ⟨gb339, 3, none⟩ = some (.int .i64 ((rd_T24 l0 x65_3).f3)) := (blk_cell BK339.out 3).trans rfl; have hcz44_4 : wc.cell? ⟨gb339, 4, none⟩ = some (.int .i64 ((rd_T24 l0 x65_3).f4)) := (blk_cell BK339.out 4).trans rfl; have hfz44_0 := blk_frozen BK339.out 0; have hfz44_1 := blk_frozen BK339.out 1; have hfz44_2 := blk_frozen BK339.out 2; have hfz44_3 := blk_frozen BK339.out 3; have hfz44_4 := blk_frozen BK339.out 4; obtain ⟨Ao45, co45, eo45⟩ := Kd.R_slice HO_10.out; subst eo45; have p344 : 0 ≤ (((rd_T24 l0 x65_3).f1) : Int) := of_decide_eq_true (by first | (with_reducible assumption) | assumption); have q344 : ((rd_T24 l0 x65_3).f1) < (t334.length : Int) := of_decide_eq_true (by first | (with_reducible assumption) | assumption); obtain ⟨ad344, e344, hx344_0⟩ := Kd.at_int (Kd.R_reads' HO_10.out).2.2 ((rd_T24 l0 x65_3).f1) p344 q344; cases e344; replace p344 := eq_true p344; replace q344 := eq_true q344)))
                                          go_roundg kj31
                                          case measure => have := HJ5.out; have := HJ22.out; have := HK3.out; have := HJ31.out; omega
                                          case rel => exact ⟨(wrap64 (x65_3 + 1)), (by first | rfl | (simp; done) | (simp [*]; done)), H', ⟨by have := HJ5.out; have := HJ22.out; have := HK3.out; have := HJ31.out; omega⟩, ⟨by (with_reducible repeat (first | apply Kd.R_alloc | apply Kd.R_drewN | apply Kd.R_drew)); exact HO_10.out⟩, ⟨by repeat (first | (with_reducible first | exact HB.out | apply below_alloc | apply pw_below_drewN | apply below_drew1 | refine below_set ?_ GE339.out) | exact HB.out)⟩⟩
                                      · rw [if_neg c42] at H
                                        exact absurd H (by simp)
                                    · rw [if_neg c41] at H
                                      exact absurd H (by simp)
                                  · rw [if_neg c40] at H
                                    have c40b0 : decide (t342 < ((rd_T24 l0 x65_3).f4)) = false := decide_eq_false c40
                                    clear c40
                                    have H' := Aside0.mk H
                                    clear H
                                    go_wp2_with (first | (go_at_call 22; (with_reducible refine (clock_Shown.calls (wrap64 (a3 - (wrap64 (((rd_T24 l0 x65_3).f3) + (wrap64 (rd l1 x65_3)))))) a2 t342 t343 _ A38.out).mono ?_); rintro e w' ⟨rfl, ⟨nd, rfl⟩⟩; (try first | exact ⟨rfl, _, World.drewN_drewN _ _ _⟩ | exact ⟨rfl, _, Eq.trans (World.drewN_drewN _ _ _) (congrArg (World.drewN _) (Nat.add_assoc _ _ _))⟩); have hcz46_0 : wc.cell? ⟨gb339, 0, none⟩ = some (.int .i64 ((rd_T24 l0 x65_3).f0)) := (blk_cell BK339.out 0).trans rfl; have hcz46_1 : wc.cell? ⟨gb339, 1, none⟩ = some (.int .i64 ((rd_T24 l0 x65_3).f1)) := (blk_cell BK339.out 1).trans rfl; have hcz46_2 : wc.cell? ⟨gb339, 2, none⟩ = some (.int .i64 ((rd_T24 l0 x65_3).f2)) := (blk_cell BK339.out 2).trans rfl; have hcz46_3 : wc.cell? ⟨gb339, 3, none⟩ = some (.int .i64 ((rd_T24 l0 x65_3).f3)) := (blk_cell BK339.out 3).trans rfl; have hcz46_4 : wc.cell? ⟨gb339, 4, none⟩ = some (.int .i64 ((rd_T24 l0 x65_3).f4)) := (blk_cell BK339.out 4).trans rfl; have hfz46_0 := blk_frozen BK339.out 0; have hfz46_1 := blk_frozen BK339.out 1; have hfz46_2 := blk_frozen BK339.out 2; have hfz46_3 := blk_frozen BK339.out 3; have hfz46_4 := blk_frozen BK339.out 4))
                                    repeat (go_quiet (first | (go_at_call 22; (with_reducible refine (clock_Shown.calls (wrap64 (a3 - (wrap64 (((rd_T24 l0 x65_3).f3) + (wrap64 (rd l1 x65_3)))))) a2 t342 t343 _ A38.out).mono ?_); rintro e w' ⟨rfl, ⟨nd, rfl⟩⟩; (try first | exact ⟨rfl, _, World.drewN_drewN _ _ _⟩ | exact ⟨rfl, _, Eq.trans (World.drewN_drewN _ _ _) (congrArg (World.drewN _) (Nat.add_assoc _ _ _))⟩); have hcz46_0 : wc.cell? ⟨gb339, 0, none⟩ = some (.int .i64 ((rd_T24 l0 x65_3).f0)) := (blk_cell BK339.out 0).trans rfl; have hcz46_1 : wc.cell? ⟨gb339, 1, none⟩ = some (.int .i64 ((rd_T24 l0 x65_3).f1)) := (blk_cell BK339.out 1).trans rfl; have hcz46_2 : wc.cell? ⟨gb339, 2, none⟩ = some (.int .i64 ((rd_T24 l0 x65_3).f2)) := (blk_cell BK339.out 2).trans rfl; have hcz46_3 : wc.cell? ⟨gb339, 3, none⟩ = some (.int .i64 ((rd_T24 l0 x65_3).f3)) := (blk_cell BK339.out 3).trans rfl; have hcz46_4 : wc.cell? ⟨gb339, 4, none⟩ = some (.int .i64 ((rd_T24 l0 x65_3).f4)) := (blk_cell BK339.out 4).trans rfl; have hfz46_0 := blk_frozen BK339.out 0; have hfz46_1 := blk_frozen BK339.out 1; have hfz46_2 := blk_frozen BK339.out 2; have hfz46_3 := blk_frozen BK339.out 3; have hfz46_4 := blk_frozen BK339.out 4)); try go_wp2_with (first | (go_at_call 22; (with_reducible refine (clock_Shown.calls (wrap64 (a3 - (wrap64 (((rd_T24 l0 x65_3).f3) + (wrap64 (rd l1 x65_3)))))) a2 t342 t343 _ A38.out).mono ?_); rintro e w' ⟨rfl, ⟨nd, rfl⟩⟩; (try first | exact ⟨rfl, _, World.drewN_drewN _ _ _⟩ | exact ⟨rfl, _, Eq.trans (World.drewN_drewN _ _ _) (congrArg (World.drewN _) (Nat.add_assoc _ _ _))⟩); have hcz46_0 : wc.cell? ⟨gb339, 0, none⟩ = some (.int .i64 ((rd_T24 l0 x65_3).f0)) := (blk_cell BK339.out 0).trans rfl; have hcz46_1 : wc.cell? ⟨gb339, 1, none⟩ = some (.int .i64 ((rd_T24 l0 x65_3).f1)) := (blk_cell BK339.out 1).trans rfl; have hcz46_2 : wc.cell? ⟨gb339, 2, none⟩ = some (.int .i64 ((rd_T24 l0 x65_3).f2)) := (blk_cell BK339.out 2).trans rfl; have hcz46_3 : wc.cell? ⟨gb339, 3, none⟩ = some (.int .i64 ((rd_T24 l0 x65_3).f3)) := (blk_cell BK339.out 3).trans rfl; have hcz46_4 : wc.cell? ⟨gb339, 4, none⟩ = some (.int .i64 ((rd_T24 l0 x65_3).f4)) := (blk_cell BK339.out 4).trans rfl; have hfz46_0 := blk_frozen BK339.out 0; have hfz46_1 := blk_frozen BK339.out 1; have hfz46_2 := blk_frozen BK339.out 2; have hfz46_3 := blk_frozen BK339.out 3; have hfz46_4 := blk_frozen BK339.out 4)))
                                    go_roundg kj31
                                    case measure => have := HJ5.out; have := HJ22.out; have := HK3.out; have := HJ31.out; omega
                                    case rel => exact ⟨(wrap64 (x65_3 + 1)), (by first | rfl | (simp; done) | (simp [*]; done)), H', ⟨by have := HJ5.out; have := HJ22.out; have := HK3.out; have := HJ31.out; omega⟩, ⟨by (with_reducible repeat (first | apply Kd.R_alloc | apply Kd.R_drewN | apply Kd.R_drew)); exact HO_10.out⟩, ⟨by repeat (first | (with_reducible first | exact HB.out | apply below_alloc | apply pw_below_drewN | apply below_drew1 | refine below_set ?_ GE339.out) | exact HB.out)⟩⟩
                                · rw [if_neg c39] at H
                                  exact absurd H (by simp)
                        · rw [if_neg c31] at H
                          exact absurd H (by simp)
                      · rw [if_neg c30] at H
                        exact absurd H (by simp)
                    · rw [if_neg c29] at H
                      exact absurd H (by simp)
                  · rw [if_neg c28] at H
                    have c28b0 : decide (x65_3 < (l0.length : Int)) = false := decide_eq_false c28
                    clear c28
                    obtain rfl := Option.some.inj H
                    go_wp2
                    repeat (go_quiet (fail); try go_wp2)
                    go_ret
                    exact ⟨by first | rfl | (simp [errW_none, errW_some] <;> rfl) | (simp [*, errW_none, errW_some] <;> rfl), by repeat (first | (with_reducible first | exact HB.out | apply below_alloc | apply pw_below_drewN | apply below_drew1) | exact HB.out)⟩

/-- THE ONE PURE STATEMENT of chargeparklaw16_LeaseTruth: yours. -/
def chargeparklaw16_LeaseTruth.Pure : Prop := ∀ (l0 : List (S24)) (l1 : List Int) (a2 : Int) (a3 : Int), l0.length ≤ maxLen → (∀ y ∈ l0, ok24 y) → l1.length ≤ maxLen → l1.length * 1 ≤ 140737488351232 → (∀ x ∈ l1, (Lit.int .u8 x).wf = true) → (Lit.int .i64 a2).wf = true → (Lit.int .i64 a3).wf = true → ∃ k, chargeparklaw16_LeaseTruth.f k l0 l1 a2 a3 = some true
theorem chargeparklaw16_LeaseTruth.walk (P : chargeparklaw16_LeaseTruth.Pure) (A0 : Option Addr) (c0 : Nat) (l0 : List (S24)) (a1 : Option Addr) (len1 cap1 : Nat) (z1 : List Int) (a2 : Int) (a3 : Int) (w : World) (hC0 : Kd.C k24 w A0 l0.length l0) (hc0 : l0.length ≤ c0) (hm0 : l0.length ≤ maxLen) (ho0 : ∀ y ∈ l0, ok24 y) (w1 : (a1 = none ∧ len1 = 0 ∧ cap1 = 0 ∧ z1 = []) ∨ ∃ x, a1 = some x ∧ len1 ≤ cap1 ∧ cap1 ≤ maxLen ∧ z1.length = cap1 ∧ (∀ i, i < z1.length → w.cell? (x.add i) = some (.int .u8 (z1.getD i 0))) ∧ ∀ n ∈ z1, (Lit.int .u8 n).wf = true) (y1 : len1 * 1 ≤ 140737488351232) (w2 : (Lit.int .i64 a2).wf = true) (w3 : (Lit.int .i64 a3).wf = true) :
    Calls Try.prog 9 #[.slice A0 l0.length c0, .slice a1 len1 cap1, .int .i64 a2, .int .i64 a3] w fun e w' => e = .returned (.bool true) ∧ Below w.heap.size w w' := by
  obtain ⟨l1, rfl, hr1, hm1, hw1, hc1⟩ := ReadsInt.ofRowC w1
  obtain ⟨k, h⟩ := P l0 l1 a2 a3 hm0 ho0 hm1 y1 hw1 w2 w3
  refine (chargeparklaw16_LeaseTruth.calls k _ _ l0 _ _ l1 a2 a3 true w hC0 hc0 (Kd.C_of_reads (d := (0 : Int)) (h1 := fun _ => rfl) hr1) hc1 h).mono ?_
  rintro e w' ⟨rfl, hd⟩
  exact ⟨rfl, hd⟩


end Go.Proofs.Ytpngiddelhcepaa.PAll
