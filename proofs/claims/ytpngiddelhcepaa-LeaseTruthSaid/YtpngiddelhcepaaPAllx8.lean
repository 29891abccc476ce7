-- Written by a program of this session (xprint.py, over the kit's print.py), with contracts proved by hand.
import Derived.Test.YtpngiddelhcepaaPAllx0
import Derived.Test.YtpngiddelhcepaaPAllx2
import Derived.Test.YtpngiddelhcepaaPAllx3
namespace Go.Proofs.Ytpngiddelhcepaa.PAll
open Go.RowKit Go.Proofs.Ytpngiddelhcepaa.Open Go.Proofs.YtpngiddelhcepaaW.PrintWords Go.Proofs.YtpngiddelhcepaaW.PrintLast Go.Proofs.YtpngiddelhcepaaW.PrintMore
attribute [local go_sem] max2_int min2_int max_two min_two max_three min_three max_four min_four   -- for this text's walks alone
set_option linter.unusedVariables false
set_option linter.unusedSimpArgs false

/-! ### clock_Wait: function 21 -/
def clock_Wait.f (a0 : Int) : Option (Int × Int) := Go.Proofs.Ytpngiddelhcepaa.ClockWait.waitF a0
/-- clock.Wait, by its closed form. -/
theorem clock_Wait.calls (a0 : Int) (r1 : Int) (r2 : Int) (w : World) (h : clock_Wait.f a0 = some (r1, r2)) :
    Calls Try.prog 21 #[.int .i64 a0] w (fun e w' => e = .returned (.tuple #[.int .i64 r1, .int .i64 r2]) ∧ Below w.heap.size w w') := Go.Proofs.Ytpngiddelhcepaa.ClockWait.wait_calls a0 r1 r2 w h

/-! ### chargeparklaw16_LeaseEnds: function 6 -/
def chargeparklaw16_LeaseEnds.j0 : Nat → List (S24) → Int → Bool → Bool → Option (Bool)
  | 0, _, _, _, _ => none
  | k + 1, x0, x1, x5, x34 => if x34 = true then (some x5) else ((clock_Wait.f 1000).bind fun bt281 => (if 0 ≤ (wrap64 ((x0.length : Int) - 1)) then (if (wrap64 ((x0.length : Int) - 1)) < (x0.length : Int) then ((lease_Alive.f x0 16 (wrap64 ((wrap64 ((wrap64 (((rd_T24 x0 (wrap64 ((x0.length : Int) - 1))).f3) + 10)) + bt281.1)) + x1))).bind fun bt284 => ((lease_Expire.f x0 (wrap64 ((wrap64 ((wrap64 (((rd_T24 x0 (wrap64 ((x0.length : Int) - 1))).f3) + 10)) + bt281.1)) + x1))).bind fun bt288 => (if x5 = true then (if bt281.2 = 0 then (if bt284.2 = 0 then (if bt288.2 = 0 then (if (bt288.1.length : Int) = 0 then (if 16 ≤ 35184372088832 then ((chargeparkref16_Ints.f k bt284.1 (List.replicate 16 0)).bind fun t295 => (some t295)) else (none)) else (none)) else (none)) else (none)) else (none)) else (none)))) else (none)) else (none)))
def chargeparklaw16_LeaseEnds.f (k : Nat) (l0 : List (S24)) (a1 : Int) : Option (Bool) := (chargeparklaw16_head.f k).bind fun t279 => (if (l0.length : Int) > 100 then (chargeparklaw16_LeaseEnds.j0 k l0 a1 t279 true) else ((chargeparkref16_Valid.f k l0).bind fun t280 => (if t280 = true then (if (l0.length : Int) = 0 then (chargeparklaw16_LeaseEnds.j0 k l0 a1 t279 true) else (if a1 < 0 then (chargeparklaw16_LeaseEnds.j0 k l0 a1 t279 true) else (chargeparklaw16_LeaseEnds.j0 k l0 a1 t279 (decide (a1 > 90000))))) else (chargeparklaw16_LeaseEnds.j0 k l0 a1 t279 true))))
theorem chargeparklaw16_LeaseEnds.mono_l : ∀ k, (∀ y0 y1 y2 y3, LeO (chargeparklaw16_LeaseEnds.j0 k y0 y1 y2 y3) (chargeparklaw16_LeaseEnds.j0 (k + 1) y0 y1 y2 y3))
  | 0 => fun _ _ _ _ r h => by simp [chargeparklaw16_LeaseEnds.j0] at h
  | k + 1 => by
    have ih0 := chargeparklaw16_LeaseEnds.mono_l k
    · intro y0 y1 y2 y3
      unfold chargeparklaw16_LeaseEnds.j0
      repeat' first
      | (with_reducible exact ih0 _ _ _ _)
      | (with_reducible exact chargeparklaw16_head.mono _)
      | (with_reducible exact chargeparkref16_Ints.mono _ _ _)
      | (with_reducible exact chargeparkref16_Valid.mono _ _)
      | (with_reducible exact LeO.refl _)
      | (with_reducible exact LeO.none _)
      | (with_reducible refine LeO.ite ?_ ?_)
      | (with_reducible refine LeO.bind ?_ (fun _ => ?_))
      | exact ih0 _ _ _ _
      | exact chargeparklaw16_head.mono _
      | exact chargeparkref16_Ints.mono _ _ _
      | exact chargeparkref16_Valid.mono _ _
      | exact LeO.none _
      | refine LeO.ite ?_ ?_
      | refine LeO.bind ?_ (fun _ => ?_)
theorem chargeparklaw16_LeaseEnds.mono : ∀ a0 a1 k, LeO (chargeparklaw16_LeaseEnds.f k a0 a1) (chargeparklaw16_LeaseEnds.f (k + 1) a0 a1) := by
  intro a0 a1 k
  have ih0 := chargeparklaw16_LeaseEnds.mono_l k
  unfold chargeparklaw16_LeaseEnds.f
  repeat' first
      | (with_reducible exact ih0 _ _ _ _)
      | (with_reducible exact chargeparklaw16_head.mono _)
      | (with_reducible exact chargeparkref16_Ints.mono _ _ _)
      | (with_reducible exact chargeparkref16_Valid.mono _ _)
      | (with_reducible exact LeO.refl _)
      | (with_reducible exact LeO.none _)
      | (with_reducible refine LeO.ite ?_ ?_)
      | (with_reducible refine LeO.bind ?_ (fun _ => ?_))
      | exact ih0 _ _ _ _
      | exact chargeparklaw16_head.mono _
      | exact chargeparkref16_Ints.mono _ _ _
      | exact chargeparkref16_Valid.mono _ _
      | exact LeO.none _
      | refine LeO.ite ?_ ?_
      | refine LeO.bind ?_ (fun _ => ?_)
set_option maxHeartbeats 8000000 in
set_option maxRecDepth 100000 in
theorem chargeparklaw16_LeaseEnds.calls (k : Nat) (A0 : Option Addr) (c0 : Nat) (l0 : List (S24)) (a1 : Int) (r : Bool) (w : World) (hr0 : Kd.C k24 w A0 l0.length l0) (hc0 : l0.length ≤ c0) (h : chargeparklaw16_LeaseEnds.f k l0 a1 = some r) :
    Calls Try.prog 6 #[.slice A0 l0.length c0, .int .i64 a1] w fun e w' => e = .returned (.bool r) ∧ Below w.heap.size w w' := by
  have HR0 := Aside0.mk hr0
  have HC0 := Aside0.mk hc0
  clear hr0 hc0
  have HB := Aside0.mk (Below.refl w.heap.size w)
  have H : ((chargeparklaw16_head.f k).bind fun t279 => (if (l0.length : Int) > 100 then (chargeparklaw16_LeaseEnds.j0 k l0 a1 t279 true) else ((chargeparkref16_Valid.f k l0).bind fun t280 => (if t280 = true then (if (l0.length : Int) = 0 then (chargeparklaw16_LeaseEnds.j0 k l0 a1 t279 true) else (if a1 < 0 then (chargeparklaw16_LeaseEnds.j0 k l0 a1 t279 true) else (chargeparklaw16_LeaseEnds.j0 k l0 a1 t279 (decide (a1 > 90000))))) else (chargeparklaw16_LeaseEnds.j0 k l0 a1 t279 true))))) = some r := h
  clear h
  replace H := Option.bind_eq_some_iff.mp H
  obtain ⟨t279, A30, H⟩ := H
  replace H : (if (l0.length : Int) > 100 then (chargeparklaw16_LeaseEnds.j0 k l0 a1 t279 true) else ((chargeparkref16_Valid.f k l0).bind fun t280 => (if t280 = true then (if (l0.length : Int) = 0 then (chargeparklaw16_LeaseEnds.j0 k l0 a1 t279 true) else (if a1 < 0 then (chargeparklaw16_LeaseEnds.j0 k l0 a1 t279 true) else (chargeparklaw16_LeaseEnds.j0 k l0 a1 t279 (decide (a1 > 90000))))) else (chargeparklaw16_LeaseEnds.j0 k l0 a1 t279 true)))) = some r := H
  have A3 := Aside0.mk A30
  clear A30
  have HC4 := Aside0.mk H
  clear H
  go_enter Try.func6, Try.ntmps6
  go_upto_region 2 with (first | ((with_reducible refine gate_callee (f := 10) rfl ?_); refine goesL_ (some 13) rfl rfl Try.func10 (by kernel_rfl) rfl #[] rfl (by (try simp only [List.map_toArray, List.map_cons, List.map_nil]); first | done | rfl | (simp only [List.length_drop, List.length_take]; rfl)) ?_; (with_reducible refine (chargeparklaw16_head.calls k  t279 _ A3.out).mono ?_); rintro e w5 ⟨rfl, hb⟩; refine ⟨_, rfl, ?_⟩; have n0_ := Aside0.mk (below_step (by repeat (first | (with_reducible first | exact HB.out | apply below_alloc | apply pw_below_drewN | apply below_drew1) | exact HB.out)) hb); clear HB; have HB := n0_; clear n0_; (try clear hb); (try clear hb2); (try clear hk); (try clear hi)))
  (try simp only [Act.put, List.setIfInBounds_toArray, List.set_cons_zero, List.set_cons_succ])
  go_cut [34] (fun v34 wc => ∃ (kq : Nat) (x34_3 : Bool), v34 = .bool x34_3 ∧ Aside0 (chargeparklaw16_LeaseEnds.j0 kq l0 a1 t279 x34_3 = some r) ∧ Aside0 (kq ≤ k) ∧ Aside0 (Below w.heap.size w wc))
  case first =>
    have H := HC4.out
    clear HC4
    by_cases c6 : (l0.length : Int) > 100
    · rw [if_pos c6] at H
      have c6b0 : decide (100 < (l0.length : Int)) = true := decide_eq_true c6
      have c6b1 : decide (100 < l0.length) = true := decide_eq_true (by omega)
      clear c6
      (first | rw [c6b0] | (simp only [i64_w, i32_w]; rw [c6b0]) | skip)
      have H' := Aside0.mk H
      clear H
      go_wp2
      go_meet
      case rel => exact ⟨_, (true), (by first | rfl | (simp; done) | (simp [*]; done)), H', ⟨by first | omega | exact Nat.le_refl _⟩, ⟨by repeat (first | (with_reducible first | exact HB.out | apply below_alloc | apply pw_below_drewN | apply below_drew1) | exact HB.out)⟩⟩
    · rw [if_neg c6] at H
      have c6b0 : decide (100 < (l0.length : Int)) = false := decide_eq_false c6
      have c6b1 : decide (100 < l0.length) = false := decide_eq_false (by omega)
      clear c6
      (first | rw [c6b0] | (simp only [i64_w, i32_w]; rw [c6b0]) | skip)
      replace H := Option.bind_eq_some_iff.mp H
      obtain ⟨t280, A70, H⟩ := H
      replace H : (if t280 = true then (if (l0.length : Int) = 0 then (chargeparklaw16_LeaseEnds.j0 k l0 a1 t279 true) else (if a1 < 0 then (chargeparklaw16_LeaseEnds.j0 k l0 a1 t279 true) else (chargeparklaw16_LeaseEnds.j0 k l0 a1 t279 (decide (a1 > 90000))))) else (chargeparklaw16_LeaseEnds.j0 k l0 a1 t279 true)) = some r := H
      have A7 := Aside0.mk A70
      clear A70
      by_cases c8 : t280 = true
      · subst c8
        have H1 : (if (l0.length : Int) = 0 then (chargeparklaw16_LeaseEnds.j0 k l0 a1 t279 true) else (if a1 < 0 then (chargeparklaw16_LeaseEnds.j0 k l0 a1 t279 true) else (chargeparklaw16_LeaseEnds.j0 k l0 a1 t279 (decide (a1 > 90000))))) = some r := by rw [if_pos rfl] at H; exact H
        clear H
        have H := H1
        clear H1
        by_cases c9 : (l0.length : Int) = 0
        · rw [if_pos c9] at H
          have c9b0 : ((l0.length : Int) == 0) = true := beq_iff_eq.mpr c9
          have c9b1 : ((l0.length : Int) != 0) = false := bne_eq_false_iff_eq.mpr c9
          clear c9
          have H' := Aside0.mk H
          clear H
          go_wp2_with (first | (go_at_call 18; (with_reducible refine (chargeparkref16_Valid.calls k _ _ l0 true _ ?side1 ?side2 A7.out).mono ?_); (case side1 => repeat (first | exact (Kd.C_below HR0.out HB.out) | (with_reducible refine Kd.C_alloc ?_ _) | (with_reducible refine Kd.C_drewN ?_ _) | (with_reducible refine Kd.C_drew ?_))); (case side2 => exact HC0.out); rintro e w10 ⟨rfl, hb⟩; have n0_ := Aside0.mk (below_step (by repeat (first | (with_reducible first | exact HB.out | apply below_alloc | apply pw_below_drewN | apply below_drew1) | exact HB.out)) hb); clear HB; have HB := n0_; clear n0_; (try clear hb); (try clear hb2); (try clear hk); (try clear hi)))
          go_meet
          case rel => exact ⟨_, (true), (by first | rfl | (simp; done) | (simp [*]; done)), H', ⟨by first | omega | exact Nat.le_refl _⟩, ⟨by repeat (first | (with_reducible first | exact HB.out | apply below_alloc | apply pw_below_drewN | apply below_drew1) | exact HB.out)⟩⟩
        · rw [if_neg c9] at H
          have c9b0 : ((l0.length : Int) == 0) = false := beq_eq_false_iff_ne.mpr c9
          have c9b1 : ((l0.length : Int) != 0) = true := bne_iff_ne.mpr c9
          have c9b2 : ¬ (l0 = []) := fun h_ => c9 (by rw [h_]; rfl)
          by_cases c11 : a1 < 0
          · rw [if_pos c11] at H
            have c11b0 : decide (a1 < 0) = true := decide_eq_true c11
            clear c11
            have H' := Aside0.mk H
            clear H
            go_wp2_with (first | (go_at_call 18; (with_reducible refine (chargeparkref16_Valid.calls k _ _ l0 true _ ?side1 ?side2 A7.out).mono ?_); (case side1 => repeat (first | exact (Kd.C_below HR0.out HB.out) | (with_reducible refine Kd.C_alloc ?_ _) | (with_reducible refine Kd.C_drewN ?_ _) | (with_reducible refine Kd.C_drew ?_))); (case side2 => exact HC0.out); rintro e w12 ⟨rfl, hb⟩; have n0_ := Aside0.mk (below_step (by repeat (first | (with_reducible first | exact HB.out | apply below_alloc | apply pw_below_drewN | apply below_drew1) | exact HB.out)) hb); clear HB; have HB := n0_; clear n0_; (try clear hb); (try clear hb2); (try clear hk); (try clear hi)))
            go_meet
            case rel => exact ⟨_, (true), (by first | rfl | (simp; done) | (simp [*]; done)), H', ⟨by first | omega | exact Nat.le_refl _⟩, ⟨by repeat (first | (with_reducible first | exact HB.out | apply below_alloc | apply pw_below_drewN | apply below_drew1) | exact HB.out)⟩⟩
          · rw [if_neg c11] at H
            have c11b0 : decide (a1 < 0) = false := decide_eq_false c11
            clear c11
            have H' := Aside0.mk H
            clear H
            go_wp2_with (first | (go_at_call 18; (with_reducible refine (chargeparkref16_Valid.calls k _ _ l0 true _ ?side1 ?side2 A7.out).mono ?_); (case side1 => repeat (first | exact (Kd.C_below HR0.out HB.out) | (with_reducible refine Kd.C_alloc ?_ _) | (with_reducible refine Kd.C_drewN ?_ _) | (with_reducible refine Kd.C_drew ?_))); (case side2 => exact HC0.out); rintro e w13 ⟨rfl, hb⟩; have n0_ := Aside0.mk (below_step (by repeat (first | (with_reducible first | exact HB.out | apply below_alloc | apply pw_below_drewN | apply below_drew1) | exact HB.out)) hb); clear HB; have HB := n0_; clear n0_; (try clear hb); (try clear hb2); (try clear hk); (try clear hi)))
            go_meet
            case rel => exact ⟨_, (decide (a1 > 90000)), (by first | rfl | (simp; done) | (simp [*]; done)), H', ⟨by first | omega | exact Nat.le_refl _⟩, ⟨by repeat (first | (with_reducible first | exact HB.out | apply below_alloc | apply pw_below_drewN | apply below_drew1) | exact HB.out)⟩⟩
      · replace c8 := Bool.eq_false_iff.mpr c8
        subst c8
        have H1 : (chargeparklaw16_LeaseEnds.j0 k l0 a1 t279 true) = some r := by rw [if_neg (show ¬ (false = true) by decide)] at H; exact H
        clear H
        have H := H1
        clear H1
        have H' := Aside0.mk H
        clear H
        go_wp2_with (first | (go_at_call 18; (with_reducible refine (chargeparkref16_Valid.calls k _ _ l0 false _ ?side1 ?side2 A7.out).mono ?_); (case side1 => repeat (first | exact (Kd.C_below HR0.out HB.out) | (with_reducible refine Kd.C_alloc ?_ _) | (with_reducible refine Kd.C_drewN ?_ _) | (with_reducible refine Kd.C_drew ?_))); (case side2 => exact HC0.out); rintro e w14 ⟨rfl, hb⟩; have n0_ := Aside0.mk (below_step (by repeat (first | (with_reducible first | exact HB.out | apply below_alloc | apply pw_below_drewN | apply below_drew1) | exact HB.out)) hb); clear HB; have HB := n0_; clear n0_; (try clear hb); (try clear hb2); (try clear hk); (try clear hi)))
        go_meet
        case rel => exact ⟨_, (true), (by first | rfl | (simp; done) | (simp [*]; done)), H', ⟨by first | omega | exact Nat.le_refl _⟩, ⟨by repeat (first | (with_reducible first | exact HB.out | apply below_alloc | apply pw_below_drewN | apply below_drew1) | exact HB.out)⟩⟩
  case rest =>
    clear HC4
    try clear c1
    try clear p2
    try clear c6
    try clear c6b0
    try clear c6b1
    try clear c8
    try clear c9
    try clear c9b0
    try clear c9b1
    try clear c9b2
    try clear c10
    try clear c11
    try clear c11b0
    obtain ⟨kq, x34_3, rfl, HA, HJ3, HB⟩ := hcut
    cases kq with
    | zero => exact absurd HA.out (by simp [chargeparklaw16_LeaseEnds.j0])
    | succ kj3 =>
      have H := HA.out
      clear HA
      simp only [chargeparklaw16_LeaseEnds.j0] at H
      by_cases c15 : x34_3 = true
      · subst c15
        have H1 : (some t279) = some r := by rw [if_pos rfl] at H; exact H
        clear H
        have H := H1
        clear H1
        obtain rfl := Option.some.inj H
        go_wp2
        go_ret
        exact ⟨by first | rfl | (simp [errW_none, errW_some] <;> rfl) | (simp [*, errW_none, errW_some] <;> rfl), by repeat (first | (with_reducible first | exact HB.out | apply below_alloc | apply pw_below_drewN | apply below_drew1) | exact HB.out)⟩
      · replace c15 := Bool.eq_false_iff.mpr c15
        subst c15
        have H1 : ((clock_Wait.f 1000).bind fun bt281 => (if 0 ≤ (wrap64 ((l0.length : Int) - 1)) then (if (wrap64 ((l0.length : Int) - 1)) < (l0.length : Int) then ((lease_Alive.f l0 16 (wrap64 ((wrap64 ((wrap64 (((rd_T24 l0 (wrap64 ((l0.length : Int) - 1))).f3) + 10)) + bt281.1)) + a1))).bind fun bt284 => ((lease_Expire.f l0 (wrap64 ((wrap64 ((wrap64 (((rd_T24 l0 (wrap64 ((l0.length : Int) - 1))).f3) + 10)) + bt281.1)) + a1))).bind fun bt288 => (if t279 = true then (if bt281.2 = 0 then (if bt284.2 = 0 then (if bt288.2 = 0 then (if (bt288.1.length : Int) = 0 then (if 16 ≤ 35184372088832 then ((chargeparkref16_Ints.f kj3 bt284.1 (List.replicate 16 0)).bind fun t295 => (some t295)) else (none)) else (none)) else (none)) else (none)) else (none)) else (none)))) else (none)) else (none))) = some r := by rw [if_neg (show ¬ (false = true) by decide)] at H; exact H
        clear H
        have H := H1
        clear H1
        replace H := Option.bind_eq_some_iff.mp H
        obtain ⟨⟨t281, t282⟩, A160, H⟩ := H
        replace H : (if 0 ≤ (wrap64 ((l0.length : Int) - 1)) then (if (wrap64 ((l0.length : Int) - 1)) < (l0.length : Int) then ((lease_Alive.f l0 16 (wrap64 ((wrap64 ((wrap64 (((rd_T24 l0 (wrap64 ((l0.length : Int) - 1))).f3) + 10)) + t281)) + a1))).bind fun bt284 => ((lease_Expire.f l0 (wrap64 ((wrap64 ((wrap64 (((rd_T24 l0 (wrap64 ((l0.length : Int) - 1))).f3) + 10)) + t281)) + a1))).bind fun bt288 => (if t279 = true then (if t282 = 0 then (if bt284.2 = 0 then (if bt288.2 = 0 then (if (bt288.1.length : Int) = 0 then (if 16 ≤ 35184372088832 then ((chargeparkref16_Ints.f kj3 bt284.1 (List.replicate 16 0)).bind fun t295 => (some t295)) else (none)) else (none)) else (none)) else (none)) else (none)) else (none)))) else (none)) else (none)) = some r := H
        have A16 := Aside0.mk A160
        clear A160
        obtain ⟨ji17, hji17⟩ : ∃ j_ : Int, (wrap64 ((l0.length : Int) - 1)) = j_ := ⟨_, rfl⟩
        replace H : (if 0 ≤ (ji17) then (if (ji17) < (l0.length : Int) then ((lease_Alive.f l0 16 (wrap64 ((wrap64 ((wrap64 (((rd_T24 l0 (ji17)).f3) + 10)) + t281)) + a1))).bind fun bt284 => ((lease_Expire.f l0 (wrap64 ((wrap64 ((wrap64 (((rd_T24 l0 (ji17)).f3) + 10)) + t281)) + a1))).bind fun bt288 => (if t279 = true then (if t282 = 0 then (if bt284.2 = 0 then (if bt288.2 = 0 then (if (bt288.1.length : Int) = 0 then (if 16 ≤ 35184372088832 then ((chargeparkref16_Ints.f kj3 bt284.1 (List.replicate 16 0)).bind fun t295 => (some t295)) else (none)) else (none)) else (none)) else (none)) else (none)) else (none)))) else (none)) else (none)) = some r := by first | (rw [hji17] at H; exact H) | (simp only [hji17] at H ⊢; exact H)
        (try rw [hji17] at A16)
        have hji17w : (IntKind.i64.wrap ((l0.length : Int) - 1)) = ji17 := (i64_w _).trans hji17
        by_cases c18 : 0 ≤ (ji17)
        · rw [if_pos c18] at H
          have c18b0 : decide (0 ≤ (ji17)) = true := decide_eq_true c18
          clear c18
          by_cases c19 : (ji17) < (l0.length : Int)
          · rw [if_pos c19] at H
            have c19b0 : decide ((ji17) < (l0.length : Int)) = true := decide_eq_true c19
            clear c19
            replace H := Option.bind_eq_some_iff.mp H
            obtain ⟨⟨t284, t285⟩, A200, H⟩ := H
            replace H : ((lease_Expire.f l0 (wrap64 ((wrap64 ((wrap64 (((rd_T24 l0 (ji17)).f3) + 10)) + t281)) + a1))).bind fun bt288 => (if t279 = true then (if t282 = 0 then (if t285 = 0 then (if bt288.2 = 0 then (if (bt288.1.length : Int) = 0 then (if 16 ≤ 35184372088832 then ((chargeparkref16_Ints.f kj3 t284 (List.replicate 16 0)).bind fun t295 => (some t295)) else (none)) else (none)) else (none)) else (none)) else (none)) else (none))) = some r := H
            have A20 := Aside0.mk A200
            clear A200
            replace H := Option.bind_eq_some_iff.mp H
            obtain ⟨⟨t288, t289⟩, A210, H⟩ := H
            replace H : (if t279 = true then (if t282 = 0 then (if t285 = 0 then (if t289 = 0 then (if (t288.length : Int) = 0 then (if 16 ≤ 35184372088832 then ((chargeparkref16_Ints.f kj3 t284 (List.replicate 16 0)).bind fun t295 => (some t295)) else (none)) else (none)) else (none)) else (none)) else (none)) else (none)) = some r := H
            have A21 := Aside0.mk A210
            clear A210
            by_cases c22 : t279 = true
            · subst c22
              have H1 : (if t282 = 0 then (if t285 = 0 then (if t289 = 0 then (if (t288.length : Int) = 0 then (if 16 ≤ 35184372088832 then ((chargeparkref16_Ints.f kj3 t284 (List.replicate 16 0)).bind fun t295 => (some t295)) else (none)) else (none)) else (none)) else (none)) else (none)) = some r := by rw [if_pos rfl] at H; exact H
              clear H
              have H := H1
              clear H1
              by_cases c23 : t282 = 0
              · rw [if_pos c23] at H
                have c23b0 : (t282 == 0) = true := beq_iff_eq.mpr c23
                have c23b1 : (t282 != 0) = false := bne_eq_false_iff_eq.mpr c23
                clear c23
                by_cases c24 : t285 = 0
                · rw [if_pos c24] at H
                  have c24b0 : (t285 == 0) = true := beq_iff_eq.mpr c24
                  have c24b1 : (t285 != 0) = false := bne_eq_false_iff_eq.mpr c24
                  clear c24
                  by_cases c25 : t289 = 0
                  · rw [if_pos c25] at H
                    have c25b0 : (t289 == 0) = true := beq_iff_eq.mpr c25
                    have c25b1 : (t289 != 0) = false := bne_eq_false_iff_eq.mpr c25
                    clear c25
                    by_cases c26 : (t288.length : Int) = 0
                    · rw [if_pos c26] at H
                      have c26b0 : ((t288.length : Int) == 0) = true := beq_iff_eq.mpr c26
                      have c26b1 : ((t288.length : Int) != 0) = false := bne_eq_false_iff_eq.mpr c26
                      clear c26
                      by_cases c27 : 16 ≤ 35184372088832
                      · rw [if_pos c27] at H
                        have c27b0 := eq_true c27
                        have c27b1 : decide (16 ≤ 35184372088832) = true := decide_eq_true c27
                        clear c27
                        obtain ⟨y292, hy292⟩ : ∃ y_ : List Int, y_ = (List.replicate 16 0) := ⟨_, rfl⟩
                        replace H : ((chargeparkref16_Ints.f kj3 t284 y292).bind fun t295 => (some t295)) = some r := by first | (rw [hy292]; with_reducible exact H) | (have H2_ := (Option.bind_some _ _).symm.trans H; rw [hy292]; with_reducible exact H2_) | (have H2_ := (Option.bind_some _ _).symm.trans H; with_reducible exact H2_) | with_reducible exact H | (rw [hy292]; exact H) | exact H
                        have Ny292 := Aside0.mk hy292
                        clear hy292
                        replace H := Option.bind_eq_some_iff.mp H
                        obtain ⟨t295, A280, H⟩ := H
                        replace H : (some t295) = some r := H
                        have A28 := Aside0.mk A280
                        clear A280
                        obtain rfl := Option.some.inj H
                        go_wp2_with (first | ((with_reducible refine gate_callee (f := 21) rfl ?_); refine goesL_ (some 37) rfl rfl Try.func21 (by kernel_rfl) rfl #[.int .i64 1000] rfl (by (try simp only [List.map_toArray, List.map_cons, List.map_nil]); first | done | rfl | (simp only [List.length_drop, List.length_take]; rfl)) ?_; (with_reducible refine (clock_Wait.calls 1000 t281 t282 _ A16.out).mono ?_); rintro e w29 ⟨rfl, hb⟩; refine ⟨_, rfl, ?_⟩; have n0_ := Aside0.mk (below_step (by repeat (first | (with_reducible first | exact HB.out | apply below_alloc | apply pw_below_drewN | apply below_drew1) | exact HB.out)) hb); clear HB; have HB := n0_; clear n0_; (try clear hb); (try clear hb2); (try clear hk); (try clear hi); have p283 : 0 ≤ ((ji17) : Int) := of_decide_eq_true (by first | (with_reducible assumption) | assumption); have q283 : (ji17) < (l0.length : Int) := of_decide_eq_true (by first | (with_reducible assumption) | assumption); obtain ⟨ad283, e283, hx283_0, hx283_1, hx283_2, hx283_3, hx283_4⟩ := at_T24 HR0.out (ji17) p283 q283; cases e283; replace hx283_0 := (HB.out.cell (World.block_lt_of_cell? w _ hx283_0)).trans hx283_0; replace hx283_1 := (HB.out.cell (World.block_lt_of_cell? w _ hx283_1)).trans hx283_1; replace hx283_2 := (HB.out.cell (World.block_lt_of_cell? w _ hx283_2)).trans hx283_2; replace hx283_3 := (HB.out.cell (World.block_lt_of_cell? w _ hx283_3)).trans hx283_3; replace hx283_4 := (HB.out.cell (World.block_lt_of_cell? w _ hx283_4)).trans hx283_4; replace p283 := eq_true p283; replace q283 := eq_true q283) | ((with_reducible refine gate_callee (f := 13) rfl ?_); refine goesL_ (some 55) rfl rfl Try.func13 (by kernel_rfl) rfl #[.slice (some ad283) l0.length c0, .int .i64 16, .int .i64 (wrap64 ((wrap64 ((wrap64 (((rd_T24 l0 (ji17)).f3) + 10)) + t281)) + a1))] rfl (by (try simp only [List.map_toArray, List.map_cons, List.map_nil]); first | done | (simp only [hji17]; rfl) | rfl | (simp only [List.length_drop, List.length_take]; rfl)) ?_; (with_reducible refine (lease_Alive.calls _ _ l0 16 (wrap64 ((wrap64 ((wrap64 (((rd_T24 l0 (ji17)).f3) + 10)) + t281)) + a1)) t284 t285 _ ?side1 ?side2 A20.out).mono ?_); (case side1 => repeat (first | exact (Kd.C_below HR0.out HB.out) | (with_reducible refine Kd.C_alloc ?_ _) | (with_reducible refine Kd.C_drewN ?_ _) | (with_reducible refine Kd.C_drew ?_))); (case side2 => exact HC0.out); rintro e w30 ⟨v286, rfl, ho0, hb⟩; refine ⟨_, rfl, ?_⟩; have n0_ := Aside0.mk (Kd.R_lower ho0 (below_size (by repeat (first | (with_reducible first | exact HB.out | apply below_alloc | apply pw_below_drewN | apply below_drew1) | exact HB.out)))); have n1_ := Aside0.mk (below_step (by repeat (first | (with_reducible first | exact HB.out | apply below_alloc | apply pw_below_drewN | apply below_drew1) | exact HB.out)) hb); clear HB; have HO287 := n0_; have HB := n1_; clear n0_ n1_; (try clear hb); (try clear hb2); (try clear hk); (try clear hi); (try clear ho0)) | ((with_reducible refine gate_callee (f := 15) rfl ?_); refine goesL_ (some 61) rfl rfl Try.func15 (by kernel_rfl) rfl #[.slice (some ad283) l0.length c0, .int .i64 (wrap64 ((wrap64 ((wrap64 (((rd_T24 l0 (ji17)).f3) + 10)) + t281)) + a1))] rfl (by (try simp only [List.map_toArray, List.map_cons, List.map_nil]); first | done | (simp only [hji17]; rfl) | rfl | (simp only [List.length_drop, List.length_take]; rfl)) ?_; (with_reducible refine (lease_Expire.calls _ _ l0 (wrap64 ((wrap64 ((wrap64 (((rd_T24 l0 (ji17)).f3) + 10)) + t281)) + a1)) t288 t289 _ ?side1 ?side2 A21.out).mono ?_); (case side1 => repeat (first | exact (Kd.C_below HR0.out HB.out) | (with_reducible refine Kd.C_alloc ?_ _) | (with_reducible refine Kd.C_drewN ?_ _) | (with_reducible refine Kd.C_drew ?_))); (case side2 => exact HC0.out); rintro e w31 ⟨v290, rfl, ho0, hb⟩; refine ⟨_, rfl, ?_⟩; have n0_ := Aside0.mk (Kd.R_below (by (with_reducible repeat (first | apply Kd.R_alloc | apply Kd.R_drewN | apply Kd.R_drew)); exact HO287.out) hb); have n1_ := Aside0.mk (Kd.R_lower ho0 (below_size (by repeat (first | (with_reducible first | exact HB.out | apply below_alloc | apply pw_below_drewN | apply below_drew1) | exact HB.out)))); have n2_ := Aside0.mk (below_step (by repeat (first | (with_reducible first | exact HB.out | apply below_alloc | apply pw_below_drewN | apply below_drew1) | exact HB.out)) hb); clear HO287; clear HB; have HO287 := n0_; have HO291 := n1_; have HB := n2_; clear n0_ n1_ n2_; (try clear hb); (try clear hb2); (try clear hk); (try clear hi); (try clear ho0); obtain ⟨Ao32, co32, eo32⟩ := Kd.R_slice HO291.out; subst eo32) | ((with_reducible refine gate_dst (N := 84) rfl ?_); (try (refine gate_guard (by rfl) ?_; dsimp only)); refine Kd.R_make (Kd.int .i64) _ 3 rfl (N := 84) rfl 29 _ _ rfl 16 rfl rfl Try.underlying29 (.int .i64 0) 8 info3 rfl (by decide) (by omega) 0 (ok := fun _ => True) (okp := fun _ => True) rfl (fun _ hk => hk) trivial (by omega) (by omega) (Below.refl _ _) (Nat.le_refl _) ?_; intro v293 w33 ho34 hb hg_ hnew_; clear hg_ hnew_; (first | rw [← Ny292.out] at ho34 | (simp only [Int.reduceToNat] at ho34; rw [← Ny292.out] at ho34)); have n0_ := Aside0.mk (Kd.R_elder' (by (with_reducible repeat (first | apply Kd.R_alloc | apply Kd.R_drewN | apply Kd.R_drew)); exact HO287.out) (Kd.R_base ho34) hb); have n1_ := Aside0.mk (Kd.R_below (by (with_reducible repeat (first | apply Kd.R_alloc | apply Kd.R_drewN | apply Kd.R_drew)); exact HO291.out) hb); have n2_ := Aside0.mk (Kd.R_lower (Kd.R_new' ho34 (Kd.R_lt (by (with_reducible repeat (first | apply Kd.R_alloc | apply Kd.R_drewN | apply Kd.R_drew)); exact HO287.out))) (below_size (by repeat (first | (with_reducible first | exact HB.out | apply below_alloc | apply pw_below_drewN | apply below_drew1) | exact HB.out)))); have n3_ := Aside0.mk (below_step (by repeat (first | (with_reducible first | exact HB.out | apply below_alloc | apply pw_below_drewN | apply below_drew1) | exact HB.out)) hb); clear HO287; clear HO291; clear HB; have HO287 := n0_; have HO291 := n1_; have HO294 := n2_; have HB := n3_; clear n0_ n1_ n2_ n3_; clear hb ho34; obtain ⟨Ao35, co35, eo35⟩ := Kd.R_slice HO287.out; subst eo35; obtain ⟨Ao36, co36, eo36⟩ := Kd.R_slice HO294.out; subst eo36) | (go_at_call 20; (with_reducible refine (chargeparkref16_Ints.calls kj3 _ _ t284 _ _ y292 t295 _ ?side1 ?side2 ?side3 ?side4 A28.out).mono ?_); (case side1 => repeat (first | exact (Kd.R_reads' HO287.out).2.2 | (with_reducible refine Kd.C_alloc ?_ _) | (with_reducible refine Kd.C_drewN ?_ _) | (with_reducible refine Kd.C_drew ?_))); (case side2 => exact (Kd.R_reads' HO287.out).2.1); (case side3 => repeat (first | exact (Kd.R_reads' HO294.out).2.2 | (with_reducible refine Kd.C_alloc ?_ _) | (with_reducible refine Kd.C_drewN ?_ _) | (with_reducible refine Kd.C_drew ?_))); (case side4 => exact (Kd.R_reads' HO294.out).2.1); rintro e w' ⟨rfl, ⟨nd, rfl⟩⟩))
                        go_ret
                        exact ⟨by first | rfl | (simp [errW_none, errW_some] <;> rfl) | (simp only [← hji17]; first | rfl | (simp [errW_none, errW_some] <;> rfl)) | (simp [*, errW_none, errW_some] <;> rfl), by repeat (first | (with_reducible first | exact HB.out | apply below_alloc | apply pw_below_drewN | apply below_drew1) | exact HB.out)⟩
                      · rw [if_neg c27] at H
                        exact absurd H (by simp)
                    · rw [if_neg c26] at H
                      exact absurd H (by simp)
                  · rw [if_neg c25] at H
                    exact absurd H (by simp)
                · rw [if_neg c24] at H
                  exact absurd H (by simp)
              · rw [if_neg c23] at H
                exact absurd H (by simp)
            · replace c22 := Bool.eq_false_iff.mpr c22
              subst c22
              have H1 : (none) = some r := by rw [if_neg (show ¬ (false = true) by decide)] at H; exact H
              clear H
              have H := H1
              clear H1
              exact absurd H (by simp)
          · rw [if_neg c19] at H
            exact absurd H (by simp)
        · rw [if_neg c18] at H
          exact absurd H (by simp)

/-- THE ONE PURE STATEMENT of chargeparklaw16_LeaseEnds: yours. -/
def chargeparklaw16_LeaseEnds.Pure : Prop := ∀ (l0 : List (S24)) (a1 : Int), l0.length ≤ maxLen → (∀ y ∈ l0, ok24 y) → (Lit.int .i64 a1).wf = true → ∃ k, chargeparklaw16_LeaseEnds.f k l0 a1 = some true
theorem chargeparklaw16_LeaseEnds.walk (P : chargeparklaw16_LeaseEnds.Pure) (A0 : Option Addr) (c0 : Nat) (l0 : List (S24)) (a1 : Int) (w : World) (hC0 : Kd.C k24 w A0 l0.length l0) (hc0 : l0.length ≤ c0) (hm0 : l0.length ≤ maxLen) (ho0 : ∀ y ∈ l0, ok24 y) (w1 : (Lit.int .i64 a1).wf = true) :
    Calls Try.prog 6 #[.slice A0 l0.length c0, .int .i64 a1] w fun e w' => e = .returned (.bool true) ∧ Below w.heap.size w w' := by
  obtain ⟨k, h⟩ := P l0 a1 hm0 ho0 w1
  refine (chargeparklaw16_LeaseEnds.calls k _ _ l0 a1 true w hC0 hc0 h).mono ?_
  rintro e w' ⟨rfl, hd⟩
  exact ⟨rfl, hd⟩


/-! ### chargeparklaw16_LeaseParts: function 7 -/
mutual
def chargeparklaw16_LeaseParts.j0 : Nat → List (S24) → Int → Int → Bool → Bool → Option (Bool)
  | 0, _, _, _, _, _ => none
  | k + 1, x0, x1, x2, x7, x24 => if x24 = true then (some x7) else (if (wrap64 ((x0.length : Int) + 1)) = 0 then (none) else ((lease_Alive.f x0 16 x2).bind fun bt298 => (if 0 ≤ (Int.tmod (wrap64 (x1)) (wrap64 ((x0.length : Int) + 1))) then (if (Int.tmod (wrap64 (x1)) (wrap64 ((x0.length : Int) + 1))) ≤ (x0.length : Int) then ((lease_Alive.f (x0.take ((Int.tmod (wrap64 (x1)) (wrap64 ((x0.length : Int) + 1))) : Int).toNat) 16 x2).bind fun bt306 => ((lease_Alive.f (x0.drop ((Int.tmod (wrap64 (x1)) (wrap64 ((x0.length : Int) + 1))) : Int).toNat) 16 x2).bind fun bt314 => (if bt298.2 = bt306.2 then (if bt298.2 = bt314.2 then (if (bt298.1.length : Int) = (bt306.1.length : Int) then (chargeparklaw16_LeaseParts.j1 k x7 bt298.1 bt306.1 bt314.1 ((bt298.1.length : Int) != (bt314.1.length : Int))) else (chargeparklaw16_LeaseParts.j1 k x7 bt298.1 bt306.1 bt314.1 true)) else (chargeparklaw16_LeaseParts.j1 k x7 bt298.1 bt306.1 bt314.1 true)) else (chargeparklaw16_LeaseParts.j1 k x7 bt298.1 bt306.1 bt314.1 true)))) else (none)) else (none))))
def chargeparklaw16_LeaseParts.j1 : Nat → Bool → List Int → List Int → List Int → Bool → Option (Bool)
  | 0, _, _, _, _, _ => none
  | k + 1, x7, x9, x11, x13, x75 => if x75 = true then (none) else (chargeparklaw16_LeaseParts.l0 k x7 x9 x11 x13 (x9.length : Int) 0)
def chargeparklaw16_LeaseParts.l0 : Nat → Bool → List Int → List Int → List Int → Int → Int → Option (Bool)
  | 0, _, _, _, _, _, _ => none
  | k + 1, x7, x9, x11, x13, x77, x78 => if x78 < x77 then (if 0 ≤ x78 then (if x78 < (x9.length : Int) then (if x78 < (x11.length : Int) then (if x78 < (x13.length : Int) then (if (rd x9 x78) = (mx (rd x11 x78) (rd x13 x78)) then (chargeparklaw16_LeaseParts.l0 k x7 x9 x11 x13 x77 (wrap64 (x78 + 1))) else (none)) else (none)) else (none)) else (none)) else (none)) else (some x7)
end
def chargeparklaw16_LeaseParts.f (k : Nat) (l0 : List (S24)) (a1 : Int) (a2 : Int) : Option (Bool) := (chargeparklaw16_head.f k).bind fun t296 => (if (l0.length : Int) > 100 then (chargeparklaw16_LeaseParts.j0 k l0 a1 a2 t296 true) else ((chargeparkref16_Valid.f k l0).bind fun t297 => (chargeparklaw16_LeaseParts.j0 k l0 a1 a2 t296 (!t297))))
theorem chargeparklaw16_LeaseParts.mono_l : ∀ k, (∀ y0 y1 y2 y3 y4, LeO (chargeparklaw16_LeaseParts.j0 k y0 y1 y2 y3 y4) (chargeparklaw16_LeaseParts.j0 (k + 1) y0 y1 y2 y3 y4)) ∧ (∀ y0 y1 y2 y3 y4, LeO (chargeparklaw16_LeaseParts.j1 k y0 y1 y2 y3 y4) (chargeparklaw16_LeaseParts.j1 (k + 1) y0 y1 y2 y3 y4)) ∧ (∀ y0 y1 y2 y3 y4 y5, LeO (chargeparklaw16_LeaseParts.l0 k y0 y1 y2 y3 y4 y5) (chargeparklaw16_LeaseParts.l0 (k + 1) y0 y1 y2 y3 y4 y5))
  | 0 => ⟨fun _ _ _ _ _ r h => by simp [chargeparklaw16_LeaseParts.j0] at h, fun _ _ _ _ _ r h => by simp [chargeparklaw16_LeaseParts.j1] at h, fun _ _ _ _ _ _ r h => by simp [chargeparklaw16_LeaseParts.l0] at h⟩
  | k + 1 => by
    obtain ⟨ih0, ih1, ih2⟩ := chargeparklaw16_LeaseParts.mono_l k
    refine ⟨?_, ?_, ?_⟩
    · intro y0 y1 y2 y3 y4
      unfold chargeparklaw16_LeaseParts.j0
      repeat' first
      | (with_reducible exact ih0 _ _ _ _ _)
      | (with_reducible exact ih1 _ _ _ _ _)
      | (with_reducible exact ih2 _ _ _ _ _ _)
      | (with_reducible exact chargeparklaw16_head.mono _)
      | (with_reducible exact chargeparkref16_Valid.mono _ _)
      | (with_reducible exact LeO.refl _)
      | (with_reducible exact LeO.none _)
      | (with_reducible refine LeO.ite ?_ ?_)
      | (with_reducible refine LeO.bind ?_ (fun _ => ?_))
      | exact ih0 _ _ _ _ _
      | exact ih1 _ _ _ _ _
      | exact ih2 _ _ _ _ _ _
      | exact chargeparklaw16_head.mono _
      | exact chargeparkref16_Valid.mono _ _
      | exact LeO.none _
      | refine LeO.ite ?_ ?_
      | refine LeO.bind ?_ (fun _ => ?_)
    · intro y0 y1 y2 y3 y4
      unfold chargeparklaw16_LeaseParts.j1
      repeat' first
      | (with_reducible exact ih0 _ _ _ _ _)
      | (with_reducible exact ih1 _ _ _ _ _)
      | (with_reducible exact ih2 _ _ _ _ _ _)
      | (with_reducible exact chargeparklaw16_head.mono _)
      | (with_reducible exact chargeparkref16_Valid.mono _ _)
      | (with_reducible exact LeO.refl _)
      | (with_reducible exact LeO.none _)
      | (with_reducible refine LeO.ite ?_ ?_)
      | (with_reducible refine LeO.bind ?_ (fun _ => ?_))
      | exact ih0 _ _ _ _ _
      | exact ih1 _ _ _ _ _
      | exact ih2 _ _ _ _ _ _
      | exact chargeparklaw16_head.mono _
      | exact chargeparkref16_Valid.mono _ _
      | exact LeO.none _
      | refine LeO.ite ?_ ?_
      | refine LeO.bind ?_ (fun _ => ?_)
    · intro y0 y1 y2 y3 y4 y5
      unfold chargeparklaw16_LeaseParts.l0
      repeat' first
      | (with_reducible exact ih0 _ _ _ _ _)
      | (with_reducible exact ih1 _ _ _ _ _)
      | (with_reducible exact ih2 _ _ _ _ _ _)
      | (with_reducible exact chargeparklaw16_head.mono _)
      | (with_reducible exact chargeparkref16_Valid.mono _ _)
      | (with_reducible exact LeO.refl _)
      | (with_reducible exact LeO.none _)
      | (with_reducible refine LeO.ite ?_ ?_)
      | (with_reducible refine LeO.bind ?_ (fun _ => ?_))
      | exact ih0 _ _ _ _ _
      | exact ih1 _ _ _ _ _
      | exact ih2 _ _ _ _ _ _
      | exact chargeparklaw16_head.mono _
      | exact chargeparkref16_Valid.mono _ _
      | exact LeO.none _
      | refine LeO.ite ?_ ?_
      | refine LeO.bind ?_ (fun _ => ?_)
theorem chargeparklaw16_LeaseParts.mono : ∀ a0 a1 a2 k, LeO (chargeparklaw16_LeaseParts.f k a0 a1 a2) (chargeparklaw16_LeaseParts.f (k + 1) a0 a1 a2) := by
  intro a0 a1 a2 k
  obtain ⟨ih0, ih1, ih2⟩ := chargeparklaw16_LeaseParts.mono_l k
  unfold chargeparklaw16_LeaseParts.f
  repeat' first
      | (with_reducible exact ih0 _ _ _ _ _)
      | (with_reducible exact ih1 _ _ _ _ _)
      | (with_reducible exact ih2 _ _ _ _ _ _)
      | (with_reducible exact chargeparklaw16_head.mono _)
      | (with_reducible exact chargeparkref16_Valid.mono _ _)
      | (with_reducible exact LeO.refl _)
      | (with_reducible exact LeO.none _)
      | (with_reducible refine LeO.ite ?_ ?_)
      | (with_reducible refine LeO.bind ?_ (fun _ => ?_))
      | exact ih0 _ _ _ _ _
      | exact ih1 _ _ _ _ _
      | exact ih2 _ _ _ _ _ _
      | exact chargeparklaw16_head.mono _
      | exact chargeparkref16_Valid.mono _ _
      | exact LeO.none _
      | refine LeO.ite ?_ ?_
      | refine LeO.bind ?_ (fun _ => ?_)
set_option maxHeartbeats 8000000 in
set_option maxRecDepth 100000 in
theorem chargeparklaw16_LeaseParts.calls (k : Nat) (A0 : Option Addr) (c0 : Nat) (l0 : List (S24)) (a1 : Int) (a2 : Int) (r : Bool) (w : World) (hr0 : Kd.C k24 w A0 l0.length l0) (hc0 : l0.length ≤ c0) (h : chargeparklaw16_LeaseParts.f k l0 a1 a2 = some r) :
    Calls Try.prog 7 #[.slice A0 l0.length c0, .int .u8 a1, .int .i64 a2] w fun e w' => e = .returned (.bool r) ∧ Below w.heap.size w w' := by
  have HR0 := Aside0.mk hr0
  have HC0 := Aside0.mk hc0
  clear hr0 hc0
  have HB := Aside0.mk (Below.refl w.heap.size w)
  have H : ((chargeparklaw16_head.f k).bind fun t296 => (if (l0.length : Int) > 100 then (chargeparklaw16_LeaseParts.j0 k l0 a1 a2 t296 true) else ((chargeparkref16_Valid.f k l0).bind fun t297 => (chargeparklaw16_LeaseParts.j0 k l0 a1 a2 t296 (!t297))))) = some r := h
  clear h
  replace H := Option.bind_eq_some_iff.mp H
  obtain ⟨t296, A40, H⟩ := H
  replace H : (if (l0.length : Int) > 100 then (chargeparklaw16_LeaseParts.j0 k l0 a1 a2 t296 true) else ((chargeparkref16_Valid.f k l0).bind fun t297 => (chargeparklaw16_LeaseParts.j0 k l0 a1 a2 t296 (!t297)))) = some r := H
  have A4 := Aside0.mk A40
  clear A40
  have HC5 := Aside0.mk H
  clear H
  go_enter Try.func7, Try.ntmps7
  go_upto_region 2 with (first | (go_at_call 10; (with_reducible refine (chargeparklaw16_head.calls k  t296 _ A4.out).mono ?_); rintro e w6 ⟨rfl, hb⟩; have n0_ := Aside0.mk (below_step (by repeat (first | (with_reducible first | exact HB.out | apply below_alloc | apply pw_below_drewN | apply below_drew1) | exact HB.out)) hb); clear HB; have HB := n0_; clear n0_; (try clear hb); (try clear hb2); (try clear hk); (try clear hi)))
  repeat (go_quiet (first | (go_at_call 10; (with_reducible refine (chargeparklaw16_head.calls k  t296 _ A4.out).mono ?_); rintro e w6 ⟨rfl, hb⟩; have n0_ := Aside0.mk (below_step (by repeat (first | (with_reducible first | exact HB.out | apply below_alloc | apply pw_below_drewN | apply below_drew1) | exact HB.out)) hb); clear HB; have HB := n0_; clear n0_; (try clear hb); (try clear hb2); (try clear hk); (try clear hi))); go_upto_region 2 with (first | (go_at_call 10; (with_reducible refine (chargeparklaw16_head.calls k  t296 _ A4.out).mono ?_); rintro e w6 ⟨rfl, hb⟩; have n0_ := Aside0.mk (below_step (by repeat (first | (with_reducible first | exact HB.out | apply below_alloc | apply pw_below_drewN | apply below_drew1) | exact HB.out)) hb); clear HB; have HB := n0_; clear n0_; (try clear hb); (try clear hb2); (try clear hk); (try clear hi))))
  (try simp only [Act.put, List.setIfInBounds_toArray, List.set_cons_zero, List.set_cons_succ])
  go_cut [24] (fun v24 wc => ∃ (kq : Nat) (x24_4 : Bool), v24 = .bool x24_4 ∧ Aside0 (chargeparklaw16_LeaseParts.j0 kq l0 a1 a2 t296 x24_4 = some r) ∧ Aside0 (kq ≤ k) ∧ Aside0 (Below w.heap.size w wc))
  case first =>
    have H := HC5.out
    clear HC5
    by_cases c7 : (l0.length : Int) > 100
    · rw [if_pos c7] at H
      have c7b0 : decide (100 < (l0.length : Int)) = true := decide_eq_true c7
      have c7b1 : decide (100 < l0.length) = true := decide_eq_true (by omega)
      clear c7
      (first | rw [c7b0] | (simp only [i64_w, i32_w]; rw [c7b0]) | skip)
      have H' := Aside0.mk H
      clear H
      go_wp2
      repeat (go_quiet (fail); try go_wp2)
      go_meet
      case rel => exact ⟨_, (true), (by first | rfl | (simp; done) | (simp [*]; done)), H', ⟨by first | omega | exact Nat.le_refl _⟩, ⟨by repeat (first | (with_reducible first | exact HB.out | apply below_alloc | apply pw_below_drewN | apply below_drew1) | exact HB.out)⟩⟩
    · rw [if_neg c7] at H
      have c7b0 : decide (100 < (l0.length : Int)) = false := decide_eq_false c7
      have c7b1 : decide (100 < l0.length) = false := decide_eq_false (by omega)
      clear c7
      (first | rw [c7b0] | (simp only [i64_w, i32_w]; rw [c7b0]) | skip)
      replace H := Option.bind_eq_some_iff.mp H
      obtain ⟨t297, A80, H⟩ := H
      replace H : (chargeparklaw16_LeaseParts.j0 k l0 a1 a2 t296 (!t297)) = some r := H
      have A8 := Aside0.mk A80
      clear A80
      have H' := Aside0.mk H
      clear H
      go_wp2_with (first | (go_at_call 18; (with_reducible refine (chargeparkref16_Valid.calls k _ _ l0 t297 _ ?side1 ?side2 A8.out).mono ?_); (case side1 => repeat (first | exact (Kd.C_below HR0.out HB.out) | (with_reducible refine Kd.C_alloc ?_ _) | (with_reducible refine Kd.C_drewN ?_ _) | (with_reducible refine Kd.C_drew ?_))); (case side2 => exact HC0.out); rintro e w9 ⟨rfl, hb⟩; have n0_ := Aside0.mk (below_step (by repeat (first | (with_reducible first | exact HB.out | apply below_alloc | apply pw_below_drewN | apply below_drew1) | exact HB.out)) hb); clear HB; have HB := n0_; clear n0_; (try clear hb); (try clear hb2); (try clear hk); (try clear hi)))
      repeat (go_quiet (first | (go_at_call 18; (with_reducible refine (chargeparkref16_Valid.calls k _ _ l0 t297 _ ?side1 ?side2 A8.out).mono ?_); (case side1 => repeat (first | exact (Kd.C_below HR0.out HB.out) | (with_reducible refine Kd.C_alloc ?_ _) | (with_reducible refine Kd.C_drewN ?_ _) | (with_reducible refine Kd.C_drew ?_))); (case side2 => exact HC0.out); rintro e w9 ⟨rfl, hb⟩; have n0_ := Aside0.mk (below_step (by repeat (first | (with_reducible first | exact HB.out | apply below_alloc | apply pw_below_drewN | apply below_drew1) | exact HB.out)) hb); clear HB; have HB := n0_; clear n0_; (try clear hb); (try clear hb2); (try clear hk); (try clear hi))); try go_wp2_with (first | (go_at_call 18; (with_reducible refine (chargeparkref16_Valid.calls k _ _ l0 t297 _ ?side1 ?side2 A8.out).mono ?_); (case side1 => repeat (first | exact (Kd.C_below HR0.out HB.out) | (with_reducible refine Kd.C_alloc ?_ _) | (with_reducible refine Kd.C_drewN ?_ _) | (with_reducible refine Kd.C_drew ?_))); (case side2 => exact HC0.out); rintro e w9 ⟨rfl, hb⟩; have n0_ := Aside0.mk (below_step (by repeat (first | (with_reducible first | exact HB.out | apply below_alloc | apply pw_below_drewN | apply below_drew1) | exact HB.out)) hb); clear HB; have HB := n0_; clear n0_; (try clear hb); (try clear hb2); (try clear hk); (try clear hi))))
      go_meet
      case rel => exact ⟨_, (!t297), (by first | rfl | (simp; done) | (simp [*]; done)), H', ⟨by first | omega | exact Nat.le_refl _⟩, ⟨by repeat (first | (with_reducible first | exact HB.out | apply below_alloc | apply pw_below_drewN | apply below_drew1) | exact HB.out)⟩⟩
  case rest =>
    clear HC5
    try clear p2
    try clear c7
    try clear c7b0
    try clear c7b1
    obtain ⟨kq, x24_4, rfl, HA, HJ4, HB⟩ := hcut
    cases kq with
    | zero => exact absurd HA.out (by simp [chargeparklaw16_LeaseParts.j0])
    | succ kj4 =>
      have H := HA.out
      clear HA
      simp only [chargeparklaw16_LeaseParts.j0] at H
      by_cases c10 : x24_4 = true
      · subst c10
        have H1 : (some t296) = some r := by rw [if_pos rfl] at H; exact H
        clear H
        have H := H1
        clear H1
        obtain rfl := Option.some.inj H
        go_wp2
        repeat (go_quiet (fail); try go_wp2)
        go_ret
        exact ⟨by first | rfl | (simp [errW_none, errW_some] <;> rfl) | (simp [*, errW_none, errW_some] <;> rfl), by repeat (first | (with_reducible first | exact HB.out | apply below_alloc | apply pw_below_drewN | apply below_drew1) | exact HB.out)⟩
      · replace c10 := Bool.eq_false_iff.mpr c10
        subst c10
        have H1 : (if (wrap64 ((l0.length : Int) + 1)) = 0 then (none) else ((lease_Alive.f l0 16 a2).bind fun bt298 => (if 0 ≤ (Int.tmod (wrap64 (a1)) (wrap64 ((l0.length : Int) + 1))) then (if (Int.tmod (wrap64 (a1)) (wrap64 ((l0.length : Int) + 1))) ≤ (l0.length : Int) then ((lease_Alive.f (l0.take ((Int.tmod (wrap64 (a1)) (wrap64 ((l0.length : Int) + 1))) : Int).toNat) 16 a2).bind fun bt306 => ((lease_Alive.f (l0.drop ((Int.tmod (wrap64 (a1)) (wrap64 ((l0.length : Int) + 1))) : Int).toNat) 16 a2).bind fun bt314 => (if bt298.2 = bt306.2 then (if bt298.2 = bt314.2 then (if (bt298.1.length : Int) = (bt306.1.length : Int) then (chargeparklaw16_LeaseParts.j1 kj4 t296 bt298.1 bt306.1 bt314.1 ((bt298.1.length : Int) != (bt314.1.length : Int))) else (chargeparklaw16_LeaseParts.j1 kj4 t296 bt298.1 bt306.1 bt314.1 true)) else (chargeparklaw16_LeaseParts.j1 kj4 t296 bt298.1 bt306.1 bt314.1 true)) else (chargeparklaw16_LeaseParts.j1 kj4 t296 bt298.1 bt306.1 bt314.1 true)))) else (none)) else (none)))) = some r := by rw [if_neg (show ¬ (false = true) by decide)] at H; exact H
        clear H
        have H := H1
        clear H1
        by_cases c11 : (wrap64 ((l0.length : Int) + 1)) = 0
        · rw [if_pos c11] at H
          exact absurd H (by simp)
        · rw [if_neg c11] at H
          have c11b0 : ((wrap64 ((l0.length : Int) + 1)) == 0) = false := beq_eq_false_iff_ne.mpr c11
          have c11b1 : ((wrap64 ((l0.length : Int) + 1)) != 0) = true := bne_iff_ne.mpr c11
          replace H := Option.bind_eq_some_iff.mp H
          obtain ⟨⟨t298, t299⟩, A120, H⟩ := H
          replace H : (if 0 ≤ (Int.tmod (wrap64 (a1)) (wrap64 ((l0.length : Int) + 1))) then (if (Int.tmod (wrap64 (a1)) (wrap64 ((l0.length : Int) + 1))) ≤ (l0.length : Int) then ((lease_Alive.f (l0.take ((Int.tmod (wrap64 (a1)) (wrap64 ((l0.length : Int) + 1))) : Int).toNat) 16 a2).bind fun bt306 => ((lease_Alive.f (l0.drop ((Int.tmod (wrap64 (a1)) (wrap64 ((l0.length : Int) + 1))) : Int).toNat) 16 a2).bind fun bt314 => (if t299 = bt306.2 then (if t299 = bt314.2 then (if (t298.length : Int) = (bt306.1.length : Int) then (chargeparklaw16_LeaseParts.j1 kj4 t296 t298 bt306.1 bt314.1 ((t298.length : Int) != (bt314.1.length : Int))) else (chargeparklaw16_LeaseParts.j1 kj4 t296 t298 bt306.1 bt314.1 true)) else (chargeparklaw16_LeaseParts.j1 kj4 t296 t298 bt306.1 bt314.1 true)) else (chargeparklaw16_LeaseParts.j1 kj4 t296 t298 bt306.1 bt314.1 true)))) else (none)) else (none)) = some r := H
          have A12 := Aside0.mk A120
          clear A120
          obtain ⟨ji13, hji13⟩ : ∃ j_ : Int, (Int.tmod (wrap64 (a1)) (wrap64 ((l0.length : Int) + 1))) = j_ := ⟨_, rfl⟩
          replace H : (if 0 ≤ (ji13) then (if (ji13) ≤ (l0.length : Int) then ((lease_Alive.f (l0.take ((ji13) : Int).toNat) 16 a2).bind fun bt306 => ((lease_Alive.f (l0.drop ((ji13) : Int).toNat) 16 a2).bind fun bt314 => (if t299 = bt306.2 then (if t299 = bt314.2 then (if (t298.length : Int) = (bt306.1.length : Int) then (chargeparklaw16_LeaseParts.j1 kj4 t296 t298 bt306.1 bt314.1 ((t298.length : Int) != (bt314.1.length : Int))) else (chargeparklaw16_LeaseParts.j1 kj4 t296 t298 bt306.1 bt314.1 true)) else (chargeparklaw16_LeaseParts.j1 kj4 t296 t298 bt306.1 bt314.1 true)) else (chargeparklaw16_LeaseParts.j1 kj4 t296 t298 bt306.1 bt314.1 true)))) else (none)) else (none)) = some r := by first | (rw [hji13] at H; exact H) | (simp only [hji13] at H ⊢; exact H)
          (try rw [hji13] at A12)
          by_cases c14 : 0 ≤ (ji13)
          · rw [if_pos c14] at H
            have c14b0 := eq_true c14
            have c14b1 : decide (0 ≤ (ji13)) = true := decide_eq_true c14
            clear c14
            by_cases c15 : (ji13) ≤ (l0.length : Int)
            · rw [if_pos c15] at H
              have c15b0 := eq_true c15
              have c15b1 : decide ((ji13) ≤ (l0.length : Int)) = true := decide_eq_true c15
              clear c15
              obtain ⟨y302, hy302⟩ : ∃ y_ : List (S24), y_ = (l0.take ((ji13) : Int).toNat) := ⟨_, rfl⟩
              replace H : ((lease_Alive.f y302 16 a2).bind fun bt306 => ((lease_Alive.f (l0.drop ((ji13) : Int).toNat) 16 a2).bind fun bt314 => (if t299 = bt306.2 then (if t299 = bt314.2 then (if (t298.length : Int) = (bt306.1.length : Int) then (chargeparklaw16_LeaseParts.j1 kj4 t296 t298 bt306.1 bt314.1 ((t298.length : Int) != (bt314.1.length : Int))) else (chargeparklaw16_LeaseParts.j1 kj4 t296 t298 bt306.1 bt314.1 true)) else (chargeparklaw16_LeaseParts.j1 kj4 t296 t298 bt306.1 bt314.1 true)) else (chargeparklaw16_LeaseParts.j1 kj4 t296 t298 bt306.1 bt314.1 true)))) = some r := by first | (rw [hy302]; with_reducible exact H) | (have H2_ := (Option.bind_some _ _).symm.trans H; rw [hy302]; with_reducible exact H2_) | (have H2_ := (Option.bind_some _ _).symm.trans H; with_reducible exact H2_) | with_reducible exact H | (rw [hy302]; exact H) | exact H
              have Ny302 := Aside0.mk hy302
              clear hy302
              replace H := Option.bind_eq_some_iff.mp H
              obtain ⟨⟨t306, t307⟩, A160, H⟩ := H
              replace H : ((lease_Alive.f (l0.drop ((ji13) : Int).toNat) 16 a2).bind fun bt314 => (if t299 = t307 then (if t299 = bt314.2 then (if (t298.length : Int) = (t306.length : Int) then (chargeparklaw16_LeaseParts.j1 kj4 t296 t298 t306 bt314.1 ((t298.length : Int) != (bt314.1.length : Int))) else (chargeparklaw16_LeaseParts.j1 kj4 t296 t298 t306 bt314.1 true)) else (chargeparklaw16_LeaseParts.j1 kj4 t296 t298 t306 bt314.1 true)) else (chargeparklaw16_LeaseParts.j1 kj4 t296 t298 t306 bt314.1 true))) = some r := H
              have A16 := Aside0.mk A160
              clear A160
              have c17b0 := eq_true (of_decide_eq_true (by first | (with_reducible assumption) | assumption) : 0 ≤ (ji13))
              have c18b0 := eq_true (of_decide_eq_true (by first | (with_reducible assumption) | assumption) : (ji13) ≤ (l0.length : Int))
              obtain ⟨y310, hy310⟩ : ∃ y_ : List (S24), y_ = (l0.drop ((ji13) : Int).toNat) := ⟨_, rfl⟩
              replace H : ((lease_Alive.f y310 16 a2).bind fun bt314 => (if t299 = t307 then (if t299 = bt314.2 then (if (t298.length : Int) = (t306.length : Int) then (chargeparklaw16_LeaseParts.j1 kj4 t296 t298 t306 bt314.1 ((t298.length : Int) != (bt314.1.length : Int))) else (chargeparklaw16_LeaseParts.j1 kj4 t296 t298 t306 bt314.1 true)) else (chargeparklaw16_LeaseParts.j1 kj4 t296 t298 t306 bt314.1 true)) else (chargeparklaw16_LeaseParts.j1 kj4 t296 t298 t306 bt314.1 true))) = some r := by first | (rw [hy310]; with_reducible exact H) | (have H2_ := (Option.bind_some _ _).symm.trans H; rw [hy310]; with_reducible exact H2_) | (have H2_ := (Option.bind_some _ _).symm.trans H; with_reducible exact H2_) | with_reducible exact H | (rw [hy310]; exact H) | exact H
              have Ny310 := Aside0.mk hy310
              clear hy310
              replace H := Option.bind_eq_some_iff.mp H
              obtain ⟨⟨t314, t315⟩, A190, H⟩ := H
              replace H : (if t299 = t307 then (if t299 = t315 then (if (t298.length : Int) = (t306.length : Int) then (chargeparklaw16_LeaseParts.j1 kj4 t296 t298 t306 t314 ((t298.length : Int) != (t314.length : Int))) else (chargeparklaw16_LeaseParts.j1 kj4 t296 t298 t306 t314 true)) else (chargeparklaw16_LeaseParts.j1 kj4 t296 t298 t306 t314 true)) else (chargeparklaw16_LeaseParts.j1 kj4 t296 t298 t306 t314 true)) = some r := H
              have A19 := Aside0.mk A190
              clear A190
              have HC20 := Aside0.mk H
              clear H
              go_upto_region 8 with (first | (go_at_call 13; (with_reducible refine (lease_Alive.calls _ _ l0 16 a2 t298 t299 _ ?side1 ?side2 A12.out).mono ?_); (case side1 => repeat (first | exact (Kd.C_below HR0.out HB.out) | (with_reducible refine Kd.C_alloc ?_ _) | (with_reducible refine Kd.C_drewN ?_ _) | (with_reducible refine Kd.C_drew ?_))); (case side2 => exact HC0.out); rintro e w21 ⟨v300, rfl, ho0, hb⟩; have n0_ := Aside0.mk (Kd.R_lower ho0 (below_size (by repeat (first | (with_reducible first | exact HB.out | apply below_alloc | apply pw_below_drewN | apply below_drew1) | exact HB.out)))); have n1_ := Aside0.mk (below_step (by repeat (first | (with_reducible first | exact HB.out | apply below_alloc | apply pw_below_drewN | apply below_drew1) | exact HB.out)) hb); clear HB; have HO301 := n0_; have HB := n1_; clear n0_ n1_; (try clear hb); (try clear hb2); (try clear hk); (try clear hi); (try clear ho0); have q22 : ((ji13) : Int) ≤ ((l0.length : Int) : Int) := of_decide_eq_true (by first | (with_reducible assumption) | assumption); obtain ⟨i022, hi022, _, hsz22, _⟩ := info_parts info24; have hroom22 : l0.length ≤ c0 := HC0.out; have hC22 : Kd.C k24 _ A0 l0.length l0 := HR0.out; have hcut22 := cut_to (P := Try.prog) 22 24 .i64 Try.underlying22 hi022 A0 l0.length c0 (ji13) (of_decide_eq_true (by first | (with_reducible assumption) | assumption)) q22 hroom22; have hr22 := Kd.C_take (m := ((ji13) : Int).toNat) hC22 (by omega); have hy22 : y302.length = ((ji13) : Int).toNat := (by rw [Ny302.out, List.length_take]; omega); rw [← Ny302.out] at hr22; rw [← hy22] at hcut22; have HR305 := Aside0.mk hr22; have HC305 := Aside0.mk (show y302.length ≤ c0 from by omega); clear hr22 hC22 hroom22 hi022 hsz22; have KY22 := Aside0.mk hy22; clear hy22; replace q22 := eq_true q22) | (go_at_call 13; (with_reducible refine (lease_Alive.calls _ _ y302 16 a2 t306 t307 _ ?side1 ?side2 A16.out).mono ?_); (case side1 => repeat (first | exact (Kd.C_below HR305.out HB.out) | (with_reducible refine Kd.C_alloc ?_ _) | (with_reducible refine Kd.C_drewN ?_ _) | (with_reducible refine Kd.C_drew ?_))); (case side2 => exact HC305.out); rintro e w23 ⟨v308, rfl, ho0, hb⟩; have n0_ := Aside0.mk (Kd.R_elder' (by (with_reducible repeat (first | apply Kd.R_alloc | apply Kd.R_drewN | apply Kd.R_drew)); exact HO301.out) (Kd.R_base ho0) hb); have n1_ := Aside0.mk (Kd.R_lower (Kd.R_new' ho0 (Kd.R_lt (by (with_reducible repeat (first | apply Kd.R_alloc | apply Kd.R_drewN | apply Kd.R_drew)); exact HO301.out))) (below_size (by repeat (first | (with_reducible first | exact HB.out | apply below_alloc | apply pw_below_drewN | apply below_drew1) | exact HB.out)))); have n2_ := Aside0.mk (below_step (by repeat (first | (with_reducible first | exact HB.out | apply below_alloc | apply pw_below_drewN | apply below_drew1) | exact HB.out)) hb); clear HO301; clear HB; have HO301 := n0_; have HO309 := n1_; have HB := n2_; clear n0_ n1_ n2_; (try clear hb); (try clear hb2); (try clear hk); (try clear hi); (try clear ho0); have q24 : ((ji13) : Int) ≤ ((l0.length : Int) : Int) := of_decide_eq_true (by first | (with_reducible assumption) | assumption); obtain ⟨i024, hi024, _, hsz24, _⟩ := info_parts info24; have hroom24 : l0.length ≤ c0 := HC0.out; have hC24 : Kd.C k24 _ A0 l0.length l0 := HR0.out; have q024 : (0 : Int) ≤ ((ji13) : Int) := of_decide_eq_true (by first | (with_reducible assumption) | assumption); have hcut24 := cut_from (P := Try.prog) 22 24 .i64 Try.underlying22 hi024 5 hsz24 A0 l0.length c0 (ji13) q024 q24; have hr24 := Kd.C_drop (m := ((ji13) : Int).toNat) (c := c0) hC24 (by omega) hroom24; obtain ⟨A24, hA24⟩ : ∃ A1, A1 = (if c0 = ((ji13) : Int).toNat then A0 else (A0 : Option Addr).map (·.add (((ji13) : Int).toNat * 5))) := ⟨_, rfl⟩; obtain ⟨c24, hc24⟩ : ∃ c1, c1 = c0 - ((ji13) : Int).toNat := ⟨_, rfl⟩; have hy24 : y310.length = l0.length - ((ji13) : Int).toNat := (by rw [Ny310.out, List.length_drop] <;> omega); rw [show (l0).drop ((ji13) : Int).toNat = y310 from Ny310.out.symm] at hr24; replace hr24 : Kd.C k24 _ A24 y310.length y310 := (by rw [hA24]; exact hr24); rw [← hy24, ← hA24, ← hc24] at hcut24; have HR313 := Aside0.mk hr24; have HC313 := Aside0.mk (show y310.length ≤ c24 from by rw [hy24, hc24]; exact Nat.sub_le_sub_right hroom24 _); clear hr24 hC24 hroom24 hi024 hsz24 hc24; have KY24 := Aside0.mk hy24; have KA24 := Aside0.mk hA24; clear hy24 hA24; replace q24 := eq_true q24) | (go_at_call 13; (with_reducible refine (lease_Alive.calls _ _ y310 16 a2 t314 t315 _ ?side1 ?side2 A19.out).mono ?_); (case side1 => repeat (first | exact (Kd.C_below HR313.out HB.out) | (with_reducible refine Kd.C_alloc ?_ _) | (with_reducible refine Kd.C_drewN ?_ _) | (with_reducible refine Kd.C_drew ?_))); (case side2 => exact HC313.out); rintro e w25 ⟨v316, rfl, ho0, hb⟩; have n0_ := Aside0.mk (Kd.R_elder' (by (with_reducible repeat (first | apply Kd.R_alloc | apply Kd.R_drewN | apply Kd.R_drew)); exact HO301.out) (Kd.R_base ho0) hb); have n1_ := Aside0.mk (Kd.R_elder' (by (with_reducible repeat (first | apply Kd.R_alloc | apply Kd.R_drewN | apply Kd.R_drew)); exact HO309.out) (Kd.R_base ho0) hb); have n2_ := Aside0.mk (Kd.R_lower (Kd.R_new' (Kd.R_new' ho0 (Kd.R_lt (by (with_reducible repeat (first | apply Kd.R_alloc | apply Kd.R_drewN | apply Kd.R_drew)); exact HO301.out))) (Kd.R_lt (by (with_reducible repeat (first | apply Kd.R_alloc | apply Kd.R_drewN | apply Kd.R_drew)); exact HO309.out))) (below_size (by repeat (first | (with_reducible first | exact HB.out | apply below_alloc | apply pw_below_drewN | apply below_drew1) | exact HB.out)))); have n3_ := Aside0.mk (below_step (by repeat (first | (with_reducible first | exact HB.out | apply below_alloc | apply pw_below_drewN | apply below_drew1) | exact HB.out)) hb); clear HO301; clear HO309; clear HB; have HO301 := n0_; have HO309 := n1_; have HO317 := n2_; have HB := n3_; clear n0_ n1_ n2_ n3_; (try clear hb); (try clear hb2); (try clear hk); (try clear hi); (try clear ho0)))
              repeat (go_quiet (first | (go_at_call 13; (with_reducible refine (lease_Alive.calls _ _ l0 16 a2 t298 t299 _ ?side1 ?side2 A12.out).mono ?_); (case side1 => repeat (first | exact (Kd.C_below HR0.out HB.out) | (with_reducible refine Kd.C_alloc ?_ _) | (with_reducible refine Kd.C_drewN ?_ _) | (with_reducible refine Kd.C_drew ?_))); (case side2 => exact HC0.out); rintro e w21 ⟨v300, rfl, ho0, hb⟩; have n0_ := Aside0.mk (Kd.R_lower ho0 (below_size (by repeat (first | (with_reducible first | exact HB.out | apply below_alloc | apply pw_below_drewN | apply below_drew1) | exact HB.out)))); have n1_ := Aside0.mk (below_step (by repeat (first | (with_reducible first | exact HB.out | apply below_alloc | apply pw_below_drewN | apply below_drew1) | exact HB.out)) hb); clear HB; have HO301 := n0_; have HB := n1_; clear n0_ n1_; (try clear hb); (try clear hb2); (try clear hk); (try clear hi); (try clear ho0); have q22 : ((ji13) : Int) ≤ ((l0.length : Int) : Int) := of_decide_eq_true (by first | (with_reducible assumption) | assumption); obtain ⟨i022, hi022, _, hsz22, _⟩ := info_parts info24; have hroom22 : l0.length ≤ c0 := HC0.out; have hC22 : Kd.C k24 _ A0 l0.length l0 := HR0.out; have hcut22 := cut_to (P := Try.prog) 22 24 .i64 Try.underlying22 hi022 A0 l0.length c0 (ji13) (of_decide_eq_true (by first | (with_reducible assumption) | assumption)) q22 hroom22; have hr22 := Kd.C_take (m := ((ji13) : Int).toNat) hC22 (by omega); have hy22 : y302.length = ((ji13) : Int).toNat := (by rw [Ny302.out, List.length_take]; omega); rw [← Ny302.out] at hr22; rw [← hy22] at hcut22; have HR305 := Aside0.mk hr22; have HC305 := Aside0.mk (show y302.length ≤ c0 from by omega); clear hr22 hC22 hroom22 hi022 hsz22; have KY22 := Aside0.mk hy22; clear hy22; replace q22 := eq_true q22) | (go_at_call 13; (with_reducible refine (lease_Alive.calls _ _ y302 16 a2 t306 t307 _ ?side1 ?side2 A16.out).mono ?_); (case side1 => repeat (first | exact (Kd.C_below HR305.out HB.out) | (with_reducible refine Kd.C_alloc ?_ _) | (with_reducible refine Kd.C_drewN ?_ _) | (with_reducible refine Kd.C_drew ?_))); (case side2 => exact HC305.out); rintro e w23 ⟨v308, rfl, ho0, hb⟩; have n0_ := Aside0.mk (Kd.R_elder' (by (with_reducible repeat (first | apply Kd.R_alloc | apply Kd.R_drewN | apply Kd.R_drew)); exact HO301.out) (Kd.R_base ho0) hb); have n1_ := Aside0.mk (Kd.R_lower (Kd.R_new' ho0 (Kd.R_lt (by (with_reducible repeat (first | apply Kd.R_alloc | apply Kd.R_drewN | apply Kd.R_drew)); exact HO301.out))) (below_size (by repeat (first | (with_reducible first | exact HB.out | apply below_alloc | apply pw_below_drewN | apply below_drew1) | exact HB.out)))); have n2_ := Aside0.mk (below_step (by repeat (first | (with_reducible first | exact HB.out | apply below_alloc | apply pw_below_drewN | apply below_drew1) | exact HB.out)) hb); clear HO301; clear HB; have HO301 := n0_; have HO309 := n1_; have HB := n2_; clear n0_ n1_ n2_; (try clear hb); (try clear hb2); (try clear hk); (try clear hi); (try clear ho0); have q24 : ((ji13) : Int) ≤ ((l0.length : Int) : Int) := of_decide_eq_true (by first | (with_reducible assumption) | assumption); obtain ⟨i024, hi024, _, hsz24, _⟩ := info_parts info24; have hroom24 : l0.length ≤ c0 := HC0.out; have hC24 : Kd.C k24 _ A0 l0.length l0 := HR0.out; have q024 : (0 : Int) ≤ ((ji13) : Int) := of_decide_eq_true (by first | (with_reducible assumption) | assumption); have hcut24 := cut_from (P := Try.prog) 22 24 .i64 Try.underlying22 hi024 5 hsz24 A0 l0.length c0 (ji13) q024 q24; have hr24 := Kd.C_drop (m := ((ji13) : Int).toNat) (c := c0) hC24 (by omega) hroom24; obtain ⟨A24, hA24⟩ : ∃ A1, A1 = (if c0 = ((ji13) : Int).toNat then A0 else (A0 : Option Addr).map (·.add (((ji13) : Int).toNat * 5))) := ⟨_, rfl⟩; obtain ⟨c24, hc24⟩ : ∃ c1, c1 = c0 - ((ji13) : Int).toNat := ⟨_, rfl⟩; have hy24 : y310.length = l0.length - ((ji13) : Int).toNat := (by rw [Ny310.out, List.length_drop] <;> omega); rw [show (l0).drop ((ji13) : Int).toNat = y310 from Ny310.out.symm] at hr24; replace hr24 : Kd.C k24 _ A24 y310.length y310 := (by rw [hA24]; exact hr24); rw [← hy24, ← hA24, ← hc24] at hcut24; have HR313 := Aside0.mk hr24; have HC313 := Aside0.mk (show y310.length ≤ c24 from by rw [hy24, hc24]; exact Nat.sub_le_sub_right hroom24 _); clear hr24 hC24 hroom24 hi024 hsz24 hc24; have KY24 := Aside0.mk hy24; have KA24 := Aside0.mk hA24; clear hy24 hA24; replace q24 := eq_true q24) | (go_at_call 13; (with_reducible refine (lease_Alive.calls _ _ y310 16 a2 t314 t315 _ ?side1 ?side2 A19.out).mono ?_); (case side1 => repeat (first | exact (Kd.C_below HR313.out HB.out) | (with_reducible refine Kd.C_alloc ?_ _) | (with_reducible refine Kd.C_drewN ?_ _) | (with_reducible refine Kd.C_drew ?_))); (case side2 => exact HC313.out); rintro e w25 ⟨v316, rfl, ho0, hb⟩; have n0_ := Aside0.mk (Kd.R_elder' (by (with_reducible repeat (first | apply Kd.R_alloc | apply Kd.R_drewN | apply Kd.R_drew)); exact HO301.out) (Kd.R_base ho0) hb); have n1_ := Aside0.mk (Kd.R_elder' (by (with_reducible repeat (first | apply Kd.R_alloc | apply Kd.R_drewN | apply Kd.R_drew)); exact HO309.out) (Kd.R_base ho0) hb); have n2_ := Aside0.mk (Kd.R_lower (Kd.R_new' (Kd.R_new' ho0 (Kd.R_lt (by (with_reducible repeat (first | apply Kd.R_alloc | apply Kd.R_drewN | apply Kd.R_drew)); exact HO301.out))) (Kd.R_lt (by (with_reducible repeat (first | apply Kd.R_alloc | apply Kd.R_drewN | apply Kd.R_drew)); exact HO309.out))) (below_size (by repeat (first | (with_reducible first | exact HB.out | apply below_alloc | apply pw_below_drewN | apply below_drew1) | exact HB.out)))); have n3_ := Aside0.mk (below_step (by repeat (first | (with_reducible first | exact HB.out | apply below_alloc | apply pw_below_drewN | apply below_drew1) | exact HB.out)) hb); clear HO301; clear HO309; clear HB; have HO301 := n0_; have HO309 := n1_; have HO317 := n2_; have HB := n3_; clear n0_ n1_ n2_ n3_; (try clear hb); (try clear hb2); (try clear hk); (try clear hi); (try clear ho0))); go_upto_region 8 with (first | (go_at_call 13; (with_reducible refine (lease_Alive.calls _ _ l0 16 a2 t298 t299 _ ?side1 ?side2 A12.out).mono ?_); (case side1 => repeat (first | exact (Kd.C_below HR0.out HB.out) | (with_reducible refine Kd.C_alloc ?_ _) | (with_reducible refine Kd.C_drewN ?_ _) | (with_reducible refine Kd.C_drew ?_))); (case side2 => exact HC0.out); rintro e w21 ⟨v300, rfl, ho0, hb⟩; have n0_ := Aside0.mk (Kd.R_lower ho0 (below_size (by repeat (first | (with_reducible first | exact HB.out | apply below_alloc | apply pw_below_drewN | apply below_drew1) | exact HB.out)))); have n1_ := Aside0.mk (below_step (by repeat (first | (with_reducible first | exact HB.out | apply below_alloc | apply pw_below_drewN | apply below_drew1) | exact HB.out)) hb); clear HB; have HO301 := n0_; have HB := n1_; clear n0_ n1_; (try clear hb); (try clear hb2); (try clear hk); (try clear hi); (try clear ho0); have q22 : ((ji13) : Int) ≤ ((l0.length : Int) : Int) := of_decide_eq_true (by first | (with_reducible assumption) | assumption); obtain ⟨i022, hi022, _, hsz22, _⟩ := info_parts info24; have hroom22 : l0.length ≤ c0 := HC0.out; have hC22 : Kd.C k24 _ A0 l0.length l0 := HR0.out; have hcut22 := cut_to (P := Try.prog) 22 24 .i64 Try.underlying22 hi022 A0 l0.length c0 (ji13) (of_decide_eq_true (by first | (with_reducible assumption) | assumption)) q22 hroom22; have hr22 := Kd.C_take (m := ((ji13) : Int).toNat) hC22 (by omega); have hy22 : y302.length = ((ji13) : Int).toNat := (by rw [Ny302.out, List.length_take]; omega); rw [← Ny302.out] at hr22; rw [← hy22] at hcut22; have HR305 := Aside0.mk hr22; have HC305 := Aside0.mk (show y302.length ≤ c0 from by omega); clear hr22 hC22 hroom22 hi022 hsz22; have KY22 := Aside0.mk hy22; clear hy22; replace q22 := eq_true q22) | (go_at_call 13; (with_reducible refine (lease_Alive.calls _ _ y302 16 a2 t306 t307 _ ?side1 ?side2 A16.out).mono ?_); (case side1 => repeat (first | exact (Kd.C_below HR305.out HB.out) | (with_reducible refine Kd.C_alloc ?_ _) | (with_reducible refine Kd.C_drewN ?_ _) | (with_reducible refine Kd.C_drew ?_))); (case side2 => exact HC305.out); rintro e w23 ⟨v308, rfl, ho0, hb⟩; have n0_ := Aside0.mk (Kd.R_elder' (by (with_reducible repeat (first | apply Kd.R_alloc | apply Kd.R_drewN | apply Kd.R_drew)); exact HO301.out) (Kd.R_base ho0) hb); have n1_ := Aside0.mk (Kd.R_lower (Kd.R_new' ho0 (Kd.R_lt (by (with_reducible repeat (first | apply Kd.R_alloc | apply Kd.R_drewN | apply Kd.R_drew)); exact HO301.out))) (below_size (by repeat (first | (with_reducible first | exact HB.out | apply below_alloc | apply pw_below_drewN | apply below_drew1) | exact HB.out)))); have n2_ := Aside0.mk (below_step (by repeat (first | (with_reducible first | exact HB.out | apply below_alloc | apply pw_below_drewN | apply below_drew1) | exact HB.out)) hb); clear HO301; clear HB; have HO301 := n0_; have HO309 := n1_; have HB := n2_; clear n0_ n1_ n2_; (try clear hb); (try clear hb2); (try clear hk); (try clear hi); (try clear ho0); have q24 : ((ji13) : Int) ≤ ((l0.length : Int) : Int) := of_decide_eq_true (by first | (with_reducible assumption) | assumption); obtain ⟨i024, hi024, _, hsz24, _⟩ := info_parts info24; have hroom24 : l0.length ≤ c0 := HC0.out; have hC24 : Kd.C k24 _ A0 l0.length l0 := HR0.out; have q024 : (0 : Int) ≤ ((ji13) : Int) := of_decide_eq_true (by first | (with_reducible assumption) | assumption); have hcut24 := cut_from (P := Try.prog) 22 24 .i64 Try.underlying22 hi024 5 hsz24 A0 l0.length c0 (ji13) q024 q24; have hr24 := Kd.C_drop (m := ((ji13) : Int).toNat) (c := c0) hC24 (by omega) hroom24; obtain ⟨A24, hA24⟩ : ∃ A1, A1 = (if c0 = ((ji13) : Int).toNat then A0 else (A0 : Option Addr).map (·.add (((ji13) : Int).toNat * 5))) := ⟨_, rfl⟩; obtain ⟨c24, hc24⟩ : ∃ c1, c1 = c0 - ((ji13) : Int).toNat := ⟨_, rfl⟩; have hy24 : y310.length = l0.length - ((ji13) : Int).toNat := (by rw [Ny310.out, List.length_drop] <;> omega); rw [show (l0).drop ((ji13) : Int).toNat = y310 from Ny310.out.symm] at hr24; replace hr24 : Kd.C k24 _ A24 y310.length y310 := (by rw [hA24]; exact hr24); rw [← hy24, ← hA24, ← hc24] at hcut24; have HR313 := Aside0.mk hr24; have HC313 := Aside0.mk (show y310.length ≤ c24 from by rw [hy24, hc24]; exact Nat.sub_le_sub_right hroom24 _); clear hr24 hC24 hroom24 hi024 hsz24 hc24; have KY24 := Aside0.mk hy24; have KA24 := Aside0.mk hA24; clear hy24 hA24; replace q24 := eq_true q24) | (go_at_call 13; (with_reducible refine (lease_Alive.calls _ _ y310 16 a2 t314 t315 _ ?side1 ?side2 A19.out).mono ?_); (case side1 => repeat (first | exact (Kd.C_below HR313.out HB.out) | (with_reducible refine Kd.C_alloc ?_ _) | (with_reducible refine Kd.C_drewN ?_ _) | (with_reducible refine Kd.C_drew ?_))); (case side2 => exact HC313.out); rintro e w25 ⟨v316, rfl, ho0, hb⟩; have n0_ := Aside0.mk (Kd.R_elder' (by (with_reducible repeat (first | apply Kd.R_alloc | apply Kd.R_drewN | apply Kd.R_drew)); exact HO301.out) (Kd.R_base ho0) hb); have n1_ := Aside0.mk (Kd.R_elder' (by (with_reducible repeat (first | apply Kd.R_alloc | apply Kd.R_drewN | apply Kd.R_drew)); exact HO309.out) (Kd.R_base ho0) hb); have n2_ := Aside0.mk (Kd.R_lower (Kd.R_new' (Kd.R_new' ho0 (Kd.R_lt (by (with_reducible repeat (first | apply Kd.R_alloc | apply Kd.R_drewN | apply Kd.R_drew)); exact HO301.out))) (Kd.R_lt (by (with_reducible repeat (first | apply Kd.R_alloc | apply Kd.R_drewN | apply Kd.R_drew)); exact HO309.out))) (below_size (by repeat (first | (with_reducible first | exact HB.out | apply below_alloc | apply pw_below_drewN | apply below_drew1) | exact HB.out)))); have n3_ := Aside0.mk (below_step (by repeat (first | (with_reducible first | exact HB.out | apply below_alloc | apply pw_below_drewN | apply below_drew1) | exact HB.out)) hb); clear HO301; clear HO309; clear HB; have HO301 := n0_; have HO309 := n1_; have HO317 := n2_; have HB := n3_; clear n0_ n1_ n2_ n3_; (try clear hb); (try clear hb2); (try clear hk); (try clear hi); (try clear ho0))))
              (try simp only [Act.put, List.setIfInBounds_toArray, List.set_cons_zero, List.set_cons_succ])
              go_cut [75] (fun v75 wc => ∃ (kq : Nat) (x75_19 : Bool), v75 = .bool x75_19 ∧ Aside0 (chargeparklaw16_LeaseParts.j1 kq t296 t298 t306 t314 x75_19 = some r) ∧ Aside0 (kq ≤ kj4) ∧ Aside0 (Kd.R (Kd.int .i64) 3 wc w.heap.size (fun k_ => some k_ ≠ (v308 : Value).ownBlock ∧ some k_ ≠ (v316 : Value).ownBlock) v300 t298) ∧ Aside0 (Kd.R (Kd.int .i64) 3 wc w.heap.size (fun k_ => some k_ ≠ (v300 : Value).ownBlock ∧ some k_ ≠ (v316 : Value).ownBlock) v308 t306) ∧ Aside0 (Kd.R (Kd.int .i64) 3 wc w.heap.size (fun k_ => some k_ ≠ (v300 : Value).ownBlock ∧ some k_ ≠ (v308 : Value).ownBlock) v316 t314) ∧ Aside0 (Below w.heap.size w wc))
              case first =>
                have H := HC20.out
                clear HC20
                by_cases c26 : t299 = t307
                · rw [if_pos c26] at H
                  have c26b0 : (t299 == t307) = true := beq_iff_eq.mpr c26
                  have c26b1 : (t299 != t307) = false := bne_eq_false_iff_eq.mpr c26
                  clear c26
                  (first | rw [c26b0] | (simp only [i64_w, i32_w]; rw [c26b0]) | skip)
                  by_cases c27 : t299 = t315
                  · rw [if_pos c27] at H
                    have c27b0 : (t299 == t315) = true := beq_iff_eq.mpr c27
                    have c27b1 : (t299 != t315) = false := bne_eq_false_iff_eq.mpr c27
                    clear c27
                    by_cases c28 : (t298.length : Int) = (t306.length : Int)
                    · rw [if_pos c28] at H
                      have c28b0 : ((t298.length : Int) == (t306.length : Int)) = true := beq_iff_eq.mpr c28
                      have c28b1 : ((t298.length : Int) != (t306.length : Int)) = false := bne_eq_false_iff_eq.mpr c28
                      have c28b2 : (t298.length == t306.length) = true := by first | simpa using c28 | (simp at c28 ⊢; omega)
                      clear c28
                      have H' := Aside0.mk H
                      clear H
                      obtain ⟨Ao29, co29, eo29⟩ := Kd.R_slice HO301.out
                      subst eo29
                      obtain ⟨Ao30, co30, eo30⟩ := Kd.R_slice HO309.out
                      subst eo30
                      obtain ⟨Ao31, co31, eo31⟩ := Kd.R_slice HO317.out
                      subst eo31
                      go_wp2
                      repeat (go_quiet (fail); try go_wp2)
                      go_meet
                      case rel => exact ⟨_, (((t298.length : Int) != (t314.length : Int))), (by first | rfl | (simp; done) | (simp [*]; done)), H', ⟨by have := HJ4.out; first | omega | exact Nat.le_refl _⟩, ⟨by (with_reducible repeat (first | apply Kd.R_alloc | apply Kd.R_drewN | apply Kd.R_drew)); exact Kd.R_mono HO301.out (fun _ hk => ⟨hk.1.2, hk.2⟩)⟩, ⟨by (with_reducible repeat (first | apply Kd.R_alloc | apply Kd.R_drewN | apply Kd.R_drew)); exact Kd.R_mono HO309.out (fun _ hk => ⟨hk.1.2, hk.2⟩)⟩, ⟨by (with_reducible repeat (first | apply Kd.R_alloc | apply Kd.R_drewN | apply Kd.R_drew)); exact Kd.R_mono HO317.out (fun _ hk => ⟨hk.1.2, hk.2⟩)⟩, ⟨by repeat (first | (with_reducible first | exact HB.out | apply below_alloc | apply pw_below_drewN | apply below_drew1) | exact HB.out)⟩⟩
                    · rw [if_neg c28] at H
                      have c28b0 : ((t298.length : Int) == (t306.length : Int)) = false := beq_eq_false_iff_ne.mpr c28
                      have c28b1 : ((t298.length : Int) != (t306.length : Int)) = true := bne_iff_ne.mpr c28
                      have c28b2 : (t298.length == t306.length) = false := by first | simpa using c28 | (simp at c28 ⊢; omega)
                      have H' := Aside0.mk H
                      clear H
                      obtain ⟨Ao32, co32, eo32⟩ := Kd.R_slice HO301.out
                      subst eo32
                      obtain ⟨Ao33, co33, eo33⟩ := Kd.R_slice HO309.out
                      subst eo33
                      go_wp2
                      repeat (go_quiet (fail); try go_wp2)
                      go_meet
                      case rel => exact ⟨_, (true), (by first | rfl | (simp; done) | (simp [*]; done)), H', ⟨by have := HJ4.out; first | omega | exact Nat.le_refl _⟩, ⟨by (with_reducible repeat (first | apply Kd.R_alloc | apply Kd.R_drewN | apply Kd.R_drew)); exact Kd.R_mono HO301.out (fun _ hk => ⟨hk.1.2, hk.2⟩)⟩, ⟨by (with_reducible repeat (first | apply Kd.R_alloc | apply Kd.R_drewN | apply Kd.R_drew)); exact Kd.R_mono HO309.out (fun _ hk => ⟨hk.1.2, hk.2⟩)⟩, ⟨by (with_reducible repeat (first | apply Kd.R_alloc | apply Kd.R_drewN | apply Kd.R_drew)); exact Kd.R_mono HO317.out (fun _ hk => ⟨hk.1.2, hk.2⟩)⟩, ⟨by repeat (first | (with_reducible first | exact HB.out | apply below_alloc | apply pw_below_drewN | apply below_drew1) | exact HB.out)⟩⟩
                  · rw [if_neg c27] at H
                    have c27b0 : (t299 == t315) = false := beq_eq_false_iff_ne.mpr c27
                    have c27b1 : (t299 != t315) = true := bne_iff_ne.mpr c27
                    have H' := Aside0.mk H
                    clear H
                    go_wp2
                    repeat (go_quiet (fail); try go_wp2)
                    go_meet
                    case rel => exact ⟨_, (true), (by first | rfl | (simp; done) | (simp [*]; done)), H', ⟨by have := HJ4.out; first | omega | exact Nat.le_refl _⟩, ⟨by (with_reducible repeat (first | apply Kd.R_alloc | apply Kd.R_drewN | apply Kd.R_drew)); exact Kd.R_mono HO301.out (fun _ hk => ⟨hk.1.2, hk.2⟩)⟩, ⟨by (with_reducible repeat (first | apply Kd.R_alloc | apply Kd.R_drewN | apply Kd.R_drew)); exact Kd.R_mono HO309.out (fun _ hk => ⟨hk.1.2, hk.2⟩)⟩, ⟨by (with_reducible repeat (first | apply Kd.R_alloc | apply Kd.R_drewN | apply Kd.R_drew)); exact Kd.R_mono HO317.out (fun _ hk => ⟨hk.1.2, hk.2⟩)⟩, ⟨by repeat (first | (with_reducible first | exact HB.out | apply below_alloc | apply pw_below_drewN | apply below_drew1) | exact HB.out)⟩⟩
                · rw [if_neg c26] at H
                  have c26b0 : (t299 == t307) = false := beq_eq_false_iff_ne.mpr c26
                  have c26b1 : (t299 != t307) = true := bne_iff_ne.mpr c26
                  (first | rw [c26b0] | (simp only [i64_w, i32_w]; rw [c26b0]) | skip)
                  have H' := Aside0.mk H
                  clear H
                  go_wp2
                  repeat (go_quiet (fail); try go_wp2)
                  go_meet
                  case rel => exact ⟨_, (true), (by first | rfl | (simp; done) | (simp [*]; done)), H', ⟨by have := HJ4.out; first | omega | exact Nat.le_refl _⟩, ⟨by (with_reducible repeat (first | apply Kd.R_alloc | apply Kd.R_drewN | apply Kd.R_drew)); exact Kd.R_mono HO301.out (fun _ hk => ⟨hk.1.2, hk.2⟩)⟩, ⟨by (with_reducible repeat (first | apply Kd.R_alloc | apply Kd.R_drewN | apply Kd.R_drew)); exact Kd.R_mono HO309.out (fun _ hk => ⟨hk.1.2, hk.2⟩)⟩, ⟨by (with_reducible repeat (first | apply Kd.R_alloc | apply Kd.R_drewN | apply Kd.R_drew)); exact Kd.R_mono HO317.out (fun _ hk => ⟨hk.1.2, hk.2⟩)⟩, ⟨by repeat (first | (with_reducible first | exact HB.out | apply below_alloc | apply pw_below_drewN | apply below_drew1) | exact HB.out)⟩⟩
              case rest =>
                clear HC20
                try clear c1
                try clear c2
                try clear p2
                try clear q2
                try clear p6
                try clear c7
                try clear c7b0
                try clear c7b1
                try clear c10
                try clear c11
                try clear c11b0
                try clear c11b1
                try clear c14
                try clear c14b0
                try clear c14b1
                try clear c15
                try clear c15b0
                try clear c15b1
                try clear c17
                try clear c17b0
                try clear c18
                try clear c18b0
                try clear q22
                try clear c24
                try clear q24
                try clear c26
                try clear c26b0
                try clear c26b1
                try clear c27
                try clear c27b0
                try clear c27b1
                try clear c28
                try clear c28b0
                try clear c28b1
                try clear c28b2
                try clear p2
                try clear q024
                try clear q22
                try clear q24
                obtain ⟨kq, x75_19, rfl, HA, HJ19, HO_9, HO_11, HO_13, HB⟩ := hcut
                cases kq with
                | zero => exact absurd HA.out (by simp [chargeparklaw16_LeaseParts.j1])
                | succ kj19 =>
                  have H := HA.out
                  clear HA
                  simp only [chargeparklaw16_LeaseParts.j1] at H
                  by_cases c34 : x75_19 = true
                  · subst c34
                    have H1 : (none) = some r := by rw [if_pos rfl] at H; exact H
                    clear H
                    have H := H1
                    clear H1
                    exact absurd H (by simp)
                  · replace c34 := Bool.eq_false_iff.mpr c34
                    subst c34
                    have H1 : (chargeparklaw16_LeaseParts.l0 kj19 t296 t298 t306 t314 (t298.length : Int) 0) = some r := by rw [if_neg (show ¬ (false = true) by decide)] at H; exact H
                    clear H
                    have H := H1
                    clear H1
                    have H' := Aside0.mk H
                    clear H
                    obtain ⟨Ao35, co35, eo35⟩ := Kd.R_slice HO_9.out
                    subst eo35
                    go_wp2
                    repeat (go_quiet (fail); try go_wp2)
                    go_loopg [78] kj19 (fun kq v78 w' => ∃ (x78_3 : Int), v78 = .int .i64 x78_3 ∧ Aside0 (chargeparklaw16_LeaseParts.l0 kq t296 t298 t306 t314 (t298.length : Int) x78_3 = some r) ∧ Aside0 (kq ≤ kj19) ∧ Aside0 (Kd.R (Kd.int .i64) 3 w' w.heap.size (fun k_ => some k_ ≠ (v308 : Value).ownBlock ∧ some k_ ≠ (v316 : Value).ownBlock) (.slice Ao35 t298.length co35) t298) ∧ Aside0 (Kd.R (Kd.int .i64) 3 w' w.heap.size (fun k_ => some k_ ≠ ((.slice Ao35 t298.length co35) : Value).ownBlock ∧ some k_ ≠ (v316 : Value).ownBlock) v308 t306) ∧ Aside0 (Kd.R (Kd.int .i64) 3 w' w.heap.size (fun k_ => some k_ ≠ ((.slice Ao35 t298.length co35) : Value).ownBlock ∧ some k_ ≠ (v308 : Value).ownBlock) v316 t314) ∧ Aside0 (Below w.heap.size w w'))
                    case atStart => exact ⟨(0), (by first | rfl | (simp; done) | (simp [*]; done)), H', ⟨Nat.le_refl _⟩, ⟨by (with_reducible repeat (first | apply Kd.R_alloc | apply Kd.R_drewN | apply Kd.R_drew)); exact HO_9.out⟩, ⟨by (with_reducible repeat (first | apply Kd.R_alloc | apply Kd.R_drewN | apply Kd.R_drew)); exact HO_11.out⟩, ⟨by (with_reducible repeat (first | apply Kd.R_alloc | apply Kd.R_drewN | apply Kd.R_drew)); exact HO_13.out⟩, ⟨by repeat (first | (with_reducible first | exact HB.out | apply below_alloc | apply pw_below_drewN | apply below_drew1) | exact HB.out)⟩⟩
                    case round =>
                      clear H'
                      try clear c1
                      try clear c2
                      try clear p2
                      try clear q2
                      try clear c3
                      try clear p6
                      try clear c7
                      try clear c7b0
                      try clear c7b1
                      try clear c10
                      try clear c11
                      try clear c11b0
                      try clear c11b1
                      try clear c14
                      try clear c14b0
                      try clear c14b1
                      try clear c15
                      try clear c15b0
                      try clear c15b1
                      try clear c17
                      try clear c17b0
                      try clear c18
                      try clear c18b0
                      try clear q22
                      try clear c24
                      try clear q24
                      try clear c26
                      try clear c26b0
                      try clear c26b1
                      try clear c27
                      try clear c27b0
                      try clear c27b1
                      try clear c28
                      try clear c28b0
                      try clear c28b1
                      try clear c28b2
                      try clear c34
                      try clear p2
                      try clear p6
                      try clear q024
                      try clear q2
                      try clear q22
                      try clear q24
                      obtain ⟨x78_3, rfl, HA, HK3, HO_9, HO_11, HO_13, HB⟩ := hrel
                      cases gk with
                      | zero => exact absurd HA.out (by simp [chargeparklaw16_LeaseParts.l0])
                      | succ k3 =>
                        have H := HA.out
                        clear HA
                        simp only [chargeparklaw16_LeaseParts.l0] at H
                        by_cases c36 : x78_3 < (t298.length : Int)
                        · rw [if_pos c36] at H
                          have c36b0 : decide (x78_3 < (t298.length : Int)) = true := decide_eq_true c36
                          clear c36
                          by_cases c37 : 0 ≤ x78_3
                          · rw [if_pos c37] at H
                            have c37b0 : decide (0 ≤ x78_3) = true := decide_eq_true c37
                            clear c37
                            by_cases c38 : x78_3 < (t298.length : Int)
                            · rw [if_pos c38] at H
                              have c38b0 : decide (x78_3 < (t298.length : Int)) = true := decide_eq_true c38
                              clear c38
                              by_cases c39 : x78_3 < (t306.length : Int)
                              · rw [if_pos c39] at H
                                have c39b0 : decide (x78_3 < (t306.length : Int)) = true := decide_eq_true c39
                                clear c39
                                by_cases c40 : x78_3 < (t314.length : Int)
                                · rw [if_pos c40] at H
                                  have c40b0 : decide (x78_3 < (t314.length : Int)) = true := decide_eq_true c40
                                  clear c40
                                  obtain ⟨ji41, hji41⟩ : ∃ j_ : Int, (mx (rd t306 x78_3) (rd t314 x78_3)) = j_ := ⟨_, rfl⟩
                                  replace H : (if (rd t298 x78_3) = (ji41) then (chargeparklaw16_LeaseParts.l0 k3 t296 t298 t306 t314 (t298.length : Int) (wrap64 (x78_3 + 1))) else (none)) = some r := by first | (rw [hji41] at H; exact H) | (simp only [hji41] at H ⊢; exact H)
                                  have hji41_ : (if (rd t306 x78_3) < (rd t314 x78_3) then (rd t314 x78_3) else (rd t306 x78_3)) = ji41 := hji41
                                  by_cases c42 : (rd t298 x78_3) = (ji41)
                                  · rw [if_pos c42] at H
                                    have c42b0 : ((rd t298 x78_3) == (ji41)) = true := beq_iff_eq.mpr c42
                                    have c42b1 : ((rd t298 x78_3) != (ji41)) = false := bne_eq_false_iff_eq.mpr c42
                                    clear c42
                                    have H' := Aside0.mk H
                                    clear H
                                    have p318 : 0 ≤ (x78_3 : Int) := of_decide_eq_true (by first | (with_reducible assumption) | assumption)
                                    have q318 : x78_3 < (t298.length : Int) := of_decide_eq_true (by first | (with_reducible assumption) | assumption)
                                    obtain ⟨ad318, e318, hx318_0⟩ := Kd.at_int (Kd.R_reads' HO_9.out).2.2 x78_3 p318 q318
                                    cases e318
                                    replace p318 := eq_true p318
                                    replace q318 := eq_true q318
                                    obtain ⟨Ao43, co43, eo43⟩ := Kd.R_slice HO_11.out
                                    subst eo43
                                    have p319 : 0 ≤ (x78_3 : Int) := of_decide_eq_true (by first | (with_reducible assumption) | assumption)
                                    have q319 : x78_3 < (t306.length : Int) := of_decide_eq_true (by first | (with_reducible assumption) | assumption)
                                    obtain ⟨ad319, e319, hx319_0⟩ := Kd.at_int (Kd.R_reads' HO_11.out).2.2 x78_3 p319 q319
                                    cases e319
                                    replace p319 := eq_true p319
                                    replace q319 := eq_true q319
                                    obtain ⟨Ao44, co44, eo44⟩ := Kd.R_slice HO_13.out
                                    subst eo44
                                    have p320 : 0 ≤ (x78_3 : Int) := of_decide_eq_true (by first | (with_reducible assumption) | assumption)
                                    have q320 : x78_3 < (t314.length : Int) := of_decide_eq_true (by first | (with_reducible assumption) | assumption)
                                    obtain ⟨ad320, e320, hx320_0⟩ := Kd.at_int (Kd.R_reads' HO_13.out).2.2 x78_3 p320 q320
                                    cases e320
                                    replace p320 := eq_true p320
                                    replace q320 := eq_true q320
                                    go_wp2
                                    repeat (go_quiet (fail); try go_wp2)
                                    go_roundg k3
                                    case measure => have := HJ4.out; have := HJ19.out; have := HK3.out; omega
                                    case rel => exact ⟨(wrap64 (x78_3 + 1)), (by first | rfl | (simp; done) | (simp [*]; done)), H', ⟨by have := HJ4.out; have := HJ19.out; have := HK3.out; omega⟩, ⟨by (with_reducible repeat (first | apply Kd.R_alloc | apply Kd.R_drewN | apply Kd.R_drew)); exact HO_9.out⟩, ⟨by (with_reducible repeat (first | apply Kd.R_alloc | apply Kd.R_drewN | apply Kd.R_drew)); exact HO_11.out⟩, ⟨by (with_reducible repeat (first | apply Kd.R_alloc | apply Kd.R_drewN | apply Kd.R_drew)); exact HO_13.out⟩, ⟨by repeat (first | (with_reducible first | exact HB.out | apply below_alloc | apply pw_below_drewN | apply below_drew1) | exact HB.out)⟩⟩
                                  · rw [if_neg c42] at H
                                    exact absurd H (by simp)
                                · rw [if_neg c40] at H
                                  exact absurd H (by simp)
                              · rw [if_neg c39] at H
                                exact absurd H (by simp)
                            · rw [if_neg c38] at H
                              exact absurd H (by simp)
                          · rw [if_neg c37] at H
                            exact absurd H (by simp)
                        · rw [if_neg c36] at H
                          have c36b0 : decide (x78_3 < (t298.length : Int)) = false := decide_eq_false c36
                          clear c36
                          obtain rfl := Option.some.inj H
                          go_wp2
                          repeat (go_quiet (fail); try go_wp2)
                          go_ret
                          exact ⟨by first | rfl | (simp [errW_none, errW_some] <;> rfl) | (simp only [← hji13]; first | rfl | (simp [errW_none, errW_some] <;> rfl)) | (simp [*, errW_none, errW_some] <;> rfl), by repeat (first | (with_reducible first | exact HB.out | apply below_alloc | apply pw_below_drewN | apply below_drew1) | exact HB.out)⟩
            · rw [if_neg c15] at H
              exact absurd H (by simp)
          · rw [if_neg c14] at H
            exact absurd H (by simp)

/-- THE ONE PURE STATEMENT of chargeparklaw16_LeaseParts: yours. -/
def chargeparklaw16_LeaseParts.Pure : Prop := ∀ (l0 : List (S24)) (a1 : Int) (a2 : Int), l0.length ≤ maxLen → (∀ y ∈ l0, ok24 y) → (Lit.int .u8 a1).wf = true → (Lit.int .i64 a2).wf = true → ∃ k, chargeparklaw16_LeaseParts.f k l0 a1 a2 = some true
theorem chargeparklaw16_LeaseParts.walk (P : chargeparklaw16_LeaseParts.Pure) (A0 : Option Addr) (c0 : Nat) (l0 : List (S24)) (a1 : Int) (a2 : Int) (w : World) (hC0 : Kd.C k24 w A0 l0.length l0) (hc0 : l0.length ≤ c0) (hm0 : l0.length ≤ maxLen) (ho0 : ∀ y ∈ l0, ok24 y) (w1 : (Lit.int .u8 a1).wf = true) (w2 : (Lit.int .i64 a2).wf = true) :
    Calls Try.prog 7 #[.slice A0 l0.length c0, .int .u8 a1, .int .i64 a2] w fun e w' => e = .returned (.bool true) ∧ Below w.heap.size w w' := by
  obtain ⟨k, h⟩ := P l0 a1 a2 hm0 ho0 w1 w2
  refine (chargeparklaw16_LeaseParts.calls k _ _ l0 a1 a2 true w hC0 hc0 h).mono ?_
  rintro e w' ⟨rfl, hd⟩
  exact ⟨rfl, hd⟩


-- NOT PRINTED: function 8 (chargeparklaw16_LeaseLonger)

/-! ### clock_rate_down: function 34 -/
def clock_rate_down.f (a0 : Int) (a1 : Int) : Option (Int) := some (wrap64 (Int.tdiv (wrap64 (a1 * a0)) 1000000))
set_option maxHeartbeats 8000000 in
set_option maxRecDepth 100000 in
theorem clock_rate_down.calls (a0 : Int) (a1 : Int) (r : Int) (w : World) (h : clock_rate_down.f a0 a1 = some r) :
    Calls Try.prog 34 #[.int .i64 a0, .int .i64 a1] w fun e w' => e = .returned (.int .i64 r) ∧ Drawn0 w w' := by
  have H : (some (wrap64 (Int.tdiv (wrap64 (a1 * a0)) 1000000))) = some r := h
  clear h
  obtain rfl := Option.some.inj H
  go_enter Try.func34, Try.ntmps34
  go_wp2
  go_ret
  exact ⟨by first | rfl | (simp; done) | (simp [*]; done), by repeat (first | exact Drawn0.refl _ | apply Drawn0.step)⟩


/-! ### clock_isTicks_int: function 35 -/
def clock_isTicks_int.f (a0 : Int) : Option (Bool) := if a0 ≥ 0 then (some (decide (a0 ≤ 1000000))) else (some false)
set_option maxHeartbeats 8000000 in
set_option maxRecDepth 100000 in
theorem clock_isTicks_int.calls (a0 : Int) (r : Bool) (w : World) (h : clock_isTicks_int.f a0 = some r) :
    Calls Try.prog 35 #[.int .i64 a0] w fun e w' => e = .returned (.bool r) ∧ Drawn0 w w' := by
  have H : (if a0 ≥ 0 then (some (decide (a0 ≤ 1000000))) else (some false)) = some r := h
  clear h
  by_cases c2 : a0 ≥ 0
  · rw [if_pos c2] at H
    have c2b0 : decide (0 ≤ a0) = true := decide_eq_true c2
    clear c2
    obtain rfl := Option.some.inj H
    go_enter Try.func35, Try.ntmps35
    go_wp2
    go_ret
    exact ⟨by first | rfl | (simp; done) | (simp [*]; done), by repeat (first | exact Drawn0.refl _ | apply Drawn0.step)⟩
  · rw [if_neg c2] at H
    have c2b0 : decide (0 ≤ a0) = false := decide_eq_false c2
    clear c2
    obtain rfl := Option.some.inj H
    go_enter Try.func35, Try.ntmps35
    go_wp2
    go_ret
    exact ⟨by first | rfl | (simp; done) | (simp [*]; done), by repeat (first | exact Drawn0.refl _ | apply Drawn0.step)⟩


end Go.Proofs.Ytpngiddelhcepaa.PAll
