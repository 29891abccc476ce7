-- Written by a program of this session (xprint.py, over the kit's print.py), with contracts proved by hand.
import Derived.Test.YtpngiddelhcepaaPAllx0
import Derived.Test.YtpngiddelhcepaaPAllx3
import Derived.Test.YtpngiddelhcepaaPAllx4
namespace Go.Proofs.Ytpngiddelhcepaa.PAll
open Go.RowKit Go.Proofs.Ytpngiddelhcepaa.Open Go.Proofs.YtpngiddelhcepaaW.PrintWords Go.Proofs.YtpngiddelhcepaaW.PrintLast Go.Proofs.YtpngiddelhcepaaW.PrintMore
attribute [local go_sem] max2_int min2_int max_two min_two max_three min_three max_four min_four   -- for this text's walks alone
set_option linter.unusedVariables false
set_option linter.unusedSimpArgs false

/-! ### chargeparkref16_Alive: function 14 -/
mutual
def chargeparkref16_Alive.j0 : Nat → List (S24) → Int → Int → Bool → Option (List Int × Int)
  | 0, _, _, _, _ => none
  | k + 1, x0, x1, x2, x28 => if x28 = true then (some (([] : List Int), 1)) else (if 0 ≤ x1 then (if (x1 : Int).toNat ≤ 35184372088832 then (chargeparkref16_Alive.l0 k x0 x1 x2 (List.replicate (x1 : Int).toNat 0) 0) else (none)) else (none))
def chargeparkref16_Alive.l0 : Nat → List (S24) → Int → Int → List Int → Int → Option (List Int × Int)
  | 0, _, _, _, _, _ => none
  | k + 1, x0, x1, x2, x8, x9 => if x9 < (x0.length : Int) then (if 0 ≤ x9 then (if ((rd_T24 x0 x9).f1) ≥ x1 then (some (([] : List Int), 1)) else (if ((rd_T24 x0 x9).f3) ≤ x2 then ((chargeparkref16_End.f ((rd_T24 x0 x9).f0) ((rd_T24 x0 x9).f1) ((rd_T24 x0 x9).f2) ((rd_T24 x0 x9).f3) ((rd_T24 x0 x9).f4)).bind fun t191 => (if x2 < t191 then (if 0 ≤ ((rd_T24 x0 x9).f1) then (if ((rd_T24 x0 x9).f1) < (x8.length : Int) then (chargeparkref16_Alive.l0 k x0 x1 x2 (x8.set (((rd_T24 x0 x9).f1) : Int).toNat (mx (rd x8 ((rd_T24 x0 x9).f1)) ((rd_T24 x0 x9).f2))) (wrap64 (x9 + 1))) else (none)) else (none)) else (chargeparkref16_Alive.l0 k x0 x1 x2 x8 (wrap64 (x9 + 1))))) else (chargeparkref16_Alive.l0 k x0 x1 x2 x8 (wrap64 (x9 + 1))))) else (none)) else (some (x8, 0))
end
def chargeparkref16_Alive.f (k : Nat) (l0 : List (S24)) (a1 : Int) (a2 : Int) : Option (List Int × Int) := (chargeparkref16_Valid.f k l0).bind fun t184 => (if t184 = true then (if a1 < 0 then (chargeparkref16_Alive.j0 k l0 a1 a2 true) else (if a1 > 16 then (chargeparkref16_Alive.j0 k l0 a1 a2 true) else (if a2 < 0 then (chargeparkref16_Alive.j0 k l0 a1 a2 true) else (chargeparkref16_Alive.j0 k l0 a1 a2 (decide (a2 > 1100000)))))) else (chargeparkref16_Alive.j0 k l0 a1 a2 true))
theorem chargeparkref16_Alive.mono_l : ∀ k, (∀ y0 y1 y2 y3, LeO (chargeparkref16_Alive.j0 k y0 y1 y2 y3) (chargeparkref16_Alive.j0 (k + 1) y0 y1 y2 y3)) ∧ (∀ y0 y1 y2 y3 y4, LeO (chargeparkref16_Alive.l0 k y0 y1 y2 y3 y4) (chargeparkref16_Alive.l0 (k + 1) y0 y1 y2 y3 y4))
  | 0 => ⟨fun _ _ _ _ r h => by simp [chargeparkref16_Alive.j0] at h, fun _ _ _ _ _ r h => by simp [chargeparkref16_Alive.l0] at h⟩
  | k + 1 => by
    obtain ⟨ih0, ih1⟩ := chargeparkref16_Alive.mono_l k
    refine ⟨?_, ?_⟩
    · intro y0 y1 y2 y3
      unfold chargeparkref16_Alive.j0
      repeat' first
      | (with_reducible exact ih0 _ _ _ _)
      | (with_reducible exact ih1 _ _ _ _ _)
      | (with_reducible exact chargeparkref16_Valid.mono _ _)
      | (with_reducible exact LeO.refl _)
      | (with_reducible exact LeO.none _)
      | (with_reducible refine LeO.ite ?_ ?_)
      | (with_reducible refine LeO.bind ?_ (fun _ => ?_))
      | exact ih0 _ _ _ _
      | exact ih1 _ _ _ _ _
      | exact chargeparkref16_Valid.mono _ _
      | exact LeO.none _
      | refine LeO.ite ?_ ?_
      | refine LeO.bind ?_ (fun _ => ?_)
    · intro y0 y1 y2 y3 y4
      unfold chargeparkref16_Alive.l0
      repeat' first
      | (with_reducible exact ih0 _ _ _ _)
      | (with_reducible exact ih1 _ _ _ _ _)
      | (with_reducible exact chargeparkref16_Valid.mono _ _)
      | (with_reducible exact LeO.refl _)
      | (with_reducible exact LeO.none _)
      | (with_reducible refine LeO.ite ?_ ?_)
      | (with_reducible refine LeO.bind ?_ (fun _ => ?_))
      | exact ih0 _ _ _ _
      | exact ih1 _ _ _ _ _
      | exact chargeparkref16_Valid.mono _ _
      | exact LeO.none _
      | refine LeO.ite ?_ ?_
      | refine LeO.bind ?_ (fun _ => ?_)
theorem chargeparkref16_Alive.mono : ∀ a0 a1 a2 k, LeO (chargeparkref16_Alive.f k a0 a1 a2) (chargeparkref16_Alive.f (k + 1) a0 a1 a2) := by
  intro a0 a1 a2 k
  obtain ⟨ih0, ih1⟩ := chargeparkref16_Alive.mono_l k
  unfold chargeparkref16_Alive.f
  repeat' first
      | (with_reducible exact ih0 _ _ _ _)
      | (with_reducible exact ih1 _ _ _ _ _)
      | (with_reducible exact chargeparkref16_Valid.mono _ _)
      | (with_reducible exact LeO.refl _)
      | (with_reducible exact LeO.none _)
      | (with_reducible refine LeO.ite ?_ ?_)
      | (with_reducible refine LeO.bind ?_ (fun _ => ?_))
      | exact ih0 _ _ _ _
      | exact ih1 _ _ _ _ _
      | exact chargeparkref16_Valid.mono _ _
      | exact LeO.none _
      | refine LeO.ite ?_ ?_
      | refine LeO.bind ?_ (fun _ => ?_)
def chargeparkref16_Alive.T10 : Bool × List (List Nat × List Nat) := (true, [([], []), ([], []), ([], []), ([1, 2], [1, 2]), ([3], [3]), ([4], [4]), ([], []), ([], []), ([], []), ([7, 8], [7, 8]), ([9], [9]), ([10], [10]), ([6, 11], [6, 11]), ([12], [12]), ([], []), ([], []), ([14, 15], [14, 15]), ([16], [16]), ([17], [17]), ([13, 18], [13, 18]), ([0, 5, 0, 1, 2, 3, 4, 5, 6, 7, 8, 9, 10, 11, 12, 13, 14, 15, 16, 17, 18, 19], [0, 5]), ([20, 19, 0, 1, 2, 3, 4, 5, 6, 7, 8, 9, 10, 11, 12, 13, 14, 15, 16, 17, 18, 19], [19, 20])])
def chargeparkref16_Alive.B10 : List Nat := [0, 0, 0, 6, 14, 30, 0, 0, 0, 384, 896, 1920, 4032, 8128, 0, 0, 49152, 114688, 245760, 524224, 1048575, 2097151]
theorem chargeparkref16_Alive.tab10 : rtab .any (opsOf Try.f14 10) = chargeparkref16_Alive.T10 := by kernel_rfl
theorem chargeparkref16_Alive.bits10 : waitsOk chargeparkref16_Alive.T10.2 chargeparkref16_Alive.B10 = true := by kernel_rfl
set_option maxHeartbeats 8000000 in
set_option maxRecDepth 100000 in
theorem chargeparkref16_Alive.calls (k : Nat) (A0 : Option Addr) (c0 : Nat) (l0 : List (S24)) (a1 : Int) (a2 : Int) (r1 : List Int) (r2 : Int) (w : World) (hr0 : Kd.C k24 w A0 l0.length l0) (hc0 : l0.length ≤ c0) (h : chargeparkref16_Alive.f k l0 a1 a2 = some (r1, r2)) :
    Calls Try.prog 14 #[.slice A0 l0.length c0, .int .i64 a1, .int .i64 a2] w fun e w' => ∃ v0_ : Value, e = .returned (.tuple #[v0_, .int .i64 r2]) ∧ Kd.R (Kd.int .i64) 3 w' w.heap.size (fun _ => True) v0_ r1 ∧ Below w.heap.size w w' := by
  have hu24 := Try.underlying24
  have HR0 := Aside0.mk hr0
  have HC0 := Aside0.mk hc0
  clear hr0 hc0
  have HB := Aside0.mk (Below.refl w.heap.size w)
  have H : ((chargeparkref16_Valid.f k l0).bind fun t184 => (if t184 = true then (if a1 < 0 then (chargeparkref16_Alive.j0 k l0 a1 a2 true) else (if a1 > 16 then (chargeparkref16_Alive.j0 k l0 a1 a2 true) else (if a2 < 0 then (chargeparkref16_Alive.j0 k l0 a1 a2 true) else (chargeparkref16_Alive.j0 k l0 a1 a2 (decide (a2 > 1100000)))))) else (chargeparkref16_Alive.j0 k l0 a1 a2 true))) = some (r1, r2) := h
  clear h
  have HC4 := Aside0.mk H
  clear H
  go_enter Try.func14, Try.ntmps14
  go_upto_region 1 with (fail)
  go_cut [28] (fun v28 wc => ∃ (kq : Nat) (x28_3 : Bool), v28 = .bool x28_3 ∧ Aside0 (chargeparkref16_Alive.j0 kq l0 a1 a2 x28_3 = some (r1, r2)) ∧ Aside0 (kq ≤ k) ∧ Aside0 (Below w.heap.size w wc))
  case first =>
    have H := HC4.out
    clear HC4
    replace H := Option.bind_eq_some_iff.mp H
    obtain ⟨t184, A50, H⟩ := H
    replace H : (if t184 = true then (if a1 < 0 then (chargeparkref16_Alive.j0 k l0 a1 a2 true) else (if a1 > 16 then (chargeparkref16_Alive.j0 k l0 a1 a2 true) else (if a2 < 0 then (chargeparkref16_Alive.j0 k l0 a1 a2 true) else (chargeparkref16_Alive.j0 k l0 a1 a2 (decide (a2 > 1100000)))))) else (chargeparkref16_Alive.j0 k l0 a1 a2 true)) = some (r1, r2) := H
    have A5 := Aside0.mk A50
    clear A50
    by_cases c6 : t184 = true
    · subst c6
      have H1 : (if a1 < 0 then (chargeparkref16_Alive.j0 k l0 a1 a2 true) else (if a1 > 16 then (chargeparkref16_Alive.j0 k l0 a1 a2 true) else (if a2 < 0 then (chargeparkref16_Alive.j0 k l0 a1 a2 true) else (chargeparkref16_Alive.j0 k l0 a1 a2 (decide (a2 > 1100000)))))) = some (r1, r2) := by rw [if_pos rfl] at H; exact H
      clear H
      have H := H1
      clear H1
      by_cases c7 : a1 < 0
      · rw [if_pos c7] at H
        have c7b0 : decide (a1 < 0) = true := decide_eq_true c7
        clear c7
        (first | rw [c7b0] | (simp only [i64_w, i32_w]; rw [c7b0]) | skip)
        have H' := Aside0.mk H
        clear H
        go_wp2_with (first | ((with_reducible refine gate_callee (f := 18) rfl ?_); refine goesL_ (some 11) rfl rfl Try.func18 (by kernel_rfl) rfl #[.slice A0 l0.length c0] rfl (by (try simp only [List.map_toArray, List.map_cons, List.map_nil]); first | done | rfl | (simp only [List.length_drop, List.length_take]; rfl)) ?_; (with_reducible refine (chargeparkref16_Valid.calls k _ _ l0 true _ ?side1 ?side2 A5.out).mono ?_); (case side1 => repeat (first | exact (Kd.C_below HR0.out HB.out) | (with_reducible refine Kd.C_alloc ?_ _) | (with_reducible refine Kd.C_drewN ?_ _) | (with_reducible refine Kd.C_drew ?_))); (case side2 => exact HC0.out); rintro e w8 ⟨rfl, hb⟩; refine ⟨_, rfl, ?_⟩; have n0_ := Aside0.mk (below_step (by repeat (first | (with_reducible first | exact HB.out | apply below_alloc | apply pw_below_drewN | apply below_drew1) | exact HB.out)) hb); clear HB; have HB := n0_; clear n0_; (try clear hb); (try clear hb2); (try clear hk); (try clear hi)))
        go_meet
        case rel => exact ⟨_, (true), (by first | rfl | (simp; done) | (simp [*]; done)), H', ⟨by first | omega | exact Nat.le_refl _⟩, ⟨by repeat (first | (with_reducible first | exact HB.out | apply below_alloc | apply pw_below_drewN | apply below_drew1) | exact HB.out)⟩⟩
      · rw [if_neg c7] at H
        have c7b0 : decide (a1 < 0) = false := decide_eq_false c7
        clear c7
        (first | rw [c7b0] | (simp only [i64_w, i32_w]; rw [c7b0]) | skip)
        by_cases c9 : a1 > 16
        · rw [if_pos c9] at H
          have c9b0 : decide (16 < a1) = true := decide_eq_true c9
          clear c9
          have H' := Aside0.mk H
          clear H
          go_wp2_with (first | ((with_reducible refine gate_callee (f := 18) rfl ?_); refine goesL_ (some 11) rfl rfl Try.func18 (by kernel_rfl) rfl #[.slice A0 l0.length c0] rfl (by (try simp only [List.map_toArray, List.map_cons, List.map_nil]); first | done | rfl | (simp only [List.length_drop, List.length_take]; rfl)) ?_; (with_reducible refine (chargeparkref16_Valid.calls k _ _ l0 true _ ?side1 ?side2 A5.out).mono ?_); (case side1 => repeat (first | exact (Kd.C_below HR0.out HB.out) | (with_reducible refine Kd.C_alloc ?_ _) | (with_reducible refine Kd.C_drewN ?_ _) | (with_reducible refine Kd.C_drew ?_))); (case side2 => exact HC0.out); rintro e w10 ⟨rfl, hb⟩; refine ⟨_, rfl, ?_⟩; have n0_ := Aside0.mk (below_step (by repeat (first | (with_reducible first | exact HB.out | apply below_alloc | apply pw_below_drewN | apply below_drew1) | exact HB.out)) hb); clear HB; have HB := n0_; clear n0_; (try clear hb); (try clear hb2); (try clear hk); (try clear hi)))
          go_meet
          case rel => exact ⟨_, (true), (by first | rfl | (simp; done) | (simp [*]; done)), H', ⟨by first | omega | exact Nat.le_refl _⟩, ⟨by repeat (first | (with_reducible first | exact HB.out | apply below_alloc | apply pw_below_drewN | apply below_drew1) | exact HB.out)⟩⟩
        · rw [if_neg c9] at H
          have c9b0 : decide (16 < a1) = false := decide_eq_false c9
          clear c9
          by_cases c11 : a2 < 0
          · rw [if_pos c11] at H
            have c11b0 : decide (a2 < 0) = true := decide_eq_true c11
            clear c11
            have H' := Aside0.mk H
            clear H
            go_wp2_with (first | ((with_reducible refine gate_callee (f := 18) rfl ?_); refine goesL_ (some 11) rfl rfl Try.func18 (by kernel_rfl) rfl #[.slice A0 l0.length c0] rfl (by (try simp only [List.map_toArray, List.map_cons, List.map_nil]); first | done | rfl | (simp only [List.length_drop, List.length_take]; rfl)) ?_; (with_reducible refine (chargeparkref16_Valid.calls k _ _ l0 true _ ?side1 ?side2 A5.out).mono ?_); (case side1 => repeat (first | exact (Kd.C_below HR0.out HB.out) | (with_reducible refine Kd.C_alloc ?_ _) | (with_reducible refine Kd.C_drewN ?_ _) | (with_reducible refine Kd.C_drew ?_))); (case side2 => exact HC0.out); rintro e w12 ⟨rfl, hb⟩; refine ⟨_, rfl, ?_⟩; have n0_ := Aside0.mk (below_step (by repeat (first | (with_reducible first | exact HB.out | apply below_alloc | apply pw_below_drewN | apply below_drew1) | exact HB.out)) hb); clear HB; have HB := n0_; clear n0_; (try clear hb); (try clear hb2); (try clear hk); (try clear hi)))
            go_meet
            case rel => exact ⟨_, (true), (by first | rfl | (simp; done) | (simp [*]; done)), H', ⟨by first | omega | exact Nat.le_refl _⟩, ⟨by repeat (first | (with_reducible first | exact HB.out | apply below_alloc | apply pw_below_drewN | apply below_drew1) | exact HB.out)⟩⟩
          · rw [if_neg c11] at H
            have c11b0 : decide (a2 < 0) = false := decide_eq_false c11
            clear c11
            have H' := Aside0.mk H
            clear H
            go_wp2_with (first | ((with_reducible refine gate_callee (f := 18) rfl ?_); refine goesL_ (some 11) rfl rfl Try.func18 (by kernel_rfl) rfl #[.slice A0 l0.length c0] rfl (by (try simp only [List.map_toArray, List.map_cons, List.map_nil]); first | done | rfl | (simp only [List.length_drop, List.length_take]; rfl)) ?_; (with_reducible refine (chargeparkref16_Valid.calls k _ _ l0 true _ ?side1 ?side2 A5.out).mono ?_); (case side1 => repeat (first | exact (Kd.C_below HR0.out HB.out) | (with_reducible refine Kd.C_alloc ?_ _) | (with_reducible refine Kd.C_drewN ?_ _) | (with_reducible refine Kd.C_drew ?_))); (case side2 => exact HC0.out); rintro e w13 ⟨rfl, hb⟩; refine ⟨_, rfl, ?_⟩; have n0_ := Aside0.mk (below_step (by repeat (first | (with_reducible first | exact HB.out | apply below_alloc | apply pw_below_drewN | apply below_drew1) | exact HB.out)) hb); clear HB; have HB := n0_; clear n0_; (try clear hb); (try clear hb2); (try clear hk); (try clear hi)))
            go_meet
            case rel => exact ⟨_, (decide (a2 > 1100000)), (by first | rfl | (simp; done) | (simp [*]; done)), H', ⟨by first | omega | exact Nat.le_refl _⟩, ⟨by repeat (first | (with_reducible first | exact HB.out | apply below_alloc | apply pw_below_drewN | apply below_drew1) | exact HB.out)⟩⟩
    · replace c6 := Bool.eq_false_iff.mpr c6
      subst c6
      have H1 : (chargeparkref16_Alive.j0 k l0 a1 a2 true) = some (r1, r2) := by rw [if_neg (show ¬ (false = true) by decide)] at H; exact H
      clear H
      have H := H1
      clear H1
      have H' := Aside0.mk H
      clear H
      go_wp2_with (first | ((with_reducible refine gate_callee (f := 18) rfl ?_); refine goesL_ (some 11) rfl rfl Try.func18 (by kernel_rfl) rfl #[.slice A0 l0.length c0] rfl (by (try simp only [List.map_toArray, List.map_cons, List.map_nil]); first | done | rfl | (simp only [List.length_drop, List.length_take]; rfl)) ?_; (with_reducible refine (chargeparkref16_Valid.calls k _ _ l0 false _ ?side1 ?side2 A5.out).mono ?_); (case side1 => repeat (first | exact (Kd.C_below HR0.out HB.out) | (with_reducible refine Kd.C_alloc ?_ _) | (with_reducible refine Kd.C_drewN ?_ _) | (with_reducible refine Kd.C_drew ?_))); (case side2 => exact HC0.out); rintro e w14 ⟨rfl, hb⟩; refine ⟨_, rfl, ?_⟩; have n0_ := Aside0.mk (below_step (by repeat (first | (with_reducible first | exact HB.out | apply below_alloc | apply pw_below_drewN | apply below_drew1) | exact HB.out)) hb); clear HB; have HB := n0_; clear n0_; (try clear hb); (try clear hb2); (try clear hk); (try clear hi)))
      go_meet
      case rel => exact ⟨_, (true), (by first | rfl | (simp; done) | (simp [*]; done)), H', ⟨by first | omega | exact Nat.le_refl _⟩, ⟨by repeat (first | (with_reducible first | exact HB.out | apply below_alloc | apply pw_below_drewN | apply below_drew1) | exact HB.out)⟩⟩
  case rest =>
    clear HC4
    try clear c1
    try clear p2
    try clear c6
    try clear c7
    try clear c7b0
    try clear c9
    try clear c9b0
    try clear c11
    try clear c11b0
    try clear c14
    obtain ⟨kq, x28_3, rfl, HA, HJ3, HB⟩ := hcut
    cases kq with
    | zero => exact absurd HA.out (by simp [chargeparkref16_Alive.j0])
    | succ kj3 =>
      have H := HA.out
      clear HA
      simp only [chargeparkref16_Alive.j0] at H
      by_cases c15 : x28_3 = true
      · subst c15
        have H1 : (some (([] : List Int), 1)) = some (r1, r2) := by rw [if_pos rfl] at H; exact H
        clear H
        have H := H1
        clear H1
        simp only [Option.some.injEq, Prod.mk.injEq] at H
        obtain ⟨rfl, rfl⟩ := H
        go_wp2
        go_ret2
        exact ⟨_, by first | rfl | (simp [errW_none, errW_some] <;> rfl) | (simp [*, errW_none, errW_some] <;> rfl), by first | exact Kd.R_nil _ _ _ _ _ | exact Kd.N_nil _ _ _ _ _ | exact Kd.V_nil _ _ _ _ _ | exact Kd.Q_nil _ _ _ _ _ | exact Kd.S_nil _ _ _ _ _, by repeat (first | (with_reducible first | exact HB.out | apply below_alloc | apply pw_below_drewN | apply below_drew1) | exact HB.out)⟩
      · replace c15 := Bool.eq_false_iff.mpr c15
        subst c15
        have H1 : (if 0 ≤ a1 then (if (a1 : Int).toNat ≤ 35184372088832 then (chargeparkref16_Alive.l0 kj3 l0 a1 a2 (List.replicate (a1 : Int).toNat 0) 0) else (none)) else (none)) = some (r1, r2) := by rw [if_neg (show ¬ (false = true) by decide)] at H; exact H
        clear H
        have H := H1
        clear H1
        by_cases c16 : 0 ≤ a1
        · rw [if_pos c16] at H
          have c16b0 := eq_true c16
          have c16b1 : decide (0 ≤ a1) = true := decide_eq_true c16
          clear c16
          by_cases c17 : (a1 : Int).toNat ≤ 35184372088832
          · rw [if_pos c17] at H
            have c17b0 := eq_true c17
            have c17b1 : decide ((a1 : Int).toNat ≤ 35184372088832) = true := decide_eq_true c17
            clear c17
            obtain ⟨y185, hy185⟩ : ∃ y_ : List Int, y_ = (List.replicate (a1 : Int).toNat 0) := ⟨_, rfl⟩
            replace H : (chargeparkref16_Alive.l0 kj3 l0 a1 a2 y185 0) = some (r1, r2) := by first | (rw [hy185]; with_reducible exact H) | (have H2_ := (Option.bind_some _ _).symm.trans H; rw [hy185]; with_reducible exact H2_) | (have H2_ := (Option.bind_some _ _).symm.trans H; with_reducible exact H2_) | with_reducible exact H | (rw [hy185]; exact H) | exact H
            have Ny185 := Aside0.mk hy185
            clear hy185
            have H' := Aside0.mk H
            clear H
            go_wp2_with (first | ((with_reducible refine gate_dst (N := 30) rfl ?_); refine Kd.R_make (Kd.int .i64) _ 3 rfl (N := 30) rfl 29 _ _ rfl a1 rfl rfl Try.underlying29 (.int .i64 0) 8 info3 rfl (by decide) (by omega) 0 (ok := fun _ => True) (okp := fun _ => True) rfl (fun _ hk => hk) trivial (of_decide_eq_true (by first | (with_reducible assumption) | assumption)) (Nat.le_trans (Nat.mul_le_mul_right _ (of_decide_eq_true (by first | (with_reducible assumption) | assumption) : a1.toNat ≤ 35184372088832)) (by omega)) (Below.refl _ _) (Nat.le_refl _) ?_; intro v186 w18 ho19 hb hg_ hnew_; clear hg_ hnew_; (first | rw [← Ny185.out] at ho19 | (simp only [Int.reduceToNat] at ho19; rw [← Ny185.out] at ho19)); have n0_ := Aside0.mk (Kd.R_lower ho19 (below_size (by repeat (first | (with_reducible first | exact HB.out | apply below_alloc | apply pw_below_drewN | apply below_drew1) | exact HB.out)))); have n1_ := Aside0.mk (below_step (by repeat (first | (with_reducible first | exact HB.out | apply below_alloc | apply pw_below_drewN | apply below_drew1) | exact HB.out)) hb); clear HB; have HO187 := n0_; have HB := n1_; clear n0_ n1_; clear hb ho19))
            go_loopg [9] kj3 (fun kq v9 w' => ∃ (x8_2 : List Int) (x9_2 : Int), v9 = .int .i64 x9_2 ∧ Aside0 (chargeparkref16_Alive.l0 kq l0 a1 a2 x8_2 x9_2 = some (r1, r2)) ∧ Aside0 (kq ≤ kj3) ∧ Aside0 (Kd.R (Kd.int .i64) 3 w' w.heap.size (fun _ => True) v186 x8_2) ∧ Aside0 (Below w.heap.size w w'))
            case atStart => exact ⟨(y185), (0), (by first | rfl | (simp; done) | (simp [*]; done)), H', ⟨Nat.le_refl _⟩, ⟨by (with_reducible repeat (first | apply Kd.R_alloc | apply Kd.R_drewN | apply Kd.R_drew)); exact HO187.out⟩, ⟨by repeat (first | (with_reducible first | exact HB.out | apply below_alloc | apply pw_below_drewN | apply below_drew1) | exact HB.out)⟩⟩
            case round =>
              clear H'
              try clear c1
              try clear p2
              try clear c6
              try clear c7
              try clear c7b0
              try clear c9
              try clear c9b0
              try clear c11
              try clear c11b0
              try clear c14
              try clear c15
              try clear c16
              try clear c16b0
              try clear c16b1
              try clear c17
              try clear c17b0
              try clear c17b1
              try clear c18
              try clear p2
              obtain ⟨x8_2, x9_2, rfl, HA, HK2, HO_8, HB⟩ := hrel
              cases gk with
              | zero => exact absurd HA.out (by simp [chargeparkref16_Alive.l0])
              | succ k2 =>
                have H := HA.out
                clear HA
                simp only [chargeparkref16_Alive.l0] at H
                by_cases c20 : x9_2 < (l0.length : Int)
                · rw [if_pos c20] at H
                  have c20b0 : decide (x9_2 < (l0.length : Int)) = true := decide_eq_true c20
                  clear c20
                  by_cases c21 : 0 ≤ x9_2
                  · rw [if_pos c21] at H
                    have c21b0 : decide (0 ≤ x9_2) = true := decide_eq_true c21
                    clear c21
                    by_cases c22 : ((rd_T24 l0 x9_2).f1) ≥ a1
                    · rw [if_pos c22] at H
                      have c22b0 : decide (a1 ≤ ((rd_T24 l0 x9_2).f1)) = true := decide_eq_true c22
                      clear c22
                      simp only [Option.some.injEq, Prod.mk.injEq] at H
                      obtain ⟨rfl, rfl⟩ := H
                      have p188 : 0 ≤ (x9_2 : Int) := of_decide_eq_true (by first | (with_reducible assumption) | assumption)
                      have q188 : x9_2 < (l0.length : Int) := of_decide_eq_true (by first | (with_reducible assumption) | assumption)
                      obtain ⟨ad188, e188, hx188_0, hx188_1, hx188_2, hx188_3, hx188_4⟩ := at_T24 HR0.out x9_2 p188 q188
                      cases e188
                      replace hx188_0 := (HB.out.cell (World.block_lt_of_cell? w _ hx188_0)).trans hx188_0
                      replace hx188_1 := (HB.out.cell (World.block_lt_of_cell? w _ hx188_1)).trans hx188_1
                      replace hx188_2 := (HB.out.cell (World.block_lt_of_cell? w _ hx188_2)).trans hx188_2
                      replace hx188_3 := (HB.out.cell (World.block_lt_of_cell? w _ hx188_3)).trans hx188_3
                      replace hx188_4 := (HB.out.cell (World.block_lt_of_cell? w _ hx188_4)).trans hx188_4
                      replace p188 := eq_true p188
                      replace q188 := eq_true q188
                      go_wp2
                      go_ret2
                      exact ⟨_, by first | rfl | (simp [errW_none, errW_some] <;> rfl) | (simp [*, errW_none, errW_some] <;> rfl), by first | exact Kd.R_nil _ _ _ _ _ | exact Kd.N_nil _ _ _ _ _ | exact Kd.V_nil _ _ _ _ _ | exact Kd.Q_nil _ _ _ _ _ | exact Kd.S_nil _ _ _ _ _, by repeat (first | (with_reducible first | exact HB.out | apply below_alloc | apply pw_below_drewN | apply below_drew1) | exact HB.out)⟩
                    · rw [if_neg c22] at H
                      have c22b0 : decide (a1 ≤ ((rd_T24 l0 x9_2).f1)) = false := decide_eq_false c22
                      clear c22
                      by_cases c23 : ((rd_T24 l0 x9_2).f3) ≤ a2
                      · rw [if_pos c23] at H
                        have c23b0 : decide (((rd_T24 l0 x9_2).f3) ≤ a2) = true := decide_eq_true c23
                        clear c23
                        replace H := Option.bind_eq_some_iff.mp H
                        obtain ⟨t191, A240, H⟩ := H
                        replace H : (if a2 < t191 then (if 0 ≤ ((rd_T24 l0 x9_2).f1) then (if ((rd_T24 l0 x9_2).f1) < (x8_2.length : Int) then (chargeparkref16_Alive.l0 k2 l0 a1 a2 (x8_2.set (((rd_T24 l0 x9_2).f1) : Int).toNat (mx (rd x8_2 ((rd_T24 l0 x9_2).f1)) ((rd_T24 l0 x9_2).f2))) (wrap64 (x9_2 + 1))) else (none)) else (none)) else (chargeparkref16_Alive.l0 k2 l0 a1 a2 x8_2 (wrap64 (x9_2 + 1)))) = some (r1, r2) := H
                        have A24 := Aside0.mk A240
                        clear A240
                        by_cases c25 : a2 < t191
                        · rw [if_pos c25] at H
                          have c25b0 : decide (a2 < t191) = true := decide_eq_true c25
                          clear c25
                          by_cases c26 : 0 ≤ ((rd_T24 l0 x9_2).f1)
                          · rw [if_pos c26] at H
                            have c26b0 : decide (0 ≤ ((rd_T24 l0 x9_2).f1)) = true := decide_eq_true c26
                            clear c26
                            by_cases c27 : ((rd_T24 l0 x9_2).f1) < (x8_2.length : Int)
                            · rw [if_pos c27] at H
                              have c27b0 : decide (((rd_T24 l0 x9_2).f1) < (x8_2.length : Int)) = true := decide_eq_true c27
                              clear c27
                              obtain ⟨ji28, hji28⟩ : ∃ j_ : Int, (mx (rd x8_2 ((rd_T24 l0 x9_2).f1)) ((rd_T24 l0 x9_2).f2)) = j_ := ⟨_, rfl⟩
                              replace H : (chargeparkref16_Alive.l0 k2 l0 a1 a2 (x8_2.set (((rd_T24 l0 x9_2).f1) : Int).toNat (ji28)) (wrap64 (x9_2 + 1))) = some (r1, r2) := by first | (rw [hji28] at H; exact H) | (simp only [hji28] at H ⊢; exact H)
                              (try rw [hji28] at A24)
                              have hji28_ : (if (rd x8_2 ((rd_T24 l0 x9_2).f1)) < ((rd_T24 l0 x9_2).f2) then ((rd_T24 l0 x9_2).f2) else (rd x8_2 ((rd_T24 l0 x9_2).f1))) = ji28 := hji28
                              obtain ⟨y196, hy196⟩ : ∃ y_ : List Int, y_ = (x8_2.set (((rd_T24 l0 x9_2).f1) : Int).toNat (ji28)) := ⟨_, rfl⟩
                              replace H : (chargeparkref16_Alive.l0 k2 l0 a1 a2 y196 (wrap64 (x9_2 + 1))) = some (r1, r2) := by first | (rw [hy196]; with_reducible exact H) | (have H2_ := (Option.bind_some _ _).symm.trans H; rw [hy196]; with_reducible exact H2_) | (have H2_ := (Option.bind_some _ _).symm.trans H; with_reducible exact H2_) | with_reducible exact H | (rw [hy196]; exact H) | exact H
                              have Ny196 := Aside0.mk hy196
                              clear hy196
                              have H' := Aside0.mk H
                              clear H
                              have p188 : 0 ≤ (x9_2 : Int) := of_decide_eq_true (by first | (with_reducible assumption) | assumption)
                              have q188 : x9_2 < (l0.length : Int) := of_decide_eq_true (by first | (with_reducible assumption) | assumption)
                              obtain ⟨ad188, e188, hx188_0, hx188_1, hx188_2, hx188_3, hx188_4⟩ := at_T24 HR0.out x9_2 p188 q188
                              cases e188
                              replace hx188_0 := (HB.out.cell (World.block_lt_of_cell? w _ hx188_0)).trans hx188_0
                              replace hx188_1 := (HB.out.cell (World.block_lt_of_cell? w _ hx188_1)).trans hx188_1
                              replace hx188_2 := (HB.out.cell (World.block_lt_of_cell? w _ hx188_2)).trans hx188_2
                              replace hx188_3 := (HB.out.cell (World.block_lt_of_cell? w _ hx188_3)).trans hx188_3
                              replace hx188_4 := (HB.out.cell (World.block_lt_of_cell? w _ hx188_4)).trans hx188_4
                              replace p188 := eq_true p188
                              replace q188 := eq_true q188
                              have p189 : 0 ≤ (x9_2 : Int) := of_decide_eq_true (by first | (with_reducible assumption) | assumption)
                              have q189 : x9_2 < (l0.length : Int) := of_decide_eq_true (by first | (with_reducible assumption) | assumption)
                              obtain ⟨ad189, e189, hx189_0, hx189_1, hx189_2, hx189_3, hx189_4⟩ := at_T24 HR0.out x9_2 p189 q189
                              obtain rfl : ad188 = ad189 := (by injection e189)
                              replace hx189_0 := (HB.out.cell (World.block_lt_of_cell? w _ hx189_0)).trans hx189_0
                              replace hx189_1 := (HB.out.cell (World.block_lt_of_cell? w _ hx189_1)).trans hx189_1
                              replace hx189_2 := (HB.out.cell (World.block_lt_of_cell? w _ hx189_2)).trans hx189_2
                              replace hx189_3 := (HB.out.cell (World.block_lt_of_cell? w _ hx189_3)).trans hx189_3
                              replace hx189_4 := (HB.out.cell (World.block_lt_of_cell? w _ hx189_4)).trans hx189_4
                              replace p189 := eq_true p189
                              replace q189 := eq_true q189
                              have p190 : 0 ≤ (x9_2 : Int) := of_decide_eq_true (by first | (with_reducible assumption) | assumption)
                              have q190 : x9_2 < (l0.length : Int) := of_decide_eq_true (by first | (with_reducible assumption) | assumption)
                              obtain ⟨ad190, e190, hx190_0, hx190_1, hx190_2, hx190_3, hx190_4⟩ := at_T24 HR0.out x9_2 p190 q190
                              obtain rfl : ad188 = ad190 := (by injection e190)
                              replace hx190_0 := (HB.out.cell (World.block_lt_of_cell? w _ hx190_0)).trans hx190_0
                              replace hx190_1 := (HB.out.cell (World.block_lt_of_cell? w _ hx190_1)).trans hx190_1
                              replace hx190_2 := (HB.out.cell (World.block_lt_of_cell? w _ hx190_2)).trans hx190_2
                              replace hx190_3 := (HB.out.cell (World.block_lt_of_cell? w _ hx190_3)).trans hx190_3
                              replace hx190_4 := (HB.out.cell (World.block_lt_of_cell? w _ hx190_4)).trans hx190_4
                              replace p190 := eq_true p190
                              replace q190 := eq_true q190
                              try go_wp2_with (first | (go_at_call 31; (with_reducible refine (chargeparkref16_End.calls ((rd_T24 l0 x9_2).f0) ((rd_T24 l0 x9_2).f1) ((rd_T24 l0 x9_2).f2) ((rd_T24 l0 x9_2).f3) ((rd_T24 l0 x9_2).f4) t191 _ A24.out).mono ?_); rintro e w30 ⟨rfl, hb⟩; have n0_ := Aside0.mk (Kd.R_below (by (with_reducible repeat (first | apply Kd.R_alloc | apply Kd.R_drewN | apply Kd.R_drew)); exact HO_8.out) hb); have n1_ := Aside0.mk (below_step (by repeat (first | (with_reducible first | exact HB.out | apply below_alloc | apply pw_below_drewN | apply below_drew1) | exact HB.out)) hb); clear HO_8; clear HB; have HO_8 := n0_; have HB := n1_; clear n0_ n1_; (try clear hb); (try clear hb2); (try clear hk); (try clear hi)))
                              have n0_ := Aside0.mk (Kd.R_drew HO_8.out)
                              have n1_ := Aside0.mk (below_drew1 HB.out)
                              clear HO_8
                              clear HB
                              have HO_8 := n0_
                              have HB := n1_
                              clear n0_ n1_
                              have p192 : 0 ≤ (x9_2 : Int) := of_decide_eq_true (by first | (with_reducible assumption) | assumption)
                              have q192 : x9_2 < (l0.length : Int) := of_decide_eq_true (by first | (with_reducible assumption) | assumption)
                              obtain ⟨ad192, e192, hx192_0, hx192_1, hx192_2, hx192_3, hx192_4⟩ := at_T24 HR0.out x9_2 p192 q192
                              have hw192_4 := hx192_4
                              have hw192_3 := hx192_3
                              have hw192_2 := hx192_2
                              have hw192_1 := hx192_1
                              have hw192_0 := hx192_0
                              obtain rfl : ad188 = ad192 := (by injection e192)
                              replace hx192_0 := (HB.out.cell (World.block_lt_of_cell? w _ hx192_0)).trans hx192_0
                              replace hx192_1 := (HB.out.cell (World.block_lt_of_cell? w _ hx192_1)).trans hx192_1
                              replace hx192_2 := (HB.out.cell (World.block_lt_of_cell? w _ hx192_2)).trans hx192_2
                              replace hx192_3 := (HB.out.cell (World.block_lt_of_cell? w _ hx192_3)).trans hx192_3
                              replace hx192_4 := (HB.out.cell (World.block_lt_of_cell? w _ hx192_4)).trans hx192_4
                              replace p192 := eq_true p192
                              replace q192 := eq_true q192
                              have p193 : 0 ≤ (x9_2 : Int) := of_decide_eq_true (by first | (with_reducible assumption) | assumption)
                              have q193 : x9_2 < (l0.length : Int) := of_decide_eq_true (by first | (with_reducible assumption) | assumption)
                              obtain ⟨ad193, e193, hx193_0, hx193_1, hx193_2, hx193_3, hx193_4⟩ := at_T24 HR0.out x9_2 p193 q193
                              have hw193_4 := hx193_4
                              have hw193_3 := hx193_3
                              have hw193_2 := hx193_2
                              have hw193_1 := hx193_1
                              have hw193_0 := hx193_0
                              obtain rfl : ad188 = ad193 := (by injection e193)
                              replace hx193_0 := (HB.out.cell (World.block_lt_of_cell? w _ hx193_0)).trans hx193_0
                              replace hx193_1 := (HB.out.cell (World.block_lt_of_cell? w _ hx193_1)).trans hx193_1
                              replace hx193_2 := (HB.out.cell (World.block_lt_of_cell? w _ hx193_2)).trans hx193_2
                              replace hx193_3 := (HB.out.cell (World.block_lt_of_cell? w _ hx193_3)).trans hx193_3
                              replace hx193_4 := (HB.out.cell (World.block_lt_of_cell? w _ hx193_4)).trans hx193_4
                              replace p193 := eq_true p193
                              replace q193 := eq_true q193
                              obtain ⟨Ao32, co32, eo32⟩ := Kd.R_slice HO_8.out
                              (first | subst eo32 | (injection eo32 with f1_ f2_ f3_; have f4_ := f1_.symm; have f5_ := f3_.symm; clear f1_ f2_ f3_; subst f4_; subst f5_))
                              have p194 : 0 ≤ (((rd_T24 l0 x9_2).f1) : Int) := of_decide_eq_true (by first | (with_reducible assumption) | assumption)
                              have q194 : ((rd_T24 l0 x9_2).f1) < (x8_2.length : Int) := of_decide_eq_true (by first | (with_reducible assumption) | assumption)
                              obtain ⟨ad194, e194, hx194_0⟩ := Kd.at_int (Kd.R_reads' HO_8.out).2.2 ((rd_T24 l0 x9_2).f1) p194 q194
                              cases e194
                              replace p194 := eq_true p194
                              replace q194 := eq_true q194
                              have p195 : 0 ≤ (x9_2 : Int) := of_decide_eq_true (by first | (with_reducible assumption) | assumption)
                              have q195 : x9_2 < (l0.length : Int) := of_decide_eq_true (by first | (with_reducible assumption) | assumption)
                              obtain ⟨ad195, e195, hx195_0, hx195_1, hx195_2, hx195_3, hx195_4⟩ := at_T24 HR0.out x9_2 p195 q195
                              have hw195_4 := hx195_4
                              have hw195_3 := hx195_3
                              have hw195_2 := hx195_2
                              have hw195_1 := hx195_1
                              have hw195_0 := hx195_0
                              obtain rfl : ad188 = ad195 := (by injection e195)
                              replace hx195_0 := (HB.out.cell (World.block_lt_of_cell? w _ hx195_0)).trans hx195_0
                              replace hx195_1 := (HB.out.cell (World.block_lt_of_cell? w _ hx195_1)).trans hx195_1
                              replace hx195_2 := (HB.out.cell (World.block_lt_of_cell? w _ hx195_2)).trans hx195_2
                              replace hx195_3 := (HB.out.cell (World.block_lt_of_cell? w _ hx195_3)).trans hx195_3
                              replace hx195_4 := (HB.out.cell (World.block_lt_of_cell? w _ hx195_4)).trans hx195_4
                              replace p195 := eq_true p195
                              replace q195 := eq_true q195
                              have p29 : 0 ≤ (((rd_T24 l0 x9_2).f1) : Int) := of_decide_eq_true (by first | (with_reducible assumption) | assumption)
                              have q29 : (((rd_T24 l0 x9_2).f1) : Int) < ((x8_2.length : Int) : Int) := of_decide_eq_true (by first | (with_reducible assumption) | assumption)
                              obtain ⟨go29, co29, eo29, gb29, gl29, cl29, HG29⟩ := Kd.R_form HO_8.out (by omega)
                              (first | cases eo29 | (injection eo29 with ea_ en_ ec_; (first | subst ea_ | (injection ea_ with ea_; subst ea_)); subst ec_; clear en_))
                              have GB29 := Aside0.mk gb29
                              have GG29 := Aside0.mk HG29
                              clear gb29 gl29 HG29
                              (first | simp only [add_plain] at hx194_0 | skip)
                              obtain ⟨hx29_0, hf29_0⟩ := Kd.R_celln 0 HO_8.out (((rd_T24 l0 x9_2).f1) : Int) p29 q29
                              replace p29 := eq_true p29
                              replace q29 := eq_true q29
                              have HP33 := Kd.R_putn HO_8.out (((rd_T24 l0 x9_2).f1) : Int) ji28
                              rw [← Ny196.out] at HP33
                              have HQ33 := Aside0.mk HP33
                              clear HP33
                              refine start_ (n := 22) (S := fun w' => w'.cell? (ad188.add ((x9_2).toNat * 5)) = some (.int .i64 ((rd_T24 l0 x9_2).f0)) ∧ w'.cell? ⟨(ad188.add ((x9_2).toNat * 5)).block, (ad188.add ((x9_2).toNat * 5)).off + 1, none⟩ = some (.int .i64 ((rd_T24 l0 x9_2).f1)) ∧ w'.cell? ⟨(ad188.add ((x9_2).toNat * 5)).block, (ad188.add ((x9_2).toNat * 5)).off + 2, none⟩ = some (.int .i64 ((rd_T24 l0 x9_2).f2)) ∧ w'.cell? ⟨(ad188.add ((x9_2).toNat * 5)).block, (ad188.add ((x9_2).toNat * 5)).off + 3, none⟩ = some (.int .i64 ((rd_T24 l0 x9_2).f3)) ∧ w'.cell? ⟨(ad188.add ((x9_2).toNat * 5)).block, (ad188.add ((x9_2).toNat * 5)).off + 4, none⟩ = some (.int .i64 ((rd_T24 l0 x9_2).f4)) ∧ w'.cell? (ad188.add ((x9_2).toNat * 5)) = some (.int .i64 ((rd_T24 l0 x9_2).f0)) ∧ w'.cell? ⟨(ad188.add ((x9_2).toNat * 5)).block, (ad188.add ((x9_2).toNat * 5)).off + 1, none⟩ = some (.int .i64 ((rd_T24 l0 x9_2).f1)) ∧ w'.cell? ⟨(ad188.add ((x9_2).toNat * 5)).block, (ad188.add ((x9_2).toNat * 5)).off + 2, none⟩ = some (.int .i64 ((rd_T24 l0 x9_2).f2)) ∧ w'.cell? ⟨(ad188.add ((x9_2).toNat * 5)).block, (ad188.add ((x9_2).toNat * 5)).off + 3, none⟩ = some (.int .i64 ((rd_T24 l0 x9_2).f3)) ∧ w'.cell? ⟨(ad188.add ((x9_2).toNat * 5)).block, (ad188.add ((x9_2).toNat * 5)).off + 4, none⟩ = some (.int .i64 ((rd_T24 l0 x9_2).f4)) ∧ w'.cell? ⟨go29, (((rd_T24 l0 x9_2).f1)).toNat, none⟩ = some (.int .i64 (rd x8_2 ((rd_T24 l0 x9_2).f1))) ∧ w'.cell? (ad188.add ((x9_2).toNat * 5)) = some (.int .i64 ((rd_T24 l0 x9_2).f0)) ∧ w'.cell? ⟨(ad188.add ((x9_2).toNat * 5)).block, (ad188.add ((x9_2).toNat * 5)).off + 1, none⟩ = some (.int .i64 ((rd_T24 l0 x9_2).f1)) ∧ w'.cell? ⟨(ad188.add ((x9_2).toNat * 5)).block, (ad188.add ((x9_2).toNat * 5)).off + 2, none⟩ = some (.int .i64 ((rd_T24 l0 x9_2).f2)) ∧ w'.cell? ⟨(ad188.add ((x9_2).toNat * 5)).block, (ad188.add ((x9_2).toNat * 5)).off + 3, none⟩ = some (.int .i64 ((rd_T24 l0 x9_2).f3)) ∧ w'.cell? ⟨(ad188.add ((x9_2).toNat * 5)).block, (ad188.add ((x9_2).toNat * 5)).off + 4, none⟩ = some (.int .i64 ((rd_T24 l0 x9_2).f4))) (ds := [21]) #[false, false, false, false, false, false, false, false, false, false, false, false, false, false, false, false, false, false, false, false, false, false] (by kernel_rfl) rfl rfl ⟨((HB.out.cell (World.block_lt_of_cell? w _ hw192_0)).trans hw192_0), ((HB.out.cell (World.block_lt_of_cell? w _ hw192_1)).trans hw192_1), ((HB.out.cell (World.block_lt_of_cell? w _ hw192_2)).trans hw192_2), ((HB.out.cell (World.block_lt_of_cell? w _ hw192_3)).trans hw192_3), ((HB.out.cell (World.block_lt_of_cell? w _ hw192_4)).trans hw192_4), ((HB.out.cell (World.block_lt_of_cell? w _ hw193_0)).trans hw193_0), ((HB.out.cell (World.block_lt_of_cell? w _ hw193_1)).trans hw193_1), ((HB.out.cell (World.block_lt_of_cell? w _ hw193_2)).trans hw193_2), ((HB.out.cell (World.block_lt_of_cell? w _ hw193_3)).trans hw193_3), ((HB.out.cell (World.block_lt_of_cell? w _ hw193_4)).trans hw193_4), hx194_0, ((HB.out.cell (World.block_lt_of_cell? w _ hw195_0)).trans hw195_0), ((HB.out.cell (World.block_lt_of_cell? w _ hw195_1)).trans hw195_1), ((HB.out.cell (World.block_lt_of_cell? w _ hw195_2)).trans hw195_2), ((HB.out.cell (World.block_lt_of_cell? w _ hw195_3)).trans hw195_3), ((HB.out.cell (World.block_lt_of_cell? w _ hw195_4)).trans hw195_4)⟩ (fun hHeld => ?_); refine with_tabW chargeparkref16_Alive.tab10 chargeparkref16_Alive.bits10 (fun HT_ HW_ => ?_)
                              generalize w30.drew = w31 at HO_8 HB GG29 HQ33 hf29_0 hx192_0 hx192_1 hx192_2 hx192_3 hx192_4 hx193_0 hx193_1 hx193_2 hx193_3 hx193_4 hx194_0 hx195_0 hx195_1 hx195_2 hx195_3 hx195_4 hx29_0 hHeld ⊢
                              refine pure_ (i := 0) (N := some 60) (v := ?_) (a' := ?_) #[true, false, false, false, false, false, false, false, false, false, false, false, false, false, false, false, false, false, false, false, false, false] rfl rfl (any_of HT_.out (by kernel_rfl)) (fun _ _ _ h => h) (Or.inl ⟨by rfl, ?_⟩) ?_ ?_
                              rotate_left
                              · intro w'
                                go_simp
                                with_reducible rfl
                              rotate_left
                              · simp only [Act.put, List.setIfInBounds_toArray, List.set_cons_zero, List.set_cons_succ, i64_w, i32_w]
                                rfl
                              refine pure_ (i := 1) (N := some 61) (v := ?_) (a' := ?_) #[true, true, false, false, false, false, false, false, false, false, false, false, false, false, false, false, false, false, false, false, false, false] rfl rfl (any_of HT_.out (by kernel_rfl)) (fun _ _ _ h => h) (Or.inl ⟨by rfl, ?_⟩) ?_ ?_
                              rotate_left
                              · intro w'
                                go_simp
                                with_reducible rfl
                              rotate_left
                              · simp only [Act.put, List.setIfInBounds_toArray, List.set_cons_zero, List.set_cons_succ, i64_w, i32_w]
                                rfl
                              refine pure_ (i := 2) (N := some 62) (v := ?_) (a' := ?_) #[true, true, true, false, false, false, false, false, false, false, false, false, false, false, false, false, false, false, false, false, false, false] rfl rfl (any_of HT_.out (by kernel_rfl)) (fun _ _ _ h => h) (Or.inl ⟨by rfl, ?_⟩) ?_ ?_
                              rotate_left
                              · intro w'
                                go_simp
                                with_reducible rfl
                              rotate_left
                              · simp only [Act.put, List.setIfInBounds_toArray, List.set_cons_zero, List.set_cons_succ, i64_w, i32_w]
                                rfl
                              refine pure_ (i := 3) (N := some 63) (v := ?_) (a' := ?_) #[true, true, true, true, false, false, false, false, false, false, false, false, false, false, false, false, false, false, false, false, false, false] rfl rfl (any_of HT_.out (by kernel_rfl)) (fun _ _ _ h => h) (Or.inl ⟨by rfl, ?_⟩) ?_ ?_
                              rotate_left
                              · intro w'
                                go_simp
                                with_reducible rfl
                              rotate_left
                              · simp only [Act.put, List.setIfInBounds_toArray, List.set_cons_zero, List.set_cons_succ, i64_w, i32_w]
                                rfl
                              refine pure_ (i := 4) (N := some 64) (v := ?_) (a' := ?_) #[true, true, true, true, true, false, false, false, false, false, false, false, false, false, false, false, false, false, false, false, false, false] rfl rfl (any_of HT_.out (by kernel_rfl)) (fun _ _ _ h => h) (Or.inl ⟨by rfl, ?_⟩) ?_ ?_
                              rotate_left
                              · intro w'
                                go_simp
                                with_reducible rfl
                              rotate_left
                              · simp only [Act.put, List.setIfInBounds_toArray, List.set_cons_zero, List.set_cons_succ, i64_w, i32_w]
                                rfl
                              refine pure_ (i := 6) (N := some 66) (v := ?_) (a' := ?_) #[true, true, true, true, true, false, true, false, false, false, false, false, false, false, false, false, false, false, false, false, false, false] rfl rfl (any_of HT_.out (by kernel_rfl)) (fun _ _ _ h => h) (Or.inl ⟨by rfl, ?_⟩) ?_ ?_
                              rotate_left
                              · intro w'
                                go_simp
                                with_reducible rfl
                              rotate_left
                              · simp only [Act.put, List.setIfInBounds_toArray, List.set_cons_zero, List.set_cons_succ, i64_w, i32_w]
                                rfl
                              refine pure_ (i := 7) (N := some 67) (v := ?_) (a' := ?_) #[true, true, true, true, true, false, true, true, false, false, false, false, false, false, false, false, false, false, false, false, false, false] rfl rfl (any_of HT_.out (by kernel_rfl)) (fun _ _ _ h => h) (Or.inl ⟨by rfl, ?_⟩) ?_ ?_
                              rotate_left
                              · intro w'
                                go_simp
                                with_reducible rfl
                              rotate_left
                              · simp only [Act.put, List.setIfInBounds_toArray, List.set_cons_zero, List.set_cons_succ, i64_w, i32_w]
                                rfl
                              refine pure_ (i := 8) (N := some 68) (v := ?_) (a' := ?_) #[true, true, true, true, true, false, true, true, true, false, false, false, false, false, false, false, false, false, false, false, false, false] rfl rfl (any_of HT_.out (by kernel_rfl)) (fun _ _ _ h => h) (Or.inl ⟨by rfl, ?_⟩) ?_ ?_
                              rotate_left
                              · intro w'
                                go_simp
                                with_reducible rfl
                              rotate_left
                              · simp only [Act.put, List.setIfInBounds_toArray, List.set_cons_zero, List.set_cons_succ, i64_w, i32_w]
                                rfl
                              refine pure_ (i := 9) (N := some 69) (v := ?_) (a' := ?_) #[true, true, true, true, true, false, true, true, true, true, false, false, false, false, false, false, false, false, false, false, false, false] rfl rfl (any_of HT_.out (by kernel_rfl)) (fun _ _ _ h => h) (Or.inl ⟨by rfl, ?_⟩) ?_ ?_
                              rotate_left
                              · intro w'
                                go_simp
                                with_reducible rfl
                              rotate_left
                              · simp only [Act.put, List.setIfInBounds_toArray, List.set_cons_zero, List.set_cons_succ, i64_w, i32_w]
                                rfl
                              refine pure_ (i := 10) (N := some 70) (v := ?_) (a' := ?_) #[true, true, true, true, true, false, true, true, true, true, true, false, false, false, false, false, false, false, false, false, false, false] rfl rfl (any_of HT_.out (by kernel_rfl)) (fun _ _ _ h => h) (Or.inl ⟨by rfl, ?_⟩) ?_ ?_
                              rotate_left
                              · intro w'
                                go_simp
                                with_reducible rfl
                              rotate_left
                              · simp only [Act.put, List.setIfInBounds_toArray, List.set_cons_zero, List.set_cons_succ, i64_w, i32_w]
                                rfl
                              refine pure_ (i := 14) (N := some 74) (v := ?_) (a' := ?_) #[true, true, true, true, true, false, true, true, true, true, true, false, false, false, true, false, false, false, false, false, false, false] rfl rfl (any_of HT_.out (by kernel_rfl)) (fun _ _ _ h => h) (Or.inl ⟨by rfl, ?_⟩) ?_ ?_
                              rotate_left
                              · intro w'
                                go_simp
                                with_reducible rfl
                              rotate_left
                              · simp only [Act.put, List.setIfInBounds_toArray, List.set_cons_zero, List.set_cons_succ, i64_w, i32_w]
                                rfl
                              refine pure_ (i := 15) (N := some 75) (v := ?_) (a' := ?_) #[true, true, true, true, true, false, true, true, true, true, true, false, false, false, true, true, false, false, false, false, false, false] rfl rfl (any_of HT_.out (by kernel_rfl)) (fun _ _ _ h => h) (Or.inl ⟨by rfl, ?_⟩) ?_ ?_
                              rotate_left
                              · intro w'
                                go_simp
                                with_reducible rfl
                              rotate_left
                              · simp only [Act.put, List.setIfInBounds_toArray, List.set_cons_zero, List.set_cons_succ, i64_w, i32_w]
                                rfl
                              refine pure_ (i := 16) (N := some 76) (v := ?_) (a' := ?_) #[true, true, true, true, true, false, true, true, true, true, true, false, false, false, true, true, true, false, false, false, false, false] rfl rfl (any_of HT_.out (by kernel_rfl)) (fun _ _ _ h => h) (Or.inl ⟨by rfl, ?_⟩) ?_ ?_
                              rotate_left
                              · intro w'
                                go_simp
                                with_reducible rfl
                              rotate_left
                              · simp only [Act.put, List.setIfInBounds_toArray, List.set_cons_zero, List.set_cons_succ, i64_w, i32_w]
                                rfl
                              refine pure_ (i := 17) (N := some 77) (v := ?_) (a' := ?_) #[true, true, true, true, true, false, true, true, true, true, true, false, false, false, true, true, true, true, false, false, false, false] rfl rfl (any_of HT_.out (by kernel_rfl)) (fun _ _ _ h => h) (Or.inl ⟨by rfl, ?_⟩) ?_ ?_
                              rotate_left
                              · intro w'
                                go_simp
                                with_reducible rfl
                              rotate_left
                              · simp only [Act.put, List.setIfInBounds_toArray, List.set_cons_zero, List.set_cons_succ, i64_w, i32_w]
                                rfl
                              refine take_ (i := 5) (N := some 65) (v := ?_) (a' := ?_) #[true, true, true, true, true, true, true, true, true, true, true, false, false, false, true, true, true, true, false, false, false, false] rfl rfl (take_ofW HT_.out HW_.out (by kernel_rfl)) (fun _ _ _ h => h) (Or.inl ⟨by rfl, ?_⟩) hHeld ?_ ?_
                              rotate_left
                              · rintro w' ⟨s0, s1, s2, s3, s4, s5, s6, s7, s8, s9, s10, s11, s12, s13, s14, s15⟩
                                go_simp
                                with_reducible rfl
                              rotate_left
                              · simp only [Act.put, List.setIfInBounds_toArray, List.set_cons_zero, List.set_cons_succ, i64_w, i32_w]
                                rfl
                              refine take_ (i := 11) (N := some 71) (v := ?_) (a' := ?_) #[true, true, true, true, true, true, true, true, true, true, true, true, false, false, true, true, true, true, false, false, false, false] rfl rfl (take_ofW HT_.out HW_.out (by kernel_rfl)) (fun _ _ _ h => h) (Or.inl ⟨by rfl, ?_⟩) hHeld ?_ ?_
                              rotate_left
                              · rintro w' ⟨s0, s1, s2, s3, s4, s5, s6, s7, s8, s9, s10, s11, s12, s13, s14, s15⟩
                                go_simp
                                with_reducible rfl
                              rotate_left
                              · simp only [Act.put, List.setIfInBounds_toArray, List.set_cons_zero, List.set_cons_succ, i64_w, i32_w]
                                rfl
                              refine pure_ (i := 12) (N := some 72) (v := ?_) (a' := ?_) #[true, true, true, true, true, true, true, true, true, true, true, true, true, false, true, true, true, true, false, false, false, false] rfl rfl (any_of HT_.out (by kernel_rfl)) (fun _ _ _ h => h) (Or.inl ⟨by rfl, ?_⟩) ?_ ?_
                              rotate_left
                              · intro w'
                                go_simp
                                with_reducible rfl
                              rotate_left
                              · simp only [Act.put, List.setIfInBounds_toArray, List.set_cons_zero, List.set_cons_succ, i64_w, i32_w]
                                rfl
                              refine take_ (i := 13) (N := some 73) (v := ?_) (a' := ?_) #[true, true, true, true, true, true, true, true, true, true, true, true, true, true, true, true, true, true, false, false, false, false] rfl rfl (take_ofW HT_.out HW_.out (by kernel_rfl)) (fun _ _ _ h => h) (Or.inl ⟨by rfl, ?_⟩) hHeld ?_ ?_
                              rotate_left
                              · rintro w' ⟨s0, s1, s2, s3, s4, s5, s6, s7, s8, s9, s10, s11, s12, s13, s14, s15⟩
                                go_simp
                                with_reducible rfl
                              rotate_left
                              · simp only [Act.put, List.setIfInBounds_toArray, List.set_cons_zero, List.set_cons_succ, i64_w, i32_w]
                                rfl
                              refine take_ (i := 18) (N := some 78) (v := ?_) (a' := ?_) #[true, true, true, true, true, true, true, true, true, true, true, true, true, true, true, true, true, true, true, false, false, false] rfl rfl (take_ofW HT_.out HW_.out (by kernel_rfl)) (fun _ _ _ h => h) (Or.inl ⟨by rfl, ?_⟩) hHeld ?_ ?_
                              rotate_left
                              · rintro w' ⟨s0, s1, s2, s3, s4, s5, s6, s7, s8, s9, s10, s11, s12, s13, s14, s15⟩
                                go_simp
                                with_reducible rfl
                              rotate_left
                              · simp only [Act.put, List.setIfInBounds_toArray, List.set_cons_zero, List.set_cons_succ, i64_w, i32_w]
                                rfl
                              refine pure_ (i := 19) (N := some 79) (v := ?_) (a' := ?_) #[true, true, true, true, true, true, true, true, true, true, true, true, true, true, true, true, true, true, true, true, false, false] rfl rfl (any_of HT_.out (by kernel_rfl)) (fun _ _ _ h => h) (Or.inl ⟨by rfl, ?_⟩) ?_ ?_
                              rotate_left
                              · intro w'
                                go_simp
                                with_reducible rfl
                              rotate_left
                              · simp only [Act.put, List.setIfInBounds_toArray, List.set_cons_zero, List.set_cons_succ, i64_w, i32_w]
                                rfl
                              refine pure_ (i := 20) (N := some 80) (v := ?_) (a' := ?_) #[true, true, true, true, true, true, true, true, true, true, true, true, true, true, true, true, true, true, true, true, true, false] rfl rfl (any_of HT_.out (by kernel_rfl)) (fun _ _ _ h => h) (Or.inl ⟨by rfl, ?_⟩) ?_ ?_
                              rotate_left
                              · intro w'
                                go_simp
                                with_reducible rfl
                              rotate_left
                              · simp only [Act.put, List.setIfInBounds_toArray, List.set_cons_zero, List.set_cons_succ, i64_w, i32_w]
                                rfl
                              refine last_ (i := 21) (N := none) #[true, true, true, true, true, true, true, true, true, true, true, true, true, true, true, true, true, true, true, true, true, true] rfl rfl (one_of HT_.out (by kernel_rfl)) (by decide) (fun K hK => ?_)
                              refine skip_ (w1 := ?_) (by rfl) rfl ?_ ?_
                              rotate_left
                              · go_simp
                                rfl
                              refine hK.out _ _ ?_
                              clear hK K
                              refine done_ (done_of HT_.out (by kernel_rfl)) ?_
                              try go_wp2
                              go_roundg k2
                              case measure => have := HJ3.out; have := HK2.out; omega
                              case rel => exact ⟨(y196), (wrap64 (x9_2 + 1)), (by first | rfl | (simp; done) | (simp [*]; done)), H', ⟨by have := HJ3.out; have := HK2.out; omega⟩, ⟨by (with_reducible repeat (first | apply Kd.R_alloc | apply Kd.R_drewN | apply Kd.R_drew)); exact HQ33.out⟩, ⟨by repeat (first | (with_reducible first | exact HB.out | apply below_alloc | apply pw_below_drewN | apply below_drew1 | refine below_set ?_ GB29.out) | exact HB.out)⟩⟩
                            · rw [if_neg c27] at H
                              exact absurd H (by simp)
                          · rw [if_neg c26] at H
                            exact absurd H (by simp)
                        · rw [if_neg c25] at H
                          have c25b0 : decide (a2 < t191) = false := decide_eq_false c25
                          clear c25
                          have H' := Aside0.mk H
                          clear H
                          have p188 : 0 ≤ (x9_2 : Int) := of_decide_eq_true (by first | (with_reducible assumption) | assumption)
                          have q188 : x9_2 < (l0.length : Int) := of_decide_eq_true (by first | (with_reducible assumption) | assumption)
                          obtain ⟨ad188, e188, hx188_0, hx188_1, hx188_2, hx188_3, hx188_4⟩ := at_T24 HR0.out x9_2 p188 q188
                          cases e188
                          replace hx188_0 := (HB.out.cell (World.block_lt_of_cell? w _ hx188_0)).trans hx188_0
                          replace hx188_1 := (HB.out.cell (World.block_lt_of_cell? w _ hx188_1)).trans hx188_1
                          replace hx188_2 := (HB.out.cell (World.block_lt_of_cell? w _ hx188_2)).trans hx188_2
                          replace hx188_3 := (HB.out.cell (World.block_lt_of_cell? w _ hx188_3)).trans hx188_3
                          replace hx188_4 := (HB.out.cell (World.block_lt_of_cell? w _ hx188_4)).trans hx188_4
                          replace p188 := eq_true p188
                          replace q188 := eq_true q188
                          have p189 : 0 ≤ (x9_2 : Int) := of_decide_eq_true (by first | (with_reducible assumption) | assumption)
                          have q189 : x9_2 < (l0.length : Int) := of_decide_eq_true (by first | (with_reducible assumption) | assumption)
                          obtain ⟨ad189, e189, hx189_0, hx189_1, hx189_2, hx189_3, hx189_4⟩ := at_T24 HR0.out x9_2 p189 q189
                          obtain rfl : ad188 = ad189 := (by injection e189)
                          replace hx189_0 := (HB.out.cell (World.block_lt_of_cell? w _ hx189_0)).trans hx189_0
                          replace hx189_1 := (HB.out.cell (World.block_lt_of_cell? w _ hx189_1)).trans hx189_1
                          replace hx189_2 := (HB.out.cell (World.block_lt_of_cell? w _ hx189_2)).trans hx189_2
                          replace hx189_3 := (HB.out.cell (World.block_lt_of_cell? w _ hx189_3)).trans hx189_3
                          replace hx189_4 := (HB.out.cell (World.block_lt_of_cell? w _ hx189_4)).trans hx189_4
                          replace p189 := eq_true p189
                          replace q189 := eq_true q189
                          have p190 : 0 ≤ (x9_2 : Int) := of_decide_eq_true (by first | (with_reducible assumption) | assumption)
                          have q190 : x9_2 < (l0.length : Int) := of_decide_eq_true (by first | (with_reducible assumption) | assumption)
                          obtain ⟨ad190, e190, hx190_0, hx190_1, hx190_2, hx190_3, hx190_4⟩ := at_T24 HR0.out x9_2 p190 q190
                          obtain rfl : ad188 = ad190 := (by injection e190)
                          replace hx190_0 := (HB.out.cell (World.block_lt_of_cell? w _ hx190_0)).trans hx190_0
                          replace hx190_1 := (HB.out.cell (World.block_lt_of_cell? w _ hx190_1)).trans hx190_1
                          replace hx190_2 := (HB.out.cell (World.block_lt_of_cell? w _ hx190_2)).trans hx190_2
                          replace hx190_3 := (HB.out.cell (World.block_lt_of_cell? w _ hx190_3)).trans hx190_3
                          replace hx190_4 := (HB.out.cell (World.block_lt_of_cell? w _ hx190_4)).trans hx190_4
                          replace p190 := eq_true p190
                          replace q190 := eq_true q190
                          go_wp2_with (first | (go_at_call 31; (with_reducible refine (chargeparkref16_End.calls ((rd_T24 l0 x9_2).f0) ((rd_T24 l0 x9_2).f1) ((rd_T24 l0 x9_2).f2) ((rd_T24 l0 x9_2).f3) ((rd_T24 l0 x9_2).f4) t191 _ A24.out).mono ?_); rintro e w34 ⟨rfl, hb⟩; have n0_ := Aside0.mk (Kd.R_below (by (with_reducible repeat (first | apply Kd.R_alloc | apply Kd.R_drewN | apply Kd.R_drew)); exact HO_8.out) hb); have n1_ := Aside0.mk (below_step (by repeat (first | (with_reducible first | exact HB.out | apply below_alloc | apply pw_below_drewN | apply below_drew1) | exact HB.out)) hb); clear HO_8; clear HB; have HO_8 := n0_; have HB := n1_; clear n0_ n1_; (try clear hb); (try clear hb2); (try clear hk); (try clear hi)))
                          go_roundg k2
                          case measure => have := HJ3.out; have := HK2.out; omega
                          case rel => exact ⟨(x8_2), (wrap64 (x9_2 + 1)), (by first | rfl | (simp; done) | (simp [*]; done)), H', ⟨by have := HJ3.out; have := HK2.out; omega⟩, ⟨by (with_reducible repeat (first | apply Kd.R_alloc | apply Kd.R_drewN | apply Kd.R_drew)); exact HO_8.out⟩, ⟨by repeat (first | (with_reducible first | exact HB.out | apply below_alloc | apply pw_below_drewN | apply below_drew1) | exact HB.out)⟩⟩
                      · rw [if_neg c23] at H
                        have c23b0 : decide (((rd_T24 l0 x9_2).f3) ≤ a2) = false := decide_eq_false c23
                        clear c23
                        have H' := Aside0.mk H
                        clear H
                        have p188 : 0 ≤ (x9_2 : Int) := of_decide_eq_true (by first | (with_reducible assumption) | assumption)
                        have q188 : x9_2 < (l0.length : Int) := of_decide_eq_true (by first | (with_reducible assumption) | assumption)
                        obtain ⟨ad188, e188, hx188_0, hx188_1, hx188_2, hx188_3, hx188_4⟩ := at_T24 HR0.out x9_2 p188 q188
                        cases e188
                        replace hx188_0 := (HB.out.cell (World.block_lt_of_cell? w _ hx188_0)).trans hx188_0
                        replace hx188_1 := (HB.out.cell (World.block_lt_of_cell? w _ hx188_1)).trans hx188_1
                        replace hx188_2 := (HB.out.cell (World.block_lt_of_cell? w _ hx188_2)).trans hx188_2
                        replace hx188_3 := (HB.out.cell (World.block_lt_of_cell? w _ hx188_3)).trans hx188_3
                        replace hx188_4 := (HB.out.cell (World.block_lt_of_cell? w _ hx188_4)).trans hx188_4
                        replace p188 := eq_true p188
                        replace q188 := eq_true q188
                        have p189 : 0 ≤ (x9_2 : Int) := of_decide_eq_true (by first | (with_reducible assumption) | assumption)
                        have q189 : x9_2 < (l0.length : Int) := of_decide_eq_true (by first | (with_reducible assumption) | assumption)
                        obtain ⟨ad189, e189, hx189_0, hx189_1, hx189_2, hx189_3, hx189_4⟩ := at_T24 HR0.out x9_2 p189 q189
                        obtain rfl : ad188 = ad189 := (by injection e189)
                        replace hx189_0 := (HB.out.cell (World.block_lt_of_cell? w _ hx189_0)).trans hx189_0
                        replace hx189_1 := (HB.out.cell (World.block_lt_of_cell? w _ hx189_1)).trans hx189_1
                        replace hx189_2 := (HB.out.cell (World.block_lt_of_cell? w _ hx189_2)).trans hx189_2
                        replace hx189_3 := (HB.out.cell (World.block_lt_of_cell? w _ hx189_3)).trans hx189_3
                        replace hx189_4 := (HB.out.cell (World.block_lt_of_cell? w _ hx189_4)).trans hx189_4
                        replace p189 := eq_true p189
                        replace q189 := eq_true q189
                        go_wp2
                        go_roundg k2
                        case measure => have := HJ3.out; have := HK2.out; omega
                        case rel => exact ⟨(x8_2), (wrap64 (x9_2 + 1)), (by first | rfl | (simp; done) | (simp [*]; done)), H', ⟨by have := HJ3.out; have := HK2.out; omega⟩, ⟨by (with_reducible repeat (first | apply Kd.R_alloc | apply Kd.R_drewN | apply Kd.R_drew)); exact HO_8.out⟩, ⟨by repeat (first | (with_reducible first | exact HB.out | apply below_alloc | apply pw_below_drewN | apply below_drew1) | exact HB.out)⟩⟩
                  · rw [if_neg c21] at H
                    exact absurd H (by simp)
                · rw [if_neg c20] at H
                  have c20b0 : decide (x9_2 < (l0.length : Int)) = false := decide_eq_false c20
                  clear c20
                  simp only [Option.some.injEq, Prod.mk.injEq] at H
                  obtain ⟨rfl, rfl⟩ := H
                  go_wp2
                  go_ret2
                  exact ⟨_, by first | rfl | (simp [errW_none, errW_some] <;> rfl) | (simp [*, errW_none, errW_some] <;> rfl), by (with_reducible repeat (first | apply Kd.R_alloc | apply Kd.R_drewN | apply Kd.R_drew)); exact HO_8.out, by repeat (first | (with_reducible first | exact HB.out | apply below_alloc | apply pw_below_drewN | apply below_drew1) | exact HB.out)⟩
          · rw [if_neg c17] at H
            exact absurd H (by simp)
        · rw [if_neg c16] at H
          exact absurd H (by simp)


end Go.Proofs.Ytpngiddelhcepaa.PAll
