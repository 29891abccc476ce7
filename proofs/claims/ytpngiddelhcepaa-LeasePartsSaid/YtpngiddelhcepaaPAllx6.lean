-- Written by a program of this session (xprint.py, over the kit's print.py), with contracts proved by hand.
import Derived.Test.YtpngiddelhcepaaPAllx0
import Derived.Test.YtpngiddelhcepaaPAllx1
import Derived.Test.YtpngiddelhcepaaPAllx2
import Derived.Test.YtpngiddelhcepaaPAllx3
import Derived.Test.YtpngiddelhcepaaPAllx4
import Derived.Test.YtpngiddelhcepaaPAllx5
namespace Go.Proofs.Ytpngiddelhcepaa.PAll
open Go.RowKit Go.Proofs.Ytpngiddelhcepaa.Open Go.Proofs.YtpngiddelhcepaaW.PrintWords Go.Proofs.YtpngiddelhcepaaW.PrintLast Go.Proofs.YtpngiddelhcepaaW.PrintMore
attribute [local go_sem] max2_int min2_int max_two min_two max_three min_three max_four min_four   -- for this text's walks alone
set_option linter.unusedVariables false
set_option linter.unusedSimpArgs false

attribute [local go_sem high] eqA24
/-! ### chargeparkref16_Expire: function 16 -/
mutual
def chargeparkref16_Expire.j0 : Nat → List (S24) → Int → Bool → Option ((List (S24)) × Int)
  | 0, _, _, _ => none
  | k + 1, x0, x1, x18 => if x18 = true then (some (([] : List (S24)), 1)) else (chargeparkref16_Expire.l0 k x0 x1 ([] : List (S24)) 0)
def chargeparkref16_Expire.l0 : Nat → List (S24) → Int → List (S24) → Int → Option ((List (S24)) × Int)
  | 0, _, _, _, _ => none
  | k + 1, x0, x1, x6, x7 => if x7 < (x0.length : Int) then (if 0 ≤ x7 then ((chargeparkref16_End.f ((rd_T24 x0 x7).f0) ((rd_T24 x0 x7).f1) ((rd_T24 x0 x7).f2) ((rd_T24 x0 x7).f3) ((rd_T24 x0 x7).f4)).bind fun t199 => (if t199 > x1 then (if x6.length < 3518437208883 then (chargeparkref16_Expire.l0 k x0 x1 (x6 ++ [(⟨(rd_T24 x0 x7).f0, (rd_T24 x0 x7).f1, (rd_T24 x0 x7).f2, (rd_T24 x0 x7).f3, (rd_T24 x0 x7).f4⟩ : S24)]) (wrap64 (x7 + 1))) else (none)) else (chargeparkref16_Expire.l0 k x0 x1 x6 (wrap64 (x7 + 1))))) else (none)) else (some (x6, 0))
end
def chargeparkref16_Expire.f (k : Nat) (l0 : List (S24)) (a1 : Int) : Option ((List (S24)) × Int) := (chargeparkref16_Valid.f k l0).bind fun t197 => (if t197 = true then (if a1 < 0 then (chargeparkref16_Expire.j0 k l0 a1 true) else (chargeparkref16_Expire.j0 k l0 a1 (decide (a1 > 1100000)))) else (chargeparkref16_Expire.j0 k l0 a1 true))
theorem chargeparkref16_Expire.mono_l : ∀ k, (∀ y0 y1 y2, LeO (chargeparkref16_Expire.j0 k y0 y1 y2) (chargeparkref16_Expire.j0 (k + 1) y0 y1 y2)) ∧ (∀ y0 y1 y2 y3, LeO (chargeparkref16_Expire.l0 k y0 y1 y2 y3) (chargeparkref16_Expire.l0 (k + 1) y0 y1 y2 y3))
  | 0 => ⟨fun _ _ _ r h => by simp [chargeparkref16_Expire.j0] at h, fun _ _ _ _ r h => by simp [chargeparkref16_Expire.l0] at h⟩
  | k + 1 => by
    obtain ⟨ih0, ih1⟩ := chargeparkref16_Expire.mono_l k
    refine ⟨?_, ?_⟩
    · intro y0 y1 y2
      unfold chargeparkref16_Expire.j0
      repeat' first
      | (with_reducible exact ih0 _ _ _)
      | (with_reducible exact ih1 _ _ _ _)
      | (with_reducible exact chargeparkref16_Valid.mono _ _)
      | (with_reducible exact LeO.refl _)
      | (with_reducible exact LeO.none _)
      | (with_reducible refine LeO.ite ?_ ?_)
      | (with_reducible refine LeO.bind ?_ (fun _ => ?_))
      | exact ih0 _ _ _
      | exact ih1 _ _ _ _
      | exact chargeparkref16_Valid.mono _ _
      | exact LeO.none _
      | refine LeO.ite ?_ ?_
      | refine LeO.bind ?_ (fun _ => ?_)
    · intro y0 y1 y2 y3
      unfold chargeparkref16_Expire.l0
      repeat' first
      | (with_reducible exact ih0 _ _ _)
      | (with_reducible exact ih1 _ _ _ _)
      | (with_reducible exact chargeparkref16_Valid.mono _ _)
      | (with_reducible exact LeO.refl _)
      | (with_reducible exact LeO.none _)
      | (with_reducible refine LeO.ite ?_ ?_)
      | (with_reducible refine LeO.bind ?_ (fun _ => ?_))
      | exact ih0 _ _ _
      | exact ih1 _ _ _ _
      | exact chargeparkref16_Valid.mono _ _
      | exact LeO.none _
      | refine LeO.ite ?_ ?_
      | refine LeO.bind ?_ (fun _ => ?_)
theorem chargeparkref16_Expire.mono : ∀ a0 a1 k, LeO (chargeparkref16_Expire.f k a0 a1) (chargeparkref16_Expire.f (k + 1) a0 a1) := by
  intro a0 a1 k
  obtain ⟨ih0, ih1⟩ := chargeparkref16_Expire.mono_l k
  unfold chargeparkref16_Expire.f
  repeat' first
      | (with_reducible exact ih0 _ _ _)
      | (with_reducible exact ih1 _ _ _ _)
      | (with_reducible exact chargeparkref16_Valid.mono _ _)
      | (with_reducible exact LeO.refl _)
      | (with_reducible exact LeO.none _)
      | (with_reducible refine LeO.ite ?_ ?_)
      | (with_reducible refine LeO.bind ?_ (fun _ => ?_))
      | exact ih0 _ _ _
      | exact ih1 _ _ _ _
      | exact chargeparkref16_Valid.mono _ _
      | exact LeO.none _
      | refine LeO.ite ?_ ?_
      | refine LeO.bind ?_ (fun _ => ?_)
set_option maxHeartbeats 8000000 in
set_option maxRecDepth 100000 in
theorem chargeparkref16_Expire.calls (k : Nat) (A0 : Option Addr) (c0 : Nat) (l0 : List (S24)) (a1 : Int) (r1 : List (S24)) (r2 : Int) (w : World) (hr0 : Kd.C k24 w A0 l0.length l0) (hc0 : l0.length ≤ c0) (h : chargeparkref16_Expire.f k l0 a1 = some (r1, r2)) :
    Calls Try.prog 16 #[.slice A0 l0.length c0, .int .i64 a1] w fun e w' => ∃ v0_ : Value, e = .returned (.tuple #[v0_, .int .i64 r2]) ∧ Kd.R k24 24 w' w.heap.size (fun _ => True) v0_ r1 ∧ Below w.heap.size w w' := by
  have hu24 := Try.underlying24
  have HR0 := Aside0.mk hr0
  have HC0 := Aside0.mk hc0
  clear hr0 hc0
  have HB := Aside0.mk (Below.refl w.heap.size w)
  have H : ((chargeparkref16_Valid.f k l0).bind fun t197 => (if t197 = true then (if a1 < 0 then (chargeparkref16_Expire.j0 k l0 a1 true) else (chargeparkref16_Expire.j0 k l0 a1 (decide (a1 > 1100000)))) else (chargeparkref16_Expire.j0 k l0 a1 true))) = some (r1, r2) := h
  clear h
  have HC3 := Aside0.mk H
  clear H
  go_enter Try.func16, Try.ntmps16
  go_upto_region 1 with (fail)
  go_cut [18] (fun v18 wc => ∃ (kq : Nat) (x18_2 : Bool), v18 = .bool x18_2 ∧ Aside0 (chargeparkref16_Expire.j0 kq l0 a1 x18_2 = some (r1, r2)) ∧ Aside0 (kq ≤ k) ∧ Aside0 (Below w.heap.size w wc))
  case first =>
    have H := HC3.out
    clear HC3
    replace H := Option.bind_eq_some_iff.mp H
    obtain ⟨t197, A40, H⟩ := H
    replace H : (if t197 = true then (if a1 < 0 then (chargeparkref16_Expire.j0 k l0 a1 true) else (chargeparkref16_Expire.j0 k l0 a1 (decide (a1 > 1100000)))) else (chargeparkref16_Expire.j0 k l0 a1 true)) = some (r1, r2) := H
    have A4 := Aside0.mk A40
    clear A40
    by_cases c5 : t197 = true
    · subst c5
      have H1 : (if a1 < 0 then (chargeparkref16_Expire.j0 k l0 a1 true) else (chargeparkref16_Expire.j0 k l0 a1 (decide (a1 > 1100000)))) = some (r1, r2) := by rw [if_pos rfl] at H; exact H
      clear H
      have H := H1
      clear H1
      by_cases c6 : a1 < 0
      · rw [if_pos c6] at H
        have c6b0 : decide (a1 < 0) = true := decide_eq_true c6
        clear c6
        (first | rw [c6b0] | (simp only [i64_w, i32_w]; rw [c6b0]) | skip)
        have H' := Aside0.mk H
        clear H
        go_wp2_with (first | ((with_reducible refine gate_callee (f := 18) rfl ?_); refine goesL_ (some 9) rfl rfl Try.func18 (by kernel_rfl) rfl #[.slice A0 l0.length c0] rfl (by (try simp only [List.map_toArray, List.map_cons, List.map_nil]); first | done | rfl | (simp only [List.length_drop, List.length_take]; rfl)) ?_; (with_reducible refine (chargeparkref16_Valid.calls k _ _ l0 true _ ?side1 ?side2 A4.out).mono ?_); (case side1 => repeat (first | exact (Kd.C_below HR0.out HB.out) | (with_reducible refine Kd.C_alloc ?_ _) | (with_reducible refine Kd.C_drewN ?_ _) | (with_reducible refine Kd.C_drew ?_))); (case side2 => exact HC0.out); rintro e w7 ⟨rfl, hb⟩; refine ⟨_, rfl, ?_⟩; have n0_ := Aside0.mk (below_step (by repeat (first | (with_reducible first | exact HB.out | apply below_alloc | apply pw_below_drewN | apply below_drew1) | exact HB.out)) hb); clear HB; have HB := n0_; clear n0_; (try clear hb); (try clear hb2); (try clear hk); (try clear hi)))
        go_meet
        case rel => exact ⟨_, (true), (by first | rfl | (simp; done) | (simp [*]; done)), H', ⟨by first | omega | exact Nat.le_refl _⟩, ⟨by repeat (first | (with_reducible first | exact HB.out | apply below_alloc | apply pw_below_drewN | apply below_drew1) | exact HB.out)⟩⟩
      · rw [if_neg c6] at H
        have c6b0 : decide (a1 < 0) = false := decide_eq_false c6
        clear c6
        (first | rw [c6b0] | (simp only [i64_w, i32_w]; rw [c6b0]) | skip)
        have H' := Aside0.mk H
        clear H
        go_wp2_with (first | ((with_reducible refine gate_callee (f := 18) rfl ?_); refine goesL_ (some 9) rfl rfl Try.func18 (by kernel_rfl) rfl #[.slice A0 l0.length c0] rfl (by (try simp only [List.map_toArray, List.map_cons, List.map_nil]); first | done | rfl | (simp only [List.length_drop, List.length_take]; rfl)) ?_; (with_reducible refine (chargeparkref16_Valid.calls k _ _ l0 true _ ?side1 ?side2 A4.out).mono ?_); (case side1 => repeat (first | exact (Kd.C_below HR0.out HB.out) | (with_reducible refine Kd.C_alloc ?_ _) | (with_reducible refine Kd.C_drewN ?_ _) | (with_reducible refine Kd.C_drew ?_))); (case side2 => exact HC0.out); rintro e w8 ⟨rfl, hb⟩; refine ⟨_, rfl, ?_⟩; have n0_ := Aside0.mk (below_step (by repeat (first | (with_reducible first | exact HB.out | apply below_alloc | apply pw_below_drewN | apply below_drew1) | exact HB.out)) hb); clear HB; have HB := n0_; clear n0_; (try clear hb); (try clear hb2); (try clear hk); (try clear hi)))
        go_meet
        case rel => exact ⟨_, (decide (a1 > 1100000)), (by first | rfl | (simp; done) | (simp [*]; done)), H', ⟨by first | omega | exact Nat.le_refl _⟩, ⟨by repeat (first | (with_reducible first | exact HB.out | apply below_alloc | apply pw_below_drewN | apply below_drew1) | exact HB.out)⟩⟩
    · replace c5 := Bool.eq_false_iff.mpr c5
      subst c5
      have H1 : (chargeparkref16_Expire.j0 k l0 a1 true) = some (r1, r2) := by rw [if_neg (show ¬ (false = true) by decide)] at H; exact H
      clear H
      have H := H1
      clear H1
      have H' := Aside0.mk H
      clear H
      go_wp2_with (first | ((with_reducible refine gate_callee (f := 18) rfl ?_); refine goesL_ (some 9) rfl rfl Try.func18 (by kernel_rfl) rfl #[.slice A0 l0.length c0] rfl (by (try simp only [List.map_toArray, List.map_cons, List.map_nil]); first | done | rfl | (simp only [List.length_drop, List.length_take]; rfl)) ?_; (with_reducible refine (chargeparkref16_Valid.calls k _ _ l0 false _ ?side1 ?side2 A4.out).mono ?_); (case side1 => repeat (first | exact (Kd.C_below HR0.out HB.out) | (with_reducible refine Kd.C_alloc ?_ _) | (with_reducible refine Kd.C_drewN ?_ _) | (with_reducible refine Kd.C_drew ?_))); (case side2 => exact HC0.out); rintro e w9 ⟨rfl, hb⟩; refine ⟨_, rfl, ?_⟩; have n0_ := Aside0.mk (below_step (by repeat (first | (with_reducible first | exact HB.out | apply below_alloc | apply pw_below_drewN | apply below_drew1) | exact HB.out)) hb); clear HB; have HB := n0_; clear n0_; (try clear hb); (try clear hb2); (try clear hk); (try clear hi)))
      go_meet
      case rel => exact ⟨_, (true), (by first | rfl | (simp; done) | (simp [*]; done)), H', ⟨by first | omega | exact Nat.le_refl _⟩, ⟨by repeat (first | (with_reducible first | exact HB.out | apply below_alloc | apply pw_below_drewN | apply below_drew1) | exact HB.out)⟩⟩
  case rest =>
    clear HC3
    try clear c1
    try clear p2
    try clear c5
    try clear c6
    try clear c6b0
    obtain ⟨kq, x18_2, rfl, HA, HJ2, HB⟩ := hcut
    cases kq with
    | zero => exact absurd HA.out (by simp [chargeparkref16_Expire.j0])
    | succ kj2 =>
      have H := HA.out
      clear HA
      simp only [chargeparkref16_Expire.j0] at H
      by_cases c10 : x18_2 = true
      · subst c10
        have H1 : (some (([] : List (S24)), 1)) = some (r1, r2) := by rw [if_pos rfl] at H; exact H
        clear H
        have H := H1
        clear H1
        simp only [Option.some.injEq, Prod.mk.injEq] at H
        obtain ⟨rfl, rfl⟩ := H
        go_wp2
        go_ret2
        exact ⟨_, by first | rfl | (simp [errW_none, errW_some] <;> rfl) | (simp [*, errW_none, errW_some] <;> rfl), by first | exact Kd.R_nil _ _ _ _ _ | exact Kd.N_nil _ _ _ _ _ | exact Kd.V_nil _ _ _ _ _ | exact Kd.Q_nil _ _ _ _ _ | exact Kd.S_nil _ _ _ _ _, by repeat (first | (with_reducible first | exact HB.out | apply below_alloc | apply pw_below_drewN | apply below_drew1) | exact HB.out)⟩
      · replace c10 := Bool.eq_false_iff.mpr c10
        subst c10
        have H1 : (chargeparkref16_Expire.l0 kj2 l0 a1 ([] : List (S24)) 0) = some (r1, r2) := by rw [if_neg (show ¬ (false = true) by decide)] at H; exact H
        clear H
        have H := H1
        clear H1
        have H' := Aside0.mk H
        clear H
        go_wp2
        go_loopg [6, 7] kj2 (fun kq v6 v7 w' => ∃ (x6_2 : List (S24)) (x7_2 : Int), v7 = .int .i64 x7_2 ∧ Aside0 (chargeparkref16_Expire.l0 kq l0 a1 x6_2 x7_2 = some (r1, r2)) ∧ Aside0 (kq ≤ kj2) ∧ Aside0 (Kd.R k24 24 w' w.heap.size (fun _ => True) v6 x6_2) ∧ Aside0 (Below w.heap.size w w'))
        case atStart => exact ⟨(([] : List (S24))), (0), (by first | rfl | (simp; done) | (simp [*]; done)), H', ⟨Nat.le_refl _⟩, ⟨by first | exact Kd.R_nil _ _ _ _ _ | exact Kd.N_nil _ _ _ _ _ | exact Kd.V_nil _ _ _ _ _ | exact Kd.Q_nil _ _ _ _ _ | exact Kd.S_nil _ _ _ _ _⟩, ⟨by repeat (first | (with_reducible first | exact HB.out | apply below_alloc | apply pw_below_drewN | apply below_drew1) | exact HB.out)⟩⟩
        case round =>
          clear H'
          try clear c1
          try clear p2
          try clear c5
          try clear c6
          try clear c6b0
          try clear c10
          try clear p2
          obtain ⟨x6_2, x7_2, rfl, HA, HK2, HO_6, HB⟩ := hrel
          cases gk with
          | zero => exact absurd HA.out (by simp [chargeparkref16_Expire.l0])
          | succ k2 =>
            have H := HA.out
            clear HA
            simp only [chargeparkref16_Expire.l0] at H
            by_cases c11 : x7_2 < (l0.length : Int)
            · rw [if_pos c11] at H
              have c11b0 : decide (x7_2 < (l0.length : Int)) = true := decide_eq_true c11
              clear c11
              by_cases c12 : 0 ≤ x7_2
              · rw [if_pos c12] at H
                have c12b0 : decide (0 ≤ x7_2) = true := decide_eq_true c12
                clear c12
                replace H := Option.bind_eq_some_iff.mp H
                obtain ⟨t199, A130, H⟩ := H
                replace H : (if t199 > a1 then (if x6_2.length < 3518437208883 then (chargeparkref16_Expire.l0 k2 l0 a1 (x6_2 ++ [(⟨(rd_T24 l0 x7_2).f0, (rd_T24 l0 x7_2).f1, (rd_T24 l0 x7_2).f2, (rd_T24 l0 x7_2).f3, (rd_T24 l0 x7_2).f4⟩ : S24)]) (wrap64 (x7_2 + 1))) else (none)) else (chargeparkref16_Expire.l0 k2 l0 a1 x6_2 (wrap64 (x7_2 + 1)))) = some (r1, r2) := H
                have A13 := Aside0.mk A130
                clear A130
                by_cases c14 : t199 > a1
                · rw [if_pos c14] at H
                  have c14b0 : decide (a1 < t199) = true := decide_eq_true c14
                  clear c14
                  by_cases c15 : x6_2.length < 3518437208883
                  · rw [if_pos c15] at H
                    have LMc15 := Aside0.mk c15
                    clear c15
                    obtain ⟨y201, hy201⟩ : ∃ y_ : List (S24), y_ = (x6_2 ++ [(⟨(rd_T24 l0 x7_2).f0, (rd_T24 l0 x7_2).f1, (rd_T24 l0 x7_2).f2, (rd_T24 l0 x7_2).f3, (rd_T24 l0 x7_2).f4⟩ : S24)]) := ⟨_, rfl⟩
                    replace H : (chargeparkref16_Expire.l0 k2 l0 a1 y201 (wrap64 (x7_2 + 1))) = some (r1, r2) := by first | (rw [hy201]; with_reducible exact H) | (have H2_ := (Option.bind_some _ _).symm.trans H; rw [hy201]; with_reducible exact H2_) | (have H2_ := (Option.bind_some _ _).symm.trans H; with_reducible exact H2_) | with_reducible exact H | (rw [hy201]; exact H) | exact H
                    have Ny201 := Aside0.mk hy201
                    clear hy201
                    have H' := Aside0.mk H
                    clear H
                    have p198 : 0 ≤ (x7_2 : Int) := of_decide_eq_true (by first | (with_reducible assumption) | assumption)
                    have q198 : x7_2 < (l0.length : Int) := of_decide_eq_true (by first | (with_reducible assumption) | assumption)
                    obtain ⟨ad198, e198, hx198_0, hx198_1, hx198_2, hx198_3, hx198_4⟩ := at_T24 HR0.out x7_2 p198 q198
                    cases e198
                    replace hx198_0 := (HB.out.cell (World.block_lt_of_cell? w _ hx198_0)).trans hx198_0
                    replace hx198_1 := (HB.out.cell (World.block_lt_of_cell? w _ hx198_1)).trans hx198_1
                    replace hx198_2 := (HB.out.cell (World.block_lt_of_cell? w _ hx198_2)).trans hx198_2
                    replace hx198_3 := (HB.out.cell (World.block_lt_of_cell? w _ hx198_3)).trans hx198_3
                    replace hx198_4 := (HB.out.cell (World.block_lt_of_cell? w _ hx198_4)).trans hx198_4
                    replace p198 := eq_true p198
                    replace q198 := eq_true q198
                    go_wp2_with (first | ((with_reducible refine gate_callee (f := 31) rfl ?_); refine goesL_ (some 29) rfl rfl Try.func31 (by kernel_rfl) rfl #[.agg #[.int .i64 ((rd_T24 l0 x7_2).f0), .int .i64 ((rd_T24 l0 x7_2).f1), .int .i64 ((rd_T24 l0 x7_2).f2), .int .i64 ((rd_T24 l0 x7_2).f3), .int .i64 ((rd_T24 l0 x7_2).f4)]] rfl (by (try simp only [List.map_toArray, List.map_cons, List.map_nil]); first | done | rfl | (simp only [List.length_drop, List.length_take]; rfl)) ?_; (with_reducible refine (chargeparkref16_End.calls ((rd_T24 l0 x7_2).f0) ((rd_T24 l0 x7_2).f1) ((rd_T24 l0 x7_2).f2) ((rd_T24 l0 x7_2).f3) ((rd_T24 l0 x7_2).f4) t199 _ A13.out).mono ?_); rintro e w16 ⟨rfl, hb⟩; refine ⟨_, rfl, ?_⟩; have n0_ := Aside0.mk (Kd.R_below (by (with_reducible repeat (first | apply Kd.R_alloc | apply Kd.R_drewN | apply Kd.R_drew)); exact HO_6.out) hb); have n1_ := Aside0.mk (below_step (by repeat (first | (with_reducible first | exact HB.out | apply below_alloc | apply pw_below_drewN | apply below_drew1) | exact HB.out)) hb); clear HO_6; clear HB; have HO_6 := n0_; have HB := n1_; clear n0_ n1_; (try clear hb); (try clear hb2); (try clear hk); (try clear hi); have p200 : 0 ≤ (x7_2 : Int) := of_decide_eq_true (by first | (with_reducible assumption) | assumption); have q200 : x7_2 < (l0.length : Int) := of_decide_eq_true (by first | (with_reducible assumption) | assumption); obtain ⟨ad200, e200, hx200_0, hx200_1, hx200_2, hx200_3, hx200_4⟩ := at_T24 HR0.out x7_2 p200 q200; obtain rfl : ad198 = ad200 := (by injection e200); replace hx200_0 := (HB.out.cell (World.block_lt_of_cell? w _ hx200_0)).trans hx200_0; replace hx200_1 := (HB.out.cell (World.block_lt_of_cell? w _ hx200_1)).trans hx200_1; replace hx200_2 := (HB.out.cell (World.block_lt_of_cell? w _ hx200_2)).trans hx200_2; replace hx200_3 := (HB.out.cell (World.block_lt_of_cell? w _ hx200_3)).trans hx200_3; replace hx200_4 := (HB.out.cell (World.block_lt_of_cell? w _ hx200_4)).trans hx200_4; replace p200 := eq_true p200; replace q200 := eq_true q200) | ((with_reducible refine gate_builtin (b := .append) (xs := #[.tmp 32, .tmp 37]) rfl ?_); at_builtin; refine Kd.R_append k24 (w0 := w) w.heap.size rfl (.tmp 32) (.tmp 37) 22 24 (.agg #[(.int .i64 0), (.int .i64 0), (.int .i64 0), (.int .i64 0), (.int .i64 0)]) 40 rfl Try.underlying22 info24 rfl (by decide) (by omega) u6 x6_2 (⟨(rd_T24 l0 x7_2).f0, (rd_T24 l0 x7_2).f1, (rd_T24 l0 x7_2).f2, (rd_T24 l0 x7_2).f3, (rd_T24 l0 x7_2).f4⟩ : S24) [.int .i64 ((rd_T24 l0 x7_2).f0), .int .i64 ((rd_T24 l0 x7_2).f1), .int .i64 ((rd_T24 l0 x7_2).f2), .int .i64 ((rd_T24 l0 x7_2).f3), .int .i64 ((rd_T24 l0 x7_2).f4)] (fun _ => True) (fun _ => False) rfl rfl ?aP (fun _ hk => hk.elim) ?aF ?aO ?aB ?aS ?aL ?_; (case aP => exact k24_mkM _ _ _ (⟨(rd_T24 l0 x7_2).f0, (rd_T24 l0 x7_2).f1, (rd_T24 l0 x7_2).f2, (rd_T24 l0 x7_2).f3, (rd_T24 l0 x7_2).f4⟩ : S24)); (case aB => exact (by repeat (first | (with_reducible first | exact HB.out | apply below_alloc | apply pw_below_drewN | apply below_drew1) | exact HB.out))); (case aF => exact (fun _ _ => trivial)); (case aO => exact (by (with_reducible repeat (first | apply Kd.R_alloc | apply Kd.R_drewN | apply Kd.R_drew)); exact HO_6.out)); (case aS => exact (below_size (by repeat (first | (with_reducible first | exact HB.out | apply below_alloc | apply pw_below_drewN | apply below_drew1) | exact HB.out)))); (case aL => have := LMc15.out; omega); intro v202 w17 ho hb hg hat; rw [← Ny201.out] at ho; have n0_ := Aside0.mk (hb); have n1_ := Aside0.mk (ho); clear HB; clear HO_6; have HB := n0_; have HO203 := n1_; clear n0_ n1_; clear ho hb hg hat))
                    go_roundg k2
                    case measure => have := HJ2.out; have := HK2.out; omega
                    case rel => exact ⟨(y201), (wrap64 (x7_2 + 1)), (by first | rfl | (simp; done) | (simp [*]; done)), H', ⟨by have := HJ2.out; have := HK2.out; omega⟩, ⟨by (with_reducible repeat (first | apply Kd.R_alloc | apply Kd.R_drewN | apply Kd.R_drew)); exact HO203.out⟩, ⟨by repeat (first | (with_reducible first | exact HB.out | apply below_alloc | apply pw_below_drewN | apply below_drew1) | exact HB.out)⟩⟩
                  · rw [if_neg c15] at H
                    exact absurd H (by simp)
                · rw [if_neg c14] at H
                  have c14b0 : decide (a1 < t199) = false := decide_eq_false c14
                  clear c14
                  have H' := Aside0.mk H
                  clear H
                  have p198 : 0 ≤ (x7_2 : Int) := of_decide_eq_true (by first | (with_reducible assumption) | assumption)
                  have q198 : x7_2 < (l0.length : Int) := of_decide_eq_true (by first | (with_reducible assumption) | assumption)
                  obtain ⟨ad198, e198, hx198_0, hx198_1, hx198_2, hx198_3, hx198_4⟩ := at_T24 HR0.out x7_2 p198 q198
                  cases e198
                  replace hx198_0 := (HB.out.cell (World.block_lt_of_cell? w _ hx198_0)).trans hx198_0
                  replace hx198_1 := (HB.out.cell (World.block_lt_of_cell? w _ hx198_1)).trans hx198_1
                  replace hx198_2 := (HB.out.cell (World.block_lt_of_cell? w _ hx198_2)).trans hx198_2
                  replace hx198_3 := (HB.out.cell (World.block_lt_of_cell? w _ hx198_3)).trans hx198_3
                  replace hx198_4 := (HB.out.cell (World.block_lt_of_cell? w _ hx198_4)).trans hx198_4
                  replace p198 := eq_true p198
                  replace q198 := eq_true q198
                  go_wp2_with (first | ((with_reducible refine gate_callee (f := 31) rfl ?_); refine goesL_ (some 29) rfl rfl Try.func31 (by kernel_rfl) rfl #[.agg #[.int .i64 ((rd_T24 l0 x7_2).f0), .int .i64 ((rd_T24 l0 x7_2).f1), .int .i64 ((rd_T24 l0 x7_2).f2), .int .i64 ((rd_T24 l0 x7_2).f3), .int .i64 ((rd_T24 l0 x7_2).f4)]] rfl (by (try simp only [List.map_toArray, List.map_cons, List.map_nil]); first | done | rfl | (simp only [List.length_drop, List.length_take]; rfl)) ?_; (with_reducible refine (chargeparkref16_End.calls ((rd_T24 l0 x7_2).f0) ((rd_T24 l0 x7_2).f1) ((rd_T24 l0 x7_2).f2) ((rd_T24 l0 x7_2).f3) ((rd_T24 l0 x7_2).f4) t199 _ A13.out).mono ?_); rintro e w18 ⟨rfl, hb⟩; refine ⟨_, rfl, ?_⟩; have n0_ := Aside0.mk (Kd.R_below (by (with_reducible repeat (first | apply Kd.R_alloc | apply Kd.R_drewN | apply Kd.R_drew)); exact HO_6.out) hb); have n1_ := Aside0.mk (below_step (by repeat (first | (with_reducible first | exact HB.out | apply below_alloc | apply pw_below_drewN | apply below_drew1) | exact HB.out)) hb); clear HO_6; clear HB; have HO_6 := n0_; have HB := n1_; clear n0_ n1_; (try clear hb); (try clear hb2); (try clear hk); (try clear hi)))
                  go_roundg k2
                  case measure => have := HJ2.out; have := HK2.out; omega
                  case rel => exact ⟨(x6_2), (wrap64 (x7_2 + 1)), (by first | rfl | (simp; done) | (simp [*]; done)), H', ⟨by have := HJ2.out; have := HK2.out; omega⟩, ⟨by (with_reducible repeat (first | apply Kd.R_alloc | apply Kd.R_drewN | apply Kd.R_drew)); exact HO_6.out⟩, ⟨by repeat (first | (with_reducible first | exact HB.out | apply below_alloc | apply pw_below_drewN | apply below_drew1) | exact HB.out)⟩⟩
              · rw [if_neg c12] at H
                exact absurd H (by simp)
            · rw [if_neg c11] at H
              have c11b0 : decide (x7_2 < (l0.length : Int)) = false := decide_eq_false c11
              clear c11
              simp only [Option.some.injEq, Prod.mk.injEq] at H
              obtain ⟨rfl, rfl⟩ := H
              go_wp2
              go_ret2
              exact ⟨_, by first | rfl | (simp [errW_none, errW_some] <;> rfl) | (simp [*, errW_none, errW_some] <;> rfl), by (with_reducible repeat (first | apply Kd.R_alloc | apply Kd.R_drewN | apply Kd.R_drew)); exact HO_6.out, by repeat (first | (with_reducible first | exact HB.out | apply below_alloc | apply pw_below_drewN | apply below_drew1) | exact HB.out)⟩


/-! ### chargeparkref16_Same: function 19 -/
def chargeparkref16_Same.l0 : Nat → List (S24) → List (S24) → Int → Option (Bool)
  | 0, _, _, _ => none
  | k + 1, x0, x1, x5 => if x5 < (x0.length : Int) then (if 0 ≤ x5 then (if x5 < (x1.length : Int) then (if (!(((rd_T24 x0 x5).f0) == ((rd_T24 x1 x5).f0)) || (!(((rd_T24 x0 x5).f1) == ((rd_T24 x1 x5).f1)) || (!(((rd_T24 x0 x5).f2) == ((rd_T24 x1 x5).f2)) || (!(((rd_T24 x0 x5).f3) == ((rd_T24 x1 x5).f3)) || (!(((rd_T24 x0 x5).f4) == ((rd_T24 x1 x5).f4))))))) = true then (some false) else (chargeparkref16_Same.l0 k x0 x1 (wrap64 (x5 + 1)))) else (none)) else (none)) else (some true)
def chargeparkref16_Same.f (k : Nat) (l0 : List (S24)) (l1 : List (S24)) : Option (Bool) := if (l0.length : Int) = (l1.length : Int) then (chargeparkref16_Same.l0 k l0 l1 0) else (some false)
theorem chargeparkref16_Same.mono_l : ∀ k, (∀ y0 y1 y2, LeO (chargeparkref16_Same.l0 k y0 y1 y2) (chargeparkref16_Same.l0 (k + 1) y0 y1 y2))
  | 0 => fun _ _ _ r h => by simp [chargeparkref16_Same.l0] at h
  | k + 1 => by
    have ih0 := chargeparkref16_Same.mono_l k
    · intro y0 y1 y2
      unfold chargeparkref16_Same.l0
      repeat' first
      | (with_reducible exact ih0 _ _ _)
      | (with_reducible exact LeO.refl _)
      | (with_reducible exact LeO.none _)
      | (with_reducible refine LeO.ite ?_ ?_)
      | (with_reducible refine LeO.bind ?_ (fun _ => ?_))
      | exact ih0 _ _ _
      | exact LeO.none _
      | refine LeO.ite ?_ ?_
      | refine LeO.bind ?_ (fun _ => ?_)
theorem chargeparkref16_Same.mono : ∀ a0 a1 k, LeO (chargeparkref16_Same.f k a0 a1) (chargeparkref16_Same.f (k + 1) a0 a1) := by
  intro a0 a1 k
  have ih0 := chargeparkref16_Same.mono_l k
  unfold chargeparkref16_Same.f
  repeat' first
      | (with_reducible exact ih0 _ _ _)
      | (with_reducible exact LeO.refl _)
      | (with_reducible exact LeO.none _)
      | (with_reducible refine LeO.ite ?_ ?_)
      | (with_reducible refine LeO.bind ?_ (fun _ => ?_))
      | exact ih0 _ _ _
      | exact LeO.none _
      | refine LeO.ite ?_ ?_
      | refine LeO.bind ?_ (fun _ => ?_)
set_option maxHeartbeats 8000000 in
set_option maxRecDepth 100000 in
theorem chargeparkref16_Same.calls (k : Nat) (A0 : Option Addr) (c0 : Nat) (l0 : List (S24)) (A1 : Option Addr) (c1 : Nat) (l1 : List (S24)) (r : Bool) (w : World) (hr0 : Kd.C k24 w A0 l0.length l0) (hc0 : l0.length ≤ c0) (hr1 : Kd.C k24 w A1 l1.length l1) (hc1 : l1.length ≤ c1) (h : chargeparkref16_Same.f k l0 l1 = some r) :
    Calls Try.prog 19 #[.slice A0 l0.length c0, .slice A1 l1.length c1] w fun e w' => e = .returned (.bool r) ∧ Drawn0 w w' := by
  have hu24 := Try.underlying24
  have HR0 := Aside0.mk hr0
  have HC0 := Aside0.mk hc0
  clear hr0 hc0
  have HR1 := Aside0.mk hr1
  have HC1 := Aside0.mk hc1
  clear hr1 hc1
  have H : (if (l0.length : Int) = (l1.length : Int) then (chargeparkref16_Same.l0 k l0 l1 0) else (some false)) = some r := h
  clear h
  by_cases c3 : (l0.length : Int) = (l1.length : Int)
  · rw [if_pos c3] at H
    have c3b0 : ((l0.length : Int) == (l1.length : Int)) = true := beq_iff_eq.mpr c3
    have c3b1 : ((l0.length : Int) != (l1.length : Int)) = false := bne_eq_false_iff_eq.mpr c3
    have c3b2 : (l0.length == l1.length) = true := by first | simpa using c3 | (simp at c3 ⊢; omega)
    clear c3
    have H' := Aside0.mk H
    clear H
    go_enter Try.func19, Try.ntmps19
    go_wp2
    repeat (go_quiet (fail); try go_wp2)
    go_loopg [5] k (fun kq v5 w' => ∃ (x5_1 : Int), v5 = .int .i64 x5_1 ∧ Aside0 (chargeparkref16_Same.l0 kq l0 l1 x5_1 = some r) ∧ Aside0 (kq ≤ k) ∧ Drawn0 w w')
    case atStart => exact ⟨(0), (by first | rfl | (simp; done) | (simp [*]; done)), H', ⟨Nat.le_refl _⟩, by repeat (first | exact Drawn0.refl _ | apply Drawn0.step)⟩
    case round =>
      clear H'
      try clear c1
      try clear p2
      try clear c3
      try clear c3b0
      try clear c3b1
      try clear c3b2
      obtain ⟨x5_1, rfl, HA, HK1, ⟨m1, rfl⟩⟩ := hrel
      cases gk with
      | zero => exact absurd HA.out (by simp [chargeparkref16_Same.l0])
      | succ k1 =>
        have H := HA.out
        clear HA
        simp only [chargeparkref16_Same.l0] at H
        by_cases c4 : x5_1 < (l0.length : Int)
        · rw [if_pos c4] at H
          have c4b0 : decide (x5_1 < (l0.length : Int)) = true := decide_eq_true c4
          clear c4
          by_cases c5 : 0 ≤ x5_1
          · rw [if_pos c5] at H
            have c5b0 : decide (0 ≤ x5_1) = true := decide_eq_true c5
            clear c5
            by_cases c6 : x5_1 < (l1.length : Int)
            · rw [if_pos c6] at H
              have c6b0 : decide (x5_1 < (l1.length : Int)) = true := decide_eq_true c6
              clear c6
              by_cases c7 : (!(((rd_T24 l0 x5_1).f0) == ((rd_T24 l1 x5_1).f0)) || (!(((rd_T24 l0 x5_1).f1) == ((rd_T24 l1 x5_1).f1)) || (!(((rd_T24 l0 x5_1).f2) == ((rd_T24 l1 x5_1).f2)) || (!(((rd_T24 l0 x5_1).f3) == ((rd_T24 l1 x5_1).f3)) || (!(((rd_T24 l0 x5_1).f4) == ((rd_T24 l1 x5_1).f4))))))) = true
              · rw [if_pos c7] at H
                have c7b0 : (!(((rd_T24 l0 x5_1).f0) == ((rd_T24 l1 x5_1).f0)) || (!(((rd_T24 l0 x5_1).f1) == ((rd_T24 l1 x5_1).f1)) || (!(((rd_T24 l0 x5_1).f2) == ((rd_T24 l1 x5_1).f2)) || (!(((rd_T24 l0 x5_1).f3) == ((rd_T24 l1 x5_1).f3)) || (!(((rd_T24 l0 x5_1).f4) == ((rd_T24 l1 x5_1).f4))))))) = true := c7
                clear c7
                obtain rfl := Option.some.inj H
                have p204 : 0 ≤ (x5_1 : Int) := of_decide_eq_true (by first | (with_reducible assumption) | assumption)
                have q204 : x5_1 < (l0.length : Int) := of_decide_eq_true (by first | (with_reducible assumption) | assumption)
                obtain ⟨ad204, e204, hx204_0, hx204_1, hx204_2, hx204_3, hx204_4⟩ := at_T24 HR0.out x5_1 p204 q204
                cases e204
                replace p204 := eq_true p204
                replace q204 := eq_true q204
                have p205 : 0 ≤ (x5_1 : Int) := of_decide_eq_true (by first | (with_reducible assumption) | assumption)
                have q205 : x5_1 < (l1.length : Int) := of_decide_eq_true (by first | (with_reducible assumption) | assumption)
                obtain ⟨ad205, e205, hx205_0, hx205_1, hx205_2, hx205_3, hx205_4⟩ := at_T24 HR1.out x5_1 p205 q205
                cases e205
                replace p205 := eq_true p205
                replace q205 := eq_true q205
                go_wp2
                repeat (go_quiet (fail); try go_wp2)
                go_ret
                exact ⟨by first | rfl | (simp; done) | (simp [*]; done), by repeat (first | exact Drawn0.refl _ | apply Drawn0.step)⟩
              · rw [if_neg c7] at H
                have c7b0 : (!(((rd_T24 l0 x5_1).f0) == ((rd_T24 l1 x5_1).f0)) || (!(((rd_T24 l0 x5_1).f1) == ((rd_T24 l1 x5_1).f1)) || (!(((rd_T24 l0 x5_1).f2) == ((rd_T24 l1 x5_1).f2)) || (!(((rd_T24 l0 x5_1).f3) == ((rd_T24 l1 x5_1).f3)) || (!(((rd_T24 l0 x5_1).f4) == ((rd_T24 l1 x5_1).f4))))))) = false := by simpa using c7
                clear c7
                have H' := Aside0.mk H
                clear H
                have p204 : 0 ≤ (x5_1 : Int) := of_decide_eq_true (by first | (with_reducible assumption) | assumption)
                have q204 : x5_1 < (l0.length : Int) := of_decide_eq_true (by first | (with_reducible assumption) | assumption)
                obtain ⟨ad204, e204, hx204_0, hx204_1, hx204_2, hx204_3, hx204_4⟩ := at_T24 HR0.out x5_1 p204 q204
                cases e204
                replace p204 := eq_true p204
                replace q204 := eq_true q204
                have p205 : 0 ≤ (x5_1 : Int) := of_decide_eq_true (by first | (with_reducible assumption) | assumption)
                have q205 : x5_1 < (l1.length : Int) := of_decide_eq_true (by first | (with_reducible assumption) | assumption)
                obtain ⟨ad205, e205, hx205_0, hx205_1, hx205_2, hx205_3, hx205_4⟩ := at_T24 HR1.out x5_1 p205 q205
                cases e205
                replace p205 := eq_true p205
                replace q205 := eq_true q205
                go_wp2
                repeat (go_quiet (fail); try go_wp2)
                go_roundg k1
                case measure => have := HK1.out; omega
                case rel => exact ⟨(wrap64 (x5_1 + 1)), (by first | rfl | (simp; done) | (simp [*]; done)), H', ⟨by have := HK1.out; omega⟩, by repeat (first | exact Drawn0.refl _ | apply Drawn0.step)⟩
            · rw [if_neg c6] at H
              exact absurd H (by simp)
          · rw [if_neg c5] at H
            exact absurd H (by simp)
        · rw [if_neg c4] at H
          have c4b0 : decide (x5_1 < (l0.length : Int)) = false := decide_eq_false c4
          clear c4
          obtain rfl := Option.some.inj H
          go_wp2
          repeat (go_quiet (fail); try go_wp2)
          go_ret
          exact ⟨by first | rfl | (simp; done) | (simp [*]; done), by repeat (first | exact Drawn0.refl _ | apply Drawn0.step)⟩
  · rw [if_neg c3] at H
    have c3b0 : ((l0.length : Int) == (l1.length : Int)) = false := beq_eq_false_iff_ne.mpr c3
    have c3b1 : ((l0.length : Int) != (l1.length : Int)) = true := bne_iff_ne.mpr c3
    have c3b2 : (l0.length == l1.length) = false := by first | simpa using c3 | (simp at c3 ⊢; omega)
    obtain rfl := Option.some.inj H
    go_enter Try.func19, Try.ntmps19
    go_wp2
    repeat (go_quiet (fail); try go_wp2)
    go_ret
    exact ⟨by first | rfl | (simp; done) | (simp [*]; done), by repeat (first | exact Drawn0.refl _ | apply Drawn0.step)⟩


/-! ### chargeparklaw16_LeaseMatchesReference: function 3 -/
def chargeparklaw16_LeaseMatchesReference.f (k : Nat) (l0 : List (S24)) (a1_0 : Int) (a1_1 : Int) (a1_2 : Int) (a1_3 : Int) (a1_4 : Int) (a2 : Int) (a3 : Int) : Option (Bool) := (chargeparklaw16_head.f k).bind fun t207 => (if (l0.length : Int) > 100 then (some t207) else ((lease_Grant.f l0 a1_0 a1_1 a1_2 a1_3 a1_4).bind fun bt208 => ((chargeparkref16_Grant.f k l0 a1_0 a1_1 a1_2 a1_3 a1_4).bind fun bt212 => ((lease_Alive.f l0 a2 a3).bind fun bt216 => ((chargeparkref16_Alive.f k l0 a2 a3).bind fun bt220 => ((lease_Expire.f l0 a3).bind fun bt224 => ((chargeparkref16_Expire.f k l0 a3).bind fun bt228 => (if t207 = true then ((lease_Valid.f l0).bind fun t232 => ((chargeparkref16_Valid.f k l0).bind fun t233 => (if (t232 == t233) = true then ((chargeparkref16_Same.f k bt208.1 bt212.1).bind fun t234 => (if t234 = true then (if bt208.2 = bt212.2 then ((chargeparkref16_Ints.f k bt216.1 bt220.1).bind fun t235 => (if t235 = true then (if bt216.2 = bt220.2 then ((chargeparkref16_Same.f k bt224.1 bt228.1).bind fun t236 => (if t236 = true then (some (bt224.2 == bt228.2)) else (none))) else (none)) else (none))) else (none)) else (none))) else (none)))) else (none)))))))))
theorem chargeparklaw16_LeaseMatchesReference.mono : ∀ a0 a1 a2 a3 a4 a5 a6 a7 k, LeO (chargeparklaw16_LeaseMatchesReference.f k a0 a1 a2 a3 a4 a5 a6 a7) (chargeparklaw16_LeaseMatchesReference.f (k + 1) a0 a1 a2 a3 a4 a5 a6 a7) := by
  intro a0 a1 a2 a3 a4 a5 a6 a7 k
  unfold chargeparklaw16_LeaseMatchesReference.f
  repeat' first
      | (with_reducible exact chargeparklaw16_head.mono _)
      | (with_reducible exact chargeparkref16_Alive.mono _ _ _ _)
      | (with_reducible exact chargeparkref16_Expire.mono _ _ _)
      | (with_reducible exact chargeparkref16_Grant.mono _ _ _ _ _ _ _)
      | (with_reducible exact chargeparkref16_Ints.mono _ _ _)
      | (with_reducible exact chargeparkref16_Same.mono _ _ _)
      | (with_reducible exact chargeparkref16_Valid.mono _ _)
      | (with_reducible exact LeO.refl _)
      | (with_reducible exact LeO.none _)
      | (with_reducible refine LeO.ite ?_ ?_)
      | (with_reducible refine LeO.bind ?_ (fun _ => ?_))
      | exact chargeparklaw16_head.mono _
      | exact chargeparkref16_Alive.mono _ _ _ _
      | exact chargeparkref16_Expire.mono _ _ _
      | exact chargeparkref16_Grant.mono _ _ _ _ _ _ _
      | exact chargeparkref16_Ints.mono _ _ _
      | exact chargeparkref16_Same.mono _ _ _
      | exact chargeparkref16_Valid.mono _ _
      | exact LeO.none _
      | refine LeO.ite ?_ ?_
      | refine LeO.bind ?_ (fun _ => ?_)
set_option maxHeartbeats 8000000 in
set_option maxRecDepth 100000 in
theorem chargeparklaw16_LeaseMatchesReference.calls (k : Nat) (A0 : Option Addr) (c0 : Nat) (l0 : List (S24)) (a1_0 : Int) (a1_1 : Int) (a1_2 : Int) (a1_3 : Int) (a1_4 : Int) (a2 : Int) (a3 : Int) (r : Bool) (w : World) (hr0 : Kd.C k24 w A0 l0.length l0) (hc0 : l0.length ≤ c0) (h : chargeparklaw16_LeaseMatchesReference.f k l0 a1_0 a1_1 a1_2 a1_3 a1_4 a2 a3 = some r) :
    Calls Try.prog 3 #[.slice A0 l0.length c0, .agg #[.int .i64 a1_0, .int .i64 a1_1, .int .i64 a1_2, .int .i64 a1_3, .int .i64 a1_4], .int .i64 a2, .int .i64 a3] w fun e w' => e = .returned (.bool r) ∧ Below w.heap.size w w' := by
  have hu24 := Try.underlying24
  have HR0 := Aside0.mk hr0
  have HC0 := Aside0.mk hc0
  clear hr0 hc0
  have HB := Aside0.mk (Below.refl w.heap.size w)
  have H : ((chargeparklaw16_head.f k).bind fun t207 => (if (l0.length : Int) > 100 then (some t207) else ((lease_Grant.f l0 a1_0 a1_1 a1_2 a1_3 a1_4).bind fun bt208 => ((chargeparkref16_Grant.f k l0 a1_0 a1_1 a1_2 a1_3 a1_4).bind fun bt212 => ((lease_Alive.f l0 a2 a3).bind fun bt216 => ((chargeparkref16_Alive.f k l0 a2 a3).bind fun bt220 => ((lease_Expire.f l0 a3).bind fun bt224 => ((chargeparkref16_Expire.f k l0 a3).bind fun bt228 => (if t207 = true then ((lease_Valid.f l0).bind fun t232 => ((chargeparkref16_Valid.f k l0).bind fun t233 => (if (t232 == t233) = true then ((chargeparkref16_Same.f k bt208.1 bt212.1).bind fun t234 => (if t234 = true then (if bt208.2 = bt212.2 then ((chargeparkref16_Ints.f k bt216.1 bt220.1).bind fun t235 => (if t235 = true then (if bt216.2 = bt220.2 then ((chargeparkref16_Same.f k bt224.1 bt228.1).bind fun t236 => (if t236 = true then (some (bt224.2 == bt228.2)) else (none))) else (none)) else (none))) else (none)) else (none))) else (none)))) else (none)))))))))) = some r := h
  clear h
  replace H := Option.bind_eq_some_iff.mp H
  obtain ⟨t207, A50, H⟩ := H
  replace H : (if (l0.length : Int) > 100 then (some t207) else ((lease_Grant.f l0 a1_0 a1_1 a1_2 a1_3 a1_4).bind fun bt208 => ((chargeparkref16_Grant.f k l0 a1_0 a1_1 a1_2 a1_3 a1_4).bind fun bt212 => ((lease_Alive.f l0 a2 a3).bind fun bt216 => ((chargeparkref16_Alive.f k l0 a2 a3).bind fun bt220 => ((lease_Expire.f l0 a3).bind fun bt224 => ((chargeparkref16_Expire.f k l0 a3).bind fun bt228 => (if t207 = true then ((lease_Valid.f l0).bind fun t232 => ((chargeparkref16_Valid.f k l0).bind fun t233 => (if (t232 == t233) = true then ((chargeparkref16_Same.f k bt208.1 bt212.1).bind fun t234 => (if t234 = true then (if bt208.2 = bt212.2 then ((chargeparkref16_Ints.f k bt216.1 bt220.1).bind fun t235 => (if t235 = true then (if bt216.2 = bt220.2 then ((chargeparkref16_Same.f k bt224.1 bt228.1).bind fun t236 => (if t236 = true then (some (bt224.2 == bt228.2)) else (none))) else (none)) else (none))) else (none)) else (none))) else (none)))) else (none))))))))) = some r := H
  have A5 := Aside0.mk A50
  clear A50
  by_cases c6 : (l0.length : Int) > 100
  · rw [if_pos c6] at H
    have c6b0 : decide (100 < (l0.length : Int)) = true := decide_eq_true c6
    have c6b1 : decide (100 < l0.length) = true := decide_eq_true (by omega)
    clear c6
    obtain rfl := Option.some.inj H
    go_enter Try.func3, Try.ntmps3
    go_wp2_with (first | ((with_reducible refine gate_dst (N := 5) rfl ?_); refine box_event ?hg (N := 5) ?hd (cs := #[.int .i64 a1_0, .int .i64 a1_1, .int .i64 a1_2, .int .i64 a1_3, .int .i64 a1_4]) (t := 24) ?hr ?_; (case hd => rfl); (case hg => rfl); (case hr => first | (go_simp; done) | (go_simp; rfl)); intro gb206 hg w7 hbox hb; have n0_ := Aside0.mk (below_step (by repeat (first | (with_reducible first | exact HB.out | apply below_alloc | apply pw_below_drewN | apply below_drew1) | exact HB.out)) hb); have n1_ := Aside0.mk (hbox); have n2_ := Aside0.mk ((by rw [hg]; exact (below_size (by repeat (first | (with_reducible first | exact HB.out | apply below_alloc | apply pw_below_drewN | apply below_drew1) | exact HB.out))) : w.heap.size ≤ gb206)); have n3_ := Aside0.mk ((by rw [hg]; exact (below_size (by repeat (first | (with_reducible first | exact HB.out | apply below_alloc | apply pw_below_drewN | apply below_drew1) | exact HB.out))) : w.heap.size ≤ gb206)); clear HB; have HB := n0_; have BK206 := n1_; have GW206 := n2_; have GE206 := n3_; clear n0_ n1_ n2_ n3_; clear hb hbox hg) | ((with_reducible refine gate_callee (f := 10) rfl ?_); refine goesL_ (some 22) rfl rfl Try.func10 (by kernel_rfl) rfl #[] rfl (by (try simp only [List.map_toArray, List.map_cons, List.map_nil]); first | done | rfl | (simp only [List.length_drop, List.length_take]; rfl)) ?_; (with_reducible refine (chargeparklaw16_head.calls k  t207 _ A5.out).mono ?_); rintro e w8 ⟨rfl, hb⟩; refine ⟨_, rfl, ?_⟩; have n0_ := Aside0.mk (blk_below (g := gb206) (o := .cells #[.int .i64 a1_0, .int .i64 a1_1, .int .i64 a1_2, .int .i64 a1_3, .int .i64 a1_4] 24 (0, 0)) (by (with_reducible repeat (first | refine blk_drewN ?_ _ | refine blk_drew ?_ | refine blk_alloc ?_ _)); exact BK206.out) hb); have n1_ := Aside0.mk (below_step (by repeat (first | (with_reducible first | exact HB.out | apply below_alloc | apply pw_below_drewN | apply below_drew1 | refine below_set ?_ GE206.out) | exact HB.out)) hb); clear BK206; clear HB; have BK206 := n0_; have HB := n1_; clear n0_ n1_; (try clear hb); (try clear hb2); (try clear hk); (try clear hi)))
    go_ret
    exact ⟨by first | rfl | (simp [errW_none, errW_some] <;> rfl) | (simp [*, errW_none, errW_some] <;> rfl), by repeat (first | (with_reducible first | exact HB.out | apply below_alloc | apply pw_below_drewN | apply below_drew1 | refine below_set ?_ GE206.out) | exact HB.out)⟩
  · rw [if_neg c6] at H
    have c6b0 : decide (100 < (l0.length : Int)) = false := decide_eq_false c6
    have c6b1 : decide (100 < l0.length) = false := decide_eq_false (by omega)
    clear c6
    replace H := Option.bind_eq_some_iff.mp H
    obtain ⟨⟨t208, t211⟩, A90, H⟩ := H
    replace H : ((chargeparkref16_Grant.f k l0 a1_0 a1_1 a1_2 a1_3 a1_4).bind fun bt212 => ((lease_Alive.f l0 a2 a3).bind fun bt216 => ((chargeparkref16_Alive.f k l0 a2 a3).bind fun bt220 => ((lease_Expire.f l0 a3).bind fun bt224 => ((chargeparkref16_Expire.f k l0 a3).bind fun bt228 => (if t207 = true then ((lease_Valid.f l0).bind fun t232 => ((chargeparkref16_Valid.f k l0).bind fun t233 => (if (t232 == t233) = true then ((chargeparkref16_Same.f k t208 bt212.1).bind fun t234 => (if t234 = true then (if t211 = bt212.2 then ((chargeparkref16_Ints.f k bt216.1 bt220.1).bind fun t235 => (if t235 = true then (if bt216.2 = bt220.2 then ((chargeparkref16_Same.f k bt224.1 bt228.1).bind fun t236 => (if t236 = true then (some (bt224.2 == bt228.2)) else (none))) else (none)) else (none))) else (none)) else (none))) else (none)))) else (none))))))) = some r := H
    have A9 := Aside0.mk A90
    clear A90
    replace H := Option.bind_eq_some_iff.mp H
    obtain ⟨⟨t212, t215⟩, A100, H⟩ := H
    replace H : ((lease_Alive.f l0 a2 a3).bind fun bt216 => ((chargeparkref16_Alive.f k l0 a2 a3).bind fun bt220 => ((lease_Expire.f l0 a3).bind fun bt224 => ((chargeparkref16_Expire.f k l0 a3).bind fun bt228 => (if t207 = true then ((lease_Valid.f l0).bind fun t232 => ((chargeparkref16_Valid.f k l0).bind fun t233 => (if (t232 == t233) = true then ((chargeparkref16_Same.f k t208 t212).bind fun t234 => (if t234 = true then (if t211 = t215 then ((chargeparkref16_Ints.f k bt216.1 bt220.1).bind fun t235 => (if t235 = true then (if bt216.2 = bt220.2 then ((chargeparkref16_Same.f k bt224.1 bt228.1).bind fun t236 => (if t236 = true then (some (bt224.2 == bt228.2)) else (none))) else (none)) else (none))) else (none)) else (none))) else (none)))) else (none)))))) = some r := H
    have A10 := Aside0.mk A100
    clear A100
    replace H := Option.bind_eq_some_iff.mp H
    obtain ⟨⟨t216, t217⟩, A110, H⟩ := H
    replace H : ((chargeparkref16_Alive.f k l0 a2 a3).bind fun bt220 => ((lease_Expire.f l0 a3).bind fun bt224 => ((chargeparkref16_Expire.f k l0 a3).bind fun bt228 => (if t207 = true then ((lease_Valid.f l0).bind fun t232 => ((chargeparkref16_Valid.f k l0).bind fun t233 => (if (t232 == t233) = true then ((chargeparkref16_Same.f k t208 t212).bind fun t234 => (if t234 = true then (if t211 = t215 then ((chargeparkref16_Ints.f k t216 bt220.1).bind fun t235 => (if t235 = true then (if t217 = bt220.2 then ((chargeparkref16_Same.f k bt224.1 bt228.1).bind fun t236 => (if t236 = true then (some (bt224.2 == bt228.2)) else (none))) else (none)) else (none))) else (none)) else (none))) else (none)))) else (none))))) = some r := H
    have A11 := Aside0.mk A110
    clear A110
    replace H := Option.bind_eq_some_iff.mp H
    obtain ⟨⟨t220, t221⟩, A120, H⟩ := H
    replace H : ((lease_Expire.f l0 a3).bind fun bt224 => ((chargeparkref16_Expire.f k l0 a3).bind fun bt228 => (if t207 = true then ((lease_Valid.f l0).bind fun t232 => ((chargeparkref16_Valid.f k l0).bind fun t233 => (if (t232 == t233) = true then ((chargeparkref16_Same.f k t208 t212).bind fun t234 => (if t234 = true then (if t211 = t215 then ((chargeparkref16_Ints.f k t216 t220).bind fun t235 => (if t235 = true then (if t217 = t221 then ((chargeparkref16_Same.f k bt224.1 bt228.1).bind fun t236 => (if t236 = true then (some (bt224.2 == bt228.2)) else (none))) else (none)) else (none))) else (none)) else (none))) else (none)))) else (none)))) = some r := H
    have A12 := Aside0.mk A120
    clear A120
    replace H := Option.bind_eq_some_iff.mp H
    obtain ⟨⟨t224, t225⟩, A130, H⟩ := H
    replace H : ((chargeparkref16_Expire.f k l0 a3).bind fun bt228 => (if t207 = true then ((lease_Valid.f l0).bind fun t232 => ((chargeparkref16_Valid.f k l0).bind fun t233 => (if (t232 == t233) = true then ((chargeparkref16_Same.f k t208 t212).bind fun t234 => (if t234 = true then (if t211 = t215 then ((chargeparkref16_Ints.f k t216 t220).bind fun t235 => (if t235 = true then (if t217 = t221 then ((chargeparkref16_Same.f k t224 bt228.1).bind fun t236 => (if t236 = true then (some (t225 == bt228.2)) else (none))) else (none)) else (none))) else (none)) else (none))) else (none)))) else (none))) = some r := H
    have A13 := Aside0.mk A130
    clear A130
    replace H := Option.bind_eq_some_iff.mp H
    obtain ⟨⟨t228, t229⟩, A140, H⟩ := H
    replace H : (if t207 = true then ((lease_Valid.f l0).bind fun t232 => ((chargeparkref16_Valid.f k l0).bind fun t233 => (if (t232 == t233) = true then ((chargeparkref16_Same.f k t208 t212).bind fun t234 => (if t234 = true then (if t211 = t215 then ((chargeparkref16_Ints.f k t216 t220).bind fun t235 => (if t235 = true then (if t217 = t221 then ((chargeparkref16_Same.f k t224 t228).bind fun t236 => (if t236 = true then (some (t225 == t229)) else (none))) else (none)) else (none))) else (none)) else (none))) else (none)))) else (none)) = some r := H
    have A14 := Aside0.mk A140
    clear A140
    by_cases c15 : t207 = true
    · subst c15
      have H1 : ((lease_Valid.f l0).bind fun t232 => ((chargeparkref16_Valid.f k l0).bind fun t233 => (if (t232 == t233) = true then ((chargeparkref16_Same.f k t208 t212).bind fun t234 => (if t234 = true then (if t211 = t215 then ((chargeparkref16_Ints.f k t216 t220).bind fun t235 => (if t235 = true then (if t217 = t221 then ((chargeparkref16_Same.f k t224 t228).bind fun t236 => (if t236 = true then (some (t225 == t229)) else (none))) else (none)) else (none))) else (none)) else (none))) else (none)))) = some r := by rw [if_pos rfl] at H; exact H
      clear H
      have H := H1
      clear H1
      replace H := Option.bind_eq_some_iff.mp H
      obtain ⟨t232, A160, H⟩ := H
      replace H : ((chargeparkref16_Valid.f k l0).bind fun t233 => (if (t232 == t233) = true then ((chargeparkref16_Same.f k t208 t212).bind fun t234 => (if t234 = true then (if t211 = t215 then ((chargeparkref16_Ints.f k t216 t220).bind fun t235 => (if t235 = true then (if t217 = t221 then ((chargeparkref16_Same.f k t224 t228).bind fun t236 => (if t236 = true then (some (t225 == t229)) else (none))) else (none)) else (none))) else (none)) else (none))) else (none))) = some r := H
      have A16 := Aside0.mk A160
      clear A160
      replace H := Option.bind_eq_some_iff.mp H
      obtain ⟨t233, A170, H⟩ := H
      replace H : (if (t232 == t233) = true then ((chargeparkref16_Same.f k t208 t212).bind fun t234 => (if t234 = true then (if t211 = t215 then ((chargeparkref16_Ints.f k t216 t220).bind fun t235 => (if t235 = true then (if t217 = t221 then ((chargeparkref16_Same.f k t224 t228).bind fun t236 => (if t236 = true then (some (t225 == t229)) else (none))) else (none)) else (none))) else (none)) else (none))) else (none)) = some r := H
      have A17 := Aside0.mk A170
      clear A170
      by_cases c18 : (t232 == t233) = true
      · rw [if_pos c18] at H
        have c18b0 : (t232 == t233) = true := c18
        (try (have c18b1 : decide (t232 = t233) = true := by simpa using c18))
        (try (have c18b2 : (t232 == t233) = true := by simpa using c18))
        clear c18
        replace H := Option.bind_eq_some_iff.mp H
        obtain ⟨t234, A190, H⟩ := H
        replace H : (if t234 = true then (if t211 = t215 then ((chargeparkref16_Ints.f k t216 t220).bind fun t235 => (if t235 = true then (if t217 = t221 then ((chargeparkref16_Same.f k t224 t228).bind fun t236 => (if t236 = true then (some (t225 == t229)) else (none))) else (none)) else (none))) else (none)) else (none)) = some r := H
        have A19 := Aside0.mk A190
        clear A190
        by_cases c20 : t234 = true
        · subst c20
          have H1 : (if t211 = t215 then ((chargeparkref16_Ints.f k t216 t220).bind fun t235 => (if t235 = true then (if t217 = t221 then ((chargeparkref16_Same.f k t224 t228).bind fun t236 => (if t236 = true then (some (t225 == t229)) else (none))) else (none)) else (none))) else (none)) = some r := by rw [if_pos rfl] at H; exact H
          clear H
          have H := H1
          clear H1
          by_cases c21 : t211 = t215
          · rw [if_pos c21] at H
            have c21b0 : (t211 == t215) = true := beq_iff_eq.mpr c21
            have c21b1 : (t211 != t215) = false := bne_eq_false_iff_eq.mpr c21
            clear c21
            replace H := Option.bind_eq_some_iff.mp H
            obtain ⟨t235, A220, H⟩ := H
            replace H : (if t235 = true then (if t217 = t221 then ((chargeparkref16_Same.f k t224 t228).bind fun t236 => (if t236 = true then (some (t225 == t229)) else (none))) else (none)) else (none)) = some r := H
            have A22 := Aside0.mk A220
            clear A220
            by_cases c23 : t235 = true
            · subst c23
              have H1 : (if t217 = t221 then ((chargeparkref16_Same.f k t224 t228).bind fun t236 => (if t236 = true then (some (t225 == t229)) else (none))) else (none)) = some r := by rw [if_pos rfl] at H; exact H
              clear H
              have H := H1
              clear H1
              by_cases c24 : t217 = t221
              · rw [if_pos c24] at H
                have c24b0 : (t217 == t221) = true := beq_iff_eq.mpr c24
                have c24b1 : (t217 != t221) = false := bne_eq_false_iff_eq.mpr c24
                clear c24
                replace H := Option.bind_eq_some_iff.mp H
                obtain ⟨t236, A250, H⟩ := H
                replace H : (if t236 = true then (some (t225 == t229)) else (none)) = some r := H
                have A25 := Aside0.mk A250
                clear A250
                by_cases c26 : t236 = true
                · subst c26
                  have H1 : (some (t225 == t229)) = some r := by rw [if_pos rfl] at H; exact H
                  clear H
                  have H := H1
                  clear H1
                  obtain rfl := Option.some.inj H
                  go_enter Try.func3, Try.ntmps3
                  go_wp2_with (first | ((with_reducible refine gate_dst (N := 5) rfl ?_); refine box_event ?hg (N := 5) ?hd (cs := #[.int .i64 a1_0, .int .i64 a1_1, .int .i64 a1_2, .int .i64 a1_3, .int .i64 a1_4]) (t := 24) ?hr ?_; (case hd => rfl); (case hg => rfl); (case hr => first | (go_simp; done) | (go_simp; rfl)); intro gb206 hg w27 hbox hb; have n0_ := Aside0.mk (below_step (by repeat (first | (with_reducible first | exact HB.out | apply below_alloc | apply pw_below_drewN | apply below_drew1) | exact HB.out)) hb); have n1_ := Aside0.mk (hbox); have n2_ := Aside0.mk ((by rw [hg]; exact (below_size (by repeat (first | (with_reducible first | exact HB.out | apply below_alloc | apply pw_below_drewN | apply below_drew1) | exact HB.out))) : w.heap.size ≤ gb206)); have n3_ := Aside0.mk ((by rw [hg]; exact (below_size (by repeat (first | (with_reducible first | exact HB.out | apply below_alloc | apply pw_below_drewN | apply below_drew1) | exact HB.out))) : w.heap.size ≤ gb206)); clear HB; have HB := n0_; have BK206 := n1_; have GW206 := n2_; have GE206 := n3_; clear n0_ n1_ n2_ n3_; clear hb hbox hg) | ((with_reducible refine gate_callee (f := 10) rfl ?_); refine goesL_ (some 22) rfl rfl Try.func10 (by kernel_rfl) rfl #[] rfl (by (try simp only [List.map_toArray, List.map_cons, List.map_nil]); first | done | rfl | (simp only [List.length_drop, List.length_take]; rfl)) ?_; (with_reducible refine (chargeparklaw16_head.calls k  true _ A5.out).mono ?_); rintro e w28 ⟨rfl, hb⟩; refine ⟨_, rfl, ?_⟩; have n0_ := Aside0.mk (blk_below (g := gb206) (o := .cells #[.int .i64 a1_0, .int .i64 a1_1, .int .i64 a1_2, .int .i64 a1_3, .int .i64 a1_4] 24 (0, 0)) (by (with_reducible repeat (first | refine blk_drewN ?_ _ | refine blk_drew ?_ | refine blk_alloc ?_ _)); exact BK206.out) hb); have n1_ := Aside0.mk (below_step (by repeat (first | (with_reducible first | exact HB.out | apply below_alloc | apply pw_below_drewN | apply below_drew1 | refine below_set ?_ GE206.out) | exact HB.out)) hb); clear BK206; clear HB; have BK206 := n0_; have HB := n1_; clear n0_ n1_; (try clear hb); (try clear hb2); (try clear hk); (try clear hi); have hcz29_0 : w28.cell? ⟨gb206, 0, none⟩ = some (.int .i64 a1_0) := (blk_cell BK206.out 0).trans rfl; have hcz29_1 : w28.cell? ⟨gb206, 1, none⟩ = some (.int .i64 a1_1) := (blk_cell BK206.out 1).trans rfl; have hcz29_2 : w28.cell? ⟨gb206, 2, none⟩ = some (.int .i64 a1_2) := (blk_cell BK206.out 2).trans rfl; have hcz29_3 : w28.cell? ⟨gb206, 3, none⟩ = some (.int .i64 a1_3) := (blk_cell BK206.out 3).trans rfl; have hcz29_4 : w28.cell? ⟨gb206, 4, none⟩ = some (.int .i64 a1_4) := (blk_cell BK206.out 4).trans rfl; have hfz29_0 := blk_frozen BK206.out 0; have hfz29_1 := blk_frozen BK206.out 1; have hfz29_2 := blk_frozen BK206.out 2; have hfz29_3 := blk_frozen BK206.out 3; have hfz29_4 := blk_frozen BK206.out 4) | ((with_reducible refine gate_callee (f := 11) rfl ?_); refine goesL_ (some 30) rfl rfl Try.func11 (by kernel_rfl) rfl #[.slice A0 l0.length c0, .agg #[.int .i64 a1_0, .int .i64 a1_1, .int .i64 a1_2, .int .i64 a1_3, .int .i64 a1_4]] rfl (by (try simp only [List.map_toArray, List.map_cons, List.map_nil]); first | done | rfl | (simp only [List.length_drop, List.length_take]; rfl)) ?_; (with_reducible refine (lease_Grant.calls _ _ l0 a1_0 a1_1 a1_2 a1_3 a1_4 t208 t211 _ ?side1 ?side2 A9.out).mono ?_); (case side1 => repeat (first | exact (Kd.C_below HR0.out HB.out) | (with_reducible refine Kd.C_alloc ?_ _) | (with_reducible refine Kd.C_drewN ?_ _) | (with_reducible refine Kd.C_drew ?_))); (case side2 => exact HC0.out); rintro e w30 ⟨v209, rfl, ho0, hb⟩; refine ⟨_, rfl, ?_⟩; have n0_ := Aside0.mk (Kd.R_lower (Kd.R_newB ho0 (g := gb206) (o := .cells #[.int .i64 a1_0, .int .i64 a1_1, .int .i64 a1_2, .int .i64 a1_3, .int .i64 a1_4] 24 (0, 0)) (by (with_reducible repeat (first | refine blk_drewN ?_ _ | refine blk_drew ?_ | refine blk_alloc ?_ _)); exact BK206.out)) (below_size (by repeat (first | (with_reducible first | exact HB.out | apply below_alloc | apply pw_below_drewN | apply below_drew1 | refine below_set ?_ GE206.out) | exact HB.out)))); have n1_ := Aside0.mk (blk_below (g := gb206) (o := .cells #[.int .i64 a1_0, .int .i64 a1_1, .int .i64 a1_2, .int .i64 a1_3, .int .i64 a1_4] 24 (0, 0)) (by (with_reducible repeat (first | refine blk_drewN ?_ _ | refine blk_drew ?_ | refine blk_alloc ?_ _)); exact BK206.out) hb); have n2_ := Aside0.mk (below_step (by repeat (first | (with_reducible first | exact HB.out | apply below_alloc | apply pw_below_drewN | apply below_drew1 | refine below_set ?_ GE206.out) | exact HB.out)) hb); clear BK206; clear HB; have HO210 := n0_; have BK206 := n1_; have HB := n2_; clear n0_ n1_ n2_; (try clear hb); (try clear hb2); (try clear hk); (try clear hi); (try clear ho0); have hcz31_0 : w30.cell? ⟨gb206, 0, none⟩ = some (.int .i64 a1_0) := (blk_cell BK206.out 0).trans rfl; have hcz31_1 : w30.cell? ⟨gb206, 1, none⟩ = some (.int .i64 a1_1) := (blk_cell BK206.out 1).trans rfl; have hcz31_2 : w30.cell? ⟨gb206, 2, none⟩ = some (.int .i64 a1_2) := (blk_cell BK206.out 2).trans rfl; have hcz31_3 : w30.cell? ⟨gb206, 3, none⟩ = some (.int .i64 a1_3) := (blk_cell BK206.out 3).trans rfl; have hcz31_4 : w30.cell? ⟨gb206, 4, none⟩ = some (.int .i64 a1_4) := (blk_cell BK206.out 4).trans rfl; have hfz31_0 := blk_frozen BK206.out 0; have hfz31_1 := blk_frozen BK206.out 1; have hfz31_2 := blk_frozen BK206.out 2; have hfz31_3 := blk_frozen BK206.out 3; have hfz31_4 := blk_frozen BK206.out 4) | ((with_reducible refine gate_callee (f := 12) rfl ?_); refine goesL_ (some 36) rfl rfl Try.func12 (by kernel_rfl) rfl #[.slice A0 l0.length c0, .agg #[.int .i64 a1_0, .int .i64 a1_1, .int .i64 a1_2, .int .i64 a1_3, .int .i64 a1_4]] rfl (by (try simp only [List.map_toArray, List.map_cons, List.map_nil]); first | done | rfl | (simp only [List.length_drop, List.length_take]; rfl)) ?_; (with_reducible refine (chargeparkref16_Grant.calls k _ _ l0 a1_0 a1_1 a1_2 a1_3 a1_4 t212 t215 _ ?side1 ?side2 A10.out).mono ?_); (case side1 => repeat (first | exact (Kd.C_below HR0.out HB.out) | (with_reducible refine Kd.C_alloc ?_ _) | (with_reducible refine Kd.C_drewN ?_ _) | (with_reducible refine Kd.C_drew ?_))); (case side2 => exact HC0.out); rintro e w32 ⟨v213, rfl, ho0, hb⟩; refine ⟨_, rfl, ?_⟩; have n0_ := Aside0.mk (Kd.R_elder' (by (with_reducible repeat (first | apply Kd.R_alloc | apply Kd.R_drewN | apply Kd.R_drew)); exact HO210.out) (Kd.R_base ho0) hb); have n1_ := Aside0.mk (Kd.R_lower (Kd.R_newB (Kd.R_new' ho0 (Kd.R_lt (by (with_reducible repeat (first | apply Kd.R_alloc | apply Kd.R_drewN | apply Kd.R_drew)); exact HO210.out))) (g := gb206) (o := .cells #[.int .i64 a1_0, .int .i64 a1_1, .int .i64 a1_2, .int .i64 a1_3, .int .i64 a1_4] 24 (0, 0)) (by (with_reducible repeat (first | refine blk_drewN ?_ _ | refine blk_drew ?_ | refine blk_alloc ?_ _)); exact BK206.out)) (below_size (by repeat (first | (with_reducible first | exact HB.out | apply below_alloc | apply pw_below_drewN | apply below_drew1 | refine below_set ?_ GE206.out) | exact HB.out)))); have n2_ := Aside0.mk (blk_below (g := gb206) (o := .cells #[.int .i64 a1_0, .int .i64 a1_1, .int .i64 a1_2, .int .i64 a1_3, .int .i64 a1_4] 24 (0, 0)) (by (with_reducible repeat (first | refine blk_drewN ?_ _ | refine blk_drew ?_ | refine blk_alloc ?_ _)); exact BK206.out) hb); have n3_ := Aside0.mk (below_step (by repeat (first | (with_reducible first | exact HB.out | apply below_alloc | apply pw_below_drewN | apply below_drew1 | refine below_set ?_ GE206.out) | exact HB.out)) hb); clear HO210; clear BK206; clear HB; have HO210 := n0_; have HO214 := n1_; have BK206 := n2_; have HB := n3_; clear n0_ n1_ n2_ n3_; (try clear hb); (try clear hb2); (try clear hk); (try clear hi); (try clear ho0)) | ((with_reducible refine gate_callee (f := 13) rfl ?_); refine goesL_ (some 43) rfl rfl Try.func13 (by kernel_rfl) rfl #[.slice A0 l0.length c0, .int .i64 a2, .int .i64 a3] rfl (by (try simp only [List.map_toArray, List.map_cons, List.map_nil]); first | done | rfl | (simp only [List.length_drop, List.length_take]; rfl)) ?_; (with_reducible refine (lease_Alive.calls _ _ l0 a2 a3 t216 t217 _ ?side1 ?side2 A11.out).mono ?_); (case side1 => repeat (first | exact (Kd.C_below HR0.out HB.out) | (with_reducible refine Kd.C_alloc ?_ _) | (with_reducible refine Kd.C_drewN ?_ _) | (with_reducible refine Kd.C_drew ?_))); (case side2 => exact HC0.out); rintro e w33 ⟨v218, rfl, ho0, hb⟩; refine ⟨_, rfl, ?_⟩; have n0_ := Aside0.mk (Kd.R_below (by (with_reducible repeat (first | apply Kd.R_alloc | apply Kd.R_drewN | apply Kd.R_drew)); exact HO210.out) hb); have n1_ := Aside0.mk (Kd.R_below (by (with_reducible repeat (first | apply Kd.R_alloc | apply Kd.R_drewN | apply Kd.R_drew)); exact HO214.out) hb); have n2_ := Aside0.mk (Kd.R_lower ho0 (below_size (by repeat (first | (with_reducible first | exact HB.out | apply below_alloc | apply pw_below_drewN | apply below_drew1 | refine below_set ?_ GE206.out) | exact HB.out)))); have n3_ := Aside0.mk (blk_below (g := gb206) (o := .cells #[.int .i64 a1_0, .int .i64 a1_1, .int .i64 a1_2, .int .i64 a1_3, .int .i64 a1_4] 24 (0, 0)) (by (with_reducible repeat (first | refine blk_drewN ?_ _ | refine blk_drew ?_ | refine blk_alloc ?_ _)); exact BK206.out) hb); have n4_ := Aside0.mk (below_step (by repeat (first | (with_reducible first | exact HB.out | apply below_alloc | apply pw_below_drewN | apply below_drew1 | refine below_set ?_ GE206.out) | exact HB.out)) hb); clear HO210; clear HO214; clear BK206; clear HB; have HO210 := n0_; have HO214 := n1_; have HO219 := n2_; have BK206 := n3_; have HB := n4_; clear n0_ n1_ n2_ n3_ n4_; (try clear hb); (try clear hb2); (try clear hk); (try clear hi); (try clear ho0)) | ((with_reducible refine gate_callee (f := 14) rfl ?_); refine goesL_ (some 50) rfl rfl Try.func14 (by kernel_rfl) rfl #[.slice A0 l0.length c0, .int .i64 a2, .int .i64 a3] rfl (by (try simp only [List.map_toArray, List.map_cons, List.map_nil]); first | done | rfl | (simp only [List.length_drop, List.length_take]; rfl)) ?_; (with_reducible refine (chargeparkref16_Alive.calls k _ _ l0 a2 a3 t220 t221 _ ?side1 ?side2 A12.out).mono ?_); (case side1 => repeat (first | exact (Kd.C_below HR0.out HB.out) | (with_reducible refine Kd.C_alloc ?_ _) | (with_reducible refine Kd.C_drewN ?_ _) | (with_reducible refine Kd.C_drew ?_))); (case side2 => exact HC0.out); rintro e w34 ⟨v222, rfl, ho0, hb⟩; refine ⟨_, rfl, ?_⟩; have n0_ := Aside0.mk (Kd.R_below (by (with_reducible repeat (first | apply Kd.R_alloc | apply Kd.R_drewN | apply Kd.R_drew)); exact HO210.out) hb); have n1_ := Aside0.mk (Kd.R_below (by (with_reducible repeat (first | apply Kd.R_alloc | apply Kd.R_drewN | apply Kd.R_drew)); exact HO214.out) hb); have n2_ := Aside0.mk (Kd.R_elder' (by (with_reducible repeat (first | apply Kd.R_alloc | apply Kd.R_drewN | apply Kd.R_drew)); exact HO219.out) (Kd.R_base ho0) hb); have n3_ := Aside0.mk (Kd.R_lower (Kd.R_new' ho0 (Kd.R_lt (by (with_reducible repeat (first | apply Kd.R_alloc | apply Kd.R_drewN | apply Kd.R_drew)); exact HO219.out))) (below_size (by repeat (first | (with_reducible first | exact HB.out | apply below_alloc | apply pw_below_drewN | apply below_drew1 | refine below_set ?_ GE206.out) | exact HB.out)))); have n4_ := Aside0.mk (blk_below (g := gb206) (o := .cells #[.int .i64 a1_0, .int .i64 a1_1, .int .i64 a1_2, .int .i64 a1_3, .int .i64 a1_4] 24 (0, 0)) (by (with_reducible repeat (first | refine blk_drewN ?_ _ | refine blk_drew ?_ | refine blk_alloc ?_ _)); exact BK206.out) hb); have n5_ := Aside0.mk (below_step (by repeat (first | (with_reducible first | exact HB.out | apply below_alloc | apply pw_below_drewN | apply below_drew1 | refine below_set ?_ GE206.out) | exact HB.out)) hb); clear HO210; clear HO214; clear HO219; clear BK206; clear HB; have HO210 := n0_; have HO214 := n1_; have HO219 := n2_; have HO223 := n3_; have BK206 := n4_; have HB := n5_; clear n0_ n1_ n2_ n3_ n4_ n5_; (try clear hb); (try clear hb2); (try clear hk); (try clear hi); (try clear ho0)) | ((with_reducible refine gate_callee (f := 15) rfl ?_); refine goesL_ (some 56) rfl rfl Try.func15 (by kernel_rfl) rfl #[.slice A0 l0.length c0, .int .i64 a3] rfl (by (try simp only [List.map_toArray, List.map_cons, List.map_nil]); first | done | rfl | (simp only [List.length_drop, List.length_take]; rfl)) ?_; (with_reducible refine (lease_Expire.calls _ _ l0 a3 t224 t225 _ ?side1 ?side2 A13.out).mono ?_); (case side1 => repeat (first | exact (Kd.C_below HR0.out HB.out) | (with_reducible refine Kd.C_alloc ?_ _) | (with_reducible refine Kd.C_drewN ?_ _) | (with_reducible refine Kd.C_drew ?_))); (case side2 => exact HC0.out); rintro e w35 ⟨v226, rfl, ho0, hb⟩; refine ⟨_, rfl, ?_⟩; have n0_ := Aside0.mk (Kd.R_elder' (by (with_reducible repeat (first | apply Kd.R_alloc | apply Kd.R_drewN | apply Kd.R_drew)); exact HO210.out) (Kd.R_base ho0) hb); have n1_ := Aside0.mk (Kd.R_elder' (by (with_reducible repeat (first | apply Kd.R_alloc | apply Kd.R_drewN | apply Kd.R_drew)); exact HO214.out) (Kd.R_base ho0) hb); have n2_ := Aside0.mk (Kd.R_below (by (with_reducible repeat (first | apply Kd.R_alloc | apply Kd.R_drewN | apply Kd.R_drew)); exact HO219.out) hb); have n3_ := Aside0.mk (Kd.R_below (by (with_reducible repeat (first | apply Kd.R_alloc | apply Kd.R_drewN | apply Kd.R_drew)); exact HO223.out) hb); have n4_ := Aside0.mk (Kd.R_lower (Kd.R_newB (Kd.R_new' (Kd.R_new' ho0 (Kd.R_lt (by (with_reducible repeat (first | apply Kd.R_alloc | apply Kd.R_drewN | apply Kd.R_drew)); exact HO210.out))) (Kd.R_lt (by (with_reducible repeat (first | apply Kd.R_alloc | apply Kd.R_drewN | apply Kd.R_drew)); exact HO214.out))) (g := gb206) (o := .cells #[.int .i64 a1_0, .int .i64 a1_1, .int .i64 a1_2, .int .i64 a1_3, .int .i64 a1_4] 24 (0, 0)) (by (with_reducible repeat (first | refine blk_drewN ?_ _ | refine blk_drew ?_ | refine blk_alloc ?_ _)); exact BK206.out)) (below_size (by repeat (first | (with_reducible first | exact HB.out | apply below_alloc | apply pw_below_drewN | apply below_drew1 | refine below_set ?_ GE206.out) | exact HB.out)))); have n5_ := Aside0.mk (blk_below (g := gb206) (o := .cells #[.int .i64 a1_0, .int .i64 a1_1, .int .i64 a1_2, .int .i64 a1_3, .int .i64 a1_4] 24 (0, 0)) (by (with_reducible repeat (first | refine blk_drewN ?_ _ | refine blk_drew ?_ | refine blk_alloc ?_ _)); exact BK206.out) hb); have n6_ := Aside0.mk (below_step (by repeat (first | (with_reducible first | exact HB.out | apply below_alloc | apply pw_below_drewN | apply below_drew1 | refine below_set ?_ GE206.out) | exact HB.out)) hb); clear HO210; clear HO214; clear HO219; clear HO223; clear BK206; clear HB; have HO210 := n0_; have HO214 := n1_; have HO219 := n2_; have HO223 := n3_; have HO227 := n4_; have BK206 := n5_; have HB := n6_; clear n0_ n1_ n2_ n3_ n4_ n5_ n6_; (try clear hb); (try clear hb2); (try clear hk); (try clear hi); (try clear ho0)) | ((with_reducible refine gate_callee (f := 16) rfl ?_); refine goesL_ (some 62) rfl rfl Try.func16 (by kernel_rfl) rfl #[.slice A0 l0.length c0, .int .i64 a3] rfl (by (try simp only [List.map_toArray, List.map_cons, List.map_nil]); first | done | rfl | (simp only [List.length_drop, List.length_take]; rfl)) ?_; (with_reducible refine (chargeparkref16_Expire.calls k _ _ l0 a3 t228 t229 _ ?side1 ?side2 A14.out).mono ?_); (case side1 => repeat (first | exact (Kd.C_below HR0.out HB.out) | (with_reducible refine Kd.C_alloc ?_ _) | (with_reducible refine Kd.C_drewN ?_ _) | (with_reducible refine Kd.C_drew ?_))); (case side2 => exact HC0.out); rintro e w36 ⟨v230, rfl, ho0, hb⟩; refine ⟨_, rfl, ?_⟩; have n0_ := Aside0.mk (Kd.R_elder' (by (with_reducible repeat (first | apply Kd.R_alloc | apply Kd.R_drewN | apply Kd.R_drew)); exact HO210.out) (Kd.R_base ho0) hb); have n1_ := Aside0.mk (Kd.R_elder' (by (with_reducible repeat (first | apply Kd.R_alloc | apply Kd.R_drewN | apply Kd.R_drew)); exact HO214.out) (Kd.R_base ho0) hb); have n2_ := Aside0.mk (Kd.R_below (by (with_reducible repeat (first | apply Kd.R_alloc | apply Kd.R_drewN | apply Kd.R_drew)); exact HO219.out) hb); have n3_ := Aside0.mk (Kd.R_below (by (with_reducible repeat (first | apply Kd.R_alloc | apply Kd.R_drewN | apply Kd.R_drew)); exact HO223.out) hb); have n4_ := Aside0.mk (Kd.R_elder' (by (with_reducible repeat (first | apply Kd.R_alloc | apply Kd.R_drewN | apply Kd.R_drew)); exact HO227.out) (Kd.R_base ho0) hb); have n5_ := Aside0.mk (Kd.R_lower (Kd.R_newB (Kd.R_new' (Kd.R_new' (Kd.R_new' ho0 (Kd.R_lt (by (with_reducible repeat (first | apply Kd.R_alloc | apply Kd.R_drewN | apply Kd.R_drew)); exact HO210.out))) (Kd.R_lt (by (with_reducible repeat (first | apply Kd.R_alloc | apply Kd.R_drewN | apply Kd.R_drew)); exact HO214.out))) (Kd.R_lt (by (with_reducible repeat (first | apply Kd.R_alloc | apply Kd.R_drewN | apply Kd.R_drew)); exact HO227.out))) (g := gb206) (o := .cells #[.int .i64 a1_0, .int .i64 a1_1, .int .i64 a1_2, .int .i64 a1_3, .int .i64 a1_4] 24 (0, 0)) (by (with_reducible repeat (first | refine blk_drewN ?_ _ | refine blk_drew ?_ | refine blk_alloc ?_ _)); exact BK206.out)) (below_size (by repeat (first | (with_reducible first | exact HB.out | apply below_alloc | apply pw_below_drewN | apply below_drew1 | refine below_set ?_ GE206.out) | exact HB.out)))); have n6_ := Aside0.mk (blk_below (g := gb206) (o := .cells #[.int .i64 a1_0, .int .i64 a1_1, .int .i64 a1_2, .int .i64 a1_3, .int .i64 a1_4] 24 (0, 0)) (by (with_reducible repeat (first | refine blk_drewN ?_ _ | refine blk_drew ?_ | refine blk_alloc ?_ _)); exact BK206.out) hb); have n7_ := Aside0.mk (below_step (by repeat (first | (with_reducible first | exact HB.out | apply below_alloc | apply pw_below_drewN | apply below_drew1 | refine below_set ?_ GE206.out) | exact HB.out)) hb); clear HO210; clear HO214; clear HO219; clear HO223; clear HO227; clear BK206; clear HB; have HO210 := n0_; have HO214 := n1_; have HO219 := n2_; have HO223 := n3_; have HO227 := n4_; have HO231 := n5_; have BK206 := n6_; have HB := n7_; clear n0_ n1_ n2_ n3_ n4_ n5_ n6_ n7_; (try clear hb); (try clear hb2); (try clear hk); (try clear hi); (try clear ho0)) | (go_at_call 17; (with_reducible refine (lease_Valid.calls _ _ l0 t232 _ ?side1 ?side2 A16.out).mono ?_); (case side1 => repeat (first | exact (Kd.C_below HR0.out HB.out) | (with_reducible refine Kd.C_alloc ?_ _) | (with_reducible refine Kd.C_drewN ?_ _) | (with_reducible refine Kd.C_drew ?_))); (case side2 => exact HC0.out); rintro e w37 ⟨rfl, hb⟩; have n0_ := Aside0.mk (Kd.R_below (by (with_reducible repeat (first | apply Kd.R_alloc | apply Kd.R_drewN | apply Kd.R_drew)); exact HO210.out) hb); have n1_ := Aside0.mk (Kd.R_below (by (with_reducible repeat (first | apply Kd.R_alloc | apply Kd.R_drewN | apply Kd.R_drew)); exact HO214.out) hb); have n2_ := Aside0.mk (Kd.R_below (by (with_reducible repeat (first | apply Kd.R_alloc | apply Kd.R_drewN | apply Kd.R_drew)); exact HO219.out) hb); have n3_ := Aside0.mk (Kd.R_below (by (with_reducible repeat (first | apply Kd.R_alloc | apply Kd.R_drewN | apply Kd.R_drew)); exact HO223.out) hb); have n4_ := Aside0.mk (Kd.R_below (by (with_reducible repeat (first | apply Kd.R_alloc | apply Kd.R_drewN | apply Kd.R_drew)); exact HO227.out) hb); have n5_ := Aside0.mk (Kd.R_below (by (with_reducible repeat (first | apply Kd.R_alloc | apply Kd.R_drewN | apply Kd.R_drew)); exact HO231.out) hb); have n6_ := Aside0.mk (blk_below (g := gb206) (o := .cells #[.int .i64 a1_0, .int .i64 a1_1, .int .i64 a1_2, .int .i64 a1_3, .int .i64 a1_4] 24 (0, 0)) (by (with_reducible repeat (first | refine blk_drewN ?_ _ | refine blk_drew ?_ | refine blk_alloc ?_ _)); exact BK206.out) hb); have n7_ := Aside0.mk (below_step (by repeat (first | (with_reducible first | exact HB.out | apply below_alloc | apply pw_below_drewN | apply below_drew1 | refine below_set ?_ GE206.out) | exact HB.out)) hb); clear HO210; clear HO214; clear HO219; clear HO223; clear HO227; clear HO231; clear BK206; clear HB; have HO210 := n0_; have HO214 := n1_; have HO219 := n2_; have HO223 := n3_; have HO227 := n4_; have HO231 := n5_; have BK206 := n6_; have HB := n7_; clear n0_ n1_ n2_ n3_ n4_ n5_ n6_ n7_; (try clear hb); (try clear hb2); (try clear hk); (try clear hi)) | (go_at_call 18; (with_reducible refine (chargeparkref16_Valid.calls k _ _ l0 t233 _ ?side1 ?side2 A17.out).mono ?_); (case side1 => repeat (first | exact (Kd.C_below HR0.out HB.out) | (with_reducible refine Kd.C_alloc ?_ _) | (with_reducible refine Kd.C_drewN ?_ _) | (with_reducible refine Kd.C_drew ?_))); (case side2 => exact HC0.out); rintro e w38 ⟨rfl, hb⟩; have n0_ := Aside0.mk (Kd.R_below (by (with_reducible repeat (first | apply Kd.R_alloc | apply Kd.R_drewN | apply Kd.R_drew)); exact HO210.out) hb); have n1_ := Aside0.mk (Kd.R_below (by (with_reducible repeat (first | apply Kd.R_alloc | apply Kd.R_drewN | apply Kd.R_drew)); exact HO214.out) hb); have n2_ := Aside0.mk (Kd.R_below (by (with_reducible repeat (first | apply Kd.R_alloc | apply Kd.R_drewN | apply Kd.R_drew)); exact HO219.out) hb); have n3_ := Aside0.mk (Kd.R_below (by (with_reducible repeat (first | apply Kd.R_alloc | apply Kd.R_drewN | apply Kd.R_drew)); exact HO223.out) hb); have n4_ := Aside0.mk (Kd.R_below (by (with_reducible repeat (first | apply Kd.R_alloc | apply Kd.R_drewN | apply Kd.R_drew)); exact HO227.out) hb); have n5_ := Aside0.mk (Kd.R_below (by (with_reducible repeat (first | apply Kd.R_alloc | apply Kd.R_drewN | apply Kd.R_drew)); exact HO231.out) hb); have n6_ := Aside0.mk (blk_below (g := gb206) (o := .cells #[.int .i64 a1_0, .int .i64 a1_1, .int .i64 a1_2, .int .i64 a1_3, .int .i64 a1_4] 24 (0, 0)) (by (with_reducible repeat (first | refine blk_drewN ?_ _ | refine blk_drew ?_ | refine blk_alloc ?_ _)); exact BK206.out) hb); have n7_ := Aside0.mk (below_step (by repeat (first | (with_reducible first | exact HB.out | apply below_alloc | apply pw_below_drewN | apply below_drew1 | refine below_set ?_ GE206.out) | exact HB.out)) hb); clear HO210; clear HO214; clear HO219; clear HO223; clear HO227; clear HO231; clear BK206; clear HB; have HO210 := n0_; have HO214 := n1_; have HO219 := n2_; have HO223 := n3_; have HO227 := n4_; have HO231 := n5_; have BK206 := n6_; have HB := n7_; clear n0_ n1_ n2_ n3_ n4_ n5_ n6_ n7_; (try clear hb); (try clear hb2); (try clear hk); (try clear hi); obtain ⟨Ao39, co39, eo39⟩ := Kd.R_slice HO210.out; subst eo39; obtain ⟨Ao40, co40, eo40⟩ := Kd.R_slice HO214.out; subst eo40) | (go_at_call 19; (with_reducible refine (chargeparkref16_Same.calls k _ _ t208 _ _ t212 true _ ?side1 ?side2 ?side3 ?side4 A19.out).mono ?_); (case side1 => repeat (first | exact (Kd.R_reads' HO210.out).2.2 | (with_reducible refine Kd.C_alloc ?_ _) | (with_reducible refine Kd.C_drewN ?_ _) | (with_reducible refine Kd.C_drew ?_))); (case side2 => exact (Kd.R_reads' HO210.out).2.1); (case side3 => repeat (first | exact (Kd.R_reads' HO214.out).2.2 | (with_reducible refine Kd.C_alloc ?_ _) | (with_reducible refine Kd.C_drewN ?_ _) | (with_reducible refine Kd.C_drew ?_))); (case side4 => exact (Kd.R_reads' HO214.out).2.1); rintro e w' ⟨rfl, ⟨nd, rfl⟩⟩; obtain ⟨Ao41, co41, eo41⟩ := Kd.R_slice HO219.out; subst eo41; obtain ⟨Ao42, co42, eo42⟩ := Kd.R_slice HO223.out; subst eo42) | (go_at_call 20; (with_reducible refine (chargeparkref16_Ints.calls k _ _ t216 _ _ t220 true _ ?side1 ?side2 ?side3 ?side4 A22.out).mono ?_); (case side1 => repeat (first | exact (Kd.R_reads' HO219.out).2.2 | (with_reducible refine Kd.C_alloc ?_ _) | (with_reducible refine Kd.C_drewN ?_ _) | (with_reducible refine Kd.C_drew ?_))); (case side2 => exact (Kd.R_reads' HO219.out).2.1); (case side3 => repeat (first | exact (Kd.R_reads' HO223.out).2.2 | (with_reducible refine Kd.C_alloc ?_ _) | (with_reducible refine Kd.C_drewN ?_ _) | (with_reducible refine Kd.C_drew ?_))); (case side4 => exact (Kd.R_reads' HO223.out).2.1); rintro e w' ⟨rfl, ⟨nd, rfl⟩⟩; obtain ⟨Ao43, co43, eo43⟩ := Kd.R_slice HO227.out; subst eo43; obtain ⟨Ao44, co44, eo44⟩ := Kd.R_slice HO231.out; subst eo44) | (go_at_call 19; (with_reducible refine (chargeparkref16_Same.calls k _ _ t224 _ _ t228 true _ ?side1 ?side2 ?side3 ?side4 A25.out).mono ?_); (case side1 => repeat (first | exact (Kd.R_reads' HO227.out).2.2 | (with_reducible refine Kd.C_alloc ?_ _) | (with_reducible refine Kd.C_drewN ?_ _) | (with_reducible refine Kd.C_drew ?_))); (case side2 => exact (Kd.R_reads' HO227.out).2.1); (case side3 => repeat (first | exact (Kd.R_reads' HO231.out).2.2 | (with_reducible refine Kd.C_alloc ?_ _) | (with_reducible refine Kd.C_drewN ?_ _) | (with_reducible refine Kd.C_drew ?_))); (case side4 => exact (Kd.R_reads' HO231.out).2.1); rintro e w' ⟨rfl, ⟨nd, rfl⟩⟩))
                  go_ret
                  exact ⟨by first | rfl | (simp [errW_none, errW_some] <;> rfl) | (simp [*, errW_none, errW_some] <;> rfl), by repeat (first | (with_reducible first | exact HB.out | apply below_alloc | apply pw_below_drewN | apply below_drew1 | refine below_set ?_ GE206.out) | exact HB.out)⟩
                · replace c26 := Bool.eq_false_iff.mpr c26
                  subst c26
                  have H1 : (none) = some r := by rw [if_neg (show ¬ (false = true) by decide)] at H; exact H
                  clear H
                  have H := H1
                  clear H1
                  exact absurd H (by simp)
              · rw [if_neg c24] at H
                exact absurd H (by simp)
            · replace c23 := Bool.eq_false_iff.mpr c23
              subst c23
              have H1 : (none) = some r := by rw [if_neg (show ¬ (false = true) by decide)] at H; exact H
              clear H
              have H := H1
              clear H1
              exact absurd H (by simp)
          · rw [if_neg c21] at H
            exact absurd H (by simp)
        · replace c20 := Bool.eq_false_iff.mpr c20
          subst c20
          have H1 : (none) = some r := by rw [if_neg (show ¬ (false = true) by decide)] at H; exact H
          clear H
          have H := H1
          clear H1
          exact absurd H (by simp)
      · rw [if_neg c18] at H
        exact absurd H (by simp)
    · replace c15 := Bool.eq_false_iff.mpr c15
      subst c15
      have H1 : (none) = some r := by rw [if_neg (show ¬ (false = true) by decide)] at H; exact H
      clear H
      have H := H1
      clear H1
      exact absurd H (by simp)

/-- THE ONE PURE STATEMENT of chargeparklaw16_LeaseMatchesReference: yours. -/
def chargeparklaw16_LeaseMatchesReference.Pure : Prop := ∀ (l0 : List (S24)) (a1 : S24) (a2 : Int) (a3 : Int), l0.length ≤ maxLen → (∀ y ∈ l0, ok24 y) → ok24 a1 → (Lit.int .i64 a2).wf = true → (Lit.int .i64 a3).wf = true → ∃ k, chargeparklaw16_LeaseMatchesReference.f k l0 a1.f0 a1.f1 a1.f2 a1.f3 a1.f4 a2 a3 = some true
theorem chargeparklaw16_LeaseMatchesReference.walk (P : chargeparklaw16_LeaseMatchesReference.Pure) (A0 : Option Addr) (c0 : Nat) (l0 : List (S24)) (a1 : S24) (a2 : Int) (a3 : Int) (w : World) (hC0 : Kd.C k24 w A0 l0.length l0) (hc0 : l0.length ≤ c0) (hm0 : l0.length ≤ maxLen) (ho0 : ∀ y ∈ l0, ok24 y) (ho1 : ok24 a1) (w2 : (Lit.int .i64 a2).wf = true) (w3 : (Lit.int .i64 a3).wf = true) :
    Calls Try.prog 3 #[.slice A0 l0.length c0, .agg #[.int .i64 a1.f0, .int .i64 a1.f1, .int .i64 a1.f2, .int .i64 a1.f3, .int .i64 a1.f4], .int .i64 a2, .int .i64 a3] w fun e w' => e = .returned (.bool true) ∧ Below w.heap.size w w' := by
  obtain ⟨k, h⟩ := P l0 a1 a2 a3 hm0 ho0 ho1 w2 w3
  refine (chargeparklaw16_LeaseMatchesReference.calls k _ _ l0 a1.f0 a1.f1 a1.f2 a1.f3 a1.f4 a2 a3 true w hC0 hc0 h).mono ?_
  rintro e w' ⟨rfl, hd⟩
  exact ⟨rfl, hd⟩


/-! ### chargeparklaw16_LeaseExpiring: function 4 -/
def chargeparklaw16_LeaseExpiring.j0 : Nat → List (S24) → Int → Int → Bool → Bool → Option (Bool)
  | 0, _, _, _, _, _ => none
  | k + 1, x0, x1, x2, x7, x35 => if x35 = true then (some x7) else ((lease_Expire.f x0 x1).bind fun bt239 => ((lease_Alive.f x0 16 x2).bind fun bt243 => ((lease_Alive.f bt239.1 16 x2).bind fun bt247 => (if x7 = true then (if bt239.2 = 0 then (if bt243.2 = 0 then (if bt247.2 = 0 then (if (bt239.1.length : Int) ≤ (x0.length : Int) then ((chargeparkref16_Ints.f k bt243.1 bt247.1).bind fun t251 => (some t251)) else (none)) else (none)) else (none)) else (none)) else (none)))))
def chargeparklaw16_LeaseExpiring.f (k : Nat) (l0 : List (S24)) (a1 : Int) (a2 : Int) : Option (Bool) := (chargeparklaw16_head.f k).bind fun t237 => (if (l0.length : Int) > 100 then (chargeparklaw16_LeaseExpiring.j0 k l0 a1 a2 t237 true) else ((chargeparkref16_Valid.f k l0).bind fun t238 => (if t238 = true then (if a1 < 0 then (chargeparklaw16_LeaseExpiring.j0 k l0 a1 a2 t237 true) else (if a2 < a1 then (chargeparklaw16_LeaseExpiring.j0 k l0 a1 a2 t237 true) else (chargeparklaw16_LeaseExpiring.j0 k l0 a1 a2 t237 (decide (a2 > 1100000))))) else (chargeparklaw16_LeaseExpiring.j0 k l0 a1 a2 t237 true))))
theorem chargeparklaw16_LeaseExpiring.mono_l : ∀ k, (∀ y0 y1 y2 y3 y4, LeO (chargeparklaw16_LeaseExpiring.j0 k y0 y1 y2 y3 y4) (chargeparklaw16_LeaseExpiring.j0 (k + 1) y0 y1 y2 y3 y4))
  | 0 => fun _ _ _ _ _ r h => by simp [chargeparklaw16_LeaseExpiring.j0] at h
  | k + 1 => by
    have ih0 := chargeparklaw16_LeaseExpiring.mono_l k
    · intro y0 y1 y2 y3 y4
      unfold chargeparklaw16_LeaseExpiring.j0
      repeat' first
      | (with_reducible exact ih0 _ _ _ _ _)
      | (with_reducible exact chargeparklaw16_head.mono _)
      | (with_reducible exact chargeparkref16_Ints.mono _ _ _)
      | (with_reducible exact chargeparkref16_Valid.mono _ _)
      | (with_reducible exact LeO.refl _)
      | (with_reducible exact LeO.none _)
      | (with_reducible refine LeO.ite ?_ ?_)
      | (with_reducible refine LeO.bind ?_ (fun _ => ?_))
      | exact ih0 _ _ _ _ _
      | exact chargeparklaw16_head.mono _
      | exact chargeparkref16_Ints.mono _ _ _
      | exact chargeparkref16_Valid.mono _ _
      | exact LeO.none _
      | refine LeO.ite ?_ ?_
      | refine LeO.bind ?_ (fun _ => ?_)
theorem chargeparklaw16_LeaseExpiring.mono : ∀ a0 a1 a2 k, LeO (chargeparklaw16_LeaseExpiring.f k a0 a1 a2) (chargeparklaw16_LeaseExpiring.f (k + 1) a0 a1 a2) := by
  intro a0 a1 a2 k
  have ih0 := chargeparklaw16_LeaseExpiring.mono_l k
  unfold chargeparklaw16_LeaseExpiring.f
  repeat' first
      | (with_reducible exact ih0 _ _ _ _ _)
      | (with_reducible exact chargeparklaw16_head.mono _)
      | (with_reducible exact chargeparkref16_Ints.mono _ _ _)
      | (with_reducible exact chargeparkref16_Valid.mono _ _)
      | (with_reducible exact LeO.refl _)
      | (with_reducible exact LeO.none _)
      | (with_reducible refine LeO.ite ?_ ?_)
      | (with_reducible refine LeO.bind ?_ (fun _ => ?_))
      | exact ih0 _ _ _ _ _
      | exact chargeparklaw16_head.mono _
      | exact chargeparkref16_Ints.mono _ _ _
      | exact chargeparkref16_Valid.mono _ _
      | exact LeO.none _
      | refine LeO.ite ?_ ?_
      | refine LeO.bind ?_ (fun _ => ?_)
set_option maxHeartbeats 8000000 in
set_option maxRecDepth 100000 in
theorem chargeparklaw16_LeaseExpiring.calls (k : Nat) (A0 : Option Addr) (c0 : Nat) (l0 : List (S24)) (a1 : Int) (a2 : Int) (r : Bool) (w : World) (hr0 : Kd.C k24 w A0 l0.length l0) (hc0 : l0.length ≤ c0) (h : chargeparklaw16_LeaseExpiring.f k l0 a1 a2 = some r) :
    Calls Try.prog 4 #[.slice A0 l0.length c0, .int .i64 a1, .int .i64 a2] w fun e w' => e = .returned (.bool r) ∧ Below w.heap.size w w' := by
  have HR0 := Aside0.mk hr0
  have HC0 := Aside0.mk hc0
  clear hr0 hc0
  have HB := Aside0.mk (Below.refl w.heap.size w)
  have H : ((chargeparklaw16_head.f k).bind fun t237 => (if (l0.length : Int) > 100 then (chargeparklaw16_LeaseExpiring.j0 k l0 a1 a2 t237 true) else ((chargeparkref16_Valid.f k l0).bind fun t238 => (if t238 = true then (if a1 < 0 then (chargeparklaw16_LeaseExpiring.j0 k l0 a1 a2 t237 true) else (if a2 < a1 then (chargeparklaw16_LeaseExpiring.j0 k l0 a1 a2 t237 true) else (chargeparklaw16_LeaseExpiring.j0 k l0 a1 a2 t237 (decide (a2 > 1100000))))) else (chargeparklaw16_LeaseExpiring.j0 k l0 a1 a2 t237 true))))) = some r := h
  clear h
  replace H := Option.bind_eq_some_iff.mp H
  obtain ⟨t237, A40, H⟩ := H
  replace H : (if (l0.length : Int) > 100 then (chargeparklaw16_LeaseExpiring.j0 k l0 a1 a2 t237 true) else ((chargeparkref16_Valid.f k l0).bind fun t238 => (if t238 = true then (if a1 < 0 then (chargeparklaw16_LeaseExpiring.j0 k l0 a1 a2 t237 true) else (if a2 < a1 then (chargeparklaw16_LeaseExpiring.j0 k l0 a1 a2 t237 true) else (chargeparklaw16_LeaseExpiring.j0 k l0 a1 a2 t237 (decide (a2 > 1100000))))) else (chargeparklaw16_LeaseExpiring.j0 k l0 a1 a2 t237 true)))) = some r := H
  have A4 := Aside0.mk A40
  clear A40
  have HC5 := Aside0.mk H
  clear H
  go_enter Try.func4, Try.ntmps4
  go_upto_region 2 with (first | ((with_reducible refine gate_callee (f := 10) rfl ?_); refine goesL_ (some 14) rfl rfl Try.func10 (by kernel_rfl) rfl #[] rfl (by (try simp only [List.map_toArray, List.map_cons, List.map_nil]); first | done | rfl | (simp only [List.length_drop, List.length_take]; rfl)) ?_; (with_reducible refine (chargeparklaw16_head.calls k  t237 _ A4.out).mono ?_); rintro e w6 ⟨rfl, hb⟩; refine ⟨_, rfl, ?_⟩; have n0_ := Aside0.mk (below_step (by repeat (first | (with_reducible first | exact HB.out | apply below_alloc | apply pw_below_drewN | apply below_drew1) | exact HB.out)) hb); clear HB; have HB := n0_; clear n0_; (try clear hb); (try clear hb2); (try clear hk); (try clear hi)))
  (try simp only [Act.put, List.setIfInBounds_toArray, List.set_cons_zero, List.set_cons_succ])
  go_cut [35] (fun v35 wc => ∃ (kq : Nat) (x35_4 : Bool), v35 = .bool x35_4 ∧ Aside0 (chargeparklaw16_LeaseExpiring.j0 kq l0 a1 a2 t237 x35_4 = some r) ∧ Aside0 (kq ≤ k) ∧ Aside0 (Below w.heap.size w wc))
  case first =>
    have H := HC5.out
    clear HC5
    by_cases c7 : (l0.length : Int) > 100
    · rw [if_pos c7] at H
      have c7b0 : decide (100 < (l0.length : Int)) = true := decide_eq_true c7
      have c7b1 : decide (100 < l0.length) = true := decide_eq_true (by omega)
      clear c7
      (first | rw [c7b0] | (simp only [i64_w, i32_w]; rw [c7b0]) | skip)
      have H' := Aside0.mk H
      clear H
      go_wp2
      go_meet
      case rel => exact ⟨_, (true), (by first | rfl | (simp; done) | (simp [*]; done)), H', ⟨by first | omega | exact Nat.le_refl _⟩, ⟨by repeat (first | (with_reducible first | exact HB.out | apply below_alloc | apply pw_below_drewN | apply below_drew1) | exact HB.out)⟩⟩
    · rw [if_neg c7] at H
      have c7b0 : decide (100 < (l0.length : Int)) = false := decide_eq_false c7
      have c7b1 : decide (100 < l0.length) = false := decide_eq_false (by omega)
      clear c7
      (first | rw [c7b0] | (simp only [i64_w, i32_w]; rw [c7b0]) | skip)
      replace H := Option.bind_eq_some_iff.mp H
      obtain ⟨t238, A80, H⟩ := H
      replace H : (if t238 = true then (if a1 < 0 then (chargeparklaw16_LeaseExpiring.j0 k l0 a1 a2 t237 true) else (if a2 < a1 then (chargeparklaw16_LeaseExpiring.j0 k l0 a1 a2 t237 true) else (chargeparklaw16_LeaseExpiring.j0 k l0 a1 a2 t237 (decide (a2 > 1100000))))) else (chargeparklaw16_LeaseExpiring.j0 k l0 a1 a2 t237 true)) = some r := H
      have A8 := Aside0.mk A80
      clear A80
      by_cases c9 : t238 = true
      · subst c9
        have H1 : (if a1 < 0 then (chargeparklaw16_LeaseExpiring.j0 k l0 a1 a2 t237 true) else (if a2 < a1 then (chargeparklaw16_LeaseExpiring.j0 k l0 a1 a2 t237 true) else (chargeparklaw16_LeaseExpiring.j0 k l0 a1 a2 t237 (decide (a2 > 1100000))))) = some r := by rw [if_pos rfl] at H; exact H
        clear H
        have H := H1
        clear H1
        by_cases c10 : a1 < 0
        · rw [if_pos c10] at H
          have c10b0 : decide (a1 < 0) = true := decide_eq_true c10
          clear c10
          have H' := Aside0.mk H
          clear H
          go_wp2_with (first | (go_at_call 18; (with_reducible refine (chargeparkref16_Valid.calls k _ _ l0 true _ ?side1 ?side2 A8.out).mono ?_); (case side1 => repeat (first | exact (Kd.C_below HR0.out HB.out) | (with_reducible refine Kd.C_alloc ?_ _) | (with_reducible refine Kd.C_drewN ?_ _) | (with_reducible refine Kd.C_drew ?_))); (case side2 => exact HC0.out); rintro e w11 ⟨rfl, hb⟩; have n0_ := Aside0.mk (below_step (by repeat (first | (with_reducible first | exact HB.out | apply below_alloc | apply pw_below_drewN | apply below_drew1) | exact HB.out)) hb); clear HB; have HB := n0_; clear n0_; (try clear hb); (try clear hb2); (try clear hk); (try clear hi)))
          go_meet
          case rel => exact ⟨_, (true), (by first | rfl | (simp; done) | (simp [*]; done)), H', ⟨by first | omega | exact Nat.le_refl _⟩, ⟨by repeat (first | (with_reducible first | exact HB.out | apply below_alloc | apply pw_below_drewN | apply below_drew1) | exact HB.out)⟩⟩
        · rw [if_neg c10] at H
          have c10b0 : decide (a1 < 0) = false := decide_eq_false c10
          clear c10
          by_cases c12 : a2 < a1
          · rw [if_pos c12] at H
            have c12b0 : decide (a2 < a1) = true := decide_eq_true c12
            clear c12
            have H' := Aside0.mk H
            clear H
            go_wp2_with (first | (go_at_call 18; (with_reducible refine (chargeparkref16_Valid.calls k _ _ l0 true _ ?side1 ?side2 A8.out).mono ?_); (case side1 => repeat (first | exact (Kd.C_below HR0.out HB.out) | (with_reducible refine Kd.C_alloc ?_ _) | (with_reducible refine Kd.C_drewN ?_ _) | (with_reducible refine Kd.C_drew ?_))); (case side2 => exact HC0.out); rintro e w13 ⟨rfl, hb⟩; have n0_ := Aside0.mk (below_step (by repeat (first | (with_reducible first | exact HB.out | apply below_alloc | apply pw_below_drewN | apply below_drew1) | exact HB.out)) hb); clear HB; have HB := n0_; clear n0_; (try clear hb); (try clear hb2); (try clear hk); (try clear hi)))
            go_meet
            case rel => exact ⟨_, (true), (by first | rfl | (simp; done) | (simp [*]; done)), H', ⟨by first | omega | exact Nat.le_refl _⟩, ⟨by repeat (first | (with_reducible first | exact HB.out | apply below_alloc | apply pw_below_drewN | apply below_drew1) | exact HB.out)⟩⟩
          · rw [if_neg c12] at H
            have c12b0 : decide (a2 < a1) = false := decide_eq_false c12
            clear c12
            have H' := Aside0.mk H
            clear H
            go_wp2_with (first | (go_at_call 18; (with_reducible refine (chargeparkref16_Valid.calls k _ _ l0 true _ ?side1 ?side2 A8.out).mono ?_); (case side1 => repeat (first | exact (Kd.C_below HR0.out HB.out) | (with_reducible refine Kd.C_alloc ?_ _) | (with_reducible refine Kd.C_drewN ?_ _) | (with_reducible refine Kd.C_drew ?_))); (case side2 => exact HC0.out); rintro e w14 ⟨rfl, hb⟩; have n0_ := Aside0.mk (below_step (by repeat (first | (with_reducible first | exact HB.out | apply below_alloc | apply pw_below_drewN | apply below_drew1) | exact HB.out)) hb); clear HB; have HB := n0_; clear n0_; (try clear hb); (try clear hb2); (try clear hk); (try clear hi)))
            go_meet
            case rel => exact ⟨_, (decide (a2 > 1100000)), (by first | rfl | (simp; done) | (simp [*]; done)), H', ⟨by first | omega | exact Nat.le_refl _⟩, ⟨by repeat (first | (with_reducible first | exact HB.out | apply below_alloc | apply pw_below_drewN | apply below_drew1) | exact HB.out)⟩⟩
      · replace c9 := Bool.eq_false_iff.mpr c9
        subst c9
        have H1 : (chargeparklaw16_LeaseExpiring.j0 k l0 a1 a2 t237 true) = some r := by rw [if_neg (show ¬ (false = true) by decide)] at H; exact H
        clear H
        have H := H1
        clear H1
        have H' := Aside0.mk H
        clear H
        go_wp2_with (first | (go_at_call 18; (with_reducible refine (chargeparkref16_Valid.calls k _ _ l0 false _ ?side1 ?side2 A8.out).mono ?_); (case side1 => repeat (first | exact (Kd.C_below HR0.out HB.out) | (with_reducible refine Kd.C_alloc ?_ _) | (with_reducible refine Kd.C_drewN ?_ _) | (with_reducible refine Kd.C_drew ?_))); (case side2 => exact HC0.out); rintro e w15 ⟨rfl, hb⟩; have n0_ := Aside0.mk (below_step (by repeat (first | (with_reducible first | exact HB.out | apply below_alloc | apply pw_below_drewN | apply below_drew1) | exact HB.out)) hb); clear HB; have HB := n0_; clear n0_; (try clear hb); (try clear hb2); (try clear hk); (try clear hi)))
        go_meet
        case rel => exact ⟨_, (true), (by first | rfl | (simp; done) | (simp [*]; done)), H', ⟨by first | omega | exact Nat.le_refl _⟩, ⟨by repeat (first | (with_reducible first | exact HB.out | apply below_alloc | apply pw_below_drewN | apply below_drew1) | exact HB.out)⟩⟩
  case rest =>
    clear HC5
    try clear c1
    try clear p2
    try clear c4
    try clear c7
    try clear c7b0
    try clear c7b1
    try clear c9
    try clear c10
    try clear c10b0
    try clear c12
    try clear c12b0
    obtain ⟨kq, x35_4, rfl, HA, HJ4, HB⟩ := hcut
    cases kq with
    | zero => exact absurd HA.out (by simp [chargeparklaw16_LeaseExpiring.j0])
    | succ kj4 =>
      have H := HA.out
      clear HA
      simp only [chargeparklaw16_LeaseExpiring.j0] at H
      by_cases c16 : x35_4 = true
      · subst c16
        have H1 : (some t237) = some r := by rw [if_pos rfl] at H; exact H
        clear H
        have H := H1
        clear H1
        obtain rfl := Option.some.inj H
        go_wp2
        go_ret
        exact ⟨by first | rfl | (simp [errW_none, errW_some] <;> rfl) | (simp [*, errW_none, errW_some] <;> rfl), by repeat (first | (with_reducible first | exact HB.out | apply below_alloc | apply pw_below_drewN | apply below_drew1) | exact HB.out)⟩
      · replace c16 := Bool.eq_false_iff.mpr c16
        subst c16
        have H1 : ((lease_Expire.f l0 a1).bind fun bt239 => ((lease_Alive.f l0 16 a2).bind fun bt243 => ((lease_Alive.f bt239.1 16 a2).bind fun bt247 => (if t237 = true then (if bt239.2 = 0 then (if bt243.2 = 0 then (if bt247.2 = 0 then (if (bt239.1.length : Int) ≤ (l0.length : Int) then ((chargeparkref16_Ints.f kj4 bt243.1 bt247.1).bind fun t251 => (some t251)) else (none)) else (none)) else (none)) else (none)) else (none))))) = some r := by rw [if_neg (show ¬ (false = true) by decide)] at H; exact H
        clear H
        have H := H1
        clear H1
        replace H := Option.bind_eq_some_iff.mp H
        obtain ⟨⟨t239, t240⟩, A170, H⟩ := H
        replace H : ((lease_Alive.f l0 16 a2).bind fun bt243 => ((lease_Alive.f t239 16 a2).bind fun bt247 => (if t237 = true then (if t240 = 0 then (if bt243.2 = 0 then (if bt247.2 = 0 then (if (t239.length : Int) ≤ (l0.length : Int) then ((chargeparkref16_Ints.f kj4 bt243.1 bt247.1).bind fun t251 => (some t251)) else (none)) else (none)) else (none)) else (none)) else (none)))) = some r := H
        have A17 := Aside0.mk A170
        clear A170
        replace H := Option.bind_eq_some_iff.mp H
        obtain ⟨⟨t243, t244⟩, A180, H⟩ := H
        replace H : ((lease_Alive.f t239 16 a2).bind fun bt247 => (if t237 = true then (if t240 = 0 then (if t244 = 0 then (if bt247.2 = 0 then (if (t239.length : Int) ≤ (l0.length : Int) then ((chargeparkref16_Ints.f kj4 t243 bt247.1).bind fun t251 => (some t251)) else (none)) else (none)) else (none)) else (none)) else (none))) = some r := H
        have A18 := Aside0.mk A180
        clear A180
        replace H := Option.bind_eq_some_iff.mp H
        obtain ⟨⟨t247, t248⟩, A190, H⟩ := H
        replace H : (if t237 = true then (if t240 = 0 then (if t244 = 0 then (if t248 = 0 then (if (t239.length : Int) ≤ (l0.length : Int) then ((chargeparkref16_Ints.f kj4 t243 t247).bind fun t251 => (some t251)) else (none)) else (none)) else (none)) else (none)) else (none)) = some r := H
        have A19 := Aside0.mk A190
        clear A190
        by_cases c20 : t237 = true
        · subst c20
          have H1 : (if t240 = 0 then (if t244 = 0 then (if t248 = 0 then (if (t239.length : Int) ≤ (l0.length : Int) then ((chargeparkref16_Ints.f kj4 t243 t247).bind fun t251 => (some t251)) else (none)) else (none)) else (none)) else (none)) = some r := by rw [if_pos rfl] at H; exact H
          clear H
          have H := H1
          clear H1
          by_cases c21 : t240 = 0
          · rw [if_pos c21] at H
            have c21b0 : (t240 == 0) = true := beq_iff_eq.mpr c21
            have c21b1 : (t240 != 0) = false := bne_eq_false_iff_eq.mpr c21
            clear c21
            by_cases c22 : t244 = 0
            · rw [if_pos c22] at H
              have c22b0 : (t244 == 0) = true := beq_iff_eq.mpr c22
              have c22b1 : (t244 != 0) = false := bne_eq_false_iff_eq.mpr c22
              clear c22
              by_cases c23 : t248 = 0
              · rw [if_pos c23] at H
                have c23b0 : (t248 == 0) = true := beq_iff_eq.mpr c23
                have c23b1 : (t248 != 0) = false := bne_eq_false_iff_eq.mpr c23
                clear c23
                by_cases c24 : (t239.length : Int) ≤ (l0.length : Int)
                · rw [if_pos c24] at H
                  have c24b0 : decide ((t239.length : Int) ≤ (l0.length : Int)) = true := decide_eq_true c24
                  have c24b1 : decide (t239.length ≤ l0.length) = true := decide_eq_true (Int.ofNat_le.mp c24)
                  clear c24
                  replace H := Option.bind_eq_some_iff.mp H
                  obtain ⟨t251, A250, H⟩ := H
                  replace H : (some t251) = some r := H
                  have A25 := Aside0.mk A250
                  clear A250
                  obtain rfl := Option.some.inj H
                  go_wp2_with (first | ((with_reducible refine gate_callee (f := 15) rfl ?_); refine goesL_ (some 40) rfl rfl Try.func15 (by kernel_rfl) rfl #[.slice A0 l0.length c0, .int .i64 a1] rfl (by (try simp only [List.map_toArray, List.map_cons, List.map_nil]); first | done | rfl | (simp only [List.length_drop, List.length_take]; rfl)) ?_; (with_reducible refine (lease_Expire.calls _ _ l0 a1 t239 t240 _ ?side1 ?side2 A17.out).mono ?_); (case side1 => repeat (first | exact (Kd.C_below HR0.out HB.out) | (with_reducible refine Kd.C_alloc ?_ _) | (with_reducible refine Kd.C_drewN ?_ _) | (with_reducible refine Kd.C_drew ?_))); (case side2 => exact HC0.out); rintro e w26 ⟨v241, rfl, ho0, hb⟩; refine ⟨_, rfl, ?_⟩; have n0_ := Aside0.mk (Kd.R_lower ho0 (below_size (by repeat (first | (with_reducible first | exact HB.out | apply below_alloc | apply pw_below_drewN | apply below_drew1) | exact HB.out)))); have n1_ := Aside0.mk (below_step (by repeat (first | (with_reducible first | exact HB.out | apply below_alloc | apply pw_below_drewN | apply below_drew1) | exact HB.out)) hb); clear HB; have HO242 := n0_; have HB := n1_; clear n0_ n1_; (try clear hb); (try clear hb2); (try clear hk); (try clear hi); (try clear ho0)) | ((with_reducible refine gate_callee (f := 13) rfl ?_); refine goesL_ (some 46) rfl rfl Try.func13 (by kernel_rfl) rfl #[.slice A0 l0.length c0, .int .i64 16, .int .i64 a2] rfl (by (try simp only [List.map_toArray, List.map_cons, List.map_nil]); first | done | rfl | (simp only [List.length_drop, List.length_take]; rfl)) ?_; (with_reducible refine (lease_Alive.calls _ _ l0 16 a2 t243 t244 _ ?side1 ?side2 A18.out).mono ?_); (case side1 => repeat (first | exact (Kd.C_below HR0.out HB.out) | (with_reducible refine Kd.C_alloc ?_ _) | (with_reducible refine Kd.C_drewN ?_ _) | (with_reducible refine Kd.C_drew ?_))); (case side2 => exact HC0.out); rintro e w27 ⟨v245, rfl, ho0, hb⟩; refine ⟨_, rfl, ?_⟩; have n0_ := Aside0.mk (Kd.R_below (by (with_reducible repeat (first | apply Kd.R_alloc | apply Kd.R_drewN | apply Kd.R_drew)); exact HO242.out) hb); have n1_ := Aside0.mk (Kd.R_lower ho0 (below_size (by repeat (first | (with_reducible first | exact HB.out | apply below_alloc | apply pw_below_drewN | apply below_drew1) | exact HB.out)))); have n2_ := Aside0.mk (below_step (by repeat (first | (with_reducible first | exact HB.out | apply below_alloc | apply pw_below_drewN | apply below_drew1) | exact HB.out)) hb); clear HO242; clear HB; have HO242 := n0_; have HO246 := n1_; have HB := n2_; clear n0_ n1_ n2_; (try clear hb); (try clear hb2); (try clear hk); (try clear hi); (try clear ho0); obtain ⟨Ao28, co28, eo28⟩ := Kd.R_slice HO242.out; subst eo28) | ((with_reducible refine gate_callee (f := 13) rfl ?_); refine goesL_ (some 52) rfl rfl Try.func13 (by kernel_rfl) rfl #[.slice Ao28 t239.length co28, .int .i64 16, .int .i64 a2] rfl (by (try simp only [List.map_toArray, List.map_cons, List.map_nil]); first | done | rfl | (simp only [List.length_drop, List.length_take]; rfl)) ?_; (with_reducible refine (lease_Alive.calls _ _ t239 16 a2 t247 t248 _ ?side1 ?side2 A19.out).mono ?_); (case side1 => repeat (first | exact (Kd.R_reads' HO242.out).2.2 | (with_reducible refine Kd.C_alloc ?_ _) | (with_reducible refine Kd.C_drewN ?_ _) | (with_reducible refine Kd.C_drew ?_))); (case side2 => exact (Kd.R_reads' HO242.out).2.1); rintro e w29 ⟨v249, rfl, ho0, hb⟩; refine ⟨_, rfl, ?_⟩; have n0_ := Aside0.mk (Kd.R_below (by (with_reducible repeat (first | apply Kd.R_alloc | apply Kd.R_drewN | apply Kd.R_drew)); exact HO242.out) hb); have n1_ := Aside0.mk (Kd.R_elder' (by (with_reducible repeat (first | apply Kd.R_alloc | apply Kd.R_drewN | apply Kd.R_drew)); exact HO246.out) (Kd.R_base ho0) hb); have n2_ := Aside0.mk (Kd.R_lower (Kd.R_new' ho0 (Kd.R_lt (by (with_reducible repeat (first | apply Kd.R_alloc | apply Kd.R_drewN | apply Kd.R_drew)); exact HO246.out))) (below_size (by repeat (first | (with_reducible first | exact HB.out | apply below_alloc | apply pw_below_drewN | apply below_drew1) | exact HB.out)))); have n3_ := Aside0.mk (below_step (by repeat (first | (with_reducible first | exact HB.out | apply below_alloc | apply pw_below_drewN | apply below_drew1) | exact HB.out)) hb); clear HO242; clear HO246; clear HB; have HO242 := n0_; have HO246 := n1_; have HO250 := n2_; have HB := n3_; clear n0_ n1_ n2_ n3_; (try clear hb); (try clear hb2); (try clear hk); (try clear hi); (try clear ho0); obtain ⟨Ao30, co30, eo30⟩ := Kd.R_slice HO246.out; subst eo30; obtain ⟨Ao31, co31, eo31⟩ := Kd.R_slice HO250.out; subst eo31) | (go_at_call 20; (with_reducible refine (chargeparkref16_Ints.calls kj4 _ _ t243 _ _ t247 t251 _ ?side1 ?side2 ?side3 ?side4 A25.out).mono ?_); (case side1 => repeat (first | exact (Kd.R_reads' HO246.out).2.2 | (with_reducible refine Kd.C_alloc ?_ _) | (with_reducible refine Kd.C_drewN ?_ _) | (with_reducible refine Kd.C_drew ?_))); (case side2 => exact (Kd.R_reads' HO246.out).2.1); (case side3 => repeat (first | exact (Kd.R_reads' HO250.out).2.2 | (with_reducible refine Kd.C_alloc ?_ _) | (with_reducible refine Kd.C_drewN ?_ _) | (with_reducible refine Kd.C_drew ?_))); (case side4 => exact (Kd.R_reads' HO250.out).2.1); rintro e w' ⟨rfl, ⟨nd, rfl⟩⟩))
                  go_ret
                  exact ⟨by first | rfl | (simp [errW_none, errW_some] <;> rfl) | (simp [*, errW_none, errW_some] <;> rfl), by repeat (first | (with_reducible first | exact HB.out | apply below_alloc | apply pw_below_drewN | apply below_drew1) | exact HB.out)⟩
                · rw [if_neg c24] at H
                  exact absurd H (by simp)
              · rw [if_neg c23] at H
                exact absurd H (by simp)
            · rw [if_neg c22] at H
              exact absurd H (by simp)
          · rw [if_neg c21] at H
            exact absurd H (by simp)
        · replace c20 := Bool.eq_false_iff.mpr c20
          subst c20
          have H1 : (none) = some r := by rw [if_neg (show ¬ (false = true) by decide)] at H; exact H
          clear H
          have H := H1
          clear H1
          exact absurd H (by simp)

/-- THE ONE PURE STATEMENT of chargeparklaw16_LeaseExpiring: yours. -/
def chargeparklaw16_LeaseExpiring.Pure : Prop := ∀ (l0 : List (S24)) (a1 : Int) (a2 : Int), l0.length ≤ maxLen → (∀ y ∈ l0, ok24 y) → (Lit.int .i64 a1).wf = true → (Lit.int .i64 a2).wf = true → ∃ k, chargeparklaw16_LeaseExpiring.f k l0 a1 a2 = some true
theorem chargeparklaw16_LeaseExpiring.walk (P : chargeparklaw16_LeaseExpiring.Pure) (A0 : Option Addr) (c0 : Nat) (l0 : List (S24)) (a1 : Int) (a2 : Int) (w : World) (hC0 : Kd.C k24 w A0 l0.length l0) (hc0 : l0.length ≤ c0) (hm0 : l0.length ≤ maxLen) (ho0 : ∀ y ∈ l0, ok24 y) (w1 : (Lit.int .i64 a1).wf = true) (w2 : (Lit.int .i64 a2).wf = true) :
    Calls Try.prog 4 #[.slice A0 l0.length c0, .int .i64 a1, .int .i64 a2] w fun e w' => e = .returned (.bool true) ∧ Below w.heap.size w w' := by
  obtain ⟨k, h⟩ := P l0 a1 a2 hm0 ho0 w1 w2
  refine (chargeparklaw16_LeaseExpiring.calls k _ _ l0 a1 a2 true w hC0 hc0 h).mono ?_
  rintro e w' ⟨rfl, hd⟩
  exact ⟨rfl, hd⟩


end Go.Proofs.Ytpngiddelhcepaa.PAll
