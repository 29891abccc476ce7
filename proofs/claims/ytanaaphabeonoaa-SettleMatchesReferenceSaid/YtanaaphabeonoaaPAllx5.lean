-- Written by a program of this session (xprint.py, over the kit's print.py), with contracts proved by hand.
import Derived.Test.YtanaaphabeonoaaPAllx0
import Derived.Test.YtanaaphabeonoaaPAllx4
namespace Go.Proofs.Ytanaaphabeonoaa.PAll
open Go.RowKit Go.Proofs.Ytanaaphabeonoaa.Open Go.Proofs.YtanaaphabeonoaaW.PrintWords Go.Proofs.YtanaaphabeonoaaW.PrintLast Go.Proofs.YtanaaphabeonoaaW.PrintMore
attribute [local go_sem] max2_int min2_int max_two min_two max_three min_three max_four min_four   -- for this text's walks alone
set_option linter.unusedVariables false
set_option linter.unusedSimpArgs false

/-! ### chargeparkref42_Net: function 11 -/
mutual
def chargeparkref42_Net.j0 : Nat → List (S40) → Int → Bool → Option (List Int × Int)
  | 0, _, _, _ => none
  | k + 1, x0, x1, x19 => if x19 = true then (some (([] : List Int), 1)) else (chargeparkref42_Net.l0 k x0 x1 0)
def chargeparkref42_Net.l0 : Nat → List (S40) → Int → Int → Option (List Int × Int)
  | 0, _, _, _ => none
  | k + 1, x0, x1, x6 => if x6 < (x0.length : Int) then (if 0 ≤ x6 then ((chargeparkref42_Settles.f ((rd_T40 x0 x6).f0) ((rd_T40 x0 x6).f1) ((rd_T40 x0 x6).f2) ((rd_T40 x0 x6).f3) ((rd_T40 x0 x6).f4) ((rd_T40 x0 x6).f5) ((rd_T40 x0 x6).f6) ((rd_T40 x0 x6).f7) ((rd_T40 x0 x6).f8) ((rd_T40 x0 x6).f9.f0) ((rd_T40 x0 x6).f9.f1) ((rd_T40 x0 x6).f9.f2) ((rd_T40 x0 x6).f9.f3) x1).bind fun t249 => (if t249 = true then (chargeparkref42_Net.l0 k x0 x1 (wrap64 (x6 + 1))) else (some (([] : List Int), 1)))) else (none)) else ((chargeparkref42_Twice.f k x0).bind fun t250 => (if t250 = true then (some (([] : List Int), 5)) else (chargeparkref42_Net.l1 k x0 x1 ([] : List Int) 0)))
def chargeparkref42_Net.l1 : Nat → List (S40) → Int → List Int → Int → Option (List Int × Int)
  | 0, _, _, _, _ => none
  | k + 1, x0, x1, x9, x10 => if x10 < x1 then ((chargeparkref42_Gets.f k x0 x10).bind fun t251 => (if x9.length < 17592186044416 then (chargeparkref42_Net.l1 k x0 x1 (x9 ++ [t251]) (wrap64 (x10 + 1))) else (none))) else (some (x9, 0))
end
def chargeparkref42_Net.f (k : Nat) (l0 : List (S40)) (a1 : Int) : Option (List Int × Int) := if (l0.length : Int) > 64 then (some (([] : List Int), 2)) else (if a1 < 1 then (chargeparkref42_Net.j0 k l0 a1 true) else (chargeparkref42_Net.j0 k l0 a1 (decide (a1 > 8))))
theorem chargeparkref42_Net.mono_l : ∀ k, (∀ y0 y1 y2, LeO (chargeparkref42_Net.j0 k y0 y1 y2) (chargeparkref42_Net.j0 (k + 1) y0 y1 y2)) ∧ (∀ y0 y1 y2, LeO (chargeparkref42_Net.l0 k y0 y1 y2) (chargeparkref42_Net.l0 (k + 1) y0 y1 y2)) ∧ (∀ y0 y1 y2 y3, LeO (chargeparkref42_Net.l1 k y0 y1 y2 y3) (chargeparkref42_Net.l1 (k + 1) y0 y1 y2 y3))
  | 0 => ⟨fun _ _ _ r h => by simp [chargeparkref42_Net.j0] at h, fun _ _ _ r h => by simp [chargeparkref42_Net.l0] at h, fun _ _ _ _ r h => by simp [chargeparkref42_Net.l1] at h⟩
  | k + 1 => by
    obtain ⟨ih0, ih1, ih2⟩ := chargeparkref42_Net.mono_l k
    refine ⟨?_, ?_, ?_⟩
    · intro y0 y1 y2
      unfold chargeparkref42_Net.j0
      repeat' first
      | (with_reducible exact ih0 _ _ _)
      | (with_reducible exact ih1 _ _ _)
      | (with_reducible exact ih2 _ _ _ _)
      | (with_reducible exact chargeparkref42_Gets.mono _ _ _)
      | (with_reducible exact chargeparkref42_Twice.mono _ _)
      | (with_reducible exact LeO.refl _)
      | (with_reducible exact LeO.none _)
      | (with_reducible refine LeO.ite ?_ ?_)
      | (with_reducible refine LeO.bind ?_ (fun _ => ?_))
      | exact ih0 _ _ _
      | exact ih1 _ _ _
      | exact ih2 _ _ _ _
      | exact chargeparkref42_Gets.mono _ _ _
      | exact chargeparkref42_Twice.mono _ _
      | exact LeO.none _
      | refine LeO.ite ?_ ?_
      | refine LeO.bind ?_ (fun _ => ?_)
    · intro y0 y1 y2
      unfold chargeparkref42_Net.l0
      repeat' first
      | (with_reducible exact ih0 _ _ _)
      | (with_reducible exact ih1 _ _ _)
      | (with_reducible exact ih2 _ _ _ _)
      | (with_reducible exact chargeparkref42_Gets.mono _ _ _)
      | (with_reducible exact chargeparkref42_Twice.mono _ _)
      | (with_reducible exact LeO.refl _)
      | (with_reducible exact LeO.none _)
      | (with_reducible refine LeO.ite ?_ ?_)
      | (with_reducible refine LeO.bind ?_ (fun _ => ?_))
      | exact ih0 _ _ _
      | exact ih1 _ _ _
      | exact ih2 _ _ _ _
      | exact chargeparkref42_Gets.mono _ _ _
      | exact chargeparkref42_Twice.mono _ _
      | exact LeO.none _
      | refine LeO.ite ?_ ?_
      | refine LeO.bind ?_ (fun _ => ?_)
    · intro y0 y1 y2 y3
      unfold chargeparkref42_Net.l1
      repeat' first
      | (with_reducible exact ih0 _ _ _)
      | (with_reducible exact ih1 _ _ _)
      | (with_reducible exact ih2 _ _ _ _)
      | (with_reducible exact chargeparkref42_Gets.mono _ _ _)
      | (with_reducible exact chargeparkref42_Twice.mono _ _)
      | (with_reducible exact LeO.refl _)
      | (with_reducible exact LeO.none _)
      | (with_reducible refine LeO.ite ?_ ?_)
      | (with_reducible refine LeO.bind ?_ (fun _ => ?_))
      | exact ih0 _ _ _
      | exact ih1 _ _ _
      | exact ih2 _ _ _ _
      | exact chargeparkref42_Gets.mono _ _ _
      | exact chargeparkref42_Twice.mono _ _
      | exact LeO.none _
      | refine LeO.ite ?_ ?_
      | refine LeO.bind ?_ (fun _ => ?_)
theorem chargeparkref42_Net.mono : ∀ a0 a1 k, LeO (chargeparkref42_Net.f k a0 a1) (chargeparkref42_Net.f (k + 1) a0 a1) := by
  intro a0 a1 k
  obtain ⟨ih0, ih1, ih2⟩ := chargeparkref42_Net.mono_l k
  unfold chargeparkref42_Net.f
  repeat' first
      | (with_reducible exact ih0 _ _ _)
      | (with_reducible exact ih1 _ _ _)
      | (with_reducible exact ih2 _ _ _ _)
      | (with_reducible exact chargeparkref42_Gets.mono _ _ _)
      | (with_reducible exact chargeparkref42_Twice.mono _ _)
      | (with_reducible exact LeO.refl _)
      | (with_reducible exact LeO.none _)
      | (with_reducible refine LeO.ite ?_ ?_)
      | (with_reducible refine LeO.bind ?_ (fun _ => ?_))
      | exact ih0 _ _ _
      | exact ih1 _ _ _
      | exact ih2 _ _ _ _
      | exact chargeparkref42_Gets.mono _ _ _
      | exact chargeparkref42_Twice.mono _ _
      | exact LeO.none _
      | refine LeO.ite ?_ ?_
      | refine LeO.bind ?_ (fun _ => ?_)
set_option maxHeartbeats 8000000 in
set_option maxRecDepth 100000 in
theorem chargeparkref42_Net.calls (k : Nat) (A0 : Option Addr) (c0 : Nat) (l0 : List (S40)) (a1 : Int) (r1 : List Int) (r2 : Int) (w : World) (hr0 : Kd.C k40 w A0 l0.length l0) (hc0 : l0.length ≤ c0) (h : chargeparkref42_Net.f k l0 a1 = some (r1, r2)) :
    Calls Try.prog 11 #[.slice A0 l0.length c0, .int .i64 a1] w fun e w' => ∃ v0_ : Value, e = .returned (.tuple #[v0_, .int .i64 r2]) ∧ Kd.R (Kd.int .i64) 3 w' w.heap.size (fun _ => True) v0_ r1 ∧ Below w.heap.size w w' := by
  have hu40 := Try.underlying40
  have HR0 := Aside0.mk hr0
  have HC0 := Aside0.mk hc0
  clear hr0 hc0
  have HB := Aside0.mk (Below.refl w.heap.size w)
  have H : (if (l0.length : Int) > 64 then (some (([] : List Int), 2)) else (if a1 < 1 then (chargeparkref42_Net.j0 k l0 a1 true) else (chargeparkref42_Net.j0 k l0 a1 (decide (a1 > 8))))) = some (r1, r2) := h
  clear h
  by_cases c3 : (l0.length : Int) > 64
  · rw [if_pos c3] at H
    have c3b0 : decide (64 < (l0.length : Int)) = true := decide_eq_true c3
    have c3b1 : decide (64 < l0.length) = true := decide_eq_true (by omega)
    clear c3
    simp only [Option.some.injEq, Prod.mk.injEq] at H
    obtain ⟨rfl, rfl⟩ := H
    go_enter Try.func11, Try.ntmps11
    go_wp2
    go_ret2
    exact ⟨_, by first | rfl | (simp [errW_none, errW_some] <;> rfl) | (simp [*, errW_none, errW_some] <;> rfl), by first | exact Kd.R_nil _ _ _ _ _ | exact Kd.N_nil _ _ _ _ _ | exact Kd.V_nil _ _ _ _ _ | exact Kd.Q_nil _ _ _ _ _ | exact Kd.S_nil _ _ _ _ _, by repeat (first | (with_reducible first | exact HB.out | apply below_alloc | apply pw_below_drewN | apply below_drew1) | exact HB.out)⟩
  · rw [if_neg c3] at H
    have c3b0 : decide (64 < (l0.length : Int)) = false := decide_eq_false c3
    have c3b1 : decide (64 < l0.length) = false := decide_eq_false (by omega)
    clear c3
    have HC4 := Aside0.mk H
    clear H
    go_enter Try.func11, Try.ntmps11
    go_upto_region 3 with (fail)
    go_cut [19] (fun v19 wc => ∃ (kq : Nat) (x19_3 : Bool), v19 = .bool x19_3 ∧ Aside0 (chargeparkref42_Net.j0 kq l0 a1 x19_3 = some (r1, r2)) ∧ Aside0 (kq ≤ k) ∧ Aside0 (Below w.heap.size w wc))
    case first =>
      have H := HC4.out
      clear HC4
      by_cases c5 : a1 < 1
      · rw [if_pos c5] at H
        have c5b0 : decide (a1 < 1) = true := decide_eq_true c5
        clear c5
        (first | rw [c5b0] | (simp only [i64_w, i32_w]; rw [c5b0]) | skip)
        have H' := Aside0.mk H
        clear H
        go_wp2
        go_meet
        case rel => exact ⟨_, (true), (by first | rfl | (simp; done) | (simp [*]; done)), H', ⟨by first | omega | exact Nat.le_refl _⟩, ⟨by repeat (first | (with_reducible first | exact HB.out | apply below_alloc | apply pw_below_drewN | apply below_drew1) | exact HB.out)⟩⟩
      · rw [if_neg c5] at H
        have c5b0 : decide (a1 < 1) = false := decide_eq_false c5
        clear c5
        (first | rw [c5b0] | (simp only [i64_w, i32_w]; rw [c5b0]) | skip)
        have H' := Aside0.mk H
        clear H
        go_wp2
        go_meet
        case rel => exact ⟨_, (decide (a1 > 8)), (by first | rfl | (simp; done) | (simp [*]; done)), H', ⟨by first | omega | exact Nat.le_refl _⟩, ⟨by repeat (first | (with_reducible first | exact HB.out | apply below_alloc | apply pw_below_drewN | apply below_drew1) | exact HB.out)⟩⟩
    case rest =>
      clear HC4
      try clear c1
      try clear p2
      try clear c3
      try clear c3b0
      try clear c3b1
      try clear c5
      try clear c5b0
      obtain ⟨kq, x19_3, rfl, HA, HJ3, HB⟩ := hcut
      cases kq with
      | zero => exact absurd HA.out (by simp [chargeparkref42_Net.j0])
      | succ kj3 =>
        have H := HA.out
        clear HA
        simp only [chargeparkref42_Net.j0] at H
        by_cases c6 : x19_3 = true
        · subst c6
          have H1 : (some (([] : List Int), 1)) = some (r1, r2) := by rw [if_pos rfl] at H; exact H
          clear H
          have H := H1
          clear H1
          simp only [Option.some.injEq, Prod.mk.injEq] at H
          obtain ⟨rfl, rfl⟩ := H
          go_wp2
          go_ret2
          exact ⟨_, by first | rfl | (simp [errW_none, errW_some] <;> rfl) | (simp [*, errW_none, errW_some] <;> rfl), by first | exact Kd.R_nil _ _ _ _ _ | exact Kd.N_nil _ _ _ _ _ | exact Kd.V_nil _ _ _ _ _ | exact Kd.Q_nil _ _ _ _ _ | exact Kd.S_nil _ _ _ _ _, by repeat (first | (with_reducible first | exact HB.out | apply below_alloc | apply pw_below_drewN | apply below_drew1) | exact HB.out)⟩
        · replace c6 := Bool.eq_false_iff.mpr c6
          subst c6
          have H1 : (chargeparkref42_Net.l0 kj3 l0 a1 0) = some (r1, r2) := by rw [if_neg (show ¬ (false = true) by decide)] at H; exact H
          clear H
          have H := H1
          clear H1
          have H' := Aside0.mk H
          clear H
          go_wp2
          go_loopg [6] kj3 (fun kq v6 w' => ∃ (x6_2 : Int), v6 = .int .i64 x6_2 ∧ Aside0 (chargeparkref42_Net.l0 kq l0 a1 x6_2 = some (r1, r2)) ∧ Aside0 (kq ≤ kj3) ∧ Aside0 (Below w.heap.size w w'))
          case atStart => exact ⟨(0), (by first | rfl | (simp; done) | (simp [*]; done)), H', ⟨Nat.le_refl _⟩, ⟨by repeat (first | (with_reducible first | exact HB.out | apply below_alloc | apply pw_below_drewN | apply below_drew1) | exact HB.out)⟩⟩
          case round =>
            clear H'
            try clear c1
            try clear p2
            try clear c3
            try clear c3b0
            try clear c3b1
            try clear c5
            try clear c5b0
            try clear c6
            try clear p2
            obtain ⟨x6_2, rfl, HA, HK2, HB⟩ := hrel
            cases gk with
            | zero => exact absurd HA.out (by simp [chargeparkref42_Net.l0])
            | succ k2 =>
              have H := HA.out
              clear HA
              simp only [chargeparkref42_Net.l0] at H
              by_cases c7 : x6_2 < (l0.length : Int)
              · rw [if_pos c7] at H
                have c7b0 : decide (x6_2 < (l0.length : Int)) = true := decide_eq_true c7
                clear c7
                by_cases c8 : 0 ≤ x6_2
                · rw [if_pos c8] at H
                  have c8b0 : decide (0 ≤ x6_2) = true := decide_eq_true c8
                  clear c8
                  replace H := Option.bind_eq_some_iff.mp H
                  obtain ⟨t249, A90, H⟩ := H
                  replace H : (if t249 = true then (chargeparkref42_Net.l0 k2 l0 a1 (wrap64 (x6_2 + 1))) else (some (([] : List Int), 1))) = some (r1, r2) := H
                  have A9 := Aside0.mk A90
                  clear A90
                  by_cases c10 : t249 = true
                  · subst c10
                    have H1 : (chargeparkref42_Net.l0 k2 l0 a1 (wrap64 (x6_2 + 1))) = some (r1, r2) := by rw [if_pos rfl] at H; exact H
                    clear H
                    have H := H1
                    clear H1
                    have H' := Aside0.mk H
                    clear H
                    have p248 : 0 ≤ (x6_2 : Int) := of_decide_eq_true (by first | (with_reducible assumption) | assumption)
                    have q248 : x6_2 < (l0.length : Int) := of_decide_eq_true (by first | (with_reducible assumption) | assumption)
                    obtain ⟨ad248, e248, hx248_0, hx248_1, hx248_2, hx248_3, hx248_4, hx248_5, hx248_6, hx248_7, hx248_8, hx248_9, hx248_10, hx248_11, hx248_12⟩ := at_T40 HR0.out x6_2 p248 q248
                    cases e248
                    replace hx248_0 := (HB.out.cell (World.block_lt_of_cell? w _ hx248_0)).trans hx248_0
                    replace hx248_1 := (HB.out.cell (World.block_lt_of_cell? w _ hx248_1)).trans hx248_1
                    replace hx248_2 := (HB.out.cell (World.block_lt_of_cell? w _ hx248_2)).trans hx248_2
                    replace hx248_3 := (HB.out.cell (World.block_lt_of_cell? w _ hx248_3)).trans hx248_3
                    replace hx248_4 := (HB.out.cell (World.block_lt_of_cell? w _ hx248_4)).trans hx248_4
                    replace hx248_5 := (HB.out.cell (World.block_lt_of_cell? w _ hx248_5)).trans hx248_5
                    replace hx248_6 := (HB.out.cell (World.block_lt_of_cell? w _ hx248_6)).trans hx248_6
                    replace hx248_7 := (HB.out.cell (World.block_lt_of_cell? w _ hx248_7)).trans hx248_7
                    replace hx248_8 := (HB.out.cell (World.block_lt_of_cell? w _ hx248_8)).trans hx248_8
                    replace hx248_9 := (HB.out.cell (World.block_lt_of_cell? w _ hx248_9)).trans hx248_9
                    replace hx248_10 := (HB.out.cell (World.block_lt_of_cell? w _ hx248_10)).trans hx248_10
                    replace hx248_11 := (HB.out.cell (World.block_lt_of_cell? w _ hx248_11)).trans hx248_11
                    replace hx248_12 := (HB.out.cell (World.block_lt_of_cell? w _ hx248_12)).trans hx248_12
                    replace p248 := eq_true p248
                    replace q248 := eq_true q248
                    go_wp2_with (first | ((with_reducible refine gate_callee (f := 20) rfl ?_); refine goesL_ (some 31) rfl rfl Try.func20 (by kernel_rfl) rfl #[.agg #[.int .i64 ((rd_T40 l0 x6_2).f0), .int .i64 ((rd_T40 l0 x6_2).f1), .int .i64 ((rd_T40 l0 x6_2).f2), .int .i64 ((rd_T40 l0 x6_2).f3), .int .i64 ((rd_T40 l0 x6_2).f4), .int .i64 ((rd_T40 l0 x6_2).f5), .int .i64 ((rd_T40 l0 x6_2).f6), .int .i64 ((rd_T40 l0 x6_2).f7), .int .i64 ((rd_T40 l0 x6_2).f8), .int .u64 ((rd_T40 l0 x6_2).f9.f0), .int .u64 ((rd_T40 l0 x6_2).f9.f1), .int .u64 ((rd_T40 l0 x6_2).f9.f2), .int .u64 ((rd_T40 l0 x6_2).f9.f3)], .int .i64 a1] rfl (by (try simp only [List.map_toArray, List.map_cons, List.map_nil]); first | done | rfl | (simp only [List.length_drop, List.length_take]; rfl)) ?_; (with_reducible refine (chargeparkref42_Settles.calls ((rd_T40 l0 x6_2).f0) ((rd_T40 l0 x6_2).f1) ((rd_T40 l0 x6_2).f2) ((rd_T40 l0 x6_2).f3) ((rd_T40 l0 x6_2).f4) ((rd_T40 l0 x6_2).f5) ((rd_T40 l0 x6_2).f6) ((rd_T40 l0 x6_2).f7) ((rd_T40 l0 x6_2).f8) ((rd_T40 l0 x6_2).f9.f0) ((rd_T40 l0 x6_2).f9.f1) ((rd_T40 l0 x6_2).f9.f2) ((rd_T40 l0 x6_2).f9.f3) a1 true _ A9.out).mono ?_); rintro e w11 ⟨rfl, hb⟩; refine ⟨_, rfl, ?_⟩; have n0_ := Aside0.mk (below_step (by repeat (first | (with_reducible first | exact HB.out | apply below_alloc | apply pw_below_drewN | apply below_drew1) | exact HB.out)) hb); clear HB; have HB := n0_; clear n0_; (try clear hb); (try clear hb2); (try clear hk); (try clear hi)))
                    go_roundg k2
                    case measure => have := HJ3.out; have := HK2.out; omega
                    case rel => exact ⟨(wrap64 (x6_2 + 1)), (by first | rfl | (simp; done) | (simp [*]; done)), H', ⟨by have := HJ3.out; have := HK2.out; omega⟩, ⟨by repeat (first | (with_reducible first | exact HB.out | apply below_alloc | apply pw_below_drewN | apply below_drew1) | exact HB.out)⟩⟩
                  · replace c10 := Bool.eq_false_iff.mpr c10
                    subst c10
                    have H1 : (some (([] : List Int), 1)) = some (r1, r2) := by rw [if_neg (show ¬ (false = true) by decide)] at H; exact H
                    clear H
                    have H := H1
                    clear H1
                    simp only [Option.some.injEq, Prod.mk.injEq] at H
                    obtain ⟨rfl, rfl⟩ := H
                    have p248 : 0 ≤ (x6_2 : Int) := of_decide_eq_true (by first | (with_reducible assumption) | assumption)
                    have q248 : x6_2 < (l0.length : Int) := of_decide_eq_true (by first | (with_reducible assumption) | assumption)
                    obtain ⟨ad248, e248, hx248_0, hx248_1, hx248_2, hx248_3, hx248_4, hx248_5, hx248_6, hx248_7, hx248_8, hx248_9, hx248_10, hx248_11, hx248_12⟩ := at_T40 HR0.out x6_2 p248 q248
                    cases e248
                    replace hx248_0 := (HB.out.cell (World.block_lt_of_cell? w _ hx248_0)).trans hx248_0
                    replace hx248_1 := (HB.out.cell (World.block_lt_of_cell? w _ hx248_1)).trans hx248_1
                    replace hx248_2 := (HB.out.cell (World.block_lt_of_cell? w _ hx248_2)).trans hx248_2
                    replace hx248_3 := (HB.out.cell (World.block_lt_of_cell? w _ hx248_3)).trans hx248_3
                    replace hx248_4 := (HB.out.cell (World.block_lt_of_cell? w _ hx248_4)).trans hx248_4
                    replace hx248_5 := (HB.out.cell (World.block_lt_of_cell? w _ hx248_5)).trans hx248_5
                    replace hx248_6 := (HB.out.cell (World.block_lt_of_cell? w _ hx248_6)).trans hx248_6
                    replace hx248_7 := (HB.out.cell (World.block_lt_of_cell? w _ hx248_7)).trans hx248_7
                    replace hx248_8 := (HB.out.cell (World.block_lt_of_cell? w _ hx248_8)).trans hx248_8
                    replace hx248_9 := (HB.out.cell (World.block_lt_of_cell? w _ hx248_9)).trans hx248_9
                    replace hx248_10 := (HB.out.cell (World.block_lt_of_cell? w _ hx248_10)).trans hx248_10
                    replace hx248_11 := (HB.out.cell (World.block_lt_of_cell? w _ hx248_11)).trans hx248_11
                    replace hx248_12 := (HB.out.cell (World.block_lt_of_cell? w _ hx248_12)).trans hx248_12
                    replace p248 := eq_true p248
                    replace q248 := eq_true q248
                    go_wp2_with (first | ((with_reducible refine gate_callee (f := 20) rfl ?_); refine goesL_ (some 31) rfl rfl Try.func20 (by kernel_rfl) rfl #[.agg #[.int .i64 ((rd_T40 l0 x6_2).f0), .int .i64 ((rd_T40 l0 x6_2).f1), .int .i64 ((rd_T40 l0 x6_2).f2), .int .i64 ((rd_T40 l0 x6_2).f3), .int .i64 ((rd_T40 l0 x6_2).f4), .int .i64 ((rd_T40 l0 x6_2).f5), .int .i64 ((rd_T40 l0 x6_2).f6), .int .i64 ((rd_T40 l0 x6_2).f7), .int .i64 ((rd_T40 l0 x6_2).f8), .int .u64 ((rd_T40 l0 x6_2).f9.f0), .int .u64 ((rd_T40 l0 x6_2).f9.f1), .int .u64 ((rd_T40 l0 x6_2).f9.f2), .int .u64 ((rd_T40 l0 x6_2).f9.f3)], .int .i64 a1] rfl (by (try simp only [List.map_toArray, List.map_cons, List.map_nil]); first | done | rfl | (simp only [List.length_drop, List.length_take]; rfl)) ?_; (with_reducible refine (chargeparkref42_Settles.calls ((rd_T40 l0 x6_2).f0) ((rd_T40 l0 x6_2).f1) ((rd_T40 l0 x6_2).f2) ((rd_T40 l0 x6_2).f3) ((rd_T40 l0 x6_2).f4) ((rd_T40 l0 x6_2).f5) ((rd_T40 l0 x6_2).f6) ((rd_T40 l0 x6_2).f7) ((rd_T40 l0 x6_2).f8) ((rd_T40 l0 x6_2).f9.f0) ((rd_T40 l0 x6_2).f9.f1) ((rd_T40 l0 x6_2).f9.f2) ((rd_T40 l0 x6_2).f9.f3) a1 false _ A9.out).mono ?_); rintro e w12 ⟨rfl, hb⟩; refine ⟨_, rfl, ?_⟩; have n0_ := Aside0.mk (below_step (by repeat (first | (with_reducible first | exact HB.out | apply below_alloc | apply pw_below_drewN | apply below_drew1) | exact HB.out)) hb); clear HB; have HB := n0_; clear n0_; (try clear hb); (try clear hb2); (try clear hk); (try clear hi)))
                    go_ret2
                    exact ⟨_, by first | rfl | (simp [errW_none, errW_some] <;> rfl) | (simp [*, errW_none, errW_some] <;> rfl), by first | exact Kd.R_nil _ _ _ _ _ | exact Kd.N_nil _ _ _ _ _ | exact Kd.V_nil _ _ _ _ _ | exact Kd.Q_nil _ _ _ _ _ | exact Kd.S_nil _ _ _ _ _, by repeat (first | (with_reducible first | exact HB.out | apply below_alloc | apply pw_below_drewN | apply below_drew1) | exact HB.out)⟩
                · rw [if_neg c8] at H
                  exact absurd H (by simp)
              · rw [if_neg c7] at H
                have c7b0 : decide (x6_2 < (l0.length : Int)) = false := decide_eq_false c7
                clear c7
                replace H := Option.bind_eq_some_iff.mp H
                obtain ⟨t250, A130, H⟩ := H
                replace H : (if t250 = true then (some (([] : List Int), 5)) else (chargeparkref42_Net.l1 k2 l0 a1 ([] : List Int) 0)) = some (r1, r2) := H
                have A13 := Aside0.mk A130
                clear A130
                by_cases c14 : t250 = true
                · subst c14
                  have H1 : (some (([] : List Int), 5)) = some (r1, r2) := by rw [if_pos rfl] at H; exact H
                  clear H
                  have H := H1
                  clear H1
                  simp only [Option.some.injEq, Prod.mk.injEq] at H
                  obtain ⟨rfl, rfl⟩ := H
                  go_wp2_with (first | ((with_reducible refine gate_callee (f := 22) rfl ?_); refine goesL_ (some 35) rfl rfl Try.func22 (by kernel_rfl) rfl #[.slice A0 l0.length c0] rfl (by (try simp only [List.map_toArray, List.map_cons, List.map_nil]); first | done | rfl | (simp only [List.length_drop, List.length_take]; rfl)) ?_; (with_reducible refine (chargeparkref42_Twice.calls k2 _ _ l0 true _ ?side1 ?side2 A13.out).mono ?_); (case side1 => repeat (first | exact (Kd.C_below HR0.out HB.out) | (with_reducible refine Kd.C_alloc ?_ _) | (with_reducible refine Kd.C_drewN ?_ _) | (with_reducible refine Kd.C_drew ?_))); (case side2 => exact HC0.out); rintro e w' ⟨rfl, ⟨nd, rfl⟩⟩; refine ⟨_, rfl, ?_⟩))
                  go_ret2
                  exact ⟨_, by first | rfl | (simp [errW_none, errW_some] <;> rfl) | (simp [*, errW_none, errW_some] <;> rfl), by first | exact Kd.R_nil _ _ _ _ _ | exact Kd.N_nil _ _ _ _ _ | exact Kd.V_nil _ _ _ _ _ | exact Kd.Q_nil _ _ _ _ _ | exact Kd.S_nil _ _ _ _ _, by repeat (first | (with_reducible first | exact HB.out | apply below_alloc | apply pw_below_drewN | apply below_drew1) | exact HB.out)⟩
                · replace c14 := Bool.eq_false_iff.mpr c14
                  subst c14
                  have H1 : (chargeparkref42_Net.l1 k2 l0 a1 ([] : List Int) 0) = some (r1, r2) := by rw [if_neg (show ¬ (false = true) by decide)] at H; exact H
                  clear H
                  have H := H1
                  clear H1
                  have H' := Aside0.mk H
                  clear H
                  go_wp2_with (first | ((with_reducible refine gate_callee (f := 22) rfl ?_); refine goesL_ (some 35) rfl rfl Try.func22 (by kernel_rfl) rfl #[.slice A0 l0.length c0] rfl (by (try simp only [List.map_toArray, List.map_cons, List.map_nil]); first | done | rfl | (simp only [List.length_drop, List.length_take]; rfl)) ?_; (with_reducible refine (chargeparkref42_Twice.calls k2 _ _ l0 false _ ?side1 ?side2 A13.out).mono ?_); (case side1 => repeat (first | exact (Kd.C_below HR0.out HB.out) | (with_reducible refine Kd.C_alloc ?_ _) | (with_reducible refine Kd.C_drewN ?_ _) | (with_reducible refine Kd.C_drew ?_))); (case side2 => exact HC0.out); rintro e w' ⟨rfl, ⟨nd, rfl⟩⟩; refine ⟨_, rfl, ?_⟩))
                  go_loopg [9, 10] k2 (fun kq v9 v10 w' => ∃ (x9_3 : List Int) (x10_3 : Int), v10 = .int .i64 x10_3 ∧ Aside0 (chargeparkref42_Net.l1 kq l0 a1 x9_3 x10_3 = some (r1, r2)) ∧ Aside0 (kq ≤ k2) ∧ Aside0 (Kd.R (Kd.int .i64) 3 w' w.heap.size (fun _ => True) v9 x9_3) ∧ Aside0 (Below w.heap.size w w'))
                  case atStart => exact ⟨(([] : List Int)), (0), (by first | rfl | (simp; done) | (simp [*]; done)), H', ⟨Nat.le_refl _⟩, ⟨by first | exact Kd.R_nil _ _ _ _ _ | exact Kd.N_nil _ _ _ _ _ | exact Kd.V_nil _ _ _ _ _ | exact Kd.Q_nil _ _ _ _ _ | exact Kd.S_nil _ _ _ _ _⟩, ⟨by repeat (first | (with_reducible first | exact HB.out | apply below_alloc | apply pw_below_drewN | apply below_drew1) | exact HB.out)⟩⟩
                  case round =>
                    clear H'
                    try clear c1
                    try clear c2
                    try clear p2
                    try clear q2
                    try clear hx2
                    try clear c3
                    try clear c3b0
                    try clear c3b1
                    try clear c5
                    try clear c5b0
                    try clear c6
                    try clear p6
                    try clear c7
                    try clear c7b0
                    try clear c8
                    try clear c8b0
                    try clear c10
                    try clear c11
                    try clear c14
                    try clear hx248_0
                    try clear hx248_1
                    try clear hx248_10
                    try clear hx248_11
                    try clear hx248_12
                    try clear hx248_2
                    try clear hx248_3
                    try clear hx248_4
                    try clear hx248_5
                    try clear hx248_6
                    try clear hx248_7
                    try clear hx248_8
                    try clear hx248_9
                    try clear p2
                    try clear p248
                    try clear q248
                    obtain ⟨x9_3, x10_3, rfl, HA, HK3, HO_9, HB⟩ := hrel
                    cases gk with
                    | zero => exact absurd HA.out (by simp [chargeparkref42_Net.l1])
                    | succ k3 =>
                      have H := HA.out
                      clear HA
                      simp only [chargeparkref42_Net.l1] at H
                      by_cases c15 : x10_3 < a1
                      · rw [if_pos c15] at H
                        have c15b0 : decide (x10_3 < a1) = true := decide_eq_true c15
                        clear c15
                        replace H := Option.bind_eq_some_iff.mp H
                        obtain ⟨t251, A160, H⟩ := H
                        replace H : (if x9_3.length < 17592186044416 then (chargeparkref42_Net.l1 k3 l0 a1 (x9_3 ++ [t251]) (wrap64 (x10_3 + 1))) else (none)) = some (r1, r2) := H
                        have A16 := Aside0.mk A160
                        clear A160
                        by_cases c17 : x9_3.length < 17592186044416
                        · rw [if_pos c17] at H
                          have LMc17 := Aside0.mk c17
                          clear c17
                          obtain ⟨y252, hy252⟩ : ∃ y_ : List Int, y_ = (x9_3 ++ [t251]) := ⟨_, rfl⟩
                          replace H : (chargeparkref42_Net.l1 k3 l0 a1 y252 (wrap64 (x10_3 + 1))) = some (r1, r2) := by first | (rw [hy252]; with_reducible exact H) | (have H2_ := (Option.bind_some _ _).symm.trans H; rw [hy252]; with_reducible exact H2_) | (have H2_ := (Option.bind_some _ _).symm.trans H; with_reducible exact H2_) | with_reducible exact H | (rw [hy252]; exact H) | exact H
                          have Ny252 := Aside0.mk hy252
                          clear hy252
                          have H' := Aside0.mk H
                          clear H
                          go_wp2_with (first | ((with_reducible refine gate_callee (f := 23) rfl ?_); refine goesL_ (some 45) rfl rfl Try.func23 (by kernel_rfl) rfl #[.slice A0 l0.length c0, .int .i64 x10_3] rfl (by (try simp only [List.map_toArray, List.map_cons, List.map_nil]); first | done | rfl | (simp only [List.length_drop, List.length_take]; rfl)) ?_; (with_reducible refine (chargeparkref42_Gets.calls k3 _ _ l0 x10_3 t251 _ ?side1 ?side2 A16.out).mono ?_); (case side1 => repeat (first | exact (Kd.C_below HR0.out HB.out) | (with_reducible refine Kd.C_alloc ?_ _) | (with_reducible refine Kd.C_drewN ?_ _) | (with_reducible refine Kd.C_drew ?_))); (case side2 => exact HC0.out); rintro e w' ⟨rfl, ⟨nd, rfl⟩⟩; refine ⟨_, rfl, ?_⟩) | ((with_reducible refine gate_builtin (b := .append) (xs := #[.tmp 42, .tmp 46]) rfl ?_); at_builtin; refine Kd.R_append (Kd.int .i64) (w0 := w) w.heap.size rfl (.tmp 42) (.tmp 46) 23 3 (.int .i64 0) 8 rfl Try.underlying23 info3 rfl (by decide) (by omega) u9 x9_3 t251 [.int .i64 t251] (fun _ => True) (fun _ => False) rfl rfl ?aP (fun _ hk => hk.elim) ?aF ?aO ?aB ?aS ?aL ?_; (case aP => exact rfl); (case aB => exact (by repeat (first | (with_reducible first | exact HB.out | apply below_alloc | apply pw_below_drewN | apply below_drew1) | exact HB.out))); (case aF => exact (fun _ _ => trivial)); (case aO => exact (by (with_reducible repeat (first | apply Kd.R_alloc | apply Kd.R_drewN | apply Kd.R_drew)); exact HO_9.out)); (case aS => exact (below_size (by repeat (first | (with_reducible first | exact HB.out | apply below_alloc | apply pw_below_drewN | apply below_drew1) | exact HB.out)))); (case aL => have := LMc17.out; omega); intro v253 w18 ho hb hg hat; rw [← Ny252.out] at ho; have n0_ := Aside0.mk (hb); have n1_ := Aside0.mk (ho); clear HB; clear HO_9; have HB := n0_; have HO254 := n1_; clear n0_ n1_; clear ho hb hg hat))
                          go_roundg k3
                          case measure => have := HJ3.out; have := HK2.out; have := HK3.out; omega
                          case rel => exact ⟨(y252), (wrap64 (x10_3 + 1)), (by first | rfl | (simp; done) | (simp [*]; done)), H', ⟨by have := HJ3.out; have := HK2.out; have := HK3.out; omega⟩, ⟨by (with_reducible repeat (first | apply Kd.R_alloc | apply Kd.R_drewN | apply Kd.R_drew)); exact HO254.out⟩, ⟨by repeat (first | (with_reducible first | exact HB.out | apply below_alloc | apply pw_below_drewN | apply below_drew1) | exact HB.out)⟩⟩
                        · rw [if_neg c17] at H
                          exact absurd H (by simp)
                      · rw [if_neg c15] at H
                        have c15b0 : decide (x10_3 < a1) = false := decide_eq_false c15
                        clear c15
                        simp only [Option.some.injEq, Prod.mk.injEq] at H
                        obtain ⟨rfl, rfl⟩ := H
                        go_wp2
                        go_ret2
                        exact ⟨_, by first | rfl | (simp [errW_none, errW_some] <;> rfl) | (simp [*, errW_none, errW_some] <;> rfl), by (with_reducible repeat (first | apply Kd.R_alloc | apply Kd.R_drewN | apply Kd.R_drew)); exact HO_9.out, by repeat (first | (with_reducible first | exact HB.out | apply below_alloc | apply pw_below_drewN | apply below_drew1) | exact HB.out)⟩


/-! ### chargeparkref42_Balances: function 18 -/
def chargeparkref42_Balances.l0 : Nat → List Int → Int → Int → Option (Bool)
  | 0, _, _, _ => none
  | k + 1, x0, x3, x4 => if x4 < (x0.length : Int) then (if 0 ≤ x4 then (if (rd x0 x4) < (-64000000000) then (some false) else (if (rd x0 x4) > 64000000000 then (some false) else (chargeparkref42_Balances.l0 k x0 (wrap64 (x3 + (rd x0 x4))) (wrap64 (x4 + 1))))) else (none)) else (if (x0.length : Int) ≥ 1 then (if (x0.length : Int) ≤ 8 then (some (x3 == 0)) else (some false)) else (some false))
def chargeparkref42_Balances.f (k : Nat) (l0 : List Int) : Option (Bool) := chargeparkref42_Balances.l0 k l0 0 0
theorem chargeparkref42_Balances.mono_l : ∀ k, (∀ y0 y1 y2, LeO (chargeparkref42_Balances.l0 k y0 y1 y2) (chargeparkref42_Balances.l0 (k + 1) y0 y1 y2))
  | 0 => fun _ _ _ r h => by simp [chargeparkref42_Balances.l0] at h
  | k + 1 => by
    have ih0 := chargeparkref42_Balances.mono_l k
    · intro y0 y1 y2
      unfold chargeparkref42_Balances.l0
      repeat' first
      | (with_reducible exact ih0 _ _ _)
      | (with_reducible exact LeO.refl _)
      | (with_reducible exact LeO.none _)
      | (with_reducible refine LeO.ite ?_ ?_)
      | (with_reducible refine LeO.bind ?_ (fun _ => ?_))
      | exact ih0 _ _ _
      | exact LeO.none _
      | refine LeO.ite ?_ ?_
      | refine LeO.bind ?_ (fun _ => ?_)
theorem chargeparkref42_Balances.mono : ∀ a0 k, LeO (chargeparkref42_Balances.f k a0) (chargeparkref42_Balances.f (k + 1) a0) := by
  intro a0 k
  have ih0 := chargeparkref42_Balances.mono_l k
  unfold chargeparkref42_Balances.f
  repeat' first
      | (with_reducible exact ih0 _ _ _)
      | (with_reducible exact LeO.refl _)
      | (with_reducible exact LeO.none _)
      | (with_reducible refine LeO.ite ?_ ?_)
      | (with_reducible refine LeO.bind ?_ (fun _ => ?_))
      | exact ih0 _ _ _
      | exact LeO.none _
      | refine LeO.ite ?_ ?_
      | refine LeO.bind ?_ (fun _ => ?_)
set_option maxHeartbeats 8000000 in
set_option maxRecDepth 100000 in
theorem chargeparkref42_Balances.calls (k : Nat) (A0 : Option Addr) (c0 : Nat) (l0 : List Int) (r : Bool) (w : World) (hr0 : Kd.C (Kd.int .i64) w A0 l0.length l0) (hc0 : l0.length ≤ c0) (h : chargeparkref42_Balances.f k l0 = some r) :
    Calls Try.prog 18 #[.slice A0 l0.length c0] w fun e w' => e = .returned (.bool r) ∧ Drawn0 w w' := by
  have HR0 := Aside0.mk hr0
  have HC0 := Aside0.mk hc0
  clear hr0 hc0
  have H : (chargeparkref42_Balances.l0 k l0 0 0) = some r := h
  clear h
  have H' := Aside0.mk H
  clear H
  go_enter Try.func18, Try.ntmps18
  go_wp2
  go_loopg [3, 4] k (fun kq v3 v4 w' => ∃ (x3_1 : Int) (x4_1 : Int), v3 = .int .i64 x3_1 ∧ v4 = .int .i64 x4_1 ∧ Aside0 (chargeparkref42_Balances.l0 kq l0 x3_1 x4_1 = some r) ∧ Aside0 (kq ≤ k) ∧ Drawn0 w w')
  case atStart => exact ⟨(0), (0), (by first | rfl | (simp; done) | (simp [*]; done)), (by first | rfl | (simp; done) | (simp [*]; done)), H', ⟨Nat.le_refl _⟩, by repeat (first | exact Drawn0.refl _ | apply Drawn0.step)⟩
  case round =>
    clear H'
    try clear c1
    obtain ⟨x3_1, x4_1, rfl, rfl, HA, HK1, ⟨m1, rfl⟩⟩ := hrel
    cases gk with
    | zero => exact absurd HA.out (by simp [chargeparkref42_Balances.l0])
    | succ k1 =>
      have H := HA.out
      clear HA
      simp only [chargeparkref42_Balances.l0] at H
      by_cases c2 : x4_1 < (l0.length : Int)
      · rw [if_pos c2] at H
        have c2b0 : decide (x4_1 < (l0.length : Int)) = true := decide_eq_true c2
        clear c2
        by_cases c3 : 0 ≤ x4_1
        · rw [if_pos c3] at H
          have c3b0 : decide (0 ≤ x4_1) = true := decide_eq_true c3
          clear c3
          by_cases c4 : (rd l0 x4_1) < (-64000000000)
          · rw [if_pos c4] at H
            have c4b0 : decide ((rd l0 x4_1) < (-64000000000)) = true := decide_eq_true c4
            clear c4
            obtain rfl := Option.some.inj H
            have p255 : 0 ≤ (x4_1 : Int) := of_decide_eq_true (by first | (with_reducible assumption) | assumption)
            have q255 : x4_1 < (l0.length : Int) := of_decide_eq_true (by first | (with_reducible assumption) | assumption)
            obtain ⟨ad255, e255, hx255_0⟩ := Kd.at_int HR0.out x4_1 p255 q255
            cases e255
            replace p255 := eq_true p255
            replace q255 := eq_true q255
            go_wp2
            go_ret
            exact ⟨by first | rfl | (simp; done) | (simp [*]; done), by repeat (first | exact Drawn0.refl _ | apply Drawn0.step)⟩
          · rw [if_neg c4] at H
            have c4b0 : decide ((rd l0 x4_1) < (-64000000000)) = false := decide_eq_false c4
            clear c4
            by_cases c5 : (rd l0 x4_1) > 64000000000
            · rw [if_pos c5] at H
              have c5b0 : decide (64000000000 < (rd l0 x4_1)) = true := decide_eq_true c5
              clear c5
              obtain rfl := Option.some.inj H
              have p255 : 0 ≤ (x4_1 : Int) := of_decide_eq_true (by first | (with_reducible assumption) | assumption)
              have q255 : x4_1 < (l0.length : Int) := of_decide_eq_true (by first | (with_reducible assumption) | assumption)
              obtain ⟨ad255, e255, hx255_0⟩ := Kd.at_int HR0.out x4_1 p255 q255
              cases e255
              replace p255 := eq_true p255
              replace q255 := eq_true q255
              have p256 : 0 ≤ (x4_1 : Int) := of_decide_eq_true (by first | (with_reducible assumption) | assumption)
              have q256 : x4_1 < (l0.length : Int) := of_decide_eq_true (by first | (with_reducible assumption) | assumption)
              obtain ⟨ad256, e256, hx256_0⟩ := Kd.at_int HR0.out x4_1 p256 q256
              obtain rfl : ad255 = ad256 := (by injection e256)
              replace p256 := eq_true p256
              replace q256 := eq_true q256
              go_wp2
              go_ret
              exact ⟨by first | rfl | (simp; done) | (simp [*]; done), by repeat (first | exact Drawn0.refl _ | apply Drawn0.step)⟩
            · rw [if_neg c5] at H
              have c5b0 : decide (64000000000 < (rd l0 x4_1)) = false := decide_eq_false c5
              clear c5
              have H' := Aside0.mk H
              clear H
              have p255 : 0 ≤ (x4_1 : Int) := of_decide_eq_true (by first | (with_reducible assumption) | assumption)
              have q255 : x4_1 < (l0.length : Int) := of_decide_eq_true (by first | (with_reducible assumption) | assumption)
              obtain ⟨ad255, e255, hx255_0⟩ := Kd.at_int HR0.out x4_1 p255 q255
              cases e255
              replace p255 := eq_true p255
              replace q255 := eq_true q255
              have p256 : 0 ≤ (x4_1 : Int) := of_decide_eq_true (by first | (with_reducible assumption) | assumption)
              have q256 : x4_1 < (l0.length : Int) := of_decide_eq_true (by first | (with_reducible assumption) | assumption)
              obtain ⟨ad256, e256, hx256_0⟩ := Kd.at_int HR0.out x4_1 p256 q256
              obtain rfl : ad255 = ad256 := (by injection e256)
              replace p256 := eq_true p256
              replace q256 := eq_true q256
              have p257 : 0 ≤ (x4_1 : Int) := of_decide_eq_true (by first | (with_reducible assumption) | assumption)
              have q257 : x4_1 < (l0.length : Int) := of_decide_eq_true (by first | (with_reducible assumption) | assumption)
              obtain ⟨ad257, e257, hx257_0⟩ := Kd.at_int HR0.out x4_1 p257 q257
              obtain rfl : ad255 = ad257 := (by injection e257)
              replace p257 := eq_true p257
              replace q257 := eq_true q257
              go_wp2
              go_roundg k1
              case measure => have := HK1.out; omega
              case rel => exact ⟨(wrap64 (x3_1 + (rd l0 x4_1))), (wrap64 (x4_1 + 1)), (by first | rfl | (simp; done) | (simp [*]; done)), (by first | rfl | (simp; done) | (simp [*]; done)), H', ⟨by have := HK1.out; omega⟩, by repeat (first | exact Drawn0.refl _ | apply Drawn0.step)⟩
        · rw [if_neg c3] at H
          exact absurd H (by simp)
      · rw [if_neg c2] at H
        have c2b0 : decide (x4_1 < (l0.length : Int)) = false := decide_eq_false c2
        clear c2
        by_cases c6 : (l0.length : Int) ≥ 1
        · rw [if_pos c6] at H
          have c6b0 : decide (1 ≤ (l0.length : Int)) = true := decide_eq_true c6
          have c6b1 : decide (1 ≤ l0.length) = true := decide_eq_true (by omega)
          clear c6
          by_cases c7 : (l0.length : Int) ≤ 8
          · rw [if_pos c7] at H
            have c7b0 : decide ((l0.length : Int) ≤ 8) = true := decide_eq_true c7
            have c7b1 : decide (l0.length ≤ 8) = true := decide_eq_true (by omega)
            clear c7
            obtain rfl := Option.some.inj H
            go_wp2
            go_ret
            exact ⟨by first | rfl | (simp; done) | (simp [*]; done), by repeat (first | exact Drawn0.refl _ | apply Drawn0.step)⟩
          · rw [if_neg c7] at H
            have c7b0 : decide ((l0.length : Int) ≤ 8) = false := decide_eq_false c7
            have c7b1 : decide (l0.length ≤ 8) = false := decide_eq_false (by omega)
            clear c7
            obtain rfl := Option.some.inj H
            go_wp2
            go_ret
            exact ⟨by first | rfl | (simp; done) | (simp [*]; done), by repeat (first | exact Drawn0.refl _ | apply Drawn0.step)⟩
        · rw [if_neg c6] at H
          have c6b0 : decide (1 ≤ (l0.length : Int)) = false := decide_eq_false c6
          have c6b1 : decide (1 ≤ l0.length) = false := decide_eq_false (by omega)
          clear c6
          obtain rfl := Option.some.inj H
          go_wp2
          go_ret
          exact ⟨by first | rfl | (simp; done) | (simp [*]; done), by repeat (first | exact Drawn0.refl _ | apply Drawn0.step)⟩


end Go.Proofs.Ytanaaphabeonoaa.PAll
