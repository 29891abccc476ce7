-- Written by a program of this session (xprint.py, over the kit's print.py), with contracts proved by hand.
import Derived.Test.YtojjdpbjcaedpaaPAllx0
import Derived.Test.YtojjdpbjcaedpaaPAllx1
import Derived.Test.YtojjdpbjcaedpaaPAllx2
import Derived.Test.YtojjdpbjcaedpaaPAllx3
namespace Go.Proofs.Ytojjdpbjcaedpaa.PAll
open Go.RowKit Go.Proofs.Ytojjdpbjcaedpaa.Open Go.Proofs.YtojjdpbjcaedpaaW.PrintWords Go.Proofs.YtojjdpbjcaedpaaW.PrintLast Go.Proofs.YtojjdpbjcaedpaaW.PrintMore
attribute [local go_sem] max2_int min2_int max_two min_two max_three min_three max_four min_four   -- for this text's walks alone
set_option linter.unusedVariables false
set_option linter.unusedSimpArgs false

/-! ### chargeparklaw13_CarFills: function 6 -/
mutual
def chargeparklaw13_CarFills.j0 : Nat → Int → Int → Bool → Int → Bool → Int → Int → Int → Int → Int → List Int → Int → Int → Option (Bool)
  | 0, _, _, _, _, _, _, _, _, _, _, _, _, _ => none
  | k + 1, x1, x2, x7, x10, x54, x297000, x297001, x297002, x297003, x297004, x305000, x305001, x305002 => if x54 = true then (some x7) else (if (wrap64 ((wrap64 (2300 * x297002)) * x10)) = 0 then (none) else (if (wrap64 (Int.tdiv (wrap64 ((wrap64 (x297003 + (wrap64 ((wrap64 (2300 * x297002)) * x10)))) - 1)) (wrap64 ((wrap64 (2300 * x297002)) * x10)))) > 200 then (some x7) else (chargeparklaw13_CarFills.l0 k x1 x2 x7 (wrap64 (Int.tdiv (wrap64 ((wrap64 (x297003 + (wrap64 ((wrap64 (2300 * x297002)) * x10)))) - 1)) (wrap64 ((wrap64 (2300 * x297002)) * x10)))) 0 x297000 x297001 x297002 x297003 x297004 x305000 x305001 x305002)))
def chargeparklaw13_CarFills.l0 : Nat → Int → Int → Bool → Int → Int → Int → Int → Int → Int → Int → List Int → Int → Int → Option (Bool)
  | 0, _, _, _, _, _, _, _, _, _, _, _, _, _ => none
  | k + 1, x1, x2, x7, x71, x72, x297000, x297001, x297002, x297003, x297004, x305000, x305001, x305002 => if x72 < x71 then (if x305002 ≥ x297003 then (none) else ((car_Draw.f x297000 x297001 x297002 x297003 x297004 x305000 x305001 x305002 x1 (wrap64 (x297002 + x2))).bind fun bt306 => (if bt306.2.2.2.2.2 = 0 then (if bt306.1 = x297002 then (chargeparklaw13_CarFills.l0 k x1 x2 x7 x71 (wrap64 (x72 + 1)) x297000 x297001 x297002 x297003 x297004 bt306.2.2.1 bt306.2.2.2.1 bt306.2.2.2.2.1) else (none)) else (none)))) else (if x7 = true then (some (decide (x305002 ≥ x297003))) else (none))
end
def chargeparklaw13_CarFills.f (k : Nat) (a0_0 : Int) (a0_1 : Int) (a0_2 : Int) (a0_3 : Int) (a0_4 : Int) (a1 : Int) (a2 : Int) : Option (Bool) := (chargeparklaw13_head.f k).bind fun t297 => ((car_Plug.f 0 a0_1 a0_2 a0_3 a0_4).bind fun bt298 => ((chargeparkref13_Count.f (Go.bits .and .i64 (Go.bits .and .i64 a0_1 7) a1)).bind fun t305 => (if bt298.2.2.2 = 0 then (if a1 < 1 then (chargeparklaw13_CarFills.j0 k a1 a2 t297 t305 true 0 a0_1 a0_2 a0_3 a0_4 bt298.1 bt298.2.1 bt298.2.2.1) else (if a1 > 7 then (chargeparklaw13_CarFills.j0 k a1 a2 t297 t305 true 0 a0_1 a0_2 a0_3 a0_4 bt298.1 bt298.2.1 bt298.2.2.1) else (if t305 = 0 then (chargeparklaw13_CarFills.j0 k a1 a2 t297 t305 true 0 a0_1 a0_2 a0_3 a0_4 bt298.1 bt298.2.1 bt298.2.2.1) else (if a2 < 0 then (chargeparklaw13_CarFills.j0 k a1 a2 t297 t305 true 0 a0_1 a0_2 a0_3 a0_4 bt298.1 bt298.2.1 bt298.2.2.1) else (chargeparklaw13_CarFills.j0 k a1 a2 t297 t305 (decide (a2 > (wrap64 (80 - a0_2)))) 0 a0_1 a0_2 a0_3 a0_4 bt298.1 bt298.2.1 bt298.2.2.1))))) else (chargeparklaw13_CarFills.j0 k a1 a2 t297 t305 true 0 a0_1 a0_2 a0_3 a0_4 bt298.1 bt298.2.1 bt298.2.2.1))))
theorem chargeparklaw13_CarFills.mono_l : ∀ k, (∀ y0 y1 y2 y3 y4 y5 y6 y7 y8 y9 y10 y11 y12, LeO (chargeparklaw13_CarFills.j0 k y0 y1 y2 y3 y4 y5 y6 y7 y8 y9 y10 y11 y12) (chargeparklaw13_CarFills.j0 (k + 1) y0 y1 y2 y3 y4 y5 y6 y7 y8 y9 y10 y11 y12)) ∧ (∀ y0 y1 y2 y3 y4 y5 y6 y7 y8 y9 y10 y11 y12, LeO (chargeparklaw13_CarFills.l0 k y0 y1 y2 y3 y4 y5 y6 y7 y8 y9 y10 y11 y12) (chargeparklaw13_CarFills.l0 (k + 1) y0 y1 y2 y3 y4 y5 y6 y7 y8 y9 y10 y11 y12))
  | 0 => ⟨fun _ _ _ _ _ _ _ _ _ _ _ _ _ r h => by simp [chargeparklaw13_CarFills.j0] at h, fun _ _ _ _ _ _ _ _ _ _ _ _ _ r h => by simp [chargeparklaw13_CarFills.l0] at h⟩
  | k + 1 => by
    obtain ⟨ih0, ih1⟩ := chargeparklaw13_CarFills.mono_l k
    refine ⟨?_, ?_⟩
    · intro y0 y1 y2 y3 y4 y5 y6 y7 y8 y9 y10 y11 y12
      unfold chargeparklaw13_CarFills.j0
      repeat' first
      | (with_reducible exact ih0 _ _ _ _ _ _ _ _ _ _ _ _ _)
      | (with_reducible exact ih1 _ _ _ _ _ _ _ _ _ _ _ _ _)
      | (with_reducible exact chargeparklaw13_head.mono _)
      | (with_reducible exact LeO.refl _)
      | (with_reducible exact LeO.none _)
      | (with_reducible refine LeO.ite ?_ ?_)
      | (with_reducible refine LeO.bind ?_ (fun _ => ?_))
      | exact ih0 _ _ _ _ _ _ _ _ _ _ _ _ _
      | exact ih1 _ _ _ _ _ _ _ _ _ _ _ _ _
      | exact chargeparklaw13_head.mono _
      | exact LeO.none _
      | refine LeO.ite ?_ ?_
      | refine LeO.bind ?_ (fun _ => ?_)
    · intro y0 y1 y2 y3 y4 y5 y6 y7 y8 y9 y10 y11 y12
      unfold chargeparklaw13_CarFills.l0
      repeat' first
      | (with_reducible exact ih0 _ _ _ _ _ _ _ _ _ _ _ _ _)
      | (with_reducible exact ih1 _ _ _ _ _ _ _ _ _ _ _ _ _)
      | (with_reducible exact chargeparklaw13_head.mono _)
      | (with_reducible exact LeO.refl _)
      | (with_reducible exact LeO.none _)
      | (with_reducible refine LeO.ite ?_ ?_)
      | (with_reducible refine LeO.bind ?_ (fun _ => ?_))
      | exact ih0 _ _ _ _ _ _ _ _ _ _ _ _ _
      | exact ih1 _ _ _ _ _ _ _ _ _ _ _ _ _
      | exact chargeparklaw13_head.mono _
      | exact LeO.none _
      | refine LeO.ite ?_ ?_
      | refine LeO.bind ?_ (fun _ => ?_)
theorem chargeparklaw13_CarFills.mono : ∀ a0 a1 a2 a3 a4 a5 a6 k, LeO (chargeparklaw13_CarFills.f k a0 a1 a2 a3 a4 a5 a6) (chargeparklaw13_CarFills.f (k + 1) a0 a1 a2 a3 a4 a5 a6) := by
  intro a0 a1 a2 a3 a4 a5 a6 k
  obtain ⟨ih0, ih1⟩ := chargeparklaw13_CarFills.mono_l k
  unfold chargeparklaw13_CarFills.f
  repeat' first
      | (with_reducible exact ih0 _ _ _ _ _ _ _ _ _ _ _ _ _)
      | (with_reducible exact ih1 _ _ _ _ _ _ _ _ _ _ _ _ _)
      | (with_reducible exact chargeparklaw13_head.mono _)
      | (with_reducible exact LeO.refl _)
      | (with_reducible exact LeO.none _)
      | (with_reducible refine LeO.ite ?_ ?_)
      | (with_reducible refine LeO.bind ?_ (fun _ => ?_))
      | exact ih0 _ _ _ _ _ _ _ _ _ _ _ _ _
      | exact ih1 _ _ _ _ _ _ _ _ _ _ _ _ _
      | exact chargeparklaw13_head.mono _
      | exact LeO.none _
      | refine LeO.ite ?_ ?_
      | refine LeO.bind ?_ (fun _ => ?_)
set_option maxHeartbeats 8000000 in
set_option maxRecDepth 100000 in
theorem chargeparklaw13_CarFills.calls (k : Nat) (a0_0 : Int) (a0_1 : Int) (a0_2 : Int) (a0_3 : Int) (a0_4 : Int) (a1 : Int) (a2 : Int) (r : Bool) (w : World) (h : chargeparklaw13_CarFills.f k a0_0 a0_1 a0_2 a0_3 a0_4 a1 a2 = some r) :
    Calls Try.prog 6 #[.agg #[.int .i64 a0_0, .int .i64 a0_1, .int .i64 a0_2, .int .i64 a0_3, .int .i64 a0_4], .int .i64 a1, .int .i64 a2] w fun e w' => e = .returned (.bool r) ∧ Below w.heap.size w w' := by
  have hu23 := Try.underlying23
  have hu26 := Try.underlying26
  have HB := Aside0.mk (Below.refl w.heap.size w)
  have H : ((chargeparklaw13_head.f k).bind fun t297 => ((car_Plug.f 0 a0_1 a0_2 a0_3 a0_4).bind fun bt298 => ((chargeparkref13_Count.f (Go.bits .and .i64 (Go.bits .and .i64 a0_1 7) a1)).bind fun t305 => (if bt298.2.2.2 = 0 then (if a1 < 1 then (chargeparklaw13_CarFills.j0 k a1 a2 t297 t305 true 0 a0_1 a0_2 a0_3 a0_4 bt298.1 bt298.2.1 bt298.2.2.1) else (if a1 > 7 then (chargeparklaw13_CarFills.j0 k a1 a2 t297 t305 true 0 a0_1 a0_2 a0_3 a0_4 bt298.1 bt298.2.1 bt298.2.2.1) else (if t305 = 0 then (chargeparklaw13_CarFills.j0 k a1 a2 t297 t305 true 0 a0_1 a0_2 a0_3 a0_4 bt298.1 bt298.2.1 bt298.2.2.1) else (if a2 < 0 then (chargeparklaw13_CarFills.j0 k a1 a2 t297 t305 true 0 a0_1 a0_2 a0_3 a0_4 bt298.1 bt298.2.1 bt298.2.2.1) else (chargeparklaw13_CarFills.j0 k a1 a2 t297 t305 (decide (a2 > (wrap64 (80 - a0_2)))) 0 a0_1 a0_2 a0_3 a0_4 bt298.1 bt298.2.1 bt298.2.2.1))))) else (chargeparklaw13_CarFills.j0 k a1 a2 t297 t305 true 0 a0_1 a0_2 a0_3 a0_4 bt298.1 bt298.2.1 bt298.2.2.1))))) = some r := h
  clear h
  replace H := Option.bind_eq_some_iff.mp H
  obtain ⟨t297, A40, H⟩ := H
  replace H : ((car_Plug.f 0 a0_1 a0_2 a0_3 a0_4).bind fun bt298 => ((chargeparkref13_Count.f (Go.bits .and .i64 (Go.bits .and .i64 a0_1 7) a1)).bind fun t305 => (if bt298.2.2.2 = 0 then (if a1 < 1 then (chargeparklaw13_CarFills.j0 k a1 a2 t297 t305 true 0 a0_1 a0_2 a0_3 a0_4 bt298.1 bt298.2.1 bt298.2.2.1) else (if a1 > 7 then (chargeparklaw13_CarFills.j0 k a1 a2 t297 t305 true 0 a0_1 a0_2 a0_3 a0_4 bt298.1 bt298.2.1 bt298.2.2.1) else (if t305 = 0 then (chargeparklaw13_CarFills.j0 k a1 a2 t297 t305 true 0 a0_1 a0_2 a0_3 a0_4 bt298.1 bt298.2.1 bt298.2.2.1) else (if a2 < 0 then (chargeparklaw13_CarFills.j0 k a1 a2 t297 t305 true 0 a0_1 a0_2 a0_3 a0_4 bt298.1 bt298.2.1 bt298.2.2.1) else (chargeparklaw13_CarFills.j0 k a1 a2 t297 t305 (decide (a2 > (wrap64 (80 - a0_2)))) 0 a0_1 a0_2 a0_3 a0_4 bt298.1 bt298.2.1 bt298.2.2.1))))) else (chargeparklaw13_CarFills.j0 k a1 a2 t297 t305 true 0 a0_1 a0_2 a0_3 a0_4 bt298.1 bt298.2.1 bt298.2.2.1)))) = some r := H
  have A4 := Aside0.mk A40
  clear A40
  replace H := Option.bind_eq_some_iff.mp H
  obtain ⟨⟨t298, t301, t302, t303⟩, A50, H⟩ := H
  replace H : ((chargeparkref13_Count.f (Go.bits .and .i64 (Go.bits .and .i64 a0_1 7) a1)).bind fun t305 => (if t303 = 0 then (if a1 < 1 then (chargeparklaw13_CarFills.j0 k a1 a2 t297 t305 true 0 a0_1 a0_2 a0_3 a0_4 t298 t301 t302) else (if a1 > 7 then (chargeparklaw13_CarFills.j0 k a1 a2 t297 t305 true 0 a0_1 a0_2 a0_3 a0_4 t298 t301 t302) else (if t305 = 0 then (chargeparklaw13_CarFills.j0 k a1 a2 t297 t305 true 0 a0_1 a0_2 a0_3 a0_4 t298 t301 t302) else (if a2 < 0 then (chargeparklaw13_CarFills.j0 k a1 a2 t297 t305 true 0 a0_1 a0_2 a0_3 a0_4 t298 t301 t302) else (chargeparklaw13_CarFills.j0 k a1 a2 t297 t305 (decide (a2 > (wrap64 (80 - a0_2)))) 0 a0_1 a0_2 a0_3 a0_4 t298 t301 t302))))) else (chargeparklaw13_CarFills.j0 k a1 a2 t297 t305 true 0 a0_1 a0_2 a0_3 a0_4 t298 t301 t302))) = some r := H
  have A5 := Aside0.mk A50
  clear A50
  replace H := Option.bind_eq_some_iff.mp H
  obtain ⟨t305, A60, H⟩ := H
  replace H : (if t303 = 0 then (if a1 < 1 then (chargeparklaw13_CarFills.j0 k a1 a2 t297 t305 true 0 a0_1 a0_2 a0_3 a0_4 t298 t301 t302) else (if a1 > 7 then (chargeparklaw13_CarFills.j0 k a1 a2 t297 t305 true 0 a0_1 a0_2 a0_3 a0_4 t298 t301 t302) else (if t305 = 0 then (chargeparklaw13_CarFills.j0 k a1 a2 t297 t305 true 0 a0_1 a0_2 a0_3 a0_4 t298 t301 t302) else (if a2 < 0 then (chargeparklaw13_CarFills.j0 k a1 a2 t297 t305 true 0 a0_1 a0_2 a0_3 a0_4 t298 t301 t302) else (chargeparklaw13_CarFills.j0 k a1 a2 t297 t305 (decide (a2 > (wrap64 (80 - a0_2)))) 0 a0_1 a0_2 a0_3 a0_4 t298 t301 t302))))) else (chargeparklaw13_CarFills.j0 k a1 a2 t297 t305 true 0 a0_1 a0_2 a0_3 a0_4 t298 t301 t302)) = some r := H
  have A6 := Aside0.mk A60
  clear A60
  have HC7 := Aside0.mk H
  clear H
  go_enter Try.func6, Try.ntmps6
  go_upto_region 5 with (first | ((with_reducible refine gate_dst (N := 3) rfl ?_); refine box_event ?hg (N := 3) ?hd (cs := #[.int .i64 a0_0, .int .i64 a0_1, .int .i64 a0_2, .int .i64 a0_3, .int .i64 a0_4]) (t := 23) ?hr ?_; (case hd => rfl); (case hg => rfl); (case hr => first | (go_simp; done) | (go_simp; rfl)); intro gb296 hg w8 hbox hb; have n0_ := Aside0.mk (below_step (by repeat (first | (with_reducible first | exact HB.out | apply below_alloc | apply pw_below_drewN | apply below_drew1) | exact HB.out)) hb); have n1_ := Aside0.mk (hbox); have n2_ := Aside0.mk ((by rw [hg]; exact (below_size (by repeat (first | (with_reducible first | exact HB.out | apply below_alloc | apply pw_below_drewN | apply below_drew1) | exact HB.out))) : w.heap.size ≤ gb296)); have n3_ := Aside0.mk ((by rw [hg]; exact (below_size (by repeat (first | (with_reducible first | exact HB.out | apply below_alloc | apply pw_below_drewN | apply below_drew1) | exact HB.out))) : w.heap.size ≤ gb296)); clear HB; have HB := n0_; have BK296 := n1_; have GW296 := n2_; have GE296 := n3_; clear n0_ n1_ n2_ n3_; clear hb hbox hg) | ((with_reducible refine gate_callee (f := 10) rfl ?_); refine goesL_ (some 17) rfl rfl Try.func10 (by kernel_rfl) rfl #[] rfl (by (try simp only [List.map_toArray, List.map_cons, List.map_nil]); first | done | rfl | (simp only [List.length_drop, List.length_take]; rfl)) ?_; (with_reducible refine (chargeparklaw13_head.calls k  t297 _ A4.out).mono ?_); rintro e w9 ⟨rfl, hb⟩; refine ⟨_, rfl, ?_⟩; have n0_ := Aside0.mk (blk_below (g := gb296) (o := .cells #[.int .i64 a0_0, .int .i64 a0_1, .int .i64 a0_2, .int .i64 a0_3, .int .i64 a0_4] 23 (0, 0)) (by (with_reducible repeat (first | refine blk_drewN ?_ _ | refine blk_drew ?_ | refine blk_alloc ?_ _)); exact BK296.out) hb); have n1_ := Aside0.mk (below_step (by repeat (first | (with_reducible first | exact HB.out | apply below_alloc | apply pw_below_drewN | apply below_drew1 | refine below_set ?_ GE296.out) | exact HB.out)) hb); clear BK296; clear HB; have BK296 := n0_; have HB := n1_; clear n0_ n1_; (try clear hb); (try clear hb2); (try clear hk); (try clear hi); have hcz10_0 : w9.cell? ⟨gb296, 0, none⟩ = some (.int .i64 a0_0) := (blk_cell BK296.out 0).trans rfl; have hcz10_1 : w9.cell? ⟨gb296, 1, none⟩ = some (.int .i64 a0_1) := (blk_cell BK296.out 1).trans rfl; have hcz10_2 : w9.cell? ⟨gb296, 2, none⟩ = some (.int .i64 a0_2) := (blk_cell BK296.out 2).trans rfl; have hcz10_3 : w9.cell? ⟨gb296, 3, none⟩ = some (.int .i64 a0_3) := (blk_cell BK296.out 3).trans rfl; have hcz10_4 : w9.cell? ⟨gb296, 4, none⟩ = some (.int .i64 a0_4) := (blk_cell BK296.out 4).trans rfl; have hfz10_0 := blk_frozen BK296.out 0; have hfz10_1 := blk_frozen BK296.out 1; have hfz10_2 := blk_frozen BK296.out 2; have hfz10_3 := blk_frozen BK296.out 3; have hfz10_4 := blk_frozen BK296.out 4) | ((with_reducible refine gate_callee (f := 13) rfl ?_); refine goesL_ (some 21) rfl rfl Try.func13 (by kernel_rfl) rfl #[.agg #[.int .i64 0, .int .i64 a0_1, .int .i64 a0_2, .int .i64 a0_3, .int .i64 a0_4]] rfl (by (try simp only [List.map_toArray, List.map_cons, List.map_nil]); first | done | rfl | (simp only [List.length_drop, List.length_take]; rfl)) ?_; (with_reducible refine (car_Plug.calls 0 a0_1 a0_2 a0_3 a0_4 t298 t301 t302 t303 _ A5.out).mono ?_); rintro e w11 ⟨v299, rfl, ho0, hb⟩; refine ⟨_, rfl, ?_⟩; have n0_ := Aside0.mk (Kd.R_lower ho0 (below_size (by repeat (first | (with_reducible first | exact HB.out | apply below_alloc | apply pw_below_drewN | apply below_drew1 | refine below_set ?_ GE296.out) | exact HB.out)))); have n1_ := Aside0.mk (blk_below (g := gb296) (o := .cells #[.int .i64 0, .int .i64 a0_1, .int .i64 a0_2, .int .i64 a0_3, .int .i64 a0_4] 23 (0, 0)) (by (with_reducible repeat (first | refine blk_drewN ?_ _ | refine blk_drew ?_ | refine blk_alloc ?_ _)); refine blk_put (cs := #[.int .i64 a0_0, .int .i64 a0_1, .int .i64 a0_2, .int .i64 a0_3, .int .i64 a0_4]) ?_ 0 _ rfl; (with_reducible repeat (first | refine blk_drewN ?_ _ | refine blk_drew ?_ | refine blk_alloc ?_ _)); exact BK296.out) hb); have n2_ := Aside0.mk (below_step (by repeat (first | (with_reducible first | exact HB.out | apply below_alloc | apply pw_below_drewN | apply below_drew1 | refine below_set ?_ GE296.out) | exact HB.out)) hb); clear BK296; clear HB; have HO300 := n0_; have BK296 := n1_; have HB := n2_; clear n0_ n1_ n2_; (try clear hb); (try clear hb2); (try clear hk); (try clear hi); (try clear ho0)) | ((with_reducible refine gate_dst (N := 8) rfl ?_); refine box_event ?hg (N := 8) ?hd (cs := #[.slice none 0 0, .int .i64 0, .int .i64 0]) (t := 26) ?hr ?_; (case hd => rfl); (case hg => rfl); (case hr => first | (go_simp; done) | (go_simp; rfl)); intro gb304 hg w12 hbox hb; have n0_ := Aside0.mk (Kd.R_below (by (with_reducible repeat (first | apply Kd.R_alloc | apply Kd.R_drewN | apply Kd.R_drew)); exact HO300.out) hb); have n1_ := Aside0.mk (blk_below (g := gb296) (o := .cells #[.int .i64 0, .int .i64 a0_1, .int .i64 a0_2, .int .i64 a0_3, .int .i64 a0_4] 23 (0, 0)) (by (with_reducible repeat (first | refine blk_drewN ?_ _ | refine blk_drew ?_ | refine blk_alloc ?_ _)); exact BK296.out) hb); have n2_ := Aside0.mk (below_step (by repeat (first | (with_reducible first | exact HB.out | apply below_alloc | apply pw_below_drewN | apply below_drew1 | refine below_set ?_ GE296.out) | exact HB.out)) hb); have n3_ := Aside0.mk (hbox); have n4_ := Aside0.mk ((by rw [hg]; exact (below_size (by repeat (first | (with_reducible first | exact HB.out | apply below_alloc | apply pw_below_drewN | apply below_drew1 | refine below_set ?_ GE296.out) | exact HB.out))) : w.heap.size ≤ gb304)); have n5_ := Aside0.mk ((by rw [hg]; exact (below_size (by repeat (first | (with_reducible first | exact HB.out | apply below_alloc | apply pw_below_drewN | apply below_drew1 | refine below_set ?_ GE296.out) | exact HB.out))) : w.heap.size ≤ gb304)); have n6_ := Aside0.mk ((by rw [hg]; exact Nat.ne_of_lt (blk_lt (g := gb296) (o := .cells #[.int .i64 0, .int .i64 a0_1, .int .i64 a0_2, .int .i64 a0_3, .int .i64 a0_4] 23 (0, 0)) (by (with_reducible repeat (first | refine blk_drewN ?_ _ | refine blk_drew ?_ | refine blk_alloc ?_ _)); exact BK296.out)) : gb296 ≠ gb304)); have n7_ := Aside0.mk ((by rw [hg]; exact Nat.ne_of_gt (blk_lt (g := gb296) (o := .cells #[.int .i64 0, .int .i64 a0_1, .int .i64 a0_2, .int .i64 a0_3, .int .i64 a0_4] 23 (0, 0)) (by (with_reducible repeat (first | refine blk_drewN ?_ _ | refine blk_drew ?_ | refine blk_alloc ?_ _)); exact BK296.out)) : gb304 ≠ gb296)); clear HO300; clear BK296; clear HB; have HO300 := n0_; have BK296 := n1_; have HB := n2_; have BK304 := n3_; have GW304 := n4_; have GE304 := n5_; have NB296_304 := n6_; have NB304_296 := n7_; clear n0_ n1_ n2_ n3_ n4_ n5_ n6_ n7_; clear hb hbox hg; obtain ⟨Ao13, co13, eo13⟩ := Kd.R_slice HO300.out; subst eo13; have hnb14 := NB304_296.out; have hnc14 := NB296_304.out; have hcz15_0 : w12.cell? ⟨gb304, 0, none⟩ = some (.slice none 0 0) := (blk_cell BK304.out 0).trans rfl; have hcz15_1 : w12.cell? ⟨gb304, 1, none⟩ = some (.int .i64 0) := (blk_cell BK304.out 1).trans rfl; have hcz15_2 : w12.cell? ⟨gb304, 2, none⟩ = some (.int .i64 0) := (blk_cell BK304.out 2).trans rfl; have hfz15_0 := blk_frozen BK304.out 0; have hfz15_1 := blk_frozen BK304.out 1; have hfz15_2 := blk_frozen BK304.out 2; have hcz16_0 : w12.cell? ⟨gb296, 0, none⟩ = some (.int .i64 0) := (blk_cell BK296.out 0).trans rfl; have hcz16_1 : w12.cell? ⟨gb296, 1, none⟩ = some (.int .i64 a0_1) := (blk_cell BK296.out 1).trans rfl; have hcz16_2 : w12.cell? ⟨gb296, 2, none⟩ = some (.int .i64 a0_2) := (blk_cell BK296.out 2).trans rfl; have hcz16_3 : w12.cell? ⟨gb296, 3, none⟩ = some (.int .i64 a0_3) := (blk_cell BK296.out 3).trans rfl; have hcz16_4 : w12.cell? ⟨gb296, 4, none⟩ = some (.int .i64 a0_4) := (blk_cell BK296.out 4).trans rfl; have hfz16_0 := blk_frozen BK296.out 0; have hfz16_1 := blk_frozen BK296.out 1; have hfz16_2 := blk_frozen BK296.out 2; have hfz16_3 := blk_frozen BK296.out 3; have hfz16_4 := blk_frozen BK296.out 4) | ((with_reducible refine gate_callee (f := 16) rfl ?_); refine goesL_ (some 29) rfl rfl Try.func16 (by kernel_rfl) rfl #[.int .i64 (Go.bits .and .i64 (Go.bits .and .i64 a0_1 7) a1)] rfl (by (try simp only [List.map_toArray, List.map_cons, List.map_nil]); first | done | rfl | (simp only [List.length_drop, List.length_take]; rfl)) ?_; (with_reducible refine (chargeparkref13_Count.calls (Go.bits .and .i64 (Go.bits .and .i64 a0_1 7) a1) t305 _ A6.out).mono ?_); rintro e w' ⟨rfl, ⟨nd, rfl⟩⟩; refine ⟨_, rfl, ?_⟩))
  (try simp only [Act.put, List.setIfInBounds_toArray, List.set_cons_zero, List.set_cons_succ])
  go_cut [54] (fun v54 wc => ∃ (kq : Nat) (x54_6 : Bool), v54 = .bool x54_6 ∧ Aside0 (chargeparklaw13_CarFills.j0 kq a1 a2 t297 t305 x54_6 0 a0_1 a0_2 a0_3 a0_4 t298 t301 t302 = some r) ∧ Aside0 (kq ≤ k) ∧ Aside0 (Kd.Q (Kd.int .i64) 3 wc w.heap.size (fun _ => True) (.slice Ao13 t298.length co13) t298) ∧ Aside0 (wc.heap[gb296]? = some (.cells #[.int .i64 0, .int .i64 a0_1, .int .i64 a0_2, .int .i64 a0_3, .int .i64 a0_4] 23 (0, 0))) ∧ Aside0 (wc.heap[gb304]? = some (.cells #[(.slice Ao13 t298.length co13), .int .i64 t301, .int .i64 t302] 26 (0, 0))) ∧ Aside0 (Below w.heap.size w wc))
  case first =>
    have H := HC7.out
    clear HC7
    by_cases c17 : t303 = 0
    · rw [if_pos c17] at H
      have c17b0 : (t303 == 0) = true := beq_iff_eq.mpr c17
      have c17b1 : (t303 != 0) = false := bne_eq_false_iff_eq.mpr c17
      clear c17
      (first | rw [c17b0] | (simp only [i64_w, i32_w]; rw [c17b0]) | skip)
      by_cases c18 : a1 < 1
      · rw [if_pos c18] at H
        have c18b0 : decide (a1 < 1) = true := decide_eq_true c18
        clear c18
        have H' := Aside0.mk H
        clear H
        go_wp2
        go_meet
        case rel => exact ⟨_, (true), (by first | rfl | (simp; done) | (simp [*]; done)), H', ⟨by first | omega | exact Nat.le_refl _⟩, ⟨Kd.Q_of_R (by (with_reducible repeat (first | apply Kd.R_alloc | apply Kd.R_drewN | apply Kd.R_drew)); exact Kd.R_mono (Kd.R_far (p := ⟨gb304, 2, none⟩) (Kd.R_far (p := ⟨gb304, 1, none⟩) (Kd.R_far (p := ⟨gb304, 0, none⟩) (Kd.R_types HO300.out BK304.out (by decide)) (fun _ hk => hk.2) (.slice Ao13 t298.length co13)) (fun _ hk => hk.2) (.int .i64 t301)) (fun _ hk => hk.2) (.int .i64 t302)) (fun _ hk => trivial))⟩, ⟨by (with_reducible repeat (first | refine blk_drewN ?_ _ | refine blk_drew ?_ | refine blk_alloc ?_ _)); refine blk_far ?_ NB296_304.out _; (with_reducible repeat (first | refine blk_drewN ?_ _ | refine blk_drew ?_ | refine blk_alloc ?_ _)); refine blk_far ?_ NB296_304.out _; (with_reducible repeat (first | refine blk_drewN ?_ _ | refine blk_drew ?_ | refine blk_alloc ?_ _)); refine blk_far ?_ NB296_304.out _; (with_reducible repeat (first | refine blk_drewN ?_ _ | refine blk_drew ?_ | refine blk_alloc ?_ _)); exact BK296.out⟩, ⟨by (with_reducible repeat (first | refine blk_drewN ?_ _ | refine blk_drew ?_ | refine blk_alloc ?_ _)); refine blk_put (cs := #[.slice Ao13 t298.length co13, .int .i64 t301, .int .i64 0]) ?_ 2 _ rfl; (with_reducible repeat (first | refine blk_drewN ?_ _ | refine blk_drew ?_ | refine blk_alloc ?_ _)); refine blk_put (cs := #[.slice Ao13 t298.length co13, .int .i64 0, .int .i64 0]) ?_ 1 _ rfl; (with_reducible repeat (first | refine blk_drewN ?_ _ | refine blk_drew ?_ | refine blk_alloc ?_ _)); refine blk_put (cs := #[.slice none 0 0, .int .i64 0, .int .i64 0]) ?_ 0 _ rfl; (with_reducible repeat (first | refine blk_drewN ?_ _ | refine blk_drew ?_ | refine blk_alloc ?_ _)); exact BK304.out⟩, ⟨by repeat (first | (with_reducible first | exact HB.out | apply below_alloc | apply pw_below_drewN | apply below_drew1 | refine below_set ?_ GE296.out | refine below_set ?_ GE304.out) | exact HB.out)⟩⟩
      · rw [if_neg c18] at H
        have c18b0 : decide (a1 < 1) = false := decide_eq_false c18
        clear c18
        by_cases c19 : a1 > 7
        · rw [if_pos c19] at H
          have c19b0 : decide (7 < a1) = true := decide_eq_true c19
          clear c19
          have H' := Aside0.mk H
          clear H
          go_wp2
          go_meet
          case rel => exact ⟨_, (true), (by first | rfl | (simp; done) | (simp [*]; done)), H', ⟨by first | omega | exact Nat.le_refl _⟩, ⟨Kd.Q_of_R (by (with_reducible repeat (first | apply Kd.R_alloc | apply Kd.R_drewN | apply Kd.R_drew)); exact Kd.R_mono (Kd.R_far (p := ⟨gb304, 2, none⟩) (Kd.R_far (p := ⟨gb304, 1, none⟩) (Kd.R_far (p := ⟨gb304, 0, none⟩) (Kd.R_types HO300.out BK304.out (by decide)) (fun _ hk => hk.2) (.slice Ao13 t298.length co13)) (fun _ hk => hk.2) (.int .i64 t301)) (fun _ hk => hk.2) (.int .i64 t302)) (fun _ hk => trivial))⟩, ⟨by (with_reducible repeat (first | refine blk_drewN ?_ _ | refine blk_drew ?_ | refine blk_alloc ?_ _)); refine blk_far ?_ NB296_304.out _; (with_reducible repeat (first | refine blk_drewN ?_ _ | refine blk_drew ?_ | refine blk_alloc ?_ _)); refine blk_far ?_ NB296_304.out _; (with_reducible repeat (first | refine blk_drewN ?_ _ | refine blk_drew ?_ | refine blk_alloc ?_ _)); refine blk_far ?_ NB296_304.out _; (with_reducible repeat (first | refine blk_drewN ?_ _ | refine blk_drew ?_ | refine blk_alloc ?_ _)); exact BK296.out⟩, ⟨by (with_reducible repeat (first | refine blk_drewN ?_ _ | refine blk_drew ?_ | refine blk_alloc ?_ _)); refine blk_put (cs := #[.slice Ao13 t298.length co13, .int .i64 t301, .int .i64 0]) ?_ 2 _ rfl; (with_reducible repeat (first | refine blk_drewN ?_ _ | refine blk_drew ?_ | refine blk_alloc ?_ _)); refine blk_put (cs := #[.slice Ao13 t298.length co13, .int .i64 0, .int .i64 0]) ?_ 1 _ rfl; (with_reducible repeat (first | refine blk_drewN ?_ _ | refine blk_drew ?_ | refine blk_alloc ?_ _)); refine blk_put (cs := #[.slice none 0 0, .int .i64 0, .int .i64 0]) ?_ 0 _ rfl; (with_reducible repeat (first | refine blk_drewN ?_ _ | refine blk_drew ?_ | refine blk_alloc ?_ _)); exact BK304.out⟩, ⟨by repeat (first | (with_reducible first | exact HB.out | apply below_alloc | apply pw_below_drewN | apply below_drew1 | refine below_set ?_ GE296.out | refine below_set ?_ GE304.out) | exact HB.out)⟩⟩
        · rw [if_neg c19] at H
          have c19b0 : decide (7 < a1) = false := decide_eq_false c19
          clear c19
          by_cases c20 : t305 = 0
          · rw [if_pos c20] at H
            have c20b0 : (t305 == 0) = true := beq_iff_eq.mpr c20
            have c20b1 : (t305 != 0) = false := bne_eq_false_iff_eq.mpr c20
            clear c20
            have H' := Aside0.mk H
            clear H
            go_wp2
            go_meet
            case rel => exact ⟨_, (true), (by first | rfl | (simp; done) | (simp [*]; done)), H', ⟨by first | omega | exact Nat.le_refl _⟩, ⟨Kd.Q_of_R (by (with_reducible repeat (first | apply Kd.R_alloc | apply Kd.R_drewN | apply Kd.R_drew)); exact Kd.R_mono (Kd.R_far (p := ⟨gb304, 2, none⟩) (Kd.R_far (p := ⟨gb304, 1, none⟩) (Kd.R_far (p := ⟨gb304, 0, none⟩) (Kd.R_types HO300.out BK304.out (by decide)) (fun _ hk => hk.2) (.slice Ao13 t298.length co13)) (fun _ hk => hk.2) (.int .i64 t301)) (fun _ hk => hk.2) (.int .i64 t302)) (fun _ hk => trivial))⟩, ⟨by (with_reducible repeat (first | refine blk_drewN ?_ _ | refine blk_drew ?_ | refine blk_alloc ?_ _)); refine blk_far ?_ NB296_304.out _; (with_reducible repeat (first | refine blk_drewN ?_ _ | refine blk_drew ?_ | refine blk_alloc ?_ _)); refine blk_far ?_ NB296_304.out _; (with_reducible repeat (first | refine blk_drewN ?_ _ | refine blk_drew ?_ | refine blk_alloc ?_ _)); refine blk_far ?_ NB296_304.out _; (with_reducible repeat (first | refine blk_drewN ?_ _ | refine blk_drew ?_ | refine blk_alloc ?_ _)); exact BK296.out⟩, ⟨by (with_reducible repeat (first | refine blk_drewN ?_ _ | refine blk_drew ?_ | refine blk_alloc ?_ _)); refine blk_put (cs := #[.slice Ao13 t298.length co13, .int .i64 t301, .int .i64 0]) ?_ 2 _ rfl; (with_reducible repeat (first | refine blk_drewN ?_ _ | refine blk_drew ?_ | refine blk_alloc ?_ _)); refine blk_put (cs := #[.slice Ao13 t298.length co13, .int .i64 0, .int .i64 0]) ?_ 1 _ rfl; (with_reducible repeat (first | refine blk_drewN ?_ _ | refine blk_drew ?_ | refine blk_alloc ?_ _)); refine blk_put (cs := #[.slice none 0 0, .int .i64 0, .int .i64 0]) ?_ 0 _ rfl; (with_reducible repeat (first | refine blk_drewN ?_ _ | refine blk_drew ?_ | refine blk_alloc ?_ _)); exact BK304.out⟩, ⟨by repeat (first | (with_reducible first | exact HB.out | apply below_alloc | apply pw_below_drewN | apply below_drew1 | refine below_set ?_ GE296.out | refine below_set ?_ GE304.out) | exact HB.out)⟩⟩
          · rw [if_neg c20] at H
            have c20b0 : (t305 == 0) = false := beq_eq_false_iff_ne.mpr c20
            have c20b1 : (t305 != 0) = true := bne_iff_ne.mpr c20
            by_cases c21 : a2 < 0
            · rw [if_pos c21] at H
              have c21b0 : decide (a2 < 0) = true := decide_eq_true c21
              clear c21
              have H' := Aside0.mk H
              clear H
              go_wp2
              go_meet
              case rel => exact ⟨_, (true), (by first | rfl | (simp; done) | (simp [*]; done)), H', ⟨by first | omega | exact Nat.le_refl _⟩, ⟨Kd.Q_of_R (by (with_reducible repeat (first | apply Kd.R_alloc | apply Kd.R_drewN | apply Kd.R_drew)); exact Kd.R_mono (Kd.R_far (p := ⟨gb304, 2, none⟩) (Kd.R_far (p := ⟨gb304, 1, none⟩) (Kd.R_far (p := ⟨gb304, 0, none⟩) (Kd.R_types HO300.out BK304.out (by decide)) (fun _ hk => hk.2) (.slice Ao13 t298.length co13)) (fun _ hk => hk.2) (.int .i64 t301)) (fun _ hk => hk.2) (.int .i64 t302)) (fun _ hk => trivial))⟩, ⟨by (with_reducible repeat (first | refine blk_drewN ?_ _ | refine blk_drew ?_ | refine blk_alloc ?_ _)); refine blk_far ?_ NB296_304.out _; (with_reducible repeat (first | refine blk_drewN ?_ _ | refine blk_drew ?_ | refine blk_alloc ?_ _)); refine blk_far ?_ NB296_304.out _; (with_reducible repeat (first | refine blk_drewN ?_ _ | refine blk_drew ?_ | refine blk_alloc ?_ _)); refine blk_far ?_ NB296_304.out _; (with_reducible repeat (first | refine blk_drewN ?_ _ | refine blk_drew ?_ | refine blk_alloc ?_ _)); exact BK296.out⟩, ⟨by (with_reducible repeat (first | refine blk_drewN ?_ _ | refine blk_drew ?_ | refine blk_alloc ?_ _)); refine blk_put (cs := #[.slice Ao13 t298.length co13, .int .i64 t301, .int .i64 0]) ?_ 2 _ rfl; (with_reducible repeat (first | refine blk_drewN ?_ _ | refine blk_drew ?_ | refine blk_alloc ?_ _)); refine blk_put (cs := #[.slice Ao13 t298.length co13, .int .i64 0, .int .i64 0]) ?_ 1 _ rfl; (with_reducible repeat (first | refine blk_drewN ?_ _ | refine blk_drew ?_ | refine blk_alloc ?_ _)); refine blk_put (cs := #[.slice none 0 0, .int .i64 0, .int .i64 0]) ?_ 0 _ rfl; (with_reducible repeat (first | refine blk_drewN ?_ _ | refine blk_drew ?_ | refine blk_alloc ?_ _)); exact BK304.out⟩, ⟨by repeat (first | (with_reducible first | exact HB.out | apply below_alloc | apply pw_below_drewN | apply below_drew1 | refine below_set ?_ GE296.out | refine below_set ?_ GE304.out) | exact HB.out)⟩⟩
            · rw [if_neg c21] at H
              have c21b0 : decide (a2 < 0) = false := decide_eq_false c21
              clear c21
              have H' := Aside0.mk H
              clear H
              have hnb22 := NB296_304.out
              have hnc22 := NB304_296.out
              have hcz23_0 : w12.cell? ⟨gb296, 0, none⟩ = some (.int .i64 0) := (blk_cell BK296.out 0).trans rfl
              have hcz23_1 : w12.cell? ⟨gb296, 1, none⟩ = some (.int .i64 a0_1) := (blk_cell BK296.out 1).trans rfl
              have hcz23_2 : w12.cell? ⟨gb296, 2, none⟩ = some (.int .i64 a0_2) := (blk_cell BK296.out 2).trans rfl
              have hcz23_3 : w12.cell? ⟨gb296, 3, none⟩ = some (.int .i64 a0_3) := (blk_cell BK296.out 3).trans rfl
              have hcz23_4 : w12.cell? ⟨gb296, 4, none⟩ = some (.int .i64 a0_4) := (blk_cell BK296.out 4).trans rfl
              have hfz23_0 := blk_frozen BK296.out 0
              have hfz23_1 := blk_frozen BK296.out 1
              have hfz23_2 := blk_frozen BK296.out 2
              have hfz23_3 := blk_frozen BK296.out 3
              have hfz23_4 := blk_frozen BK296.out 4
              go_wp2
              go_meet
              case rel => exact ⟨_, (decide (a2 > (wrap64 (80 - a0_2)))), (by first | rfl | (simp; done) | (simp [*]; done)), H', ⟨by first | omega | exact Nat.le_refl _⟩, ⟨Kd.Q_of_R (by (with_reducible repeat (first | apply Kd.R_alloc | apply Kd.R_drewN | apply Kd.R_drew)); exact Kd.R_mono (Kd.R_far (p := ⟨gb304, 2, none⟩) (Kd.R_far (p := ⟨gb304, 1, none⟩) (Kd.R_far (p := ⟨gb304, 0, none⟩) (Kd.R_types HO300.out BK304.out (by decide)) (fun _ hk => hk.2) (.slice Ao13 t298.length co13)) (fun _ hk => hk.2) (.int .i64 t301)) (fun _ hk => hk.2) (.int .i64 t302)) (fun _ hk => trivial))⟩, ⟨by (with_reducible repeat (first | refine blk_drewN ?_ _ | refine blk_drew ?_ | refine blk_alloc ?_ _)); refine blk_far ?_ NB296_304.out _; (with_reducible repeat (first | refine blk_drewN ?_ _ | refine blk_drew ?_ | refine blk_alloc ?_ _)); refine blk_far ?_ NB296_304.out _; (with_reducible repeat (first | refine blk_drewN ?_ _ | refine blk_drew ?_ | refine blk_alloc ?_ _)); refine blk_far ?_ NB296_304.out _; (with_reducible repeat (first | refine blk_drewN ?_ _ | refine blk_drew ?_ | refine blk_alloc ?_ _)); exact BK296.out⟩, ⟨by (with_reducible repeat (first | refine blk_drewN ?_ _ | refine blk_drew ?_ | refine blk_alloc ?_ _)); refine blk_put (cs := #[.slice Ao13 t298.length co13, .int .i64 t301, .int .i64 0]) ?_ 2 _ rfl; (with_reducible repeat (first | refine blk_drewN ?_ _ | refine blk_drew ?_ | refine blk_alloc ?_ _)); refine blk_put (cs := #[.slice Ao13 t298.length co13, .int .i64 0, .int .i64 0]) ?_ 1 _ rfl; (with_reducible repeat (first | refine blk_drewN ?_ _ | refine blk_drew ?_ | refine blk_alloc ?_ _)); refine blk_put (cs := #[.slice none 0 0, .int .i64 0, .int .i64 0]) ?_ 0 _ rfl; (with_reducible repeat (first | refine blk_drewN ?_ _ | refine blk_drew ?_ | refine blk_alloc ?_ _)); exact BK304.out⟩, ⟨by repeat (first | (with_reducible first | exact HB.out | apply below_alloc | apply pw_below_drewN | apply below_drew1 | refine below_set ?_ GE296.out | refine below_set ?_ GE304.out) | exact HB.out)⟩⟩
    · rw [if_neg c17] at H
      have c17b0 : (t303 == 0) = false := beq_eq_false_iff_ne.mpr c17
      have c17b1 : (t303 != 0) = true := bne_iff_ne.mpr c17
      (first | rw [c17b0] | (simp only [i64_w, i32_w]; rw [c17b0]) | skip)
      have H' := Aside0.mk H
      clear H
      go_wp2
      go_meet
      case rel => exact ⟨_, (true), (by first | rfl | (simp; done) | (simp [*]; done)), H', ⟨by first | omega | exact Nat.le_refl _⟩, ⟨Kd.Q_of_R (by (with_reducible repeat (first | apply Kd.R_alloc | apply Kd.R_drewN | apply Kd.R_drew)); exact Kd.R_mono (Kd.R_far (p := ⟨gb304, 2, none⟩) (Kd.R_far (p := ⟨gb304, 1, none⟩) (Kd.R_far (p := ⟨gb304, 0, none⟩) (Kd.R_types HO300.out BK304.out (by decide)) (fun _ hk => hk.2) (.slice Ao13 t298.length co13)) (fun _ hk => hk.2) (.int .i64 t301)) (fun _ hk => hk.2) (.int .i64 t302)) (fun _ hk => trivial))⟩, ⟨by (with_reducible repeat (first | refine blk_drewN ?_ _ | refine blk_drew ?_ | refine blk_alloc ?_ _)); refine blk_far ?_ NB296_304.out _; (with_reducible repeat (first | refine blk_drewN ?_ _ | refine blk_drew ?_ | refine blk_alloc ?_ _)); refine blk_far ?_ NB296_304.out _; (with_reducible repeat (first | refine blk_drewN ?_ _ | refine blk_drew ?_ | refine blk_alloc ?_ _)); refine blk_far ?_ NB296_304.out _; (with_reducible repeat (first | refine blk_drewN ?_ _ | refine blk_drew ?_ | refine blk_alloc ?_ _)); exact BK296.out⟩, ⟨by (with_reducible repeat (first | refine blk_drewN ?_ _ | refine blk_drew ?_ | refine blk_alloc ?_ _)); refine blk_put (cs := #[.slice Ao13 t298.length co13, .int .i64 t301, .int .i64 0]) ?_ 2 _ rfl; (with_reducible repeat (first | refine blk_drewN ?_ _ | refine blk_drew ?_ | refine blk_alloc ?_ _)); refine blk_put (cs := #[.slice Ao13 t298.length co13, .int .i64 0, .int .i64 0]) ?_ 1 _ rfl; (with_reducible repeat (first | refine blk_drewN ?_ _ | refine blk_drew ?_ | refine blk_alloc ?_ _)); refine blk_put (cs := #[.slice none 0 0, .int .i64 0, .int .i64 0]) ?_ 0 _ rfl; (with_reducible repeat (first | refine blk_drewN ?_ _ | refine blk_drew ?_ | refine blk_alloc ?_ _)); exact BK304.out⟩, ⟨by repeat (first | (with_reducible first | exact HB.out | apply below_alloc | apply pw_below_drewN | apply below_drew1 | refine below_set ?_ GE296.out | refine below_set ?_ GE304.out) | exact HB.out)⟩⟩
  case rest =>
    clear HC7
    try clear c1
    try clear c2
    try clear p2
    try clear c6
    try clear p6
    try clear c10
    try clear c13
    try clear c14
    try clear c16
    try clear c17
    try clear c17b0
    try clear c17b1
    try clear c18
    try clear c18b0
    try clear c19
    try clear c19b0
    try clear c20
    try clear c20b0
    try clear c20b1
    try clear c21
    try clear c21b0
    try clear c22
    try clear hcz10_0
    try clear hcz10_1
    try clear hcz10_2
    try clear hcz10_3
    try clear hcz10_4
    try clear hcz15_0
    try clear hcz15_1
    try clear hcz15_2
    try clear hcz16_0
    try clear hcz16_1
    try clear hcz16_2
    try clear hcz16_3
    try clear hcz16_4
    try clear hcz23_0
    try clear hcz23_1
    try clear hcz23_2
    try clear hcz23_3
    try clear hcz23_4
    try clear hfz10_0
    try clear hfz10_1
    try clear hfz10_2
    try clear hfz10_3
    try clear hfz10_4
    try clear hfz15_0
    try clear hfz15_1
    try clear hfz15_2
    try clear hfz16_0
    try clear hfz16_1
    try clear hfz16_2
    try clear hfz16_3
    try clear hfz16_4
    try clear hfz23_0
    try clear hfz23_1
    try clear hfz23_2
    try clear hfz23_3
    try clear hfz23_4
    obtain ⟨kq, x54_6, rfl, HA, HJ6, HO_305000, BK296, BK304, HB⟩ := hcut
    cases kq with
    | zero => exact absurd HA.out (by simp [chargeparklaw13_CarFills.j0])
    | succ kj6 =>
      have H := HA.out
      clear HA
      simp only [chargeparklaw13_CarFills.j0] at H
      by_cases c24 : x54_6 = true
      · subst c24
        have H1 : (some t297) = some r := by rw [if_pos rfl] at H; exact H
        clear H
        have H := H1
        clear H1
        obtain rfl := Option.some.inj H
        go_wp2
        go_ret
        exact ⟨by first | rfl | (simp [errW_none, errW_some] <;> rfl) | (simp [*, errW_none, errW_some] <;> rfl), by repeat (first | (with_reducible first | exact HB.out | apply below_alloc | apply pw_below_drewN | apply below_drew1 | refine below_set ?_ GE296.out | refine below_set ?_ GE304.out) | exact HB.out)⟩
      · replace c24 := Bool.eq_false_iff.mpr c24
        subst c24
        have H1 : (if (wrap64 ((wrap64 (2300 * a0_2)) * t305)) = 0 then (none) else (if (wrap64 (Int.tdiv (wrap64 ((wrap64 (a0_3 + (wrap64 ((wrap64 (2300 * a0_2)) * t305)))) - 1)) (wrap64 ((wrap64 (2300 * a0_2)) * t305)))) > 200 then (some t297) else (chargeparklaw13_CarFills.l0 kj6 a1 a2 t297 (wrap64 (Int.tdiv (wrap64 ((wrap64 (a0_3 + (wrap64 ((wrap64 (2300 * a0_2)) * t305)))) - 1)) (wrap64 ((wrap64 (2300 * a0_2)) * t305)))) 0 0 a0_1 a0_2 a0_3 a0_4 t298 t301 t302))) = some r := by rw [if_neg (show ¬ (false = true) by decide)] at H; exact H
        clear H
        have H := H1
        clear H1
        by_cases c25 : (wrap64 ((wrap64 (2300 * a0_2)) * t305)) = 0
        · rw [if_pos c25] at H
          exact absurd H (by simp)
        · rw [if_neg c25] at H
          have c25b0 : ((wrap64 ((wrap64 (2300 * a0_2)) * t305)) == 0) = false := beq_eq_false_iff_ne.mpr c25
          have c25b1 : ((wrap64 ((wrap64 (2300 * a0_2)) * t305)) != 0) = true := bne_iff_ne.mpr c25
          by_cases c26 : (wrap64 (Int.tdiv (wrap64 ((wrap64 (a0_3 + (wrap64 ((wrap64 (2300 * a0_2)) * t305)))) - 1)) (wrap64 ((wrap64 (2300 * a0_2)) * t305)))) > 200
          · rw [if_pos c26] at H
            have c26b0 : decide (200 < (wrap64 (Int.tdiv (wrap64 ((wrap64 (a0_3 + (wrap64 ((wrap64 (2300 * a0_2)) * t305)))) - 1)) (wrap64 ((wrap64 (2300 * a0_2)) * t305))))) = true := decide_eq_true c26
            clear c26
            obtain rfl := Option.some.inj H
            have hnb27 := NB296_304.out
            have hnc27 := NB304_296.out
            have hcz28_0 : wc.cell? ⟨gb296, 0, none⟩ = some (.int .i64 0) := (blk_cell BK296.out 0).trans rfl
            have hcz28_1 : wc.cell? ⟨gb296, 1, none⟩ = some (.int .i64 a0_1) := (blk_cell BK296.out 1).trans rfl
            have hcz28_2 : wc.cell? ⟨gb296, 2, none⟩ = some (.int .i64 a0_2) := (blk_cell BK296.out 2).trans rfl
            have hcz28_3 : wc.cell? ⟨gb296, 3, none⟩ = some (.int .i64 a0_3) := (blk_cell BK296.out 3).trans rfl
            have hcz28_4 : wc.cell? ⟨gb296, 4, none⟩ = some (.int .i64 a0_4) := (blk_cell BK296.out 4).trans rfl
            have hfz28_0 := blk_frozen BK296.out 0
            have hfz28_1 := blk_frozen BK296.out 1
            have hfz28_2 := blk_frozen BK296.out 2
            have hfz28_3 := blk_frozen BK296.out 3
            have hfz28_4 := blk_frozen BK296.out 4
            go_wp2
            go_ret
            exact ⟨by first | rfl | (simp [errW_none, errW_some] <;> rfl) | (simp [*, errW_none, errW_some] <;> rfl), by repeat (first | (with_reducible first | exact HB.out | apply below_alloc | apply pw_below_drewN | apply below_drew1 | refine below_set ?_ GE296.out | refine below_set ?_ GE304.out) | exact HB.out)⟩
          · rw [if_neg c26] at H
            have c26b0 : decide (200 < (wrap64 (Int.tdiv (wrap64 ((wrap64 (a0_3 + (wrap64 ((wrap64 (2300 * a0_2)) * t305)))) - 1)) (wrap64 ((wrap64 (2300 * a0_2)) * t305))))) = false := decide_eq_false c26
            clear c26
            have H' := Aside0.mk H
            clear H
            have hnb29 := NB296_304.out
            have hnc29 := NB304_296.out
            have hcz30_0 : wc.cell? ⟨gb296, 0, none⟩ = some (.int .i64 0) := (blk_cell BK296.out 0).trans rfl
            have hcz30_1 : wc.cell? ⟨gb296, 1, none⟩ = some (.int .i64 a0_1) := (blk_cell BK296.out 1).trans rfl
            have hcz30_2 : wc.cell? ⟨gb296, 2, none⟩ = some (.int .i64 a0_2) := (blk_cell BK296.out 2).trans rfl
            have hcz30_3 : wc.cell? ⟨gb296, 3, none⟩ = some (.int .i64 a0_3) := (blk_cell BK296.out 3).trans rfl
            have hcz30_4 : wc.cell? ⟨gb296, 4, none⟩ = some (.int .i64 a0_4) := (blk_cell BK296.out 4).trans rfl
            have hfz30_0 := blk_frozen BK296.out 0
            have hfz30_1 := blk_frozen BK296.out 1
            have hfz30_2 := blk_frozen BK296.out 2
            have hfz30_3 := blk_frozen BK296.out 3
            have hfz30_4 := blk_frozen BK296.out 4
            go_wp2
            go_loopg [72] kj6 (fun kq v72 w' => ∃ (x72_2 : Int) (x305000_2 : List Int) (x305001_2 : Int) (x305002_2 : Int) (u305000 : Value), v72 = .int .i64 x72_2 ∧ Aside0 (chargeparklaw13_CarFills.l0 kq a1 a2 t297 (wrap64 (Int.tdiv (wrap64 ((wrap64 (a0_3 + (wrap64 ((wrap64 (2300 * a0_2)) * t305)))) - 1)) (wrap64 ((wrap64 (2300 * a0_2)) * t305)))) x72_2 0 a0_1 a0_2 a0_3 a0_4 x305000_2 x305001_2 x305002_2 = some r) ∧ Aside0 (kq ≤ kj6) ∧ Aside0 (Kd.Q (Kd.int .i64) 3 w' w.heap.size (fun _ => True) u305000 x305000_2) ∧ Aside0 (w'.heap[gb296]? = some (.cells #[.int .i64 0, .int .i64 a0_1, .int .i64 a0_2, .int .i64 a0_3, .int .i64 a0_4] 23 (0, 0))) ∧ Aside0 (w'.heap[gb304]? = some (.cells #[u305000, .int .i64 x305001_2, .int .i64 x305002_2] 26 (0, 0))) ∧ Aside0 (Below w.heap.size w w'))
            case atStart => exact ⟨(0), (t298), (t301), (t302), (.slice Ao13 t298.length co13), (by first | rfl | (simp; done) | (simp [*]; done)), H', ⟨Nat.le_refl _⟩, ⟨by (with_reducible repeat (first | apply Kd.Q_alloc | apply Kd.Q_drewN | apply Kd.Q_drew)); exact HO_305000.out⟩, ⟨by (with_reducible repeat (first | refine blk_drewN ?_ _ | refine blk_drew ?_ | refine blk_alloc ?_ _)); exact BK296.out⟩, ⟨by (with_reducible repeat (first | refine blk_drewN ?_ _ | refine blk_drew ?_ | refine blk_alloc ?_ _)); exact BK304.out⟩, ⟨by repeat (first | (with_reducible first | exact HB.out | apply below_alloc | apply pw_below_drewN | apply below_drew1 | refine below_set ?_ GE296.out | refine below_set ?_ GE304.out) | exact HB.out)⟩⟩
            case round =>
              clear H'
              try clear c1
              try clear c2
              try clear p2
              try clear c6
              try clear p6
              try clear c10
              try clear c13
              try clear c14
              try clear c16
              try clear c17
              try clear c17b0
              try clear c17b1
              try clear c18
              try clear c18b0
              try clear c19
              try clear c19b0
              try clear c20
              try clear c20b0
              try clear c20b1
              try clear c21
              try clear c21b0
              try clear c22
              try clear c24
              try clear c25
              try clear c25b0
              try clear c25b1
              try clear c26
              try clear c26b0
              try clear c27
              try clear c29
              try clear hcz10_0
              try clear hcz10_1
              try clear hcz10_2
              try clear hcz10_3
              try clear hcz10_4
              try clear hcz15_0
              try clear hcz15_1
              try clear hcz15_2
              try clear hcz16_0
              try clear hcz16_1
              try clear hcz16_2
              try clear hcz16_3
              try clear hcz16_4
              try clear hcz23_0
              try clear hcz23_1
              try clear hcz23_2
              try clear hcz23_3
              try clear hcz23_4
              try clear hcz28_0
              try clear hcz28_1
              try clear hcz28_2
              try clear hcz28_3
              try clear hcz28_4
              try clear hcz30_0
              try clear hcz30_1
              try clear hcz30_2
              try clear hcz30_3
              try clear hcz30_4
              try clear hfz10_0
              try clear hfz10_1
              try clear hfz10_2
              try clear hfz10_3
              try clear hfz10_4
              try clear hfz15_0
              try clear hfz15_1
              try clear hfz15_2
              try clear hfz16_0
              try clear hfz16_1
              try clear hfz16_2
              try clear hfz16_3
              try clear hfz16_4
              try clear hfz23_0
              try clear hfz23_1
              try clear hfz23_2
              try clear hfz23_3
              try clear hfz23_4
              try clear hfz28_0
              try clear hfz28_1
              try clear hfz28_2
              try clear hfz28_3
              try clear hfz28_4
              try clear hfz30_0
              try clear hfz30_1
              try clear hfz30_2
              try clear hfz30_3
              try clear hfz30_4
              try clear p2
              try clear p6
              obtain ⟨x72_2, x305000_2, x305001_2, x305002_2, u305000, rfl, HA, HK2, HO_305000, BK296, BK304, HB⟩ := hrel
              cases gk with
              | zero => exact absurd HA.out (by simp [chargeparklaw13_CarFills.l0])
              | succ k2 =>
                have H := HA.out
                clear HA
                simp only [chargeparklaw13_CarFills.l0] at H
                by_cases c31 : x72_2 < (wrap64 (Int.tdiv (wrap64 ((wrap64 (a0_3 + (wrap64 ((wrap64 (2300 * a0_2)) * t305)))) - 1)) (wrap64 ((wrap64 (2300 * a0_2)) * t305))))
                · rw [if_pos c31] at H
                  have c31b0 : decide (x72_2 < (wrap64 (Int.tdiv (wrap64 ((wrap64 (a0_3 + (wrap64 ((wrap64 (2300 * a0_2)) * t305)))) - 1)) (wrap64 ((wrap64 (2300 * a0_2)) * t305))))) = true := decide_eq_true c31
                  clear c31
                  by_cases c32 : x305002_2 ≥ a0_3
                  · rw [if_pos c32] at H
                    exact absurd H (by simp)
                  · rw [if_neg c32] at H
                    have c32b0 : decide (a0_3 ≤ x305002_2) = false := decide_eq_false c32
                    clear c32
                    replace H := Option.bind_eq_some_iff.mp H
                    obtain ⟨⟨t306, t307, t308, t311, t312, t313⟩, A330, H⟩ := H
                    replace H : (if t313 = 0 then (if t306 = a0_2 then (chargeparklaw13_CarFills.l0 k2 a1 a2 t297 (wrap64 (Int.tdiv (wrap64 ((wrap64 (a0_3 + (wrap64 ((wrap64 (2300 * a0_2)) * t305)))) - 1)) (wrap64 ((wrap64 (2300 * a0_2)) * t305)))) (wrap64 (x72_2 + 1)) 0 a0_1 a0_2 a0_3 a0_4 t308 t311 t312) else (none)) else (none)) = some r := H
                    have A33 := Aside0.mk A330
                    clear A330
                    by_cases c34 : t313 = 0
                    · rw [if_pos c34] at H
                      have c34b0 : (t313 == 0) = true := beq_iff_eq.mpr c34
                      have c34b1 : (t313 != 0) = false := bne_eq_false_iff_eq.mpr c34
                      clear c34
                      by_cases c35 : t306 = a0_2
                      · rw [if_pos c35] at H
                        have c35b0 : (t306 == a0_2) = true := beq_iff_eq.mpr c35
                        have c35b1 : (t306 != a0_2) = false := bne_eq_false_iff_eq.mpr c35
                        clear c35
                        have H' := Aside0.mk H
                        clear H
                        have hnb36 := NB304_296.out
                        have hnc36 := NB296_304.out
                        have hcz37_0 : wr.cell? ⟨gb304, 0, none⟩ = some (u305000) := (blk_cell BK304.out 0).trans rfl
                        have hcz37_1 : wr.cell? ⟨gb304, 1, none⟩ = some (.int .i64 x305001_2) := (blk_cell BK304.out 1).trans rfl
                        have hcz37_2 : wr.cell? ⟨gb304, 2, none⟩ = some (.int .i64 x305002_2) := (blk_cell BK304.out 2).trans rfl
                        have hfz37_0 := blk_frozen BK304.out 0
                        have hfz37_1 := blk_frozen BK304.out 1
                        have hfz37_2 := blk_frozen BK304.out 2
                        have hcz38_0 : wr.cell? ⟨gb296, 0, none⟩ = some (.int .i64 0) := (blk_cell BK296.out 0).trans rfl
                        have hcz38_1 : wr.cell? ⟨gb296, 1, none⟩ = some (.int .i64 a0_1) := (blk_cell BK296.out 1).trans rfl
                        have hcz38_2 : wr.cell? ⟨gb296, 2, none⟩ = some (.int .i64 a0_2) := (blk_cell BK296.out 2).trans rfl
                        have hcz38_3 : wr.cell? ⟨gb296, 3, none⟩ = some (.int .i64 a0_3) := (blk_cell BK296.out 3).trans rfl
                        have hcz38_4 : wr.cell? ⟨gb296, 4, none⟩ = some (.int .i64 a0_4) := (blk_cell BK296.out 4).trans rfl
                        have hfz38_0 := blk_frozen BK296.out 0
                        have hfz38_1 := blk_frozen BK296.out 1
                        have hfz38_2 := blk_frozen BK296.out 2
                        have hfz38_3 := blk_frozen BK296.out 3
                        have hfz38_4 := blk_frozen BK296.out 4
                        obtain ⟨Ao39, co39, eo39, _⟩ := Kd.Q_slice HO_305000.out
                        subst eo39
                        go_wp2_with (first | ((with_reducible refine gate_callee (f := 11) rfl ?_); refine goesL_ (some 87) rfl rfl Try.func11 (by kernel_rfl) rfl #[.agg #[.int .i64 0, .int .i64 a0_1, .int .i64 a0_2, .int .i64 a0_3, .int .i64 a0_4], .agg #[.slice Ao39 x305000_2.length co39, .int .i64 x305001_2, .int .i64 x305002_2], .int .i64 a1, .int .i64 (wrap64 (a0_2 + a2))] rfl (by (try simp only [List.map_toArray, List.map_cons, List.map_nil]); first | done | rfl | (simp only [List.length_drop, List.length_take]; rfl)) ?_; (with_reducible refine (car_Draw.calls 0 a0_1 a0_2 a0_3 a0_4 _ _ x305000_2 x305001_2 x305002_2 a1 (wrap64 (a0_2 + a2)) t306 t307 t308 t311 t312 t313 _ ?side1 ?side2 A33.out).mono ?_); (case side1 => repeat (first | exact (Kd.Q_reads' HO_305000.out).2.2 | (with_reducible refine Kd.C_alloc ?_ _) | (with_reducible refine Kd.C_drewN ?_ _) | (with_reducible refine Kd.C_drew ?_))); (case side2 => exact (Kd.Q_reads' HO_305000.out).2.1); rintro e w40 ⟨v309, rfl, ho0, hb⟩; refine ⟨_, rfl, ?_⟩; have n0_ := Aside0.mk (Kd.Q_elder' (by (with_reducible repeat (first | apply Kd.Q_alloc | apply Kd.Q_drewN | apply Kd.Q_drew)); exact HO_305000.out) (Kd.Q_base ho0) hb); have n1_ := Aside0.mk (Kd.Q_lower (Kd.Q_new' ho0 (Kd.Q_lt (by (with_reducible repeat (first | apply Kd.Q_alloc | apply Kd.Q_drewN | apply Kd.Q_drew)); exact HO_305000.out))) (below_size (by repeat (first | (with_reducible first | exact HB.out | apply below_alloc | apply pw_below_drewN | apply below_drew1 | refine below_set ?_ GE296.out | refine below_set ?_ GE304.out) | exact HB.out)))); have n2_ := Aside0.mk (blk_below (g := gb296) (o := .cells #[.int .i64 0, .int .i64 a0_1, .int .i64 a0_2, .int .i64 a0_3, .int .i64 a0_4] 23 (0, 0)) (by (with_reducible repeat (first | refine blk_drewN ?_ _ | refine blk_drew ?_ | refine blk_alloc ?_ _)); exact BK296.out) hb); have n3_ := Aside0.mk (blk_below (g := gb304) (o := .cells #[.slice Ao39 x305000_2.length co39, .int .i64 x305001_2, .int .i64 x305002_2] 26 (0, 0)) (by (with_reducible repeat (first | refine blk_drewN ?_ _ | refine blk_drew ?_ | refine blk_alloc ?_ _)); exact BK304.out) hb); have n4_ := Aside0.mk (below_step (by repeat (first | (with_reducible first | exact HB.out | apply below_alloc | apply pw_below_drewN | apply below_drew1 | refine below_set ?_ GE296.out | refine below_set ?_ GE304.out) | exact HB.out)) hb); clear HO_305000; clear BK296; clear BK304; clear HB; have HO_305000 := n0_; have HO310 := n1_; have BK296 := n2_; have BK304 := n3_; have HB := n4_; clear n0_ n1_ n2_ n3_ n4_; (try clear hb); (try clear hb2); (try clear hk); (try clear hi); (try clear ho0)) | ((with_reducible refine gate_dst (N := 15) rfl ?_); refine box_event ?hg (N := 15) ?hd (cs := #[.slice none 0 0, .int .i64 0, .int .i64 0]) (t := 26) ?hr ?_; (case hd => rfl); (case hg => rfl); (case hr => first | (go_simp; done) | (go_simp; rfl)); intro gb314 hg w41 hbox hb; have n0_ := Aside0.mk (Kd.Q_below (by (with_reducible repeat (first | apply Kd.Q_alloc | apply Kd.Q_drewN | apply Kd.Q_drew)); exact HO_305000.out) hb); have n1_ := Aside0.mk (Kd.Q_below (by (with_reducible repeat (first | apply Kd.Q_alloc | apply Kd.Q_drewN | apply Kd.Q_drew)); exact HO310.out) hb); have n2_ := Aside0.mk (blk_below (g := gb296) (o := .cells #[.int .i64 0, .int .i64 a0_1, .int .i64 a0_2, .int .i64 a0_3, .int .i64 a0_4] 23 (0, 0)) (by (with_reducible repeat (first | refine blk_drewN ?_ _ | refine blk_drew ?_ | refine blk_alloc ?_ _)); exact BK296.out) hb); have n3_ := Aside0.mk (blk_below (g := gb304) (o := .cells #[.slice Ao39 x305000_2.length co39, .int .i64 x305001_2, .int .i64 x305002_2] 26 (0, 0)) (by (with_reducible repeat (first | refine blk_drewN ?_ _ | refine blk_drew ?_ | refine blk_alloc ?_ _)); exact BK304.out) hb); have n4_ := Aside0.mk (below_step (by repeat (first | (with_reducible first | exact HB.out | apply below_alloc | apply pw_below_drewN | apply below_drew1 | refine below_set ?_ GE296.out | refine below_set ?_ GE304.out) | exact HB.out)) hb); have n5_ := Aside0.mk (hbox); have n6_ := Aside0.mk ((by rw [hg]; exact (below_size (by repeat (first | (with_reducible first | exact HB.out | apply below_alloc | apply pw_below_drewN | apply below_drew1 | refine below_set ?_ GE296.out | refine below_set ?_ GE304.out) | exact HB.out))) : w.heap.size ≤ gb314)); have n7_ := Aside0.mk ((by rw [hg]; exact (below_size (by repeat (first | (with_reducible first | exact HB.out | apply below_alloc | apply pw_below_drewN | apply below_drew1 | refine below_set ?_ GE296.out | refine below_set ?_ GE304.out) | exact HB.out))) : w.heap.size ≤ gb314)); have n8_ := Aside0.mk ((by rw [hg]; exact Nat.ne_of_lt (blk_lt (g := gb296) (o := .cells #[.int .i64 0, .int .i64 a0_1, .int .i64 a0_2, .int .i64 a0_3, .int .i64 a0_4] 23 (0, 0)) (by (with_reducible repeat (first | refine blk_drewN ?_ _ | refine blk_drew ?_ | refine blk_alloc ?_ _)); exact BK296.out)) : gb296 ≠ gb314)); have n9_ := Aside0.mk ((by rw [hg]; exact Nat.ne_of_gt (blk_lt (g := gb296) (o := .cells #[.int .i64 0, .int .i64 a0_1, .int .i64 a0_2, .int .i64 a0_3, .int .i64 a0_4] 23 (0, 0)) (by (with_reducible repeat (first | refine blk_drewN ?_ _ | refine blk_drew ?_ | refine blk_alloc ?_ _)); exact BK296.out)) : gb314 ≠ gb296)); have n10_ := Aside0.mk ((by rw [hg]; exact Nat.ne_of_lt (blk_lt (g := gb304) (o := .cells #[.slice Ao39 x305000_2.length co39, .int .i64 x305001_2, .int .i64 x305002_2] 26 (0, 0)) (by (with_reducible repeat (first | refine blk_drewN ?_ _ | refine blk_drew ?_ | refine blk_alloc ?_ _)); exact BK304.out)) : gb304 ≠ gb314)); have n11_ := Aside0.mk ((by rw [hg]; exact Nat.ne_of_gt (blk_lt (g := gb304) (o := .cells #[.slice Ao39 x305000_2.length co39, .int .i64 x305001_2, .int .i64 x305002_2] 26 (0, 0)) (by (with_reducible repeat (first | refine blk_drewN ?_ _ | refine blk_drew ?_ | refine blk_alloc ?_ _)); exact BK304.out)) : gb314 ≠ gb304)); clear HO_305000; clear HO310; clear BK296; clear BK304; clear HB; have HO_305000 := n0_; have HO310 := n1_; have BK296 := n2_; have BK304 := n3_; have HB := n4_; have BK314 := n5_; have GW314 := n6_; have GE314 := n7_; have NB296_314 := n8_; have NB314_296 := n9_; have NB304_314 := n10_; have NB314_304 := n11_; clear n0_ n1_ n2_ n3_ n4_ n5_ n6_ n7_ n8_ n9_ n10_ n11_; clear hb hbox hg; obtain ⟨Ao42, co42, eo42, _⟩ := Kd.Q_slice HO310.out; subst eo42; have hnb43 := NB314_296.out; have hnc43 := NB296_314.out; have hnb44 := NB314_304.out; have hnc44 := NB304_314.out; have hcz45_0 : w41.cell? ⟨gb314, 0, none⟩ = some (.slice none 0 0) := (blk_cell BK314.out 0).trans rfl; have hcz45_1 : w41.cell? ⟨gb314, 1, none⟩ = some (.int .i64 0) := (blk_cell BK314.out 1).trans rfl; have hcz45_2 : w41.cell? ⟨gb314, 2, none⟩ = some (.int .i64 0) := (blk_cell BK314.out 2).trans rfl; have hfz45_0 := blk_frozen BK314.out 0; have hfz45_1 := blk_frozen BK314.out 1; have hfz45_2 := blk_frozen BK314.out 2; have hcz46_0 : w41.cell? ⟨gb296, 0, none⟩ = some (.int .i64 0) := (blk_cell BK296.out 0).trans rfl; have hcz46_1 : w41.cell? ⟨gb296, 1, none⟩ = some (.int .i64 a0_1) := (blk_cell BK296.out 1).trans rfl; have hcz46_2 : w41.cell? ⟨gb296, 2, none⟩ = some (.int .i64 a0_2) := (blk_cell BK296.out 2).trans rfl; have hcz46_3 : w41.cell? ⟨gb296, 3, none⟩ = some (.int .i64 a0_3) := (blk_cell BK296.out 3).trans rfl; have hcz46_4 : w41.cell? ⟨gb296, 4, none⟩ = some (.int .i64 a0_4) := (blk_cell BK296.out 4).trans rfl; have hfz46_0 := blk_frozen BK296.out 0; have hfz46_1 := blk_frozen BK296.out 1; have hfz46_2 := blk_frozen BK296.out 2; have hfz46_3 := blk_frozen BK296.out 3; have hfz46_4 := blk_frozen BK296.out 4; have hcz47_0 : w41.cell? ⟨gb304, 0, none⟩ = some (.slice Ao39 x305000_2.length co39) := (blk_cell BK304.out 0).trans rfl; have hcz47_1 : w41.cell? ⟨gb304, 1, none⟩ = some (.int .i64 x305001_2) := (blk_cell BK304.out 1).trans rfl; have hcz47_2 : w41.cell? ⟨gb304, 2, none⟩ = some (.int .i64 x305002_2) := (blk_cell BK304.out 2).trans rfl; have hfz47_0 := blk_frozen BK304.out 0; have hfz47_1 := blk_frozen BK304.out 1; have hfz47_2 := blk_frozen BK304.out 2))
                        go_roundg k2
                        case measure => have := HJ6.out; have := HK2.out; omega
                        case rel => exact ⟨(wrap64 (x72_2 + 1)), (t308), (t311), (t312), (.slice Ao42 t308.length co42), (by first | rfl | (simp; done) | (simp [*]; done)), H', ⟨by have := HJ6.out; have := HK2.out; omega⟩, ⟨by (with_reducible repeat (first | apply Kd.Q_alloc | apply Kd.Q_drewN | apply Kd.Q_drew)); exact Kd.Q_mono (Kd.Q_far (p := ⟨gb304, 2, none⟩) (Kd.Q_far (p := ⟨gb304, 1, none⟩) (Kd.Q_far (p := ⟨gb304, 0, none⟩) (Kd.Q_far (p := ⟨gb314, 2, none⟩) (Kd.Q_far (p := ⟨gb314, 1, none⟩) (Kd.Q_far (p := ⟨gb314, 0, none⟩) (Kd.Q_types (Kd.Q_types HO310.out BK314.out (by decide)) BK304.out (by decide)) (fun _ hk => hk.1.2) (.slice Ao42 t308.length co42)) (fun _ hk => hk.1.2) (.int .i64 t311)) (fun _ hk => hk.1.2) (.int .i64 t312)) (fun _ hk => hk.2) (.slice Ao42 t308.length co42)) (fun _ hk => hk.2) (.int .i64 t311)) (fun _ hk => hk.2) (.int .i64 t312)) (fun _ hk => trivial)⟩, ⟨by (with_reducible repeat (first | refine blk_drewN ?_ _ | refine blk_drew ?_ | refine blk_alloc ?_ _)); refine blk_far ?_ NB296_304.out _; (with_reducible repeat (first | refine blk_drewN ?_ _ | refine blk_drew ?_ | refine blk_alloc ?_ _)); refine blk_far ?_ NB296_304.out _; (with_reducible repeat (first | refine blk_drewN ?_ _ | refine blk_drew ?_ | refine blk_alloc ?_ _)); refine blk_far ?_ NB296_304.out _; (with_reducible repeat (first | refine blk_drewN ?_ _ | refine blk_drew ?_ | refine blk_alloc ?_ _)); refine blk_far ?_ NB296_314.out _; (with_reducible repeat (first | refine blk_drewN ?_ _ | refine blk_drew ?_ | refine blk_alloc ?_ _)); refine blk_far ?_ NB296_314.out _; (with_reducible repeat (first | refine blk_drewN ?_ _ | refine blk_drew ?_ | refine blk_alloc ?_ _)); refine blk_far ?_ NB296_314.out _; (with_reducible repeat (first | refine blk_drewN ?_ _ | refine blk_drew ?_ | refine blk_alloc ?_ _)); exact BK296.out⟩, ⟨by (with_reducible repeat (first | refine blk_drewN ?_ _ | refine blk_drew ?_ | refine blk_alloc ?_ _)); refine blk_put (cs := #[.slice Ao42 t308.length co42, .int .i64 t311, .int .i64 x305002_2]) ?_ 2 _ rfl; (with_reducible repeat (first | refine blk_drewN ?_ _ | refine blk_drew ?_ | refine blk_alloc ?_ _)); refine blk_put (cs := #[.slice Ao42 t308.length co42, .int .i64 x305001_2, .int .i64 x305002_2]) ?_ 1 _ rfl; (with_reducible repeat (first | refine blk_drewN ?_ _ | refine blk_drew ?_ | refine blk_alloc ?_ _)); refine blk_put (cs := #[.slice Ao39 x305000_2.length co39, .int .i64 x305001_2, .int .i64 x305002_2]) ?_ 0 _ rfl; (with_reducible repeat (first | refine blk_drewN ?_ _ | refine blk_drew ?_ | refine blk_alloc ?_ _)); refine blk_far ?_ NB304_314.out _; (with_reducible repeat (first | refine blk_drewN ?_ _ | refine blk_drew ?_ | refine blk_alloc ?_ _)); refine blk_far ?_ NB304_314.out _; (with_reducible repeat (first | refine blk_drewN ?_ _ | refine blk_drew ?_ | refine blk_alloc ?_ _)); refine blk_far ?_ NB304_314.out _; (with_reducible repeat (first | refine blk_drewN ?_ _ | refine blk_drew ?_ | refine blk_alloc ?_ _)); exact BK304.out⟩, ⟨by repeat (first | (with_reducible first | exact HB.out | apply below_alloc | apply pw_below_drewN | apply below_drew1 | refine below_set ?_ GE296.out | refine below_set ?_ GE304.out | refine below_set ?_ GE314.out) | exact HB.out)⟩⟩
                      · rw [if_neg c35] at H
                        exact absurd H (by simp)
                    · rw [if_neg c34] at H
                      exact absurd H (by simp)
                · rw [if_neg c31] at H
                  have c31b0 : decide (x72_2 < (wrap64 (Int.tdiv (wrap64 ((wrap64 (a0_3 + (wrap64 ((wrap64 (2300 * a0_2)) * t305)))) - 1)) (wrap64 ((wrap64 (2300 * a0_2)) * t305))))) = false := decide_eq_false c31
                  clear c31
                  by_cases c48 : t297 = true
                  · subst c48
                    have H1 : (some (decide (x305002_2 ≥ a0_3))) = some r := by rw [if_pos rfl] at H; exact H
                    clear H
                    have H := H1
                    clear H1
                    obtain rfl := Option.some.inj H
                    have hnb49 := NB304_296.out
                    have hnc49 := NB296_304.out
                    have hcz50_0 : wr.cell? ⟨gb304, 0, none⟩ = some (u305000) := (blk_cell BK304.out 0).trans rfl
                    have hcz50_1 : wr.cell? ⟨gb304, 1, none⟩ = some (.int .i64 x305001_2) := (blk_cell BK304.out 1).trans rfl
                    have hcz50_2 : wr.cell? ⟨gb304, 2, none⟩ = some (.int .i64 x305002_2) := (blk_cell BK304.out 2).trans rfl
                    have hfz50_0 := blk_frozen BK304.out 0
                    have hfz50_1 := blk_frozen BK304.out 1
                    have hfz50_2 := blk_frozen BK304.out 2
                    have hcz51_0 : wr.cell? ⟨gb296, 0, none⟩ = some (.int .i64 0) := (blk_cell BK296.out 0).trans rfl
                    have hcz51_1 : wr.cell? ⟨gb296, 1, none⟩ = some (.int .i64 a0_1) := (blk_cell BK296.out 1).trans rfl
                    have hcz51_2 : wr.cell? ⟨gb296, 2, none⟩ = some (.int .i64 a0_2) := (blk_cell BK296.out 2).trans rfl
                    have hcz51_3 : wr.cell? ⟨gb296, 3, none⟩ = some (.int .i64 a0_3) := (blk_cell BK296.out 3).trans rfl
                    have hcz51_4 : wr.cell? ⟨gb296, 4, none⟩ = some (.int .i64 a0_4) := (blk_cell BK296.out 4).trans rfl
                    have hfz51_0 := blk_frozen BK296.out 0
                    have hfz51_1 := blk_frozen BK296.out 1
                    have hfz51_2 := blk_frozen BK296.out 2
                    have hfz51_3 := blk_frozen BK296.out 3
                    have hfz51_4 := blk_frozen BK296.out 4
                    go_wp2
                    go_ret
                    exact ⟨by first | rfl | (simp [errW_none, errW_some] <;> rfl) | (simp [*, errW_none, errW_some] <;> rfl), by repeat (first | (with_reducible first | exact HB.out | apply below_alloc | apply pw_below_drewN | apply below_drew1 | refine below_set ?_ GE296.out | refine below_set ?_ GE304.out) | exact HB.out)⟩
                  · replace c48 := Bool.eq_false_iff.mpr c48
                    subst c48
                    have H1 : (none) = some r := by rw [if_neg (show ¬ (false = true) by decide)] at H; exact H
                    clear H
                    have H := H1
                    clear H1
                    exact absurd H (by simp)

/-- THE ONE PURE STATEMENT of chargeparklaw13_CarFills: yours. -/
def chargeparklaw13_CarFills.Pure : Prop := ∀ (a0 : S23) (a1 : Int) (a2 : Int), ok23 a0 → (Lit.int .i64 a1).wf = true → (Lit.int .i64 a2).wf = true → ∃ k, chargeparklaw13_CarFills.f k a0.f0 a0.f1 a0.f2 a0.f3 a0.f4 a1 a2 = some true
theorem chargeparklaw13_CarFills.walk (P : chargeparklaw13_CarFills.Pure) (a0 : S23) (a1 : Int) (a2 : Int) (w : World) (ho0 : ok23 a0) (w1 : (Lit.int .i64 a1).wf = true) (w2 : (Lit.int .i64 a2).wf = true) :
    Calls Try.prog 6 #[.agg #[.int .i64 a0.f0, .int .i64 a0.f1, .int .i64 a0.f2, .int .i64 a0.f3, .int .i64 a0.f4], .int .i64 a1, .int .i64 a2] w fun e w' => e = .returned (.bool true) ∧ Below w.heap.size w w' := by
  obtain ⟨k, h⟩ := P a0 a1 a2 ho0 w1 w2
  refine (chargeparklaw13_CarFills.calls k a0.f0 a0.f1 a0.f2 a0.f3 a0.f4 a1 a2 true w  h).mono ?_
  rintro e w' ⟨rfl, hd⟩
  exact ⟨rfl, hd⟩


end Go.Proofs.Ytojjdpbjcaedpaa.PAll
