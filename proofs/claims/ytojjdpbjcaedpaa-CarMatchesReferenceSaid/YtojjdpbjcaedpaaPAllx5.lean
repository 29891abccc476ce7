-- Written by a program of this session (xprint.py, over the kit's print.py), with contracts proved by hand.
import Derived.Test.YtojjdpbjcaedpaaPAllx0
import Derived.Test.YtojjdpbjcaedpaaPAllx3
import Derived.Test.YtojjdpbjcaedpaaPAllx4
namespace Go.Proofs.Ytojjdpbjcaedpaa.PAll
open Go.RowKit Go.Proofs.Ytojjdpbjcaedpaa.Open Go.Proofs.YtojjdpbjcaedpaaW.PrintWords Go.Proofs.YtojjdpbjcaedpaaW.PrintLast Go.Proofs.YtojjdpbjcaedpaaW.PrintMore
attribute [local go_sem] max2_int min2_int max_two min_two max_three min_three max_four min_four   -- for this text's walks alone
set_option linter.unusedVariables false
set_option linter.unusedSimpArgs false

/-! ### chargeparkref13_Draw: function 12 -/
mutual
def chargeparkref13_Draw.j0 : Nat → Int → Int → Bool → Int → Int → Int → Int → Int → List Int → Int → Int → Option (Int × Int × List Int × Int × Int × Int)
 | 0, _, _, _, _, _, _, _, _, _, _, _ => none
 | k + 1, x2, x3, x43, x196000, x196001, x196002, x196003, x196004, x197000, x197001, x197002 => if x43 = true then (some (0, 0, ([] : List Int), 0, 0, 1)) else ((chargeparkref13_common.f k x196000 x196001 x196002 x196003 x196004 x2).bind fun t200 => (if t200 > 0 then (chargeparkref13_Draw.j1 k x3 t200 0 (decide (x197002 < x196003)) x196000 x196001 x196002 x196003 x196004 x197000 x197001 x197002) else (chargeparkref13_Draw.j1 k x3 t200 0 false x196000 x196001 x196002 x196003 x196004 x197000 x197001 x197002)))
def chargeparkref13_Draw.j1 : Nat → Int → Int → Int → Bool → Int → Int → Int → Int → Int → List Int → Int → Int → Option (Int × Int × List Int × Int × Int × Int)
 | 0, _, _, _, _, _, _, _, _, _, _, _, _ => none
 | k + 1, x3, x12, x13, x56, x196000, x196001, x196002, x196003, x196004, x197000, x197001, x197002 => if x56 = true then ((chargeparkref13_current.f x196000 x196001 x196002 x196003 x196004 x197000 x197001 x197002 x3).bind fun t201 => (chargeparkref13_Draw.j2 k x3 x12 t201 x197000 x197001 x197002)) else (chargeparkref13_Draw.j2 k x3 x12 x13 x197000 x197001 x197002)
def chargeparkref13_Draw.j2 : Nat → Int → Int → Int → List Int → Int → Int → Option (Int × Int × List Int × Int × Int × Int)
 | 0, _, _, _, _, _, _ => none
 | k + 1, x3, x12, x13, x197000, x197001, x197002 => if x13 = 0 then (if ([] : List Int).length + x197000.length < 17592186044416 then ((some (([] : List Int) ++ x197000 : List Int)).bind fun y202 => (if y202.length < 17592186044416 then ((some (y202 ++ [x3] : List Int)).bind fun y205 => (if (y205.length : Int) > 21 then (if 1 ≤ (y205.length : Int) then ((chargeparkref13_Count.f 0).bind fun t211 => (some (x13, 0, (y205.drop (1 : Int).toNat), wrap64 (x197001 + 1), wrap64 (x197002 + (wrap64 ((wrap64 (2300 * x13)) * t211))), 0))) else (none)) else ((chargeparkref13_Count.f 0).bind fun t212 => (some (x13, 0, y205, wrap64 (x197001 + 1), wrap64 (x197002 + (wrap64 ((wrap64 (2300 * x13)) * t212))), 0))))) else (none))) else (none)) else (if ([] : List Int).length + x197000.length < 17592186044416 then ((some (([] : List Int) ++ x197000 : List Int)).bind fun y213 => (if y213.length < 17592186044416 then ((some (y213 ++ [x3] : List Int)).bind fun y216 => (if (y216.length : Int) > 21 then (if 1 ≤ (y216.length : Int) then ((chargeparkref13_Count.f x12).bind fun t222 => (some (x13, x12, (y216.drop (1 : Int).toNat), wrap64 (x197001 + 1), wrap64 (x197002 + (wrap64 ((wrap64 (2300 * x13)) * t222))), 0))) else (none)) else ((chargeparkref13_Count.f x12).bind fun t223 => (some (x13, x12, y216, wrap64 (x197001 + 1), wrap64 (x197002 + (wrap64 ((wrap64 (2300 * x13)) * t223))), 0))))) else (none))) else (none))
end
def chargeparkref13_Draw.f (k : Nat) (a0_0 : Int) (a0_1 : Int) (a0_2 : Int) (a0_3 : Int) (a0_4 : Int) (l1_0 : List Int) (a1_1 : Int) (a1_2 : Int) (a2 : Int) (a3 : Int) : Option (Int × Int × List Int × Int × Int × Int) := (chargeparkref13_Valid.f a0_0 a0_1 a0_2 a0_3 a0_4).bind fun t198 => (if t198 = true then ((chargeparkref13_State.f k l1_0 a1_1 a1_2).bind fun t199 => (if t199 = true then (if a2 < 1 then (chargeparkref13_Draw.j0 k a2 a3 true a0_0 a0_1 a0_2 a0_3 a0_4 l1_0 a1_1 a1_2) else (if a2 > 7 then (chargeparkref13_Draw.j0 k a2 a3 true a0_0 a0_1 a0_2 a0_3 a0_4 l1_0 a1_1 a1_2) else (if a3 < 0 then (chargeparkref13_Draw.j0 k a2 a3 true a0_0 a0_1 a0_2 a0_3 a0_4 l1_0 a1_1 a1_2) else (if a3 > 80 then (chargeparkref13_Draw.j0 k a2 a3 true a0_0 a0_1 a0_2 a0_3 a0_4 l1_0 a1_1 a1_2) else (chargeparkref13_Draw.j0 k a2 a3 (a1_1 == 1000000) a0_0 a0_1 a0_2 a0_3 a0_4 l1_0 a1_1 a1_2))))) else (chargeparkref13_Draw.j0 k a2 a3 true a0_0 a0_1 a0_2 a0_3 a0_4 l1_0 a1_1 a1_2))) else (chargeparkref13_Draw.j0 k a2 a3 true a0_0 a0_1 a0_2 a0_3 a0_4 l1_0 a1_1 a1_2))
theorem chargeparkref13_Draw.mono_l : ∀ k, (∀ y0 y1 y2 y3 y4 y5 y6 y7 y8 y9 y10, LeO (chargeparkref13_Draw.j0 k y0 y1 y2 y3 y4 y5 y6 y7 y8 y9 y10) (chargeparkref13_Draw.j0 (k + 1) y0 y1 y2 y3 y4 y5 y6 y7 y8 y9 y10)) ∧ (∀ y0 y1 y2 y3 y4 y5 y6 y7 y8 y9 y10 y11, LeO (chargeparkref13_Draw.j1 k y0 y1 y2 y3 y4 y5 y6 y7 y8 y9 y10 y11) (chargeparkref13_Draw.j1 (k + 1) y0 y1 y2 y3 y4 y5 y6 y7 y8 y9 y10 y11)) ∧ (∀ y0 y1 y2 y3 y4 y5, LeO (chargeparkref13_Draw.j2 k y0 y1 y2 y3 y4 y5) (chargeparkref13_Draw.j2 (k + 1) y0 y1 y2 y3 y4 y5))
 | 0 => ⟨fun _ _ _ _ _ _ _ _ _ _ _ r h => by simp [chargeparkref13_Draw.j0] at h, fun _ _ _ _ _ _ _ _ _ _ _ _ r h => by simp [chargeparkref13_Draw.j1] at h, fun _ _ _ _ _ _ r h => by simp [chargeparkref13_Draw.j2] at h⟩
 | k + 1 => by
  obtain ⟨ih0, ih1, ih2⟩ := chargeparkref13_Draw.mono_l k
  refine ⟨?_, ?_, ?_⟩
  ·intro y0 y1 y2 y3 y4 y5 y6 y7 y8 y9 y10
   unfold chargeparkref13_Draw.j0
   repeat' first
   | (with_reducible exact ih0 _ _ _ _ _ _ _ _ _ _ _)
   | (with_reducible exact ih1 _ _ _ _ _ _ _ _ _ _ _ _)
   | (with_reducible exact ih2 _ _ _ _ _ _)
   | (with_reducible exact chargeparkref13_State.mono _ _ _ _)
   | (with_reducible exact chargeparkref13_common.mono _ _ _ _ _ _ _)
   | (with_reducible exact LeO.refl _)
   | (with_reducible exact LeO.none _)
   | (with_reducible refine LeO.ite ?_ ?_)
   | (with_reducible refine LeO.bind ?_ (fun _ => ?_))
   | exact ih0 _ _ _ _ _ _ _ _ _ _ _
   | exact ih1 _ _ _ _ _ _ _ _ _ _ _ _
   | exact ih2 _ _ _ _ _ _
   | exact chargeparkref13_State.mono _ _ _ _
   | exact chargeparkref13_common.mono _ _ _ _ _ _ _
   | exact LeO.none _
   | refine LeO.ite ?_ ?_
   | refine LeO.bind ?_ (fun _ => ?_)
  ·intro y0 y1 y2 y3 y4 y5 y6 y7 y8 y9 y10 y11
   unfold chargeparkref13_Draw.j1
   repeat' first
   | (with_reducible exact ih0 _ _ _ _ _ _ _ _ _ _ _)
   | (with_reducible exact ih1 _ _ _ _ _ _ _ _ _ _ _ _)
   | (with_reducible exact ih2 _ _ _ _ _ _)
   | (with_reducible exact chargeparkref13_State.mono _ _ _ _)
   | (with_reducible exact chargeparkref13_common.mono _ _ _ _ _ _ _)
   | (with_reducible exact LeO.refl _)
   | (with_reducible exact LeO.none _)
   | (with_reducible refine LeO.ite ?_ ?_)
   | (with_reducible refine LeO.bind ?_ (fun _ => ?_))
   | exact ih0 _ _ _ _ _ _ _ _ _ _ _
   | exact ih1 _ _ _ _ _ _ _ _ _ _ _ _
   | exact ih2 _ _ _ _ _ _
   | exact chargeparkref13_State.mono _ _ _ _
   | exact chargeparkref13_common.mono _ _ _ _ _ _ _
   | exact LeO.none _
   | refine LeO.ite ?_ ?_
   | refine LeO.bind ?_ (fun _ => ?_)
  ·intro y0 y1 y2 y3 y4 y5
   unfold chargeparkref13_Draw.j2
   repeat' first
   | (with_reducible exact ih0 _ _ _ _ _ _ _ _ _ _ _)
   | (with_reducible exact ih1 _ _ _ _ _ _ _ _ _ _ _ _)
   | (with_reducible exact ih2 _ _ _ _ _ _)
   | (with_reducible exact chargeparkref13_State.mono _ _ _ _)
   | (with_reducible exact chargeparkref13_common.mono _ _ _ _ _ _ _)
   | (with_reducible exact LeO.refl _)
   | (with_reducible exact LeO.none _)
   | (with_reducible refine LeO.ite ?_ ?_)
   | (with_reducible refine LeO.bind ?_ (fun _ => ?_))
   | exact ih0 _ _ _ _ _ _ _ _ _ _ _
   | exact ih1 _ _ _ _ _ _ _ _ _ _ _ _
   | exact ih2 _ _ _ _ _ _
   | exact chargeparkref13_State.mono _ _ _ _
   | exact chargeparkref13_common.mono _ _ _ _ _ _ _
   | exact LeO.none _
   | refine LeO.ite ?_ ?_
   | refine LeO.bind ?_ (fun _ => ?_)
theorem chargeparkref13_Draw.mono : ∀ a0 a1 a2 a3 a4 a5 a6 a7 a8 a9 k, LeO (chargeparkref13_Draw.f k a0 a1 a2 a3 a4 a5 a6 a7 a8 a9) (chargeparkref13_Draw.f (k + 1) a0 a1 a2 a3 a4 a5 a6 a7 a8 a9) := by
 intro a0 a1 a2 a3 a4 a5 a6 a7 a8 a9 k
 obtain ⟨ih0, ih1, ih2⟩ := chargeparkref13_Draw.mono_l k
 unfold chargeparkref13_Draw.f
 repeat' first
   | (with_reducible exact ih0 _ _ _ _ _ _ _ _ _ _ _)
   | (with_reducible exact ih1 _ _ _ _ _ _ _ _ _ _ _ _)
   | (with_reducible exact ih2 _ _ _ _ _ _)
   | (with_reducible exact chargeparkref13_State.mono _ _ _ _)
   | (with_reducible exact chargeparkref13_common.mono _ _ _ _ _ _ _)
   | (with_reducible exact LeO.refl _)
   | (with_reducible exact LeO.none _)
   | (with_reducible refine LeO.ite ?_ ?_)
   | (with_reducible refine LeO.bind ?_ (fun _ => ?_))
   | exact ih0 _ _ _ _ _ _ _ _ _ _ _
   | exact ih1 _ _ _ _ _ _ _ _ _ _ _ _
   | exact ih2 _ _ _ _ _ _
   | exact chargeparkref13_State.mono _ _ _ _
   | exact chargeparkref13_common.mono _ _ _ _ _ _ _
   | exact LeO.none _
   | refine LeO.ite ?_ ?_
   | refine LeO.bind ?_ (fun _ => ?_)
def chargeparkref13_Draw.T14 : Bool × List (List Nat × List Nat) := (true, [([], []), ([], []), ([], []), ([], []), ([3], [3]), ([4], [4]), ([], []), ([6], [6]), ([], []), ([8], [8]), ([], []), ([10], [10]), ([9, 11], [9, 11]), ([7, 12], [7, 12]), ([2, 5, 13], [2, 5, 13]), ([0, 11, 0], [0]), ([1, 15, 0, 1, 15], [1]), ([14, 16, 0, 1, 2, 3, 4, 5, 6, 7, 8, 9, 10, 11, 12, 13, 14, 15, 16], [14]), ([17, 0, 1, 2, 3, 4, 5, 6, 7, 8, 9, 10, 11, 12, 13, 14, 15, 16, 17], [])])
def chargeparkref13_Draw.B14 : List Nat := [0, 0, 0, 0, 8, 24, 0, 64, 0, 256, 0, 1024, 3840, 8128, 16380, 3073, 35843, 131071, 262143]
theorem chargeparkref13_Draw.tab14 : rtab .any (opsOf Try.f12 14) = chargeparkref13_Draw.T14 := by kernel_rfl
theorem chargeparkref13_Draw.bits14 : waitsOk chargeparkref13_Draw.T14.2 chargeparkref13_Draw.B14 = true := by kernel_rfl
set_option maxHeartbeats 8000000 in
set_option maxRecDepth 100000 in
theorem chargeparkref13_Draw.calls (k : Nat) (a0_0 : Int) (a0_1 : Int) (a0_2 : Int) (a0_3 : Int) (a0_4 : Int) (A1_0 : Option Addr) (c1_0 : Nat) (l1_0 : List Int) (a1_1 : Int) (a1_2 : Int) (a2 : Int) (a3 : Int) (r1 : Int) (r2 : Int) (r3 : List Int) (r4 : Int) (r5 : Int) (r6 : Int) (w : World) (hr1_0 : Kd.C (Kd.int .i64) w A1_0 l1_0.length l1_0) (hc1_0 : l1_0.length ≤ c1_0) (h : chargeparkref13_Draw.f k a0_0 a0_1 a0_2 a0_3 a0_4 l1_0 a1_1 a1_2 a2 a3 = some (r1, r2, r3, r4, r5, r6)) :
  Calls Try.prog 12 #[.agg #[.int .i64 a0_0, .int .i64 a0_1, .int .i64 a0_2, .int .i64 a0_3, .int .i64 a0_4], .agg #[.slice A1_0 l1_0.length c1_0, .int .i64 a1_1, .int .i64 a1_2], .int .i64 a2, .int .i64 a3] w fun e w' => ∃ v2_ : Value, e = .returned (.tuple #[.int .i64 r1, .int .i64 r2, .agg #[v2_, .int .i64 r4, .int .i64 r5], .int .i64 r6]) ∧ Kd.Q (Kd.int .i64) 3 w' w.heap.size (fun _ => True) v2_ r3 ∧ Below w.heap.size w w' := by
 have hu23 := Try.underlying23
 have hu26 := Try.underlying26
 have HR1_0 := Aside0.mk hr1_0
 have HC1_0 := Aside0.mk hc1_0
 clear hr1_0 hc1_0
 have HB := Aside0.mk (Below.refl w.heap.size w)
 have H : ((chargeparkref13_Valid.f a0_0 a0_1 a0_2 a0_3 a0_4).bind fun t198 => (if t198 = true then ((chargeparkref13_State.f k l1_0 a1_1 a1_2).bind fun t199 => (if t199 = true then (if a2 < 1 then (chargeparkref13_Draw.j0 k a2 a3 true a0_0 a0_1 a0_2 a0_3 a0_4 l1_0 a1_1 a1_2) else (if a2 > 7 then (chargeparkref13_Draw.j0 k a2 a3 true a0_0 a0_1 a0_2 a0_3 a0_4 l1_0 a1_1 a1_2) else (if a3 < 0 then (chargeparkref13_Draw.j0 k a2 a3 true a0_0 a0_1 a0_2 a0_3 a0_4 l1_0 a1_1 a1_2) else (if a3 > 80 then (chargeparkref13_Draw.j0 k a2 a3 true a0_0 a0_1 a0_2 a0_3 a0_4 l1_0 a1_1 a1_2) else (chargeparkref13_Draw.j0 k a2 a3 (a1_1 == 1000000) a0_0 a0_1 a0_2 a0_3 a0_4 l1_0 a1_1 a1_2))))) else (chargeparkref13_Draw.j0 k a2 a3 true a0_0 a0_1 a0_2 a0_3 a0_4 l1_0 a1_1 a1_2))) else (chargeparkref13_Draw.j0 k a2 a3 true a0_0 a0_1 a0_2 a0_3 a0_4 l1_0 a1_1 a1_2))) = some (r1, r2, r3, r4, r5, r6) := h
 clear h
 have HC5 := Aside0.mk H
 clear H
 go_enter Try.func12, Try.ntmps12
 go_upto_region 1 with (first | ((with_reducible refine gate_dst (N := 4) rfl ?_); refine box_event ?hg (N := 4) ?hd (cs := #[.int .i64 a0_0, .int .i64 a0_1, .int .i64 a0_2, .int .i64 a0_3, .int .i64 a0_4]) (t := 23) ?hr ?_; (case hd => rfl); (case hg => rfl); (case hr => first | (go_simp; done) | (go_simp; rfl)); intro gb195 hg w6 hbox hb; have n0_ := Aside0.mk (below_step (by repeat (first | (with_reducible first | exact HB.out | apply below_alloc | apply pw_below_drewN | apply below_drew1) | exact HB.out)) hb); have n1_ := Aside0.mk (hbox); have n2_ := Aside0.mk ((by rw [hg]; exact (below_size (by repeat (first | (with_reducible first | exact HB.out | apply below_alloc | apply pw_below_drewN | apply below_drew1) | exact HB.out))) : w.heap.size ≤ gb195)); have n3_ := Aside0.mk ((by rw [hg]; exact (below_size (by repeat (first | (with_reducible first | exact HB.out | apply below_alloc | apply pw_below_drewN | apply below_drew1) | exact HB.out))) : w.heap.size ≤ gb195)); clear HB; have HB := n0_; have BK195 := n1_; have GW195 := n2_; have GE195 := n3_; clear n0_ n1_ n2_ n3_; clear hb hbox hg) | ((with_reducible refine gate_dst (N := 5) rfl ?_); refine box_event ?hg (N := 5) ?hd (cs := #[.slice A1_0 l1_0.length c1_0, .int .i64 a1_1, .int .i64 a1_2]) (t := 26) ?hr ?_; (case hd => rfl); (case hg => rfl); (case hr => first | (go_simp; done) | (go_simp; rfl)); intro gb196 hg w7 hbox hb; have n0_ := Aside0.mk (blk_below (g := gb195) (o := .cells #[.int .i64 a0_0, .int .i64 a0_1, .int .i64 a0_2, .int .i64 a0_3, .int .i64 a0_4] 23 (0, 0)) (by (with_reducible repeat (first | refine blk_drewN ?_ _ | refine blk_drew ?_ | refine blk_alloc ?_ _)); exact BK195.out) hb); have n1_ := Aside0.mk (below_step (by repeat (first | (with_reducible first | exact HB.out | apply below_alloc | apply pw_below_drewN | apply below_drew1 | refine below_set ?_ GE195.out) | exact HB.out)) hb); have n2_ := Aside0.mk (hbox); have n3_ := Aside0.mk ((by rw [hg]; exact (below_size (by repeat (first | (with_reducible first | exact HB.out | apply below_alloc | apply pw_below_drewN | apply below_drew1 | refine below_set ?_ GE195.out) | exact HB.out))) : w.heap.size ≤ gb196)); have n4_ := Aside0.mk ((by rw [hg]; exact (below_size (by repeat (first | (with_reducible first | exact HB.out | apply below_alloc | apply pw_below_drewN | apply below_drew1 | refine below_set ?_ GE195.out) | exact HB.out))) : w.heap.size ≤ gb196)); have n5_ := Aside0.mk ((by rw [hg]; exact Nat.ne_of_lt (blk_lt (g := gb195) (o := .cells #[.int .i64 a0_0, .int .i64 a0_1, .int .i64 a0_2, .int .i64 a0_3, .int .i64 a0_4] 23 (0, 0)) (by (with_reducible repeat (first | refine blk_drewN ?_ _ | refine blk_drew ?_ | refine blk_alloc ?_ _)); exact BK195.out)) : gb195 ≠ gb196)); have n6_ := Aside0.mk ((by rw [hg]; exact Nat.ne_of_gt (blk_lt (g := gb195) (o := .cells #[.int .i64 a0_0, .int .i64 a0_1, .int .i64 a0_2, .int .i64 a0_3, .int .i64 a0_4] 23 (0, 0)) (by (with_reducible repeat (first | refine blk_drewN ?_ _ | refine blk_drew ?_ | refine blk_alloc ?_ _)); exact BK195.out)) : gb196 ≠ gb195)); clear BK195; clear HB; have BK195 := n0_; have HB := n1_; have BK196 := n2_; have GW196 := n3_; have GE196 := n4_; have NB195_196 := n5_; have NB196_195 := n6_; clear n0_ n1_ n2_ n3_ n4_ n5_ n6_; clear hb hbox hg) | ((with_reducible refine gate_dst (N := 10) rfl ?_); refine box_event ?hg (N := 10) ?hd (cs := #[.slice none 0 0, .int .i64 0, .int .i64 0]) (t := 26) ?hr ?_; (case hd => rfl); (case hg => rfl); (case hr => first | (go_simp; done) | (go_simp; rfl)); intro gb197 hg w8 hbox hb; have n0_ := Aside0.mk (blk_below (g := gb195) (o := .cells #[.int .i64 a0_0, .int .i64 a0_1, .int .i64 a0_2, .int .i64 a0_3, .int .i64 a0_4] 23 (0, 0)) (by (with_reducible repeat (first | refine blk_drewN ?_ _ | refine blk_drew ?_ | refine blk_alloc ?_ _)); exact BK195.out) hb); have n1_ := Aside0.mk (blk_below (g := gb196) (o := .cells #[.slice A1_0 l1_0.length c1_0, .int .i64 a1_1, .int .i64 a1_2] 26 (0, 0)) (by (with_reducible repeat (first | refine blk_drewN ?_ _ | refine blk_drew ?_ | refine blk_alloc ?_ _)); exact BK196.out) hb); have n2_ := Aside0.mk (below_step (by repeat (first | (with_reducible first | exact HB.out | apply below_alloc | apply pw_below_drewN | apply below_drew1 | refine below_set ?_ GE195.out | refine below_set ?_ GE196.out) | exact HB.out)) hb); have n3_ := Aside0.mk (hbox); have n4_ := Aside0.mk ((by rw [hg]; exact (below_size (by repeat (first | (with_reducible first | exact HB.out | apply below_alloc | apply pw_below_drewN | apply below_drew1 | refine below_set ?_ GE195.out | refine below_set ?_ GE196.out) | exact HB.out))) : w.heap.size ≤ gb197)); have n5_ := Aside0.mk ((by rw [hg]; exact (below_size (by repeat (first | (with_reducible first | exact HB.out | apply below_alloc | apply pw_below_drewN | apply below_drew1 | refine below_set ?_ GE195.out | refine below_set ?_ GE196.out) | exact HB.out))) : w.heap.size ≤ gb197)); have n6_ := Aside0.mk ((by rw [hg]; exact Nat.ne_of_lt (blk_lt (g := gb195) (o := .cells #[.int .i64 a0_0, .int .i64 a0_1, .int .i64 a0_2, .int .i64 a0_3, .int .i64 a0_4] 23 (0, 0)) (by (with_reducible repeat (first | refine blk_drewN ?_ _ | refine blk_drew ?_ | refine blk_alloc ?_ _)); exact BK195.out)) : gb195 ≠ gb197)); have n7_ := Aside0.mk ((by rw [hg]; exact Nat.ne_of_gt (blk_lt (g := gb195) (o := .cells #[.int .i64 a0_0, .int .i64 a0_1, .int .i64 a0_2, .int .i64 a0_3, .int .i64 a0_4] 23 (0, 0)) (by (with_reducible repeat (first | refine blk_drewN ?_ _ | refine blk_drew ?_ | refine blk_alloc ?_ _)); exact BK195.out)) : gb197 ≠ gb195)); have n8_ := Aside0.mk ((by rw [hg]; exact Nat.ne_of_lt (blk_lt (g := gb196) (o := .cells #[.slice A1_0 l1_0.length c1_0, .int .i64 a1_1, .int .i64 a1_2] 26 (0, 0)) (by (with_reducible repeat (first | refine blk_drewN ?_ _ | refine blk_drew ?_ | refine blk_alloc ?_ _)); exact BK196.out)) : gb196 ≠ gb197)); have n9_ := Aside0.mk ((by rw [hg]; exact Nat.ne_of_gt (blk_lt (g := gb196) (o := .cells #[.slice A1_0 l1_0.length c1_0, .int .i64 a1_1, .int .i64 a1_2] 26 (0, 0)) (by (with_reducible repeat (first | refine blk_drewN ?_ _ | refine blk_drew ?_ | refine blk_alloc ?_ _)); exact BK196.out)) : gb197 ≠ gb196)); clear BK195; clear BK196; clear HB; have BK195 := n0_; have BK196 := n1_; have HB := n2_; have BK197 := n3_; have GW197 := n4_; have GE197 := n5_; have NB195_197 := n6_; have NB197_195 := n7_; have NB196_197 := n8_; have NB197_196 := n9_; clear n0_ n1_ n2_ n3_ n4_ n5_ n6_ n7_ n8_ n9_; clear hb hbox hg))
 (try simp only [Act.put, List.setIfInBounds_toArray, List.set_cons_zero, List.set_cons_succ])
 go_cut [43] (fun v43 wc => ∃ (kq : Nat) (x43_4 : Bool), v43 = .bool x43_4 ∧ Aside0 (chargeparkref13_Draw.j0 kq a2 a3 x43_4 a0_0 a0_1 a0_2 a0_3 a0_4 l1_0 a1_1 a1_2 = some (r1, r2, r3, r4, r5, r6)) ∧ Aside0 (kq ≤ k) ∧ Aside0 (wc.heap[gb195]? = some (.cells #[.int .i64 a0_0, .int .i64 a0_1, .int .i64 a0_2, .int .i64 a0_3, .int .i64 a0_4] 23 (0, 0))) ∧ Aside0 (wc.heap[gb196]? = some (.cells #[(.slice A1_0 l1_0.length c1_0), .int .i64 a1_1, .int .i64 a1_2] 26 (0, 0))) ∧ Aside0 (wc.heap[gb197]? = some (.cells #[(.slice none 0 0), .int .i64 0, .int .i64 0] 26 (0, 0))) ∧ Aside0 (Below w.heap.size w wc))
 case first =>
  have H := HC5.out
  clear HC5
  replace H := Option.bind_eq_some_iff.mp H
  obtain ⟨t198, A90, H⟩ := H
  replace H : (if t198 = true then ((chargeparkref13_State.f k l1_0 a1_1 a1_2).bind fun t199 => (if t199 = true then (if a2 < 1 then (chargeparkref13_Draw.j0 k a2 a3 true a0_0 a0_1 a0_2 a0_3 a0_4 l1_0 a1_1 a1_2) else (if a2 > 7 then (chargeparkref13_Draw.j0 k a2 a3 true a0_0 a0_1 a0_2 a0_3 a0_4 l1_0 a1_1 a1_2) else (if a3 < 0 then (chargeparkref13_Draw.j0 k a2 a3 true a0_0 a0_1 a0_2 a0_3 a0_4 l1_0 a1_1 a1_2) else (if a3 > 80 then (chargeparkref13_Draw.j0 k a2 a3 true a0_0 a0_1 a0_2 a0_3 a0_4 l1_0 a1_1 a1_2) else (chargeparkref13_Draw.j0 k a2 a3 (a1_1 == 1000000) a0_0 a0_1 a0_2 a0_3 a0_4 l1_0 a1_1 a1_2))))) else (chargeparkref13_Draw.j0 k a2 a3 true a0_0 a0_1 a0_2 a0_3 a0_4 l1_0 a1_1 a1_2))) else (chargeparkref13_Draw.j0 k a2 a3 true a0_0 a0_1 a0_2 a0_3 a0_4 l1_0 a1_1 a1_2)) = some (r1, r2, r3, r4, r5, r6) := H
  have A9 := Aside0.mk A90
  clear A90
  by_cases c10 : t198 = true
  ·subst c10
   have H1 : ((chargeparkref13_State.f k l1_0 a1_1 a1_2).bind fun t199 => (if t199 = true then (if a2 < 1 then (chargeparkref13_Draw.j0 k a2 a3 true a0_0 a0_1 a0_2 a0_3 a0_4 l1_0 a1_1 a1_2) else (if a2 > 7 then (chargeparkref13_Draw.j0 k a2 a3 true a0_0 a0_1 a0_2 a0_3 a0_4 l1_0 a1_1 a1_2) else (if a3 < 0 then (chargeparkref13_Draw.j0 k a2 a3 true a0_0 a0_1 a0_2 a0_3 a0_4 l1_0 a1_1 a1_2) else (if a3 > 80 then (chargeparkref13_Draw.j0 k a2 a3 true a0_0 a0_1 a0_2 a0_3 a0_4 l1_0 a1_1 a1_2) else (chargeparkref13_Draw.j0 k a2 a3 (a1_1 == 1000000) a0_0 a0_1 a0_2 a0_3 a0_4 l1_0 a1_1 a1_2))))) else (chargeparkref13_Draw.j0 k a2 a3 true a0_0 a0_1 a0_2 a0_3 a0_4 l1_0 a1_1 a1_2))) = some (r1, r2, r3, r4, r5, r6) := by rw [if_pos rfl] at H; exact H
   clear H
   have H := H1
   clear H1
   replace H := Option.bind_eq_some_iff.mp H
   obtain ⟨t199, A110, H⟩ := H
   replace H : (if t199 = true then (if a2 < 1 then (chargeparkref13_Draw.j0 k a2 a3 true a0_0 a0_1 a0_2 a0_3 a0_4 l1_0 a1_1 a1_2) else (if a2 > 7 then (chargeparkref13_Draw.j0 k a2 a3 true a0_0 a0_1 a0_2 a0_3 a0_4 l1_0 a1_1 a1_2) else (if a3 < 0 then (chargeparkref13_Draw.j0 k a2 a3 true a0_0 a0_1 a0_2 a0_3 a0_4 l1_0 a1_1 a1_2) else (if a3 > 80 then (chargeparkref13_Draw.j0 k a2 a3 true a0_0 a0_1 a0_2 a0_3 a0_4 l1_0 a1_1 a1_2) else (chargeparkref13_Draw.j0 k a2 a3 (a1_1 == 1000000) a0_0 a0_1 a0_2 a0_3 a0_4 l1_0 a1_1 a1_2))))) else (chargeparkref13_Draw.j0 k a2 a3 true a0_0 a0_1 a0_2 a0_3 a0_4 l1_0 a1_1 a1_2)) = some (r1, r2, r3, r4, r5, r6) := H
   have A11 := Aside0.mk A110
   clear A110
   by_cases c12 : t199 = true
   ·subst c12
    have H1 : (if a2 < 1 then (chargeparkref13_Draw.j0 k a2 a3 true a0_0 a0_1 a0_2 a0_3 a0_4 l1_0 a1_1 a1_2) else (if a2 > 7 then (chargeparkref13_Draw.j0 k a2 a3 true a0_0 a0_1 a0_2 a0_3 a0_4 l1_0 a1_1 a1_2) else (if a3 < 0 then (chargeparkref13_Draw.j0 k a2 a3 true a0_0 a0_1 a0_2 a0_3 a0_4 l1_0 a1_1 a1_2) else (if a3 > 80 then (chargeparkref13_Draw.j0 k a2 a3 true a0_0 a0_1 a0_2 a0_3 a0_4 l1_0 a1_1 a1_2) else (chargeparkref13_Draw.j0 k a2 a3 (a1_1 == 1000000) a0_0 a0_1 a0_2 a0_3 a0_4 l1_0 a1_1 a1_2))))) = some (r1, r2, r3, r4, r5, r6) := by rw [if_pos rfl] at H; exact H
    clear H
    have H := H1
    clear H1
    by_cases c13 : a2 < 1
    ·rw [if_pos c13] at H
     have c13b0 : decide (a2 < 1) = true := decide_eq_true c13
     clear c13
     (first | rw [c13b0] | (simp only [i64_w, i32_w]; rw [c13b0]) | skip)
     have H' := Aside0.mk H
     clear H
     have hnb14 := NB195_196.out
     have hnc14 := NB196_195.out
     have hnb15 := NB195_197.out
     have hnc15 := NB197_195.out
     have hcz16_0 : w8.cell? ⟨gb195, 0, none⟩ = some (.int .i64 a0_0) := (blk_cell BK195.out 0).trans rfl
     have hcz16_1 : w8.cell? ⟨gb195, 1, none⟩ = some (.int .i64 a0_1) := (blk_cell BK195.out 1).trans rfl
     have hcz16_2 : w8.cell? ⟨gb195, 2, none⟩ = some (.int .i64 a0_2) := (blk_cell BK195.out 2).trans rfl
     have hcz16_3 : w8.cell? ⟨gb195, 3, none⟩ = some (.int .i64 a0_3) := (blk_cell BK195.out 3).trans rfl
     have hcz16_4 : w8.cell? ⟨gb195, 4, none⟩ = some (.int .i64 a0_4) := (blk_cell BK195.out 4).trans rfl
     have hfz16_0 := blk_frozen BK195.out 0
     have hfz16_1 := blk_frozen BK195.out 1
     have hfz16_2 := blk_frozen BK195.out 2
     have hfz16_3 := blk_frozen BK195.out 3
     have hfz16_4 := blk_frozen BK195.out 4
     go_wp2_with (first | ((with_reducible refine gate_callee (f := 24) rfl ?_); refine goesL_ (some 16) rfl rfl Try.func24 (by kernel_rfl) rfl #[.agg #[.int .i64 a0_0, .int .i64 a0_1, .int .i64 a0_2, .int .i64 a0_3, .int .i64 a0_4]] rfl (by (try simp only [List.map_toArray, List.map_cons, List.map_nil]); first | done | rfl | (simp only [List.length_drop, List.length_take]; rfl)) ?_; (with_reducible refine (chargeparkref13_Valid.calls a0_0 a0_1 a0_2 a0_3 a0_4 true _ A9.out).mono ?_); rintro e w17 ⟨rfl, hb⟩; refine ⟨_, rfl, ?_⟩; have n0_ := Aside0.mk (blk_below (g := gb195) (o := .cells #[.int .i64 a0_0, .int .i64 a0_1, .int .i64 a0_2, .int .i64 a0_3, .int .i64 a0_4] 23 (0, 0)) (by (with_reducible repeat (first | refine blk_drewN ?_ _ | refine blk_drew ?_ | refine blk_alloc ?_ _)); exact BK195.out) hb); have n1_ := Aside0.mk (blk_below (g := gb196) (o := .cells #[.slice A1_0 l1_0.length c1_0, .int .i64 a1_1, .int .i64 a1_2] 26 (0, 0)) (by (with_reducible repeat (first | refine blk_drewN ?_ _ | refine blk_drew ?_ | refine blk_alloc ?_ _)); exact BK196.out) hb); have n2_ := Aside0.mk (blk_below (g := gb197) (o := .cells #[.slice none 0 0, .int .i64 0, .int .i64 0] 26 (0, 0)) (by (with_reducible repeat (first | refine blk_drewN ?_ _ | refine blk_drew ?_ | refine blk_alloc ?_ _)); exact BK197.out) hb); have n3_ := Aside0.mk (below_step (by repeat (first | (with_reducible first | exact HB.out | apply below_alloc | apply pw_below_drewN | apply below_drew1 | refine below_set ?_ GE195.out | refine below_set ?_ GE196.out | refine below_set ?_ GE197.out) | exact HB.out)) hb); clear BK195; clear BK196; clear BK197; clear HB; have BK195 := n0_; have BK196 := n1_; have BK197 := n2_; have HB := n3_; clear n0_ n1_ n2_ n3_; (try clear hb); (try clear hb2); (try clear hk); (try clear hi); have hnb18 := NB196_197.out; have hnc18 := NB197_196.out; have hcz19_0 : w17.cell? ⟨gb196, 0, none⟩ = some (.slice A1_0 l1_0.length c1_0) := (blk_cell BK196.out 0).trans rfl; have hcz19_1 : w17.cell? ⟨gb196, 1, none⟩ = some (.int .i64 a1_1) := (blk_cell BK196.out 1).trans rfl; have hcz19_2 : w17.cell? ⟨gb196, 2, none⟩ = some (.int .i64 a1_2) := (blk_cell BK196.out 2).trans rfl; have hfz19_0 := blk_frozen BK196.out 0; have hfz19_1 := blk_frozen BK196.out 1; have hfz19_2 := blk_frozen BK196.out 2) | (go_at_call 25; (with_reducible refine (chargeparkref13_State.calls k _ _ l1_0 a1_1 a1_2 true _ ?side1 ?side2 A11.out).mono ?_); (case side1 => repeat (first | exact (Kd.C_below HR1_0.out HB.out) | (with_reducible refine Kd.C_alloc ?_ _) | (with_reducible refine Kd.C_drewN ?_ _) | (with_reducible refine Kd.C_drew ?_))); (case side2 => exact HC1_0.out); rintro e w20 ⟨rfl, hb⟩; have n0_ := Aside0.mk (blk_below (g := gb195) (o := .cells #[.int .i64 a0_0, .int .i64 a0_1, .int .i64 a0_2, .int .i64 a0_3, .int .i64 a0_4] 23 (0, 0)) (by (with_reducible repeat (first | refine blk_drewN ?_ _ | refine blk_drew ?_ | refine blk_alloc ?_ _)); exact BK195.out) hb); have n1_ := Aside0.mk (blk_below (g := gb196) (o := .cells #[.slice A1_0 l1_0.length c1_0, .int .i64 a1_1, .int .i64 a1_2] 26 (0, 0)) (by (with_reducible repeat (first | refine blk_drewN ?_ _ | refine blk_drew ?_ | refine blk_alloc ?_ _)); exact BK196.out) hb); have n2_ := Aside0.mk (blk_below (g := gb197) (o := .cells #[.slice none 0 0, .int .i64 0, .int .i64 0] 26 (0, 0)) (by (with_reducible repeat (first | refine blk_drewN ?_ _ | refine blk_drew ?_ | refine blk_alloc ?_ _)); exact BK197.out) hb); have n3_ := Aside0.mk (below_step (by repeat (first | (with_reducible first | exact HB.out | apply below_alloc | apply pw_below_drewN | apply below_drew1 | refine below_set ?_ GE195.out | refine below_set ?_ GE196.out | refine below_set ?_ GE197.out) | exact HB.out)) hb); clear BK195; clear BK196; clear BK197; clear HB; have BK195 := n0_; have BK196 := n1_; have BK197 := n2_; have HB := n3_; clear n0_ n1_ n2_ n3_; (try clear hb); (try clear hb2); (try clear hk); (try clear hi)))
     go_meet
     case rel => exact ⟨_, (true), (by first | rfl | (simp; done) | (simp [*]; done)), H', ⟨by first | omega | exact Nat.le_refl _⟩, ⟨by (with_reducible repeat (first | refine blk_drewN ?_ _ | refine blk_drew ?_ | refine blk_alloc ?_ _)); exact BK195.out⟩, ⟨by (with_reducible repeat (first | refine blk_drewN ?_ _ | refine blk_drew ?_ | refine blk_alloc ?_ _)); exact BK196.out⟩, ⟨by (with_reducible repeat (first | refine blk_drewN ?_ _ | refine blk_drew ?_ | refine blk_alloc ?_ _)); exact BK197.out⟩, ⟨by repeat (first | (with_reducible first | exact HB.out | apply below_alloc | apply pw_below_drewN | apply below_drew1 | refine below_set ?_ GE195.out | refine below_set ?_ GE196.out | refine below_set ?_ GE197.out) | exact HB.out)⟩⟩
    ·rw [if_neg c13] at H
     have c13b0 : decide (a2 < 1) = false := decide_eq_false c13
     clear c13
     (first | rw [c13b0] | (simp only [i64_w, i32_w]; rw [c13b0]) | skip)
     by_cases c21 : a2 > 7
     ·rw [if_pos c21] at H
      have c21b0 : decide (7 < a2) = true := decide_eq_true c21
      clear c21
      have H' := Aside0.mk H
      clear H
      have hnb22 := NB195_196.out
      have hnc22 := NB196_195.out
      have hnb23 := NB195_197.out
      have hnc23 := NB197_195.out
      have hcz24_0 : w8.cell? ⟨gb195, 0, none⟩ = some (.int .i64 a0_0) := (blk_cell BK195.out 0).trans rfl
      have hcz24_1 : w8.cell? ⟨gb195, 1, none⟩ = some (.int .i64 a0_1) := (blk_cell BK195.out 1).trans rfl
      have hcz24_2 : w8.cell? ⟨gb195, 2, none⟩ = some (.int .i64 a0_2) := (blk_cell BK195.out 2).trans rfl
      have hcz24_3 : w8.cell? ⟨gb195, 3, none⟩ = some (.int .i64 a0_3) := (blk_cell BK195.out 3).trans rfl
      have hcz24_4 : w8.cell? ⟨gb195, 4, none⟩ = some (.int .i64 a0_4) := (blk_cell BK195.out 4).trans rfl
      have hfz24_0 := blk_frozen BK195.out 0
      have hfz24_1 := blk_frozen BK195.out 1
      have hfz24_2 := blk_frozen BK195.out 2
      have hfz24_3 := blk_frozen BK195.out 3
      have hfz24_4 := blk_frozen BK195.out 4
      go_wp2_with (first | ((with_reducible refine gate_callee (f := 24) rfl ?_); refine goesL_ (some 16) rfl rfl Try.func24 (by kernel_rfl) rfl #[.agg #[.int .i64 a0_0, .int .i64 a0_1, .int .i64 a0_2, .int .i64 a0_3, .int .i64 a0_4]] rfl (by (try simp only [List.map_toArray, List.map_cons, List.map_nil]); first | done | rfl | (simp only [List.length_drop, List.length_take]; rfl)) ?_; (with_reducible refine (chargeparkref13_Valid.calls a0_0 a0_1 a0_2 a0_3 a0_4 true _ A9.out).mono ?_); rintro e w25 ⟨rfl, hb⟩; refine ⟨_, rfl, ?_⟩; have n0_ := Aside0.mk (blk_below (g := gb195) (o := .cells #[.int .i64 a0_0, .int .i64 a0_1, .int .i64 a0_2, .int .i64 a0_3, .int .i64 a0_4] 23 (0, 0)) (by (with_reducible repeat (first | refine blk_drewN ?_ _ | refine blk_drew ?_ | refine blk_alloc ?_ _)); exact BK195.out) hb); have n1_ := Aside0.mk (blk_below (g := gb196) (o := .cells #[.slice A1_0 l1_0.length c1_0, .int .i64 a1_1, .int .i64 a1_2] 26 (0, 0)) (by (with_reducible repeat (first | refine blk_drewN ?_ _ | refine blk_drew ?_ | refine blk_alloc ?_ _)); exact BK196.out) hb); have n2_ := Aside0.mk (blk_below (g := gb197) (o := .cells #[.slice none 0 0, .int .i64 0, .int .i64 0] 26 (0, 0)) (by (with_reducible repeat (first | refine blk_drewN ?_ _ | refine blk_drew ?_ | refine blk_alloc ?_ _)); exact BK197.out) hb); have n3_ := Aside0.mk (below_step (by repeat (first | (with_reducible first | exact HB.out | apply below_alloc | apply pw_below_drewN | apply below_drew1 | refine below_set ?_ GE195.out | refine below_set ?_ GE196.out | refine below_set ?_ GE197.out) | exact HB.out)) hb); clear BK195; clear BK196; clear BK197; clear HB; have BK195 := n0_; have BK196 := n1_; have BK197 := n2_; have HB := n3_; clear n0_ n1_ n2_ n3_; (try clear hb); (try clear hb2); (try clear hk); (try clear hi); have hnb26 := NB196_197.out; have hnc26 := NB197_196.out; have hcz27_0 : w25.cell? ⟨gb196, 0, none⟩ = some (.slice A1_0 l1_0.length c1_0) := (blk_cell BK196.out 0).trans rfl; have hcz27_1 : w25.cell? ⟨gb196, 1, none⟩ = some (.int .i64 a1_1) := (blk_cell BK196.out 1).trans rfl; have hcz27_2 : w25.cell? ⟨gb196, 2, none⟩ = some (.int .i64 a1_2) := (blk_cell BK196.out 2).trans rfl; have hfz27_0 := blk_frozen BK196.out 0; have hfz27_1 := blk_frozen BK196.out 1; have hfz27_2 := blk_frozen BK196.out 2) | (go_at_call 25; (with_reducible refine (chargeparkref13_State.calls k _ _ l1_0 a1_1 a1_2 true _ ?side1 ?side2 A11.out).mono ?_); (case side1 => repeat (first | exact (Kd.C_below HR1_0.out HB.out) | (with_reducible refine Kd.C_alloc ?_ _) | (with_reducible refine Kd.C_drewN ?_ _) | (with_reducible refine Kd.C_drew ?_))); (case side2 => exact HC1_0.out); rintro e w28 ⟨rfl, hb⟩; have n0_ := Aside0.mk (blk_below (g := gb195) (o := .cells #[.int .i64 a0_0, .int .i64 a0_1, .int .i64 a0_2, .int .i64 a0_3, .int .i64 a0_4] 23 (0, 0)) (by (with_reducible repeat (first | refine blk_drewN ?_ _ | refine blk_drew ?_ | refine blk_alloc ?_ _)); exact BK195.out) hb); have n1_ := Aside0.mk (blk_below (g := gb196) (o := .cells #[.slice A1_0 l1_0.length c1_0, .int .i64 a1_1, .int .i64 a1_2] 26 (0, 0)) (by (with_reducible repeat (first | refine blk_drewN ?_ _ | refine blk_drew ?_ | refine blk_alloc ?_ _)); exact BK196.out) hb); have n2_ := Aside0.mk (blk_below (g := gb197) (o := .cells #[.slice none 0 0, .int .i64 0, .int .i64 0] 26 (0, 0)) (by (with_reducible repeat (first | refine blk_drewN ?_ _ | refine blk_drew ?_ | refine blk_alloc ?_ _)); exact BK197.out) hb); have n3_ := Aside0.mk (below_step (by repeat (first | (with_reducible first | exact HB.out | apply below_alloc | apply pw_below_drewN | apply below_drew1 | refine below_set ?_ GE195.out | refine below_set ?_ GE196.out | refine below_set ?_ GE197.out) | exact HB.out)) hb); clear BK195; clear BK196; clear BK197; clear HB; have BK195 := n0_; have BK196 := n1_; have BK197 := n2_; have HB := n3_; clear n0_ n1_ n2_ n3_; (try clear hb); (try clear hb2); (try clear hk); (try clear hi)))
      go_meet
      case rel => exact ⟨_, (true), (by first | rfl | (simp; done) | (simp [*]; done)), H', ⟨by first | omega | exact Nat.le_refl _⟩, ⟨by (with_reducible repeat (first | refine blk_drewN ?_ _ | refine blk_drew ?_ | refine blk_alloc ?_ _)); exact BK195.out⟩, ⟨by (with_reducible repeat (first | refine blk_drewN ?_ _ | refine blk_drew ?_ | refine blk_alloc ?_ _)); exact BK196.out⟩, ⟨by (with_reducible repeat (first | refine blk_drewN ?_ _ | refine blk_drew ?_ | refine blk_alloc ?_ _)); exact BK197.out⟩, ⟨by repeat (first | (with_reducible first | exact HB.out | apply below_alloc | apply pw_below_drewN | apply below_drew1 | refine below_set ?_ GE195.out | refine below_set ?_ GE196.out | refine below_set ?_ GE197.out) | exact HB.out)⟩⟩
     ·rw [if_neg c21] at H
      have c21b0 : decide (7 < a2) = false := decide_eq_false c21
      clear c21
      by_cases c29 : a3 < 0
      ·rw [if_pos c29] at H
       have c29b0 : decide (a3 < 0) = true := decide_eq_true c29
       clear c29
       have H' := Aside0.mk H
       clear H
       have hnb30 := NB195_196.out
       have hnc30 := NB196_195.out
       have hnb31 := NB195_197.out
       have hnc31 := NB197_195.out
       have hcz32_0 : w8.cell? ⟨gb195, 0, none⟩ = some (.int .i64 a0_0) := (blk_cell BK195.out 0).trans rfl
       have hcz32_1 : w8.cell? ⟨gb195, 1, none⟩ = some (.int .i64 a0_1) := (blk_cell BK195.out 1).trans rfl
       have hcz32_2 : w8.cell? ⟨gb195, 2, none⟩ = some (.int .i64 a0_2) := (blk_cell BK195.out 2).trans rfl
       have hcz32_3 : w8.cell? ⟨gb195, 3, none⟩ = some (.int .i64 a0_3) := (blk_cell BK195.out 3).trans rfl
       have hcz32_4 : w8.cell? ⟨gb195, 4, none⟩ = some (.int .i64 a0_4) := (blk_cell BK195.out 4).trans rfl
       have hfz32_0 := blk_frozen BK195.out 0
       have hfz32_1 := blk_frozen BK195.out 1
       have hfz32_2 := blk_frozen BK195.out 2
       have hfz32_3 := blk_frozen BK195.out 3
       have hfz32_4 := blk_frozen BK195.out 4
       go_wp2_with (first | ((with_reducible refine gate_callee (f := 24) rfl ?_); refine goesL_ (some 16) rfl rfl Try.func24 (by kernel_rfl) rfl #[.agg #[.int .i64 a0_0, .int .i64 a0_1, .int .i64 a0_2, .int .i64 a0_3, .int .i64 a0_4]] rfl (by (try simp only [List.map_toArray, List.map_cons, List.map_nil]); first | done | rfl | (simp only [List.length_drop, List.length_take]; rfl)) ?_; (with_reducible refine (chargeparkref13_Valid.calls a0_0 a0_1 a0_2 a0_3 a0_4 true _ A9.out).mono ?_); rintro e w33 ⟨rfl, hb⟩; refine ⟨_, rfl, ?_⟩; have n0_ := Aside0.mk (blk_below (g := gb195) (o := .cells #[.int .i64 a0_0, .int .i64 a0_1, .int .i64 a0_2, .int .i64 a0_3, .int .i64 a0_4] 23 (0, 0)) (by (with_reducible repeat (first | refine blk_drewN ?_ _ | refine blk_drew ?_ | refine blk_alloc ?_ _)); exact BK195.out) hb); have n1_ := Aside0.mk (blk_below (g := gb196) (o := .cells #[.slice A1_0 l1_0.length c1_0, .int .i64 a1_1, .int .i64 a1_2] 26 (0, 0)) (by (with_reducible repeat (first | refine blk_drewN ?_ _ | refine blk_drew ?_ | refine blk_alloc ?_ _)); exact BK196.out) hb); have n2_ := Aside0.mk (blk_below (g := gb197) (o := .cells #[.slice none 0 0, .int .i64 0, .int .i64 0] 26 (0, 0)) (by (with_reducible repeat (first | refine blk_drewN ?_ _ | refine blk_drew ?_ | refine blk_alloc ?_ _)); exact BK197.out) hb); have n3_ := Aside0.mk (below_step (by repeat (first | (with_reducible first | exact HB.out | apply below_alloc | apply pw_below_drewN | apply below_drew1 | refine below_set ?_ GE195.out | refine below_set ?_ GE196.out | refine below_set ?_ GE197.out) | exact HB.out)) hb); clear BK195; clear BK196; clear BK197; clear HB; have BK195 := n0_; have BK196 := n1_; have BK197 := n2_; have HB := n3_; clear n0_ n1_ n2_ n3_; (try clear hb); (try clear hb2); (try clear hk); (try clear hi); have hnb34 := NB196_197.out; have hnc34 := NB197_196.out; have hcz35_0 : w33.cell? ⟨gb196, 0, none⟩ = some (.slice A1_0 l1_0.length c1_0) := (blk_cell BK196.out 0).trans rfl; have hcz35_1 : w33.cell? ⟨gb196, 1, none⟩ = some (.int .i64 a1_1) := (blk_cell BK196.out 1).trans rfl; have hcz35_2 : w33.cell? ⟨gb196, 2, none⟩ = some (.int .i64 a1_2) := (blk_cell BK196.out 2).trans rfl; have hfz35_0 := blk_frozen BK196.out 0; have hfz35_1 := blk_frozen BK196.out 1; have hfz35_2 := blk_frozen BK196.out 2) | (go_at_call 25; (with_reducible refine (chargeparkref13_State.calls k _ _ l1_0 a1_1 a1_2 true _ ?side1 ?side2 A11.out).mono ?_); (case side1 => repeat (first | exact (Kd.C_below HR1_0.out HB.out) | (with_reducible refine Kd.C_alloc ?_ _) | (with_reducible refine Kd.C_drewN ?_ _) | (with_reducible refine Kd.C_drew ?_))); (case side2 => exact HC1_0.out); rintro e w36 ⟨rfl, hb⟩; have n0_ := Aside0.mk (blk_below (g := gb195) (o := .cells #[.int .i64 a0_0, .int .i64 a0_1, .int .i64 a0_2, .int .i64 a0_3, .int .i64 a0_4] 23 (0, 0)) (by (with_reducible repeat (first | refine blk_drewN ?_ _ | refine blk_drew ?_ | refine blk_alloc ?_ _)); exact BK195.out) hb); have n1_ := Aside0.mk (blk_below (g := gb196) (o := .cells #[.slice A1_0 l1_0.length c1_0, .int .i64 a1_1, .int .i64 a1_2] 26 (0, 0)) (by (with_reducible repeat (first | refine blk_drewN ?_ _ | refine blk_drew ?_ | refine blk_alloc ?_ _)); exact BK196.out) hb); have n2_ := Aside0.mk (blk_below (g := gb197) (o := .cells #[.slice none 0 0, .int .i64 0, .int .i64 0] 26 (0, 0)) (by (with_reducible repeat (first | refine blk_drewN ?_ _ | refine blk_drew ?_ | refine blk_alloc ?_ _)); exact BK197.out) hb); have n3_ := Aside0.mk (below_step (by repeat (first | (with_reducible first | exact HB.out | apply below_alloc | apply pw_below_drewN | apply below_drew1 | refine below_set ?_ GE195.out | refine below_set ?_ GE196.out | refine below_set ?_ GE197.out) | exact HB.out)) hb); clear BK195; clear BK196; clear BK197; clear HB; have BK195 := n0_; have BK196 := n1_; have BK197 := n2_; have HB := n3_; clear n0_ n1_ n2_ n3_; (try clear hb); (try clear hb2); (try clear hk); (try clear hi)))
       go_meet
       case rel => exact ⟨_, (true), (by first | rfl | (simp; done) | (simp [*]; done)), H', ⟨by first | omega | exact Nat.le_refl _⟩, ⟨by (with_reducible repeat (first | refine blk_drewN ?_ _ | refine blk_drew ?_ | refine blk_alloc ?_ _)); exact BK195.out⟩, ⟨by (with_reducible repeat (first | refine blk_drewN ?_ _ | refine blk_drew ?_ | refine blk_alloc ?_ _)); exact BK196.out⟩, ⟨by (with_reducible repeat (first | refine blk_drewN ?_ _ | refine blk_drew ?_ | refine blk_alloc ?_ _)); exact BK197.out⟩, ⟨by repeat (first | (with_reducible first | exact HB.out | apply below_alloc | apply pw_below_drewN | apply below_drew1 | refine below_set ?_ GE195.out | refine below_set ?_ GE196.out | refine below_set ?_ GE197.out) | exact HB.out)⟩⟩
      ·rw [if_neg c29] at H
       have c29b0 : decide (a3 < 0) = false := decide_eq_false c29
       clear c29
       by_cases c37 : a3 > 80
       ·rw [if_pos c37] at H
        have c37b0 : decide (80 < a3) = true := decide_eq_true c37
        clear c37
        have H' := Aside0.mk H
        clear H
        have hnb38 := NB195_196.out
        have hnc38 := NB196_195.out
        have hnb39 := NB195_197.out
        have hnc39 := NB197_195.out
        have hcz40_0 : w8.cell? ⟨gb195, 0, none⟩ = some (.int .i64 a0_0) := (blk_cell BK195.out 0).trans rfl
        have hcz40_1 : w8.cell? ⟨gb195, 1, none⟩ = some (.int .i64 a0_1) := (blk_cell BK195.out 1).trans rfl
        have hcz40_2 : w8.cell? ⟨gb195, 2, none⟩ = some (.int .i64 a0_2) := (blk_cell BK195.out 2).trans rfl
        have hcz40_3 : w8.cell? ⟨gb195, 3, none⟩ = some (.int .i64 a0_3) := (blk_cell BK195.out 3).trans rfl
        have hcz40_4 : w8.cell? ⟨gb195, 4, none⟩ = some (.int .i64 a0_4) := (blk_cell BK195.out 4).trans rfl
        have hfz40_0 := blk_frozen BK195.out 0
        have hfz40_1 := blk_frozen BK195.out 1
        have hfz40_2 := blk_frozen BK195.out 2
        have hfz40_3 := blk_frozen BK195.out 3
        have hfz40_4 := blk_frozen BK195.out 4
        go_wp2_with (first | ((with_reducible refine gate_callee (f := 24) rfl ?_); refine goesL_ (some 16) rfl rfl Try.func24 (by kernel_rfl) rfl #[.agg #[.int .i64 a0_0, .int .i64 a0_1, .int .i64 a0_2, .int .i64 a0_3, .int .i64 a0_4]] rfl (by (try simp only [List.map_toArray, List.map_cons, List.map_nil]); first | done | rfl | (simp only [List.length_drop, List.length_take]; rfl)) ?_; (with_reducible refine (chargeparkref13_Valid.calls a0_0 a0_1 a0_2 a0_3 a0_4 true _ A9.out).mono ?_); rintro e w41 ⟨rfl, hb⟩; refine ⟨_, rfl, ?_⟩; have n0_ := Aside0.mk (blk_below (g := gb195) (o := .cells #[.int .i64 a0_0, .int .i64 a0_1, .int .i64 a0_2, .int .i64 a0_3, .int .i64 a0_4] 23 (0, 0)) (by (with_reducible repeat (first | refine blk_drewN ?_ _ | refine blk_drew ?_ | refine blk_alloc ?_ _)); exact BK195.out) hb); have n1_ := Aside0.mk (blk_below (g := gb196) (o := .cells #[.slice A1_0 l1_0.length c1_0, .int .i64 a1_1, .int .i64 a1_2] 26 (0, 0)) (by (with_reducible repeat (first | refine blk_drewN ?_ _ | refine blk_drew ?_ | refine blk_alloc ?_ _)); exact BK196.out) hb); have n2_ := Aside0.mk (blk_below (g := gb197) (o := .cells #[.slice none 0 0, .int .i64 0, .int .i64 0] 26 (0, 0)) (by (with_reducible repeat (first | refine blk_drewN ?_ _ | refine blk_drew ?_ | refine blk_alloc ?_ _)); exact BK197.out) hb); have n3_ := Aside0.mk (below_step (by repeat (first | (with_reducible first | exact HB.out | apply below_alloc | apply pw_below_drewN | apply below_drew1 | refine below_set ?_ GE195.out | refine below_set ?_ GE196.out | refine below_set ?_ GE197.out) | exact HB.out)) hb); clear BK195; clear BK196; clear BK197; clear HB; have BK195 := n0_; have BK196 := n1_; have BK197 := n2_; have HB := n3_; clear n0_ n1_ n2_ n3_; (try clear hb); (try clear hb2); (try clear hk); (try clear hi); have hnb42 := NB196_197.out; have hnc42 := NB197_196.out; have hcz43_0 : w41.cell? ⟨gb196, 0, none⟩ = some (.slice A1_0 l1_0.length c1_0) := (blk_cell BK196.out 0).trans rfl; have hcz43_1 : w41.cell? ⟨gb196, 1, none⟩ = some (.int .i64 a1_1) := (blk_cell BK196.out 1).trans rfl; have hcz43_2 : w41.cell? ⟨gb196, 2, none⟩ = some (.int .i64 a1_2) := (blk_cell BK196.out 2).trans rfl; have hfz43_0 := blk_frozen BK196.out 0; have hfz43_1 := blk_frozen BK196.out 1; have hfz43_2 := blk_frozen BK196.out 2) | (go_at_call 25; (with_reducible refine (chargeparkref13_State.calls k _ _ l1_0 a1_1 a1_2 true _ ?side1 ?side2 A11.out).mono ?_); (case side1 => repeat (first | exact (Kd.C_below HR1_0.out HB.out) | (with_reducible refine Kd.C_alloc ?_ _) | (with_reducible refine Kd.C_drewN ?_ _) | (with_reducible refine Kd.C_drew ?_))); (case side2 => exact HC1_0.out); rintro e w44 ⟨rfl, hb⟩; have n0_ := Aside0.mk (blk_below (g := gb195) (o := .cells #[.int .i64 a0_0, .int .i64 a0_1, .int .i64 a0_2, .int .i64 a0_3, .int .i64 a0_4] 23 (0, 0)) (by (with_reducible repeat (first | refine blk_drewN ?_ _ | refine blk_drew ?_ | refine blk_alloc ?_ _)); exact BK195.out) hb); have n1_ := Aside0.mk (blk_below (g := gb196) (o := .cells #[.slice A1_0 l1_0.length c1_0, .int .i64 a1_1, .int .i64 a1_2] 26 (0, 0)) (by (with_reducible repeat (first | refine blk_drewN ?_ _ | refine blk_drew ?_ | refine blk_alloc ?_ _)); exact BK196.out) hb); have n2_ := Aside0.mk (blk_below (g := gb197) (o := .cells #[.slice none 0 0, .int .i64 0, .int .i64 0] 26 (0, 0)) (by (with_reducible repeat (first | refine blk_drewN ?_ _ | refine blk_drew ?_ | refine blk_alloc ?_ _)); exact BK197.out) hb); have n3_ := Aside0.mk (below_step (by repeat (first | (with_reducible first | exact HB.out | apply below_alloc | apply pw_below_drewN | apply below_drew1 | refine below_set ?_ GE195.out | refine below_set ?_ GE196.out | refine below_set ?_ GE197.out) | exact HB.out)) hb); clear BK195; clear BK196; clear BK197; clear HB; have BK195 := n0_; have BK196 := n1_; have BK197 := n2_; have HB := n3_; clear n0_ n1_ n2_ n3_; (try clear hb); (try clear hb2); (try clear hk); (try clear hi)))
        go_meet
        case rel => exact ⟨_, (true), (by first | rfl | (simp; done) | (simp [*]; done)), H', ⟨by first | omega | exact Nat.le_refl _⟩, ⟨by (with_reducible repeat (first | refine blk_drewN ?_ _ | refine blk_drew ?_ | refine blk_alloc ?_ _)); exact BK195.out⟩, ⟨by (with_reducible repeat (first | refine blk_drewN ?_ _ | refine blk_drew ?_ | refine blk_alloc ?_ _)); exact BK196.out⟩, ⟨by (with_reducible repeat (first | refine blk_drewN ?_ _ | refine blk_drew ?_ | refine blk_alloc ?_ _)); exact BK197.out⟩, ⟨by repeat (first | (with_reducible first | exact HB.out | apply below_alloc | apply pw_below_drewN | apply below_drew1 | refine below_set ?_ GE195.out | refine below_set ?_ GE196.out | refine below_set ?_ GE197.out) | exact HB.out)⟩⟩
       ·rw [if_neg c37] at H
        have c37b0 : decide (80 < a3) = false := decide_eq_false c37
        clear c37
        have H' := Aside0.mk H
        clear H
        have hnb45 := NB195_196.out
        have hnc45 := NB196_195.out
        have hnb46 := NB195_197.out
        have hnc46 := NB197_195.out
        have hcz47_0 : w8.cell? ⟨gb195, 0, none⟩ = some (.int .i64 a0_0) := (blk_cell BK195.out 0).trans rfl
        have hcz47_1 : w8.cell? ⟨gb195, 1, none⟩ = some (.int .i64 a0_1) := (blk_cell BK195.out 1).trans rfl
        have hcz47_2 : w8.cell? ⟨gb195, 2, none⟩ = some (.int .i64 a0_2) := (blk_cell BK195.out 2).trans rfl
        have hcz47_3 : w8.cell? ⟨gb195, 3, none⟩ = some (.int .i64 a0_3) := (blk_cell BK195.out 3).trans rfl
        have hcz47_4 : w8.cell? ⟨gb195, 4, none⟩ = some (.int .i64 a0_4) := (blk_cell BK195.out 4).trans rfl
        have hfz47_0 := blk_frozen BK195.out 0
        have hfz47_1 := blk_frozen BK195.out 1
        have hfz47_2 := blk_frozen BK195.out 2
        have hfz47_3 := blk_frozen BK195.out 3
        have hfz47_4 := blk_frozen BK195.out 4
        go_wp2_with (first | ((with_reducible refine gate_callee (f := 24) rfl ?_); refine goesL_ (some 16) rfl rfl Try.func24 (by kernel_rfl) rfl #[.agg #[.int .i64 a0_0, .int .i64 a0_1, .int .i64 a0_2, .int .i64 a0_3, .int .i64 a0_4]] rfl (by (try simp only [List.map_toArray, List.map_cons, List.map_nil]); first | done | rfl | (simp only [List.length_drop, List.length_take]; rfl)) ?_; (with_reducible refine (chargeparkref13_Valid.calls a0_0 a0_1 a0_2 a0_3 a0_4 true _ A9.out).mono ?_); rintro e w48 ⟨rfl, hb⟩; refine ⟨_, rfl, ?_⟩; have n0_ := Aside0.mk (blk_below (g := gb195) (o := .cells #[.int .i64 a0_0, .int .i64 a0_1, .int .i64 a0_2, .int .i64 a0_3, .int .i64 a0_4] 23 (0, 0)) (by (with_reducible repeat (first | refine blk_drewN ?_ _ | refine blk_drew ?_ | refine blk_alloc ?_ _)); exact BK195.out) hb); have n1_ := Aside0.mk (blk_below (g := gb196) (o := .cells #[.slice A1_0 l1_0.length c1_0, .int .i64 a1_1, .int .i64 a1_2] 26 (0, 0)) (by (with_reducible repeat (first | refine blk_drewN ?_ _ | refine blk_drew ?_ | refine blk_alloc ?_ _)); exact BK196.out) hb); have n2_ := Aside0.mk (blk_below (g := gb197) (o := .cells #[.slice none 0 0, .int .i64 0, .int .i64 0] 26 (0, 0)) (by (with_reducible repeat (first | refine blk_drewN ?_ _ | refine blk_drew ?_ | refine blk_alloc ?_ _)); exact BK197.out) hb); have n3_ := Aside0.mk (below_step (by repeat (first | (with_reducible first | exact HB.out | apply below_alloc | apply pw_below_drewN | apply below_drew1 | refine below_set ?_ GE195.out | refine below_set ?_ GE196.out | refine below_set ?_ GE197.out) | exact HB.out)) hb); clear BK195; clear BK196; clear BK197; clear HB; have BK195 := n0_; have BK196 := n1_; have BK197 := n2_; have HB := n3_; clear n0_ n1_ n2_ n3_; (try clear hb); (try clear hb2); (try clear hk); (try clear hi); have hnb49 := NB196_197.out; have hnc49 := NB197_196.out; have hcz50_0 : w48.cell? ⟨gb196, 0, none⟩ = some (.slice A1_0 l1_0.length c1_0) := (blk_cell BK196.out 0).trans rfl; have hcz50_1 : w48.cell? ⟨gb196, 1, none⟩ = some (.int .i64 a1_1) := (blk_cell BK196.out 1).trans rfl; have hcz50_2 : w48.cell? ⟨gb196, 2, none⟩ = some (.int .i64 a1_2) := (blk_cell BK196.out 2).trans rfl; have hfz50_0 := blk_frozen BK196.out 0; have hfz50_1 := blk_frozen BK196.out 1; have hfz50_2 := blk_frozen BK196.out 2) | (go_at_call 25; (with_reducible refine (chargeparkref13_State.calls k _ _ l1_0 a1_1 a1_2 true _ ?side1 ?side2 A11.out).mono ?_); (case side1 => repeat (first | exact (Kd.C_below HR1_0.out HB.out) | (with_reducible refine Kd.C_alloc ?_ _) | (with_reducible refine Kd.C_drewN ?_ _) | (with_reducible refine Kd.C_drew ?_))); (case side2 => exact HC1_0.out); rintro e w51 ⟨rfl, hb⟩; have n0_ := Aside0.mk (blk_below (g := gb195) (o := .cells #[.int .i64 a0_0, .int .i64 a0_1, .int .i64 a0_2, .int .i64 a0_3, .int .i64 a0_4] 23 (0, 0)) (by (with_reducible repeat (first | refine blk_drewN ?_ _ | refine blk_drew ?_ | refine blk_alloc ?_ _)); exact BK195.out) hb); have n1_ := Aside0.mk (blk_below (g := gb196) (o := .cells #[.slice A1_0 l1_0.length c1_0, .int .i64 a1_1, .int .i64 a1_2] 26 (0, 0)) (by (with_reducible repeat (first | refine blk_drewN ?_ _ | refine blk_drew ?_ | refine blk_alloc ?_ _)); exact BK196.out) hb); have n2_ := Aside0.mk (blk_below (g := gb197) (o := .cells #[.slice none 0 0, .int .i64 0, .int .i64 0] 26 (0, 0)) (by (with_reducible repeat (first | refine blk_drewN ?_ _ | refine blk_drew ?_ | refine blk_alloc ?_ _)); exact BK197.out) hb); have n3_ := Aside0.mk (below_step (by repeat (first | (with_reducible first | exact HB.out | apply below_alloc | apply pw_below_drewN | apply below_drew1 | refine below_set ?_ GE195.out | refine below_set ?_ GE196.out | refine below_set ?_ GE197.out) | exact HB.out)) hb); clear BK195; clear BK196; clear BK197; clear HB; have BK195 := n0_; have BK196 := n1_; have BK197 := n2_; have HB := n3_; clear n0_ n1_ n2_ n3_; (try clear hb); (try clear hb2); (try clear hk); (try clear hi); have hcz52_0 : w51.cell? ⟨gb196, 0, none⟩ = some (.slice A1_0 l1_0.length c1_0) := (blk_cell BK196.out 0).trans rfl; have hcz52_1 : w51.cell? ⟨gb196, 1, none⟩ = some (.int .i64 a1_1) := (blk_cell BK196.out 1).trans rfl; have hcz52_2 : w51.cell? ⟨gb196, 2, none⟩ = some (.int .i64 a1_2) := (blk_cell BK196.out 2).trans rfl; have hfz52_0 := blk_frozen BK196.out 0; have hfz52_1 := blk_frozen BK196.out 1; have hfz52_2 := blk_frozen BK196.out 2))
        go_meet
        case rel => exact ⟨_, ((a1_1 == 1000000)), (by first | rfl | (simp; done) | (simp [*]; done)), H', ⟨by first | omega | exact Nat.le_refl _⟩, ⟨by (with_reducible repeat (first | refine blk_drewN ?_ _ | refine blk_drew ?_ | refine blk_alloc ?_ _)); exact BK195.out⟩, ⟨by (with_reducible repeat (first | refine blk_drewN ?_ _ | refine blk_drew ?_ | refine blk_alloc ?_ _)); exact BK196.out⟩, ⟨by (with_reducible repeat (first | refine blk_drewN ?_ _ | refine blk_drew ?_ | refine blk_alloc ?_ _)); exact BK197.out⟩, ⟨by repeat (first | (with_reducible first | exact HB.out | apply below_alloc | apply pw_below_drewN | apply below_drew1 | refine below_set ?_ GE195.out | refine below_set ?_ GE196.out | refine below_set ?_ GE197.out) | exact HB.out)⟩⟩
   ·replace c12 := Bool.eq_false_iff.mpr c12
    subst c12
    have H1 : (chargeparkref13_Draw.j0 k a2 a3 true a0_0 a0_1 a0_2 a0_3 a0_4 l1_0 a1_1 a1_2) = some (r1, r2, r3, r4, r5, r6) := by rw [if_neg (show ¬ (false = true) by decide)] at H; exact H
    clear H
    have H := H1
    clear H1
    have H' := Aside0.mk H
    clear H
    have hnb53 := NB195_196.out
    have hnc53 := NB196_195.out
    have hnb54 := NB195_197.out
    have hnc54 := NB197_195.out
    have hcz55_0 : w8.cell? ⟨gb195, 0, none⟩ = some (.int .i64 a0_0) := (blk_cell BK195.out 0).trans rfl
    have hcz55_1 : w8.cell? ⟨gb195, 1, none⟩ = some (.int .i64 a0_1) := (blk_cell BK195.out 1).trans rfl
    have hcz55_2 : w8.cell? ⟨gb195, 2, none⟩ = some (.int .i64 a0_2) := (blk_cell BK195.out 2).trans rfl
    have hcz55_3 : w8.cell? ⟨gb195, 3, none⟩ = some (.int .i64 a0_3) := (blk_cell BK195.out 3).trans rfl
    have hcz55_4 : w8.cell? ⟨gb195, 4, none⟩ = some (.int .i64 a0_4) := (blk_cell BK195.out 4).trans rfl
    have hfz55_0 := blk_frozen BK195.out 0
    have hfz55_1 := blk_frozen BK195.out 1
    have hfz55_2 := blk_frozen BK195.out 2
    have hfz55_3 := blk_frozen BK195.out 3
    have hfz55_4 := blk_frozen BK195.out 4
    go_wp2_with (first | ((with_reducible refine gate_callee (f := 24) rfl ?_); refine goesL_ (some 16) rfl rfl Try.func24 (by kernel_rfl) rfl #[.agg #[.int .i64 a0_0, .int .i64 a0_1, .int .i64 a0_2, .int .i64 a0_3, .int .i64 a0_4]] rfl (by (try simp only [List.map_toArray, List.map_cons, List.map_nil]); first | done | rfl | (simp only [List.length_drop, List.length_take]; rfl)) ?_; (with_reducible refine (chargeparkref13_Valid.calls a0_0 a0_1 a0_2 a0_3 a0_4 true _ A9.out).mono ?_); rintro e w56 ⟨rfl, hb⟩; refine ⟨_, rfl, ?_⟩; have n0_ := Aside0.mk (blk_below (g := gb195) (o := .cells #[.int .i64 a0_0, .int .i64 a0_1, .int .i64 a0_2, .int .i64 a0_3, .int .i64 a0_4] 23 (0, 0)) (by (with_reducible repeat (first | refine blk_drewN ?_ _ | refine blk_drew ?_ | refine blk_alloc ?_ _)); exact BK195.out) hb); have n1_ := Aside0.mk (blk_below (g := gb196) (o := .cells #[.slice A1_0 l1_0.length c1_0, .int .i64 a1_1, .int .i64 a1_2] 26 (0, 0)) (by (with_reducible repeat (first | refine blk_drewN ?_ _ | refine blk_drew ?_ | refine blk_alloc ?_ _)); exact BK196.out) hb); have n2_ := Aside0.mk (blk_below (g := gb197) (o := .cells #[.slice none 0 0, .int .i64 0, .int .i64 0] 26 (0, 0)) (by (with_reducible repeat (first | refine blk_drewN ?_ _ | refine blk_drew ?_ | refine blk_alloc ?_ _)); exact BK197.out) hb); have n3_ := Aside0.mk (below_step (by repeat (first | (with_reducible first | exact HB.out | apply below_alloc | apply pw_below_drewN | apply below_drew1 | refine below_set ?_ GE195.out | refine below_set ?_ GE196.out | refine below_set ?_ GE197.out) | exact HB.out)) hb); clear BK195; clear BK196; clear BK197; clear HB; have BK195 := n0_; have BK196 := n1_; have BK197 := n2_; have HB := n3_; clear n0_ n1_ n2_ n3_; (try clear hb); (try clear hb2); (try clear hk); (try clear hi); have hnb57 := NB196_197.out; have hnc57 := NB197_196.out; have hcz58_0 : w56.cell? ⟨gb196, 0, none⟩ = some (.slice A1_0 l1_0.length c1_0) := (blk_cell BK196.out 0).trans rfl; have hcz58_1 : w56.cell? ⟨gb196, 1, none⟩ = some (.int .i64 a1_1) := (blk_cell BK196.out 1).trans rfl; have hcz58_2 : w56.cell? ⟨gb196, 2, none⟩ = some (.int .i64 a1_2) := (blk_cell BK196.out 2).trans rfl; have hfz58_0 := blk_frozen BK196.out 0; have hfz58_1 := blk_frozen BK196.out 1; have hfz58_2 := blk_frozen BK196.out 2) | (go_at_call 25; (with_reducible refine (chargeparkref13_State.calls k _ _ l1_0 a1_1 a1_2 false _ ?side1 ?side2 A11.out).mono ?_); (case side1 => repeat (first | exact (Kd.C_below HR1_0.out HB.out) | (with_reducible refine Kd.C_alloc ?_ _) | (with_reducible refine Kd.C_drewN ?_ _) | (with_reducible refine Kd.C_drew ?_))); (case side2 => exact HC1_0.out); rintro e w59 ⟨rfl, hb⟩; have n0_ := Aside0.mk (blk_below (g := gb195) (o := .cells #[.int .i64 a0_0, .int .i64 a0_1, .int .i64 a0_2, .int .i64 a0_3, .int .i64 a0_4] 23 (0, 0)) (by (with_reducible repeat (first | refine blk_drewN ?_ _ | refine blk_drew ?_ | refine blk_alloc ?_ _)); exact BK195.out) hb); have n1_ := Aside0.mk (blk_below (g := gb196) (o := .cells #[.slice A1_0 l1_0.length c1_0, .int .i64 a1_1, .int .i64 a1_2] 26 (0, 0)) (by (with_reducible repeat (first | refine blk_drewN ?_ _ | refine blk_drew ?_ | refine blk_alloc ?_ _)); exact BK196.out) hb); have n2_ := Aside0.mk (blk_below (g := gb197) (o := .cells #[.slice none 0 0, .int .i64 0, .int .i64 0] 26 (0, 0)) (by (with_reducible repeat (first | refine blk_drewN ?_ _ | refine blk_drew ?_ | refine blk_alloc ?_ _)); exact BK197.out) hb); have n3_ := Aside0.mk (below_step (by repeat (first | (with_reducible first | exact HB.out | apply below_alloc | apply pw_below_drewN | apply below_drew1 | refine below_set ?_ GE195.out | refine below_set ?_ GE196.out | refine below_set ?_ GE197.out) | exact HB.out)) hb); clear BK195; clear BK196; clear BK197; clear HB; have BK195 := n0_; have BK196 := n1_; have BK197 := n2_; have HB := n3_; clear n0_ n1_ n2_ n3_; (try clear hb); (try clear hb2); (try clear hk); (try clear hi)))
    go_meet
    case rel => exact ⟨_, (true), (by first | rfl | (simp; done) | (simp [*]; done)), H', ⟨by first | omega | exact Nat.le_refl _⟩, ⟨by (with_reducible repeat (first | refine blk_drewN ?_ _ | refine blk_drew ?_ | refine blk_alloc ?_ _)); exact BK195.out⟩, ⟨by (with_reducible repeat (first | refine blk_drewN ?_ _ | refine blk_drew ?_ | refine blk_alloc ?_ _)); exact BK196.out⟩, ⟨by (with_reducible repeat (first | refine blk_drewN ?_ _ | refine blk_drew ?_ | refine blk_alloc ?_ _)); exact BK197.out⟩, ⟨by repeat (first | (with_reducible first | exact HB.out | apply below_alloc | apply pw_below_drewN | apply below_drew1 | refine below_set ?_ GE195.out | refine below_set ?_ GE196.out | refine below_set ?_ GE197.out) | exact HB.out)⟩⟩
  ·replace c10 := Bool.eq_false_iff.mpr c10
   subst c10
   have H1 : (chargeparkref13_Draw.j0 k a2 a3 true a0_0 a0_1 a0_2 a0_3 a0_4 l1_0 a1_1 a1_2) = some (r1, r2, r3, r4, r5, r6) := by rw [if_neg (show ¬ (false = true) by decide)] at H; exact H
   clear H
   have H := H1
   clear H1
   have H' := Aside0.mk H
   clear H
   have hnb60 := NB195_196.out
   have hnc60 := NB196_195.out
   have hnb61 := NB195_197.out
   have hnc61 := NB197_195.out
   have hcz62_0 : w8.cell? ⟨gb195, 0, none⟩ = some (.int .i64 a0_0) := (blk_cell BK195.out 0).trans rfl
   have hcz62_1 : w8.cell? ⟨gb195, 1, none⟩ = some (.int .i64 a0_1) := (blk_cell BK195.out 1).trans rfl
   have hcz62_2 : w8.cell? ⟨gb195, 2, none⟩ = some (.int .i64 a0_2) := (blk_cell BK195.out 2).trans rfl
   have hcz62_3 : w8.cell? ⟨gb195, 3, none⟩ = some (.int .i64 a0_3) := (blk_cell BK195.out 3).trans rfl
   have hcz62_4 : w8.cell? ⟨gb195, 4, none⟩ = some (.int .i64 a0_4) := (blk_cell BK195.out 4).trans rfl
   have hfz62_0 := blk_frozen BK195.out 0
   have hfz62_1 := blk_frozen BK195.out 1
   have hfz62_2 := blk_frozen BK195.out 2
   have hfz62_3 := blk_frozen BK195.out 3
   have hfz62_4 := blk_frozen BK195.out 4
   go_wp2_with (first | ((with_reducible refine gate_callee (f := 24) rfl ?_); refine goesL_ (some 16) rfl rfl Try.func24 (by kernel_rfl) rfl #[.agg #[.int .i64 a0_0, .int .i64 a0_1, .int .i64 a0_2, .int .i64 a0_3, .int .i64 a0_4]] rfl (by (try simp only [List.map_toArray, List.map_cons, List.map_nil]); first | done | rfl | (simp only [List.length_drop, List.length_take]; rfl)) ?_; (with_reducible refine (chargeparkref13_Valid.calls a0_0 a0_1 a0_2 a0_3 a0_4 false _ A9.out).mono ?_); rintro e w63 ⟨rfl, hb⟩; refine ⟨_, rfl, ?_⟩; have n0_ := Aside0.mk (blk_below (g := gb195) (o := .cells #[.int .i64 a0_0, .int .i64 a0_1, .int .i64 a0_2, .int .i64 a0_3, .int .i64 a0_4] 23 (0, 0)) (by (with_reducible repeat (first | refine blk_drewN ?_ _ | refine blk_drew ?_ | refine blk_alloc ?_ _)); exact BK195.out) hb); have n1_ := Aside0.mk (blk_below (g := gb196) (o := .cells #[.slice A1_0 l1_0.length c1_0, .int .i64 a1_1, .int .i64 a1_2] 26 (0, 0)) (by (with_reducible repeat (first | refine blk_drewN ?_ _ | refine blk_drew ?_ | refine blk_alloc ?_ _)); exact BK196.out) hb); have n2_ := Aside0.mk (blk_below (g := gb197) (o := .cells #[.slice none 0 0, .int .i64 0, .int .i64 0] 26 (0, 0)) (by (with_reducible repeat (first | refine blk_drewN ?_ _ | refine blk_drew ?_ | refine blk_alloc ?_ _)); exact BK197.out) hb); have n3_ := Aside0.mk (below_step (by repeat (first | (with_reducible first | exact HB.out | apply below_alloc | apply pw_below_drewN | apply below_drew1 | refine below_set ?_ GE195.out | refine below_set ?_ GE196.out | refine below_set ?_ GE197.out) | exact HB.out)) hb); clear BK195; clear BK196; clear BK197; clear HB; have BK195 := n0_; have BK196 := n1_; have BK197 := n2_; have HB := n3_; clear n0_ n1_ n2_ n3_; (try clear hb); (try clear hb2); (try clear hk); (try clear hi)))
   go_meet
   case rel => exact ⟨_, (true), (by first | rfl | (simp; done) | (simp [*]; done)), H', ⟨by first | omega | exact Nat.le_refl _⟩, ⟨by (with_reducible repeat (first | refine blk_drewN ?_ _ | refine blk_drew ?_ | refine blk_alloc ?_ _)); exact BK195.out⟩, ⟨by (with_reducible repeat (first | refine blk_drewN ?_ _ | refine blk_drew ?_ | refine blk_alloc ?_ _)); exact BK196.out⟩, ⟨by (with_reducible repeat (first | refine blk_drewN ?_ _ | refine blk_drew ?_ | refine blk_alloc ?_ _)); exact BK197.out⟩, ⟨by repeat (first | (with_reducible first | exact HB.out | apply below_alloc | apply pw_below_drewN | apply below_drew1 | refine below_set ?_ GE195.out | refine below_set ?_ GE196.out | refine below_set ?_ GE197.out) | exact HB.out)⟩⟩
 case rest =>
  clear HC5
  try clear c1
  try clear c2
  try clear p2
  try clear c3
  try clear c4
  try clear c5
  try clear c6
  try clear c10
  try clear c12
  try clear c13
  try clear c13b0
  try clear c14
  try clear c15
  try clear c18
  try clear c21
  try clear c21b0
  try clear c22
  try clear c23
  try clear c24
  try clear c26
  try clear c29
  try clear c29b0
  try clear c30
  try clear c31
  try clear c34
  try clear c37
  try clear c37b0
  try clear c38
  try clear c39
  try clear c42
  try clear c45
  try clear c46
  try clear c49
  try clear c53
  try clear c54
  try clear c57
  try clear c60
  try clear c61
  try clear hcz16_0
  try clear hcz16_1
  try clear hcz16_2
  try clear hcz16_3
  try clear hcz16_4
  try clear hcz19_0
  try clear hcz19_1
  try clear hcz19_2
  try clear hcz24_0
  try clear hcz24_1
  try clear hcz24_2
  try clear hcz24_3
  try clear hcz24_4
  try clear hcz27_0
  try clear hcz27_1
  try clear hcz27_2
  try clear hcz32_0
  try clear hcz32_1
  try clear hcz32_2
  try clear hcz32_3
  try clear hcz32_4
  try clear hcz35_0
  try clear hcz35_1
  try clear hcz35_2
  try clear hcz40_0
  try clear hcz40_1
  try clear hcz40_2
  try clear hcz40_3
  try clear hcz40_4
  try clear hcz43_0
  try clear hcz43_1
  try clear hcz43_2
  try clear hcz47_0
  try clear hcz47_1
  try clear hcz47_2
  try clear hcz47_3
  try clear hcz47_4
  try clear hcz50_0
  try clear hcz50_1
  try clear hcz50_2
  try clear hcz52_0
  try clear hcz52_1
  try clear hcz52_2
  try clear hcz55_0
  try clear hcz55_1
  try clear hcz55_2
  try clear hcz55_3
  try clear hcz55_4
  try clear hcz58_0
  try clear hcz58_1
  try clear hcz58_2
  try clear hcz62_0
  try clear hcz62_1
  try clear hcz62_2
  try clear hcz62_3
  try clear hcz62_4
  try clear hfz16_0
  try clear hfz16_1
  try clear hfz16_2
  try clear hfz16_3
  try clear hfz16_4
  try clear hfz19_0
  try clear hfz19_1
  try clear hfz19_2
  try clear hfz24_0
  try clear hfz24_1
  try clear hfz24_2
  try clear hfz24_3
  try clear hfz24_4
  try clear hfz27_0
  try clear hfz27_1
  try clear hfz27_2
  try clear hfz32_0
  try clear hfz32_1
  try clear hfz32_2
  try clear hfz32_3
  try clear hfz32_4
  try clear hfz35_0
  try clear hfz35_1
  try clear hfz35_2
  try clear hfz40_0
  try clear hfz40_1
  try clear hfz40_2
  try clear hfz40_3
  try clear hfz40_4
  try clear hfz43_0
  try clear hfz43_1
  try clear hfz43_2
  try clear hfz47_0
  try clear hfz47_1
  try clear hfz47_2
  try clear hfz47_3
  try clear hfz47_4
  try clear hfz50_0
  try clear hfz50_1
  try clear hfz50_2
  try clear hfz52_0
  try clear hfz52_1
  try clear hfz52_2
  try clear hfz55_0
  try clear hfz55_1
  try clear hfz55_2
  try clear hfz55_3
  try clear hfz55_4
  try clear hfz58_0
  try clear hfz58_1
  try clear hfz58_2
  try clear hfz62_0
  try clear hfz62_1
  try clear hfz62_2
  try clear hfz62_3
  try clear hfz62_4
  obtain ⟨kq, x43_4, rfl, HA, HJ4, BK195, BK196, BK197, HB⟩ := hcut
  cases kq with
  | zero => exact absurd HA.out (by simp [chargeparkref13_Draw.j0])
  | succ kj4 =>
   have H := HA.out
   clear HA
   simp only [chargeparkref13_Draw.j0] at H
   by_cases c64 : x43_4 = true
   ·subst c64
    have H1 : (some (0, 0, ([] : List Int), 0, 0, 1)) = some (r1, r2, r3, r4, r5, r6) := by rw [if_pos rfl] at H; exact H
    clear H
    have H := H1
    clear H1
    simp only [Option.some.injEq, Prod.mk.injEq] at H
    obtain ⟨rfl, rfl, rfl, rfl, rfl, rfl⟩ := H
    have hnb65 := NB197_195.out
    have hnc65 := NB195_197.out
    have hnb66 := NB197_196.out
    have hnc66 := NB196_197.out
    have hcz67_0 : wc.cell? ⟨gb197, 0, none⟩ = some (.slice none 0 0) := (blk_cell BK197.out 0).trans rfl
    have hcz67_1 : wc.cell? ⟨gb197, 1, none⟩ = some (.int .i64 0) := (blk_cell BK197.out 1).trans rfl
    have hcz67_2 : wc.cell? ⟨gb197, 2, none⟩ = some (.int .i64 0) := (blk_cell BK197.out 2).trans rfl
    have hfz67_0 := blk_frozen BK197.out 0
    have hfz67_1 := blk_frozen BK197.out 1
    have hfz67_2 := blk_frozen BK197.out 2
    go_wp2
    refine bodyPost_ret (results_list (rs := [.tmp 8, .tmp 9, .cell 10 26, .tmp 11]) rfl (by simp) (.tmp (.tmp (.cell gb197 26 #[.slice none 0 0, .int .i64 0, .int .i64 0] (0, 0) _ rfl (by (with_reducible repeat (first | refine blk_drewN ?_ _ | refine blk_drew ?_ | refine blk_alloc ?_ _)); refine blk_put (cs := #[.slice none 0 0, .int .i64 0, .int .i64 0]) ?_ 2 _ rfl; (with_reducible repeat (first | refine blk_drewN ?_ _ | refine blk_drew ?_ | refine blk_alloc ?_ _)); refine blk_put (cs := #[.slice none 0 0, .int .i64 0, .int .i64 0]) ?_ 1 _ rfl; (with_reducible repeat (first | refine blk_drewN ?_ _ | refine blk_drew ?_ | refine blk_alloc ?_ _)); refine blk_put (cs := #[.slice none 0 0, .int .i64 0, .int .i64 0]) ?_ 0 _ rfl; (with_reducible repeat (first | refine blk_drewN ?_ _ | refine blk_drew ?_ | refine blk_alloc ?_ _)); exact BK197.out) Try.underlying26 rfl (by kernel_rfl) (.tmp .nil))))) rfl ?_
    exact ⟨_, by first | rfl | (simp [errW_none, errW_some] <;> rfl) | (simp [*, errW_none, errW_some] <;> rfl), Kd.Q_of_R (by first | exact Kd.R_nil _ _ _ _ _ | exact Kd.N_nil _ _ _ _ _ | exact Kd.V_nil _ _ _ _ _ | exact Kd.Q_nil _ _ _ _ _ | exact Kd.S_nil _ _ _ _ _), by repeat (first | (with_reducible first | exact HB.out | apply below_alloc | apply pw_below_drewN | apply below_drew1 | refine below_set ?_ GE195.out | refine below_set ?_ GE196.out | refine below_set ?_ GE197.out) | exact HB.out)⟩
   ·replace c64 := Bool.eq_false_iff.mpr c64
    subst c64
    have H1 : ((chargeparkref13_common.f kj4 a0_0 a0_1 a0_2 a0_3 a0_4 a2).bind fun t200 => (if t200 > 0 then (chargeparkref13_Draw.j1 kj4 a3 t200 0 (decide (a1_2 < a0_3)) a0_0 a0_1 a0_2 a0_3 a0_4 l1_0 a1_1 a1_2) else (chargeparkref13_Draw.j1 kj4 a3 t200 0 false a0_0 a0_1 a0_2 a0_3 a0_4 l1_0 a1_1 a1_2))) = some (r1, r2, r3, r4, r5, r6) := by rw [if_neg (show ¬ (false = true) by decide)] at H; exact H
    clear H
    have H := H1
    clear H1
    replace H := Option.bind_eq_some_iff.mp H
    obtain ⟨t200, A680, H⟩ := H
    replace H : (if t200 > 0 then (chargeparkref13_Draw.j1 kj4 a3 t200 0 (decide (a1_2 < a0_3)) a0_0 a0_1 a0_2 a0_3 a0_4 l1_0 a1_1 a1_2) else (chargeparkref13_Draw.j1 kj4 a3 t200 0 false a0_0 a0_1 a0_2 a0_3 a0_4 l1_0 a1_1 a1_2)) = some (r1, r2, r3, r4, r5, r6) := H
    have A68 := Aside0.mk A680
    clear A680
    have HC69 := Aside0.mk H
    clear H
    have hnb70 := NB195_196.out
    have hnc70 := NB196_195.out
    have hnb71 := NB195_197.out
    have hnc71 := NB197_195.out
    have hcz72_0 : wc.cell? ⟨gb195, 0, none⟩ = some (.int .i64 a0_0) := (blk_cell BK195.out 0).trans rfl
    have hcz72_1 : wc.cell? ⟨gb195, 1, none⟩ = some (.int .i64 a0_1) := (blk_cell BK195.out 1).trans rfl
    have hcz72_2 : wc.cell? ⟨gb195, 2, none⟩ = some (.int .i64 a0_2) := (blk_cell BK195.out 2).trans rfl
    have hcz72_3 : wc.cell? ⟨gb195, 3, none⟩ = some (.int .i64 a0_3) := (blk_cell BK195.out 3).trans rfl
    have hcz72_4 : wc.cell? ⟨gb195, 4, none⟩ = some (.int .i64 a0_4) := (blk_cell BK195.out 4).trans rfl
    have hfz72_0 := blk_frozen BK195.out 0
    have hfz72_1 := blk_frozen BK195.out 1
    have hfz72_2 := blk_frozen BK195.out 2
    have hfz72_3 := blk_frozen BK195.out 3
    have hfz72_4 := blk_frozen BK195.out 4
    go_upto_region 5 with (first | ((with_reducible refine gate_callee (f := 26) rfl ?_); refine goesL_ (some 47) rfl rfl Try.func26 (by kernel_rfl) rfl #[.agg #[.int .i64 a0_0, .int .i64 a0_1, .int .i64 a0_2, .int .i64 a0_3, .int .i64 a0_4], .int .i64 a2] rfl (by (try simp only [List.map_toArray, List.map_cons, List.map_nil]); first | done | rfl | (simp only [List.length_drop, List.length_take]; rfl)) ?_; (with_reducible refine (chargeparkref13_common.calls kj4 a0_0 a0_1 a0_2 a0_3 a0_4 a2 t200 _ A68.out).mono ?_); rintro e w73 ⟨rfl, hb⟩; refine ⟨_, rfl, ?_⟩; have n0_ := Aside0.mk (blk_below (g := gb195) (o := .cells #[.int .i64 a0_0, .int .i64 a0_1, .int .i64 a0_2, .int .i64 a0_3, .int .i64 a0_4] 23 (0, 0)) (by (with_reducible repeat (first | refine blk_drewN ?_ _ | refine blk_drew ?_ | refine blk_alloc ?_ _)); exact BK195.out) hb); have n1_ := Aside0.mk (blk_below (g := gb196) (o := .cells #[.slice A1_0 l1_0.length c1_0, .int .i64 a1_1, .int .i64 a1_2] 26 (0, 0)) (by (with_reducible repeat (first | refine blk_drewN ?_ _ | refine blk_drew ?_ | refine blk_alloc ?_ _)); exact BK196.out) hb); have n2_ := Aside0.mk (blk_below (g := gb197) (o := .cells #[.slice none 0 0, .int .i64 0, .int .i64 0] 26 (0, 0)) (by (with_reducible repeat (first | refine blk_drewN ?_ _ | refine blk_drew ?_ | refine blk_alloc ?_ _)); exact BK197.out) hb); have n3_ := Aside0.mk (below_step (by repeat (first | (with_reducible first | exact HB.out | apply below_alloc | apply pw_below_drewN | apply below_drew1 | refine below_set ?_ GE195.out | refine below_set ?_ GE196.out | refine below_set ?_ GE197.out) | exact HB.out)) hb); clear BK195; clear BK196; clear BK197; clear HB; have BK195 := n0_; have BK196 := n1_; have BK197 := n2_; have HB := n3_; clear n0_ n1_ n2_ n3_; (try clear hb); (try clear hb2); (try clear hk); (try clear hi)))
    (try simp only [Act.put, List.setIfInBounds_toArray, List.set_cons_zero, List.set_cons_succ])
    go_cut [56] (fun v56 wc => ∃ (kq : Nat) (x56_68 : Bool), v56 = .bool x56_68 ∧ Aside0 (chargeparkref13_Draw.j1 kq a3 t200 0 x56_68 a0_0 a0_1 a0_2 a0_3 a0_4 l1_0 a1_1 a1_2 = some (r1, r2, r3, r4, r5, r6)) ∧ Aside0 (kq ≤ kj4) ∧ Aside0 (wc.heap[gb195]? = some (.cells #[.int .i64 a0_0, .int .i64 a0_1, .int .i64 a0_2, .int .i64 a0_3, .int .i64 a0_4] 23 (0, 0))) ∧ Aside0 (wc.heap[gb196]? = some (.cells #[(.slice A1_0 l1_0.length c1_0), .int .i64 a1_1, .int .i64 a1_2] 26 (0, 0))) ∧ Aside0 (wc.heap[gb197]? = some (.cells #[(.slice none 0 0), .int .i64 0, .int .i64 0] 26 (0, 0))) ∧ Aside0 (Below w.heap.size w wc))
    case first =>
     have H := HC69.out
     clear HC69
     by_cases c74 : t200 > 0
     ·rw [if_pos c74] at H
      have c74b0 : decide (0 < t200) = true := decide_eq_true c74
      clear c74
      (first | rw [c74b0] | (simp only [i64_w, i32_w]; rw [c74b0]) | skip)
      have H' := Aside0.mk H
      clear H
      have hnb75 := NB196_195.out
      have hnc75 := NB195_196.out
      have hnb76 := NB196_197.out
      have hnc76 := NB197_196.out
      have hcz77_0 : w73.cell? ⟨gb196, 0, none⟩ = some (.slice A1_0 l1_0.length c1_0) := (blk_cell BK196.out 0).trans rfl
      have hcz77_1 : w73.cell? ⟨gb196, 1, none⟩ = some (.int .i64 a1_1) := (blk_cell BK196.out 1).trans rfl
      have hcz77_2 : w73.cell? ⟨gb196, 2, none⟩ = some (.int .i64 a1_2) := (blk_cell BK196.out 2).trans rfl
      have hfz77_0 := blk_frozen BK196.out 0
      have hfz77_1 := blk_frozen BK196.out 1
      have hfz77_2 := blk_frozen BK196.out 2
      have hnb78 := NB195_197.out
      have hnc78 := NB197_195.out
      have hcz79_0 : w73.cell? ⟨gb195, 0, none⟩ = some (.int .i64 a0_0) := (blk_cell BK195.out 0).trans rfl
      have hcz79_1 : w73.cell? ⟨gb195, 1, none⟩ = some (.int .i64 a0_1) := (blk_cell BK195.out 1).trans rfl
      have hcz79_2 : w73.cell? ⟨gb195, 2, none⟩ = some (.int .i64 a0_2) := (blk_cell BK195.out 2).trans rfl
      have hcz79_3 : w73.cell? ⟨gb195, 3, none⟩ = some (.int .i64 a0_3) := (blk_cell BK195.out 3).trans rfl
      have hcz79_4 : w73.cell? ⟨gb195, 4, none⟩ = some (.int .i64 a0_4) := (blk_cell BK195.out 4).trans rfl
      have hfz79_0 := blk_frozen BK195.out 0
      have hfz79_1 := blk_frozen BK195.out 1
      have hfz79_2 := blk_frozen BK195.out 2
      have hfz79_3 := blk_frozen BK195.out 3
      have hfz79_4 := blk_frozen BK195.out 4
      go_wp2
      go_meet
      case rel => exact ⟨_, (decide (a1_2 < a0_3)), (by first | rfl | (simp; done) | (simp [*]; done)), H', ⟨by have := HJ4.out; first | omega | exact Nat.le_refl _⟩, ⟨by (with_reducible repeat (first | refine blk_drewN ?_ _ | refine blk_drew ?_ | refine blk_alloc ?_ _)); exact BK195.out⟩, ⟨by (with_reducible repeat (first | refine blk_drewN ?_ _ | refine blk_drew ?_ | refine blk_alloc ?_ _)); exact BK196.out⟩, ⟨by (with_reducible repeat (first | refine blk_drewN ?_ _ | refine blk_drew ?_ | refine blk_alloc ?_ _)); exact BK197.out⟩, ⟨by repeat (first | (with_reducible first | exact HB.out | apply below_alloc | apply pw_below_drewN | apply below_drew1 | refine below_set ?_ GE195.out | refine below_set ?_ GE196.out | refine below_set ?_ GE197.out) | exact HB.out)⟩⟩
     ·rw [if_neg c74] at H
      have c74b0 : decide (0 < t200) = false := decide_eq_false c74
      clear c74
      (first | rw [c74b0] | (simp only [i64_w, i32_w]; rw [c74b0]) | skip)
      have H' := Aside0.mk H
      clear H
      go_wp2
      go_meet
      case rel => exact ⟨_, (false), (by first | rfl | (simp; done) | (simp [*]; done)), H', ⟨by have := HJ4.out; first | omega | exact Nat.le_refl _⟩, ⟨by (with_reducible repeat (first | refine blk_drewN ?_ _ | refine blk_drew ?_ | refine blk_alloc ?_ _)); exact BK195.out⟩, ⟨by (with_reducible repeat (first | refine blk_drewN ?_ _ | refine blk_drew ?_ | refine blk_alloc ?_ _)); exact BK196.out⟩, ⟨by (with_reducible repeat (first | refine blk_drewN ?_ _ | refine blk_drew ?_ | refine blk_alloc ?_ _)); exact BK197.out⟩, ⟨by repeat (first | (with_reducible first | exact HB.out | apply below_alloc | apply pw_below_drewN | apply below_drew1 | refine below_set ?_ GE195.out | refine below_set ?_ GE196.out | refine below_set ?_ GE197.out) | exact HB.out)⟩⟩
    case rest =>
     clear HC69
     try clear c1
     try clear c2
     try clear p2
     try clear c3
     try clear c4
     try clear c5
     try clear c6
     try clear c7
     try clear c10
     try clear c12
     try clear c13
     try clear c13b0
     try clear c14
     try clear c15
     try clear c18
     try clear c21
     try clear c21b0
     try clear c22
     try clear c23
     try clear c24
     try clear c26
     try clear c29
     try clear c29b0
     try clear c30
     try clear c31
     try clear c34
     try clear c37
     try clear c37b0
     try clear c38
     try clear c39
     try clear c42
     try clear c45
     try clear c46
     try clear c49
     try clear c53
     try clear c54
     try clear c57
     try clear c60
     try clear c61
     try clear c64
     try clear c65
     try clear c66
     try clear c70
     try clear c71
     try clear c74
     try clear c74b0
     try clear c75
     try clear c76
     try clear c78
     try clear hcz16_0
     try clear hcz16_1
     try clear hcz16_2
     try clear hcz16_3
     try clear hcz16_4
     try clear hcz19_0
     try clear hcz19_1
     try clear hcz19_2
     try clear hcz24_0
     try clear hcz24_1
     try clear hcz24_2
     try clear hcz24_3
     try clear hcz24_4
     try clear hcz27_0
     try clear hcz27_1
     try clear hcz27_2
     try clear hcz32_0
     try clear hcz32_1
     try clear hcz32_2
     try clear hcz32_3
     try clear hcz32_4
     try clear hcz35_0
     try clear hcz35_1
     try clear hcz35_2
     try clear hcz40_0
     try clear hcz40_1
     try clear hcz40_2
     try clear hcz40_3
     try clear hcz40_4
     try clear hcz43_0
     try clear hcz43_1
     try clear hcz43_2
     try clear hcz47_0
     try clear hcz47_1
     try clear hcz47_2
     try clear hcz47_3
     try clear hcz47_4
     try clear hcz50_0
     try clear hcz50_1
     try clear hcz50_2
     try clear hcz52_0
     try clear hcz52_1
     try clear hcz52_2
     try clear hcz55_0
     try clear hcz55_1
     try clear hcz55_2
     try clear hcz55_3
     try clear hcz55_4
     try clear hcz58_0
     try clear hcz58_1
     try clear hcz58_2
     try clear hcz62_0
     try clear hcz62_1
     try clear hcz62_2
     try clear hcz62_3
     try clear hcz62_4
     try clear hcz67_0
     try clear hcz67_1
     try clear hcz67_2
     try clear hcz72_0
     try clear hcz72_1
     try clear hcz72_2
     try clear hcz72_3
     try clear hcz72_4
     try clear hcz77_0
     try clear hcz77_1
     try clear hcz77_2
     try clear hcz79_0
     try clear hcz79_1
     try clear hcz79_2
     try clear hcz79_3
     try clear hcz79_4
     try clear hfz16_0
     try clear hfz16_1
     try clear hfz16_2
     try clear hfz16_3
     try clear hfz16_4
     try clear hfz19_0
     try clear hfz19_1
     try clear hfz19_2
     try clear hfz24_0
     try clear hfz24_1
     try clear hfz24_2
     try clear hfz24_3
     try clear hfz24_4
     try clear hfz27_0
     try clear hfz27_1
     try clear hfz27_2
     try clear hfz32_0
     try clear hfz32_1
     try clear hfz32_2
     try clear hfz32_3
     try clear hfz32_4
     try clear hfz35_0
     try clear hfz35_1
     try clear hfz35_2
     try clear hfz40_0
     try clear hfz40_1
     try clear hfz40_2
     try clear hfz40_3
     try clear hfz40_4
     try clear hfz43_0
     try clear hfz43_1
     try clear hfz43_2
     try clear hfz47_0
     try clear hfz47_1
     try clear hfz47_2
     try clear hfz47_3
     try clear hfz47_4
     try clear hfz50_0
     try clear hfz50_1
     try clear hfz50_2
     try clear hfz52_0
     try clear hfz52_1
     try clear hfz52_2
     try clear hfz55_0
     try clear hfz55_1
     try clear hfz55_2
     try clear hfz55_3
     try clear hfz55_4
     try clear hfz58_0
     try clear hfz58_1
     try clear hfz58_2
     try clear hfz62_0
     try clear hfz62_1
     try clear hfz62_2
     try clear hfz62_3
     try clear hfz62_4
     try clear hfz67_0
     try clear hfz67_1
     try clear hfz67_2
     try clear hfz72_0
     try clear hfz72_1
     try clear hfz72_2
     try clear hfz72_3
     try clear hfz72_4
     try clear hfz77_0
     try clear hfz77_1
     try clear hfz77_2
     try clear hfz79_0
     try clear hfz79_1
     try clear hfz79_2
     try clear hfz79_3
     try clear hfz79_4
     try clear p2
     obtain ⟨kq, x56_68, rfl, HA, HJ68, BK195, BK196, BK197, HB⟩ := hcut
     cases kq with
     | zero => exact absurd HA.out (by simp [chargeparkref13_Draw.j1])
     | succ kj68 =>
      have H := HA.out
      clear HA
      simp only [chargeparkref13_Draw.j1] at H
      have HC80 := Aside0.mk H
      clear H
      go_upto_if 56 with (fail)
      go_cut [13] (fun v13 wc => ∃ (kq : Nat) (x13_79 : Int), v13 = .int .i64 x13_79 ∧ Aside0 (chargeparkref13_Draw.j2 kq a3 t200 x13_79 l1_0 a1_1 a1_2 = some (r1, r2, r3, r4, r5, r6)) ∧ Aside0 (kq ≤ kj68) ∧ Aside0 (wc.heap[gb195]? = some (.cells #[.int .i64 a0_0, .int .i64 a0_1, .int .i64 a0_2, .int .i64 a0_3, .int .i64 a0_4] 23 (0, 0))) ∧ Aside0 (wc.heap[gb196]? = some (.cells #[(.slice A1_0 l1_0.length c1_0), .int .i64 a1_1, .int .i64 a1_2] 26 (0, 0))) ∧ Aside0 (wc.heap[gb197]? = some (.cells #[(.slice none 0 0), .int .i64 0, .int .i64 0] 26 (0, 0))) ∧ Aside0 (Below w.heap.size w wc))
      case first =>
       have H := HC80.out
       clear HC80
       by_cases c81 : x56_68 = true
       ·subst c81
        have H1 : ((chargeparkref13_current.f a0_0 a0_1 a0_2 a0_3 a0_4 l1_0 a1_1 a1_2 a3).bind fun t201 => (chargeparkref13_Draw.j2 kj68 a3 t200 t201 l1_0 a1_1 a1_2)) = some (r1, r2, r3, r4, r5, r6) := by rw [if_pos rfl] at H; exact H
        clear H
        have H := H1
        clear H1
        replace H := Option.bind_eq_some_iff.mp H
        obtain ⟨t201, A820, H⟩ := H
        replace H : (chargeparkref13_Draw.j2 kj68 a3 t200 t201 l1_0 a1_1 a1_2) = some (r1, r2, r3, r4, r5, r6) := H
        have A82 := Aside0.mk A820
        clear A820
        have H' := Aside0.mk H
        clear H
        have hnb83 := NB195_196.out
        have hnc83 := NB196_195.out
        have hnb84 := NB195_197.out
        have hnc84 := NB197_195.out
        have hcz85_0 : wc.cell? ⟨gb195, 0, none⟩ = some (.int .i64 a0_0) := (blk_cell BK195.out 0).trans rfl
        have hcz85_1 : wc.cell? ⟨gb195, 1, none⟩ = some (.int .i64 a0_1) := (blk_cell BK195.out 1).trans rfl
        have hcz85_2 : wc.cell? ⟨gb195, 2, none⟩ = some (.int .i64 a0_2) := (blk_cell BK195.out 2).trans rfl
        have hcz85_3 : wc.cell? ⟨gb195, 3, none⟩ = some (.int .i64 a0_3) := (blk_cell BK195.out 3).trans rfl
        have hcz85_4 : wc.cell? ⟨gb195, 4, none⟩ = some (.int .i64 a0_4) := (blk_cell BK195.out 4).trans rfl
        have hfz85_0 := blk_frozen BK195.out 0
        have hfz85_1 := blk_frozen BK195.out 1
        have hfz85_2 := blk_frozen BK195.out 2
        have hfz85_3 := blk_frozen BK195.out 3
        have hfz85_4 := blk_frozen BK195.out 4
        have hnb86 := NB196_197.out
        have hnc86 := NB197_196.out
        have hcz87_0 : wc.cell? ⟨gb196, 0, none⟩ = some (.slice A1_0 l1_0.length c1_0) := (blk_cell BK196.out 0).trans rfl
        have hcz87_1 : wc.cell? ⟨gb196, 1, none⟩ = some (.int .i64 a1_1) := (blk_cell BK196.out 1).trans rfl
        have hcz87_2 : wc.cell? ⟨gb196, 2, none⟩ = some (.int .i64 a1_2) := (blk_cell BK196.out 2).trans rfl
        have hfz87_0 := blk_frozen BK196.out 0
        have hfz87_1 := blk_frozen BK196.out 1
        have hfz87_2 := blk_frozen BK196.out 2
        go_wp2_with (first | ((with_reducible refine gate_callee (f := 27) rfl ?_); refine goesL_ (some 60) rfl rfl Try.func27 (by kernel_rfl) rfl #[.agg #[.int .i64 a0_0, .int .i64 a0_1, .int .i64 a0_2, .int .i64 a0_3, .int .i64 a0_4], .agg #[.slice A1_0 l1_0.length c1_0, .int .i64 a1_1, .int .i64 a1_2], .int .i64 a3] rfl (by (try simp only [List.map_toArray, List.map_cons, List.map_nil]); first | done | rfl | (simp only [List.length_drop, List.length_take]; rfl)) ?_; (with_reducible refine (chargeparkref13_current.calls a0_0 a0_1 a0_2 a0_3 a0_4 _ _ l1_0 a1_1 a1_2 a3 t201 _ ?side1 ?side2 A82.out).mono ?_); (case side1 => repeat (first | exact (Kd.C_below HR1_0.out HB.out) | (with_reducible refine Kd.C_alloc ?_ _) | (with_reducible refine Kd.C_drewN ?_ _) | (with_reducible refine Kd.C_drew ?_))); (case side2 => exact HC1_0.out); rintro e w88 ⟨rfl, hb⟩; refine ⟨_, rfl, ?_⟩; have n0_ := Aside0.mk (blk_below (g := gb195) (o := .cells #[.int .i64 a0_0, .int .i64 a0_1, .int .i64 a0_2, .int .i64 a0_3, .int .i64 a0_4] 23 (0, 0)) (by (with_reducible repeat (first | refine blk_drewN ?_ _ | refine blk_drew ?_ | refine blk_alloc ?_ _)); exact BK195.out) hb); have n1_ := Aside0.mk (blk_below (g := gb196) (o := .cells #[.slice A1_0 l1_0.length c1_0, .int .i64 a1_1, .int .i64 a1_2] 26 (0, 0)) (by (with_reducible repeat (first | refine blk_drewN ?_ _ | refine blk_drew ?_ | refine blk_alloc ?_ _)); exact BK196.out) hb); have n2_ := Aside0.mk (blk_below (g := gb197) (o := .cells #[.slice none 0 0, .int .i64 0, .int .i64 0] 26 (0, 0)) (by (with_reducible repeat (first | refine blk_drewN ?_ _ | refine blk_drew ?_ | refine blk_alloc ?_ _)); exact BK197.out) hb); have n3_ := Aside0.mk (below_step (by repeat (first | (with_reducible first | exact HB.out | apply below_alloc | apply pw_below_drewN | apply below_drew1 | refine below_set ?_ GE195.out | refine below_set ?_ GE196.out | refine below_set ?_ GE197.out) | exact HB.out)) hb); clear BK195; clear BK196; clear BK197; clear HB; have BK195 := n0_; have BK196 := n1_; have BK197 := n2_; have HB := n3_; clear n0_ n1_ n2_ n3_; (try clear hb); (try clear hb2); (try clear hk); (try clear hi)))
        go_meet
        case rel => exact ⟨_, (t201), (by first | rfl | (simp; done) | (simp [*]; done)), H', ⟨by have := HJ4.out; have := HJ68.out; first | omega | exact Nat.le_refl _⟩, ⟨by (with_reducible repeat (first | refine blk_drewN ?_ _ | refine blk_drew ?_ | refine blk_alloc ?_ _)); exact BK195.out⟩, ⟨by (with_reducible repeat (first | refine blk_drewN ?_ _ | refine blk_drew ?_ | refine blk_alloc ?_ _)); exact BK196.out⟩, ⟨by (with_reducible repeat (first | refine blk_drewN ?_ _ | refine blk_drew ?_ | refine blk_alloc ?_ _)); exact BK197.out⟩, ⟨by repeat (first | (with_reducible first | exact HB.out | apply below_alloc | apply pw_below_drewN | apply below_drew1 | refine below_set ?_ GE195.out | refine below_set ?_ GE196.out | refine below_set ?_ GE197.out) | exact HB.out)⟩⟩
       ·replace c81 := Bool.eq_false_iff.mpr c81
        subst c81
        have H1 : (chargeparkref13_Draw.j2 kj68 a3 t200 0 l1_0 a1_1 a1_2) = some (r1, r2, r3, r4, r5, r6) := by rw [if_neg (show ¬ (false = true) by decide)] at H; exact H
        clear H
        have H := H1
        clear H1
        have H' := Aside0.mk H
        clear H
        go_wp2
        go_meet
        case rel => exact ⟨_, (0), (by first | rfl | (simp; done) | (simp [*]; done)), H', ⟨by have := HJ4.out; have := HJ68.out; first | omega | exact Nat.le_refl _⟩, ⟨by (with_reducible repeat (first | refine blk_drewN ?_ _ | refine blk_drew ?_ | refine blk_alloc ?_ _)); exact BK195.out⟩, ⟨by (with_reducible repeat (first | refine blk_drewN ?_ _ | refine blk_drew ?_ | refine blk_alloc ?_ _)); exact BK196.out⟩, ⟨by (with_reducible repeat (first | refine blk_drewN ?_ _ | refine blk_drew ?_ | refine blk_alloc ?_ _)); exact BK197.out⟩, ⟨by repeat (first | (with_reducible first | exact HB.out | apply below_alloc | apply pw_below_drewN | apply below_drew1 | refine below_set ?_ GE195.out | refine below_set ?_ GE196.out | refine below_set ?_ GE197.out) | exact HB.out)⟩⟩
      case rest =>
       clear HC80
       try clear c1
       try clear c2
       try clear p2
       try clear c3
       try clear c4
       try clear c5
       try clear c6
       try clear c7
       try clear c8
       try clear c10
       try clear c12
       try clear c13
       try clear c13b0
       try clear c14
       try clear c15
       try clear c18
       try clear c21
       try clear c21b0
       try clear c22
       try clear c23
       try clear c24
       try clear c26
       try clear c27
       try clear c29
       try clear c29b0
       try clear c30
       try clear c31
       try clear c34
       try clear c37
       try clear c37b0
       try clear c38
       try clear c39
       try clear c42
       try clear c45
       try clear c46
       try clear c49
       try clear c53
       try clear c54
       try clear c57
       try clear c60
       try clear c61
       try clear c64
       try clear c65
       try clear c66
       try clear c70
       try clear c71
       try clear c74
       try clear c74b0
       try clear c75
       try clear c76
       try clear c78
       try clear c81
       try clear c83
       try clear c84
       try clear c86
       try clear hcz16_0
       try clear hcz16_1
       try clear hcz16_2
       try clear hcz16_3
       try clear hcz16_4
       try clear hcz19_0
       try clear hcz19_1
       try clear hcz19_2
       try clear hcz24_0
       try clear hcz24_1
       try clear hcz24_2
       try clear hcz24_3
       try clear hcz24_4
       try clear hcz27_0
       try clear hcz27_1
       try clear hcz27_2
       try clear hcz32_0
       try clear hcz32_1
       try clear hcz32_2
       try clear hcz32_3
       try clear hcz32_4
       try clear hcz35_0
       try clear hcz35_1
       try clear hcz35_2
       try clear hcz40_0
       try clear hcz40_1
       try clear hcz40_2
       try clear hcz40_3
       try clear hcz40_4
       try clear hcz43_0
       try clear hcz43_1
       try clear hcz43_2
       try clear hcz47_0
       try clear hcz47_1
       try clear hcz47_2
       try clear hcz47_3
       try clear hcz47_4
       try clear hcz50_0
       try clear hcz50_1
       try clear hcz50_2
       try clear hcz52_0
       try clear hcz52_1
       try clear hcz52_2
       try clear hcz55_0
       try clear hcz55_1
       try clear hcz55_2
       try clear hcz55_3
       try clear hcz55_4
       try clear hcz58_0
       try clear hcz58_1
       try clear hcz58_2
       try clear hcz62_0
       try clear hcz62_1
       try clear hcz62_2
       try clear hcz62_3
       try clear hcz62_4
       try clear hcz67_0
       try clear hcz67_1
       try clear hcz67_2
       try clear hcz72_0
       try clear hcz72_1
       try clear hcz72_2
       try clear hcz72_3
       try clear hcz72_4
       try clear hcz77_0
       try clear hcz77_1
       try clear hcz77_2
       try clear hcz79_0
       try clear hcz79_1
       try clear hcz79_2
       try clear hcz79_3
       try clear hcz79_4
       try clear hcz85_0
       try clear hcz85_1
       try clear hcz85_2
       try clear hcz85_3
       try clear hcz85_4
       try clear hcz87_0
       try clear hcz87_1
       try clear hcz87_2
       try clear hfz16_0
       try clear hfz16_1
       try clear hfz16_2
       try clear hfz16_3
       try clear hfz16_4
       try clear hfz19_0
       try clear hfz19_1
       try clear hfz19_2
       try clear hfz24_0
       try clear hfz24_1
       try clear hfz24_2
       try clear hfz24_3
       try clear hfz24_4
       try clear hfz27_0
       try clear hfz27_1
       try clear hfz27_2
       try clear hfz32_0
       try clear hfz32_1
       try clear hfz32_2
       try clear hfz32_3
       try clear hfz32_4
       try clear hfz35_0
       try clear hfz35_1
       try clear hfz35_2
       try clear hfz40_0
       try clear hfz40_1
       try clear hfz40_2
       try clear hfz40_3
       try clear hfz40_4
       try clear hfz43_0
       try clear hfz43_1
       try clear hfz43_2
       try clear hfz47_0
       try clear hfz47_1
       try clear hfz47_2
       try clear hfz47_3
       try clear hfz47_4
       try clear hfz50_0
       try clear hfz50_1
       try clear hfz50_2
       try clear hfz52_0
       try clear hfz52_1
       try clear hfz52_2
       try clear hfz55_0
       try clear hfz55_1
       try clear hfz55_2
       try clear hfz55_3
       try clear hfz55_4
       try clear hfz58_0
       try clear hfz58_1
       try clear hfz58_2
       try clear hfz62_0
       try clear hfz62_1
       try clear hfz62_2
       try clear hfz62_3
       try clear hfz62_4
       try clear hfz67_0
       try clear hfz67_1
       try clear hfz67_2
       try clear hfz72_0
       try clear hfz72_1
       try clear hfz72_2
       try clear hfz72_3
       try clear hfz72_4
       try clear hfz77_0
       try clear hfz77_1
       try clear hfz77_2
       try clear hfz79_0
       try clear hfz79_1
       try clear hfz79_2
       try clear hfz79_3
       try clear hfz79_4
       try clear hfz85_0
       try clear hfz85_1
       try clear hfz85_2
       try clear hfz85_3
       try clear hfz85_4
       try clear hfz87_0
       try clear hfz87_1
       try clear hfz87_2
       try clear p2
       obtain ⟨kq, x13_79, rfl, HA, HJ79, BK195, BK196, BK197, HB⟩ := hcut
       cases kq with
       | zero => exact absurd HA.out (by simp [chargeparkref13_Draw.j2])
       | succ kj79 =>
        have H := HA.out
        clear HA
        simp only [chargeparkref13_Draw.j2] at H
        by_cases c89 : x13_79 = 0
        ·rw [if_pos c89] at H
         have c89b0 : (x13_79 == 0) = true := beq_iff_eq.mpr c89
         have c89b1 : (x13_79 != 0) = false := bne_eq_false_iff_eq.mpr c89
         clear c89
         by_cases c90 : ([] : List Int).length + l1_0.length < 17592186044416
         ·rw [if_pos c90] at H
          have LMc90 := Aside0.mk c90
          clear c90
          obtain ⟨y202, hy202⟩ : ∃ y_ : List Int, y_ = (([] : List Int) ++ l1_0) := ⟨_, rfl⟩
          replace H : (if y202.length < 17592186044416 then ((some (y202 ++ [a3] : List Int)).bind fun y205 => (if (y205.length : Int) > 21 then (if 1 ≤ (y205.length : Int) then ((chargeparkref13_Count.f 0).bind fun t211 => (some (x13_79, 0, (y205.drop (1 : Int).toNat), wrap64 (a1_1 + 1), wrap64 (a1_2 + (wrap64 ((wrap64 (2300 * x13_79)) * t211))), 0))) else (none)) else ((chargeparkref13_Count.f 0).bind fun t212 => (some (x13_79, 0, y205, wrap64 (a1_1 + 1), wrap64 (a1_2 + (wrap64 ((wrap64 (2300 * x13_79)) * t212))), 0))))) else (none)) = some (r1, r2, r3, r4, r5, r6) := by first | (rw [hy202]; with_reducible exact H) | (have H2_ := (Option.bind_some _ _).symm.trans H; rw [hy202]; with_reducible exact H2_) | (have H2_ := (Option.bind_some _ _).symm.trans H; with_reducible exact H2_) | with_reducible exact H | (rw [hy202]; exact H) | exact H
          have Ny202 := Aside0.mk hy202
          clear hy202
          by_cases c91 : y202.length < 17592186044416
          ·rw [if_pos c91] at H
           have LMc91 := Aside0.mk c91
           clear c91
           obtain ⟨y205, hy205⟩ : ∃ y_ : List Int, y_ = (y202 ++ [a3]) := ⟨_, rfl⟩
           replace H : (if (y205.length : Int) > 21 then (if 1 ≤ (y205.length : Int) then ((chargeparkref13_Count.f 0).bind fun t211 => (some (x13_79, 0, (y205.drop (1 : Int).toNat), wrap64 (a1_1 + 1), wrap64 (a1_2 + (wrap64 ((wrap64 (2300 * x13_79)) * t211))), 0))) else (none)) else ((chargeparkref13_Count.f 0).bind fun t212 => (some (x13_79, 0, y205, wrap64 (a1_1 + 1), wrap64 (a1_2 + (wrap64 ((wrap64 (2300 * x13_79)) * t212))), 0)))) = some (r1, r2, r3, r4, r5, r6) := by first | (rw [hy205]; with_reducible exact H) | (have H2_ := (Option.bind_some _ _).symm.trans H; rw [hy205]; with_reducible exact H2_) | (have H2_ := (Option.bind_some _ _).symm.trans H; with_reducible exact H2_) | with_reducible exact H | (rw [hy205]; exact H) | exact H
           have Ny205 := Aside0.mk hy205
           clear hy205
           by_cases c92 : (y205.length : Int) > 21
           ·rw [if_pos c92] at H
            have c92b0 : decide (21 < (y205.length : Int)) = true := decide_eq_true c92
            have c92b1 : decide (21 < y205.length) = true := decide_eq_true (by omega)
            clear c92
            by_cases c93 : 1 ≤ (y205.length : Int)
            ·rw [if_pos c93] at H
             have c93b0 := eq_true c93
             have c93b1 : decide (1 ≤ (y205.length : Int)) = true := decide_eq_true c93
             clear c93
             obtain ⟨y208, hy208⟩ : ∃ y_ : List Int, y_ = (y205.drop (1 : Int).toNat) := ⟨_, rfl⟩
             replace H : ((chargeparkref13_Count.f 0).bind fun t211 => (some (x13_79, 0, y208, wrap64 (a1_1 + 1), wrap64 (a1_2 + (wrap64 ((wrap64 (2300 * x13_79)) * t211))), 0))) = some (r1, r2, r3, r4, r5, r6) := by first | (rw [hy208]; with_reducible exact H) | (have H2_ := (Option.bind_some _ _).symm.trans H; rw [hy208]; with_reducible exact H2_) | (have H2_ := (Option.bind_some _ _).symm.trans H; with_reducible exact H2_) | with_reducible exact H | (rw [hy208]; exact H) | exact H
             have Ny208 := Aside0.mk hy208
             clear hy208
             replace H := Option.bind_eq_some_iff.mp H
             obtain ⟨t211, A940, H⟩ := H
             replace H : (some (x13_79, 0, y208, wrap64 (a1_1 + 1), wrap64 (a1_2 + (wrap64 ((wrap64 (2300 * x13_79)) * t211))), 0)) = some (r1, r2, r3, r4, r5, r6) := H
             have A94 := Aside0.mk A940
             clear A940
             simp only [Option.some.injEq, Prod.mk.injEq] at H
             obtain ⟨rfl, rfl, rfl, rfl, rfl, rfl⟩ := H
             have hnb95 := NB196_195.out
             have hnc95 := NB195_196.out
             have hnb96 := NB196_197.out
             have hnc96 := NB197_196.out
             have hcz97_0 : wc.cell? ⟨gb196, 0, none⟩ = some (.slice A1_0 l1_0.length c1_0) := (blk_cell BK196.out 0).trans rfl
             have hcz97_1 : wc.cell? ⟨gb196, 1, none⟩ = some (.int .i64 a1_1) := (blk_cell BK196.out 1).trans rfl
             have hcz97_2 : wc.cell? ⟨gb196, 2, none⟩ = some (.int .i64 a1_2) := (blk_cell BK196.out 2).trans rfl
             have hfz97_0 := blk_frozen BK196.out 0
             have hfz97_1 := blk_frozen BK196.out 1
             have hfz97_2 := blk_frozen BK196.out 2
             try go_wp2_with (first | ((with_reducible refine gate_builtin (b := .append) (xs := #[.tmp 63, .tmp 65]) rfl ?_); at_builtin; refine Kd.R_append_rows (Kd.int .i64) (w0 := w) w.heap.size rfl (.tmp 63) (.tmp 65) 24 3 (.int .i64 0) 8 rfl Try.underlying24 info3 rfl (by decide) (by omega) (.slice none 0 0) ([] : List Int) l1_0 _ _ _ (fun _ => True) (fun _ => False) rfl rfl ?aO ?aR (fun _ _ h => h) (fun _ h => h.elim) ?aF ?aB ?aS ?aL ?_; (case aR => repeat (first | exact (Kd.C_below HR1_0.out HB.out) | (with_reducible refine Kd.C_alloc ?_ _) | (with_reducible refine Kd.C_drewN ?_ _) | (with_reducible refine Kd.C_drew ?_))); (case aB => exact (by repeat (first | (with_reducible first | exact HB.out | apply below_alloc | apply pw_below_drewN | apply below_drew1 | refine below_set ?_ GE195.out | refine below_set ?_ GE196.out | refine below_set ?_ GE197.out) | exact HB.out))); (case aF => exact (fun _ _ => trivial)); (case aO => exact ((Kd.R_nil _ _ _ _ (fun _ => True)))); (case aS => exact (below_size (by repeat (first | (with_reducible first | exact HB.out | apply below_alloc | apply pw_below_drewN | apply below_drew1 | refine below_set ?_ GE195.out | refine below_set ?_ GE196.out | refine below_set ?_ GE197.out) | exact HB.out)))); (case aL => have := LMc90.out; omega); intro v203 w98 ho hb hg hat; rw [← Ny202.out] at ho; have n0_ := Aside0.mk (blk_grown (g := gb195) (o := .cells #[.int .i64 a0_0, .int .i64 a0_1, .int .i64 a0_2, .int .i64 a0_3, .int .i64 a0_4] 23 (0, 0)) (by (with_reducible repeat (first | refine blk_drewN ?_ _ | refine blk_drew ?_ | refine blk_alloc ?_ _)); exact BK195.out) hg (by simp [Value.ownBlock])); have n1_ := Aside0.mk (blk_grown (g := gb196) (o := .cells #[.slice A1_0 l1_0.length c1_0, .int .i64 a1_1, .int .i64 a1_2] 26 (0, 0)) (by (with_reducible repeat (first | refine blk_drewN ?_ _ | refine blk_drew ?_ | refine blk_alloc ?_ _)); exact BK196.out) hg (by simp [Value.ownBlock])); have n2_ := Aside0.mk (blk_grown (g := gb197) (o := .cells #[.slice none 0 0, .int .i64 0, .int .i64 0] 26 (0, 0)) (by (with_reducible repeat (first | refine blk_drewN ?_ _ | refine blk_drew ?_ | refine blk_alloc ?_ _)); exact BK197.out) hg (by simp [Value.ownBlock])); have n3_ := Aside0.mk (hb); have n4_ := Aside0.mk (ho); clear BK195; clear BK196; clear BK197; clear HB; have BK195 := n0_; have BK196 := n1_; have BK197 := n2_; have HB := n3_; have HO204 := n4_; clear n0_ n1_ n2_ n3_ n4_; clear ho hb hg hat) | ((with_reducible refine gate_builtin (b := .append) (xs := #[.tmp 67, .tmp 69]) rfl ?_); at_builtin; refine Kd.R_append (Kd.int .i64) (w0 := w) w.heap.size rfl (.tmp 67) (.tmp 69) 24 3 (.int .i64 0) 8 rfl Try.underlying24 info3 rfl (by decide) (by omega) v203 y202 a3 [.int .i64 a3] (fun _ => True) (fun _ => False) rfl rfl ?aP (fun _ hk => hk.elim) ?aF ?aO ?aB ?aS ?aL ?_; (case aP => exact rfl); (case aB => exact (by repeat (first | (with_reducible first | exact HB.out | apply below_alloc | apply pw_below_drewN | apply below_drew1 | refine below_set ?_ GE195.out | refine below_set ?_ GE196.out | refine below_set ?_ GE197.out) | exact HB.out))); (case aF => exact (fun _ _ => trivial)); (case aO => exact (by (with_reducible repeat (first | apply Kd.R_alloc | apply Kd.R_drewN | apply Kd.R_drew)); exact HO204.out)); (case aS => exact (below_size (by repeat (first | (with_reducible first | exact HB.out | apply below_alloc | apply pw_below_drewN | apply below_drew1 | refine below_set ?_ GE195.out | refine below_set ?_ GE196.out | refine below_set ?_ GE197.out) | exact HB.out)))); (case aL => have := LMc91.out; omega); intro v206 w99 ho hb hg hat; rw [← Ny205.out] at ho; have n0_ := Aside0.mk (blk_grown (g := gb195) (o := .cells #[.int .i64 a0_0, .int .i64 a0_1, .int .i64 a0_2, .int .i64 a0_3, .int .i64 a0_4] 23 (0, 0)) (by (with_reducible repeat (first | refine blk_drewN ?_ _ | refine blk_drew ?_ | refine blk_alloc ?_ _)); exact BK195.out) hg (Kd.R_ne HO204.out BK195.out (by decide))); have n1_ := Aside0.mk (blk_grown (g := gb196) (o := .cells #[.slice A1_0 l1_0.length c1_0, .int .i64 a1_1, .int .i64 a1_2] 26 (0, 0)) (by (with_reducible repeat (first | refine blk_drewN ?_ _ | refine blk_drew ?_ | refine blk_alloc ?_ _)); exact BK196.out) hg (Kd.R_ne HO204.out BK196.out (by decide))); have n2_ := Aside0.mk (blk_grown (g := gb197) (o := .cells #[.slice none 0 0, .int .i64 0, .int .i64 0] 26 (0, 0)) (by (with_reducible repeat (first | refine blk_drewN ?_ _ | refine blk_drew ?_ | refine blk_alloc ?_ _)); exact BK197.out) hg (Kd.R_ne HO204.out BK197.out (by decide))); have n3_ := Aside0.mk (hb); have n4_ := Aside0.mk (ho); clear BK195; clear BK196; clear BK197; clear HB; clear HO204; have BK195 := n0_; have BK196 := n1_; have BK197 := n2_; have HB := n3_; have HO207 := n4_; clear n0_ n1_ n2_ n3_ n4_; clear ho hb hg hat; obtain ⟨Ao100, co100, eo100⟩ := Kd.R_slice HO207.out; subst eo100; have q101 : (1 : Int) ≤ ((y205.length : Int) : Int) := of_decide_eq_true (by first | (with_reducible assumption) | assumption); obtain ⟨i0101, hi0101, _, hsz101, _⟩ := info_parts info3; have hcut101 := cut_from (P := Try.prog) 24 3 .i64 Try.underlying24 hi0101 1 hsz101 Ao100 y205.length co100 1 (by omega) q101; have hr101 := Kd.Q_drop (k := (1 : Int).toNat) (Kd.Q_of_R HO207.out) (by omega); obtain ⟨A101, hA101⟩ : ∃ A1, A1 = (if co100 = (1 : Int).toNat then Ao100 else (Ao100 : Option Addr).map (·.add ((1 : Int).toNat * 1))) := ⟨_, rfl⟩; obtain ⟨c101, hc101⟩ : ∃ c1, c1 = co100 - (1 : Int).toNat := ⟨_, rfl⟩; have hy101 : y208.length = y205.length - (1 : Int).toNat := (by rw [Ny208.out, List.length_drop]); rw [← Ny208.out] at hr101; rw [← hy101, ← hA101, ← hc101] at hcut101; replace hr101 : Kd.Q (Kd.int .i64) 3 w99 w.heap.size (fun _ => True) (.slice A101 y208.length c101) y208 := (by rw [hA101, hc101, hy101]; exact hr101); have HE101 : Aside0 ((Value.slice A101 y208.length c101).ownBlock = (.slice Ao100 y205.length co100 : Value).ownBlock) := ⟨by rw [hA101]; split <;> (cases (Ao100 : Option Addr) <;> rfl)⟩; clear hy101 hi0101 hsz101 HO207 hA101 hc101; have HO210 := Aside0.mk hr101; clear hr101; replace q101 := eq_true q101))
             have n0_ := Aside0.mk (Kd.Q_drew HO210.out)
             have n1_ := Aside0.mk (blk_drew BK195.out)
             have n2_ := Aside0.mk (blk_drew BK196.out)
             have n3_ := Aside0.mk (blk_drew BK197.out)
             have n4_ := Aside0.mk (below_drew1 HB.out)
             clear HO210
             clear BK195
             clear BK196
             clear BK197
             clear HB
             have HO210 := n0_
             have BK195 := n1_
             have BK196 := n2_
             have BK197 := n3_
             have HB := n4_
             clear n0_ n1_ n2_ n3_ n4_
             refine start_ (n := 19) (S := fun w' => w'.cell? ⟨gb196, 0, none⟩ = some (.slice A1_0 l1_0.length c1_0) ∧ w'.cell? ⟨gb196, 1, none⟩ = some (.int .i64 a1_1) ∧ w'.cell? ⟨gb196, 2, none⟩ = some (.int .i64 a1_2)) (ds := []) #[false, false, false, false, false, false, false, false, false, false, false, false, false, false, false, false, false, false, false] (by kernel_rfl) rfl rfl ⟨(blk_cell BK196.out 0).trans rfl, (blk_cell BK196.out 1).trans rfl, (blk_cell BK196.out 2).trans rfl⟩ (fun hHeld => ?_); refine with_tabW chargeparkref13_Draw.tab14 chargeparkref13_Draw.bits14 (fun HT_ HW_ => ?_)
             generalize w99.drew = w102 at HO210 BK195 BK196 BK197 HB hHeld ⊢
             refine pure_ (i := 0) (N := some 76) (v := ?_) (a' := ?_) #[true, false, false, false, false, false, false, false, false, false, false, false, false, false, false, false, false, false, false] rfl rfl (any_of HT_.out (by kernel_rfl)) (fun _ _ _ h => h) (Or.inl ⟨by rfl, ?_⟩) ?_ ?_
             rotate_left
             ·intro w'
              go_simp
              with_reducible rfl
             rotate_left
             ·simp only [Act.put, List.setIfInBounds_toArray, List.set_cons_zero, List.set_cons_succ, i64_w, i32_w]
              rfl
             refine pure_ (i := 1) (N := some 77) (v := ?_) (a' := ?_) #[true, true, false, false, false, false, false, false, false, false, false, false, false, false, false, false, false, false, false] rfl rfl (any_of HT_.out (by kernel_rfl)) (fun _ _ _ h => h) (Or.inl ⟨by rfl, ?_⟩) ?_ ?_
             rotate_left
             ·intro w'
              go_simp
              with_reducible rfl
             rotate_left
             ·simp only [Act.put, List.setIfInBounds_toArray, List.set_cons_zero, List.set_cons_succ, i64_w, i32_w]
              rfl
             refine pure_ (i := 2) (N := some 78) (v := ?_) (a' := ?_) #[true, true, true, false, false, false, false, false, false, false, false, false, false, false, false, false, false, false, false] rfl rfl (any_of HT_.out (by kernel_rfl)) (fun _ _ _ h => h) (Or.inl ⟨by rfl, ?_⟩) ?_ ?_
             rotate_left
             ·intro w'
              go_simp
              with_reducible rfl
             rotate_left
             ·simp only [Act.put, List.setIfInBounds_toArray, List.set_cons_zero, List.set_cons_succ, i64_w, i32_w]
              rfl
             refine pure_ (i := 3) (N := some 79) (v := ?_) (a' := ?_) #[true, true, true, true, false, false, false, false, false, false, false, false, false, false, false, false, false, false, false] rfl rfl (any_of HT_.out (by kernel_rfl)) (fun _ _ _ h => h) (Or.inl ⟨by rfl, ?_⟩) ?_ ?_
             rotate_left
             ·intro w'
              go_simp
              with_reducible rfl
             rotate_left
             ·simp only [Act.put, List.setIfInBounds_toArray, List.set_cons_zero, List.set_cons_succ, i64_w, i32_w]
              rfl
             refine pure_ (i := 6) (N := some 82) (v := ?_) (a' := ?_) #[true, true, true, true, false, false, true, false, false, false, false, false, false, false, false, false, false, false, false] rfl rfl (any_of HT_.out (by kernel_rfl)) (fun _ _ _ h => h) (Or.inl ⟨by rfl, ?_⟩) ?_ ?_
             rotate_left
             ·intro w'
              go_simp
              with_reducible rfl
             rotate_left
             ·simp only [Act.put, List.setIfInBounds_toArray, List.set_cons_zero, List.set_cons_succ, i64_w, i32_w]
              rfl
             refine pure_ (i := 8) (N := some 84) (v := ?_) (a' := ?_) #[true, true, true, true, false, false, true, false, true, false, false, false, false, false, false, false, false, false, false] rfl rfl (any_of HT_.out (by kernel_rfl)) (fun _ _ _ h => h) (Or.inl ⟨by rfl, ?_⟩) ?_ ?_
             rotate_left
             ·intro w'
              go_simp
              with_reducible rfl
             rotate_left
             ·simp only [Act.put, List.setIfInBounds_toArray, List.set_cons_zero, List.set_cons_succ, i64_w, i32_w]
              rfl
             refine pure_ (i := 9) (N := some 85) (v := ?_) (a' := ?_) #[true, true, true, true, false, false, true, false, true, true, false, false, false, false, false, false, false, false, false] rfl rfl (any_of HT_.out (by kernel_rfl)) (fun _ _ _ h => h) (Or.inl ⟨by rfl, ?_⟩) ?_ ?_
             rotate_left
             ·intro w'
              go_simp
              with_reducible rfl
             rotate_left
             ·simp only [Act.put, List.setIfInBounds_toArray, List.set_cons_zero, List.set_cons_succ, i64_w, i32_w]
              rfl
             refine pure_ (i := 10) (N := some 86) (v := ?_) (a' := ?_) #[true, true, true, true, false, false, true, false, true, true, true, false, false, false, false, false, false, false, false] rfl rfl (any_of HT_.out (by kernel_rfl)) (fun _ _ _ h => h) (Or.inl ⟨by rfl, ?_⟩) ?_ ?_
             rotate_left
             ·intro w'
              go_simp
              with_reducible rfl
             rotate_left
             ·simp only [Act.put, List.setIfInBounds_toArray, List.set_cons_zero, List.set_cons_succ, i64_w, i32_w]
              rfl
             refine take_ (i := 4) (N := some 80) (v := ?_) (a' := ?_) #[true, true, true, true, true, false, true, false, true, true, true, false, false, false, false, false, false, false, false] rfl rfl (take_ofW HT_.out HW_.out (by kernel_rfl)) (fun _ _ _ h => h) (Or.inl ⟨by rfl, ?_⟩) hHeld ?_ ?_
             rotate_left
             ·rintro w' ⟨s0, s1, s2⟩
              go_simp
              with_reducible rfl
             rotate_left
             ·simp only [Act.put, List.setIfInBounds_toArray, List.set_cons_zero, List.set_cons_succ, i64_w, i32_w]
              rfl
             refine pure_ (i := 5) (N := some 81) (v := ?_) (a' := ?_) #[true, true, true, true, true, true, true, false, true, true, true, false, false, false, false, false, false, false, false] rfl rfl (any_of HT_.out (by kernel_rfl)) (fun _ _ _ h => h) (Or.inl ⟨by rfl, ?_⟩) ?_ ?_
             rotate_left
             ·intro w'
              go_simp
              with_reducible rfl
             rotate_left
             ·simp only [Act.put, List.setIfInBounds_toArray, List.set_cons_zero, List.set_cons_succ, i64_w, i32_w]
              rfl
             refine take_ (i := 7) (N := some 83) (v := ?_) (a' := ?_) #[true, true, true, true, true, true, true, true, true, true, true, false, false, false, false, false, false, false, false] rfl rfl (take_ofW HT_.out HW_.out (by kernel_rfl)) (fun _ _ _ h => h) (Or.inl ⟨by rfl, ?_⟩) hHeld ?_ ?_
             rotate_left
             ·rintro w' ⟨s0, s1, s2⟩
              go_simp
              with_reducible rfl
             rotate_left
             ·simp only [Act.put, List.setIfInBounds_toArray, List.set_cons_zero, List.set_cons_succ, i64_w, i32_w]
              rfl
             refine one_ (i := 11) (N := some 87) #[true, true, true, true, true, true, true, true, true, true, true, true, false, false, false, false, false, false, false] rfl rfl (one_of HT_.out (by kernel_rfl)) (by decide) (fun K hK => ?_)
             refine goes_ Try.func16 (by kernel_rfl) rfl #[.int .i64 0] (by rfl) rfl rfl (by (try simp only [List.map_toArray, List.map_cons, List.map_nil]); first | done | rfl | (simp only [List.length_drop, List.length_take]; rfl)) ?_
             with_reducible refine (chargeparkref13_Count.calls 0 t211 _ A94.out).mono ?_
             rintro e w' ⟨rfl, ⟨nd, rfl⟩⟩
             refine ⟨_, rfl, ?_⟩
             refine hK.out _ _ ⟨(blk_cell BK196.out 0).trans rfl, (blk_cell BK196.out 1).trans rfl, (blk_cell BK196.out 2).trans rfl⟩ (fun hHeld => ?_)
             clear hK K
             refine norm_ (a' := ?_) ?_ ?_
             rotate_left
             ·show Act.put _ (some 87) _ = _
              simp only [Act.put, List.setIfInBounds_toArray, List.set_cons_zero, List.set_cons_succ, i64_w, i32_w]
              rfl
             refine pure_ (i := 12) (N := some 88) (v := ?_) (a' := ?_) #[true, true, true, true, true, true, true, true, true, true, true, true, true, false, false, false, false, false, false] rfl rfl (any_of HT_.out (by kernel_rfl)) (fun _ _ _ h => h) (Or.inl ⟨by rfl, ?_⟩) ?_ ?_
             rotate_left
             ·intro w'
              go_simp
              with_reducible rfl
             rotate_left
             ·simp only [Act.put, List.setIfInBounds_toArray, List.set_cons_zero, List.set_cons_succ, i64_w, i32_w]
              rfl
             refine pure_ (i := 13) (N := some 89) (v := ?_) (a' := ?_) #[true, true, true, true, true, true, true, true, true, true, true, true, true, true, false, false, false, false, false] rfl rfl (any_of HT_.out (by kernel_rfl)) (fun _ _ _ h => h) (Or.inl ⟨by rfl, ?_⟩) ?_ ?_
             rotate_left
             ·intro w'
              go_simp
              with_reducible rfl
             rotate_left
             ·simp only [Act.put, List.setIfInBounds_toArray, List.set_cons_zero, List.set_cons_succ, i64_w, i32_w]
              rfl
             refine pure_ (i := 14) (N := some 90) (v := ?_) (a' := ?_) #[true, true, true, true, true, true, true, true, true, true, true, true, true, true, true, false, false, false, false] rfl rfl (any_of HT_.out (by kernel_rfl)) (fun _ _ _ h => h) (Or.inl ⟨by rfl, ?_⟩) ?_ ?_
             rotate_left
             ·intro w'
              go_simp
              with_reducible rfl
             rotate_left
             ·simp only [Act.put, List.setIfInBounds_toArray, List.set_cons_zero, List.set_cons_succ, i64_w, i32_w]
              rfl
             refine pure_ (i := 15) (N := some 8) (v := ?_) (a' := ?_) #[true, true, true, true, true, true, true, true, true, true, true, true, true, true, true, true, false, false, false] rfl rfl (any_of HT_.out (by kernel_rfl)) (fun _ _ _ h => h) (Or.inl ⟨by rfl, ?_⟩) ?_ ?_
             rotate_left
             ·intro w'
              go_simp
              with_reducible rfl
             rotate_left
             ·simp only [Act.put, List.setIfInBounds_toArray, List.set_cons_zero, List.set_cons_succ, i64_w, i32_w]
              rfl
             refine pure_ (i := 16) (N := some 9) (v := ?_) (a' := ?_) #[true, true, true, true, true, true, true, true, true, true, true, true, true, true, true, true, true, false, false] rfl rfl (any_of HT_.out (by kernel_rfl)) (fun _ _ _ h => h) (Or.inl ⟨by rfl, ?_⟩) ?_ ?_
             rotate_left
             ·intro w'
              go_simp
              with_reducible rfl
             rotate_left
             ·simp only [Act.put, List.setIfInBounds_toArray, List.set_cons_zero, List.set_cons_succ, i64_w, i32_w]
              rfl
             refine one_ (i := 17) (N := none) #[true, true, true, true, true, true, true, true, true, true, true, true, true, true, true, true, true, true, false] rfl rfl (one_of HT_.out (by kernel_rfl)) (by decide) (fun K hK => ?_)
             have hs103 : w102.cell? ⟨gb197, 0, none⟩ = some (.slice none 0 0) := (blk_cell BK197.out 0).trans rfl
             have hfs103 := blk_frozen BK197.out 0
             have hns103_0 := NB195_197.out
             have hns103_1 := NB196_197.out
             have hms103_0 := NB197_195.out
             have hms103_1 := NB197_196.out
             have hs104 : w102.cell? ⟨gb197, 1, none⟩ = some (.int .i64 0) := (blk_cell BK197.out 1).trans rfl
             have hfs104 := blk_frozen BK197.out 1
             have hns104_0 := NB195_197.out
             have hns104_1 := NB196_197.out
             have hms104_0 := NB197_195.out
             have hms104_1 := NB197_196.out
             have hs105 : w102.cell? ⟨gb197, 2, none⟩ = some (.int .i64 0) := (blk_cell BK197.out 2).trans rfl
             have hfs105 := blk_frozen BK197.out 2
             have hns105_0 := NB195_197.out
             have hns105_1 := NB196_197.out
             have hms105_0 := NB197_195.out
             have hms105_1 := NB197_196.out
             refine skip_ (w1 := ?_) (by rfl) rfl ?_ ?_
             rotate_left
             ·go_simp
              rfl
             refine hK.out _ _ ⟨((cell_far (p := ⟨gb197, _, none⟩) NB196_197.out _).trans (((cell_far (p := ⟨gb197, _, none⟩) NB196_197.out _).trans (((cell_far (p := ⟨gb197, _, none⟩) NB196_197.out _).trans (hHeld.1)))))), ((cell_far (p := ⟨gb197, _, none⟩) NB196_197.out _).trans (((cell_far (p := ⟨gb197, _, none⟩) NB196_197.out _).trans (((cell_far (p := ⟨gb197, _, none⟩) NB196_197.out _).trans (hHeld.2.1)))))), ((cell_far (p := ⟨gb197, _, none⟩) NB196_197.out _).trans (((cell_far (p := ⟨gb197, _, none⟩) NB196_197.out _).trans (((cell_far (p := ⟨gb197, _, none⟩) NB196_197.out _).trans (hHeld.2.2))))))⟩ (fun hHeld => ?_)
             clear hK K
             refine pure_ (i := 18) (N := some 11) (v := ?_) (a' := ?_) #[true, true, true, true, true, true, true, true, true, true, true, true, true, true, true, true, true, true, true] rfl rfl (any_of HT_.out (by kernel_rfl)) (fun _ _ _ h => h) (Or.inl ⟨by rfl, ?_⟩) ?_ ?_
             rotate_left
             ·intro w'
              go_simp
              with_reducible rfl
             rotate_left
             ·simp only [Act.put, List.setIfInBounds_toArray, List.set_cons_zero, List.set_cons_succ, i64_w, i32_w]
              rfl
             refine done_ (done_of HT_.out (by kernel_rfl)) ?_
             try go_wp2
             refine bodyPost_ret (results_list (rs := [.tmp 8, .tmp 9, .cell 10 26, .tmp 11]) rfl (by simp) (.tmp (.tmp (.cell gb197 26 #[.slice A101 y208.length c101, .int .i64 (wrap64 (a1_1 + 1)), .int .i64 (wrap64 (a1_2 + (wrap64 ((wrap64 (2300 * x13_79)) * t211))))] (0, 0) _ rfl (by (with_reducible repeat (first | refine blk_drewN ?_ _ | refine blk_drew ?_ | refine blk_alloc ?_ _)); refine blk_put (cs := #[.slice A101 y208.length c101, .int .i64 (wrap64 (a1_1 + 1)), .int .i64 0]) ?_ 2 _ rfl; (with_reducible repeat (first | refine blk_drewN ?_ _ | refine blk_drew ?_ | refine blk_alloc ?_ _)); refine blk_put (cs := #[.slice A101 y208.length c101, .int .i64 0, .int .i64 0]) ?_ 1 _ rfl; (with_reducible repeat (first | refine blk_drewN ?_ _ | refine blk_drew ?_ | refine blk_alloc ?_ _)); refine blk_put (cs := #[.slice none 0 0, .int .i64 0, .int .i64 0]) ?_ 0 _ rfl; (with_reducible repeat (first | refine blk_drewN ?_ _ | refine blk_drew ?_ | refine blk_alloc ?_ _)); exact BK197.out) Try.underlying26 rfl (by kernel_rfl) (.tmp .nil))))) rfl ?_
             exact ⟨_, by first | rfl | (simp [errW_none, errW_some] <;> rfl) | (simp [*, errW_none, errW_some] <;> rfl), by (with_reducible repeat (first | apply Kd.Q_alloc | apply Kd.Q_drewN | apply Kd.Q_drew)); exact Kd.Q_mono (Kd.Q_far (p := ⟨gb197, 2, none⟩) (Kd.Q_far (p := ⟨gb197, 1, none⟩) (Kd.Q_far (p := ⟨gb197, 0, none⟩) (Kd.Q_types HO210.out BK197.out (by decide)) (fun _ hk => hk.2) (.slice A101 y208.length c101)) (fun _ hk => hk.2) (.int .i64 (wrap64 (a1_1 + 1)))) (fun _ hk => hk.2) (.int .i64 (wrap64 (a1_2 + (wrap64 ((wrap64 (2300 * x13_79)) * t211)))))) (fun _ hk => trivial), by repeat (first | (with_reducible first | exact HB.out | apply below_alloc | apply pw_below_drewN | apply below_drew1 | refine below_set ?_ GE195.out | refine below_set ?_ GE196.out | refine below_set ?_ GE197.out) | exact HB.out)⟩
            ·rw [if_neg c93] at H
             exact absurd H (by simp)
           ·rw [if_neg c92] at H
            have c92b0 : decide (21 < (y205.length : Int)) = false := decide_eq_false c92
            have c92b1 : decide (21 < y205.length) = false := decide_eq_false (by omega)
            clear c92
            replace H := Option.bind_eq_some_iff.mp H
            obtain ⟨t212, A1060, H⟩ := H
            replace H : (some (x13_79, 0, y205, wrap64 (a1_1 + 1), wrap64 (a1_2 + (wrap64 ((wrap64 (2300 * x13_79)) * t212))), 0)) = some (r1, r2, r3, r4, r5, r6) := H
            have A106 := Aside0.mk A1060
            clear A1060
            simp only [Option.some.injEq, Prod.mk.injEq] at H
            obtain ⟨rfl, rfl, rfl, rfl, rfl, rfl⟩ := H
            have hnb107 := NB196_195.out
            have hnc107 := NB195_196.out
            have hnb108 := NB196_197.out
            have hnc108 := NB197_196.out
            have hcz109_0 : wc.cell? ⟨gb196, 0, none⟩ = some (.slice A1_0 l1_0.length c1_0) := (blk_cell BK196.out 0).trans rfl
            have hcz109_1 : wc.cell? ⟨gb196, 1, none⟩ = some (.int .i64 a1_1) := (blk_cell BK196.out 1).trans rfl
            have hcz109_2 : wc.cell? ⟨gb196, 2, none⟩ = some (.int .i64 a1_2) := (blk_cell BK196.out 2).trans rfl
            have hfz109_0 := blk_frozen BK196.out 0
            have hfz109_1 := blk_frozen BK196.out 1
            have hfz109_2 := blk_frozen BK196.out 2
            try go_wp2_with (first | ((with_reducible refine gate_builtin (b := .append) (xs := #[.tmp 63, .tmp 65]) rfl ?_); at_builtin; refine Kd.R_append_rows (Kd.int .i64) (w0 := w) w.heap.size rfl (.tmp 63) (.tmp 65) 24 3 (.int .i64 0) 8 rfl Try.underlying24 info3 rfl (by decide) (by omega) (.slice none 0 0) ([] : List Int) l1_0 _ _ _ (fun _ => True) (fun _ => False) rfl rfl ?aO ?aR (fun _ _ h => h) (fun _ h => h.elim) ?aF ?aB ?aS ?aL ?_; (case aR => repeat (first | exact (Kd.C_below HR1_0.out HB.out) | (with_reducible refine Kd.C_alloc ?_ _) | (with_reducible refine Kd.C_drewN ?_ _) | (with_reducible refine Kd.C_drew ?_))); (case aB => exact (by repeat (first | (with_reducible first | exact HB.out | apply below_alloc | apply pw_below_drewN | apply below_drew1 | refine below_set ?_ GE195.out | refine below_set ?_ GE196.out | refine below_set ?_ GE197.out) | exact HB.out))); (case aF => exact (fun _ _ => trivial)); (case aO => exact ((Kd.R_nil _ _ _ _ (fun _ => True)))); (case aS => exact (below_size (by repeat (first | (with_reducible first | exact HB.out | apply below_alloc | apply pw_below_drewN | apply below_drew1 | refine below_set ?_ GE195.out | refine below_set ?_ GE196.out | refine below_set ?_ GE197.out) | exact HB.out)))); (case aL => have := LMc90.out; omega); intro v203 w110 ho hb hg hat; rw [← Ny202.out] at ho; have n0_ := Aside0.mk (blk_grown (g := gb195) (o := .cells #[.int .i64 a0_0, .int .i64 a0_1, .int .i64 a0_2, .int .i64 a0_3, .int .i64 a0_4] 23 (0, 0)) (by (with_reducible repeat (first | refine blk_drewN ?_ _ | refine blk_drew ?_ | refine blk_alloc ?_ _)); exact BK195.out) hg (by simp [Value.ownBlock])); have n1_ := Aside0.mk (blk_grown (g := gb196) (o := .cells #[.slice A1_0 l1_0.length c1_0, .int .i64 a1_1, .int .i64 a1_2] 26 (0, 0)) (by (with_reducible repeat (first | refine blk_drewN ?_ _ | refine blk_drew ?_ | refine blk_alloc ?_ _)); exact BK196.out) hg (by simp [Value.ownBlock])); have n2_ := Aside0.mk (blk_grown (g := gb197) (o := .cells #[.slice none 0 0, .int .i64 0, .int .i64 0] 26 (0, 0)) (by (with_reducible repeat (first | refine blk_drewN ?_ _ | refine blk_drew ?_ | refine blk_alloc ?_ _)); exact BK197.out) hg (by simp [Value.ownBlock])); have n3_ := Aside0.mk (hb); have n4_ := Aside0.mk (ho); clear BK195; clear BK196; clear BK197; clear HB; have BK195 := n0_; have BK196 := n1_; have BK197 := n2_; have HB := n3_; have HO204 := n4_; clear n0_ n1_ n2_ n3_ n4_; clear ho hb hg hat) | ((with_reducible refine gate_builtin (b := .append) (xs := #[.tmp 67, .tmp 69]) rfl ?_); at_builtin; refine Kd.R_append (Kd.int .i64) (w0 := w) w.heap.size rfl (.tmp 67) (.tmp 69) 24 3 (.int .i64 0) 8 rfl Try.underlying24 info3 rfl (by decide) (by omega) v203 y202 a3 [.int .i64 a3] (fun _ => True) (fun _ => False) rfl rfl ?aP (fun _ hk => hk.elim) ?aF ?aO ?aB ?aS ?aL ?_; (case aP => exact rfl); (case aB => exact (by repeat (first | (with_reducible first | exact HB.out | apply below_alloc | apply pw_below_drewN | apply below_drew1 | refine below_set ?_ GE195.out | refine below_set ?_ GE196.out | refine below_set ?_ GE197.out) | exact HB.out))); (case aF => exact (fun _ _ => trivial)); (case aO => exact (by (with_reducible repeat (first | apply Kd.R_alloc | apply Kd.R_drewN | apply Kd.R_drew)); exact HO204.out)); (case aS => exact (below_size (by repeat (first | (with_reducible first | exact HB.out | apply below_alloc | apply pw_below_drewN | apply below_drew1 | refine below_set ?_ GE195.out | refine below_set ?_ GE196.out | refine below_set ?_ GE197.out) | exact HB.out)))); (case aL => have := LMc91.out; omega); intro v206 w111 ho hb hg hat; rw [← Ny205.out] at ho; have n0_ := Aside0.mk (blk_grown (g := gb195) (o := .cells #[.int .i64 a0_0, .int .i64 a0_1, .int .i64 a0_2, .int .i64 a0_3, .int .i64 a0_4] 23 (0, 0)) (by (with_reducible repeat (first | refine blk_drewN ?_ _ | refine blk_drew ?_ | refine blk_alloc ?_ _)); exact BK195.out) hg (Kd.R_ne HO204.out BK195.out (by decide))); have n1_ := Aside0.mk (blk_grown (g := gb196) (o := .cells #[.slice A1_0 l1_0.length c1_0, .int .i64 a1_1, .int .i64 a1_2] 26 (0, 0)) (by (with_reducible repeat (first | refine blk_drewN ?_ _ | refine blk_drew ?_ | refine blk_alloc ?_ _)); exact BK196.out) hg (Kd.R_ne HO204.out BK196.out (by decide))); have n2_ := Aside0.mk (blk_grown (g := gb197) (o := .cells #[.slice none 0 0, .int .i64 0, .int .i64 0] 26 (0, 0)) (by (with_reducible repeat (first | refine blk_drewN ?_ _ | refine blk_drew ?_ | refine blk_alloc ?_ _)); exact BK197.out) hg (Kd.R_ne HO204.out BK197.out (by decide))); have n3_ := Aside0.mk (hb); have n4_ := Aside0.mk (ho); clear BK195; clear BK196; clear BK197; clear HB; clear HO204; have BK195 := n0_; have BK196 := n1_; have BK197 := n2_; have HB := n3_; have HO207 := n4_; clear n0_ n1_ n2_ n3_ n4_; clear ho hb hg hat; obtain ⟨Ao112, co112, eo112⟩ := Kd.R_slice HO207.out; subst eo112))
            have n0_ := Aside0.mk (Kd.R_drew HO207.out)
            have n1_ := Aside0.mk (blk_drew BK195.out)
            have n2_ := Aside0.mk (blk_drew BK196.out)
            have n3_ := Aside0.mk (blk_drew BK197.out)
            have n4_ := Aside0.mk (below_drew1 HB.out)
            clear HO207
            clear BK195
            clear BK196
            clear BK197
            clear HB
            have HO207 := n0_
            have BK195 := n1_
            have BK196 := n2_
            have BK197 := n3_
            have HB := n4_
            clear n0_ n1_ n2_ n3_ n4_
            refine start_ (n := 19) (S := fun w' => w'.cell? ⟨gb196, 0, none⟩ = some (.slice A1_0 l1_0.length c1_0) ∧ w'.cell? ⟨gb196, 1, none⟩ = some (.int .i64 a1_1) ∧ w'.cell? ⟨gb196, 2, none⟩ = some (.int .i64 a1_2)) (ds := []) #[false, false, false, false, false, false, false, false, false, false, false, false, false, false, false, false, false, false, false] (by kernel_rfl) rfl rfl ⟨(blk_cell BK196.out 0).trans rfl, (blk_cell BK196.out 1).trans rfl, (blk_cell BK196.out 2).trans rfl⟩ (fun hHeld => ?_); refine with_tabW chargeparkref13_Draw.tab14 chargeparkref13_Draw.bits14 (fun HT_ HW_ => ?_)
            generalize w111.drew = w113 at HO207 BK195 BK196 BK197 HB hHeld ⊢
            refine pure_ (i := 0) (N := some 76) (v := ?_) (a' := ?_) #[true, false, false, false, false, false, false, false, false, false, false, false, false, false, false, false, false, false, false] rfl rfl (any_of HT_.out (by kernel_rfl)) (fun _ _ _ h => h) (Or.inl ⟨by rfl, ?_⟩) ?_ ?_
            rotate_left
            ·intro w'
             go_simp
             with_reducible rfl
            rotate_left
            ·simp only [Act.put, List.setIfInBounds_toArray, List.set_cons_zero, List.set_cons_succ, i64_w, i32_w]
             rfl
            refine pure_ (i := 1) (N := some 77) (v := ?_) (a' := ?_) #[true, true, false, false, false, false, false, false, false, false, false, false, false, false, false, false, false, false, false] rfl rfl (any_of HT_.out (by kernel_rfl)) (fun _ _ _ h => h) (Or.inl ⟨by rfl, ?_⟩) ?_ ?_
            rotate_left
            ·intro w'
             go_simp
             with_reducible rfl
            rotate_left
            ·simp only [Act.put, List.setIfInBounds_toArray, List.set_cons_zero, List.set_cons_succ, i64_w, i32_w]
             rfl
            refine pure_ (i := 2) (N := some 78) (v := ?_) (a' := ?_) #[true, true, true, false, false, false, false, false, false, false, false, false, false, false, false, false, false, false, false] rfl rfl (any_of HT_.out (by kernel_rfl)) (fun _ _ _ h => h) (Or.inl ⟨by rfl, ?_⟩) ?_ ?_
            rotate_left
            ·intro w'
             go_simp
             with_reducible rfl
            rotate_left
            ·simp only [Act.put, List.setIfInBounds_toArray, List.set_cons_zero, List.set_cons_succ, i64_w, i32_w]
             rfl
            refine pure_ (i := 3) (N := some 79) (v := ?_) (a' := ?_) #[true, true, true, true, false, false, false, false, false, false, false, false, false, false, false, false, false, false, false] rfl rfl (any_of HT_.out (by kernel_rfl)) (fun _ _ _ h => h) (Or.inl ⟨by rfl, ?_⟩) ?_ ?_
            rotate_left
            ·intro w'
             go_simp
             with_reducible rfl
            rotate_left
            ·simp only [Act.put, List.setIfInBounds_toArray, List.set_cons_zero, List.set_cons_succ, i64_w, i32_w]
             rfl
            refine pure_ (i := 6) (N := some 82) (v := ?_) (a' := ?_) #[true, true, true, true, false, false, true, false, false, false, false, false, false, false, false, false, false, false, false] rfl rfl (any_of HT_.out (by kernel_rfl)) (fun _ _ _ h => h) (Or.inl ⟨by rfl, ?_⟩) ?_ ?_
            rotate_left
            ·intro w'
             go_simp
             with_reducible rfl
            rotate_left
            ·simp only [Act.put, List.setIfInBounds_toArray, List.set_cons_zero, List.set_cons_succ, i64_w, i32_w]
             rfl
            refine pure_ (i := 8) (N := some 84) (v := ?_) (a' := ?_) #[true, true, true, true, false, false, true, false, true, false, false, false, false, false, false, false, false, false, false] rfl rfl (any_of HT_.out (by kernel_rfl)) (fun _ _ _ h => h) (Or.inl ⟨by rfl, ?_⟩) ?_ ?_
            rotate_left
            ·intro w'
             go_simp
             with_reducible rfl
            rotate_left
            ·simp only [Act.put, List.setIfInBounds_toArray, List.set_cons_zero, List.set_cons_succ, i64_w, i32_w]
             rfl
            refine pure_ (i := 9) (N := some 85) (v := ?_) (a' := ?_) #[true, true, true, true, false, false, true, false, true, true, false, false, false, false, false, false, false, false, false] rfl rfl (any_of HT_.out (by kernel_rfl)) (fun _ _ _ h => h) (Or.inl ⟨by rfl, ?_⟩) ?_ ?_
            rotate_left
            ·intro w'
             go_simp
             with_reducible rfl
            rotate_left
            ·simp only [Act.put, List.setIfInBounds_toArray, List.set_cons_zero, List.set_cons_succ, i64_w, i32_w]
             rfl
            refine pure_ (i := 10) (N := some 86) (v := ?_) (a' := ?_) #[true, true, true, true, false, false, true, false, true, true, true, false, false, false, false, false, false, false, false] rfl rfl (any_of HT_.out (by kernel_rfl)) (fun _ _ _ h => h) (Or.inl ⟨by rfl, ?_⟩) ?_ ?_
            rotate_left
            ·intro w'
             go_simp
             with_reducible rfl
            rotate_left
            ·simp only [Act.put, List.setIfInBounds_toArray, List.set_cons_zero, List.set_cons_succ, i64_w, i32_w]
             rfl
            refine take_ (i := 4) (N := some 80) (v := ?_) (a' := ?_) #[true, true, true, true, true, false, true, false, true, true, true, false, false, false, false, false, false, false, false] rfl rfl (take_ofW HT_.out HW_.out (by kernel_rfl)) (fun _ _ _ h => h) (Or.inl ⟨by rfl, ?_⟩) hHeld ?_ ?_
            rotate_left
            ·rintro w' ⟨s0, s1, s2⟩
             go_simp
             with_reducible rfl
            rotate_left
            ·simp only [Act.put, List.setIfInBounds_toArray, List.set_cons_zero, List.set_cons_succ, i64_w, i32_w]
             rfl
            refine pure_ (i := 5) (N := some 81) (v := ?_) (a' := ?_) #[true, true, true, true, true, true, true, false, true, true, true, false, false, false, false, false, false, false, false] rfl rfl (any_of HT_.out (by kernel_rfl)) (fun _ _ _ h => h) (Or.inl ⟨by rfl, ?_⟩) ?_ ?_
            rotate_left
            ·intro w'
             go_simp
             with_reducible rfl
            rotate_left
            ·simp only [Act.put, List.setIfInBounds_toArray, List.set_cons_zero, List.set_cons_succ, i64_w, i32_w]
             rfl
            refine take_ (i := 7) (N := some 83) (v := ?_) (a' := ?_) #[true, true, true, true, true, true, true, true, true, true, true, false, false, false, false, false, false, false, false] rfl rfl (take_ofW HT_.out HW_.out (by kernel_rfl)) (fun _ _ _ h => h) (Or.inl ⟨by rfl, ?_⟩) hHeld ?_ ?_
            rotate_left
            ·rintro w' ⟨s0, s1, s2⟩
             go_simp
             with_reducible rfl
            rotate_left
            ·simp only [Act.put, List.setIfInBounds_toArray, List.set_cons_zero, List.set_cons_succ, i64_w, i32_w]
             rfl
            refine one_ (i := 11) (N := some 87) #[true, true, true, true, true, true, true, true, true, true, true, true, false, false, false, false, false, false, false] rfl rfl (one_of HT_.out (by kernel_rfl)) (by decide) (fun K hK => ?_)
            refine goes_ Try.func16 (by kernel_rfl) rfl #[.int .i64 0] (by rfl) rfl rfl (by (try simp only [List.map_toArray, List.map_cons, List.map_nil]); first | done | rfl | (simp only [List.length_drop, List.length_take]; rfl)) ?_
            with_reducible refine (chargeparkref13_Count.calls 0 t212 _ A106.out).mono ?_
            rintro e w' ⟨rfl, ⟨nd, rfl⟩⟩
            refine ⟨_, rfl, ?_⟩
            refine hK.out _ _ ⟨(blk_cell BK196.out 0).trans rfl, (blk_cell BK196.out 1).trans rfl, (blk_cell BK196.out 2).trans rfl⟩ (fun hHeld => ?_)
            clear hK K
            refine norm_ (a' := ?_) ?_ ?_
            rotate_left
            ·show Act.put _ (some 87) _ = _
             simp only [Act.put, List.setIfInBounds_toArray, List.set_cons_zero, List.set_cons_succ, i64_w, i32_w]
             rfl
            refine pure_ (i := 12) (N := some 88) (v := ?_) (a' := ?_) #[true, true, true, true, true, true, true, true, true, true, true, true, true, false, false, false, false, false, false] rfl rfl (any_of HT_.out (by kernel_rfl)) (fun _ _ _ h => h) (Or.inl ⟨by rfl, ?_⟩) ?_ ?_
            rotate_left
            ·intro w'
             go_simp
             with_reducible rfl
            rotate_left
            ·simp only [Act.put, List.setIfInBounds_toArray, List.set_cons_zero, List.set_cons_succ, i64_w, i32_w]
             rfl
            refine pure_ (i := 13) (N := some 89) (v := ?_) (a' := ?_) #[true, true, true, true, true, true, true, true, true, true, true, true, true, true, false, false, false, false, false] rfl rfl (any_of HT_.out (by kernel_rfl)) (fun _ _ _ h => h) (Or.inl ⟨by rfl, ?_⟩) ?_ ?_
            rotate_left
            ·intro w'
             go_simp
             with_reducible rfl
            rotate_left
            ·simp only [Act.put, List.setIfInBounds_toArray, List.set_cons_zero, List.set_cons_succ, i64_w, i32_w]
             rfl
            refine pure_ (i := 14) (N := some 90) (v := ?_) (a' := ?_) #[true, true, true, true, true, true, true, true, true, true, true, true, true, true, true, false, false, false, false] rfl rfl (any_of HT_.out (by kernel_rfl)) (fun _ _ _ h => h) (Or.inl ⟨by rfl, ?_⟩) ?_ ?_
            rotate_left
            ·intro w'
             go_simp
             with_reducible rfl
            rotate_left
            ·simp only [Act.put, List.setIfInBounds_toArray, List.set_cons_zero, List.set_cons_succ, i64_w, i32_w]
             rfl
            refine pure_ (i := 15) (N := some 8) (v := ?_) (a' := ?_) #[true, true, true, true, true, true, true, true, true, true, true, true, true, true, true, true, false, false, false] rfl rfl (any_of HT_.out (by kernel_rfl)) (fun _ _ _ h => h) (Or.inl ⟨by rfl, ?_⟩) ?_ ?_
            rotate_left
            ·intro w'
             go_simp
             with_reducible rfl
            rotate_left
            ·simp only [Act.put, List.setIfInBounds_toArray, List.set_cons_zero, List.set_cons_succ, i64_w, i32_w]
             rfl
            refine pure_ (i := 16) (N := some 9) (v := ?_) (a' := ?_) #[true, true, true, true, true, true, true, true, true, true, true, true, true, true, true, true, true, false, false] rfl rfl (any_of HT_.out (by kernel_rfl)) (fun _ _ _ h => h) (Or.inl ⟨by rfl, ?_⟩) ?_ ?_
            rotate_left
            ·intro w'
             go_simp
             with_reducible rfl
            rotate_left
            ·simp only [Act.put, List.setIfInBounds_toArray, List.set_cons_zero, List.set_cons_succ, i64_w, i32_w]
             rfl
            refine one_ (i := 17) (N := none) #[true, true, true, true, true, true, true, true, true, true, true, true, true, true, true, true, true, true, false] rfl rfl (one_of HT_.out (by kernel_rfl)) (by decide) (fun K hK => ?_)
            have hs114 : w113.cell? ⟨gb197, 0, none⟩ = some (.slice none 0 0) := (blk_cell BK197.out 0).trans rfl
            have hfs114 := blk_frozen BK197.out 0
            have hns114_0 := NB195_197.out
            have hns114_1 := NB196_197.out
            have hms114_0 := NB197_195.out
            have hms114_1 := NB197_196.out
            have hs115 : w113.cell? ⟨gb197, 1, none⟩ = some (.int .i64 0) := (blk_cell BK197.out 1).trans rfl
            have hfs115 := blk_frozen BK197.out 1
            have hns115_0 := NB195_197.out
            have hns115_1 := NB196_197.out
            have hms115_0 := NB197_195.out
            have hms115_1 := NB197_196.out
            have hs116 : w113.cell? ⟨gb197, 2, none⟩ = some (.int .i64 0) := (blk_cell BK197.out 2).trans rfl
            have hfs116 := blk_frozen BK197.out 2
            have hns116_0 := NB195_197.out
            have hns116_1 := NB196_197.out
            have hms116_0 := NB197_195.out
            have hms116_1 := NB197_196.out
            refine skip_ (w1 := ?_) (by rfl) rfl ?_ ?_
            rotate_left
            ·go_simp
             rfl
            refine hK.out _ _ ⟨((cell_far (p := ⟨gb197, _, none⟩) NB196_197.out _).trans (((cell_far (p := ⟨gb197, _, none⟩) NB196_197.out _).trans (((cell_far (p := ⟨gb197, _, none⟩) NB196_197.out _).trans (hHeld.1)))))), ((cell_far (p := ⟨gb197, _, none⟩) NB196_197.out _).trans (((cell_far (p := ⟨gb197, _, none⟩) NB196_197.out _).trans (((cell_far (p := ⟨gb197, _, none⟩) NB196_197.out _).trans (hHeld.2.1)))))), ((cell_far (p := ⟨gb197, _, none⟩) NB196_197.out _).trans (((cell_far (p := ⟨gb197, _, none⟩) NB196_197.out _).trans (((cell_far (p := ⟨gb197, _, none⟩) NB196_197.out _).trans (hHeld.2.2))))))⟩ (fun hHeld => ?_)
            clear hK K
            refine pure_ (i := 18) (N := some 11) (v := ?_) (a' := ?_) #[true, true, true, true, true, true, true, true, true, true, true, true, true, true, true, true, true, true, true] rfl rfl (any_of HT_.out (by kernel_rfl)) (fun _ _ _ h => h) (Or.inl ⟨by rfl, ?_⟩) ?_ ?_
            rotate_left
            ·intro w'
             go_simp
             with_reducible rfl
            rotate_left
            ·simp only [Act.put, List.setIfInBounds_toArray, List.set_cons_zero, List.set_cons_succ, i64_w, i32_w]
             rfl
            refine done_ (done_of HT_.out (by kernel_rfl)) ?_
            try go_wp2
            refine bodyPost_ret (results_list (rs := [.tmp 8, .tmp 9, .cell 10 26, .tmp 11]) rfl (by simp) (.tmp (.tmp (.cell gb197 26 #[.slice Ao112 y205.length co112, .int .i64 (wrap64 (a1_1 + 1)), .int .i64 (wrap64 (a1_2 + (wrap64 ((wrap64 (2300 * x13_79)) * t212))))] (0, 0) _ rfl (by (with_reducible repeat (first | refine blk_drewN ?_ _ | refine blk_drew ?_ | refine blk_alloc ?_ _)); refine blk_put (cs := #[.slice Ao112 y205.length co112, .int .i64 (wrap64 (a1_1 + 1)), .int .i64 0]) ?_ 2 _ rfl; (with_reducible repeat (first | refine blk_drewN ?_ _ | refine blk_drew ?_ | refine blk_alloc ?_ _)); refine blk_put (cs := #[.slice Ao112 y205.length co112, .int .i64 0, .int .i64 0]) ?_ 1 _ rfl; (with_reducible repeat (first | refine blk_drewN ?_ _ | refine blk_drew ?_ | refine blk_alloc ?_ _)); refine blk_put (cs := #[.slice none 0 0, .int .i64 0, .int .i64 0]) ?_ 0 _ rfl; (with_reducible repeat (first | refine blk_drewN ?_ _ | refine blk_drew ?_ | refine blk_alloc ?_ _)); exact BK197.out) Try.underlying26 rfl (by kernel_rfl) (.tmp .nil))))) rfl ?_
            exact ⟨_, by first | rfl | (simp [errW_none, errW_some] <;> rfl) | (simp [*, errW_none, errW_some] <;> rfl), Kd.Q_of_R (by (with_reducible repeat (first | apply Kd.R_alloc | apply Kd.R_drewN | apply Kd.R_drew)); exact Kd.R_mono (Kd.R_far (p := ⟨gb197, 2, none⟩) (Kd.R_far (p := ⟨gb197, 1, none⟩) (Kd.R_far (p := ⟨gb197, 0, none⟩) (Kd.R_types HO207.out BK197.out (by decide)) (fun _ hk => hk.2) (.slice Ao112 y205.length co112)) (fun _ hk => hk.2) (.int .i64 (wrap64 (a1_1 + 1)))) (fun _ hk => hk.2) (.int .i64 (wrap64 (a1_2 + (wrap64 ((wrap64 (2300 * x13_79)) * t212)))))) (fun _ hk => trivial)), by repeat (first | (with_reducible first | exact HB.out | apply below_alloc | apply pw_below_drewN | apply below_drew1 | refine below_set ?_ GE195.out | refine below_set ?_ GE196.out | refine below_set ?_ GE197.out) | exact HB.out)⟩
          ·rw [if_neg c91] at H
           exact absurd H (by simp)
         ·rw [if_neg c90] at H
          exact absurd H (by simp)
        ·rw [if_neg c89] at H
         have c89b0 : (x13_79 == 0) = false := beq_eq_false_iff_ne.mpr c89
         have c89b1 : (x13_79 != 0) = true := bne_iff_ne.mpr c89
         by_cases c117 : ([] : List Int).length + l1_0.length < 17592186044416
         ·rw [if_pos c117] at H
          have LMc117 := Aside0.mk c117
          clear c117
          obtain ⟨y213, hy213⟩ : ∃ y_ : List Int, y_ = (([] : List Int) ++ l1_0) := ⟨_, rfl⟩
          replace H : (if y213.length < 17592186044416 then ((some (y213 ++ [a3] : List Int)).bind fun y216 => (if (y216.length : Int) > 21 then (if 1 ≤ (y216.length : Int) then ((chargeparkref13_Count.f t200).bind fun t222 => (some (x13_79, t200, (y216.drop (1 : Int).toNat), wrap64 (a1_1 + 1), wrap64 (a1_2 + (wrap64 ((wrap64 (2300 * x13_79)) * t222))), 0))) else (none)) else ((chargeparkref13_Count.f t200).bind fun t223 => (some (x13_79, t200, y216, wrap64 (a1_1 + 1), wrap64 (a1_2 + (wrap64 ((wrap64 (2300 * x13_79)) * t223))), 0))))) else (none)) = some (r1, r2, r3, r4, r5, r6) := by first | (rw [hy213]; with_reducible exact H) | (have H2_ := (Option.bind_some _ _).symm.trans H; rw [hy213]; with_reducible exact H2_) | (have H2_ := (Option.bind_some _ _).symm.trans H; with_reducible exact H2_) | with_reducible exact H | (rw [hy213]; exact H) | exact H
          have Ny213 := Aside0.mk hy213
          clear hy213
          by_cases c118 : y213.length < 17592186044416
          ·rw [if_pos c118] at H
           have LMc118 := Aside0.mk c118
           clear c118
           obtain ⟨y216, hy216⟩ : ∃ y_ : List Int, y_ = (y213 ++ [a3]) := ⟨_, rfl⟩
           replace H : (if (y216.length : Int) > 21 then (if 1 ≤ (y216.length : Int) then ((chargeparkref13_Count.f t200).bind fun t222 => (some (x13_79, t200, (y216.drop (1 : Int).toNat), wrap64 (a1_1 + 1), wrap64 (a1_2 + (wrap64 ((wrap64 (2300 * x13_79)) * t222))), 0))) else (none)) else ((chargeparkref13_Count.f t200).bind fun t223 => (some (x13_79, t200, y216, wrap64 (a1_1 + 1), wrap64 (a1_2 + (wrap64 ((wrap64 (2300 * x13_79)) * t223))), 0)))) = some (r1, r2, r3, r4, r5, r6) := by first | (rw [hy216]; with_reducible exact H) | (have H2_ := (Option.bind_some _ _).symm.trans H; rw [hy216]; with_reducible exact H2_) | (have H2_ := (Option.bind_some _ _).symm.trans H; with_reducible exact H2_) | with_reducible exact H | (rw [hy216]; exact H) | exact H
           have Ny216 := Aside0.mk hy216
           clear hy216
           by_cases c119 : (y216.length : Int) > 21
           ·rw [if_pos c119] at H
            have c119b0 : decide (21 < (y216.length : Int)) = true := decide_eq_true c119
            have c119b1 : decide (21 < y216.length) = true := decide_eq_true (by omega)
            clear c119
            by_cases c120 : 1 ≤ (y216.length : Int)
            ·rw [if_pos c120] at H
             have c120b0 := eq_true c120
             have c120b1 : decide (1 ≤ (y216.length : Int)) = true := decide_eq_true c120
             clear c120
             obtain ⟨y219, hy219⟩ : ∃ y_ : List Int, y_ = (y216.drop (1 : Int).toNat) := ⟨_, rfl⟩
             replace H : ((chargeparkref13_Count.f t200).bind fun t222 => (some (x13_79, t200, y219, wrap64 (a1_1 + 1), wrap64 (a1_2 + (wrap64 ((wrap64 (2300 * x13_79)) * t222))), 0))) = some (r1, r2, r3, r4, r5, r6) := by first | (rw [hy219]; with_reducible exact H) | (have H2_ := (Option.bind_some _ _).symm.trans H; rw [hy219]; with_reducible exact H2_) | (have H2_ := (Option.bind_some _ _).symm.trans H; with_reducible exact H2_) | with_reducible exact H | (rw [hy219]; exact H) | exact H
             have Ny219 := Aside0.mk hy219
             clear hy219
             replace H := Option.bind_eq_some_iff.mp H
             obtain ⟨t222, A1210, H⟩ := H
             replace H : (some (x13_79, t200, y219, wrap64 (a1_1 + 1), wrap64 (a1_2 + (wrap64 ((wrap64 (2300 * x13_79)) * t222))), 0)) = some (r1, r2, r3, r4, r5, r6) := H
             have A121 := Aside0.mk A1210
             clear A1210
             simp only [Option.some.injEq, Prod.mk.injEq] at H
             obtain ⟨rfl, rfl, rfl, rfl, rfl, rfl⟩ := H
             have hnb122 := NB196_195.out
             have hnc122 := NB195_196.out
             have hnb123 := NB196_197.out
             have hnc123 := NB197_196.out
             have hcz124_0 : wc.cell? ⟨gb196, 0, none⟩ = some (.slice A1_0 l1_0.length c1_0) := (blk_cell BK196.out 0).trans rfl
             have hcz124_1 : wc.cell? ⟨gb196, 1, none⟩ = some (.int .i64 a1_1) := (blk_cell BK196.out 1).trans rfl
             have hcz124_2 : wc.cell? ⟨gb196, 2, none⟩ = some (.int .i64 a1_2) := (blk_cell BK196.out 2).trans rfl
             have hfz124_0 := blk_frozen BK196.out 0
             have hfz124_1 := blk_frozen BK196.out 1
             have hfz124_2 := blk_frozen BK196.out 2
             try go_wp2_with (first | ((with_reducible refine gate_builtin (b := .append) (xs := #[.tmp 63, .tmp 65]) rfl ?_); at_builtin; refine Kd.R_append_rows (Kd.int .i64) (w0 := w) w.heap.size rfl (.tmp 63) (.tmp 65) 24 3 (.int .i64 0) 8 rfl Try.underlying24 info3 rfl (by decide) (by omega) (.slice none 0 0) ([] : List Int) l1_0 _ _ _ (fun _ => True) (fun _ => False) rfl rfl ?aO ?aR (fun _ _ h => h) (fun _ h => h.elim) ?aF ?aB ?aS ?aL ?_; (case aR => repeat (first | exact (Kd.C_below HR1_0.out HB.out) | (with_reducible refine Kd.C_alloc ?_ _) | (with_reducible refine Kd.C_drewN ?_ _) | (with_reducible refine Kd.C_drew ?_))); (case aB => exact (by repeat (first | (with_reducible first | exact HB.out | apply below_alloc | apply pw_below_drewN | apply below_drew1 | refine below_set ?_ GE195.out | refine below_set ?_ GE196.out | refine below_set ?_ GE197.out) | exact HB.out))); (case aF => exact (fun _ _ => trivial)); (case aO => exact ((Kd.R_nil _ _ _ _ (fun _ => True)))); (case aS => exact (below_size (by repeat (first | (with_reducible first | exact HB.out | apply below_alloc | apply pw_below_drewN | apply below_drew1 | refine below_set ?_ GE195.out | refine below_set ?_ GE196.out | refine below_set ?_ GE197.out) | exact HB.out)))); (case aL => have := LMc117.out; omega); intro v214 w125 ho hb hg hat; rw [← Ny213.out] at ho; have n0_ := Aside0.mk (blk_grown (g := gb195) (o := .cells #[.int .i64 a0_0, .int .i64 a0_1, .int .i64 a0_2, .int .i64 a0_3, .int .i64 a0_4] 23 (0, 0)) (by (with_reducible repeat (first | refine blk_drewN ?_ _ | refine blk_drew ?_ | refine blk_alloc ?_ _)); exact BK195.out) hg (by simp [Value.ownBlock])); have n1_ := Aside0.mk (blk_grown (g := gb196) (o := .cells #[.slice A1_0 l1_0.length c1_0, .int .i64 a1_1, .int .i64 a1_2] 26 (0, 0)) (by (with_reducible repeat (first | refine blk_drewN ?_ _ | refine blk_drew ?_ | refine blk_alloc ?_ _)); exact BK196.out) hg (by simp [Value.ownBlock])); have n2_ := Aside0.mk (blk_grown (g := gb197) (o := .cells #[.slice none 0 0, .int .i64 0, .int .i64 0] 26 (0, 0)) (by (with_reducible repeat (first | refine blk_drewN ?_ _ | refine blk_drew ?_ | refine blk_alloc ?_ _)); exact BK197.out) hg (by simp [Value.ownBlock])); have n3_ := Aside0.mk (hb); have n4_ := Aside0.mk (ho); clear BK195; clear BK196; clear BK197; clear HB; have BK195 := n0_; have BK196 := n1_; have BK197 := n2_; have HB := n3_; have HO215 := n4_; clear n0_ n1_ n2_ n3_ n4_; clear ho hb hg hat) | ((with_reducible refine gate_builtin (b := .append) (xs := #[.tmp 67, .tmp 69]) rfl ?_); at_builtin; refine Kd.R_append (Kd.int .i64) (w0 := w) w.heap.size rfl (.tmp 67) (.tmp 69) 24 3 (.int .i64 0) 8 rfl Try.underlying24 info3 rfl (by decide) (by omega) v214 y213 a3 [.int .i64 a3] (fun _ => True) (fun _ => False) rfl rfl ?aP (fun _ hk => hk.elim) ?aF ?aO ?aB ?aS ?aL ?_; (case aP => exact rfl); (case aB => exact (by repeat (first | (with_reducible first | exact HB.out | apply below_alloc | apply pw_below_drewN | apply below_drew1 | refine below_set ?_ GE195.out | refine below_set ?_ GE196.out | refine below_set ?_ GE197.out) | exact HB.out))); (case aF => exact (fun _ _ => trivial)); (case aO => exact (by (with_reducible repeat (first | apply Kd.R_alloc | apply Kd.R_drewN | apply Kd.R_drew)); exact HO215.out)); (case aS => exact (below_size (by repeat (first | (with_reducible first | exact HB.out | apply below_alloc | apply pw_below_drewN | apply below_drew1 | refine below_set ?_ GE195.out | refine below_set ?_ GE196.out | refine below_set ?_ GE197.out) | exact HB.out)))); (case aL => have := LMc118.out; omega); intro v217 w126 ho hb hg hat; rw [← Ny216.out] at ho; have n0_ := Aside0.mk (blk_grown (g := gb195) (o := .cells #[.int .i64 a0_0, .int .i64 a0_1, .int .i64 a0_2, .int .i64 a0_3, .int .i64 a0_4] 23 (0, 0)) (by (with_reducible repeat (first | refine blk_drewN ?_ _ | refine blk_drew ?_ | refine blk_alloc ?_ _)); exact BK195.out) hg (Kd.R_ne HO215.out BK195.out (by decide))); have n1_ := Aside0.mk (blk_grown (g := gb196) (o := .cells #[.slice A1_0 l1_0.length c1_0, .int .i64 a1_1, .int .i64 a1_2] 26 (0, 0)) (by (with_reducible repeat (first | refine blk_drewN ?_ _ | refine blk_drew ?_ | refine blk_alloc ?_ _)); exact BK196.out) hg (Kd.R_ne HO215.out BK196.out (by decide))); have n2_ := Aside0.mk (blk_grown (g := gb197) (o := .cells #[.slice none 0 0, .int .i64 0, .int .i64 0] 26 (0, 0)) (by (with_reducible repeat (first | refine blk_drewN ?_ _ | refine blk_drew ?_ | refine blk_alloc ?_ _)); exact BK197.out) hg (Kd.R_ne HO215.out BK197.out (by decide))); have n3_ := Aside0.mk (hb); have n4_ := Aside0.mk (ho); clear BK195; clear BK196; clear BK197; clear HB; clear HO215; have BK195 := n0_; have BK196 := n1_; have BK197 := n2_; have HB := n3_; have HO218 := n4_; clear n0_ n1_ n2_ n3_ n4_; clear ho hb hg hat; obtain ⟨Ao127, co127, eo127⟩ := Kd.R_slice HO218.out; subst eo127; have q128 : (1 : Int) ≤ ((y216.length : Int) : Int) := of_decide_eq_true (by first | (with_reducible assumption) | assumption); obtain ⟨i0128, hi0128, _, hsz128, _⟩ := info_parts info3; have hcut128 := cut_from (P := Try.prog) 24 3 .i64 Try.underlying24 hi0128 1 hsz128 Ao127 y216.length co127 1 (by omega) q128; have hr128 := Kd.Q_drop (k := (1 : Int).toNat) (Kd.Q_of_R HO218.out) (by omega); obtain ⟨A128, hA128⟩ : ∃ A1, A1 = (if co127 = (1 : Int).toNat then Ao127 else (Ao127 : Option Addr).map (·.add ((1 : Int).toNat * 1))) := ⟨_, rfl⟩; obtain ⟨c128, hc128⟩ : ∃ c1, c1 = co127 - (1 : Int).toNat := ⟨_, rfl⟩; have hy128 : y219.length = y216.length - (1 : Int).toNat := (by rw [Ny219.out, List.length_drop]); rw [← Ny219.out] at hr128; rw [← hy128, ← hA128, ← hc128] at hcut128; replace hr128 : Kd.Q (Kd.int .i64) 3 w126 w.heap.size (fun _ => True) (.slice A128 y219.length c128) y219 := (by rw [hA128, hc128, hy128]; exact hr128); have HE128 : Aside0 ((Value.slice A128 y219.length c128).ownBlock = (.slice Ao127 y216.length co127 : Value).ownBlock) := ⟨by rw [hA128]; split <;> (cases (Ao127 : Option Addr) <;> rfl)⟩; clear hy128 hi0128 hsz128 HO218 hA128 hc128; have HO221 := Aside0.mk hr128; clear hr128; replace q128 := eq_true q128))
             have n0_ := Aside0.mk (Kd.Q_drew HO221.out)
             have n1_ := Aside0.mk (blk_drew BK195.out)
             have n2_ := Aside0.mk (blk_drew BK196.out)
             have n3_ := Aside0.mk (blk_drew BK197.out)
             have n4_ := Aside0.mk (below_drew1 HB.out)
             clear HO221
             clear BK195
             clear BK196
             clear BK197
             clear HB
             have HO221 := n0_
             have BK195 := n1_
             have BK196 := n2_
             have BK197 := n3_
             have HB := n4_
             clear n0_ n1_ n2_ n3_ n4_
             refine start_ (n := 19) (S := fun w' => w'.cell? ⟨gb196, 0, none⟩ = some (.slice A1_0 l1_0.length c1_0) ∧ w'.cell? ⟨gb196, 1, none⟩ = some (.int .i64 a1_1) ∧ w'.cell? ⟨gb196, 2, none⟩ = some (.int .i64 a1_2)) (ds := []) #[false, false, false, false, false, false, false, false, false, false, false, false, false, false, false, false, false, false, false] (by kernel_rfl) rfl rfl ⟨(blk_cell BK196.out 0).trans rfl, (blk_cell BK196.out 1).trans rfl, (blk_cell BK196.out 2).trans rfl⟩ (fun hHeld => ?_); refine with_tabW chargeparkref13_Draw.tab14 chargeparkref13_Draw.bits14 (fun HT_ HW_ => ?_)
             generalize w126.drew = w129 at HO221 BK195 BK196 BK197 HB hHeld ⊢
             refine pure_ (i := 0) (N := some 76) (v := ?_) (a' := ?_) #[true, false, false, false, false, false, false, false, false, false, false, false, false, false, false, false, false, false, false] rfl rfl (any_of HT_.out (by kernel_rfl)) (fun _ _ _ h => h) (Or.inl ⟨by rfl, ?_⟩) ?_ ?_
             rotate_left
             ·intro w'
              go_simp
              with_reducible rfl
             rotate_left
             ·simp only [Act.put, List.setIfInBounds_toArray, List.set_cons_zero, List.set_cons_succ, i64_w, i32_w]
              rfl
             refine pure_ (i := 1) (N := some 77) (v := ?_) (a' := ?_) #[true, true, false, false, false, false, false, false, false, false, false, false, false, false, false, false, false, false, false] rfl rfl (any_of HT_.out (by kernel_rfl)) (fun _ _ _ h => h) (Or.inl ⟨by rfl, ?_⟩) ?_ ?_
             rotate_left
             ·intro w'
              go_simp
              with_reducible rfl
             rotate_left
             ·simp only [Act.put, List.setIfInBounds_toArray, List.set_cons_zero, List.set_cons_succ, i64_w, i32_w]
              rfl
             refine pure_ (i := 2) (N := some 78) (v := ?_) (a' := ?_) #[true, true, true, false, false, false, false, false, false, false, false, false, false, false, false, false, false, false, false] rfl rfl (any_of HT_.out (by kernel_rfl)) (fun _ _ _ h => h) (Or.inl ⟨by rfl, ?_⟩) ?_ ?_
             rotate_left
             ·intro w'
              go_simp
              with_reducible rfl
             rotate_left
             ·simp only [Act.put, List.setIfInBounds_toArray, List.set_cons_zero, List.set_cons_succ, i64_w, i32_w]
              rfl
             refine pure_ (i := 3) (N := some 79) (v := ?_) (a' := ?_) #[true, true, true, true, false, false, false, false, false, false, false, false, false, false, false, false, false, false, false] rfl rfl (any_of HT_.out (by kernel_rfl)) (fun _ _ _ h => h) (Or.inl ⟨by rfl, ?_⟩) ?_ ?_
             rotate_left
             ·intro w'
              go_simp
              with_reducible rfl
             rotate_left
             ·simp only [Act.put, List.setIfInBounds_toArray, List.set_cons_zero, List.set_cons_succ, i64_w, i32_w]
              rfl
             refine pure_ (i := 6) (N := some 82) (v := ?_) (a' := ?_) #[true, true, true, true, false, false, true, false, false, false, false, false, false, false, false, false, false, false, false] rfl rfl (any_of HT_.out (by kernel_rfl)) (fun _ _ _ h => h) (Or.inl ⟨by rfl, ?_⟩) ?_ ?_
             rotate_left
             ·intro w'
              go_simp
              with_reducible rfl
             rotate_left
             ·simp only [Act.put, List.setIfInBounds_toArray, List.set_cons_zero, List.set_cons_succ, i64_w, i32_w]
              rfl
             refine pure_ (i := 8) (N := some 84) (v := ?_) (a' := ?_) #[true, true, true, true, false, false, true, false, true, false, false, false, false, false, false, false, false, false, false] rfl rfl (any_of HT_.out (by kernel_rfl)) (fun _ _ _ h => h) (Or.inl ⟨by rfl, ?_⟩) ?_ ?_
             rotate_left
             ·intro w'
              go_simp
              with_reducible rfl
             rotate_left
             ·simp only [Act.put, List.setIfInBounds_toArray, List.set_cons_zero, List.set_cons_succ, i64_w, i32_w]
              rfl
             refine pure_ (i := 9) (N := some 85) (v := ?_) (a' := ?_) #[true, true, true, true, false, false, true, false, true, true, false, false, false, false, false, false, false, false, false] rfl rfl (any_of HT_.out (by kernel_rfl)) (fun _ _ _ h => h) (Or.inl ⟨by rfl, ?_⟩) ?_ ?_
             rotate_left
             ·intro w'
              go_simp
              with_reducible rfl
             rotate_left
             ·simp only [Act.put, List.setIfInBounds_toArray, List.set_cons_zero, List.set_cons_succ, i64_w, i32_w]
              rfl
             refine pure_ (i := 10) (N := some 86) (v := ?_) (a' := ?_) #[true, true, true, true, false, false, true, false, true, true, true, false, false, false, false, false, false, false, false] rfl rfl (any_of HT_.out (by kernel_rfl)) (fun _ _ _ h => h) (Or.inl ⟨by rfl, ?_⟩) ?_ ?_
             rotate_left
             ·intro w'
              go_simp
              with_reducible rfl
             rotate_left
             ·simp only [Act.put, List.setIfInBounds_toArray, List.set_cons_zero, List.set_cons_succ, i64_w, i32_w]
              rfl
             refine take_ (i := 4) (N := some 80) (v := ?_) (a' := ?_) #[true, true, true, true, true, false, true, false, true, true, true, false, false, false, false, false, false, false, false] rfl rfl (take_ofW HT_.out HW_.out (by kernel_rfl)) (fun _ _ _ h => h) (Or.inl ⟨by rfl, ?_⟩) hHeld ?_ ?_
             rotate_left
             ·rintro w' ⟨s0, s1, s2⟩
              go_simp
              with_reducible rfl
             rotate_left
             ·simp only [Act.put, List.setIfInBounds_toArray, List.set_cons_zero, List.set_cons_succ, i64_w, i32_w]
              rfl
             refine pure_ (i := 5) (N := some 81) (v := ?_) (a' := ?_) #[true, true, true, true, true, true, true, false, true, true, true, false, false, false, false, false, false, false, false] rfl rfl (any_of HT_.out (by kernel_rfl)) (fun _ _ _ h => h) (Or.inl ⟨by rfl, ?_⟩) ?_ ?_
             rotate_left
             ·intro w'
              go_simp
              with_reducible rfl
             rotate_left
             ·simp only [Act.put, List.setIfInBounds_toArray, List.set_cons_zero, List.set_cons_succ, i64_w, i32_w]
              rfl
             refine take_ (i := 7) (N := some 83) (v := ?_) (a' := ?_) #[true, true, true, true, true, true, true, true, true, true, true, false, false, false, false, false, false, false, false] rfl rfl (take_ofW HT_.out HW_.out (by kernel_rfl)) (fun _ _ _ h => h) (Or.inl ⟨by rfl, ?_⟩) hHeld ?_ ?_
             rotate_left
             ·rintro w' ⟨s0, s1, s2⟩
              go_simp
              with_reducible rfl
             rotate_left
             ·simp only [Act.put, List.setIfInBounds_toArray, List.set_cons_zero, List.set_cons_succ, i64_w, i32_w]
              rfl
             refine one_ (i := 11) (N := some 87) #[true, true, true, true, true, true, true, true, true, true, true, true, false, false, false, false, false, false, false] rfl rfl (one_of HT_.out (by kernel_rfl)) (by decide) (fun K hK => ?_)
             refine goes_ Try.func16 (by kernel_rfl) rfl #[.int .i64 t200] (by rfl) rfl rfl (by (try simp only [List.map_toArray, List.map_cons, List.map_nil]); first | done | rfl | (simp only [List.length_drop, List.length_take]; rfl)) ?_
             with_reducible refine (chargeparkref13_Count.calls t200 t222 _ A121.out).mono ?_
             rintro e w' ⟨rfl, ⟨nd, rfl⟩⟩
             refine ⟨_, rfl, ?_⟩
             refine hK.out _ _ ⟨(blk_cell BK196.out 0).trans rfl, (blk_cell BK196.out 1).trans rfl, (blk_cell BK196.out 2).trans rfl⟩ (fun hHeld => ?_)
             clear hK K
             refine norm_ (a' := ?_) ?_ ?_
             rotate_left
             ·show Act.put _ (some 87) _ = _
              simp only [Act.put, List.setIfInBounds_toArray, List.set_cons_zero, List.set_cons_succ, i64_w, i32_w]
              rfl
             refine pure_ (i := 12) (N := some 88) (v := ?_) (a' := ?_) #[true, true, true, true, true, true, true, true, true, true, true, true, true, false, false, false, false, false, false] rfl rfl (any_of HT_.out (by kernel_rfl)) (fun _ _ _ h => h) (Or.inl ⟨by rfl, ?_⟩) ?_ ?_
             rotate_left
             ·intro w'
              go_simp
              with_reducible rfl
             rotate_left
             ·simp only [Act.put, List.setIfInBounds_toArray, List.set_cons_zero, List.set_cons_succ, i64_w, i32_w]
              rfl
             refine pure_ (i := 13) (N := some 89) (v := ?_) (a' := ?_) #[true, true, true, true, true, true, true, true, true, true, true, true, true, true, false, false, false, false, false] rfl rfl (any_of HT_.out (by kernel_rfl)) (fun _ _ _ h => h) (Or.inl ⟨by rfl, ?_⟩) ?_ ?_
             rotate_left
             ·intro w'
              go_simp
              with_reducible rfl
             rotate_left
             ·simp only [Act.put, List.setIfInBounds_toArray, List.set_cons_zero, List.set_cons_succ, i64_w, i32_w]
              rfl
             refine pure_ (i := 14) (N := some 90) (v := ?_) (a' := ?_) #[true, true, true, true, true, true, true, true, true, true, true, true, true, true, true, false, false, false, false] rfl rfl (any_of HT_.out (by kernel_rfl)) (fun _ _ _ h => h) (Or.inl ⟨by rfl, ?_⟩) ?_ ?_
             rotate_left
             ·intro w'
              go_simp
              with_reducible rfl
             rotate_left
             ·simp only [Act.put, List.setIfInBounds_toArray, List.set_cons_zero, List.set_cons_succ, i64_w, i32_w]
              rfl
             refine pure_ (i := 15) (N := some 8) (v := ?_) (a' := ?_) #[true, true, true, true, true, true, true, true, true, true, true, true, true, true, true, true, false, false, false] rfl rfl (any_of HT_.out (by kernel_rfl)) (fun _ _ _ h => h) (Or.inl ⟨by rfl, ?_⟩) ?_ ?_
             rotate_left
             ·intro w'
              go_simp
              with_reducible rfl
             rotate_left
             ·simp only [Act.put, List.setIfInBounds_toArray, List.set_cons_zero, List.set_cons_succ, i64_w, i32_w]
              rfl
             refine pure_ (i := 16) (N := some 9) (v := ?_) (a' := ?_) #[true, true, true, true, true, true, true, true, true, true, true, true, true, true, true, true, true, false, false] rfl rfl (any_of HT_.out (by kernel_rfl)) (fun _ _ _ h => h) (Or.inl ⟨by rfl, ?_⟩) ?_ ?_
             rotate_left
             ·intro w'
              go_simp
              with_reducible rfl
             rotate_left
             ·simp only [Act.put, List.setIfInBounds_toArray, List.set_cons_zero, List.set_cons_succ, i64_w, i32_w]
              rfl
             refine one_ (i := 17) (N := none) #[true, true, true, true, true, true, true, true, true, true, true, true, true, true, true, true, true, true, false] rfl rfl (one_of HT_.out (by kernel_rfl)) (by decide) (fun K hK => ?_)
             have hs130 : w129.cell? ⟨gb197, 0, none⟩ = some (.slice none 0 0) := (blk_cell BK197.out 0).trans rfl
             have hfs130 := blk_frozen BK197.out 0
             have hns130_0 := NB195_197.out
             have hns130_1 := NB196_197.out
             have hms130_0 := NB197_195.out
             have hms130_1 := NB197_196.out
             have hs131 : w129.cell? ⟨gb197, 1, none⟩ = some (.int .i64 0) := (blk_cell BK197.out 1).trans rfl
             have hfs131 := blk_frozen BK197.out 1
             have hns131_0 := NB195_197.out
             have hns131_1 := NB196_197.out
             have hms131_0 := NB197_195.out
             have hms131_1 := NB197_196.out
             have hs132 : w129.cell? ⟨gb197, 2, none⟩ = some (.int .i64 0) := (blk_cell BK197.out 2).trans rfl
             have hfs132 := blk_frozen BK197.out 2
             have hns132_0 := NB195_197.out
             have hns132_1 := NB196_197.out
             have hms132_0 := NB197_195.out
             have hms132_1 := NB197_196.out
             refine skip_ (w1 := ?_) (by rfl) rfl ?_ ?_
             rotate_left
             ·go_simp
              rfl
             refine hK.out _ _ ⟨((cell_far (p := ⟨gb197, _, none⟩) NB196_197.out _).trans (((cell_far (p := ⟨gb197, _, none⟩) NB196_197.out _).trans (((cell_far (p := ⟨gb197, _, none⟩) NB196_197.out _).trans (hHeld.1)))))), ((cell_far (p := ⟨gb197, _, none⟩) NB196_197.out _).trans (((cell_far (p := ⟨gb197, _, none⟩) NB196_197.out _).trans (((cell_far (p := ⟨gb197, _, none⟩) NB196_197.out _).trans (hHeld.2.1)))))), ((cell_far (p := ⟨gb197, _, none⟩) NB196_197.out _).trans (((cell_far (p := ⟨gb197, _, none⟩) NB196_197.out _).trans (((cell_far (p := ⟨gb197, _, none⟩) NB196_197.out _).trans (hHeld.2.2))))))⟩ (fun hHeld => ?_)
             clear hK K
             refine pure_ (i := 18) (N := some 11) (v := ?_) (a' := ?_) #[true, true, true, true, true, true, true, true, true, true, true, true, true, true, true, true, true, true, true] rfl rfl (any_of HT_.out (by kernel_rfl)) (fun _ _ _ h => h) (Or.inl ⟨by rfl, ?_⟩) ?_ ?_
             rotate_left
             ·intro w'
              go_simp
              with_reducible rfl
             rotate_left
             ·simp only [Act.put, List.setIfInBounds_toArray, List.set_cons_zero, List.set_cons_succ, i64_w, i32_w]
              rfl
             refine done_ (done_of HT_.out (by kernel_rfl)) ?_
             try go_wp2
             refine bodyPost_ret (results_list (rs := [.tmp 8, .tmp 9, .cell 10 26, .tmp 11]) rfl (by simp) (.tmp (.tmp (.cell gb197 26 #[.slice A128 y219.length c128, .int .i64 (wrap64 (a1_1 + 1)), .int .i64 (wrap64 (a1_2 + (wrap64 ((wrap64 (2300 * x13_79)) * t222))))] (0, 0) _ rfl (by (with_reducible repeat (first | refine blk_drewN ?_ _ | refine blk_drew ?_ | refine blk_alloc ?_ _)); refine blk_put (cs := #[.slice A128 y219.length c128, .int .i64 (wrap64 (a1_1 + 1)), .int .i64 0]) ?_ 2 _ rfl; (with_reducible repeat (first | refine blk_drewN ?_ _ | refine blk_drew ?_ | refine blk_alloc ?_ _)); refine blk_put (cs := #[.slice A128 y219.length c128, .int .i64 0, .int .i64 0]) ?_ 1 _ rfl; (with_reducible repeat (first | refine blk_drewN ?_ _ | refine blk_drew ?_ | refine blk_alloc ?_ _)); refine blk_put (cs := #[.slice none 0 0, .int .i64 0, .int .i64 0]) ?_ 0 _ rfl; (with_reducible repeat (first | refine blk_drewN ?_ _ | refine blk_drew ?_ | refine blk_alloc ?_ _)); exact BK197.out) Try.underlying26 rfl (by kernel_rfl) (.tmp .nil))))) rfl ?_
             exact ⟨_, by first | rfl | (simp [errW_none, errW_some] <;> rfl) | (simp [*, errW_none, errW_some] <;> rfl), by (with_reducible repeat (first | apply Kd.Q_alloc | apply Kd.Q_drewN | apply Kd.Q_drew)); exact Kd.Q_mono (Kd.Q_far (p := ⟨gb197, 2, none⟩) (Kd.Q_far (p := ⟨gb197, 1, none⟩) (Kd.Q_far (p := ⟨gb197, 0, none⟩) (Kd.Q_types HO221.out BK197.out (by decide)) (fun _ hk => hk.2) (.slice A128 y219.length c128)) (fun _ hk => hk.2) (.int .i64 (wrap64 (a1_1 + 1)))) (fun _ hk => hk.2) (.int .i64 (wrap64 (a1_2 + (wrap64 ((wrap64 (2300 * x13_79)) * t222)))))) (fun _ hk => trivial), by repeat (first | (with_reducible first | exact HB.out | apply below_alloc | apply pw_below_drewN | apply below_drew1 | refine below_set ?_ GE195.out | refine below_set ?_ GE196.out | refine below_set ?_ GE197.out) | exact HB.out)⟩
            ·rw [if_neg c120] at H
             exact absurd H (by simp)
           ·rw [if_neg c119] at H
            have c119b0 : decide (21 < (y216.length : Int)) = false := decide_eq_false c119
            have c119b1 : decide (21 < y216.length) = false := decide_eq_false (by omega)
            clear c119
            replace H := Option.bind_eq_some_iff.mp H
            obtain ⟨t223, A1330, H⟩ := H
            replace H : (some (x13_79, t200, y216, wrap64 (a1_1 + 1), wrap64 (a1_2 + (wrap64 ((wrap64 (2300 * x13_79)) * t223))), 0)) = some (r1, r2, r3, r4, r5, r6) := H
            have A133 := Aside0.mk A1330
            clear A1330
            simp only [Option.some.injEq, Prod.mk.injEq] at H
            obtain ⟨rfl, rfl, rfl, rfl, rfl, rfl⟩ := H
            have hnb134 := NB196_195.out
            have hnc134 := NB195_196.out
            have hnb135 := NB196_197.out
            have hnc135 := NB197_196.out
            have hcz136_0 : wc.cell? ⟨gb196, 0, none⟩ = some (.slice A1_0 l1_0.length c1_0) := (blk_cell BK196.out 0).trans rfl
            have hcz136_1 : wc.cell? ⟨gb196, 1, none⟩ = some (.int .i64 a1_1) := (blk_cell BK196.out 1).trans rfl
            have hcz136_2 : wc.cell? ⟨gb196, 2, none⟩ = some (.int .i64 a1_2) := (blk_cell BK196.out 2).trans rfl
            have hfz136_0 := blk_frozen BK196.out 0
            have hfz136_1 := blk_frozen BK196.out 1
            have hfz136_2 := blk_frozen BK196.out 2
            try go_wp2_with (first | ((with_reducible refine gate_builtin (b := .append) (xs := #[.tmp 63, .tmp 65]) rfl ?_); at_builtin; refine Kd.R_append_rows (Kd.int .i64) (w0 := w) w.heap.size rfl (.tmp 63) (.tmp 65) 24 3 (.int .i64 0) 8 rfl Try.underlying24 info3 rfl (by decide) (by omega) (.slice none 0 0) ([] : List Int) l1_0 _ _ _ (fun _ => True) (fun _ => False) rfl rfl ?aO ?aR (fun _ _ h => h) (fun _ h => h.elim) ?aF ?aB ?aS ?aL ?_; (case aR => repeat (first | exact (Kd.C_below HR1_0.out HB.out) | (with_reducible refine Kd.C_alloc ?_ _) | (with_reducible refine Kd.C_drewN ?_ _) | (with_reducible refine Kd.C_drew ?_))); (case aB => exact (by repeat (first | (with_reducible first | exact HB.out | apply below_alloc | apply pw_below_drewN | apply below_drew1 | refine below_set ?_ GE195.out | refine below_set ?_ GE196.out | refine below_set ?_ GE197.out) | exact HB.out))); (case aF => exact (fun _ _ => trivial)); (case aO => exact ((Kd.R_nil _ _ _ _ (fun _ => True)))); (case aS => exact (below_size (by repeat (first | (with_reducible first | exact HB.out | apply below_alloc | apply pw_below_drewN | apply below_drew1 | refine below_set ?_ GE195.out | refine below_set ?_ GE196.out | refine below_set ?_ GE197.out) | exact HB.out)))); (case aL => have := LMc117.out; omega); intro v214 w137 ho hb hg hat; rw [← Ny213.out] at ho; have n0_ := Aside0.mk (blk_grown (g := gb195) (o := .cells #[.int .i64 a0_0, .int .i64 a0_1, .int .i64 a0_2, .int .i64 a0_3, .int .i64 a0_4] 23 (0, 0)) (by (with_reducible repeat (first | refine blk_drewN ?_ _ | refine blk_drew ?_ | refine blk_alloc ?_ _)); exact BK195.out) hg (by simp [Value.ownBlock])); have n1_ := Aside0.mk (blk_grown (g := gb196) (o := .cells #[.slice A1_0 l1_0.length c1_0, .int .i64 a1_1, .int .i64 a1_2] 26 (0, 0)) (by (with_reducible repeat (first | refine blk_drewN ?_ _ | refine blk_drew ?_ | refine blk_alloc ?_ _)); exact BK196.out) hg (by simp [Value.ownBlock])); have n2_ := Aside0.mk (blk_grown (g := gb197) (o := .cells #[.slice none 0 0, .int .i64 0, .int .i64 0] 26 (0, 0)) (by (with_reducible repeat (first | refine blk_drewN ?_ _ | refine blk_drew ?_ | refine blk_alloc ?_ _)); exact BK197.out) hg (by simp [Value.ownBlock])); have n3_ := Aside0.mk (hb); have n4_ := Aside0.mk (ho); clear BK195; clear BK196; clear BK197; clear HB; have BK195 := n0_; have BK196 := n1_; have BK197 := n2_; have HB := n3_; have HO215 := n4_; clear n0_ n1_ n2_ n3_ n4_; clear ho hb hg hat) | ((with_reducible refine gate_builtin (b := .append) (xs := #[.tmp 67, .tmp 69]) rfl ?_); at_builtin; refine Kd.R_append (Kd.int .i64) (w0 := w) w.heap.size rfl (.tmp 67) (.tmp 69) 24 3 (.int .i64 0) 8 rfl Try.underlying24 info3 rfl (by decide) (by omega) v214 y213 a3 [.int .i64 a3] (fun _ => True) (fun _ => False) rfl rfl ?aP (fun _ hk => hk.elim) ?aF ?aO ?aB ?aS ?aL ?_; (case aP => exact rfl); (case aB => exact (by repeat (first | (with_reducible first | exact HB.out | apply below_alloc | apply pw_below_drewN | apply below_drew1 | refine below_set ?_ GE195.out | refine below_set ?_ GE196.out | refine below_set ?_ GE197.out) | exact HB.out))); (case aF => exact (fun _ _ => trivial)); (case aO => exact (by (with_reducible repeat (first | apply Kd.R_alloc | apply Kd.R_drewN | apply Kd.R_drew)); exact HO215.out)); (case aS => exact (below_size (by repeat (first | (with_reducible first | exact HB.out | apply below_alloc | apply pw_below_drewN | apply below_drew1 | refine below_set ?_ GE195.out | refine below_set ?_ GE196.out | refine below_set ?_ GE197.out) | exact HB.out)))); (case aL => have := LMc118.out; omega); intro v217 w138 ho hb hg hat; rw [← Ny216.out] at ho; have n0_ := Aside0.mk (blk_grown (g := gb195) (o := .cells #[.int .i64 a0_0, .int .i64 a0_1, .int .i64 a0_2, .int .i64 a0_3, .int .i64 a0_4] 23 (0, 0)) (by (with_reducible repeat (first | refine blk_drewN ?_ _ | refine blk_drew ?_ | refine blk_alloc ?_ _)); exact BK195.out) hg (Kd.R_ne HO215.out BK195.out (by decide))); have n1_ := Aside0.mk (blk_grown (g := gb196) (o := .cells #[.slice A1_0 l1_0.length c1_0, .int .i64 a1_1, .int .i64 a1_2] 26 (0, 0)) (by (with_reducible repeat (first | refine blk_drewN ?_ _ | refine blk_drew ?_ | refine blk_alloc ?_ _)); exact BK196.out) hg (Kd.R_ne HO215.out BK196.out (by decide))); have n2_ := Aside0.mk (blk_grown (g := gb197) (o := .cells #[.slice none 0 0, .int .i64 0, .int .i64 0] 26 (0, 0)) (by (with_reducible repeat (first | refine blk_drewN ?_ _ | refine blk_drew ?_ | refine blk_alloc ?_ _)); exact BK197.out) hg (Kd.R_ne HO215.out BK197.out (by decide))); have n3_ := Aside0.mk (hb); have n4_ := Aside0.mk (ho); clear BK195; clear BK196; clear BK197; clear HB; clear HO215; have BK195 := n0_; have BK196 := n1_; have BK197 := n2_; have HB := n3_; have HO218 := n4_; clear n0_ n1_ n2_ n3_ n4_; clear ho hb hg hat; obtain ⟨Ao139, co139, eo139⟩ := Kd.R_slice HO218.out; subst eo139))
            have n0_ := Aside0.mk (Kd.R_drew HO218.out)
            have n1_ := Aside0.mk (blk_drew BK195.out)
            have n2_ := Aside0.mk (blk_drew BK196.out)
            have n3_ := Aside0.mk (blk_drew BK197.out)
            have n4_ := Aside0.mk (below_drew1 HB.out)
            clear HO218
            clear BK195
            clear BK196
            clear BK197
            clear HB
            have HO218 := n0_
            have BK195 := n1_
            have BK196 := n2_
            have BK197 := n3_
            have HB := n4_
            clear n0_ n1_ n2_ n3_ n4_
            refine start_ (n := 19) (S := fun w' => w'.cell? ⟨gb196, 0, none⟩ = some (.slice A1_0 l1_0.length c1_0) ∧ w'.cell? ⟨gb196, 1, none⟩ = some (.int .i64 a1_1) ∧ w'.cell? ⟨gb196, 2, none⟩ = some (.int .i64 a1_2)) (ds := []) #[false, false, false, false, false, false, false, false, false, false, false, false, false, false, false, false, false, false, false] (by kernel_rfl) rfl rfl ⟨(blk_cell BK196.out 0).trans rfl, (blk_cell BK196.out 1).trans rfl, (blk_cell BK196.out 2).trans rfl⟩ (fun hHeld => ?_); refine with_tabW chargeparkref13_Draw.tab14 chargeparkref13_Draw.bits14 (fun HT_ HW_ => ?_)
            generalize w138.drew = w140 at HO218 BK195 BK196 BK197 HB hHeld ⊢
            refine pure_ (i := 0) (N := some 76) (v := ?_) (a' := ?_) #[true, false, false, false, false, false, false, false, false, false, false, false, false, false, false, false, false, false, false] rfl rfl (any_of HT_.out (by kernel_rfl)) (fun _ _ _ h => h) (Or.inl ⟨by rfl, ?_⟩) ?_ ?_
            rotate_left
            ·intro w'
             go_simp
             with_reducible rfl
            rotate_left
            ·simp only [Act.put, List.setIfInBounds_toArray, List.set_cons_zero, List.set_cons_succ, i64_w, i32_w]
             rfl
            refine pure_ (i := 1) (N := some 77) (v := ?_) (a' := ?_) #[true, true, false, false, false, false, false, false, false, false, false, false, false, false, false, false, false, false, false] rfl rfl (any_of HT_.out (by kernel_rfl)) (fun _ _ _ h => h) (Or.inl ⟨by rfl, ?_⟩) ?_ ?_
            rotate_left
            ·intro w'
             go_simp
             with_reducible rfl
            rotate_left
            ·simp only [Act.put, List.setIfInBounds_toArray, List.set_cons_zero, List.set_cons_succ, i64_w, i32_w]
             rfl
            refine pure_ (i := 2) (N := some 78) (v := ?_) (a' := ?_) #[true, true, true, false, false, false, false, false, false, false, false, false, false, false, false, false, false, false, false] rfl rfl (any_of HT_.out (by kernel_rfl)) (fun _ _ _ h => h) (Or.inl ⟨by rfl, ?_⟩) ?_ ?_
            rotate_left
            ·intro w'
             go_simp
             with_reducible rfl
            rotate_left
            ·simp only [Act.put, List.setIfInBounds_toArray, List.set_cons_zero, List.set_cons_succ, i64_w, i32_w]
             rfl
            refine pure_ (i := 3) (N := some 79) (v := ?_) (a' := ?_) #[true, true, true, true, false, false, false, false, false, false, false, false, false, false, false, false, false, false, false] rfl rfl (any_of HT_.out (by kernel_rfl)) (fun _ _ _ h => h) (Or.inl ⟨by rfl, ?_⟩) ?_ ?_
            rotate_left
            ·intro w'
             go_simp
             with_reducible rfl
            rotate_left
            ·simp only [Act.put, List.setIfInBounds_toArray, List.set_cons_zero, List.set_cons_succ, i64_w, i32_w]
             rfl
            refine pure_ (i := 6) (N := some 82) (v := ?_) (a' := ?_) #[true, true, true, true, false, false, true, false, false, false, false, false, false, false, false, false, false, false, false] rfl rfl (any_of HT_.out (by kernel_rfl)) (fun _ _ _ h => h) (Or.inl ⟨by rfl, ?_⟩) ?_ ?_
            rotate_left
            ·intro w'
             go_simp
             with_reducible rfl
            rotate_left
            ·simp only [Act.put, List.setIfInBounds_toArray, List.set_cons_zero, List.set_cons_succ, i64_w, i32_w]
             rfl
            refine pure_ (i := 8) (N := some 84) (v := ?_) (a' := ?_) #[true, true, true, true, false, false, true, false, true, false, false, false, false, false, false, false, false, false, false] rfl rfl (any_of HT_.out (by kernel_rfl)) (fun _ _ _ h => h) (Or.inl ⟨by rfl, ?_⟩) ?_ ?_
            rotate_left
            ·intro w'
             go_simp
             with_reducible rfl
            rotate_left
            ·simp only [Act.put, List.setIfInBounds_toArray, List.set_cons_zero, List.set_cons_succ, i64_w, i32_w]
             rfl
            refine pure_ (i := 9) (N := some 85) (v := ?_) (a' := ?_) #[true, true, true, true, false, false, true, false, true, true, false, false, false, false, false, false, false, false, false] rfl rfl (any_of HT_.out (by kernel_rfl)) (fun _ _ _ h => h) (Or.inl ⟨by rfl, ?_⟩) ?_ ?_
            rotate_left
            ·intro w'
             go_simp
             with_reducible rfl
            rotate_left
            ·simp only [Act.put, List.setIfInBounds_toArray, List.set_cons_zero, List.set_cons_succ, i64_w, i32_w]
             rfl
            refine pure_ (i := 10) (N := some 86) (v := ?_) (a' := ?_) #[true, true, true, true, false, false, true, false, true, true, true, false, false, false, false, false, false, false, false] rfl rfl (any_of HT_.out (by kernel_rfl)) (fun _ _ _ h => h) (Or.inl ⟨by rfl, ?_⟩) ?_ ?_
            rotate_left
            ·intro w'
             go_simp
             with_reducible rfl
            rotate_left
            ·simp only [Act.put, List.setIfInBounds_toArray, List.set_cons_zero, List.set_cons_succ, i64_w, i32_w]
             rfl
            refine take_ (i := 4) (N := some 80) (v := ?_) (a' := ?_) #[true, true, true, true, true, false, true, false, true, true, true, false, false, false, false, false, false, false, false] rfl rfl (take_ofW HT_.out HW_.out (by kernel_rfl)) (fun _ _ _ h => h) (Or.inl ⟨by rfl, ?_⟩) hHeld ?_ ?_
            rotate_left
            ·rintro w' ⟨s0, s1, s2⟩
             go_simp
             with_reducible rfl
            rotate_left
            ·simp only [Act.put, List.setIfInBounds_toArray, List.set_cons_zero, List.set_cons_succ, i64_w, i32_w]
             rfl
            refine pure_ (i := 5) (N := some 81) (v := ?_) (a' := ?_) #[true, true, true, true, true, true, true, false, true, true, true, false, false, false, false, false, false, false, false] rfl rfl (any_of HT_.out (by kernel_rfl)) (fun _ _ _ h => h) (Or.inl ⟨by rfl, ?_⟩) ?_ ?_
            rotate_left
            ·intro w'
             go_simp
             with_reducible rfl
            rotate_left
            ·simp only [Act.put, List.setIfInBounds_toArray, List.set_cons_zero, List.set_cons_succ, i64_w, i32_w]
             rfl
            refine take_ (i := 7) (N := some 83) (v := ?_) (a' := ?_) #[true, true, true, true, true, true, true, true, true, true, true, false, false, false, false, false, false, false, false] rfl rfl (take_ofW HT_.out HW_.out (by kernel_rfl)) (fun _ _ _ h => h) (Or.inl ⟨by rfl, ?_⟩) hHeld ?_ ?_
            rotate_left
            ·rintro w' ⟨s0, s1, s2⟩
             go_simp
             with_reducible rfl
            rotate_left
            ·simp only [Act.put, List.setIfInBounds_toArray, List.set_cons_zero, List.set_cons_succ, i64_w, i32_w]
             rfl
            refine one_ (i := 11) (N := some 87) #[true, true, true, true, true, true, true, true, true, true, true, true, false, false, false, false, false, false, false] rfl rfl (one_of HT_.out (by kernel_rfl)) (by decide) (fun K hK => ?_)
            refine goes_ Try.func16 (by kernel_rfl) rfl #[.int .i64 t200] (by rfl) rfl rfl (by (try simp only [List.map_toArray, List.map_cons, List.map_nil]); first | done | rfl | (simp only [List.length_drop, List.length_take]; rfl)) ?_
            with_reducible refine (chargeparkref13_Count.calls t200 t223 _ A133.out).mono ?_
            rintro e w' ⟨rfl, ⟨nd, rfl⟩⟩
            refine ⟨_, rfl, ?_⟩
            refine hK.out _ _ ⟨(blk_cell BK196.out 0).trans rfl, (blk_cell BK196.out 1).trans rfl, (blk_cell BK196.out 2).trans rfl⟩ (fun hHeld => ?_)
            clear hK K
            refine norm_ (a' := ?_) ?_ ?_
            rotate_left
            ·show Act.put _ (some 87) _ = _
             simp only [Act.put, List.setIfInBounds_toArray, List.set_cons_zero, List.set_cons_succ, i64_w, i32_w]
             rfl
            refine pure_ (i := 12) (N := some 88) (v := ?_) (a' := ?_) #[true, true, true, true, true, true, true, true, true, true, true, true, true, false, false, false, false, false, false] rfl rfl (any_of HT_.out (by kernel_rfl)) (fun _ _ _ h => h) (Or.inl ⟨by rfl, ?_⟩) ?_ ?_
            rotate_left
            ·intro w'
             go_simp
             with_reducible rfl
            rotate_left
            ·simp only [Act.put, List.setIfInBounds_toArray, List.set_cons_zero, List.set_cons_succ, i64_w, i32_w]
             rfl
            refine pure_ (i := 13) (N := some 89) (v := ?_) (a' := ?_) #[true, true, true, true, true, true, true, true, true, true, true, true, true, true, false, false, false, false, false] rfl rfl (any_of HT_.out (by kernel_rfl)) (fun _ _ _ h => h) (Or.inl ⟨by rfl, ?_⟩) ?_ ?_
            rotate_left
            ·intro w'
             go_simp
             with_reducible rfl
            rotate_left
            ·simp only [Act.put, List.setIfInBounds_toArray, List.set_cons_zero, List.set_cons_succ, i64_w, i32_w]
             rfl
            refine pure_ (i := 14) (N := some 90) (v := ?_) (a' := ?_) #[true, true, true, true, true, true, true, true, true, true, true, true, true, true, true, false, false, false, false] rfl rfl (any_of HT_.out (by kernel_rfl)) (fun _ _ _ h => h) (Or.inl ⟨by rfl, ?_⟩) ?_ ?_
            rotate_left
            ·intro w'
             go_simp
             with_reducible rfl
            rotate_left
            ·simp only [Act.put, List.setIfInBounds_toArray, List.set_cons_zero, List.set_cons_succ, i64_w, i32_w]
             rfl
            refine pure_ (i := 15) (N := some 8) (v := ?_) (a' := ?_) #[true, true, true, true, true, true, true, true, true, true, true, true, true, true, true, true, false, false, false] rfl rfl (any_of HT_.out (by kernel_rfl)) (fun _ _ _ h => h) (Or.inl ⟨by rfl, ?_⟩) ?_ ?_
            rotate_left
            ·intro w'
             go_simp
             with_reducible rfl
            rotate_left
            ·simp only [Act.put, List.setIfInBounds_toArray, List.set_cons_zero, List.set_cons_succ, i64_w, i32_w]
             rfl
            refine pure_ (i := 16) (N := some 9) (v := ?_) (a' := ?_) #[true, true, true, true, true, true, true, true, true, true, true, true, true, true, true, true, true, false, false] rfl rfl (any_of HT_.out (by kernel_rfl)) (fun _ _ _ h => h) (Or.inl ⟨by rfl, ?_⟩) ?_ ?_
            rotate_left
            ·intro w'
             go_simp
             with_reducible rfl
            rotate_left
            ·simp only [Act.put, List.setIfInBounds_toArray, List.set_cons_zero, List.set_cons_succ, i64_w, i32_w]
             rfl
            refine one_ (i := 17) (N := none) #[true, true, true, true, true, true, true, true, true, true, true, true, true, true, true, true, true, true, false] rfl rfl (one_of HT_.out (by kernel_rfl)) (by decide) (fun K hK => ?_)
            have hs141 : w140.cell? ⟨gb197, 0, none⟩ = some (.slice none 0 0) := (blk_cell BK197.out 0).trans rfl
            have hfs141 := blk_frozen BK197.out 0
            have hns141_0 := NB195_197.out
            have hns141_1 := NB196_197.out
            have hms141_0 := NB197_195.out
            have hms141_1 := NB197_196.out
            have hs142 : w140.cell? ⟨gb197, 1, none⟩ = some (.int .i64 0) := (blk_cell BK197.out 1).trans rfl
            have hfs142 := blk_frozen BK197.out 1
            have hns142_0 := NB195_197.out
            have hns142_1 := NB196_197.out
            have hms142_0 := NB197_195.out
            have hms142_1 := NB197_196.out
            have hs143 : w140.cell? ⟨gb197, 2, none⟩ = some (.int .i64 0) := (blk_cell BK197.out 2).trans rfl
            have hfs143 := blk_frozen BK197.out 2
            have hns143_0 := NB195_197.out
            have hns143_1 := NB196_197.out
            have hms143_0 := NB197_195.out
            have hms143_1 := NB197_196.out
            refine skip_ (w1 := ?_) (by rfl) rfl ?_ ?_
            rotate_left
            ·go_simp
             rfl
            refine hK.out _ _ ⟨((cell_far (p := ⟨gb197, _, none⟩) NB196_197.out _).trans (((cell_far (p := ⟨gb197, _, none⟩) NB196_197.out _).trans (((cell_far (p := ⟨gb197, _, none⟩) NB196_197.out _).trans (hHeld.1)))))), ((cell_far (p := ⟨gb197, _, none⟩) NB196_197.out _).trans (((cell_far (p := ⟨gb197, _, none⟩) NB196_197.out _).trans (((cell_far (p := ⟨gb197, _, none⟩) NB196_197.out _).trans (hHeld.2.1)))))), ((cell_far (p := ⟨gb197, _, none⟩) NB196_197.out _).trans (((cell_far (p := ⟨gb197, _, none⟩) NB196_197.out _).trans (((cell_far (p := ⟨gb197, _, none⟩) NB196_197.out _).trans (hHeld.2.2))))))⟩ (fun hHeld => ?_)
            clear hK K
            refine pure_ (i := 18) (N := some 11) (v := ?_) (a' := ?_) #[true, true, true, true, true, true, true, true, true, true, true, true, true, true, true, true, true, true, true] rfl rfl (any_of HT_.out (by kernel_rfl)) (fun _ _ _ h => h) (Or.inl ⟨by rfl, ?_⟩) ?_ ?_
            rotate_left
            ·intro w'
             go_simp
             with_reducible rfl
            rotate_left
            ·simp only [Act.put, List.setIfInBounds_toArray, List.set_cons_zero, List.set_cons_succ, i64_w, i32_w]
             rfl
            refine done_ (done_of HT_.out (by kernel_rfl)) ?_
            try go_wp2
            refine bodyPost_ret (results_list (rs := [.tmp 8, .tmp 9, .cell 10 26, .tmp 11]) rfl (by simp) (.tmp (.tmp (.cell gb197 26 #[.slice Ao139 y216.length co139, .int .i64 (wrap64 (a1_1 + 1)), .int .i64 (wrap64 (a1_2 + (wrap64 ((wrap64 (2300 * x13_79)) * t223))))] (0, 0) _ rfl (by (with_reducible repeat (first | refine blk_drewN ?_ _ | refine blk_drew ?_ | refine blk_alloc ?_ _)); refine blk_put (cs := #[.slice Ao139 y216.length co139, .int .i64 (wrap64 (a1_1 + 1)), .int .i64 0]) ?_ 2 _ rfl; (with_reducible repeat (first | refine blk_drewN ?_ _ | refine blk_drew ?_ | refine blk_alloc ?_ _)); refine blk_put (cs := #[.slice Ao139 y216.length co139, .int .i64 0, .int .i64 0]) ?_ 1 _ rfl; (with_reducible repeat (first | refine blk_drewN ?_ _ | refine blk_drew ?_ | refine blk_alloc ?_ _)); refine blk_put (cs := #[.slice none 0 0, .int .i64 0, .int .i64 0]) ?_ 0 _ rfl; (with_reducible repeat (first | refine blk_drewN ?_ _ | refine blk_drew ?_ | refine blk_alloc ?_ _)); exact BK197.out) Try.underlying26 rfl (by kernel_rfl) (.tmp .nil))))) rfl ?_
            exact ⟨_, by first | rfl | (simp [errW_none, errW_some] <;> rfl) | (simp [*, errW_none, errW_some] <;> rfl), Kd.Q_of_R (by (with_reducible repeat (first | apply Kd.R_alloc | apply Kd.R_drewN | apply Kd.R_drew)); exact Kd.R_mono (Kd.R_far (p := ⟨gb197, 2, none⟩) (Kd.R_far (p := ⟨gb197, 1, none⟩) (Kd.R_far (p := ⟨gb197, 0, none⟩) (Kd.R_types HO218.out BK197.out (by decide)) (fun _ hk => hk.2) (.slice Ao139 y216.length co139)) (fun _ hk => hk.2) (.int .i64 (wrap64 (a1_1 + 1)))) (fun _ hk => hk.2) (.int .i64 (wrap64 (a1_2 + (wrap64 ((wrap64 (2300 * x13_79)) * t223)))))) (fun _ hk => trivial)), by repeat (first | (with_reducible first | exact HB.out | apply below_alloc | apply pw_below_drewN | apply below_drew1 | refine below_set ?_ GE195.out | refine below_set ?_ GE196.out | refine below_set ?_ GE197.out) | exact HB.out)⟩
          ·rw [if_neg c118] at H
           exact absurd H (by simp)
         ·rw [if_neg c117] at H
          exact absurd H (by simp)


end Go.Proofs.Ytojjdpbjcaedpaa.PAll
