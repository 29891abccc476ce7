-- Written by a program of this session (xprint.py, over the kit's print.py), with contracts proved by hand.
import Derived.Test.YtanaaphabeonoaaPAllx0
import Derived.Test.YtanaaphabeonoaaPAllx2
import Derived.Test.YtanaaphabeonoaaPAllx3
import Derived.Test.YtanaaphabeonoaaPAllx4
namespace Go.Proofs.Ytanaaphabeonoaa.PAll
open Go.RowKit Go.Proofs.Ytanaaphabeonoaa.Open Go.Proofs.YtanaaphabeonoaaW.PrintWords Go.Proofs.YtanaaphabeonoaaW.PrintLast Go.Proofs.YtanaaphabeonoaaW.PrintMore
attribute [local go_sem] max2_int min2_int max_two min_two max_three min_three max_four min_four   -- for this text's walks alone
set_option linter.unusedVariables false
set_option linter.unusedSimpArgs false

attribute [local go_sem high] eqA49
/-! ### chargeparklaw42_SettleDispute: function 8 -/
mutual
def chargeparklaw42_SettleDispute.j0 : Nat → List (S49) → List (S49) → Bool → Bool → Option (Bool)
 | 0, _, _, _, _ => none
 | k + 1, x0, x1, x5, x25 => if x25 = true then (some x5) else ((settle_Dispute.f k x0 x1).bind fun bt448 => ((settle_Dispute.f k x1 x0).bind fun bt451 => (if bt448.2.2 = 0 then (if bt451.2.2 = 0 then (if bt448.1 = bt451.1 then (if (bt448.2.1 != bt451.2.1) = true then (chargeparklaw42_SettleDispute.j1 k x0 x1 x5 bt448.1 bt448.2.1 true) else (chargeparklaw42_SettleDispute.j1 k x0 x1 x5 bt448.1 bt448.2.1 (decide (bt448.1 < 0)))) else (chargeparklaw42_SettleDispute.j1 k x0 x1 x5 bt448.1 bt448.2.1 true)) else (chargeparklaw42_SettleDispute.j1 k x0 x1 x5 bt448.1 bt448.2.1 true)) else (chargeparklaw42_SettleDispute.j1 k x0 x1 x5 bt448.1 bt448.2.1 true))))
def chargeparklaw42_SettleDispute.j1 : Nat → List (S49) → List (S49) → Bool → Int → Bool → Bool → Option (Bool)
 | 0, _, _, _, _, _, _ => none
 | k + 1, x0, x1, x5, x6, x7, x60 => if x60 = true then (none) else (if x7 = true then (if x6 > (x0.length : Int) then (chargeparklaw42_SettleDispute.j3 k x0 x1 x5 x6 true) else (if x6 > (x1.length : Int) then (chargeparklaw42_SettleDispute.j3 k x0 x1 x5 x6 true) else (if x6 = (x0.length : Int) then (chargeparklaw42_SettleDispute.j3 k x0 x1 x5 x6 (x6 == (x1.length : Int))) else (chargeparklaw42_SettleDispute.j3 k x0 x1 x5 x6 false)))) else (chargeparklaw42_SettleDispute.l0 k x0 x1 x5 x6 0))
def chargeparklaw42_SettleDispute.j3 : Nat → List (S49) → List (S49) → Bool → Int → Bool → Option (Bool)
 | 0, _, _, _, _, _ => none
 | k + 1, x0, x1, x5, x6, x120 => if x120 = true then (none) else (chargeparklaw42_SettleDispute.l1 k x0 x1 x5 x6 0)
def chargeparklaw42_SettleDispute.l1 : Nat → List (S49) → List (S49) → Bool → Int → Int → Option (Bool)
 | 0, _, _, _, _, _ => none
 | k + 1, x0, x1, x5, x6, x13 => if x13 < x6 then (if x5 = true then (if 0 ≤ x13 then (if x13 < (x0.length : Int) then (if x13 < (x1.length : Int) then (chargeparklaw42_SettleDispute.l1 k x0 x1 (((rd_T49 x0 x13).f0) == ((rd_T49 x1 x13).f0) && (((rd_T49 x0 x13).f1) == ((rd_T49 x1 x13).f1) && (((rd_T49 x0 x13).f2) == ((rd_T49 x1 x13).f2) && (((rd_T49 x0 x13).f3) == ((rd_T49 x1 x13).f3) && (((rd_T49 x0 x13).f4) == ((rd_T49 x1 x13).f4)))))) x6 (wrap64 (x13 + 1))) else (none)) else (none)) else (none)) else (chargeparklaw42_SettleDispute.l1 k x0 x1 false x6 (wrap64 (x13 + 1)))) else (if 0 ≤ (mn (x0.length : Int) (wrap64 (x6 + 1))) then (if (mn (x0.length : Int) (wrap64 (x6 + 1))) ≤ (x0.length : Int) then (if 0 ≤ (mn (x1.length : Int) (wrap64 (x6 + 1))) then (if (mn (x1.length : Int) (wrap64 (x6 + 1))) ≤ (x1.length : Int) then ((settle_Dispute.f k (x0.take ((mn (x0.length : Int) (wrap64 (x6 + 1))) : Int).toNat) (x1.take ((mn (x1.length : Int) (wrap64 (x6 + 1))) : Int).toNat)).bind fun bt466 => (if x5 = true then (if x6 = (x0.length : Int) then (if bt466.1 = x6 then (if bt466.2.1 = true then (some (bt466.2.2 == 0)) else (none)) else (none)) else (if x6 = (x1.length : Int) then (if bt466.1 = x6 then (if bt466.2.1 = true then (some (bt466.2.2 == 0)) else (none)) else (none)) else (if 0 ≤ x6 then (if x6 < (x0.length : Int) then (if x6 < (x1.length : Int) then (if (!(((rd_T49 x0 x6).f0) == ((rd_T49 x1 x6).f0)) || (!(((rd_T49 x0 x6).f1) == ((rd_T49 x1 x6).f1)) || (!(((rd_T49 x0 x6).f2) == ((rd_T49 x1 x6).f2)) || (!(((rd_T49 x0 x6).f3) == ((rd_T49 x1 x6).f3)) || (!(((rd_T49 x0 x6).f4) == ((rd_T49 x1 x6).f4))))))) = true then (if bt466.1 = x6 then (if bt466.2.1 = true then (some (bt466.2.2 == 0)) else (none)) else (none)) else (none)) else (none)) else (none)) else (none)))) else (none))) else (none)) else (none)) else (none)) else (none))
def chargeparklaw42_SettleDispute.l0 : Nat → List (S49) → List (S49) → Bool → Int → Int → Option (Bool)
 | 0, _, _, _, _, _ => none
 | k + 1, x0, x1, x5, x6, x12 => if x12 < (x0.length : Int) then (if x12 < (x1.length : Int) then (if x5 = true then (if 0 ≤ x12 then (chargeparklaw42_SettleDispute.l0 k x0 x1 (((rd_T49 x0 x12).f0) == ((rd_T49 x1 x12).f0) && (((rd_T49 x0 x12).f1) == ((rd_T49 x1 x12).f1) && (((rd_T49 x0 x12).f2) == ((rd_T49 x1 x12).f2) && (((rd_T49 x0 x12).f3) == ((rd_T49 x1 x12).f3) && (((rd_T49 x0 x12).f4) == ((rd_T49 x1 x12).f4)))))) x6 (wrap64 (x12 + 1))) else (none)) else (chargeparklaw42_SettleDispute.l0 k x0 x1 false x6 (wrap64 (x12 + 1)))) else (if x5 = true then (if (x0.length : Int) = (x1.length : Int) then (some (x6 == 0)) else (none)) else (none))) else (if x5 = true then (if (x0.length : Int) = (x1.length : Int) then (some (x6 == 0)) else (none)) else (none))
end
def chargeparklaw42_SettleDispute.f (k : Nat) (l0 : List (S49)) (l1 : List (S49)) : Option (Bool) := (chargeparklaw42_head.f k).bind fun t447 => (if (l0.length : Int) > 64 then (chargeparklaw42_SettleDispute.j0 k l0 l1 t447 true) else (chargeparklaw42_SettleDispute.j0 k l0 l1 t447 (decide ((l1.length : Int) > 64))))
theorem chargeparklaw42_SettleDispute.mono_l : ∀ k, (∀ y0 y1 y2 y3, LeO (chargeparklaw42_SettleDispute.j0 k y0 y1 y2 y3) (chargeparklaw42_SettleDispute.j0 (k + 1) y0 y1 y2 y3)) ∧ (∀ y0 y1 y2 y3 y4 y5, LeO (chargeparklaw42_SettleDispute.j1 k y0 y1 y2 y3 y4 y5) (chargeparklaw42_SettleDispute.j1 (k + 1) y0 y1 y2 y3 y4 y5)) ∧ (∀ y0 y1 y2 y3 y4, LeO (chargeparklaw42_SettleDispute.j3 k y0 y1 y2 y3 y4) (chargeparklaw42_SettleDispute.j3 (k + 1) y0 y1 y2 y3 y4)) ∧ (∀ y0 y1 y2 y3 y4, LeO (chargeparklaw42_SettleDispute.l1 k y0 y1 y2 y3 y4) (chargeparklaw42_SettleDispute.l1 (k + 1) y0 y1 y2 y3 y4)) ∧ (∀ y0 y1 y2 y3 y4, LeO (chargeparklaw42_SettleDispute.l0 k y0 y1 y2 y3 y4) (chargeparklaw42_SettleDispute.l0 (k + 1) y0 y1 y2 y3 y4))
 | 0 => ⟨fun _ _ _ _ r h => by simp [chargeparklaw42_SettleDispute.j0] at h, fun _ _ _ _ _ _ r h => by simp [chargeparklaw42_SettleDispute.j1] at h, fun _ _ _ _ _ r h => by simp [chargeparklaw42_SettleDispute.j3] at h, fun _ _ _ _ _ r h => by simp [chargeparklaw42_SettleDispute.l1] at h, fun _ _ _ _ _ r h => by simp [chargeparklaw42_SettleDispute.l0] at h⟩
 | k + 1 => by
  obtain ⟨ih0, ih1, ih2, ih3, ih4⟩ := chargeparklaw42_SettleDispute.mono_l k
  refine ⟨?_, ?_, ?_, ?_, ?_⟩
  ·intro y0 y1 y2 y3
   unfold chargeparklaw42_SettleDispute.j0
   repeat' first
   | (with_reducible exact ih0 _ _ _ _)
   | (with_reducible exact ih1 _ _ _ _ _ _)
   | (with_reducible exact ih2 _ _ _ _ _)
   | (with_reducible exact ih3 _ _ _ _ _)
   | (with_reducible exact ih4 _ _ _ _ _)
   | (with_reducible exact chargeparklaw42_head.mono _)
   | (with_reducible exact settle_Dispute.mono _ _ _)
   | (with_reducible exact LeO.refl _)
   | (with_reducible exact LeO.none _)
   | (with_reducible refine LeO.ite ?_ ?_)
   | (with_reducible refine LeO.bind ?_ (fun _ => ?_))
   | exact ih0 _ _ _ _
   | exact ih1 _ _ _ _ _ _
   | exact ih2 _ _ _ _ _
   | exact ih3 _ _ _ _ _
   | exact ih4 _ _ _ _ _
   | exact chargeparklaw42_head.mono _
   | exact settle_Dispute.mono _ _ _
   | exact LeO.none _
   | refine LeO.ite ?_ ?_
   | refine LeO.bind ?_ (fun _ => ?_)
  ·intro y0 y1 y2 y3 y4 y5
   unfold chargeparklaw42_SettleDispute.j1
   repeat' first
   | (with_reducible exact ih0 _ _ _ _)
   | (with_reducible exact ih1 _ _ _ _ _ _)
   | (with_reducible exact ih2 _ _ _ _ _)
   | (with_reducible exact ih3 _ _ _ _ _)
   | (with_reducible exact ih4 _ _ _ _ _)
   | (with_reducible exact chargeparklaw42_head.mono _)
   | (with_reducible exact settle_Dispute.mono _ _ _)
   | (with_reducible exact LeO.refl _)
   | (with_reducible exact LeO.none _)
   | (with_reducible refine LeO.ite ?_ ?_)
   | (with_reducible refine LeO.bind ?_ (fun _ => ?_))
   | exact ih0 _ _ _ _
   | exact ih1 _ _ _ _ _ _
   | exact ih2 _ _ _ _ _
   | exact ih3 _ _ _ _ _
   | exact ih4 _ _ _ _ _
   | exact chargeparklaw42_head.mono _
   | exact settle_Dispute.mono _ _ _
   | exact LeO.none _
   | refine LeO.ite ?_ ?_
   | refine LeO.bind ?_ (fun _ => ?_)
  ·intro y0 y1 y2 y3 y4
   unfold chargeparklaw42_SettleDispute.j3
   repeat' first
   | (with_reducible exact ih0 _ _ _ _)
   | (with_reducible exact ih1 _ _ _ _ _ _)
   | (with_reducible exact ih2 _ _ _ _ _)
   | (with_reducible exact ih3 _ _ _ _ _)
   | (with_reducible exact ih4 _ _ _ _ _)
   | (with_reducible exact chargeparklaw42_head.mono _)
   | (with_reducible exact settle_Dispute.mono _ _ _)
   | (with_reducible exact LeO.refl _)
   | (with_reducible exact LeO.none _)
   | (with_reducible refine LeO.ite ?_ ?_)
   | (with_reducible refine LeO.bind ?_ (fun _ => ?_))
   | exact ih0 _ _ _ _
   | exact ih1 _ _ _ _ _ _
   | exact ih2 _ _ _ _ _
   | exact ih3 _ _ _ _ _
   | exact ih4 _ _ _ _ _
   | exact chargeparklaw42_head.mono _
   | exact settle_Dispute.mono _ _ _
   | exact LeO.none _
   | refine LeO.ite ?_ ?_
   | refine LeO.bind ?_ (fun _ => ?_)
  ·intro y0 y1 y2 y3 y4
   unfold chargeparklaw42_SettleDispute.l1
   repeat' first
   | (with_reducible exact ih0 _ _ _ _)
   | (with_reducible exact ih1 _ _ _ _ _ _)
   | (with_reducible exact ih2 _ _ _ _ _)
   | (with_reducible exact ih3 _ _ _ _ _)
   | (with_reducible exact ih4 _ _ _ _ _)
   | (with_reducible exact chargeparklaw42_head.mono _)
   | (with_reducible exact settle_Dispute.mono _ _ _)
   | (with_reducible exact LeO.refl _)
   | (with_reducible exact LeO.none _)
   | (with_reducible refine LeO.ite ?_ ?_)
   | (with_reducible refine LeO.bind ?_ (fun _ => ?_))
   | exact ih0 _ _ _ _
   | exact ih1 _ _ _ _ _ _
   | exact ih2 _ _ _ _ _
   | exact ih3 _ _ _ _ _
   | exact ih4 _ _ _ _ _
   | exact chargeparklaw42_head.mono _
   | exact settle_Dispute.mono _ _ _
   | exact LeO.none _
   | refine LeO.ite ?_ ?_
   | refine LeO.bind ?_ (fun _ => ?_)
  ·intro y0 y1 y2 y3 y4
   unfold chargeparklaw42_SettleDispute.l0
   repeat' first
   | (with_reducible exact ih0 _ _ _ _)
   | (with_reducible exact ih1 _ _ _ _ _ _)
   | (with_reducible exact ih2 _ _ _ _ _)
   | (with_reducible exact ih3 _ _ _ _ _)
   | (with_reducible exact ih4 _ _ _ _ _)
   | (with_reducible exact chargeparklaw42_head.mono _)
   | (with_reducible exact settle_Dispute.mono _ _ _)
   | (with_reducible exact LeO.refl _)
   | (with_reducible exact LeO.none _)
   | (with_reducible refine LeO.ite ?_ ?_)
   | (with_reducible refine LeO.bind ?_ (fun _ => ?_))
   | exact ih0 _ _ _ _
   | exact ih1 _ _ _ _ _ _
   | exact ih2 _ _ _ _ _
   | exact ih3 _ _ _ _ _
   | exact ih4 _ _ _ _ _
   | exact chargeparklaw42_head.mono _
   | exact settle_Dispute.mono _ _ _
   | exact LeO.none _
   | refine LeO.ite ?_ ?_
   | refine LeO.bind ?_ (fun _ => ?_)
theorem chargeparklaw42_SettleDispute.mono : ∀ a0 a1 k, LeO (chargeparklaw42_SettleDispute.f k a0 a1) (chargeparklaw42_SettleDispute.f (k + 1) a0 a1) := by
 intro a0 a1 k
 obtain ⟨ih0, ih1, ih2, ih3, ih4⟩ := chargeparklaw42_SettleDispute.mono_l k
 unfold chargeparklaw42_SettleDispute.f
 repeat' first
   | (with_reducible exact ih0 _ _ _ _)
   | (with_reducible exact ih1 _ _ _ _ _ _)
   | (with_reducible exact ih2 _ _ _ _ _)
   | (with_reducible exact ih3 _ _ _ _ _)
   | (with_reducible exact ih4 _ _ _ _ _)
   | (with_reducible exact chargeparklaw42_head.mono _)
   | (with_reducible exact settle_Dispute.mono _ _ _)
   | (with_reducible exact LeO.refl _)
   | (with_reducible exact LeO.none _)
   | (with_reducible refine LeO.ite ?_ ?_)
   | (with_reducible refine LeO.bind ?_ (fun _ => ?_))
   | exact ih0 _ _ _ _
   | exact ih1 _ _ _ _ _ _
   | exact ih2 _ _ _ _ _
   | exact ih3 _ _ _ _ _
   | exact ih4 _ _ _ _ _
   | exact chargeparklaw42_head.mono _
   | exact settle_Dispute.mono _ _ _
   | exact LeO.none _
   | refine LeO.ite ?_ ?_
   | refine LeO.bind ?_ (fun _ => ?_)
def chargeparklaw42_SettleDispute.T12 : Bool × List (List Nat × List Nat) := (true, [([], []), ([0], [0]), ([1], [1]), ([1], [1]), ([2, 3, 1], [1, 2, 3]), ([4, 1], [1, 4]), ([1], [1]), ([1], [1]), ([6, 7, 1], [1, 6, 7]), ([8, 1], [1, 8]), ([5, 9, 1], [1, 5, 9]), ([1, 10], [1, 10]), ([11, 1, 0, 1, 2, 3, 4, 5, 6, 7, 8, 9, 10, 11], [0, 11])])
def chargeparklaw42_SettleDispute.B12 : List Nat := [0, 1, 3, 3, 15, 31, 3, 3, 195, 451, 1023, 2047, 4095]
theorem chargeparklaw42_SettleDispute.tab12 : rtab .any (opsOf Try.f8 12) = chargeparklaw42_SettleDispute.T12 := by kernel_rfl
theorem chargeparklaw42_SettleDispute.bits12 : waitsOk chargeparklaw42_SettleDispute.T12.2 chargeparklaw42_SettleDispute.B12 = true := by kernel_rfl
def chargeparklaw42_SettleDispute.T19 : Bool × List (List Nat × List Nat) := (true, [([], []), ([0], [0]), ([1], [1]), ([1], [1]), ([2, 3, 1], [1, 2, 3]), ([4, 1], [1, 4]), ([1], [1]), ([1], [1]), ([6, 7, 1], [1, 6, 7]), ([8, 1], [1, 8]), ([5, 9, 1], [1, 5, 9]), ([1, 10], [1, 10]), ([11, 1, 0, 1, 2, 3, 4, 5, 6, 7, 8, 9, 10, 11], [0, 11])])
def chargeparklaw42_SettleDispute.B19 : List Nat := [0, 1, 3, 3, 15, 31, 3, 3, 195, 451, 1023, 2047, 4095]
theorem chargeparklaw42_SettleDispute.tab19 : rtab .any (opsOf Try.f8 19) = chargeparklaw42_SettleDispute.T19 := by kernel_rfl
theorem chargeparklaw42_SettleDispute.bits19 : waitsOk chargeparklaw42_SettleDispute.T19.2 chargeparklaw42_SettleDispute.B19 = true := by kernel_rfl
def chargeparklaw42_SettleDispute.T20 : Bool × List (List Nat × List Nat) := (true, [([], []), ([], []), ([1], [1]), ([], []), ([3], [3]), ([2, 4], [2, 4]), ([0, 5], [0, 5]), ([], []), ([], []), ([8], [8]), ([], []), ([10], [10]), ([9, 11], [9, 11]), ([7, 12], [7, 12]), ([6, 13], [6, 13]), ([14], [14]), ([15], [15]), ([15], [15]), ([15], [15]), ([16, 14, 0, 1, 2, 3, 4, 5, 6, 7, 8, 9, 10, 11, 12, 13, 14, 15, 16], [16]), ([17, 19, 0, 1, 2, 3, 4, 5, 6, 7, 8, 9, 10, 11, 12, 13, 14, 15, 16, 17, 19], [17]), ([18, 20, 0, 1, 2, 3, 4, 5, 6, 7, 8, 9, 10, 11, 12, 13, 14, 15, 16, 17, 18, 19, 20], [18])])
def chargeparklaw42_SettleDispute.B20 : List Nat := [0, 0, 2, 0, 8, 30, 63, 0, 0, 256, 0, 1024, 3840, 8064, 16383, 32767, 65535, 65535, 65535, 131071, 786431, 2097151]
theorem chargeparklaw42_SettleDispute.tab20 : rtab .any (opsOf Try.f8 20) = chargeparklaw42_SettleDispute.T20 := by kernel_rfl
theorem chargeparklaw42_SettleDispute.bits20 : waitsOk chargeparklaw42_SettleDispute.T20.2 chargeparklaw42_SettleDispute.B20 = true := by kernel_rfl
def chargeparklaw42_SettleDispute.T21 : Bool × List (List Nat × List Nat) := (true, [([], []), ([0], [0]), ([1], [1]), ([1], [1]), ([3, 1], [1, 3]), ([2, 4, 1], [1, 2, 4]), ([5, 1, 1], [1, 5]), ([6], [6]), ([6], [6]), ([8, 6], [6, 8]), ([7, 9, 6], [6, 7, 9]), ([6, 10, 1], [1, 6, 10]), ([11, 6, 1], [1, 11]), ([12], [12]), ([12], [12]), ([13, 14, 12], [12, 13, 14]), ([15, 12], [12, 15]), ([12], [12]), ([12], [12]), ([17, 18, 12], [12, 17, 18]), ([19, 12], [12, 19]), ([16, 20, 12], [12, 16, 20]), ([12, 21, 1], [1, 12, 21]), ([1, 22], [1, 22]), ([23, 12], [23]), ([24], [24]), ([24], [24]), ([25, 26, 24], [24, 25, 26]), ([24, 27], [24, 27]), ([28, 24], [28]), ([29], [29]), ([29, 30], [29, 30]), ([31, 29], [31]), ([32], [32]), ([33, 32], [32, 33]), ([32, 34], [32, 34]), ([35, 32, 0, 1, 2, 3, 4, 5, 6, 7, 8, 9, 10, 11, 12, 13, 14, 15, 16, 17, 18, 19, 20, 21, 22, 23, 24, 25, 26, 27, 28, 29, 30, 31, 32, 33, 34, 35], [35])])
def chargeparklaw42_SettleDispute.B21 : List Nat := [0, 1, 3, 3, 11, 31, 63, 127, 127, 383, 1023, 2047, 4095, 8191, 8191, 32767, 65535, 8191, 8191, 401407, 925695, 2097151, 4194303, 8388607, 16777215, 33554431, 33554431, 134217727, 268435455, 536870911, 1073741823, 2147483647, 4294967295, 8589934591, 17179869183, 34359738367, 68719476735]
theorem chargeparklaw42_SettleDispute.tab21 : rtab .any (opsOf Try.f8 21) = chargeparklaw42_SettleDispute.T21 := by kernel_rfl
theorem chargeparklaw42_SettleDispute.bits21 : waitsOk chargeparklaw42_SettleDispute.T21.2 chargeparklaw42_SettleDispute.B21 = true := by kernel_rfl
set_option maxHeartbeats 8000000 in
set_option maxRecDepth 100000 in
theorem chargeparklaw42_SettleDispute.calls (k : Nat) (A0 : Option Addr) (c0 : Nat) (l0 : List (S49)) (A1 : Option Addr) (c1 : Nat) (l1 : List (S49)) (r : Bool) (w : World) (hr0 : Kd.C k49 w A0 l0.length l0) (hc0 : l0.length ≤ c0) (hr1 : Kd.C k49 w A1 l1.length l1) (hc1 : l1.length ≤ c1) (h : chargeparklaw42_SettleDispute.f k l0 l1 = some r) :
  Calls Try.prog 8 #[.slice A0 l0.length c0, .slice A1 l1.length c1] w fun e w' => e = .returned (.bool r) ∧ Below w.heap.size w w' := by
 have hu49 := Try.underlying49
 have HR0 := Aside0.mk hr0
 have HC0 := Aside0.mk hc0
 clear hr0 hc0
 have HR1 := Aside0.mk hr1
 have HC1 := Aside0.mk hc1
 clear hr1 hc1
 have HB := Aside0.mk (Below.refl w.heap.size w)
 have H : ((chargeparklaw42_head.f k).bind fun t447 => (if (l0.length : Int) > 64 then (chargeparklaw42_SettleDispute.j0 k l0 l1 t447 true) else (chargeparklaw42_SettleDispute.j0 k l0 l1 t447 (decide ((l1.length : Int) > 64))))) = some r := h
 clear h
 replace H := Option.bind_eq_some_iff.mp H
 obtain ⟨t447, A30, H⟩ := H
 replace H : (if (l0.length : Int) > 64 then (chargeparklaw42_SettleDispute.j0 k l0 l1 t447 true) else (chargeparklaw42_SettleDispute.j0 k l0 l1 t447 (decide ((l1.length : Int) > 64)))) = some r := H
 have A3 := Aside0.mk A30
 clear A30
 have HC4 := Aside0.mk H
 clear H
 go_enter Try.func8, Try.ntmps8
 go_upto_region 2 with (first | ((with_reducible refine gate_callee (f := 9) rfl ?_); refine goesL_ (some 17) rfl rfl Try.func9 (by kernel_rfl) rfl #[] rfl (by (try simp only [List.map_toArray, List.map_cons, List.map_nil]); first | done | rfl | (simp only [List.length_drop, List.length_take]; rfl)) ?_; (with_reducible refine (chargeparklaw42_head.calls k  t447 _ A3.out).mono ?_); rintro e w5 ⟨rfl, hb⟩; refine ⟨_, rfl, ?_⟩; have n0_ := Aside0.mk (below_step (by repeat (first | (with_reducible first | exact HB.out | apply below_alloc | apply pw_below_drewN | apply below_drew1) | exact HB.out)) hb); clear HB; have HB := n0_; clear n0_; (try clear hb); (try clear hb2); (try clear hk); (try clear hi)))
 (try simp only [Act.put, List.setIfInBounds_toArray, List.set_cons_zero, List.set_cons_succ])
 go_cut [25] (fun v25 wc => ∃ (kq : Nat) (x25_3 : Bool), v25 = .bool x25_3 ∧ Aside0 (chargeparklaw42_SettleDispute.j0 kq l0 l1 t447 x25_3 = some r) ∧ Aside0 (kq ≤ k) ∧ Aside0 (Below w.heap.size w wc))
 case first =>
  have H := HC4.out
  clear HC4
  by_cases c6 : (l0.length : Int) > 64
  ·rw [if_pos c6] at H
   have c6b0 : decide (64 < (l0.length : Int)) = true := decide_eq_true c6
   have c6b1 : decide (64 < l0.length) = true := decide_eq_true (by omega)
   clear c6
   (first | rw [c6b0] | (simp only [i64_w, i32_w]; rw [c6b0]) | skip)
   have H' := Aside0.mk H
   clear H
   go_wp2
   go_meet
   case rel => exact ⟨_, (true), (by first | rfl | (simp; done) | (simp [*]; done)), H', ⟨by first | omega | exact Nat.le_refl _⟩, ⟨by repeat (first | (with_reducible first | exact HB.out | apply below_alloc | apply pw_below_drewN | apply below_drew1) | exact HB.out)⟩⟩
  ·rw [if_neg c6] at H
   have c6b0 : decide (64 < (l0.length : Int)) = false := decide_eq_false c6
   have c6b1 : decide (64 < l0.length) = false := decide_eq_false (by omega)
   clear c6
   (first | rw [c6b0] | (simp only [i64_w, i32_w]; rw [c6b0]) | skip)
   have H' := Aside0.mk H
   clear H
   go_wp2
   go_meet
   case rel => exact ⟨_, (decide ((l1.length : Int) > 64)), (by first | rfl | (simp; done) | (simp [*]; done)), H', ⟨by first | omega | exact Nat.le_refl _⟩, ⟨by repeat (first | (with_reducible first | exact HB.out | apply below_alloc | apply pw_below_drewN | apply below_drew1) | exact HB.out)⟩⟩
 case rest =>
  clear HC4
  try clear c1
  try clear p2
  try clear c6
  try clear c6b0
  try clear c6b1
  obtain ⟨kq, x25_3, rfl, HA, HJ3, HB⟩ := hcut
  cases kq with
  | zero => exact absurd HA.out (by simp [chargeparklaw42_SettleDispute.j0])
  | succ kj3 =>
   have H := HA.out
   clear HA
   simp only [chargeparklaw42_SettleDispute.j0] at H
   by_cases c7 : x25_3 = true
   ·subst c7
    have H1 : (some t447) = some r := by rw [if_pos rfl] at H; exact H
    clear H
    have H := H1
    clear H1
    obtain rfl := Option.some.inj H
    go_wp2
    go_ret
    exact ⟨by first | rfl | (simp [errW_none, errW_some] <;> rfl) | (simp [*, errW_none, errW_some] <;> rfl), by repeat (first | (with_reducible first | exact HB.out | apply below_alloc | apply pw_below_drewN | apply below_drew1) | exact HB.out)⟩
   ·as_aux_lemma =>
    replace c7 := Bool.eq_false_iff.mpr c7
    subst c7
    have H1 : ((settle_Dispute.f kj3 l0 l1).bind fun bt448 => ((settle_Dispute.f kj3 l1 l0).bind fun bt451 => (if bt448.2.2 = 0 then (if bt451.2.2 = 0 then (if bt448.1 = bt451.1 then (if (bt448.2.1 != bt451.2.1) = true then (chargeparklaw42_SettleDispute.j1 kj3 l0 l1 t447 bt448.1 bt448.2.1 true) else (chargeparklaw42_SettleDispute.j1 kj3 l0 l1 t447 bt448.1 bt448.2.1 (decide (bt448.1 < 0)))) else (chargeparklaw42_SettleDispute.j1 kj3 l0 l1 t447 bt448.1 bt448.2.1 true)) else (chargeparklaw42_SettleDispute.j1 kj3 l0 l1 t447 bt448.1 bt448.2.1 true)) else (chargeparklaw42_SettleDispute.j1 kj3 l0 l1 t447 bt448.1 bt448.2.1 true)))) = some r := by rw [if_neg (show ¬ (false = true) by decide)] at H; exact H
    clear H
    have H := H1
    clear H1
    replace H := Option.bind_eq_some_iff.mp H
    obtain ⟨⟨t448, t449, t450⟩, A80, H⟩ := H
    replace H : ((settle_Dispute.f kj3 l1 l0).bind fun bt451 => (if t450 = 0 then (if bt451.2.2 = 0 then (if t448 = bt451.1 then (if (t449 != bt451.2.1) = true then (chargeparklaw42_SettleDispute.j1 kj3 l0 l1 t447 t448 t449 true) else (chargeparklaw42_SettleDispute.j1 kj3 l0 l1 t447 t448 t449 (decide (t448 < 0)))) else (chargeparklaw42_SettleDispute.j1 kj3 l0 l1 t447 t448 t449 true)) else (chargeparklaw42_SettleDispute.j1 kj3 l0 l1 t447 t448 t449 true)) else (chargeparklaw42_SettleDispute.j1 kj3 l0 l1 t447 t448 t449 true))) = some r := H
    have A8 := Aside0.mk A80
    clear A80
    replace H := Option.bind_eq_some_iff.mp H
    obtain ⟨⟨t451, t452, t453⟩, A90, H⟩ := H
    replace H : (if t450 = 0 then (if t453 = 0 then (if t448 = t451 then (if (t449 != t452) = true then (chargeparklaw42_SettleDispute.j1 kj3 l0 l1 t447 t448 t449 true) else (chargeparklaw42_SettleDispute.j1 kj3 l0 l1 t447 t448 t449 (decide (t448 < 0)))) else (chargeparklaw42_SettleDispute.j1 kj3 l0 l1 t447 t448 t449 true)) else (chargeparklaw42_SettleDispute.j1 kj3 l0 l1 t447 t448 t449 true)) else (chargeparklaw42_SettleDispute.j1 kj3 l0 l1 t447 t448 t449 true)) = some r := H
    have A9 := Aside0.mk A90
    clear A90
    have HC10 := Aside0.mk H
    clear H
    go_upto_region 6 with (first | ((with_reducible refine gate_callee (f := 14) rfl ?_); refine goesL_ (some 30) rfl rfl Try.func14 (by kernel_rfl) rfl #[.slice A0 l0.length c0, .slice A1 l1.length c1] rfl (by (try simp only [List.map_toArray, List.map_cons, List.map_nil]); first | done | rfl | (simp only [List.length_drop, List.length_take]; rfl)) ?_; (with_reducible refine (settle_Dispute.calls kj3 _ _ l0 _ _ l1 t448 t449 t450 _ ?side1 ?side2 ?side3 ?side4 A8.out).mono ?_); (case side1 => repeat (first | exact (Kd.C_below HR0.out HB.out) | (with_reducible refine Kd.C_alloc ?_ _) | (with_reducible refine Kd.C_drewN ?_ _) | (with_reducible refine Kd.C_drew ?_))); (case side2 => exact HC0.out); (case side3 => repeat (first | exact (Kd.C_below HR1.out HB.out) | (with_reducible refine Kd.C_alloc ?_ _) | (with_reducible refine Kd.C_drewN ?_ _) | (with_reducible refine Kd.C_drew ?_))); (case side4 => exact HC1.out); rintro e w11 ⟨rfl, hb⟩; refine ⟨_, rfl, ?_⟩; have n0_ := Aside0.mk (below_step (by repeat (first | (with_reducible first | exact HB.out | apply below_alloc | apply pw_below_drewN | apply below_drew1) | exact HB.out)) hb); clear HB; have HB := n0_; clear n0_; (try clear hb); (try clear hb2); (try clear hk); (try clear hi)) | ((with_reducible refine gate_callee (f := 14) rfl ?_); refine goesL_ (some 37) rfl rfl Try.func14 (by kernel_rfl) rfl #[.slice A1 l1.length c1, .slice A0 l0.length c0] rfl (by (try simp only [List.map_toArray, List.map_cons, List.map_nil]); first | done | rfl | (simp only [List.length_drop, List.length_take]; rfl)) ?_; (with_reducible refine (settle_Dispute.calls kj3 _ _ l1 _ _ l0 t451 t452 t453 _ ?side1 ?side2 ?side3 ?side4 A9.out).mono ?_); (case side1 => repeat (first | exact (Kd.C_below HR1.out HB.out) | (with_reducible refine Kd.C_alloc ?_ _) | (with_reducible refine Kd.C_drewN ?_ _) | (with_reducible refine Kd.C_drew ?_))); (case side2 => exact HC1.out); (case side3 => repeat (first | exact (Kd.C_below HR0.out HB.out) | (with_reducible refine Kd.C_alloc ?_ _) | (with_reducible refine Kd.C_drewN ?_ _) | (with_reducible refine Kd.C_drew ?_))); (case side4 => exact HC0.out); rintro e w12 ⟨rfl, hb⟩; refine ⟨_, rfl, ?_⟩; have n0_ := Aside0.mk (below_step (by repeat (first | (with_reducible first | exact HB.out | apply below_alloc | apply pw_below_drewN | apply below_drew1) | exact HB.out)) hb); clear HB; have HB := n0_; clear n0_; (try clear hb); (try clear hb2); (try clear hk); (try clear hi)))
    (try simp only [Act.put, List.setIfInBounds_toArray, List.set_cons_zero, List.set_cons_succ])
    go_cut [60] (fun v60 wc => ∃ (kq : Nat) (x60_9 : Bool), v60 = .bool x60_9 ∧ Aside0 (chargeparklaw42_SettleDispute.j1 kq l0 l1 t447 t448 t449 x60_9 = some r) ∧ Aside0 (kq ≤ kj3) ∧ Aside0 (Below w.heap.size w wc))
    case first =>
     have H := HC10.out
     clear HC10
     by_cases c13 : t450 = 0
     ·rw [if_pos c13] at H
      have c13b0 : (t450 == 0) = true := beq_iff_eq.mpr c13
      have c13b1 : (t450 != 0) = false := bne_eq_false_iff_eq.mpr c13
      clear c13
      (first | rw [c13b0] | (simp only [i64_w, i32_w]; rw [c13b0]) | skip)
      by_cases c14 : t453 = 0
      ·rw [if_pos c14] at H
       have c14b0 : (t453 == 0) = true := beq_iff_eq.mpr c14
       have c14b1 : (t453 != 0) = false := bne_eq_false_iff_eq.mpr c14
       clear c14
       by_cases c15 : t448 = t451
       ·rw [if_pos c15] at H
        have c15b0 : (t448 == t451) = true := beq_iff_eq.mpr c15
        have c15b1 : (t448 != t451) = false := bne_eq_false_iff_eq.mpr c15
        clear c15
        by_cases c16 : (t449 != t452) = true
        ·rw [if_pos c16] at H
         have c16b0 : (t449 != t452) = true := c16
         (try (have c16b1 : decide (t449 = t452) = false := by simpa using c16))
         (try (have c16b2 : (t449 == t452) = false := by simpa using c16))
         (try (have c16b3 : ¬ (t449 = t452) := by simpa using c16))
         clear c16
         have H' := Aside0.mk H
         clear H
         go_wp2
         go_meet
         case rel => exact ⟨_, (true), (by first | rfl | (simp; done) | (simp [*]; done)), H', ⟨by have := HJ3.out; first | omega | exact Nat.le_refl _⟩, ⟨by repeat (first | (with_reducible first | exact HB.out | apply below_alloc | apply pw_below_drewN | apply below_drew1) | exact HB.out)⟩⟩
        ·rw [if_neg c16] at H
         have c16b0 : (t449 != t452) = false := by simpa using c16
         (try (have c16b1 : decide (t449 = t452) = true := by simpa using c16))
         (try (have c16b2 : (t449 == t452) = true := by simpa using c16))
         clear c16
         have H' := Aside0.mk H
         clear H
         go_wp2
         go_meet
         case rel => exact ⟨_, (decide (t448 < 0)), (by first | rfl | (simp; done) | (simp [*]; done)), H', ⟨by have := HJ3.out; first | omega | exact Nat.le_refl _⟩, ⟨by repeat (first | (with_reducible first | exact HB.out | apply below_alloc | apply pw_below_drewN | apply below_drew1) | exact HB.out)⟩⟩
       ·rw [if_neg c15] at H
        have c15b0 : (t448 == t451) = false := beq_eq_false_iff_ne.mpr c15
        have c15b1 : (t448 != t451) = true := bne_iff_ne.mpr c15
        have H' := Aside0.mk H
        clear H
        go_wp2
        go_meet
        case rel => exact ⟨_, (true), (by first | rfl | (simp; done) | (simp [*]; done)), H', ⟨by have := HJ3.out; first | omega | exact Nat.le_refl _⟩, ⟨by repeat (first | (with_reducible first | exact HB.out | apply below_alloc | apply pw_below_drewN | apply below_drew1) | exact HB.out)⟩⟩
      ·rw [if_neg c14] at H
       have c14b0 : (t453 == 0) = false := beq_eq_false_iff_ne.mpr c14
       have c14b1 : (t453 != 0) = true := bne_iff_ne.mpr c14
       have H' := Aside0.mk H
       clear H
       go_wp2
       go_meet
       case rel => exact ⟨_, (true), (by first | rfl | (simp; done) | (simp [*]; done)), H', ⟨by have := HJ3.out; first | omega | exact Nat.le_refl _⟩, ⟨by repeat (first | (with_reducible first | exact HB.out | apply below_alloc | apply pw_below_drewN | apply below_drew1) | exact HB.out)⟩⟩
     ·rw [if_neg c13] at H
      have c13b0 : (t450 == 0) = false := beq_eq_false_iff_ne.mpr c13
      have c13b1 : (t450 != 0) = true := bne_iff_ne.mpr c13
      (first | rw [c13b0] | (simp only [i64_w, i32_w]; rw [c13b0]) | skip)
      have H' := Aside0.mk H
      clear H
      go_wp2
      go_meet
      case rel => exact ⟨_, (true), (by first | rfl | (simp; done) | (simp [*]; done)), H', ⟨by have := HJ3.out; first | omega | exact Nat.le_refl _⟩, ⟨by repeat (first | (with_reducible first | exact HB.out | apply below_alloc | apply pw_below_drewN | apply below_drew1) | exact HB.out)⟩⟩
    case rest =>
     clear HC10
     try clear c1
     try clear p2
     try clear c6
     try clear c6b0
     try clear c6b1
     try clear c7
     try clear c8
     try clear c9
     try clear c13
     try clear c13b0
     try clear c13b1
     try clear c14
     try clear c14b0
     try clear c14b1
     try clear c15
     try clear c15b0
     try clear c15b1
     try clear c16
     try clear c16b0
     try clear c16b1
     try clear c16b2
     try clear p2
     obtain ⟨kq, x60_9, rfl, HA, HJ9, HB⟩ := hcut
     cases kq with
     | zero => exact absurd HA.out (by simp [chargeparklaw42_SettleDispute.j1])
     | succ kj9 =>
      have H := HA.out
      clear HA
      simp only [chargeparklaw42_SettleDispute.j1] at H
      by_cases c17 : x60_9 = true
      ·subst c17
       have H1 : (none) = some r := by rw [if_pos rfl] at H; exact H
       clear H
       have H := H1
       clear H1
       exact absurd H (by simp)
      ·as_aux_lemma =>
       replace c17 := Bool.eq_false_iff.mpr c17
       subst c17
       have H1 : (if t449 = true then (if t448 > (l0.length : Int) then (chargeparklaw42_SettleDispute.j3 kj9 l0 l1 t447 t448 true) else (if t448 > (l1.length : Int) then (chargeparklaw42_SettleDispute.j3 kj9 l0 l1 t447 t448 true) else (if t448 = (l0.length : Int) then (chargeparklaw42_SettleDispute.j3 kj9 l0 l1 t447 t448 (t448 == (l1.length : Int))) else (chargeparklaw42_SettleDispute.j3 kj9 l0 l1 t447 t448 false)))) else (chargeparklaw42_SettleDispute.l0 kj9 l0 l1 t447 t448 0)) = some r := by rw [if_neg (show ¬ (false = true) by decide)] at H; exact H
       clear H
       have H := H1
       clear H1
       by_cases c18 : t449 = true
       ·as_aux_lemma =>
        subst c18
        have H1 : (if t448 > (l0.length : Int) then (chargeparklaw42_SettleDispute.j3 kj9 l0 l1 t447 t448 true) else (if t448 > (l1.length : Int) then (chargeparklaw42_SettleDispute.j3 kj9 l0 l1 t447 t448 true) else (if t448 = (l0.length : Int) then (chargeparklaw42_SettleDispute.j3 kj9 l0 l1 t447 t448 (t448 == (l1.length : Int))) else (chargeparklaw42_SettleDispute.j3 kj9 l0 l1 t447 t448 false)))) = some r := by rw [if_pos rfl] at H; exact H
        clear H
        have H := H1
        clear H1
        have HC19 := Aside0.mk H
        clear H
        go_upto_region 14 with (fail)
        go_cut [120] (fun v120 wc => ∃ (kq : Nat) (x120_18 : Bool), v120 = .bool x120_18 ∧ Aside0 (chargeparklaw42_SettleDispute.j3 kq l0 l1 t447 t448 x120_18 = some r) ∧ Aside0 (kq ≤ kj9) ∧ Aside0 (Below w.heap.size w wc))
        case first =>
         have H := HC19.out
         clear HC19
         by_cases c20 : t448 > (l0.length : Int)
         ·rw [if_pos c20] at H
          have c20b0 : decide ((l0.length : Int) < t448) = true := decide_eq_true c20
          clear c20
          (first | rw [c20b0] | (simp only [i64_w, i32_w]; rw [c20b0]) | skip)
          have H' := Aside0.mk H
          clear H
          go_wp2
          go_meet
          case rel => exact ⟨_, (true), (by first | rfl | (simp; done) | (simp [*]; done)), H', ⟨by have := HJ3.out; have := HJ9.out; first | omega | exact Nat.le_refl _⟩, ⟨by repeat (first | (with_reducible first | exact HB.out | apply below_alloc | apply pw_below_drewN | apply below_drew1) | exact HB.out)⟩⟩
         ·rw [if_neg c20] at H
          have c20b0 : decide ((l0.length : Int) < t448) = false := decide_eq_false c20
          clear c20
          (first | rw [c20b0] | (simp only [i64_w, i32_w]; rw [c20b0]) | skip)
          by_cases c21 : t448 > (l1.length : Int)
          ·rw [if_pos c21] at H
           have c21b0 : decide ((l1.length : Int) < t448) = true := decide_eq_true c21
           clear c21
           have H' := Aside0.mk H
           clear H
           go_wp2
           go_meet
           case rel => exact ⟨_, (true), (by first | rfl | (simp; done) | (simp [*]; done)), H', ⟨by have := HJ3.out; have := HJ9.out; first | omega | exact Nat.le_refl _⟩, ⟨by repeat (first | (with_reducible first | exact HB.out | apply below_alloc | apply pw_below_drewN | apply below_drew1) | exact HB.out)⟩⟩
          ·rw [if_neg c21] at H
           have c21b0 : decide ((l1.length : Int) < t448) = false := decide_eq_false c21
           clear c21
           by_cases c22 : t448 = (l0.length : Int)
           ·rw [if_pos c22] at H
            have c22b0 : (t448 == (l0.length : Int)) = true := beq_iff_eq.mpr c22
            have c22b1 : (t448 != (l0.length : Int)) = false := bne_eq_false_iff_eq.mpr c22
            clear c22
            have H' := Aside0.mk H
            clear H
            go_wp2
            go_meet
            case rel => exact ⟨_, ((t448 == (l1.length : Int))), (by first | rfl | (simp; done) | (simp [*]; done)), H', ⟨by have := HJ3.out; have := HJ9.out; first | omega | exact Nat.le_refl _⟩, ⟨by repeat (first | (with_reducible first | exact HB.out | apply below_alloc | apply pw_below_drewN | apply below_drew1) | exact HB.out)⟩⟩
           ·rw [if_neg c22] at H
            have c22b0 : (t448 == (l0.length : Int)) = false := beq_eq_false_iff_ne.mpr c22
            have c22b1 : (t448 != (l0.length : Int)) = true := bne_iff_ne.mpr c22
            have H' := Aside0.mk H
            clear H
            go_wp2
            go_meet
            case rel => exact ⟨_, (false), (by first | rfl | (simp; done) | (simp [*]; done)), H', ⟨by have := HJ3.out; have := HJ9.out; first | omega | exact Nat.le_refl _⟩, ⟨by repeat (first | (with_reducible first | exact HB.out | apply below_alloc | apply pw_below_drewN | apply below_drew1) | exact HB.out)⟩⟩
        case rest =>
         clear HC19
         try clear c1
         try clear c2
         try clear p2
         try clear c6
         try clear c6b0
         try clear c6b1
         try clear c7
         try clear c8
         try clear c9
         try clear c13
         try clear c13b0
         try clear c13b1
         try clear c14
         try clear c14b0
         try clear c14b1
         try clear c15
         try clear c15b0
         try clear c15b1
         try clear c16
         try clear c16b0
         try clear c16b1
         try clear c16b2
         try clear c17
         try clear c18
         try clear c20
         try clear c20b0
         try clear c21
         try clear c21b0
         try clear c22
         try clear c22b0
         try clear c22b1
         try clear p2
         obtain ⟨kq, x120_18, rfl, HA, HJ18, HB⟩ := hcut
         cases kq with
         | zero => exact absurd HA.out (by simp [chargeparklaw42_SettleDispute.j3])
         | succ kj18 =>
          have H := HA.out
          clear HA
          simp only [chargeparklaw42_SettleDispute.j3] at H
          by_cases c23 : x120_18 = true
          ·subst c23
           have H1 : (none) = some r := by rw [if_pos rfl] at H; exact H
           clear H
           have H := H1
           clear H1
           exact absurd H (by simp)
          ·as_aux_lemma =>
           replace c23 := Bool.eq_false_iff.mpr c23
           subst c23
           have H1 : (chargeparklaw42_SettleDispute.l1 kj18 l0 l1 t447 t448 0) = some r := by rw [if_neg (show ¬ (false = true) by decide)] at H; exact H
           clear H
           have H := H1
           clear H1
           have H' := Aside0.mk H
           clear H
           go_wp2
           go_loopg [5, 13] kj18 (fun kq v5 v13 w' => ∃ (x5_4 : Bool) (x13_4 : Int), v5 = .bool x5_4 ∧ v13 = .int .i64 x13_4 ∧ Aside0 (chargeparklaw42_SettleDispute.l1 kq l0 l1 x5_4 t448 x13_4 = some r) ∧ Aside0 (kq ≤ kj18) ∧ Aside0 (Below w.heap.size w w'))
           case atStart => exact ⟨(t447), (0), (by first | rfl | (simp; done) | (simp [*]; done)), (by first | rfl | (simp; done) | (simp [*]; done)), H', ⟨Nat.le_refl _⟩, ⟨by repeat (first | (with_reducible first | exact HB.out | apply below_alloc | apply pw_below_drewN | apply below_drew1) | exact HB.out)⟩⟩
           case round =>
            clear H'
            try clear c1
            try clear c2
            try clear p2
            try clear c6
            try clear c6b0
            try clear c6b1
            try clear c7
            try clear c8
            try clear c9
            try clear c13
            try clear c13b0
            try clear c13b1
            try clear c14
            try clear c14b0
            try clear c14b1
            try clear c15
            try clear c15b0
            try clear c15b1
            try clear c16
            try clear c16b0
            try clear c16b1
            try clear c16b2
            try clear c17
            try clear c18
            try clear c20
            try clear c20b0
            try clear c21
            try clear c21b0
            try clear c22
            try clear c22b0
            try clear c22b1
            try clear c23
            try clear p2
            obtain ⟨x5_4, x13_4, rfl, rfl, HA, HK4, HB⟩ := hrel
            cases gk with
            | zero => exact absurd HA.out (by simp [chargeparklaw42_SettleDispute.l1])
            | succ k4 =>
             have H := HA.out
             clear HA
             simp only [chargeparklaw42_SettleDispute.l1] at H
             by_cases c24 : x13_4 < t448
             ·as_aux_lemma =>
              rw [if_pos c24] at H
              have c24b0 : decide (x13_4 < t448) = true := decide_eq_true c24
              clear c24
              by_cases c25 : x5_4 = true
              ·as_aux_lemma =>
               subst c25
               have H1 : (if 0 ≤ x13_4 then (if x13_4 < (l0.length : Int) then (if x13_4 < (l1.length : Int) then (chargeparklaw42_SettleDispute.l1 k4 l0 l1 (((rd_T49 l0 x13_4).f0) == ((rd_T49 l1 x13_4).f0) && (((rd_T49 l0 x13_4).f1) == ((rd_T49 l1 x13_4).f1) && (((rd_T49 l0 x13_4).f2) == ((rd_T49 l1 x13_4).f2) && (((rd_T49 l0 x13_4).f3) == ((rd_T49 l1 x13_4).f3) && (((rd_T49 l0 x13_4).f4) == ((rd_T49 l1 x13_4).f4)))))) t448 (wrap64 (x13_4 + 1))) else (none)) else (none)) else (none)) = some r := by rw [if_pos rfl] at H; exact H
               clear H
               have H := H1
               clear H1
               by_cases c26 : 0 ≤ x13_4
               ·as_aux_lemma =>
                rw [if_pos c26] at H
                have c26b0 : decide (0 ≤ x13_4) = true := decide_eq_true c26
                clear c26
                by_cases c27 : x13_4 < (l0.length : Int)
                ·as_aux_lemma =>
                 rw [if_pos c27] at H
                 have c27b0 : decide (x13_4 < (l0.length : Int)) = true := decide_eq_true c27
                 clear c27
                 by_cases c28 : x13_4 < (l1.length : Int)
                 ·as_aux_lemma =>
                  rw [if_pos c28] at H
                  have c28b0 : decide (x13_4 < (l1.length : Int)) = true := decide_eq_true c28
                  clear c28
                  have H' := Aside0.mk H
                  clear H
                  try go_wp2
                  have n0_ := Aside0.mk (below_drew1 HB.out)
                  clear HB
                  have HB := n0_
                  clear n0_
                  have p456 : 0 ≤ (x13_4 : Int) := of_decide_eq_true (by first | (with_reducible assumption) | assumption)
                  have q456 : x13_4 < (l0.length : Int) := of_decide_eq_true (by first | (with_reducible assumption) | assumption)
                  obtain ⟨ad456, e456, hx456_0, hx456_1, hx456_2, hx456_3, hx456_4⟩ := at_T49 HR0.out x13_4 p456 q456
                  have hw456_4 := hx456_4
                  have hw456_3 := hx456_3
                  have hw456_2 := hx456_2
                  have hw456_1 := hx456_1
                  have hw456_0 := hx456_0
                  cases e456
                  replace hx456_0 := (HB.out.cell (World.block_lt_of_cell? w _ hx456_0)).trans hx456_0
                  replace hx456_1 := (HB.out.cell (World.block_lt_of_cell? w _ hx456_1)).trans hx456_1
                  replace hx456_2 := (HB.out.cell (World.block_lt_of_cell? w _ hx456_2)).trans hx456_2
                  replace hx456_3 := (HB.out.cell (World.block_lt_of_cell? w _ hx456_3)).trans hx456_3
                  replace hx456_4 := (HB.out.cell (World.block_lt_of_cell? w _ hx456_4)).trans hx456_4
                  replace p456 := eq_true p456
                  replace q456 := eq_true q456
                  have p457 : 0 ≤ (x13_4 : Int) := of_decide_eq_true (by first | (with_reducible assumption) | assumption)
                  have q457 : x13_4 < (l1.length : Int) := of_decide_eq_true (by first | (with_reducible assumption) | assumption)
                  obtain ⟨ad457, e457, hx457_0, hx457_1, hx457_2, hx457_3, hx457_4⟩ := at_T49 HR1.out x13_4 p457 q457
                  have hw457_4 := hx457_4
                  have hw457_3 := hx457_3
                  have hw457_2 := hx457_2
                  have hw457_1 := hx457_1
                  have hw457_0 := hx457_0
                  cases e457
                  replace hx457_0 := (HB.out.cell (World.block_lt_of_cell? w _ hx457_0)).trans hx457_0
                  replace hx457_1 := (HB.out.cell (World.block_lt_of_cell? w _ hx457_1)).trans hx457_1
                  replace hx457_2 := (HB.out.cell (World.block_lt_of_cell? w _ hx457_2)).trans hx457_2
                  replace hx457_3 := (HB.out.cell (World.block_lt_of_cell? w _ hx457_3)).trans hx457_3
                  replace hx457_4 := (HB.out.cell (World.block_lt_of_cell? w _ hx457_4)).trans hx457_4
                  replace p457 := eq_true p457
                  replace q457 := eq_true q457
                  refine start_ (n := 13) (S := fun w' => w'.cell? (ad456.add ((x13_4).toNat * 5)) = some (.int .i64 ((rd_T49 l0 x13_4).f0)) ∧ w'.cell? ⟨(ad456.add ((x13_4).toNat * 5)).block, (ad456.add ((x13_4).toNat * 5)).off + 1, none⟩ = some (.int .i64 ((rd_T49 l0 x13_4).f1)) ∧ w'.cell? ⟨(ad456.add ((x13_4).toNat * 5)).block, (ad456.add ((x13_4).toNat * 5)).off + 2, none⟩ = some (.int .i64 ((rd_T49 l0 x13_4).f2)) ∧ w'.cell? ⟨(ad456.add ((x13_4).toNat * 5)).block, (ad456.add ((x13_4).toNat * 5)).off + 3, none⟩ = some (.int .i64 ((rd_T49 l0 x13_4).f3)) ∧ w'.cell? ⟨(ad456.add ((x13_4).toNat * 5)).block, (ad456.add ((x13_4).toNat * 5)).off + 4, none⟩ = some (.int .u64 ((rd_T49 l0 x13_4).f4)) ∧ w'.cell? (ad457.add ((x13_4).toNat * 5)) = some (.int .i64 ((rd_T49 l1 x13_4).f0)) ∧ w'.cell? ⟨(ad457.add ((x13_4).toNat * 5)).block, (ad457.add ((x13_4).toNat * 5)).off + 1, none⟩ = some (.int .i64 ((rd_T49 l1 x13_4).f1)) ∧ w'.cell? ⟨(ad457.add ((x13_4).toNat * 5)).block, (ad457.add ((x13_4).toNat * 5)).off + 2, none⟩ = some (.int .i64 ((rd_T49 l1 x13_4).f2)) ∧ w'.cell? ⟨(ad457.add ((x13_4).toNat * 5)).block, (ad457.add ((x13_4).toNat * 5)).off + 3, none⟩ = some (.int .i64 ((rd_T49 l1 x13_4).f3)) ∧ w'.cell? ⟨(ad457.add ((x13_4).toNat * 5)).block, (ad457.add ((x13_4).toNat * 5)).off + 4, none⟩ = some (.int .u64 ((rd_T49 l1 x13_4).f4))) (ds := []) #[false, false, false, false, false, false, false, false, false, false, false, false, false] (by kernel_rfl) rfl rfl ⟨((HB.out.cell (World.block_lt_of_cell? w _ hw456_0)).trans hw456_0), ((HB.out.cell (World.block_lt_of_cell? w _ hw456_1)).trans hw456_1), ((HB.out.cell (World.block_lt_of_cell? w _ hw456_2)).trans hw456_2), ((HB.out.cell (World.block_lt_of_cell? w _ hw456_3)).trans hw456_3), ((HB.out.cell (World.block_lt_of_cell? w _ hw456_4)).trans hw456_4), ((HB.out.cell (World.block_lt_of_cell? w _ hw457_0)).trans hw457_0), ((HB.out.cell (World.block_lt_of_cell? w _ hw457_1)).trans hw457_1), ((HB.out.cell (World.block_lt_of_cell? w _ hw457_2)).trans hw457_2), ((HB.out.cell (World.block_lt_of_cell? w _ hw457_3)).trans hw457_3), ((HB.out.cell (World.block_lt_of_cell? w _ hw457_4)).trans hw457_4)⟩ (fun hHeld => ?_); refine with_tabW chargeparklaw42_SettleDispute.tab19 chargeparklaw42_SettleDispute.bits19 (fun HT_ HW_ => ?_)
                  generalize wr.drew = w29 at HB hx456_0 hx456_1 hx456_2 hx456_3 hx456_4 hx457_0 hx457_1 hx457_2 hx457_3 hx457_4 hHeld ⊢
                  refine pure_ (i := 0) (N := some 126) (v := ?_) (a' := ?_) #[true, false, false, false, false, false, false, false, false, false, false, false, false] rfl rfl (any_of HT_.out (by kernel_rfl)) (fun _ _ _ h => h) (Or.inl ⟨by rfl, ?_⟩) ?_ ?_
                  rotate_left
                  ·intro w'
                   go_simp
                   with_reducible rfl
                  rotate_left
                  ·simp only [Act.put, List.setIfInBounds_toArray, List.set_cons_zero, List.set_cons_succ, i64_w, i32_w]
                   rfl
                  refine pure_ (i := 1) (N := some 127) (v := ?_) (a' := ?_) #[true, true, false, false, false, false, false, false, false, false, false, false, false] rfl rfl (any_of HT_.out (by kernel_rfl)) (fun _ _ _ h => h) (Or.inl ⟨by rfl, ?_⟩) ?_ ?_
                  rotate_left
                  ·intro w'
                   go_simp
                   with_reducible rfl
                  rotate_left
                  ·simp only [Act.put, List.setIfInBounds_toArray, List.set_cons_zero, List.set_cons_succ, i64_w, i32_w]
                   rfl
                  refine pure_ (i := 2) (N := some 128) (v := ?_) (a' := ?_) #[true, true, true, false, false, false, false, false, false, false, false, false, false] rfl rfl (any_of HT_.out (by kernel_rfl)) (fun _ _ _ h => h) (Or.inl ⟨by rfl, ?_⟩) ?_ ?_
                  rotate_left
                  ·intro w'
                   go_simp
                   with_reducible rfl
                  rotate_left
                  ·simp only [Act.put, List.setIfInBounds_toArray, List.set_cons_zero, List.set_cons_succ, i64_w, i32_w]
                   rfl
                  refine pure_ (i := 3) (N := some 129) (v := ?_) (a' := ?_) #[true, true, true, true, false, false, false, false, false, false, false, false, false] rfl rfl (any_of HT_.out (by kernel_rfl)) (fun _ _ _ h => h) (Or.inl ⟨by rfl, ?_⟩) ?_ ?_
                  rotate_left
                  ·intro w'
                   go_simp
                   with_reducible rfl
                  rotate_left
                  ·simp only [Act.put, List.setIfInBounds_toArray, List.set_cons_zero, List.set_cons_succ, i64_w, i32_w]
                   rfl
                  refine pure_ (i := 4) (N := some 130) (v := ?_) (a' := ?_) #[true, true, true, true, true, false, false, false, false, false, false, false, false] rfl rfl (any_of HT_.out (by kernel_rfl)) (fun _ _ _ h => h) (Or.inl ⟨by rfl, ?_⟩) ?_ ?_
                  rotate_left
                  ·intro w'
                   go_simp
                   with_reducible rfl
                  rotate_left
                  ·simp only [Act.put, List.setIfInBounds_toArray, List.set_cons_zero, List.set_cons_succ, i64_w, i32_w]
                   rfl
                  refine pure_ (i := 6) (N := some 132) (v := ?_) (a' := ?_) #[true, true, true, true, true, false, true, false, false, false, false, false, false] rfl rfl (any_of HT_.out (by kernel_rfl)) (fun _ _ _ h => h) (Or.inl ⟨by rfl, ?_⟩) ?_ ?_
                  rotate_left
                  ·intro w'
                   go_simp
                   with_reducible rfl
                  rotate_left
                  ·simp only [Act.put, List.setIfInBounds_toArray, List.set_cons_zero, List.set_cons_succ, i64_w, i32_w]
                   rfl
                  refine pure_ (i := 7) (N := some 133) (v := ?_) (a' := ?_) #[true, true, true, true, true, false, true, true, false, false, false, false, false] rfl rfl (any_of HT_.out (by kernel_rfl)) (fun _ _ _ h => h) (Or.inl ⟨by rfl, ?_⟩) ?_ ?_
                  rotate_left
                  ·intro w'
                   go_simp
                   with_reducible rfl
                  rotate_left
                  ·simp only [Act.put, List.setIfInBounds_toArray, List.set_cons_zero, List.set_cons_succ, i64_w, i32_w]
                   rfl
                  refine pure_ (i := 8) (N := some 134) (v := ?_) (a' := ?_) #[true, true, true, true, true, false, true, true, true, false, false, false, false] rfl rfl (any_of HT_.out (by kernel_rfl)) (fun _ _ _ h => h) (Or.inl ⟨by rfl, ?_⟩) ?_ ?_
                  rotate_left
                  ·intro w'
                   go_simp
                   with_reducible rfl
                  rotate_left
                  ·simp only [Act.put, List.setIfInBounds_toArray, List.set_cons_zero, List.set_cons_succ, i64_w, i32_w]
                   rfl
                  refine take_ (i := 5) (N := some 131) (v := ?_) (a' := ?_) #[true, true, true, true, true, true, true, true, true, false, false, false, false] rfl rfl (take_ofW HT_.out HW_.out (by kernel_rfl)) (fun _ _ _ h => h) (Or.inl ⟨by rfl, ?_⟩) hHeld ?_ ?_
                  rotate_left
                  ·rintro w' ⟨s0, s1, s2, s3, s4, s5, s6, s7, s8, s9⟩
                   go_simp
                   with_reducible rfl
                  rotate_left
                  ·simp only [Act.put, List.setIfInBounds_toArray, List.set_cons_zero, List.set_cons_succ, i64_w, i32_w]
                   rfl
                  refine take_ (i := 9) (N := some 135) (v := ?_) (a' := ?_) #[true, true, true, true, true, true, true, true, true, true, false, false, false] rfl rfl (take_ofW HT_.out HW_.out (by kernel_rfl)) (fun _ _ _ h => h) (Or.inl ⟨by rfl, ?_⟩) hHeld ?_ ?_
                  rotate_left
                  ·rintro w' ⟨s0, s1, s2, s3, s4, s5, s6, s7, s8, s9⟩
                   go_simp
                   with_reducible rfl
                  rotate_left
                  ·simp only [Act.put, List.setIfInBounds_toArray, List.set_cons_zero, List.set_cons_succ, i64_w, i32_w]
                   rfl
                  refine pure_ (i := 10) (N := some 136) (v := ?_) (a' := ?_) #[true, true, true, true, true, true, true, true, true, true, true, false, false] rfl rfl (any_of HT_.out (by kernel_rfl)) (fun _ _ _ h => h) (Or.inl ⟨by rfl, ?_⟩) ?_ ?_
                  rotate_left
                  ·intro w'
                   go_simp
                   with_reducible rfl
                  rotate_left
                  ·simp only [Act.put, List.setIfInBounds_toArray, List.set_cons_zero, List.set_cons_succ, i64_w, i32_w]
                   rfl
                  refine pure_ (i := 11) (N := some 137) (v := ?_) (a' := ?_) #[true, true, true, true, true, true, true, true, true, true, true, true, false] rfl rfl (any_of HT_.out (by kernel_rfl)) (fun _ _ _ h => h) (Or.inl ⟨by rfl, ?_⟩) ?_ ?_
                  rotate_left
                  ·intro w'
                   go_simp
                   with_reducible rfl
                  rotate_left
                  ·simp only [Act.put, List.setIfInBounds_toArray, List.set_cons_zero, List.set_cons_succ, i64_w, i32_w]
                   rfl
                  refine pure_ (i := 12) (N := some 5) (v := ?_) (a' := ?_) #[true, true, true, true, true, true, true, true, true, true, true, true, true] rfl rfl (any_of HT_.out (by kernel_rfl)) (fun _ _ _ h => h) (Or.inl ⟨by rfl, ?_⟩) ?_ ?_
                  rotate_left
                  ·intro w'
                   go_simp
                   with_reducible rfl
                  rotate_left
                  ·simp only [Act.put, List.setIfInBounds_toArray, List.set_cons_zero, List.set_cons_succ, i64_w, i32_w]
                   rfl
                  refine done_ (done_of HT_.out (by kernel_rfl)) ?_
                  try go_wp2
                  go_roundg k4
                  case measure => have := HJ3.out; have := HJ9.out; have := HJ18.out; have := HK4.out; omega
                  case rel => exact ⟨((((rd_T49 l0 x13_4).f0) == ((rd_T49 l1 x13_4).f0) && (((rd_T49 l0 x13_4).f1) == ((rd_T49 l1 x13_4).f1) && (((rd_T49 l0 x13_4).f2) == ((rd_T49 l1 x13_4).f2) && (((rd_T49 l0 x13_4).f3) == ((rd_T49 l1 x13_4).f3) && (((rd_T49 l0 x13_4).f4) == ((rd_T49 l1 x13_4).f4))))))), (wrap64 (x13_4 + 1)), (by first | rfl | (simp; done) | (simp [*]; done)), (by first | rfl | (simp; done) | (simp [*]; done)), H', ⟨by have := HJ3.out; have := HJ9.out; have := HJ18.out; have := HK4.out; omega⟩, ⟨by repeat (first | (with_reducible first | exact HB.out | apply below_alloc | apply pw_below_drewN | apply below_drew1) | exact HB.out)⟩⟩
                 ·rw [if_neg c28] at H
                  exact absurd H (by simp)
                ·rw [if_neg c27] at H
                 exact absurd H (by simp)
               ·rw [if_neg c26] at H
                exact absurd H (by simp)
              ·replace c25 := Bool.eq_false_iff.mpr c25
               subst c25
               have H1 : (chargeparklaw42_SettleDispute.l1 k4 l0 l1 false t448 (wrap64 (x13_4 + 1))) = some r := by rw [if_neg (show ¬ (false = true) by decide)] at H; exact H
               clear H
               have H := H1
               clear H1
               have H' := Aside0.mk H
               clear H
               try go_wp2
               have n0_ := Aside0.mk (below_drew1 HB.out)
               clear HB
               have HB := n0_
               clear n0_
               refine start_ (n := 13) (S := fun w' => True) (ds := []) #[false, false, false, false, false, false, false, false, false, false, false, false, false] (by kernel_rfl) rfl rfl trivial (fun hHeld => ?_); refine with_tabW chargeparklaw42_SettleDispute.tab19 chargeparklaw42_SettleDispute.bits19 (fun HT_ HW_ => ?_)
               generalize wr.drew = w30 at HB hHeld ⊢
               refine pure_ (i := 0) (N := some 126) (v := ?_) (a' := ?_) #[true, false, false, false, false, false, false, false, false, false, false, false, false] rfl rfl (any_of HT_.out (by kernel_rfl)) (fun _ _ _ h => h) (Or.inl ⟨by rfl, ?_⟩) ?_ ?_
               rotate_left
               ·intro w'
                go_simp
                with_reducible rfl
               rotate_left
               ·simp only [Act.put, List.setIfInBounds_toArray, List.set_cons_zero, List.set_cons_succ, i64_w, i32_w]
                rfl
               refine pure_ (i := 1) (N := some 127) (v := ?_) (a' := ?_) #[true, true, false, false, false, false, false, false, false, false, false, false, false] rfl rfl (any_of HT_.out (by kernel_rfl)) (fun _ _ _ h => h) (Or.inl ⟨by rfl, ?_⟩) ?_ ?_
               rotate_left
               ·intro w'
                go_simp
                with_reducible rfl
               rotate_left
               ·simp only [Act.put, List.setIfInBounds_toArray, List.set_cons_zero, List.set_cons_succ, i64_w, i32_w]
                rfl
               refine pure_ (i := 2) (N := some 128) (v := undef) (a' := ?_) #[true, true, true, false, false, false, false, false, false, false, false, false, false] rfl rfl (any_of HT_.out (by kernel_rfl)) (fun _ _ _ h => h) (Or.inr ⟨by rfl, rfl⟩) ?_ ?_
               rotate_left
               ·simp only [Act.put, List.setIfInBounds_toArray, List.set_cons_zero, List.set_cons_succ, i64_w, i32_w]
                rfl
               refine pure_ (i := 3) (N := some 129) (v := undef) (a' := ?_) #[true, true, true, true, false, false, false, false, false, false, false, false, false] rfl rfl (any_of HT_.out (by kernel_rfl)) (fun _ _ _ h => h) (Or.inr ⟨by rfl, rfl⟩) ?_ ?_
               rotate_left
               ·simp only [Act.put, List.setIfInBounds_toArray, List.set_cons_zero, List.set_cons_succ, i64_w, i32_w]
                rfl
               refine pure_ (i := 4) (N := some 130) (v := undef) (a' := ?_) #[true, true, true, true, true, false, false, false, false, false, false, false, false] rfl rfl (any_of HT_.out (by kernel_rfl)) (fun _ _ _ h => h) (Or.inr ⟨by rfl, rfl⟩) ?_ ?_
               rotate_left
               ·simp only [Act.put, List.setIfInBounds_toArray, List.set_cons_zero, List.set_cons_succ, i64_w, i32_w]
                rfl
               refine pure_ (i := 5) (N := some 131) (v := undef) (a' := ?_) #[true, true, true, true, true, true, false, false, false, false, false, false, false] rfl rfl (any_of HT_.out (by kernel_rfl)) (fun _ _ _ h => h) (Or.inr ⟨by rfl, rfl⟩) ?_ ?_
               rotate_left
               ·simp only [Act.put, List.setIfInBounds_toArray, List.set_cons_zero, List.set_cons_succ, i64_w, i32_w]
                rfl
               refine pure_ (i := 6) (N := some 132) (v := undef) (a' := ?_) #[true, true, true, true, true, true, true, false, false, false, false, false, false] rfl rfl (any_of HT_.out (by kernel_rfl)) (fun _ _ _ h => h) (Or.inr ⟨by rfl, rfl⟩) ?_ ?_
               rotate_left
               ·simp only [Act.put, List.setIfInBounds_toArray, List.set_cons_zero, List.set_cons_succ, i64_w, i32_w]
                rfl
               refine pure_ (i := 7) (N := some 133) (v := undef) (a' := ?_) #[true, true, true, true, true, true, true, true, false, false, false, false, false] rfl rfl (any_of HT_.out (by kernel_rfl)) (fun _ _ _ h => h) (Or.inr ⟨by rfl, rfl⟩) ?_ ?_
               rotate_left
               ·simp only [Act.put, List.setIfInBounds_toArray, List.set_cons_zero, List.set_cons_succ, i64_w, i32_w]
                rfl
               refine pure_ (i := 8) (N := some 134) (v := undef) (a' := ?_) #[true, true, true, true, true, true, true, true, true, false, false, false, false] rfl rfl (any_of HT_.out (by kernel_rfl)) (fun _ _ _ h => h) (Or.inr ⟨by rfl, rfl⟩) ?_ ?_
               rotate_left
               ·simp only [Act.put, List.setIfInBounds_toArray, List.set_cons_zero, List.set_cons_succ, i64_w, i32_w]
                rfl
               refine pure_ (i := 9) (N := some 135) (v := undef) (a' := ?_) #[true, true, true, true, true, true, true, true, true, true, false, false, false] rfl rfl (any_of HT_.out (by kernel_rfl)) (fun _ _ _ h => h) (Or.inr ⟨by rfl, rfl⟩) ?_ ?_
               rotate_left
               ·simp only [Act.put, List.setIfInBounds_toArray, List.set_cons_zero, List.set_cons_succ, i64_w, i32_w]
                rfl
               refine pure_ (i := 10) (N := some 136) (v := undef) (a' := ?_) #[true, true, true, true, true, true, true, true, true, true, true, false, false] rfl rfl (any_of HT_.out (by kernel_rfl)) (fun _ _ _ h => h) (Or.inr ⟨by rfl, rfl⟩) ?_ ?_
               rotate_left
               ·simp only [Act.put, List.setIfInBounds_toArray, List.set_cons_zero, List.set_cons_succ, i64_w, i32_w]
                rfl
               refine pure_ (i := 11) (N := some 137) (v := ?_) (a' := ?_) #[true, true, true, true, true, true, true, true, true, true, true, true, false] rfl rfl (any_of HT_.out (by kernel_rfl)) (fun _ _ _ h => h) (Or.inl ⟨by rfl, ?_⟩) ?_ ?_
               rotate_left
               ·intro w'
                go_simp
                with_reducible rfl
               rotate_left
               ·simp only [Act.put, List.setIfInBounds_toArray, List.set_cons_zero, List.set_cons_succ, i64_w, i32_w]
                rfl
               refine pure_ (i := 12) (N := some 5) (v := ?_) (a' := ?_) #[true, true, true, true, true, true, true, true, true, true, true, true, true] rfl rfl (any_of HT_.out (by kernel_rfl)) (fun _ _ _ h => h) (Or.inl ⟨by rfl, ?_⟩) ?_ ?_
               rotate_left
               ·intro w'
                go_simp
                with_reducible rfl
               rotate_left
               ·simp only [Act.put, List.setIfInBounds_toArray, List.set_cons_zero, List.set_cons_succ, i64_w, i32_w]
                rfl
               refine done_ (done_of HT_.out (by kernel_rfl)) ?_
               try go_wp2
               go_roundg k4
               case measure => have := HJ3.out; have := HJ9.out; have := HJ18.out; have := HK4.out; omega
               case rel => exact ⟨(false), (wrap64 (x13_4 + 1)), (by first | rfl | (simp; done) | (simp [*]; done)), (by first | rfl | (simp; done) | (simp [*]; done)), H', ⟨by have := HJ3.out; have := HJ9.out; have := HJ18.out; have := HK4.out; omega⟩, ⟨by repeat (first | (with_reducible first | exact HB.out | apply below_alloc | apply pw_below_drewN | apply below_drew1) | exact HB.out)⟩⟩
             ·as_aux_lemma =>
              rw [if_neg c24] at H
              have c24b0 : decide (x13_4 < t448) = false := decide_eq_false c24
              clear c24
              obtain ⟨ji31, hji31⟩ : ∃ j_ : Int, (mn (l0.length : Int) (wrap64 (t448 + 1))) = j_ := ⟨_, rfl⟩
              replace H : (if 0 ≤ (ji31) then (if (ji31) ≤ (l0.length : Int) then (if 0 ≤ (mn (l1.length : Int) (wrap64 (t448 + 1))) then (if (mn (l1.length : Int) (wrap64 (t448 + 1))) ≤ (l1.length : Int) then ((settle_Dispute.f k4 (l0.take ((ji31) : Int).toNat) (l1.take ((mn (l1.length : Int) (wrap64 (t448 + 1))) : Int).toNat)).bind fun bt466 => (if x5_4 = true then (if t448 = (l0.length : Int) then (if bt466.1 = t448 then (if bt466.2.1 = true then (some (bt466.2.2 == 0)) else (none)) else (none)) else (if t448 = (l1.length : Int) then (if bt466.1 = t448 then (if bt466.2.1 = true then (some (bt466.2.2 == 0)) else (none)) else (none)) else (if 0 ≤ t448 then (if t448 < (l0.length : Int) then (if t448 < (l1.length : Int) then (if (!(((rd_T49 l0 t448).f0) == ((rd_T49 l1 t448).f0)) || (!(((rd_T49 l0 t448).f1) == ((rd_T49 l1 t448).f1)) || (!(((rd_T49 l0 t448).f2) == ((rd_T49 l1 t448).f2)) || (!(((rd_T49 l0 t448).f3) == ((rd_T49 l1 t448).f3)) || (!(((rd_T49 l0 t448).f4) == ((rd_T49 l1 t448).f4))))))) = true then (if bt466.1 = t448 then (if bt466.2.1 = true then (some (bt466.2.2 == 0)) else (none)) else (none)) else (none)) else (none)) else (none)) else (none)))) else (none))) else (none)) else (none)) else (none)) else (none)) = some r := by first | (rw [hji31] at H; exact H) | (simp only [hji31] at H ⊢; exact H)
              have hji31_ : (if (wrap64 (t448 + 1)) < (l0.length : Int) then (wrap64 (t448 + 1)) else (l0.length : Int)) = ji31 := hji31
              by_cases c32 : 0 ≤ (ji31)
              ·as_aux_lemma =>
               rw [if_pos c32] at H
               have c32b0 := eq_true c32
               have c32b1 : decide (0 ≤ (ji31)) = true := decide_eq_true c32
               clear c32
               by_cases c33 : (ji31) ≤ (l0.length : Int)
               ·as_aux_lemma =>
                rw [if_pos c33] at H
                have c33b0 := eq_true c33
                have c33b1 : decide ((ji31) ≤ (l0.length : Int)) = true := decide_eq_true c33
                clear c33
                obtain ⟨y458, hy458⟩ : ∃ y_ : List (S49), y_ = (l0.take ((ji31) : Int).toNat) := ⟨_, rfl⟩
                replace H : (if 0 ≤ (mn (l1.length : Int) (wrap64 (t448 + 1))) then (if (mn (l1.length : Int) (wrap64 (t448 + 1))) ≤ (l1.length : Int) then ((settle_Dispute.f k4 y458 (l1.take ((mn (l1.length : Int) (wrap64 (t448 + 1))) : Int).toNat)).bind fun bt466 => (if x5_4 = true then (if t448 = (l0.length : Int) then (if bt466.1 = t448 then (if bt466.2.1 = true then (some (bt466.2.2 == 0)) else (none)) else (none)) else (if t448 = (l1.length : Int) then (if bt466.1 = t448 then (if bt466.2.1 = true then (some (bt466.2.2 == 0)) else (none)) else (none)) else (if 0 ≤ t448 then (if t448 < (l0.length : Int) then (if t448 < (l1.length : Int) then (if (!(((rd_T49 l0 t448).f0) == ((rd_T49 l1 t448).f0)) || (!(((rd_T49 l0 t448).f1) == ((rd_T49 l1 t448).f1)) || (!(((rd_T49 l0 t448).f2) == ((rd_T49 l1 t448).f2)) || (!(((rd_T49 l0 t448).f3) == ((rd_T49 l1 t448).f3)) || (!(((rd_T49 l0 t448).f4) == ((rd_T49 l1 t448).f4))))))) = true then (if bt466.1 = t448 then (if bt466.2.1 = true then (some (bt466.2.2 == 0)) else (none)) else (none)) else (none)) else (none)) else (none)) else (none)))) else (none))) else (none)) else (none)) = some r := by first | (rw [hy458]; with_reducible exact H) | (have H2_ := (Option.bind_some _ _).symm.trans H; rw [hy458]; with_reducible exact H2_) | (have H2_ := (Option.bind_some _ _).symm.trans H; with_reducible exact H2_) | with_reducible exact H | (rw [hy458]; exact H) | exact H
                have Ny458 := Aside0.mk hy458
                clear hy458
                obtain ⟨ji34, hji34⟩ : ∃ j_ : Int, (mn (l1.length : Int) (wrap64 (t448 + 1))) = j_ := ⟨_, rfl⟩
                replace H : (if 0 ≤ (ji34) then (if (ji34) ≤ (l1.length : Int) then ((settle_Dispute.f k4 y458 (l1.take ((ji34) : Int).toNat)).bind fun bt466 => (if x5_4 = true then (if t448 = (l0.length : Int) then (if bt466.1 = t448 then (if bt466.2.1 = true then (some (bt466.2.2 == 0)) else (none)) else (none)) else (if t448 = (l1.length : Int) then (if bt466.1 = t448 then (if bt466.2.1 = true then (some (bt466.2.2 == 0)) else (none)) else (none)) else (if 0 ≤ t448 then (if t448 < (l0.length : Int) then (if t448 < (l1.length : Int) then (if (!(((rd_T49 l0 t448).f0) == ((rd_T49 l1 t448).f0)) || (!(((rd_T49 l0 t448).f1) == ((rd_T49 l1 t448).f1)) || (!(((rd_T49 l0 t448).f2) == ((rd_T49 l1 t448).f2)) || (!(((rd_T49 l0 t448).f3) == ((rd_T49 l1 t448).f3)) || (!(((rd_T49 l0 t448).f4) == ((rd_T49 l1 t448).f4))))))) = true then (if bt466.1 = t448 then (if bt466.2.1 = true then (some (bt466.2.2 == 0)) else (none)) else (none)) else (none)) else (none)) else (none)) else (none)))) else (none))) else (none)) else (none)) = some r := by first | (rw [hji34] at H; exact H) | (simp only [hji34] at H ⊢; exact H)
                have hji34_ : (if (wrap64 (t448 + 1)) < (l1.length : Int) then (wrap64 (t448 + 1)) else (l1.length : Int)) = ji34 := hji34
                by_cases c35 : 0 ≤ (ji34)
                ·as_aux_lemma =>
                 rw [if_pos c35] at H
                 have c35b0 := eq_true c35
                 have c35b1 : decide (0 ≤ (ji34)) = true := decide_eq_true c35
                 clear c35
                 by_cases c36 : (ji34) ≤ (l1.length : Int)
                 ·as_aux_lemma =>
                  rw [if_pos c36] at H
                  have c36b0 := eq_true c36
                  have c36b1 : decide ((ji34) ≤ (l1.length : Int)) = true := decide_eq_true c36
                  clear c36
                  obtain ⟨y462, hy462⟩ : ∃ y_ : List (S49), y_ = (l1.take ((ji34) : Int).toNat) := ⟨_, rfl⟩
                  replace H : ((settle_Dispute.f k4 y458 y462).bind fun bt466 => (if x5_4 = true then (if t448 = (l0.length : Int) then (if bt466.1 = t448 then (if bt466.2.1 = true then (some (bt466.2.2 == 0)) else (none)) else (none)) else (if t448 = (l1.length : Int) then (if bt466.1 = t448 then (if bt466.2.1 = true then (some (bt466.2.2 == 0)) else (none)) else (none)) else (if 0 ≤ t448 then (if t448 < (l0.length : Int) then (if t448 < (l1.length : Int) then (if (!(((rd_T49 l0 t448).f0) == ((rd_T49 l1 t448).f0)) || (!(((rd_T49 l0 t448).f1) == ((rd_T49 l1 t448).f1)) || (!(((rd_T49 l0 t448).f2) == ((rd_T49 l1 t448).f2)) || (!(((rd_T49 l0 t448).f3) == ((rd_T49 l1 t448).f3)) || (!(((rd_T49 l0 t448).f4) == ((rd_T49 l1 t448).f4))))))) = true then (if bt466.1 = t448 then (if bt466.2.1 = true then (some (bt466.2.2 == 0)) else (none)) else (none)) else (none)) else (none)) else (none)) else (none)))) else (none))) = some r := by first | (rw [hy462]; with_reducible exact H) | (have H2_ := (Option.bind_some _ _).symm.trans H; rw [hy462]; with_reducible exact H2_) | (have H2_ := (Option.bind_some _ _).symm.trans H; with_reducible exact H2_) | with_reducible exact H | (rw [hy462]; exact H) | exact H
                  have Ny462 := Aside0.mk hy462
                  clear hy462
                  replace H := Option.bind_eq_some_iff.mp H
                  obtain ⟨⟨t466, t467, t468⟩, A370, H⟩ := H
                  replace H : (if x5_4 = true then (if t448 = (l0.length : Int) then (if t466 = t448 then (if t467 = true then (some (t468 == 0)) else (none)) else (none)) else (if t448 = (l1.length : Int) then (if t466 = t448 then (if t467 = true then (some (t468 == 0)) else (none)) else (none)) else (if 0 ≤ t448 then (if t448 < (l0.length : Int) then (if t448 < (l1.length : Int) then (if (!(((rd_T49 l0 t448).f0) == ((rd_T49 l1 t448).f0)) || (!(((rd_T49 l0 t448).f1) == ((rd_T49 l1 t448).f1)) || (!(((rd_T49 l0 t448).f2) == ((rd_T49 l1 t448).f2)) || (!(((rd_T49 l0 t448).f3) == ((rd_T49 l1 t448).f3)) || (!(((rd_T49 l0 t448).f4) == ((rd_T49 l1 t448).f4))))))) = true then (if t466 = t448 then (if t467 = true then (some (t468 == 0)) else (none)) else (none)) else (none)) else (none)) else (none)) else (none)))) else (none)) = some r := H
                  have A37 := Aside0.mk A370
                  clear A370
                  by_cases c38 : x5_4 = true
                  ·as_aux_lemma =>
                   subst c38
                   have H1 : (if t448 = (l0.length : Int) then (if t466 = t448 then (if t467 = true then (some (t468 == 0)) else (none)) else (none)) else (if t448 = (l1.length : Int) then (if t466 = t448 then (if t467 = true then (some (t468 == 0)) else (none)) else (none)) else (if 0 ≤ t448 then (if t448 < (l0.length : Int) then (if t448 < (l1.length : Int) then (if (!(((rd_T49 l0 t448).f0) == ((rd_T49 l1 t448).f0)) || (!(((rd_T49 l0 t448).f1) == ((rd_T49 l1 t448).f1)) || (!(((rd_T49 l0 t448).f2) == ((rd_T49 l1 t448).f2)) || (!(((rd_T49 l0 t448).f3) == ((rd_T49 l1 t448).f3)) || (!(((rd_T49 l0 t448).f4) == ((rd_T49 l1 t448).f4))))))) = true then (if t466 = t448 then (if t467 = true then (some (t468 == 0)) else (none)) else (none)) else (none)) else (none)) else (none)) else (none)))) = some r := by rw [if_pos rfl] at H; exact H
                   clear H
                   have H := H1
                   clear H1
                   by_cases c39 : t448 = (l0.length : Int)
                   ·as_aux_lemma =>
                    rw [if_pos c39] at H
                    have c39b0 : (t448 == (l0.length : Int)) = true := beq_iff_eq.mpr c39
                    have c39b1 : (t448 != (l0.length : Int)) = false := bne_eq_false_iff_eq.mpr c39
                    clear c39
                    by_cases c40 : t466 = t448
                    ·as_aux_lemma =>
                     rw [if_pos c40] at H
                     have c40b0 : (t466 == t448) = true := beq_iff_eq.mpr c40
                     have c40b1 : (t466 != t448) = false := bne_eq_false_iff_eq.mpr c40
                     clear c40
                     by_cases c41 : t467 = true
                     ·as_aux_lemma =>
                      subst c41
                      have H1 : (some (t468 == 0)) = some r := by rw [if_pos rfl] at H; exact H
                      clear H
                      have H := H1
                      clear H1
                      obtain rfl := Option.some.inj H
                      try go_wp2
                      have n0_ := Aside0.mk (below_drew1 HB.out)
                      clear HB
                      have HB := n0_
                      clear n0_
                      have q43 : ((ji31) : Int) ≤ ((l0.length : Int) : Int) := of_decide_eq_true (by first | (with_reducible assumption) | assumption)
                      obtain ⟨i043, hi043, _, hsz43, _⟩ := info_parts info49
                      have hroom43 : l0.length ≤ c0 := HC0.out
                      have hC43 : Kd.C k49 _ A0 l0.length l0 := HR0.out
                      have hcut43 := cut_to (P := Try.prog) 24 49 .i64 Try.underlying24 hi043 A0 l0.length c0 (ji31) (of_decide_eq_true (by first | (with_reducible assumption) | assumption)) q43 hroom43
                      have hr43 := Kd.C_take (m := ((ji31) : Int).toNat) hC43 (by omega)
                      have hy43 : y458.length = ((ji31) : Int).toNat := (by rw [Ny458.out, List.length_take]; omega)
                      rw [← Ny458.out] at hr43
                      rw [← hy43] at hcut43
                      have HR461 := Aside0.mk hr43
                      have HC461 := Aside0.mk (show y458.length ≤ c0 from by omega)
                      clear hr43 hC43 hroom43 hi043 hsz43
                      have KY43 := Aside0.mk hy43
                      clear hy43
                      replace q43 := eq_true q43
                      have q44 : ((ji34) : Int) ≤ ((l1.length : Int) : Int) := of_decide_eq_true (by first | (with_reducible assumption) | assumption)
                      obtain ⟨i044, hi044, _, hsz44, _⟩ := info_parts info49
                      have hroom44 : l1.length ≤ c1 := HC1.out
                      have hC44 : Kd.C k49 _ A1 l1.length l1 := HR1.out
                      have hcut44 := cut_to (P := Try.prog) 24 49 .i64 Try.underlying24 hi044 A1 l1.length c1 (ji34) (of_decide_eq_true (by first | (with_reducible assumption) | assumption)) q44 hroom44
                      have hr44 := Kd.C_take (m := ((ji34) : Int).toNat) hC44 (by omega)
                      have hy44 : y462.length = ((ji34) : Int).toNat := (by rw [Ny462.out, List.length_take]; omega)
                      rw [← Ny462.out] at hr44
                      rw [← hy44] at hcut44
                      have HR465 := Aside0.mk hr44
                      have HC465 := Aside0.mk (show y462.length ≤ c1 from by omega)
                      clear hr44 hC44 hroom44 hi044 hsz44
                      have KY44 := Aside0.mk hy44
                      clear hy44
                      replace q44 := eq_true q44
                      refine start_ (n := 22) (S := fun w' => True) (ds := []) #[false, false, false, false, false, false, false, false, false, false, false, false, false, false, false, false, false, false, false, false, false, false] (by kernel_rfl) rfl rfl trivial (fun hHeld => ?_); refine with_tabW chargeparklaw42_SettleDispute.tab20 chargeparklaw42_SettleDispute.bits20 (fun HT_ HW_ => ?_)
                      generalize wr.drew = w42 at HB HR461 HR465 hHeld ⊢
                      refine pure_ (i := 0) (N := some 139) (v := ?_) (a' := ?_) #[true, false, false, false, false, false, false, false, false, false, false, false, false, false, false, false, false, false, false, false, false, false] rfl rfl (any_of HT_.out (by kernel_rfl)) (fun _ _ _ h => h) (Or.inl ⟨by rfl, ?_⟩) ?_ ?_
                      rotate_left
                      ·intro w'
                       go_simp
                       with_reducible rfl
                      rotate_left
                      ·simp only [Act.put, List.setIfInBounds_toArray, List.set_cons_zero, List.set_cons_succ, i64_w, i32_w]
                       rfl
                      refine pure_ (i := 1) (N := some 140) (v := ?_) (a' := ?_) #[true, true, false, false, false, false, false, false, false, false, false, false, false, false, false, false, false, false, false, false, false, false] rfl rfl (any_of HT_.out (by kernel_rfl)) (fun _ _ _ h => h) (Or.inl ⟨by rfl, ?_⟩) ?_ ?_
                      rotate_left
                      ·intro w'
                       go_simp
                       with_reducible rfl
                      rotate_left
                      ·simp only [Act.put, List.setIfInBounds_toArray, List.set_cons_zero, List.set_cons_succ, i64_w, i32_w]
                       rfl
                      refine pure_ (i := 2) (N := some 141) (v := ?_) (a' := ?_) #[true, true, true, false, false, false, false, false, false, false, false, false, false, false, false, false, false, false, false, false, false, false] rfl rfl (any_of HT_.out (by kernel_rfl)) (fun _ _ _ h => h) (Or.inl ⟨by rfl, ?_⟩) ?_ ?_
                      rotate_left
                      ·intro w'
                       go_simp
                       with_reducible rfl
                      rotate_left
                      ·simp only [Act.put, List.setIfInBounds_toArray, List.set_cons_zero, List.set_cons_succ, i64_w, i32_w]
                       rfl
                      refine pure_ (i := 3) (N := some 142) (v := ?_) (a' := ?_) #[true, true, true, true, false, false, false, false, false, false, false, false, false, false, false, false, false, false, false, false, false, false] rfl rfl (any_of HT_.out (by kernel_rfl)) (fun _ _ _ h => h) (Or.inl ⟨by rfl, ?_⟩) ?_ ?_
                      rotate_left
                      ·intro w'
                       go_simp
                       with_reducible rfl
                      rotate_left
                      ·simp only [Act.put, List.setIfInBounds_toArray, List.set_cons_zero, List.set_cons_succ, i64_w, i32_w]
                       rfl
                      refine pure_ (i := 4) (N := some 143) (v := ?_) (a' := ?_) #[true, true, true, true, true, false, false, false, false, false, false, false, false, false, false, false, false, false, false, false, false, false] rfl rfl (any_of HT_.out (by kernel_rfl)) (fun _ _ _ h => h) (Or.inl ⟨by rfl, ?_⟩) ?_ ?_
                      rotate_left
                      ·intro w'
                       go_simp
                       with_reducible rfl
                      rotate_left
                      ·simp only [Act.put, List.setIfInBounds_toArray, List.set_cons_zero, List.set_cons_succ, i64_w, i32_w]
                       rfl
                      refine pure_ (i := 5) (N := some 144) (v := ?_) (a' := ?_) #[true, true, true, true, true, true, false, false, false, false, false, false, false, false, false, false, false, false, false, false, false, false] rfl rfl (any_of HT_.out (by kernel_rfl)) (fun _ _ _ h => h) (Or.inl ⟨by rfl, ?_⟩) ?_ ?_
                      rotate_left
                      ·intro w'
                       go_simp
                       with_reducible rfl
                      rotate_left
                      ·simp only [Act.put, List.setIfInBounds_toArray, List.set_cons_zero, List.set_cons_succ, i64_w, i32_w]
                       rfl
                      refine pure_ (i := 6) (N := some 145) (v := ?_) (a' := ?_) #[true, true, true, true, true, true, true, false, false, false, false, false, false, false, false, false, false, false, false, false, false, false] rfl rfl (any_of HT_.out (by kernel_rfl)) (fun _ _ _ h => h) (Or.inl ⟨by rfl, ?_⟩) ?_ ?_
                      rotate_left
                      ·intro w'
                       go_simp
                       with_reducible rfl
                      rotate_left
                      ·simp only [Act.put, List.setIfInBounds_toArray, List.set_cons_zero, List.set_cons_succ, i64_w, i32_w]
                       rfl
                      refine pure_ (i := 7) (N := some 146) (v := ?_) (a' := ?_) #[true, true, true, true, true, true, true, true, false, false, false, false, false, false, false, false, false, false, false, false, false, false] rfl rfl (any_of HT_.out (by kernel_rfl)) (fun _ _ _ h => h) (Or.inl ⟨by rfl, ?_⟩) ?_ ?_
                      rotate_left
                      ·intro w'
                       go_simp
                       with_reducible rfl
                      rotate_left
                      ·simp only [Act.put, List.setIfInBounds_toArray, List.set_cons_zero, List.set_cons_succ, i64_w, i32_w]
                       rfl
                      refine pure_ (i := 8) (N := some 147) (v := ?_) (a' := ?_) #[true, true, true, true, true, true, true, true, true, false, false, false, false, false, false, false, false, false, false, false, false, false] rfl rfl (any_of HT_.out (by kernel_rfl)) (fun _ _ _ h => h) (Or.inl ⟨by rfl, ?_⟩) ?_ ?_
                      rotate_left
                      ·intro w'
                       go_simp
                       with_reducible rfl
                      rotate_left
                      ·simp only [Act.put, List.setIfInBounds_toArray, List.set_cons_zero, List.set_cons_succ, i64_w, i32_w]
                       rfl
                      refine pure_ (i := 9) (N := some 148) (v := ?_) (a' := ?_) #[true, true, true, true, true, true, true, true, true, true, false, false, false, false, false, false, false, false, false, false, false, false] rfl rfl (any_of HT_.out (by kernel_rfl)) (fun _ _ _ h => h) (Or.inl ⟨by rfl, ?_⟩) ?_ ?_
                      rotate_left
                      ·intro w'
                       go_simp
                       with_reducible rfl
                      rotate_left
                      ·simp only [Act.put, List.setIfInBounds_toArray, List.set_cons_zero, List.set_cons_succ, i64_w, i32_w]
                       rfl
                      refine pure_ (i := 10) (N := some 149) (v := ?_) (a' := ?_) #[true, true, true, true, true, true, true, true, true, true, true, false, false, false, false, false, false, false, false, false, false, false] rfl rfl (any_of HT_.out (by kernel_rfl)) (fun _ _ _ h => h) (Or.inl ⟨by rfl, ?_⟩) ?_ ?_
                      rotate_left
                      ·intro w'
                       go_simp
                       with_reducible rfl
                      rotate_left
                      ·simp only [Act.put, List.setIfInBounds_toArray, List.set_cons_zero, List.set_cons_succ, i64_w, i32_w]
                       rfl
                      refine pure_ (i := 11) (N := some 150) (v := ?_) (a' := ?_) #[true, true, true, true, true, true, true, true, true, true, true, true, false, false, false, false, false, false, false, false, false, false] rfl rfl (any_of HT_.out (by kernel_rfl)) (fun _ _ _ h => h) (Or.inl ⟨by rfl, ?_⟩) ?_ ?_
                      rotate_left
                      ·intro w'
                       go_simp
                       with_reducible rfl
                      rotate_left
                      ·simp only [Act.put, List.setIfInBounds_toArray, List.set_cons_zero, List.set_cons_succ, i64_w, i32_w]
                       rfl
                      refine pure_ (i := 12) (N := some 151) (v := ?_) (a' := ?_) #[true, true, true, true, true, true, true, true, true, true, true, true, true, false, false, false, false, false, false, false, false, false] rfl rfl (any_of HT_.out (by kernel_rfl)) (fun _ _ _ h => h) (Or.inl ⟨by rfl, ?_⟩) ?_ ?_
                      rotate_left
                      ·intro w'
                       go_simp
                       with_reducible rfl
                      rotate_left
                      ·simp only [Act.put, List.setIfInBounds_toArray, List.set_cons_zero, List.set_cons_succ, i64_w, i32_w]
                       rfl
                      refine pure_ (i := 13) (N := some 152) (v := ?_) (a' := ?_) #[true, true, true, true, true, true, true, true, true, true, true, true, true, true, false, false, false, false, false, false, false, false] rfl rfl (any_of HT_.out (by kernel_rfl)) (fun _ _ _ h => h) (Or.inl ⟨by rfl, ?_⟩) ?_ ?_
                      rotate_left
                      ·intro w'
                       go_simp
                       with_reducible rfl
                      rotate_left
                      ·simp only [Act.put, List.setIfInBounds_toArray, List.set_cons_zero, List.set_cons_succ, i64_w, i32_w]
                       rfl
                      refine one_ (i := 14) (N := some 153) #[true, true, true, true, true, true, true, true, true, true, true, true, true, true, true, false, false, false, false, false, false, false] rfl rfl (one_of HT_.out (by kernel_rfl)) (by decide) (fun K hK => ?_)
                      refine goes_ Try.func14 (by kernel_rfl) rfl #[.slice A0 y458.length c0, .slice A1 y462.length c1] (by rfl) rfl rfl (by (try simp only [List.map_toArray, List.map_cons, List.map_nil]); first | done | rfl | (simp only [List.length_drop, List.length_take]; rfl)) ?_
                      with_reducible refine (settle_Dispute.calls k4 _ _ y458 _ _ y462 t466 true t468 _ ?side1 ?side2 ?side3 ?side4 A37.out).mono ?_
                      (case side1 => repeat (first | exact (Kd.C_below HR461.out HB.out) | (with_reducible refine Kd.C_alloc ?_ _) | (with_reducible refine Kd.C_drewN ?_ _) | (with_reducible refine Kd.C_drew ?_)))
                      (case side2 => exact HC461.out)
                      (case side3 => repeat (first | exact (Kd.C_below HR465.out HB.out) | (with_reducible refine Kd.C_alloc ?_ _) | (with_reducible refine Kd.C_drewN ?_ _) | (with_reducible refine Kd.C_drew ?_)))
                      (case side4 => exact HC465.out)
                      rintro e w45 ⟨rfl, hb⟩
                      refine ⟨_, rfl, ?_⟩
                      have n0_ := Aside0.mk (below_step (by repeat (first | (with_reducible first | exact HB.out | apply below_alloc | apply pw_below_drewN | apply below_drew1) | exact HB.out)) hb)
                      clear HB
                      have HB := n0_
                      clear n0_
                      (try clear hb)
                      (try clear hb2)
                      (try clear hk)
                      (try clear hi)
                      refine hK.out _ _ trivial (fun hHeld => ?_)
                      clear hK K
                      refine norm_ (a' := ?_) ?_ ?_
                      rotate_left
                      ·show Act.put _ (some 153) _ = _
                       simp only [Act.put, List.setIfInBounds_toArray, List.set_cons_zero, List.set_cons_succ, i64_w, i32_w]
                       rfl
                      refine pure_ (i := 15) (N := some 138) (v := ?_) (a' := ?_) #[true, true, true, true, true, true, true, true, true, true, true, true, true, true, true, true, false, false, false, false, false, false] rfl rfl (any_of HT_.out (by kernel_rfl)) (fun _ _ _ h => h) (Or.inl ⟨by rfl, ?_⟩) ?_ ?_
                      rotate_left
                      ·intro w'
                       go_simp
                       with_reducible rfl
                      rotate_left
                      ·simp only [Act.put, List.setIfInBounds_toArray, List.set_cons_zero, List.set_cons_succ, i64_w, i32_w]
                       rfl
                      refine pure_ (i := 16) (N := some 154) (v := ?_) (a' := ?_) #[true, true, true, true, true, true, true, true, true, true, true, true, true, true, true, true, true, false, false, false, false, false] rfl rfl (any_of HT_.out (by kernel_rfl)) (fun _ _ _ h => h) (Or.inl ⟨by rfl, ?_⟩) ?_ ?_
                      rotate_left
                      ·intro w'
                       go_simp
                       with_reducible rfl
                      rotate_left
                      ·simp only [Act.put, List.setIfInBounds_toArray, List.set_cons_zero, List.set_cons_succ, i64_w, i32_w]
                       rfl
                      refine pure_ (i := 17) (N := some 155) (v := ?_) (a' := ?_) #[true, true, true, true, true, true, true, true, true, true, true, true, true, true, true, true, true, true, false, false, false, false] rfl rfl (any_of HT_.out (by kernel_rfl)) (fun _ _ _ h => h) (Or.inl ⟨by rfl, ?_⟩) ?_ ?_
                      rotate_left
                      ·intro w'
                       go_simp
                       with_reducible rfl
                      rotate_left
                      ·simp only [Act.put, List.setIfInBounds_toArray, List.set_cons_zero, List.set_cons_succ, i64_w, i32_w]
                       rfl
                      refine pure_ (i := 18) (N := some 156) (v := ?_) (a' := ?_) #[true, true, true, true, true, true, true, true, true, true, true, true, true, true, true, true, true, true, true, false, false, false] rfl rfl (any_of HT_.out (by kernel_rfl)) (fun _ _ _ h => h) (Or.inl ⟨by rfl, ?_⟩) ?_ ?_
                      rotate_left
                      ·intro w'
                       go_simp
                       with_reducible rfl
                      rotate_left
                      ·simp only [Act.put, List.setIfInBounds_toArray, List.set_cons_zero, List.set_cons_succ, i64_w, i32_w]
                       rfl
                      refine pure_ (i := 19) (N := some 14) (v := ?_) (a' := ?_) #[true, true, true, true, true, true, true, true, true, true, true, true, true, true, true, true, true, true, true, true, false, false] rfl rfl (any_of HT_.out (by kernel_rfl)) (fun _ _ _ h => h) (Or.inl ⟨by rfl, ?_⟩) ?_ ?_
                      rotate_left
                      ·intro w'
                       go_simp
                       with_reducible rfl
                      rotate_left
                      ·simp only [Act.put, List.setIfInBounds_toArray, List.set_cons_zero, List.set_cons_succ, i64_w, i32_w]
                       rfl
                      refine pure_ (i := 20) (N := some 15) (v := ?_) (a' := ?_) #[true, true, true, true, true, true, true, true, true, true, true, true, true, true, true, true, true, true, true, true, true, false] rfl rfl (any_of HT_.out (by kernel_rfl)) (fun _ _ _ h => h) (Or.inl ⟨by rfl, ?_⟩) ?_ ?_
                      rotate_left
                      ·intro w'
                       go_simp
                       with_reducible rfl
                      rotate_left
                      ·simp only [Act.put, List.setIfInBounds_toArray, List.set_cons_zero, List.set_cons_succ, i64_w, i32_w]
                       rfl
                      refine pure_ (i := 21) (N := some 16) (v := ?_) (a' := ?_) #[true, true, true, true, true, true, true, true, true, true, true, true, true, true, true, true, true, true, true, true, true, true] rfl rfl (any_of HT_.out (by kernel_rfl)) (fun _ _ _ h => h) (Or.inl ⟨by rfl, ?_⟩) ?_ ?_
                      rotate_left
                      ·intro w'
                       go_simp
                       with_reducible rfl
                      rotate_left
                      ·simp only [Act.put, List.setIfInBounds_toArray, List.set_cons_zero, List.set_cons_succ, i64_w, i32_w]
                       rfl
                      refine done_ (done_of HT_.out (by kernel_rfl)) ?_
                      try go_wp2
                      have n0_ := Aside0.mk (below_drew1 HB.out)
                      clear HB
                      have HB := n0_
                      clear n0_
                      refine start_ (n := 37) (S := fun w' => True) (ds := []) #[false, false, false, false, false, false, false, false, false, false, false, false, false, false, false, false, false, false, false, false, false, false, false, false, false, false, false, false, false, false, false, false, false, false, false, false, false] (by kernel_rfl) rfl rfl trivial (fun hHeld => ?_); refine with_tabW chargeparklaw42_SettleDispute.tab21 chargeparklaw42_SettleDispute.bits21 (fun HT_ HW_ => ?_)
                      generalize w45.drew = w46 at HB hHeld ⊢
                      refine pure_ (i := 0) (N := some 157) (v := ?_) (a' := ?_) #[true, false, false, false, false, false, false, false, false, false, false, false, false, false, false, false, false, false, false, false, false, false, false, false, false, false, false, false, false, false, false, false, false, false, false, false, false] rfl rfl (any_of HT_.out (by kernel_rfl)) (fun _ _ _ h => h) (Or.inl ⟨by rfl, ?_⟩) ?_ ?_
                      rotate_left
                      ·intro w'
                       go_simp
                       with_reducible rfl
                      rotate_left
                      ·simp only [Act.put, List.setIfInBounds_toArray, List.set_cons_zero, List.set_cons_succ, i64_w, i32_w]
                       rfl
                      refine pure_ (i := 1) (N := some 158) (v := ?_) (a' := ?_) #[true, true, false, false, false, false, false, false, false, false, false, false, false, false, false, false, false, false, false, false, false, false, false, false, false, false, false, false, false, false, false, false, false, false, false, false, false] rfl rfl (any_of HT_.out (by kernel_rfl)) (fun _ _ _ h => h) (Or.inl ⟨by rfl, ?_⟩) ?_ ?_
                      rotate_left
                      ·intro w'
                       go_simp
                       with_reducible rfl
                      rotate_left
                      ·simp only [Act.put, List.setIfInBounds_toArray, List.set_cons_zero, List.set_cons_succ, i64_w, i32_w]
                       rfl
                      refine pure_ (i := 2) (N := some 159) (v := ?_) (a' := ?_) #[true, true, true, false, false, false, false, false, false, false, false, false, false, false, false, false, false, false, false, false, false, false, false, false, false, false, false, false, false, false, false, false, false, false, false, false, false] rfl rfl (any_of HT_.out (by kernel_rfl)) (fun _ _ _ h => h) (Or.inl ⟨by rfl, ?_⟩) ?_ ?_
                      rotate_left
                      ·intro w'
                       go_simp
                       with_reducible rfl
                      rotate_left
                      ·simp only [Act.put, List.setIfInBounds_toArray, List.set_cons_zero, List.set_cons_succ, i64_w, i32_w]
                       rfl
                      refine pure_ (i := 3) (N := some 160) (v := ?_) (a' := ?_) #[true, true, true, true, false, false, false, false, false, false, false, false, false, false, false, false, false, false, false, false, false, false, false, false, false, false, false, false, false, false, false, false, false, false, false, false, false] rfl rfl (any_of HT_.out (by kernel_rfl)) (fun _ _ _ h => h) (Or.inl ⟨by rfl, ?_⟩) ?_ ?_
                      rotate_left
                      ·intro w'
                       go_simp
                       with_reducible rfl
                      rotate_left
                      ·simp only [Act.put, List.setIfInBounds_toArray, List.set_cons_zero, List.set_cons_succ, i64_w, i32_w]
                       rfl
                      refine pure_ (i := 4) (N := some 161) (v := ?_) (a' := ?_) #[true, true, true, true, true, false, false, false, false, false, false, false, false, false, false, false, false, false, false, false, false, false, false, false, false, false, false, false, false, false, false, false, false, false, false, false, false] rfl rfl (any_of HT_.out (by kernel_rfl)) (fun _ _ _ h => h) (Or.inl ⟨by rfl, ?_⟩) ?_ ?_
                      rotate_left
                      ·intro w'
                       go_simp
                       with_reducible rfl
                      rotate_left
                      ·simp only [Act.put, List.setIfInBounds_toArray, List.set_cons_zero, List.set_cons_succ, i64_w, i32_w]
                       rfl
                      refine pure_ (i := 5) (N := some 162) (v := ?_) (a' := ?_) #[true, true, true, true, true, true, false, false, false, false, false, false, false, false, false, false, false, false, false, false, false, false, false, false, false, false, false, false, false, false, false, false, false, false, false, false, false] rfl rfl (any_of HT_.out (by kernel_rfl)) (fun _ _ _ h => h) (Or.inl ⟨by rfl, ?_⟩) ?_ ?_
                      rotate_left
                      ·intro w'
                       go_simp
                       with_reducible rfl
                      rotate_left
                      ·simp only [Act.put, List.setIfInBounds_toArray, List.set_cons_zero, List.set_cons_succ, i64_w, i32_w]
                       rfl
                      refine pure_ (i := 6) (N := some 163) (v := ?_) (a' := ?_) #[true, true, true, true, true, true, true, false, false, false, false, false, false, false, false, false, false, false, false, false, false, false, false, false, false, false, false, false, false, false, false, false, false, false, false, false, false] rfl rfl (any_of HT_.out (by kernel_rfl)) (fun _ _ _ h => h) (Or.inl ⟨by rfl, ?_⟩) ?_ ?_
                      rotate_left
                      ·intro w'
                       go_simp
                       with_reducible rfl
                      rotate_left
                      ·simp only [Act.put, List.setIfInBounds_toArray, List.set_cons_zero, List.set_cons_succ, i64_w, i32_w]
                       rfl
                      refine pure_ (i := 7) (N := some 164) (v := undef) (a' := ?_) #[true, true, true, true, true, true, true, true, false, false, false, false, false, false, false, false, false, false, false, false, false, false, false, false, false, false, false, false, false, false, false, false, false, false, false, false, false] rfl rfl (any_of HT_.out (by kernel_rfl)) (fun _ _ _ h => h) (Or.inr ⟨by rfl, rfl⟩) ?_ ?_
                      rotate_left
                      ·simp only [Act.put, List.setIfInBounds_toArray, List.set_cons_zero, List.set_cons_succ, i64_w, i32_w]
                       rfl
                      refine pure_ (i := 8) (N := some 165) (v := undef) (a' := ?_) #[true, true, true, true, true, true, true, true, true, false, false, false, false, false, false, false, false, false, false, false, false, false, false, false, false, false, false, false, false, false, false, false, false, false, false, false, false] rfl rfl (any_of HT_.out (by kernel_rfl)) (fun _ _ _ h => h) (Or.inr ⟨by rfl, rfl⟩) ?_ ?_
                      rotate_left
                      ·simp only [Act.put, List.setIfInBounds_toArray, List.set_cons_zero, List.set_cons_succ, i64_w, i32_w]
                       rfl
                      refine pure_ (i := 9) (N := some 166) (v := undef) (a' := ?_) #[true, true, true, true, true, true, true, true, true, true, false, false, false, false, false, false, false, false, false, false, false, false, false, false, false, false, false, false, false, false, false, false, false, false, false, false, false] rfl rfl (any_of HT_.out (by kernel_rfl)) (fun _ _ _ h => h) (Or.inr ⟨by rfl, rfl⟩) ?_ ?_
                      rotate_left
                      ·simp only [Act.put, List.setIfInBounds_toArray, List.set_cons_zero, List.set_cons_succ, i64_w, i32_w]
                       rfl
                      refine pure_ (i := 10) (N := some 167) (v := undef) (a' := ?_) #[true, true, true, true, true, true, true, true, true, true, true, false, false, false, false, false, false, false, false, false, false, false, false, false, false, false, false, false, false, false, false, false, false, false, false, false, false] rfl rfl (any_of HT_.out (by kernel_rfl)) (fun _ _ _ h => h) (Or.inr ⟨by rfl, rfl⟩) ?_ ?_
                      rotate_left
                      ·simp only [Act.put, List.setIfInBounds_toArray, List.set_cons_zero, List.set_cons_succ, i64_w, i32_w]
                       rfl
                      refine pure_ (i := 11) (N := some 168) (v := ?_) (a' := ?_) #[true, true, true, true, true, true, true, true, true, true, true, true, false, false, false, false, false, false, false, false, false, false, false, false, false, false, false, false, false, false, false, false, false, false, false, false, false] rfl rfl (any_of HT_.out (by kernel_rfl)) (fun _ _ _ h => h) (Or.inl ⟨by rfl, ?_⟩) ?_ ?_
                      rotate_left
                      ·intro w'
                       go_simp
                       with_reducible rfl
                      rotate_left
                      ·simp only [Act.put, List.setIfInBounds_toArray, List.set_cons_zero, List.set_cons_succ, i64_w, i32_w]
                       rfl
                      refine pure_ (i := 12) (N := some 169) (v := ?_) (a' := ?_) #[true, true, true, true, true, true, true, true, true, true, true, true, true, false, false, false, false, false, false, false, false, false, false, false, false, false, false, false, false, false, false, false, false, false, false, false, false] rfl rfl (any_of HT_.out (by kernel_rfl)) (fun _ _ _ h => h) (Or.inl ⟨by rfl, ?_⟩) ?_ ?_
                      rotate_left
                      ·intro w'
                       go_simp
                       with_reducible rfl
                      rotate_left
                      ·simp only [Act.put, List.setIfInBounds_toArray, List.set_cons_zero, List.set_cons_succ, i64_w, i32_w]
                       rfl
                      refine pure_ (i := 13) (N := some 170) (v := undef) (a' := ?_) #[true, true, true, true, true, true, true, true, true, true, true, true, true, true, false, false, false, false, false, false, false, false, false, false, false, false, false, false, false, false, false, false, false, false, false, false, false] rfl rfl (any_of HT_.out (by kernel_rfl)) (fun _ _ _ h => h) (Or.inr ⟨by rfl, rfl⟩) ?_ ?_
                      rotate_left
                      ·simp only [Act.put, List.setIfInBounds_toArray, List.set_cons_zero, List.set_cons_succ, i64_w, i32_w]
                       rfl
                      refine pure_ (i := 14) (N := some 171) (v := undef) (a' := ?_) #[true, true, true, true, true, true, true, true, true, true, true, true, true, true, true, false, false, false, false, false, false, false, false, false, false, false, false, false, false, false, false, false, false, false, false, false, false] rfl rfl (any_of HT_.out (by kernel_rfl)) (fun _ _ _ h => h) (Or.inr ⟨by rfl, rfl⟩) ?_ ?_
                      rotate_left
                      ·simp only [Act.put, List.setIfInBounds_toArray, List.set_cons_zero, List.set_cons_succ, i64_w, i32_w]
                       rfl
                      refine pure_ (i := 15) (N := some 172) (v := undef) (a' := ?_) #[true, true, true, true, true, true, true, true, true, true, true, true, true, true, true, true, false, false, false, false, false, false, false, false, false, false, false, false, false, false, false, false, false, false, false, false, false] rfl rfl (any_of HT_.out (by kernel_rfl)) (fun _ _ _ h => h) (Or.inr ⟨by rfl, rfl⟩) ?_ ?_
                      rotate_left
                      ·simp only [Act.put, List.setIfInBounds_toArray, List.set_cons_zero, List.set_cons_succ, i64_w, i32_w]
                       rfl
                      refine pure_ (i := 16) (N := some 173) (v := undef) (a' := ?_) #[true, true, true, true, true, true, true, true, true, true, true, true, true, true, true, true, true, false, false, false, false, false, false, false, false, false, false, false, false, false, false, false, false, false, false, false, false] rfl rfl (any_of HT_.out (by kernel_rfl)) (fun _ _ _ h => h) (Or.inr ⟨by rfl, rfl⟩) ?_ ?_
                      rotate_left
                      ·simp only [Act.put, List.setIfInBounds_toArray, List.set_cons_zero, List.set_cons_succ, i64_w, i32_w]
                       rfl
                      refine pure_ (i := 17) (N := some 174) (v := undef) (a' := ?_) #[true, true, true, true, true, true, true, true, true, true, true, true, true, true, true, true, true, true, false, false, false, false, false, false, false, false, false, false, false, false, false, false, false, false, false, false, false] rfl rfl (any_of HT_.out (by kernel_rfl)) (fun _ _ _ h => h) (Or.inr ⟨by rfl, rfl⟩) ?_ ?_
                      rotate_left
                      ·simp only [Act.put, List.setIfInBounds_toArray, List.set_cons_zero, List.set_cons_succ, i64_w, i32_w]
                       rfl
                      refine pure_ (i := 18) (N := some 175) (v := undef) (a' := ?_) #[true, true, true, true, true, true, true, true, true, true, true, true, true, true, true, true, true, true, true, false, false, false, false, false, false, false, false, false, false, false, false, false, false, false, false, false, false] rfl rfl (any_of HT_.out (by kernel_rfl)) (fun _ _ _ h => h) (Or.inr ⟨by rfl, rfl⟩) ?_ ?_
                      rotate_left
                      ·simp only [Act.put, List.setIfInBounds_toArray, List.set_cons_zero, List.set_cons_succ, i64_w, i32_w]
                       rfl
                      refine pure_ (i := 19) (N := some 176) (v := undef) (a' := ?_) #[true, true, true, true, true, true, true, true, true, true, true, true, true, true, true, true, true, true, true, true, false, false, false, false, false, false, false, false, false, false, false, false, false, false, false, false, false] rfl rfl (any_of HT_.out (by kernel_rfl)) (fun _ _ _ h => h) (Or.inr ⟨by rfl, rfl⟩) ?_ ?_
                      rotate_left
                      ·simp only [Act.put, List.setIfInBounds_toArray, List.set_cons_zero, List.set_cons_succ, i64_w, i32_w]
                       rfl
                      refine pure_ (i := 20) (N := some 177) (v := undef) (a' := ?_) #[true, true, true, true, true, true, true, true, true, true, true, true, true, true, true, true, true, true, true, true, true, false, false, false, false, false, false, false, false, false, false, false, false, false, false, false, false] rfl rfl (any_of HT_.out (by kernel_rfl)) (fun _ _ _ h => h) (Or.inr ⟨by rfl, rfl⟩) ?_ ?_
                      rotate_left
                      ·simp only [Act.put, List.setIfInBounds_toArray, List.set_cons_zero, List.set_cons_succ, i64_w, i32_w]
                       rfl
                      refine pure_ (i := 21) (N := some 178) (v := undef) (a' := ?_) #[true, true, true, true, true, true, true, true, true, true, true, true, true, true, true, true, true, true, true, true, true, true, false, false, false, false, false, false, false, false, false, false, false, false, false, false, false] rfl rfl (any_of HT_.out (by kernel_rfl)) (fun _ _ _ h => h) (Or.inr ⟨by rfl, rfl⟩) ?_ ?_
                      rotate_left
                      ·simp only [Act.put, List.setIfInBounds_toArray, List.set_cons_zero, List.set_cons_succ, i64_w, i32_w]
                       rfl
                      refine pure_ (i := 22) (N := some 179) (v := ?_) (a' := ?_) #[true, true, true, true, true, true, true, true, true, true, true, true, true, true, true, true, true, true, true, true, true, true, true, false, false, false, false, false, false, false, false, false, false, false, false, false, false] rfl rfl (any_of HT_.out (by kernel_rfl)) (fun _ _ _ h => h) (Or.inl ⟨by rfl, ?_⟩) ?_ ?_
                      rotate_left
                      ·intro w'
                       go_simp
                       with_reducible rfl
                      rotate_left
                      ·simp only [Act.put, List.setIfInBounds_toArray, List.set_cons_zero, List.set_cons_succ, i64_w, i32_w]
                       rfl
                      refine pure_ (i := 23) (N := some 180) (v := ?_) (a' := ?_) #[true, true, true, true, true, true, true, true, true, true, true, true, true, true, true, true, true, true, true, true, true, true, true, true, false, false, false, false, false, false, false, false, false, false, false, false, false] rfl rfl (any_of HT_.out (by kernel_rfl)) (fun _ _ _ h => h) (Or.inl ⟨by rfl, ?_⟩) ?_ ?_
                      rotate_left
                      ·intro w'
                       go_simp
                       with_reducible rfl
                      rotate_left
                      ·simp only [Act.put, List.setIfInBounds_toArray, List.set_cons_zero, List.set_cons_succ, i64_w, i32_w]
                       rfl
                      refine pure_ (i := 24) (N := some 181) (v := ?_) (a' := ?_) #[true, true, true, true, true, true, true, true, true, true, true, true, true, true, true, true, true, true, true, true, true, true, true, true, true, false, false, false, false, false, false, false, false, false, false, false, false] rfl rfl (any_of HT_.out (by kernel_rfl)) (fun _ _ _ h => h) (Or.inl ⟨by rfl, ?_⟩) ?_ ?_
                      rotate_left
                      ·intro w'
                       go_simp
                       with_reducible rfl
                      rotate_left
                      ·simp only [Act.put, List.setIfInBounds_toArray, List.set_cons_zero, List.set_cons_succ, i64_w, i32_w]
                       rfl
                      refine pure_ (i := 25) (N := some 182) (v := ?_) (a' := ?_) #[true, true, true, true, true, true, true, true, true, true, true, true, true, true, true, true, true, true, true, true, true, true, true, true, true, true, false, false, false, false, false, false, false, false, false, false, false] rfl rfl (any_of HT_.out (by kernel_rfl)) (fun _ _ _ h => h) (Or.inl ⟨by rfl, ?_⟩) ?_ ?_
                      rotate_left
                      ·intro w'
                       go_simp
                       with_reducible rfl
                      rotate_left
                      ·simp only [Act.put, List.setIfInBounds_toArray, List.set_cons_zero, List.set_cons_succ, i64_w, i32_w]
                       rfl
                      refine pure_ (i := 26) (N := some 183) (v := ?_) (a' := ?_) #[true, true, true, true, true, true, true, true, true, true, true, true, true, true, true, true, true, true, true, true, true, true, true, true, true, true, true, false, false, false, false, false, false, false, false, false, false] rfl rfl (any_of HT_.out (by kernel_rfl)) (fun _ _ _ h => h) (Or.inl ⟨by rfl, ?_⟩) ?_ ?_
                      rotate_left
                      ·intro w'
                       go_simp
                       with_reducible rfl
                      rotate_left
                      ·simp only [Act.put, List.setIfInBounds_toArray, List.set_cons_zero, List.set_cons_succ, i64_w, i32_w]
                       rfl
                      refine pure_ (i := 27) (N := some 184) (v := ?_) (a' := ?_) #[true, true, true, true, true, true, true, true, true, true, true, true, true, true, true, true, true, true, true, true, true, true, true, true, true, true, true, true, false, false, false, false, false, false, false, false, false] rfl rfl (any_of HT_.out (by kernel_rfl)) (fun _ _ _ h => h) (Or.inl ⟨by rfl, ?_⟩) ?_ ?_
                      rotate_left
                      ·intro w'
                       go_simp
                       with_reducible rfl
                      rotate_left
                      ·simp only [Act.put, List.setIfInBounds_toArray, List.set_cons_zero, List.set_cons_succ, i64_w, i32_w]
                       rfl
                      refine pure_ (i := 28) (N := some 185) (v := ?_) (a' := ?_) #[true, true, true, true, true, true, true, true, true, true, true, true, true, true, true, true, true, true, true, true, true, true, true, true, true, true, true, true, true, false, false, false, false, false, false, false, false] rfl rfl (any_of HT_.out (by kernel_rfl)) (fun _ _ _ h => h) (Or.inl ⟨by rfl, ?_⟩) ?_ ?_
                      rotate_left
                      ·intro w'
                       go_simp
                       with_reducible rfl
                      rotate_left
                      ·simp only [Act.put, List.setIfInBounds_toArray, List.set_cons_zero, List.set_cons_succ, i64_w, i32_w]
                       rfl
                      refine pure_ (i := 29) (N := some 186) (v := ?_) (a' := ?_) #[true, true, true, true, true, true, true, true, true, true, true, true, true, true, true, true, true, true, true, true, true, true, true, true, true, true, true, true, true, true, false, false, false, false, false, false, false] rfl rfl (any_of HT_.out (by kernel_rfl)) (fun _ _ _ h => h) (Or.inl ⟨by rfl, ?_⟩) ?_ ?_
                      rotate_left
                      ·intro w'
                       go_simp
                       with_reducible rfl
                      rotate_left
                      ·simp only [Act.put, List.setIfInBounds_toArray, List.set_cons_zero, List.set_cons_succ, i64_w, i32_w]
                       rfl
                      refine pure_ (i := 30) (N := some 187) (v := ?_) (a' := ?_) #[true, true, true, true, true, true, true, true, true, true, true, true, true, true, true, true, true, true, true, true, true, true, true, true, true, true, true, true, true, true, true, false, false, false, false, false, false] rfl rfl (any_of HT_.out (by kernel_rfl)) (fun _ _ _ h => h) (Or.inl ⟨by rfl, ?_⟩) ?_ ?_
                      rotate_left
                      ·intro w'
                       go_simp
                       with_reducible rfl
                      rotate_left
                      ·simp only [Act.put, List.setIfInBounds_toArray, List.set_cons_zero, List.set_cons_succ, i64_w, i32_w]
                       rfl
                      refine pure_ (i := 31) (N := some 188) (v := ?_) (a' := ?_) #[true, true, true, true, true, true, true, true, true, true, true, true, true, true, true, true, true, true, true, true, true, true, true, true, true, true, true, true, true, true, true, true, false, false, false, false, false] rfl rfl (any_of HT_.out (by kernel_rfl)) (fun _ _ _ h => h) (Or.inl ⟨by rfl, ?_⟩) ?_ ?_
                      rotate_left
                      ·intro w'
                       go_simp
                       with_reducible rfl
                      rotate_left
                      ·simp only [Act.put, List.setIfInBounds_toArray, List.set_cons_zero, List.set_cons_succ, i64_w, i32_w]
                       rfl
                      refine pure_ (i := 32) (N := some 189) (v := ?_) (a' := ?_) #[true, true, true, true, true, true, true, true, true, true, true, true, true, true, true, true, true, true, true, true, true, true, true, true, true, true, true, true, true, true, true, true, true, false, false, false, false] rfl rfl (any_of HT_.out (by kernel_rfl)) (fun _ _ _ h => h) (Or.inl ⟨by rfl, ?_⟩) ?_ ?_
                      rotate_left
                      ·intro w'
                       go_simp
                       with_reducible rfl
                      rotate_left
                      ·simp only [Act.put, List.setIfInBounds_toArray, List.set_cons_zero, List.set_cons_succ, i64_w, i32_w]
                       rfl
                      refine pure_ (i := 33) (N := some 190) (v := ?_) (a' := ?_) #[true, true, true, true, true, true, true, true, true, true, true, true, true, true, true, true, true, true, true, true, true, true, true, true, true, true, true, true, true, true, true, true, true, true, false, false, false] rfl rfl (any_of HT_.out (by kernel_rfl)) (fun _ _ _ h => h) (Or.inl ⟨by rfl, ?_⟩) ?_ ?_
                      rotate_left
                      ·intro w'
                       go_simp
                       with_reducible rfl
                      rotate_left
                      ·simp only [Act.put, List.setIfInBounds_toArray, List.set_cons_zero, List.set_cons_succ, i64_w, i32_w]
                       rfl
                      refine pure_ (i := 34) (N := some 191) (v := ?_) (a' := ?_) #[true, true, true, true, true, true, true, true, true, true, true, true, true, true, true, true, true, true, true, true, true, true, true, true, true, true, true, true, true, true, true, true, true, true, true, false, false] rfl rfl (any_of HT_.out (by kernel_rfl)) (fun _ _ _ h => h) (Or.inl ⟨by rfl, ?_⟩) ?_ ?_
                      rotate_left
                      ·intro w'
                       go_simp
                       with_reducible rfl
                      rotate_left
                      ·simp only [Act.put, List.setIfInBounds_toArray, List.set_cons_zero, List.set_cons_succ, i64_w, i32_w]
                       rfl
                      refine pure_ (i := 35) (N := some 192) (v := ?_) (a' := ?_) #[true, true, true, true, true, true, true, true, true, true, true, true, true, true, true, true, true, true, true, true, true, true, true, true, true, true, true, true, true, true, true, true, true, true, true, true, false] rfl rfl (any_of HT_.out (by kernel_rfl)) (fun _ _ _ h => h) (Or.inl ⟨by rfl, ?_⟩) ?_ ?_
                      rotate_left
                      ·intro w'
                       go_simp
                       with_reducible rfl
                      rotate_left
                      ·simp only [Act.put, List.setIfInBounds_toArray, List.set_cons_zero, List.set_cons_succ, i64_w, i32_w]
                       rfl
                      refine pure_ (i := 36) (N := some 4) (v := ?_) (a' := ?_) #[true, true, true, true, true, true, true, true, true, true, true, true, true, true, true, true, true, true, true, true, true, true, true, true, true, true, true, true, true, true, true, true, true, true, true, true, true] rfl rfl (any_of HT_.out (by kernel_rfl)) (fun _ _ _ h => h) (Or.inl ⟨by rfl, ?_⟩) ?_ ?_
                      rotate_left
                      ·intro w'
                       go_simp
                       with_reducible rfl
                      rotate_left
                      ·simp only [Act.put, List.setIfInBounds_toArray, List.set_cons_zero, List.set_cons_succ, i64_w, i32_w]
                       rfl
                      refine done_ (done_of HT_.out (by kernel_rfl)) ?_
                      try go_wp2
                      go_ret
                      exact ⟨by first | rfl | (simp [errW_none, errW_some] <;> rfl) | (simp only [← hji31, ← hji34]; first | rfl | (simp [errW_none, errW_some] <;> rfl)) | (simp [*, errW_none, errW_some] <;> rfl), by repeat (first | (with_reducible first | exact HB.out | apply below_alloc | apply pw_below_drewN | apply below_drew1) | exact HB.out)⟩
                     ·replace c41 := Bool.eq_false_iff.mpr c41
                      subst c41
                      have H1 : (none) = some r := by rw [if_neg (show ¬ (false = true) by decide)] at H; exact H
                      clear H
                      have H := H1
                      clear H1
                      exact absurd H (by simp)
                    ·rw [if_neg c40] at H
                     exact absurd H (by simp)
                   ·as_aux_lemma =>
                    rw [if_neg c39] at H
                    have c39b0 : (t448 == (l0.length : Int)) = false := beq_eq_false_iff_ne.mpr c39
                    have c39b1 : (t448 != (l0.length : Int)) = true := bne_iff_ne.mpr c39
                    by_cases c47 : t448 = (l1.length : Int)
                    ·as_aux_lemma =>
                     rw [if_pos c47] at H
                     have c47b0 : (t448 == (l1.length : Int)) = true := beq_iff_eq.mpr c47
                     have c47b1 : (t448 != (l1.length : Int)) = false := bne_eq_false_iff_eq.mpr c47
                     clear c47
                     by_cases c48 : t466 = t448
                     ·as_aux_lemma =>
                      rw [if_pos c48] at H
                      have c48b0 : (t466 == t448) = true := beq_iff_eq.mpr c48
                      have c48b1 : (t466 != t448) = false := bne_eq_false_iff_eq.mpr c48
                      clear c48
                      by_cases c49 : t467 = true
                      ·as_aux_lemma =>
                       subst c49
                       have H1 : (some (t468 == 0)) = some r := by rw [if_pos rfl] at H; exact H
                       clear H
                       have H := H1
                       clear H1
                       obtain rfl := Option.some.inj H
                       try go_wp2
                       have n0_ := Aside0.mk (below_drew1 HB.out)
                       clear HB
                       have HB := n0_
                       clear n0_
                       have q51 : ((ji31) : Int) ≤ ((l0.length : Int) : Int) := of_decide_eq_true (by first | (with_reducible assumption) | assumption)
                       obtain ⟨i051, hi051, _, hsz51, _⟩ := info_parts info49
                       have hroom51 : l0.length ≤ c0 := HC0.out
                       have hC51 : Kd.C k49 _ A0 l0.length l0 := HR0.out
                       have hcut51 := cut_to (P := Try.prog) 24 49 .i64 Try.underlying24 hi051 A0 l0.length c0 (ji31) (of_decide_eq_true (by first | (with_reducible assumption) | assumption)) q51 hroom51
                       have hr51 := Kd.C_take (m := ((ji31) : Int).toNat) hC51 (by omega)
                       have hy51 : y458.length = ((ji31) : Int).toNat := (by rw [Ny458.out, List.length_take]; omega)
                       rw [← Ny458.out] at hr51
                       rw [← hy51] at hcut51
                       have HR461 := Aside0.mk hr51
                       have HC461 := Aside0.mk (show y458.length ≤ c0 from by omega)
                       clear hr51 hC51 hroom51 hi051 hsz51
                       have KY51 := Aside0.mk hy51
                       clear hy51
                       replace q51 := eq_true q51
                       have q52 : ((ji34) : Int) ≤ ((l1.length : Int) : Int) := of_decide_eq_true (by first | (with_reducible assumption) | assumption)
                       obtain ⟨i052, hi052, _, hsz52, _⟩ := info_parts info49
                       have hroom52 : l1.length ≤ c1 := HC1.out
                       have hC52 : Kd.C k49 _ A1 l1.length l1 := HR1.out
                       have hcut52 := cut_to (P := Try.prog) 24 49 .i64 Try.underlying24 hi052 A1 l1.length c1 (ji34) (of_decide_eq_true (by first | (with_reducible assumption) | assumption)) q52 hroom52
                       have hr52 := Kd.C_take (m := ((ji34) : Int).toNat) hC52 (by omega)
                       have hy52 : y462.length = ((ji34) : Int).toNat := (by rw [Ny462.out, List.length_take]; omega)
                       rw [← Ny462.out] at hr52
                       rw [← hy52] at hcut52
                       have HR465 := Aside0.mk hr52
                       have HC465 := Aside0.mk (show y462.length ≤ c1 from by omega)
                       clear hr52 hC52 hroom52 hi052 hsz52
                       have KY52 := Aside0.mk hy52
                       clear hy52
                       replace q52 := eq_true q52
                       refine start_ (n := 22) (S := fun w' => True) (ds := []) #[false, false, false, false, false, false, false, false, false, false, false, false, false, false, false, false, false, false, false, false, false, false] (by kernel_rfl) rfl rfl trivial (fun hHeld => ?_); refine with_tabW chargeparklaw42_SettleDispute.tab20 chargeparklaw42_SettleDispute.bits20 (fun HT_ HW_ => ?_)
                       generalize wr.drew = w50 at HB HR461 HR465 hHeld ⊢
                       refine pure_ (i := 0) (N := some 139) (v := ?_) (a' := ?_) #[true, false, false, false, false, false, false, false, false, false, false, false, false, false, false, false, false, false, false, false, false, false] rfl rfl (any_of HT_.out (by kernel_rfl)) (fun _ _ _ h => h) (Or.inl ⟨by rfl, ?_⟩) ?_ ?_
                       rotate_left
                       ·intro w'
                        go_simp
                        with_reducible rfl
                       rotate_left
                       ·simp only [Act.put, List.setIfInBounds_toArray, List.set_cons_zero, List.set_cons_succ, i64_w, i32_w]
                        rfl
                       refine pure_ (i := 1) (N := some 140) (v := ?_) (a' := ?_) #[true, true, false, false, false, false, false, false, false, false, false, false, false, false, false, false, false, false, false, false, false, false] rfl rfl (any_of HT_.out (by kernel_rfl)) (fun _ _ _ h => h) (Or.inl ⟨by rfl, ?_⟩) ?_ ?_
                       rotate_left
                       ·intro w'
                        go_simp
                        with_reducible rfl
                       rotate_left
                       ·simp only [Act.put, List.setIfInBounds_toArray, List.set_cons_zero, List.set_cons_succ, i64_w, i32_w]
                        rfl
                       refine pure_ (i := 2) (N := some 141) (v := ?_) (a' := ?_) #[true, true, true, false, false, false, false, false, false, false, false, false, false, false, false, false, false, false, false, false, false, false] rfl rfl (any_of HT_.out (by kernel_rfl)) (fun _ _ _ h => h) (Or.inl ⟨by rfl, ?_⟩) ?_ ?_
                       rotate_left
                       ·intro w'
                        go_simp
                        with_reducible rfl
                       rotate_left
                       ·simp only [Act.put, List.setIfInBounds_toArray, List.set_cons_zero, List.set_cons_succ, i64_w, i32_w]
                        rfl
                       refine pure_ (i := 3) (N := some 142) (v := ?_) (a' := ?_) #[true, true, true, true, false, false, false, false, false, false, false, false, false, false, false, false, false, false, false, false, false, false] rfl rfl (any_of HT_.out (by kernel_rfl)) (fun _ _ _ h => h) (Or.inl ⟨by rfl, ?_⟩) ?_ ?_
                       rotate_left
                       ·intro w'
                        go_simp
                        with_reducible rfl
                       rotate_left
                       ·simp only [Act.put, List.setIfInBounds_toArray, List.set_cons_zero, List.set_cons_succ, i64_w, i32_w]
                        rfl
                       refine pure_ (i := 4) (N := some 143) (v := ?_) (a' := ?_) #[true, true, true, true, true, false, false, false, false, false, false, false, false, false, false, false, false, false, false, false, false, false] rfl rfl (any_of HT_.out (by kernel_rfl)) (fun _ _ _ h => h) (Or.inl ⟨by rfl, ?_⟩) ?_ ?_
                       rotate_left
                       ·intro w'
                        go_simp
                        with_reducible rfl
                       rotate_left
                       ·simp only [Act.put, List.setIfInBounds_toArray, List.set_cons_zero, List.set_cons_succ, i64_w, i32_w]
                        rfl
                       refine pure_ (i := 5) (N := some 144) (v := ?_) (a' := ?_) #[true, true, true, true, true, true, false, false, false, false, false, false, false, false, false, false, false, false, false, false, false, false] rfl rfl (any_of HT_.out (by kernel_rfl)) (fun _ _ _ h => h) (Or.inl ⟨by rfl, ?_⟩) ?_ ?_
                       rotate_left
                       ·intro w'
                        go_simp
                        with_reducible rfl
                       rotate_left
                       ·simp only [Act.put, List.setIfInBounds_toArray, List.set_cons_zero, List.set_cons_succ, i64_w, i32_w]
                        rfl
                       refine pure_ (i := 6) (N := some 145) (v := ?_) (a' := ?_) #[true, true, true, true, true, true, true, false, false, false, false, false, false, false, false, false, false, false, false, false, false, false] rfl rfl (any_of HT_.out (by kernel_rfl)) (fun _ _ _ h => h) (Or.inl ⟨by rfl, ?_⟩) ?_ ?_
                       rotate_left
                       ·intro w'
                        go_simp
                        with_reducible rfl
                       rotate_left
                       ·simp only [Act.put, List.setIfInBounds_toArray, List.set_cons_zero, List.set_cons_succ, i64_w, i32_w]
                        rfl
                       refine pure_ (i := 7) (N := some 146) (v := ?_) (a' := ?_) #[true, true, true, true, true, true, true, true, false, false, false, false, false, false, false, false, false, false, false, false, false, false] rfl rfl (any_of HT_.out (by kernel_rfl)) (fun _ _ _ h => h) (Or.inl ⟨by rfl, ?_⟩) ?_ ?_
                       rotate_left
                       ·intro w'
                        go_simp
                        with_reducible rfl
                       rotate_left
                       ·simp only [Act.put, List.setIfInBounds_toArray, List.set_cons_zero, List.set_cons_succ, i64_w, i32_w]
                        rfl
                       refine pure_ (i := 8) (N := some 147) (v := ?_) (a' := ?_) #[true, true, true, true, true, true, true, true, true, false, false, false, false, false, false, false, false, false, false, false, false, false] rfl rfl (any_of HT_.out (by kernel_rfl)) (fun _ _ _ h => h) (Or.inl ⟨by rfl, ?_⟩) ?_ ?_
                       rotate_left
                       ·intro w'
                        go_simp
                        with_reducible rfl
                       rotate_left
                       ·simp only [Act.put, List.setIfInBounds_toArray, List.set_cons_zero, List.set_cons_succ, i64_w, i32_w]
                        rfl
                       refine pure_ (i := 9) (N := some 148) (v := ?_) (a' := ?_) #[true, true, true, true, true, true, true, true, true, true, false, false, false, false, false, false, false, false, false, false, false, false] rfl rfl (any_of HT_.out (by kernel_rfl)) (fun _ _ _ h => h) (Or.inl ⟨by rfl, ?_⟩) ?_ ?_
                       rotate_left
                       ·intro w'
                        go_simp
                        with_reducible rfl
                       rotate_left
                       ·simp only [Act.put, List.setIfInBounds_toArray, List.set_cons_zero, List.set_cons_succ, i64_w, i32_w]
                        rfl
                       refine pure_ (i := 10) (N := some 149) (v := ?_) (a' := ?_) #[true, true, true, true, true, true, true, true, true, true, true, false, false, false, false, false, false, false, false, false, false, false] rfl rfl (any_of HT_.out (by kernel_rfl)) (fun _ _ _ h => h) (Or.inl ⟨by rfl, ?_⟩) ?_ ?_
                       rotate_left
                       ·intro w'
                        go_simp
                        with_reducible rfl
                       rotate_left
                       ·simp only [Act.put, List.setIfInBounds_toArray, List.set_cons_zero, List.set_cons_succ, i64_w, i32_w]
                        rfl
                       refine pure_ (i := 11) (N := some 150) (v := ?_) (a' := ?_) #[true, true, true, true, true, true, true, true, true, true, true, true, false, false, false, false, false, false, false, false, false, false] rfl rfl (any_of HT_.out (by kernel_rfl)) (fun _ _ _ h => h) (Or.inl ⟨by rfl, ?_⟩) ?_ ?_
                       rotate_left
                       ·intro w'
                        go_simp
                        with_reducible rfl
                       rotate_left
                       ·simp only [Act.put, List.setIfInBounds_toArray, List.set_cons_zero, List.set_cons_succ, i64_w, i32_w]
                        rfl
                       refine pure_ (i := 12) (N := some 151) (v := ?_) (a' := ?_) #[true, true, true, true, true, true, true, true, true, true, true, true, true, false, false, false, false, false, false, false, false, false] rfl rfl (any_of HT_.out (by kernel_rfl)) (fun _ _ _ h => h) (Or.inl ⟨by rfl, ?_⟩) ?_ ?_
                       rotate_left
                       ·intro w'
                        go_simp
                        with_reducible rfl
                       rotate_left
                       ·simp only [Act.put, List.setIfInBounds_toArray, List.set_cons_zero, List.set_cons_succ, i64_w, i32_w]
                        rfl
                       refine pure_ (i := 13) (N := some 152) (v := ?_) (a' := ?_) #[true, true, true, true, true, true, true, true, true, true, true, true, true, true, false, false, false, false, false, false, false, false] rfl rfl (any_of HT_.out (by kernel_rfl)) (fun _ _ _ h => h) (Or.inl ⟨by rfl, ?_⟩) ?_ ?_
                       rotate_left
                       ·intro w'
                        go_simp
                        with_reducible rfl
                       rotate_left
                       ·simp only [Act.put, List.setIfInBounds_toArray, List.set_cons_zero, List.set_cons_succ, i64_w, i32_w]
                        rfl
                       refine one_ (i := 14) (N := some 153) #[true, true, true, true, true, true, true, true, true, true, true, true, true, true, true, false, false, false, false, false, false, false] rfl rfl (one_of HT_.out (by kernel_rfl)) (by decide) (fun K hK => ?_)
                       refine goes_ Try.func14 (by kernel_rfl) rfl #[.slice A0 y458.length c0, .slice A1 y462.length c1] (by rfl) rfl rfl (by (try simp only [List.map_toArray, List.map_cons, List.map_nil]); first | done | rfl | (simp only [List.length_drop, List.length_take]; rfl)) ?_
                       with_reducible refine (settle_Dispute.calls k4 _ _ y458 _ _ y462 t466 true t468 _ ?side1 ?side2 ?side3 ?side4 A37.out).mono ?_
                       (case side1 => repeat (first | exact (Kd.C_below HR461.out HB.out) | (with_reducible refine Kd.C_alloc ?_ _) | (with_reducible refine Kd.C_drewN ?_ _) | (with_reducible refine Kd.C_drew ?_)))
                       (case side2 => exact HC461.out)
                       (case side3 => repeat (first | exact (Kd.C_below HR465.out HB.out) | (with_reducible refine Kd.C_alloc ?_ _) | (with_reducible refine Kd.C_drewN ?_ _) | (with_reducible refine Kd.C_drew ?_)))
                       (case side4 => exact HC465.out)
                       rintro e w53 ⟨rfl, hb⟩
                       refine ⟨_, rfl, ?_⟩
                       have n0_ := Aside0.mk (below_step (by repeat (first | (with_reducible first | exact HB.out | apply below_alloc | apply pw_below_drewN | apply below_drew1) | exact HB.out)) hb)
                       clear HB
                       have HB := n0_
                       clear n0_
                       (try clear hb)
                       (try clear hb2)
                       (try clear hk)
                       (try clear hi)
                       refine hK.out _ _ trivial (fun hHeld => ?_)
                       clear hK K
                       refine norm_ (a' := ?_) ?_ ?_
                       rotate_left
                       ·show Act.put _ (some 153) _ = _
                        simp only [Act.put, List.setIfInBounds_toArray, List.set_cons_zero, List.set_cons_succ, i64_w, i32_w]
                        rfl
                       refine pure_ (i := 15) (N := some 138) (v := ?_) (a' := ?_) #[true, true, true, true, true, true, true, true, true, true, true, true, true, true, true, true, false, false, false, false, false, false] rfl rfl (any_of HT_.out (by kernel_rfl)) (fun _ _ _ h => h) (Or.inl ⟨by rfl, ?_⟩) ?_ ?_
                       rotate_left
                       ·intro w'
                        go_simp
                        with_reducible rfl
                       rotate_left
                       ·simp only [Act.put, List.setIfInBounds_toArray, List.set_cons_zero, List.set_cons_succ, i64_w, i32_w]
                        rfl
                       refine pure_ (i := 16) (N := some 154) (v := ?_) (a' := ?_) #[true, true, true, true, true, true, true, true, true, true, true, true, true, true, true, true, true, false, false, false, false, false] rfl rfl (any_of HT_.out (by kernel_rfl)) (fun _ _ _ h => h) (Or.inl ⟨by rfl, ?_⟩) ?_ ?_
                       rotate_left
                       ·intro w'
                        go_simp
                        with_reducible rfl
                       rotate_left
                       ·simp only [Act.put, List.setIfInBounds_toArray, List.set_cons_zero, List.set_cons_succ, i64_w, i32_w]
                        rfl
                       refine pure_ (i := 17) (N := some 155) (v := ?_) (a' := ?_) #[true, true, true, true, true, true, true, true, true, true, true, true, true, true, true, true, true, true, false, false, false, false] rfl rfl (any_of HT_.out (by kernel_rfl)) (fun _ _ _ h => h) (Or.inl ⟨by rfl, ?_⟩) ?_ ?_
                       rotate_left
                       ·intro w'
                        go_simp
                        with_reducible rfl
                       rotate_left
                       ·simp only [Act.put, List.setIfInBounds_toArray, List.set_cons_zero, List.set_cons_succ, i64_w, i32_w]
                        rfl
                       refine pure_ (i := 18) (N := some 156) (v := ?_) (a' := ?_) #[true, true, true, true, true, true, true, true, true, true, true, true, true, true, true, true, true, true, true, false, false, false] rfl rfl (any_of HT_.out (by kernel_rfl)) (fun _ _ _ h => h) (Or.inl ⟨by rfl, ?_⟩) ?_ ?_
                       rotate_left
                       ·intro w'
                        go_simp
                        with_reducible rfl
                       rotate_left
                       ·simp only [Act.put, List.setIfInBounds_toArray, List.set_cons_zero, List.set_cons_succ, i64_w, i32_w]
                        rfl
                       refine pure_ (i := 19) (N := some 14) (v := ?_) (a' := ?_) #[true, true, true, true, true, true, true, true, true, true, true, true, true, true, true, true, true, true, true, true, false, false] rfl rfl (any_of HT_.out (by kernel_rfl)) (fun _ _ _ h => h) (Or.inl ⟨by rfl, ?_⟩) ?_ ?_
                       rotate_left
                       ·intro w'
                        go_simp
                        with_reducible rfl
                       rotate_left
                       ·simp only [Act.put, List.setIfInBounds_toArray, List.set_cons_zero, List.set_cons_succ, i64_w, i32_w]
                        rfl
                       refine pure_ (i := 20) (N := some 15) (v := ?_) (a' := ?_) #[true, true, true, true, true, true, true, true, true, true, true, true, true, true, true, true, true, true, true, true, true, false] rfl rfl (any_of HT_.out (by kernel_rfl)) (fun _ _ _ h => h) (Or.inl ⟨by rfl, ?_⟩) ?_ ?_
                       rotate_left
                       ·intro w'
                        go_simp
                        with_reducible rfl
                       rotate_left
                       ·simp only [Act.put, List.setIfInBounds_toArray, List.set_cons_zero, List.set_cons_succ, i64_w, i32_w]
                        rfl
                       refine pure_ (i := 21) (N := some 16) (v := ?_) (a' := ?_) #[true, true, true, true, true, true, true, true, true, true, true, true, true, true, true, true, true, true, true, true, true, true] rfl rfl (any_of HT_.out (by kernel_rfl)) (fun _ _ _ h => h) (Or.inl ⟨by rfl, ?_⟩) ?_ ?_
                       rotate_left
                       ·intro w'
                        go_simp
                        with_reducible rfl
                       rotate_left
                       ·simp only [Act.put, List.setIfInBounds_toArray, List.set_cons_zero, List.set_cons_succ, i64_w, i32_w]
                        rfl
                       refine done_ (done_of HT_.out (by kernel_rfl)) ?_
                       try go_wp2
                       have n0_ := Aside0.mk (below_drew1 HB.out)
                       clear HB
                       have HB := n0_
                       clear n0_
                       refine start_ (n := 37) (S := fun w' => True) (ds := []) #[false, false, false, false, false, false, false, false, false, false, false, false, false, false, false, false, false, false, false, false, false, false, false, false, false, false, false, false, false, false, false, false, false, false, false, false, false] (by kernel_rfl) rfl rfl trivial (fun hHeld => ?_); refine with_tabW chargeparklaw42_SettleDispute.tab21 chargeparklaw42_SettleDispute.bits21 (fun HT_ HW_ => ?_)
                       generalize w53.drew = w54 at HB hHeld ⊢
                       refine pure_ (i := 0) (N := some 157) (v := ?_) (a' := ?_) #[true, false, false, false, false, false, false, false, false, false, false, false, false, false, false, false, false, false, false, false, false, false, false, false, false, false, false, false, false, false, false, false, false, false, false, false, false] rfl rfl (any_of HT_.out (by kernel_rfl)) (fun _ _ _ h => h) (Or.inl ⟨by rfl, ?_⟩) ?_ ?_
                       rotate_left
                       ·intro w'
                        go_simp
                        with_reducible rfl
                       rotate_left
                       ·simp only [Act.put, List.setIfInBounds_toArray, List.set_cons_zero, List.set_cons_succ, i64_w, i32_w]
                        rfl
                       refine pure_ (i := 1) (N := some 158) (v := ?_) (a' := ?_) #[true, true, false, false, false, false, false, false, false, false, false, false, false, false, false, false, false, false, false, false, false, false, false, false, false, false, false, false, false, false, false, false, false, false, false, false, false] rfl rfl (any_of HT_.out (by kernel_rfl)) (fun _ _ _ h => h) (Or.inl ⟨by rfl, ?_⟩) ?_ ?_
                       rotate_left
                       ·intro w'
                        go_simp
                        with_reducible rfl
                       rotate_left
                       ·simp only [Act.put, List.setIfInBounds_toArray, List.set_cons_zero, List.set_cons_succ, i64_w, i32_w]
                        rfl
                       refine pure_ (i := 2) (N := some 159) (v := ?_) (a' := ?_) #[true, true, true, false, false, false, false, false, false, false, false, false, false, false, false, false, false, false, false, false, false, false, false, false, false, false, false, false, false, false, false, false, false, false, false, false, false] rfl rfl (any_of HT_.out (by kernel_rfl)) (fun _ _ _ h => h) (Or.inl ⟨by rfl, ?_⟩) ?_ ?_
                       rotate_left
                       ·intro w'
                        go_simp
                        with_reducible rfl
                       rotate_left
                       ·simp only [Act.put, List.setIfInBounds_toArray, List.set_cons_zero, List.set_cons_succ, i64_w, i32_w]
                        rfl
                       refine pure_ (i := 3) (N := some 160) (v := ?_) (a' := ?_) #[true, true, true, true, false, false, false, false, false, false, false, false, false, false, false, false, false, false, false, false, false, false, false, false, false, false, false, false, false, false, false, false, false, false, false, false, false] rfl rfl (any_of HT_.out (by kernel_rfl)) (fun _ _ _ h => h) (Or.inl ⟨by rfl, ?_⟩) ?_ ?_
                       rotate_left
                       ·intro w'
                        go_simp
                        with_reducible rfl
                       rotate_left
                       ·simp only [Act.put, List.setIfInBounds_toArray, List.set_cons_zero, List.set_cons_succ, i64_w, i32_w]
                        rfl
                       refine pure_ (i := 4) (N := some 161) (v := ?_) (a' := ?_) #[true, true, true, true, true, false, false, false, false, false, false, false, false, false, false, false, false, false, false, false, false, false, false, false, false, false, false, false, false, false, false, false, false, false, false, false, false] rfl rfl (any_of HT_.out (by kernel_rfl)) (fun _ _ _ h => h) (Or.inl ⟨by rfl, ?_⟩) ?_ ?_
                       rotate_left
                       ·intro w'
                        go_simp
                        with_reducible rfl
                       rotate_left
                       ·simp only [Act.put, List.setIfInBounds_toArray, List.set_cons_zero, List.set_cons_succ, i64_w, i32_w]
                        rfl
                       refine pure_ (i := 5) (N := some 162) (v := ?_) (a' := ?_) #[true, true, true, true, true, true, false, false, false, false, false, false, false, false, false, false, false, false, false, false, false, false, false, false, false, false, false, false, false, false, false, false, false, false, false, false, false] rfl rfl (any_of HT_.out (by kernel_rfl)) (fun _ _ _ h => h) (Or.inl ⟨by rfl, ?_⟩) ?_ ?_
                       rotate_left
                       ·intro w'
                        go_simp
                        with_reducible rfl
                       rotate_left
                       ·simp only [Act.put, List.setIfInBounds_toArray, List.set_cons_zero, List.set_cons_succ, i64_w, i32_w]
                        rfl
                       refine pure_ (i := 6) (N := some 163) (v := ?_) (a' := ?_) #[true, true, true, true, true, true, true, false, false, false, false, false, false, false, false, false, false, false, false, false, false, false, false, false, false, false, false, false, false, false, false, false, false, false, false, false, false] rfl rfl (any_of HT_.out (by kernel_rfl)) (fun _ _ _ h => h) (Or.inl ⟨by rfl, ?_⟩) ?_ ?_
                       rotate_left
                       ·intro w'
                        go_simp
                        with_reducible rfl
                       rotate_left
                       ·simp only [Act.put, List.setIfInBounds_toArray, List.set_cons_zero, List.set_cons_succ, i64_w, i32_w]
                        rfl
                       refine pure_ (i := 7) (N := some 164) (v := ?_) (a' := ?_) #[true, true, true, true, true, true, true, true, false, false, false, false, false, false, false, false, false, false, false, false, false, false, false, false, false, false, false, false, false, false, false, false, false, false, false, false, false] rfl rfl (any_of HT_.out (by kernel_rfl)) (fun _ _ _ h => h) (Or.inl ⟨by rfl, ?_⟩) ?_ ?_
                       rotate_left
                       ·intro w'
                        go_simp
                        with_reducible rfl
                       rotate_left
                       ·simp only [Act.put, List.setIfInBounds_toArray, List.set_cons_zero, List.set_cons_succ, i64_w, i32_w]
                        rfl
                       refine pure_ (i := 8) (N := some 165) (v := ?_) (a' := ?_) #[true, true, true, true, true, true, true, true, true, false, false, false, false, false, false, false, false, false, false, false, false, false, false, false, false, false, false, false, false, false, false, false, false, false, false, false, false] rfl rfl (any_of HT_.out (by kernel_rfl)) (fun _ _ _ h => h) (Or.inl ⟨by rfl, ?_⟩) ?_ ?_
                       rotate_left
                       ·intro w'
                        go_simp
                        with_reducible rfl
                       rotate_left
                       ·simp only [Act.put, List.setIfInBounds_toArray, List.set_cons_zero, List.set_cons_succ, i64_w, i32_w]
                        rfl
                       refine pure_ (i := 9) (N := some 166) (v := ?_) (a' := ?_) #[true, true, true, true, true, true, true, true, true, true, false, false, false, false, false, false, false, false, false, false, false, false, false, false, false, false, false, false, false, false, false, false, false, false, false, false, false] rfl rfl (any_of HT_.out (by kernel_rfl)) (fun _ _ _ h => h) (Or.inl ⟨by rfl, ?_⟩) ?_ ?_
                       rotate_left
                       ·intro w'
                        go_simp
                        with_reducible rfl
                       rotate_left
                       ·simp only [Act.put, List.setIfInBounds_toArray, List.set_cons_zero, List.set_cons_succ, i64_w, i32_w]
                        rfl
                       refine pure_ (i := 10) (N := some 167) (v := ?_) (a' := ?_) #[true, true, true, true, true, true, true, true, true, true, true, false, false, false, false, false, false, false, false, false, false, false, false, false, false, false, false, false, false, false, false, false, false, false, false, false, false] rfl rfl (any_of HT_.out (by kernel_rfl)) (fun _ _ _ h => h) (Or.inl ⟨by rfl, ?_⟩) ?_ ?_
                       rotate_left
                       ·intro w'
                        go_simp
                        with_reducible rfl
                       rotate_left
                       ·simp only [Act.put, List.setIfInBounds_toArray, List.set_cons_zero, List.set_cons_succ, i64_w, i32_w]
                        rfl
                       refine pure_ (i := 11) (N := some 168) (v := ?_) (a' := ?_) #[true, true, true, true, true, true, true, true, true, true, true, true, false, false, false, false, false, false, false, false, false, false, false, false, false, false, false, false, false, false, false, false, false, false, false, false, false] rfl rfl (any_of HT_.out (by kernel_rfl)) (fun _ _ _ h => h) (Or.inl ⟨by rfl, ?_⟩) ?_ ?_
                       rotate_left
                       ·intro w'
                        go_simp
                        with_reducible rfl
                       rotate_left
                       ·simp only [Act.put, List.setIfInBounds_toArray, List.set_cons_zero, List.set_cons_succ, i64_w, i32_w]
                        rfl
                       refine pure_ (i := 12) (N := some 169) (v := ?_) (a' := ?_) #[true, true, true, true, true, true, true, true, true, true, true, true, true, false, false, false, false, false, false, false, false, false, false, false, false, false, false, false, false, false, false, false, false, false, false, false, false] rfl rfl (any_of HT_.out (by kernel_rfl)) (fun _ _ _ h => h) (Or.inl ⟨by rfl, ?_⟩) ?_ ?_
                       rotate_left
                       ·intro w'
                        go_simp
                        with_reducible rfl
                       rotate_left
                       ·simp only [Act.put, List.setIfInBounds_toArray, List.set_cons_zero, List.set_cons_succ, i64_w, i32_w]
                        rfl
                       refine pure_ (i := 13) (N := some 170) (v := undef) (a' := ?_) #[true, true, true, true, true, true, true, true, true, true, true, true, true, true, false, false, false, false, false, false, false, false, false, false, false, false, false, false, false, false, false, false, false, false, false, false, false] rfl rfl (any_of HT_.out (by kernel_rfl)) (fun _ _ _ h => h) (Or.inr ⟨by rfl, rfl⟩) ?_ ?_
                       rotate_left
                       ·simp only [Act.put, List.setIfInBounds_toArray, List.set_cons_zero, List.set_cons_succ, i64_w, i32_w]
                        rfl
                       refine pure_ (i := 14) (N := some 171) (v := undef) (a' := ?_) #[true, true, true, true, true, true, true, true, true, true, true, true, true, true, true, false, false, false, false, false, false, false, false, false, false, false, false, false, false, false, false, false, false, false, false, false, false] rfl rfl (any_of HT_.out (by kernel_rfl)) (fun _ _ _ h => h) (Or.inr ⟨by rfl, rfl⟩) ?_ ?_
                       rotate_left
                       ·simp only [Act.put, List.setIfInBounds_toArray, List.set_cons_zero, List.set_cons_succ, i64_w, i32_w]
                        rfl
                       refine pure_ (i := 15) (N := some 172) (v := undef) (a' := ?_) #[true, true, true, true, true, true, true, true, true, true, true, true, true, true, true, true, false, false, false, false, false, false, false, false, false, false, false, false, false, false, false, false, false, false, false, false, false] rfl rfl (any_of HT_.out (by kernel_rfl)) (fun _ _ _ h => h) (Or.inr ⟨by rfl, rfl⟩) ?_ ?_
                       rotate_left
                       ·simp only [Act.put, List.setIfInBounds_toArray, List.set_cons_zero, List.set_cons_succ, i64_w, i32_w]
                        rfl
                       refine pure_ (i := 16) (N := some 173) (v := undef) (a' := ?_) #[true, true, true, true, true, true, true, true, true, true, true, true, true, true, true, true, true, false, false, false, false, false, false, false, false, false, false, false, false, false, false, false, false, false, false, false, false] rfl rfl (any_of HT_.out (by kernel_rfl)) (fun _ _ _ h => h) (Or.inr ⟨by rfl, rfl⟩) ?_ ?_
                       rotate_left
                       ·simp only [Act.put, List.setIfInBounds_toArray, List.set_cons_zero, List.set_cons_succ, i64_w, i32_w]
                        rfl
                       refine pure_ (i := 17) (N := some 174) (v := undef) (a' := ?_) #[true, true, true, true, true, true, true, true, true, true, true, true, true, true, true, true, true, true, false, false, false, false, false, false, false, false, false, false, false, false, false, false, false, false, false, false, false] rfl rfl (any_of HT_.out (by kernel_rfl)) (fun _ _ _ h => h) (Or.inr ⟨by rfl, rfl⟩) ?_ ?_
                       rotate_left
                       ·simp only [Act.put, List.setIfInBounds_toArray, List.set_cons_zero, List.set_cons_succ, i64_w, i32_w]
                        rfl
                       refine pure_ (i := 18) (N := some 175) (v := undef) (a' := ?_) #[true, true, true, true, true, true, true, true, true, true, true, true, true, true, true, true, true, true, true, false, false, false, false, false, false, false, false, false, false, false, false, false, false, false, false, false, false] rfl rfl (any_of HT_.out (by kernel_rfl)) (fun _ _ _ h => h) (Or.inr ⟨by rfl, rfl⟩) ?_ ?_
                       rotate_left
                       ·simp only [Act.put, List.setIfInBounds_toArray, List.set_cons_zero, List.set_cons_succ, i64_w, i32_w]
                        rfl
                       refine pure_ (i := 19) (N := some 176) (v := undef) (a' := ?_) #[true, true, true, true, true, true, true, true, true, true, true, true, true, true, true, true, true, true, true, true, false, false, false, false, false, false, false, false, false, false, false, false, false, false, false, false, false] rfl rfl (any_of HT_.out (by kernel_rfl)) (fun _ _ _ h => h) (Or.inr ⟨by rfl, rfl⟩) ?_ ?_
                       rotate_left
                       ·simp only [Act.put, List.setIfInBounds_toArray, List.set_cons_zero, List.set_cons_succ, i64_w, i32_w]
                        rfl
                       refine pure_ (i := 20) (N := some 177) (v := undef) (a' := ?_) #[true, true, true, true, true, true, true, true, true, true, true, true, true, true, true, true, true, true, true, true, true, false, false, false, false, false, false, false, false, false, false, false, false, false, false, false, false] rfl rfl (any_of HT_.out (by kernel_rfl)) (fun _ _ _ h => h) (Or.inr ⟨by rfl, rfl⟩) ?_ ?_
                       rotate_left
                       ·simp only [Act.put, List.setIfInBounds_toArray, List.set_cons_zero, List.set_cons_succ, i64_w, i32_w]
                        rfl
                       refine pure_ (i := 21) (N := some 178) (v := undef) (a' := ?_) #[true, true, true, true, true, true, true, true, true, true, true, true, true, true, true, true, true, true, true, true, true, true, false, false, false, false, false, false, false, false, false, false, false, false, false, false, false] rfl rfl (any_of HT_.out (by kernel_rfl)) (fun _ _ _ h => h) (Or.inr ⟨by rfl, rfl⟩) ?_ ?_
                       rotate_left
                       ·simp only [Act.put, List.setIfInBounds_toArray, List.set_cons_zero, List.set_cons_succ, i64_w, i32_w]
                        rfl
                       refine pure_ (i := 22) (N := some 179) (v := ?_) (a' := ?_) #[true, true, true, true, true, true, true, true, true, true, true, true, true, true, true, true, true, true, true, true, true, true, true, false, false, false, false, false, false, false, false, false, false, false, false, false, false] rfl rfl (any_of HT_.out (by kernel_rfl)) (fun _ _ _ h => h) (Or.inl ⟨by rfl, ?_⟩) ?_ ?_
                       rotate_left
                       ·intro w'
                        go_simp
                        with_reducible rfl
                       rotate_left
                       ·simp only [Act.put, List.setIfInBounds_toArray, List.set_cons_zero, List.set_cons_succ, i64_w, i32_w]
                        rfl
                       refine pure_ (i := 23) (N := some 180) (v := ?_) (a' := ?_) #[true, true, true, true, true, true, true, true, true, true, true, true, true, true, true, true, true, true, true, true, true, true, true, true, false, false, false, false, false, false, false, false, false, false, false, false, false] rfl rfl (any_of HT_.out (by kernel_rfl)) (fun _ _ _ h => h) (Or.inl ⟨by rfl, ?_⟩) ?_ ?_
                       rotate_left
                       ·intro w'
                        go_simp
                        with_reducible rfl
                       rotate_left
                       ·simp only [Act.put, List.setIfInBounds_toArray, List.set_cons_zero, List.set_cons_succ, i64_w, i32_w]
                        rfl
                       refine pure_ (i := 24) (N := some 181) (v := ?_) (a' := ?_) #[true, true, true, true, true, true, true, true, true, true, true, true, true, true, true, true, true, true, true, true, true, true, true, true, true, false, false, false, false, false, false, false, false, false, false, false, false] rfl rfl (any_of HT_.out (by kernel_rfl)) (fun _ _ _ h => h) (Or.inl ⟨by rfl, ?_⟩) ?_ ?_
                       rotate_left
                       ·intro w'
                        go_simp
                        with_reducible rfl
                       rotate_left
                       ·simp only [Act.put, List.setIfInBounds_toArray, List.set_cons_zero, List.set_cons_succ, i64_w, i32_w]
                        rfl
                       refine pure_ (i := 25) (N := some 182) (v := ?_) (a' := ?_) #[true, true, true, true, true, true, true, true, true, true, true, true, true, true, true, true, true, true, true, true, true, true, true, true, true, true, false, false, false, false, false, false, false, false, false, false, false] rfl rfl (any_of HT_.out (by kernel_rfl)) (fun _ _ _ h => h) (Or.inl ⟨by rfl, ?_⟩) ?_ ?_
                       rotate_left
                       ·intro w'
                        go_simp
                        with_reducible rfl
                       rotate_left
                       ·simp only [Act.put, List.setIfInBounds_toArray, List.set_cons_zero, List.set_cons_succ, i64_w, i32_w]
                        rfl
                       refine pure_ (i := 26) (N := some 183) (v := ?_) (a' := ?_) #[true, true, true, true, true, true, true, true, true, true, true, true, true, true, true, true, true, true, true, true, true, true, true, true, true, true, true, false, false, false, false, false, false, false, false, false, false] rfl rfl (any_of HT_.out (by kernel_rfl)) (fun _ _ _ h => h) (Or.inl ⟨by rfl, ?_⟩) ?_ ?_
                       rotate_left
                       ·intro w'
                        go_simp
                        with_reducible rfl
                       rotate_left
                       ·simp only [Act.put, List.setIfInBounds_toArray, List.set_cons_zero, List.set_cons_succ, i64_w, i32_w]
                        rfl
                       refine pure_ (i := 27) (N := some 184) (v := ?_) (a' := ?_) #[true, true, true, true, true, true, true, true, true, true, true, true, true, true, true, true, true, true, true, true, true, true, true, true, true, true, true, true, false, false, false, false, false, false, false, false, false] rfl rfl (any_of HT_.out (by kernel_rfl)) (fun _ _ _ h => h) (Or.inl ⟨by rfl, ?_⟩) ?_ ?_
                       rotate_left
                       ·intro w'
                        go_simp
                        with_reducible rfl
                       rotate_left
                       ·simp only [Act.put, List.setIfInBounds_toArray, List.set_cons_zero, List.set_cons_succ, i64_w, i32_w]
                        rfl
                       refine pure_ (i := 28) (N := some 185) (v := ?_) (a' := ?_) #[true, true, true, true, true, true, true, true, true, true, true, true, true, true, true, true, true, true, true, true, true, true, true, true, true, true, true, true, true, false, false, false, false, false, false, false, false] rfl rfl (any_of HT_.out (by kernel_rfl)) (fun _ _ _ h => h) (Or.inl ⟨by rfl, ?_⟩) ?_ ?_
                       rotate_left
                       ·intro w'
                        go_simp
                        with_reducible rfl
                       rotate_left
                       ·simp only [Act.put, List.setIfInBounds_toArray, List.set_cons_zero, List.set_cons_succ, i64_w, i32_w]
                        rfl
                       refine pure_ (i := 29) (N := some 186) (v := ?_) (a' := ?_) #[true, true, true, true, true, true, true, true, true, true, true, true, true, true, true, true, true, true, true, true, true, true, true, true, true, true, true, true, true, true, false, false, false, false, false, false, false] rfl rfl (any_of HT_.out (by kernel_rfl)) (fun _ _ _ h => h) (Or.inl ⟨by rfl, ?_⟩) ?_ ?_
                       rotate_left
                       ·intro w'
                        go_simp
                        with_reducible rfl
                       rotate_left
                       ·simp only [Act.put, List.setIfInBounds_toArray, List.set_cons_zero, List.set_cons_succ, i64_w, i32_w]
                        rfl
                       refine pure_ (i := 30) (N := some 187) (v := ?_) (a' := ?_) #[true, true, true, true, true, true, true, true, true, true, true, true, true, true, true, true, true, true, true, true, true, true, true, true, true, true, true, true, true, true, true, false, false, false, false, false, false] rfl rfl (any_of HT_.out (by kernel_rfl)) (fun _ _ _ h => h) (Or.inl ⟨by rfl, ?_⟩) ?_ ?_
                       rotate_left
                       ·intro w'
                        go_simp
                        with_reducible rfl
                       rotate_left
                       ·simp only [Act.put, List.setIfInBounds_toArray, List.set_cons_zero, List.set_cons_succ, i64_w, i32_w]
                        rfl
                       refine pure_ (i := 31) (N := some 188) (v := ?_) (a' := ?_) #[true, true, true, true, true, true, true, true, true, true, true, true, true, true, true, true, true, true, true, true, true, true, true, true, true, true, true, true, true, true, true, true, false, false, false, false, false] rfl rfl (any_of HT_.out (by kernel_rfl)) (fun _ _ _ h => h) (Or.inl ⟨by rfl, ?_⟩) ?_ ?_
                       rotate_left
                       ·intro w'
                        go_simp
                        with_reducible rfl
                       rotate_left
                       ·simp only [Act.put, List.setIfInBounds_toArray, List.set_cons_zero, List.set_cons_succ, i64_w, i32_w]
                        rfl
                       refine pure_ (i := 32) (N := some 189) (v := ?_) (a' := ?_) #[true, true, true, true, true, true, true, true, true, true, true, true, true, true, true, true, true, true, true, true, true, true, true, true, true, true, true, true, true, true, true, true, true, false, false, false, false] rfl rfl (any_of HT_.out (by kernel_rfl)) (fun _ _ _ h => h) (Or.inl ⟨by rfl, ?_⟩) ?_ ?_
                       rotate_left
                       ·intro w'
                        go_simp
                        with_reducible rfl
                       rotate_left
                       ·simp only [Act.put, List.setIfInBounds_toArray, List.set_cons_zero, List.set_cons_succ, i64_w, i32_w]
                        rfl
                       refine pure_ (i := 33) (N := some 190) (v := ?_) (a' := ?_) #[true, true, true, true, true, true, true, true, true, true, true, true, true, true, true, true, true, true, true, true, true, true, true, true, true, true, true, true, true, true, true, true, true, true, false, false, false] rfl rfl (any_of HT_.out (by kernel_rfl)) (fun _ _ _ h => h) (Or.inl ⟨by rfl, ?_⟩) ?_ ?_
                       rotate_left
                       ·intro w'
                        go_simp
                        with_reducible rfl
                       rotate_left
                       ·simp only [Act.put, List.setIfInBounds_toArray, List.set_cons_zero, List.set_cons_succ, i64_w, i32_w]
                        rfl
                       refine pure_ (i := 34) (N := some 191) (v := ?_) (a' := ?_) #[true, true, true, true, true, true, true, true, true, true, true, true, true, true, true, true, true, true, true, true, true, true, true, true, true, true, true, true, true, true, true, true, true, true, true, false, false] rfl rfl (any_of HT_.out (by kernel_rfl)) (fun _ _ _ h => h) (Or.inl ⟨by rfl, ?_⟩) ?_ ?_
                       rotate_left
                       ·intro w'
                        go_simp
                        with_reducible rfl
                       rotate_left
                       ·simp only [Act.put, List.setIfInBounds_toArray, List.set_cons_zero, List.set_cons_succ, i64_w, i32_w]
                        rfl
                       refine pure_ (i := 35) (N := some 192) (v := ?_) (a' := ?_) #[true, true, true, true, true, true, true, true, true, true, true, true, true, true, true, true, true, true, true, true, true, true, true, true, true, true, true, true, true, true, true, true, true, true, true, true, false] rfl rfl (any_of HT_.out (by kernel_rfl)) (fun _ _ _ h => h) (Or.inl ⟨by rfl, ?_⟩) ?_ ?_
                       rotate_left
                       ·intro w'
                        go_simp
                        with_reducible rfl
                       rotate_left
                       ·simp only [Act.put, List.setIfInBounds_toArray, List.set_cons_zero, List.set_cons_succ, i64_w, i32_w]
                        rfl
                       refine pure_ (i := 36) (N := some 4) (v := ?_) (a' := ?_) #[true, true, true, true, true, true, true, true, true, true, true, true, true, true, true, true, true, true, true, true, true, true, true, true, true, true, true, true, true, true, true, true, true, true, true, true, true] rfl rfl (any_of HT_.out (by kernel_rfl)) (fun _ _ _ h => h) (Or.inl ⟨by rfl, ?_⟩) ?_ ?_
                       rotate_left
                       ·intro w'
                        go_simp
                        with_reducible rfl
                       rotate_left
                       ·simp only [Act.put, List.setIfInBounds_toArray, List.set_cons_zero, List.set_cons_succ, i64_w, i32_w]
                        rfl
                       refine done_ (done_of HT_.out (by kernel_rfl)) ?_
                       try go_wp2
                       go_ret
                       exact ⟨by first | rfl | (simp [errW_none, errW_some] <;> rfl) | (simp only [← hji31, ← hji34]; first | rfl | (simp [errW_none, errW_some] <;> rfl)) | (simp [*, errW_none, errW_some] <;> rfl), by repeat (first | (with_reducible first | exact HB.out | apply below_alloc | apply pw_below_drewN | apply below_drew1) | exact HB.out)⟩
                      ·replace c49 := Bool.eq_false_iff.mpr c49
                       subst c49
                       have H1 : (none) = some r := by rw [if_neg (show ¬ (false = true) by decide)] at H; exact H
                       clear H
                       have H := H1
                       clear H1
                       exact absurd H (by simp)
                     ·rw [if_neg c48] at H
                      exact absurd H (by simp)
                    ·as_aux_lemma =>
                     rw [if_neg c47] at H
                     have c47b0 : (t448 == (l1.length : Int)) = false := beq_eq_false_iff_ne.mpr c47
                     have c47b1 : (t448 != (l1.length : Int)) = true := bne_iff_ne.mpr c47
                     by_cases c55 : 0 ≤ t448
                     ·as_aux_lemma =>
                      rw [if_pos c55] at H
                      have c55b0 : decide (0 ≤ t448) = true := decide_eq_true c55
                      clear c55
                      by_cases c56 : t448 < (l0.length : Int)
                      ·as_aux_lemma =>
                       rw [if_pos c56] at H
                       have c56b0 : decide (t448 < (l0.length : Int)) = true := decide_eq_true c56
                       clear c56
                       by_cases c57 : t448 < (l1.length : Int)
                       ·as_aux_lemma =>
                        rw [if_pos c57] at H
                        have c57b0 : decide (t448 < (l1.length : Int)) = true := decide_eq_true c57
                        clear c57
                        by_cases c58 : (!(((rd_T49 l0 t448).f0) == ((rd_T49 l1 t448).f0)) || (!(((rd_T49 l0 t448).f1) == ((rd_T49 l1 t448).f1)) || (!(((rd_T49 l0 t448).f2) == ((rd_T49 l1 t448).f2)) || (!(((rd_T49 l0 t448).f3) == ((rd_T49 l1 t448).f3)) || (!(((rd_T49 l0 t448).f4) == ((rd_T49 l1 t448).f4))))))) = true
                        ·as_aux_lemma =>
                         rw [if_pos c58] at H
                         have c58b0 : (!(((rd_T49 l0 t448).f0) == ((rd_T49 l1 t448).f0)) || (!(((rd_T49 l0 t448).f1) == ((rd_T49 l1 t448).f1)) || (!(((rd_T49 l0 t448).f2) == ((rd_T49 l1 t448).f2)) || (!(((rd_T49 l0 t448).f3) == ((rd_T49 l1 t448).f3)) || (!(((rd_T49 l0 t448).f4) == ((rd_T49 l1 t448).f4))))))) = true := c58
                         clear c58
                         by_cases c59 : t466 = t448
                         ·as_aux_lemma =>
                          rw [if_pos c59] at H
                          have c59b0 : (t466 == t448) = true := beq_iff_eq.mpr c59
                          have c59b1 : (t466 != t448) = false := bne_eq_false_iff_eq.mpr c59
                          clear c59
                          by_cases c60 : t467 = true
                          ·as_aux_lemma =>
                           subst c60
                           have H1 : (some (t468 == 0)) = some r := by rw [if_pos rfl] at H; exact H
                           clear H
                           have H := H1
                           clear H1
                           obtain rfl := Option.some.inj H
                           try go_wp2
                           have n0_ := Aside0.mk (below_drew1 HB.out)
                           clear HB
                           have HB := n0_
                           clear n0_
                           have q62 : ((ji31) : Int) ≤ ((l0.length : Int) : Int) := of_decide_eq_true (by first | (with_reducible assumption) | assumption)
                           obtain ⟨i062, hi062, _, hsz62, _⟩ := info_parts info49
                           have hroom62 : l0.length ≤ c0 := HC0.out
                           have hC62 : Kd.C k49 _ A0 l0.length l0 := HR0.out
                           have hcut62 := cut_to (P := Try.prog) 24 49 .i64 Try.underlying24 hi062 A0 l0.length c0 (ji31) (of_decide_eq_true (by first | (with_reducible assumption) | assumption)) q62 hroom62
                           have hr62 := Kd.C_take (m := ((ji31) : Int).toNat) hC62 (by omega)
                           have hy62 : y458.length = ((ji31) : Int).toNat := (by rw [Ny458.out, List.length_take]; omega)
                           rw [← Ny458.out] at hr62
                           rw [← hy62] at hcut62
                           have HR461 := Aside0.mk hr62
                           have HC461 := Aside0.mk (show y458.length ≤ c0 from by omega)
                           clear hr62 hC62 hroom62 hi062 hsz62
                           have KY62 := Aside0.mk hy62
                           clear hy62
                           replace q62 := eq_true q62
                           have q63 : ((ji34) : Int) ≤ ((l1.length : Int) : Int) := of_decide_eq_true (by first | (with_reducible assumption) | assumption)
                           obtain ⟨i063, hi063, _, hsz63, _⟩ := info_parts info49
                           have hroom63 : l1.length ≤ c1 := HC1.out
                           have hC63 : Kd.C k49 _ A1 l1.length l1 := HR1.out
                           have hcut63 := cut_to (P := Try.prog) 24 49 .i64 Try.underlying24 hi063 A1 l1.length c1 (ji34) (of_decide_eq_true (by first | (with_reducible assumption) | assumption)) q63 hroom63
                           have hr63 := Kd.C_take (m := ((ji34) : Int).toNat) hC63 (by omega)
                           have hy63 : y462.length = ((ji34) : Int).toNat := (by rw [Ny462.out, List.length_take]; omega)
                           rw [← Ny462.out] at hr63
                           rw [← hy63] at hcut63
                           have HR465 := Aside0.mk hr63
                           have HC465 := Aside0.mk (show y462.length ≤ c1 from by omega)
                           clear hr63 hC63 hroom63 hi063 hsz63
                           have KY63 := Aside0.mk hy63
                           clear hy63
                           replace q63 := eq_true q63
                           refine start_ (n := 22) (S := fun w' => True) (ds := []) #[false, false, false, false, false, false, false, false, false, false, false, false, false, false, false, false, false, false, false, false, false, false] (by kernel_rfl) rfl rfl trivial (fun hHeld => ?_); refine with_tabW chargeparklaw42_SettleDispute.tab20 chargeparklaw42_SettleDispute.bits20 (fun HT_ HW_ => ?_)
                           generalize wr.drew = w61 at HB HR461 HR465 hHeld ⊢
                           refine pure_ (i := 0) (N := some 139) (v := ?_) (a' := ?_) #[true, false, false, false, false, false, false, false, false, false, false, false, false, false, false, false, false, false, false, false, false, false] rfl rfl (any_of HT_.out (by kernel_rfl)) (fun _ _ _ h => h) (Or.inl ⟨by rfl, ?_⟩) ?_ ?_
                           rotate_left
                           ·intro w'
                            go_simp
                            with_reducible rfl
                           rotate_left
                           ·simp only [Act.put, List.setIfInBounds_toArray, List.set_cons_zero, List.set_cons_succ, i64_w, i32_w]
                            rfl
                           refine pure_ (i := 1) (N := some 140) (v := ?_) (a' := ?_) #[true, true, false, false, false, false, false, false, false, false, false, false, false, false, false, false, false, false, false, false, false, false] rfl rfl (any_of HT_.out (by kernel_rfl)) (fun _ _ _ h => h) (Or.inl ⟨by rfl, ?_⟩) ?_ ?_
                           rotate_left
                           ·intro w'
                            go_simp
                            with_reducible rfl
                           rotate_left
                           ·simp only [Act.put, List.setIfInBounds_toArray, List.set_cons_zero, List.set_cons_succ, i64_w, i32_w]
                            rfl
                           refine pure_ (i := 2) (N := some 141) (v := ?_) (a' := ?_) #[true, true, true, false, false, false, false, false, false, false, false, false, false, false, false, false, false, false, false, false, false, false] rfl rfl (any_of HT_.out (by kernel_rfl)) (fun _ _ _ h => h) (Or.inl ⟨by rfl, ?_⟩) ?_ ?_
                           rotate_left
                           ·intro w'
                            go_simp
                            with_reducible rfl
                           rotate_left
                           ·simp only [Act.put, List.setIfInBounds_toArray, List.set_cons_zero, List.set_cons_succ, i64_w, i32_w]
                            rfl
                           refine pure_ (i := 3) (N := some 142) (v := ?_) (a' := ?_) #[true, true, true, true, false, false, false, false, false, false, false, false, false, false, false, false, false, false, false, false, false, false] rfl rfl (any_of HT_.out (by kernel_rfl)) (fun _ _ _ h => h) (Or.inl ⟨by rfl, ?_⟩) ?_ ?_
                           rotate_left
                           ·intro w'
                            go_simp
                            with_reducible rfl
                           rotate_left
                           ·simp only [Act.put, List.setIfInBounds_toArray, List.set_cons_zero, List.set_cons_succ, i64_w, i32_w]
                            rfl
                           refine pure_ (i := 4) (N := some 143) (v := ?_) (a' := ?_) #[true, true, true, true, true, false, false, false, false, false, false, false, false, false, false, false, false, false, false, false, false, false] rfl rfl (any_of HT_.out (by kernel_rfl)) (fun _ _ _ h => h) (Or.inl ⟨by rfl, ?_⟩) ?_ ?_
                           rotate_left
                           ·intro w'
                            go_simp
                            with_reducible rfl
                           rotate_left
                           ·simp only [Act.put, List.setIfInBounds_toArray, List.set_cons_zero, List.set_cons_succ, i64_w, i32_w]
                            rfl
                           refine pure_ (i := 5) (N := some 144) (v := ?_) (a' := ?_) #[true, true, true, true, true, true, false, false, false, false, false, false, false, false, false, false, false, false, false, false, false, false] rfl rfl (any_of HT_.out (by kernel_rfl)) (fun _ _ _ h => h) (Or.inl ⟨by rfl, ?_⟩) ?_ ?_
                           rotate_left
                           ·intro w'
                            go_simp
                            with_reducible rfl
                           rotate_left
                           ·simp only [Act.put, List.setIfInBounds_toArray, List.set_cons_zero, List.set_cons_succ, i64_w, i32_w]
                            rfl
                           refine pure_ (i := 6) (N := some 145) (v := ?_) (a' := ?_) #[true, true, true, true, true, true, true, false, false, false, false, false, false, false, false, false, false, false, false, false, false, false] rfl rfl (any_of HT_.out (by kernel_rfl)) (fun _ _ _ h => h) (Or.inl ⟨by rfl, ?_⟩) ?_ ?_
                           rotate_left
                           ·intro w'
                            go_simp
                            with_reducible rfl
                           rotate_left
                           ·simp only [Act.put, List.setIfInBounds_toArray, List.set_cons_zero, List.set_cons_succ, i64_w, i32_w]
                            rfl
                           refine pure_ (i := 7) (N := some 146) (v := ?_) (a' := ?_) #[true, true, true, true, true, true, true, true, false, false, false, false, false, false, false, false, false, false, false, false, false, false] rfl rfl (any_of HT_.out (by kernel_rfl)) (fun _ _ _ h => h) (Or.inl ⟨by rfl, ?_⟩) ?_ ?_
                           rotate_left
                           ·intro w'
                            go_simp
                            with_reducible rfl
                           rotate_left
                           ·simp only [Act.put, List.setIfInBounds_toArray, List.set_cons_zero, List.set_cons_succ, i64_w, i32_w]
                            rfl
                           refine pure_ (i := 8) (N := some 147) (v := ?_) (a' := ?_) #[true, true, true, true, true, true, true, true, true, false, false, false, false, false, false, false, false, false, false, false, false, false] rfl rfl (any_of HT_.out (by kernel_rfl)) (fun _ _ _ h => h) (Or.inl ⟨by rfl, ?_⟩) ?_ ?_
                           rotate_left
                           ·intro w'
                            go_simp
                            with_reducible rfl
                           rotate_left
                           ·simp only [Act.put, List.setIfInBounds_toArray, List.set_cons_zero, List.set_cons_succ, i64_w, i32_w]
                            rfl
                           refine pure_ (i := 9) (N := some 148) (v := ?_) (a' := ?_) #[true, true, true, true, true, true, true, true, true, true, false, false, false, false, false, false, false, false, false, false, false, false] rfl rfl (any_of HT_.out (by kernel_rfl)) (fun _ _ _ h => h) (Or.inl ⟨by rfl, ?_⟩) ?_ ?_
                           rotate_left
                           ·intro w'
                            go_simp
                            with_reducible rfl
                           rotate_left
                           ·simp only [Act.put, List.setIfInBounds_toArray, List.set_cons_zero, List.set_cons_succ, i64_w, i32_w]
                            rfl
                           refine pure_ (i := 10) (N := some 149) (v := ?_) (a' := ?_) #[true, true, true, true, true, true, true, true, true, true, true, false, false, false, false, false, false, false, false, false, false, false] rfl rfl (any_of HT_.out (by kernel_rfl)) (fun _ _ _ h => h) (Or.inl ⟨by rfl, ?_⟩) ?_ ?_
                           rotate_left
                           ·intro w'
                            go_simp
                            with_reducible rfl
                           rotate_left
                           ·simp only [Act.put, List.setIfInBounds_toArray, List.set_cons_zero, List.set_cons_succ, i64_w, i32_w]
                            rfl
                           refine pure_ (i := 11) (N := some 150) (v := ?_) (a' := ?_) #[true, true, true, true, true, true, true, true, true, true, true, true, false, false, false, false, false, false, false, false, false, false] rfl rfl (any_of HT_.out (by kernel_rfl)) (fun _ _ _ h => h) (Or.inl ⟨by rfl, ?_⟩) ?_ ?_
                           rotate_left
                           ·intro w'
                            go_simp
                            with_reducible rfl
                           rotate_left
                           ·simp only [Act.put, List.setIfInBounds_toArray, List.set_cons_zero, List.set_cons_succ, i64_w, i32_w]
                            rfl
                           refine pure_ (i := 12) (N := some 151) (v := ?_) (a' := ?_) #[true, true, true, true, true, true, true, true, true, true, true, true, true, false, false, false, false, false, false, false, false, false] rfl rfl (any_of HT_.out (by kernel_rfl)) (fun _ _ _ h => h) (Or.inl ⟨by rfl, ?_⟩) ?_ ?_
                           rotate_left
                           ·intro w'
                            go_simp
                            with_reducible rfl
                           rotate_left
                           ·simp only [Act.put, List.setIfInBounds_toArray, List.set_cons_zero, List.set_cons_succ, i64_w, i32_w]
                            rfl
                           refine pure_ (i := 13) (N := some 152) (v := ?_) (a' := ?_) #[true, true, true, true, true, true, true, true, true, true, true, true, true, true, false, false, false, false, false, false, false, false] rfl rfl (any_of HT_.out (by kernel_rfl)) (fun _ _ _ h => h) (Or.inl ⟨by rfl, ?_⟩) ?_ ?_
                           rotate_left
                           ·intro w'
                            go_simp
                            with_reducible rfl
                           rotate_left
                           ·simp only [Act.put, List.setIfInBounds_toArray, List.set_cons_zero, List.set_cons_succ, i64_w, i32_w]
                            rfl
                           refine one_ (i := 14) (N := some 153) #[true, true, true, true, true, true, true, true, true, true, true, true, true, true, true, false, false, false, false, false, false, false] rfl rfl (one_of HT_.out (by kernel_rfl)) (by decide) (fun K hK => ?_)
                           refine goes_ Try.func14 (by kernel_rfl) rfl #[.slice A0 y458.length c0, .slice A1 y462.length c1] (by rfl) rfl rfl (by (try simp only [List.map_toArray, List.map_cons, List.map_nil]); first | done | rfl | (simp only [List.length_drop, List.length_take]; rfl)) ?_
                           with_reducible refine (settle_Dispute.calls k4 _ _ y458 _ _ y462 t466 true t468 _ ?side1 ?side2 ?side3 ?side4 A37.out).mono ?_
                           (case side1 => repeat (first | exact (Kd.C_below HR461.out HB.out) | (with_reducible refine Kd.C_alloc ?_ _) | (with_reducible refine Kd.C_drewN ?_ _) | (with_reducible refine Kd.C_drew ?_)))
                           (case side2 => exact HC461.out)
                           (case side3 => repeat (first | exact (Kd.C_below HR465.out HB.out) | (with_reducible refine Kd.C_alloc ?_ _) | (with_reducible refine Kd.C_drewN ?_ _) | (with_reducible refine Kd.C_drew ?_)))
                           (case side4 => exact HC465.out)
                           rintro e w64 ⟨rfl, hb⟩
                           refine ⟨_, rfl, ?_⟩
                           have n0_ := Aside0.mk (below_step (by repeat (first | (with_reducible first | exact HB.out | apply below_alloc | apply pw_below_drewN | apply below_drew1) | exact HB.out)) hb)
                           clear HB
                           have HB := n0_
                           clear n0_
                           (try clear hb)
                           (try clear hb2)
                           (try clear hk)
                           (try clear hi)
                           refine hK.out _ _ trivial (fun hHeld => ?_)
                           clear hK K
                           refine norm_ (a' := ?_) ?_ ?_
                           rotate_left
                           ·show Act.put _ (some 153) _ = _
                            simp only [Act.put, List.setIfInBounds_toArray, List.set_cons_zero, List.set_cons_succ, i64_w, i32_w]
                            rfl
                           refine pure_ (i := 15) (N := some 138) (v := ?_) (a' := ?_) #[true, true, true, true, true, true, true, true, true, true, true, true, true, true, true, true, false, false, false, false, false, false] rfl rfl (any_of HT_.out (by kernel_rfl)) (fun _ _ _ h => h) (Or.inl ⟨by rfl, ?_⟩) ?_ ?_
                           rotate_left
                           ·intro w'
                            go_simp
                            with_reducible rfl
                           rotate_left
                           ·simp only [Act.put, List.setIfInBounds_toArray, List.set_cons_zero, List.set_cons_succ, i64_w, i32_w]
                            rfl
                           refine pure_ (i := 16) (N := some 154) (v := ?_) (a' := ?_) #[true, true, true, true, true, true, true, true, true, true, true, true, true, true, true, true, true, false, false, false, false, false] rfl rfl (any_of HT_.out (by kernel_rfl)) (fun _ _ _ h => h) (Or.inl ⟨by rfl, ?_⟩) ?_ ?_
                           rotate_left
                           ·intro w'
                            go_simp
                            with_reducible rfl
                           rotate_left
                           ·simp only [Act.put, List.setIfInBounds_toArray, List.set_cons_zero, List.set_cons_succ, i64_w, i32_w]
                            rfl
                           refine pure_ (i := 17) (N := some 155) (v := ?_) (a' := ?_) #[true, true, true, true, true, true, true, true, true, true, true, true, true, true, true, true, true, true, false, false, false, false] rfl rfl (any_of HT_.out (by kernel_rfl)) (fun _ _ _ h => h) (Or.inl ⟨by rfl, ?_⟩) ?_ ?_
                           rotate_left
                           ·intro w'
                            go_simp
                            with_reducible rfl
                           rotate_left
                           ·simp only [Act.put, List.setIfInBounds_toArray, List.set_cons_zero, List.set_cons_succ, i64_w, i32_w]
                            rfl
                           refine pure_ (i := 18) (N := some 156) (v := ?_) (a' := ?_) #[true, true, true, true, true, true, true, true, true, true, true, true, true, true, true, true, true, true, true, false, false, false] rfl rfl (any_of HT_.out (by kernel_rfl)) (fun _ _ _ h => h) (Or.inl ⟨by rfl, ?_⟩) ?_ ?_
                           rotate_left
                           ·intro w'
                            go_simp
                            with_reducible rfl
                           rotate_left
                           ·simp only [Act.put, List.setIfInBounds_toArray, List.set_cons_zero, List.set_cons_succ, i64_w, i32_w]
                            rfl
                           refine pure_ (i := 19) (N := some 14) (v := ?_) (a' := ?_) #[true, true, true, true, true, true, true, true, true, true, true, true, true, true, true, true, true, true, true, true, false, false] rfl rfl (any_of HT_.out (by kernel_rfl)) (fun _ _ _ h => h) (Or.inl ⟨by rfl, ?_⟩) ?_ ?_
                           rotate_left
                           ·intro w'
                            go_simp
                            with_reducible rfl
                           rotate_left
                           ·simp only [Act.put, List.setIfInBounds_toArray, List.set_cons_zero, List.set_cons_succ, i64_w, i32_w]
                            rfl
                           refine pure_ (i := 20) (N := some 15) (v := ?_) (a' := ?_) #[true, true, true, true, true, true, true, true, true, true, true, true, true, true, true, true, true, true, true, true, true, false] rfl rfl (any_of HT_.out (by kernel_rfl)) (fun _ _ _ h => h) (Or.inl ⟨by rfl, ?_⟩) ?_ ?_
                           rotate_left
                           ·intro w'
                            go_simp
                            with_reducible rfl
                           rotate_left
                           ·simp only [Act.put, List.setIfInBounds_toArray, List.set_cons_zero, List.set_cons_succ, i64_w, i32_w]
                            rfl
                           refine pure_ (i := 21) (N := some 16) (v := ?_) (a' := ?_) #[true, true, true, true, true, true, true, true, true, true, true, true, true, true, true, true, true, true, true, true, true, true] rfl rfl (any_of HT_.out (by kernel_rfl)) (fun _ _ _ h => h) (Or.inl ⟨by rfl, ?_⟩) ?_ ?_
                           rotate_left
                           ·intro w'
                            go_simp
                            with_reducible rfl
                           rotate_left
                           ·simp only [Act.put, List.setIfInBounds_toArray, List.set_cons_zero, List.set_cons_succ, i64_w, i32_w]
                            rfl
                           refine done_ (done_of HT_.out (by kernel_rfl)) ?_
                           try go_wp2
                           have n0_ := Aside0.mk (below_drew1 HB.out)
                           clear HB
                           have HB := n0_
                           clear n0_
                           have p469 : 0 ≤ (t448 : Int) := of_decide_eq_true (by first | (with_reducible assumption) | assumption)
                           have q469 : t448 < (l0.length : Int) := of_decide_eq_true (by first | (with_reducible assumption) | assumption)
                           obtain ⟨ad469, e469, hx469_0, hx469_1, hx469_2, hx469_3, hx469_4⟩ := at_T49 HR0.out t448 p469 q469
                           have hw469_4 := hx469_4
                           have hw469_3 := hx469_3
                           have hw469_2 := hx469_2
                           have hw469_1 := hx469_1
                           have hw469_0 := hx469_0
                           cases e469
                           replace hx469_0 := (HB.out.cell (World.block_lt_of_cell? w _ hx469_0)).trans hx469_0
                           replace hx469_1 := (HB.out.cell (World.block_lt_of_cell? w _ hx469_1)).trans hx469_1
                           replace hx469_2 := (HB.out.cell (World.block_lt_of_cell? w _ hx469_2)).trans hx469_2
                           replace hx469_3 := (HB.out.cell (World.block_lt_of_cell? w _ hx469_3)).trans hx469_3
                           replace hx469_4 := (HB.out.cell (World.block_lt_of_cell? w _ hx469_4)).trans hx469_4
                           replace p469 := eq_true p469
                           replace q469 := eq_true q469
                           have p470 : 0 ≤ (t448 : Int) := of_decide_eq_true (by first | (with_reducible assumption) | assumption)
                           have q470 : t448 < (l1.length : Int) := of_decide_eq_true (by first | (with_reducible assumption) | assumption)
                           obtain ⟨ad470, e470, hx470_0, hx470_1, hx470_2, hx470_3, hx470_4⟩ := at_T49 HR1.out t448 p470 q470
                           have hw470_4 := hx470_4
                           have hw470_3 := hx470_3
                           have hw470_2 := hx470_2
                           have hw470_1 := hx470_1
                           have hw470_0 := hx470_0
                           cases e470
                           replace hx470_0 := (HB.out.cell (World.block_lt_of_cell? w _ hx470_0)).trans hx470_0
                           replace hx470_1 := (HB.out.cell (World.block_lt_of_cell? w _ hx470_1)).trans hx470_1
                           replace hx470_2 := (HB.out.cell (World.block_lt_of_cell? w _ hx470_2)).trans hx470_2
                           replace hx470_3 := (HB.out.cell (World.block_lt_of_cell? w _ hx470_3)).trans hx470_3
                           replace hx470_4 := (HB.out.cell (World.block_lt_of_cell? w _ hx470_4)).trans hx470_4
                           replace p470 := eq_true p470
                           replace q470 := eq_true q470
                           refine start_ (n := 37) (S := fun w' => w'.cell? (ad469.add ((t448).toNat * 5)) = some (.int .i64 ((rd_T49 l0 t448).f0)) ∧ w'.cell? ⟨(ad469.add ((t448).toNat * 5)).block, (ad469.add ((t448).toNat * 5)).off + 1, none⟩ = some (.int .i64 ((rd_T49 l0 t448).f1)) ∧ w'.cell? ⟨(ad469.add ((t448).toNat * 5)).block, (ad469.add ((t448).toNat * 5)).off + 2, none⟩ = some (.int .i64 ((rd_T49 l0 t448).f2)) ∧ w'.cell? ⟨(ad469.add ((t448).toNat * 5)).block, (ad469.add ((t448).toNat * 5)).off + 3, none⟩ = some (.int .i64 ((rd_T49 l0 t448).f3)) ∧ w'.cell? ⟨(ad469.add ((t448).toNat * 5)).block, (ad469.add ((t448).toNat * 5)).off + 4, none⟩ = some (.int .u64 ((rd_T49 l0 t448).f4)) ∧ w'.cell? (ad470.add ((t448).toNat * 5)) = some (.int .i64 ((rd_T49 l1 t448).f0)) ∧ w'.cell? ⟨(ad470.add ((t448).toNat * 5)).block, (ad470.add ((t448).toNat * 5)).off + 1, none⟩ = some (.int .i64 ((rd_T49 l1 t448).f1)) ∧ w'.cell? ⟨(ad470.add ((t448).toNat * 5)).block, (ad470.add ((t448).toNat * 5)).off + 2, none⟩ = some (.int .i64 ((rd_T49 l1 t448).f2)) ∧ w'.cell? ⟨(ad470.add ((t448).toNat * 5)).block, (ad470.add ((t448).toNat * 5)).off + 3, none⟩ = some (.int .i64 ((rd_T49 l1 t448).f3)) ∧ w'.cell? ⟨(ad470.add ((t448).toNat * 5)).block, (ad470.add ((t448).toNat * 5)).off + 4, none⟩ = some (.int .u64 ((rd_T49 l1 t448).f4))) (ds := []) #[false, false, false, false, false, false, false, false, false, false, false, false, false, false, false, false, false, false, false, false, false, false, false, false, false, false, false, false, false, false, false, false, false, false, false, false, false] (by kernel_rfl) rfl rfl ⟨((HB.out.cell (World.block_lt_of_cell? w _ hw469_0)).trans hw469_0), ((HB.out.cell (World.block_lt_of_cell? w _ hw469_1)).trans hw469_1), ((HB.out.cell (World.block_lt_of_cell? w _ hw469_2)).trans hw469_2), ((HB.out.cell (World.block_lt_of_cell? w _ hw469_3)).trans hw469_3), ((HB.out.cell (World.block_lt_of_cell? w _ hw469_4)).trans hw469_4), ((HB.out.cell (World.block_lt_of_cell? w _ hw470_0)).trans hw470_0), ((HB.out.cell (World.block_lt_of_cell? w _ hw470_1)).trans hw470_1), ((HB.out.cell (World.block_lt_of_cell? w _ hw470_2)).trans hw470_2), ((HB.out.cell (World.block_lt_of_cell? w _ hw470_3)).trans hw470_3), ((HB.out.cell (World.block_lt_of_cell? w _ hw470_4)).trans hw470_4)⟩ (fun hHeld => ?_); refine with_tabW chargeparklaw42_SettleDispute.tab21 chargeparklaw42_SettleDispute.bits21 (fun HT_ HW_ => ?_)
                           generalize w64.drew = w65 at HB hx469_0 hx469_1 hx469_2 hx469_3 hx469_4 hx470_0 hx470_1 hx470_2 hx470_3 hx470_4 hHeld ⊢
                           refine pure_ (i := 0) (N := some 157) (v := ?_) (a' := ?_) #[true, false, false, false, false, false, false, false, false, false, false, false, false, false, false, false, false, false, false, false, false, false, false, false, false, false, false, false, false, false, false, false, false, false, false, false, false] rfl rfl (any_of HT_.out (by kernel_rfl)) (fun _ _ _ h => h) (Or.inl ⟨by rfl, ?_⟩) ?_ ?_
                           rotate_left
                           ·intro w'
                            go_simp
                            with_reducible rfl
                           rotate_left
                           ·simp only [Act.put, List.setIfInBounds_toArray, List.set_cons_zero, List.set_cons_succ, i64_w, i32_w]
                            rfl
                           refine pure_ (i := 1) (N := some 158) (v := ?_) (a' := ?_) #[true, true, false, false, false, false, false, false, false, false, false, false, false, false, false, false, false, false, false, false, false, false, false, false, false, false, false, false, false, false, false, false, false, false, false, false, false] rfl rfl (any_of HT_.out (by kernel_rfl)) (fun _ _ _ h => h) (Or.inl ⟨by rfl, ?_⟩) ?_ ?_
                           rotate_left
                           ·intro w'
                            go_simp
                            with_reducible rfl
                           rotate_left
                           ·simp only [Act.put, List.setIfInBounds_toArray, List.set_cons_zero, List.set_cons_succ, i64_w, i32_w]
                            rfl
                           refine pure_ (i := 2) (N := some 159) (v := ?_) (a' := ?_) #[true, true, true, false, false, false, false, false, false, false, false, false, false, false, false, false, false, false, false, false, false, false, false, false, false, false, false, false, false, false, false, false, false, false, false, false, false] rfl rfl (any_of HT_.out (by kernel_rfl)) (fun _ _ _ h => h) (Or.inl ⟨by rfl, ?_⟩) ?_ ?_
                           rotate_left
                           ·intro w'
                            go_simp
                            with_reducible rfl
                           rotate_left
                           ·simp only [Act.put, List.setIfInBounds_toArray, List.set_cons_zero, List.set_cons_succ, i64_w, i32_w]
                            rfl
                           refine pure_ (i := 3) (N := some 160) (v := ?_) (a' := ?_) #[true, true, true, true, false, false, false, false, false, false, false, false, false, false, false, false, false, false, false, false, false, false, false, false, false, false, false, false, false, false, false, false, false, false, false, false, false] rfl rfl (any_of HT_.out (by kernel_rfl)) (fun _ _ _ h => h) (Or.inl ⟨by rfl, ?_⟩) ?_ ?_
                           rotate_left
                           ·intro w'
                            go_simp
                            with_reducible rfl
                           rotate_left
                           ·simp only [Act.put, List.setIfInBounds_toArray, List.set_cons_zero, List.set_cons_succ, i64_w, i32_w]
                            rfl
                           refine pure_ (i := 4) (N := some 161) (v := ?_) (a' := ?_) #[true, true, true, true, true, false, false, false, false, false, false, false, false, false, false, false, false, false, false, false, false, false, false, false, false, false, false, false, false, false, false, false, false, false, false, false, false] rfl rfl (any_of HT_.out (by kernel_rfl)) (fun _ _ _ h => h) (Or.inl ⟨by rfl, ?_⟩) ?_ ?_
                           rotate_left
                           ·intro w'
                            go_simp
                            with_reducible rfl
                           rotate_left
                           ·simp only [Act.put, List.setIfInBounds_toArray, List.set_cons_zero, List.set_cons_succ, i64_w, i32_w]
                            rfl
                           refine pure_ (i := 5) (N := some 162) (v := ?_) (a' := ?_) #[true, true, true, true, true, true, false, false, false, false, false, false, false, false, false, false, false, false, false, false, false, false, false, false, false, false, false, false, false, false, false, false, false, false, false, false, false] rfl rfl (any_of HT_.out (by kernel_rfl)) (fun _ _ _ h => h) (Or.inl ⟨by rfl, ?_⟩) ?_ ?_
                           rotate_left
                           ·intro w'
                            go_simp
                            with_reducible rfl
                           rotate_left
                           ·simp only [Act.put, List.setIfInBounds_toArray, List.set_cons_zero, List.set_cons_succ, i64_w, i32_w]
                            rfl
                           refine pure_ (i := 6) (N := some 163) (v := ?_) (a' := ?_) #[true, true, true, true, true, true, true, false, false, false, false, false, false, false, false, false, false, false, false, false, false, false, false, false, false, false, false, false, false, false, false, false, false, false, false, false, false] rfl rfl (any_of HT_.out (by kernel_rfl)) (fun _ _ _ h => h) (Or.inl ⟨by rfl, ?_⟩) ?_ ?_
                           rotate_left
                           ·intro w'
                            go_simp
                            with_reducible rfl
                           rotate_left
                           ·simp only [Act.put, List.setIfInBounds_toArray, List.set_cons_zero, List.set_cons_succ, i64_w, i32_w]
                            rfl
                           refine pure_ (i := 7) (N := some 164) (v := ?_) (a' := ?_) #[true, true, true, true, true, true, true, true, false, false, false, false, false, false, false, false, false, false, false, false, false, false, false, false, false, false, false, false, false, false, false, false, false, false, false, false, false] rfl rfl (any_of HT_.out (by kernel_rfl)) (fun _ _ _ h => h) (Or.inl ⟨by rfl, ?_⟩) ?_ ?_
                           rotate_left
                           ·intro w'
                            go_simp
                            with_reducible rfl
                           rotate_left
                           ·simp only [Act.put, List.setIfInBounds_toArray, List.set_cons_zero, List.set_cons_succ, i64_w, i32_w]
                            rfl
                           refine pure_ (i := 8) (N := some 165) (v := ?_) (a' := ?_) #[true, true, true, true, true, true, true, true, true, false, false, false, false, false, false, false, false, false, false, false, false, false, false, false, false, false, false, false, false, false, false, false, false, false, false, false, false] rfl rfl (any_of HT_.out (by kernel_rfl)) (fun _ _ _ h => h) (Or.inl ⟨by rfl, ?_⟩) ?_ ?_
                           rotate_left
                           ·intro w'
                            go_simp
                            with_reducible rfl
                           rotate_left
                           ·simp only [Act.put, List.setIfInBounds_toArray, List.set_cons_zero, List.set_cons_succ, i64_w, i32_w]
                            rfl
                           refine pure_ (i := 9) (N := some 166) (v := ?_) (a' := ?_) #[true, true, true, true, true, true, true, true, true, true, false, false, false, false, false, false, false, false, false, false, false, false, false, false, false, false, false, false, false, false, false, false, false, false, false, false, false] rfl rfl (any_of HT_.out (by kernel_rfl)) (fun _ _ _ h => h) (Or.inl ⟨by rfl, ?_⟩) ?_ ?_
                           rotate_left
                           ·intro w'
                            go_simp
                            with_reducible rfl
                           rotate_left
                           ·simp only [Act.put, List.setIfInBounds_toArray, List.set_cons_zero, List.set_cons_succ, i64_w, i32_w]
                            rfl
                           refine pure_ (i := 10) (N := some 167) (v := ?_) (a' := ?_) #[true, true, true, true, true, true, true, true, true, true, true, false, false, false, false, false, false, false, false, false, false, false, false, false, false, false, false, false, false, false, false, false, false, false, false, false, false] rfl rfl (any_of HT_.out (by kernel_rfl)) (fun _ _ _ h => h) (Or.inl ⟨by rfl, ?_⟩) ?_ ?_
                           rotate_left
                           ·intro w'
                            go_simp
                            with_reducible rfl
                           rotate_left
                           ·simp only [Act.put, List.setIfInBounds_toArray, List.set_cons_zero, List.set_cons_succ, i64_w, i32_w]
                            rfl
                           refine pure_ (i := 11) (N := some 168) (v := ?_) (a' := ?_) #[true, true, true, true, true, true, true, true, true, true, true, true, false, false, false, false, false, false, false, false, false, false, false, false, false, false, false, false, false, false, false, false, false, false, false, false, false] rfl rfl (any_of HT_.out (by kernel_rfl)) (fun _ _ _ h => h) (Or.inl ⟨by rfl, ?_⟩) ?_ ?_
                           rotate_left
                           ·intro w'
                            go_simp
                            with_reducible rfl
                           rotate_left
                           ·simp only [Act.put, List.setIfInBounds_toArray, List.set_cons_zero, List.set_cons_succ, i64_w, i32_w]
                            rfl
                           refine pure_ (i := 12) (N := some 169) (v := ?_) (a' := ?_) #[true, true, true, true, true, true, true, true, true, true, true, true, true, false, false, false, false, false, false, false, false, false, false, false, false, false, false, false, false, false, false, false, false, false, false, false, false] rfl rfl (any_of HT_.out (by kernel_rfl)) (fun _ _ _ h => h) (Or.inl ⟨by rfl, ?_⟩) ?_ ?_
                           rotate_left
                           ·intro w'
                            go_simp
                            with_reducible rfl
                           rotate_left
                           ·simp only [Act.put, List.setIfInBounds_toArray, List.set_cons_zero, List.set_cons_succ, i64_w, i32_w]
                            rfl
                           refine pure_ (i := 13) (N := some 170) (v := ?_) (a' := ?_) #[true, true, true, true, true, true, true, true, true, true, true, true, true, true, false, false, false, false, false, false, false, false, false, false, false, false, false, false, false, false, false, false, false, false, false, false, false] rfl rfl (any_of HT_.out (by kernel_rfl)) (fun _ _ _ h => h) (Or.inl ⟨by rfl, ?_⟩) ?_ ?_
                           rotate_left
                           ·intro w'
                            go_simp
                            with_reducible rfl
                           rotate_left
                           ·simp only [Act.put, List.setIfInBounds_toArray, List.set_cons_zero, List.set_cons_succ, i64_w, i32_w]
                            rfl
                           refine pure_ (i := 14) (N := some 171) (v := ?_) (a' := ?_) #[true, true, true, true, true, true, true, true, true, true, true, true, true, true, true, false, false, false, false, false, false, false, false, false, false, false, false, false, false, false, false, false, false, false, false, false, false] rfl rfl (any_of HT_.out (by kernel_rfl)) (fun _ _ _ h => h) (Or.inl ⟨by rfl, ?_⟩) ?_ ?_
                           rotate_left
                           ·intro w'
                            go_simp
                            with_reducible rfl
                           rotate_left
                           ·simp only [Act.put, List.setIfInBounds_toArray, List.set_cons_zero, List.set_cons_succ, i64_w, i32_w]
                            rfl
                           refine pure_ (i := 15) (N := some 172) (v := ?_) (a' := ?_) #[true, true, true, true, true, true, true, true, true, true, true, true, true, true, true, true, false, false, false, false, false, false, false, false, false, false, false, false, false, false, false, false, false, false, false, false, false] rfl rfl (any_of HT_.out (by kernel_rfl)) (fun _ _ _ h => h) (Or.inl ⟨by rfl, ?_⟩) ?_ ?_
                           rotate_left
                           ·intro w'
                            go_simp
                            with_reducible rfl
                           rotate_left
                           ·simp only [Act.put, List.setIfInBounds_toArray, List.set_cons_zero, List.set_cons_succ, i64_w, i32_w]
                            rfl
                           refine pure_ (i := 17) (N := some 174) (v := ?_) (a' := ?_) #[true, true, true, true, true, true, true, true, true, true, true, true, true, true, true, true, false, true, false, false, false, false, false, false, false, false, false, false, false, false, false, false, false, false, false, false, false] rfl rfl (any_of HT_.out (by kernel_rfl)) (fun _ _ _ h => h) (Or.inl ⟨by rfl, ?_⟩) ?_ ?_
                           rotate_left
                           ·intro w'
                            go_simp
                            with_reducible rfl
                           rotate_left
                           ·simp only [Act.put, List.setIfInBounds_toArray, List.set_cons_zero, List.set_cons_succ, i64_w, i32_w]
                            rfl
                           refine pure_ (i := 18) (N := some 175) (v := ?_) (a' := ?_) #[true, true, true, true, true, true, true, true, true, true, true, true, true, true, true, true, false, true, true, false, false, false, false, false, false, false, false, false, false, false, false, false, false, false, false, false, false] rfl rfl (any_of HT_.out (by kernel_rfl)) (fun _ _ _ h => h) (Or.inl ⟨by rfl, ?_⟩) ?_ ?_
                           rotate_left
                           ·intro w'
                            go_simp
                            with_reducible rfl
                           rotate_left
                           ·simp only [Act.put, List.setIfInBounds_toArray, List.set_cons_zero, List.set_cons_succ, i64_w, i32_w]
                            rfl
                           refine pure_ (i := 19) (N := some 176) (v := ?_) (a' := ?_) #[true, true, true, true, true, true, true, true, true, true, true, true, true, true, true, true, false, true, true, true, false, false, false, false, false, false, false, false, false, false, false, false, false, false, false, false, false] rfl rfl (any_of HT_.out (by kernel_rfl)) (fun _ _ _ h => h) (Or.inl ⟨by rfl, ?_⟩) ?_ ?_
                           rotate_left
                           ·intro w'
                            go_simp
                            with_reducible rfl
                           rotate_left
                           ·simp only [Act.put, List.setIfInBounds_toArray, List.set_cons_zero, List.set_cons_succ, i64_w, i32_w]
                            rfl
                           refine take_ (i := 16) (N := some 173) (v := ?_) (a' := ?_) #[true, true, true, true, true, true, true, true, true, true, true, true, true, true, true, true, true, true, true, true, false, false, false, false, false, false, false, false, false, false, false, false, false, false, false, false, false] rfl rfl (take_ofW HT_.out HW_.out (by kernel_rfl)) (fun _ _ _ h => h) (Or.inl ⟨by rfl, ?_⟩) hHeld ?_ ?_
                           rotate_left
                           ·rintro w' ⟨s0, s1, s2, s3, s4, s5, s6, s7, s8, s9⟩
                            go_simp
                            with_reducible rfl
                           rotate_left
                           ·simp only [Act.put, List.setIfInBounds_toArray, List.set_cons_zero, List.set_cons_succ, i64_w, i32_w]
                            rfl
                           refine take_ (i := 20) (N := some 177) (v := ?_) (a' := ?_) #[true, true, true, true, true, true, true, true, true, true, true, true, true, true, true, true, true, true, true, true, true, false, false, false, false, false, false, false, false, false, false, false, false, false, false, false, false] rfl rfl (take_ofW HT_.out HW_.out (by kernel_rfl)) (fun _ _ _ h => h) (Or.inl ⟨by rfl, ?_⟩) hHeld ?_ ?_
                           rotate_left
                           ·rintro w' ⟨s0, s1, s2, s3, s4, s5, s6, s7, s8, s9⟩
                            go_simp
                            with_reducible rfl
                           rotate_left
                           ·simp only [Act.put, List.setIfInBounds_toArray, List.set_cons_zero, List.set_cons_succ, i64_w, i32_w]
                            rfl
                           refine pure_ (i := 21) (N := some 178) (v := ?_) (a' := ?_) #[true, true, true, true, true, true, true, true, true, true, true, true, true, true, true, true, true, true, true, true, true, true, false, false, false, false, false, false, false, false, false, false, false, false, false, false, false] rfl rfl (any_of HT_.out (by kernel_rfl)) (fun _ _ _ h => h) (Or.inl ⟨by rfl, ?_⟩) ?_ ?_
                           rotate_left
                           ·intro w'
                            go_simp
                            with_reducible rfl
                           rotate_left
                           ·simp only [Act.put, List.setIfInBounds_toArray, List.set_cons_zero, List.set_cons_succ, i64_w, i32_w]
                            rfl
                           refine pure_ (i := 22) (N := some 179) (v := ?_) (a' := ?_) #[true, true, true, true, true, true, true, true, true, true, true, true, true, true, true, true, true, true, true, true, true, true, true, false, false, false, false, false, false, false, false, false, false, false, false, false, false] rfl rfl (any_of HT_.out (by kernel_rfl)) (fun _ _ _ h => h) (Or.inl ⟨by rfl, ?_⟩) ?_ ?_
                           rotate_left
                           ·intro w'
                            go_simp
                            with_reducible rfl
                           rotate_left
                           ·simp only [Act.put, List.setIfInBounds_toArray, List.set_cons_zero, List.set_cons_succ, i64_w, i32_w]
                            rfl
                           refine pure_ (i := 23) (N := some 180) (v := ?_) (a' := ?_) #[true, true, true, true, true, true, true, true, true, true, true, true, true, true, true, true, true, true, true, true, true, true, true, true, false, false, false, false, false, false, false, false, false, false, false, false, false] rfl rfl (any_of HT_.out (by kernel_rfl)) (fun _ _ _ h => h) (Or.inl ⟨by rfl, ?_⟩) ?_ ?_
                           rotate_left
                           ·intro w'
                            go_simp
                            with_reducible rfl
                           rotate_left
                           ·simp only [Act.put, List.setIfInBounds_toArray, List.set_cons_zero, List.set_cons_succ, i64_w, i32_w]
                            rfl
                           refine pure_ (i := 24) (N := some 181) (v := ?_) (a' := ?_) #[true, true, true, true, true, true, true, true, true, true, true, true, true, true, true, true, true, true, true, true, true, true, true, true, true, false, false, false, false, false, false, false, false, false, false, false, false] rfl rfl (any_of HT_.out (by kernel_rfl)) (fun _ _ _ h => h) (Or.inl ⟨by rfl, ?_⟩) ?_ ?_
                           rotate_left
                           ·intro w'
                            go_simp
                            with_reducible rfl
                           rotate_left
                           ·simp only [Act.put, List.setIfInBounds_toArray, List.set_cons_zero, List.set_cons_succ, i64_w, i32_w]
                            rfl
                           refine pure_ (i := 25) (N := some 182) (v := ?_) (a' := ?_) #[true, true, true, true, true, true, true, true, true, true, true, true, true, true, true, true, true, true, true, true, true, true, true, true, true, true, false, false, false, false, false, false, false, false, false, false, false] rfl rfl (any_of HT_.out (by kernel_rfl)) (fun _ _ _ h => h) (Or.inl ⟨by rfl, ?_⟩) ?_ ?_
                           rotate_left
                           ·intro w'
                            go_simp
                            with_reducible rfl
                           rotate_left
                           ·simp only [Act.put, List.setIfInBounds_toArray, List.set_cons_zero, List.set_cons_succ, i64_w, i32_w]
                            rfl
                           refine pure_ (i := 26) (N := some 183) (v := ?_) (a' := ?_) #[true, true, true, true, true, true, true, true, true, true, true, true, true, true, true, true, true, true, true, true, true, true, true, true, true, true, true, false, false, false, false, false, false, false, false, false, false] rfl rfl (any_of HT_.out (by kernel_rfl)) (fun _ _ _ h => h) (Or.inl ⟨by rfl, ?_⟩) ?_ ?_
                           rotate_left
                           ·intro w'
                            go_simp
                            with_reducible rfl
                           rotate_left
                           ·simp only [Act.put, List.setIfInBounds_toArray, List.set_cons_zero, List.set_cons_succ, i64_w, i32_w]
                            rfl
                           refine pure_ (i := 27) (N := some 184) (v := ?_) (a' := ?_) #[true, true, true, true, true, true, true, true, true, true, true, true, true, true, true, true, true, true, true, true, true, true, true, true, true, true, true, true, false, false, false, false, false, false, false, false, false] rfl rfl (any_of HT_.out (by kernel_rfl)) (fun _ _ _ h => h) (Or.inl ⟨by rfl, ?_⟩) ?_ ?_
                           rotate_left
                           ·intro w'
                            go_simp
                            with_reducible rfl
                           rotate_left
                           ·simp only [Act.put, List.setIfInBounds_toArray, List.set_cons_zero, List.set_cons_succ, i64_w, i32_w]
                            rfl
                           refine pure_ (i := 28) (N := some 185) (v := ?_) (a' := ?_) #[true, true, true, true, true, true, true, true, true, true, true, true, true, true, true, true, true, true, true, true, true, true, true, true, true, true, true, true, true, false, false, false, false, false, false, false, false] rfl rfl (any_of HT_.out (by kernel_rfl)) (fun _ _ _ h => h) (Or.inl ⟨by rfl, ?_⟩) ?_ ?_
                           rotate_left
                           ·intro w'
                            go_simp
                            with_reducible rfl
                           rotate_left
                           ·simp only [Act.put, List.setIfInBounds_toArray, List.set_cons_zero, List.set_cons_succ, i64_w, i32_w]
                            rfl
                           refine pure_ (i := 29) (N := some 186) (v := ?_) (a' := ?_) #[true, true, true, true, true, true, true, true, true, true, true, true, true, true, true, true, true, true, true, true, true, true, true, true, true, true, true, true, true, true, false, false, false, false, false, false, false] rfl rfl (any_of HT_.out (by kernel_rfl)) (fun _ _ _ h => h) (Or.inl ⟨by rfl, ?_⟩) ?_ ?_
                           rotate_left
                           ·intro w'
                            go_simp
                            with_reducible rfl
                           rotate_left
                           ·simp only [Act.put, List.setIfInBounds_toArray, List.set_cons_zero, List.set_cons_succ, i64_w, i32_w]
                            rfl
                           refine pure_ (i := 30) (N := some 187) (v := ?_) (a' := ?_) #[true, true, true, true, true, true, true, true, true, true, true, true, true, true, true, true, true, true, true, true, true, true, true, true, true, true, true, true, true, true, true, false, false, false, false, false, false] rfl rfl (any_of HT_.out (by kernel_rfl)) (fun _ _ _ h => h) (Or.inl ⟨by rfl, ?_⟩) ?_ ?_
                           rotate_left
                           ·intro w'
                            go_simp
                            with_reducible rfl
                           rotate_left
                           ·simp only [Act.put, List.setIfInBounds_toArray, List.set_cons_zero, List.set_cons_succ, i64_w, i32_w]
                            rfl
                           refine pure_ (i := 31) (N := some 188) (v := ?_) (a' := ?_) #[true, true, true, true, true, true, true, true, true, true, true, true, true, true, true, true, true, true, true, true, true, true, true, true, true, true, true, true, true, true, true, true, false, false, false, false, false] rfl rfl (any_of HT_.out (by kernel_rfl)) (fun _ _ _ h => h) (Or.inl ⟨by rfl, ?_⟩) ?_ ?_
                           rotate_left
                           ·intro w'
                            go_simp
                            with_reducible rfl
                           rotate_left
                           ·simp only [Act.put, List.setIfInBounds_toArray, List.set_cons_zero, List.set_cons_succ, i64_w, i32_w]
                            rfl
                           refine pure_ (i := 32) (N := some 189) (v := ?_) (a' := ?_) #[true, true, true, true, true, true, true, true, true, true, true, true, true, true, true, true, true, true, true, true, true, true, true, true, true, true, true, true, true, true, true, true, true, false, false, false, false] rfl rfl (any_of HT_.out (by kernel_rfl)) (fun _ _ _ h => h) (Or.inl ⟨by rfl, ?_⟩) ?_ ?_
                           rotate_left
                           ·intro w'
                            go_simp
                            with_reducible rfl
                           rotate_left
                           ·simp only [Act.put, List.setIfInBounds_toArray, List.set_cons_zero, List.set_cons_succ, i64_w, i32_w]
                            rfl
                           refine pure_ (i := 33) (N := some 190) (v := ?_) (a' := ?_) #[true, true, true, true, true, true, true, true, true, true, true, true, true, true, true, true, true, true, true, true, true, true, true, true, true, true, true, true, true, true, true, true, true, true, false, false, false] rfl rfl (any_of HT_.out (by kernel_rfl)) (fun _ _ _ h => h) (Or.inl ⟨by rfl, ?_⟩) ?_ ?_
                           rotate_left
                           ·intro w'
                            go_simp
                            with_reducible rfl
                           rotate_left
                           ·simp only [Act.put, List.setIfInBounds_toArray, List.set_cons_zero, List.set_cons_succ, i64_w, i32_w]
                            rfl
                           refine pure_ (i := 34) (N := some 191) (v := ?_) (a' := ?_) #[true, true, true, true, true, true, true, true, true, true, true, true, true, true, true, true, true, true, true, true, true, true, true, true, true, true, true, true, true, true, true, true, true, true, true, false, false] rfl rfl (any_of HT_.out (by kernel_rfl)) (fun _ _ _ h => h) (Or.inl ⟨by rfl, ?_⟩) ?_ ?_
                           rotate_left
                           ·intro w'
                            go_simp
                            with_reducible rfl
                           rotate_left
                           ·simp only [Act.put, List.setIfInBounds_toArray, List.set_cons_zero, List.set_cons_succ, i64_w, i32_w]
                            rfl
                           refine pure_ (i := 35) (N := some 192) (v := ?_) (a' := ?_) #[true, true, true, true, true, true, true, true, true, true, true, true, true, true, true, true, true, true, true, true, true, true, true, true, true, true, true, true, true, true, true, true, true, true, true, true, false] rfl rfl (any_of HT_.out (by kernel_rfl)) (fun _ _ _ h => h) (Or.inl ⟨by rfl, ?_⟩) ?_ ?_
                           rotate_left
                           ·intro w'
                            go_simp
                            with_reducible rfl
                           rotate_left
                           ·simp only [Act.put, List.setIfInBounds_toArray, List.set_cons_zero, List.set_cons_succ, i64_w, i32_w]
                            rfl
                           refine pure_ (i := 36) (N := some 4) (v := ?_) (a' := ?_) #[true, true, true, true, true, true, true, true, true, true, true, true, true, true, true, true, true, true, true, true, true, true, true, true, true, true, true, true, true, true, true, true, true, true, true, true, true] rfl rfl (any_of HT_.out (by kernel_rfl)) (fun _ _ _ h => h) (Or.inl ⟨by rfl, ?_⟩) ?_ ?_
                           rotate_left
                           ·intro w'
                            go_simp
                            with_reducible rfl
                           rotate_left
                           ·simp only [Act.put, List.setIfInBounds_toArray, List.set_cons_zero, List.set_cons_succ, i64_w, i32_w]
                            rfl
                           refine done_ (done_of HT_.out (by kernel_rfl)) ?_
                           try go_wp2
                           go_ret
                           exact ⟨by first | rfl | (simp [errW_none, errW_some] <;> rfl) | (simp only [← hji31, ← hji34]; first | rfl | (simp [errW_none, errW_some] <;> rfl)) | (simp [*, errW_none, errW_some] <;> rfl), by repeat (first | (with_reducible first | exact HB.out | apply below_alloc | apply pw_below_drewN | apply below_drew1) | exact HB.out)⟩
                          ·replace c60 := Bool.eq_false_iff.mpr c60
                           subst c60
                           have H1 : (none) = some r := by rw [if_neg (show ¬ (false = true) by decide)] at H; exact H
                           clear H
                           have H := H1
                           clear H1
                           exact absurd H (by simp)
                         ·rw [if_neg c59] at H
                          exact absurd H (by simp)
                        ·rw [if_neg c58] at H
                         exact absurd H (by simp)
                       ·rw [if_neg c57] at H
                        exact absurd H (by simp)
                      ·rw [if_neg c56] at H
                       exact absurd H (by simp)
                     ·rw [if_neg c55] at H
                      exact absurd H (by simp)
                  ·replace c38 := Bool.eq_false_iff.mpr c38
                   subst c38
                   have H1 : (none) = some r := by rw [if_neg (show ¬ (false = true) by decide)] at H; exact H
                   clear H
                   have H := H1
                   clear H1
                   exact absurd H (by simp)
                 ·rw [if_neg c36] at H
                  exact absurd H (by simp)
                ·rw [if_neg c35] at H
                 exact absurd H (by simp)
               ·rw [if_neg c33] at H
                exact absurd H (by simp)
              ·rw [if_neg c32] at H
               exact absurd H (by simp)
       ·as_aux_lemma =>
        replace c18 := Bool.eq_false_iff.mpr c18
        subst c18
        have H1 : (chargeparklaw42_SettleDispute.l0 kj9 l0 l1 t447 t448 0) = some r := by rw [if_neg (show ¬ (false = true) by decide)] at H; exact H
        clear H
        have H := H1
        clear H1
        have H' := Aside0.mk H
        clear H
        go_wp2
        go_loopg [5, 12] kj9 (fun kq v5 v12 w' => ∃ (x5_3 : Bool) (x12_3 : Int), v5 = .bool x5_3 ∧ v12 = .int .i64 x12_3 ∧ Aside0 (chargeparklaw42_SettleDispute.l0 kq l0 l1 x5_3 t448 x12_3 = some r) ∧ Aside0 (kq ≤ kj9) ∧ Aside0 (Below w.heap.size w w'))
        case atStart => exact ⟨(t447), (0), (by first | rfl | (simp; done) | (simp [*]; done)), (by first | rfl | (simp; done) | (simp [*]; done)), H', ⟨Nat.le_refl _⟩, ⟨by repeat (first | (with_reducible first | exact HB.out | apply below_alloc | apply pw_below_drewN | apply below_drew1) | exact HB.out)⟩⟩
        case round =>
         clear H'
         try clear c1
         try clear p2
         try clear c3
         try clear p4
         try clear q4
         try clear hx4
         try clear c5
         try clear c6
         try clear q6
         try clear c14
         try clear c18
         try clear c32
         try clear c33
         try clear c35
         try clear c36
         try clear c38
         try clear p46
         try clear q46
         try clear hx46
         try clear p47
         try clear q47
         try clear hx47
         try clear c55
         try clear c56
         try clear c57
         try clear c58
         try clear c59
         try clear c60
         try clear q62
         try clear q63
         try clear hx469_0
         try clear hx469_1
         try clear hx469_2
         try clear hx469_3
         try clear hx469_4
         try clear hx470_0
         try clear hx470_1
         try clear hx470_2
         try clear hx470_3
         try clear hx470_4
         try clear p469
         try clear p470
         try clear q469
         try clear q470
         try clear q62
         try clear q63
         obtain ⟨x5_3, x12_3, rfl, rfl, HA, HK3, HB⟩ := hrel
         cases gk with
         | zero => exact absurd HA.out (by simp [chargeparklaw42_SettleDispute.l0])
         | succ k3 =>
          have H := HA.out
          clear HA
          simp only [chargeparklaw42_SettleDispute.l0] at H
          by_cases c66 : x12_3 < (l0.length : Int)
          ·as_aux_lemma =>
           rw [if_pos c66] at H
           have c66b0 : decide (x12_3 < (l0.length : Int)) = true := decide_eq_true c66
           clear c66
           by_cases c67 : x12_3 < (l1.length : Int)
           ·as_aux_lemma =>
            rw [if_pos c67] at H
            have c67b0 : decide (x12_3 < (l1.length : Int)) = true := decide_eq_true c67
            clear c67
            by_cases c68 : x5_3 = true
            ·as_aux_lemma =>
             subst c68
             have H1 : (if 0 ≤ x12_3 then (chargeparklaw42_SettleDispute.l0 k3 l0 l1 (((rd_T49 l0 x12_3).f0) == ((rd_T49 l1 x12_3).f0) && (((rd_T49 l0 x12_3).f1) == ((rd_T49 l1 x12_3).f1) && (((rd_T49 l0 x12_3).f2) == ((rd_T49 l1 x12_3).f2) && (((rd_T49 l0 x12_3).f3) == ((rd_T49 l1 x12_3).f3) && (((rd_T49 l0 x12_3).f4) == ((rd_T49 l1 x12_3).f4)))))) t448 (wrap64 (x12_3 + 1))) else (none)) = some r := by rw [if_pos rfl] at H; exact H
             clear H
             have H := H1
             clear H1
             by_cases c69 : 0 ≤ x12_3
             ·as_aux_lemma =>
              rw [if_pos c69] at H
              have c69b0 : decide (0 ≤ x12_3) = true := decide_eq_true c69
              clear c69
              have H' := Aside0.mk H
              clear H
              try go_wp2
              have n0_ := Aside0.mk (below_drew1 HB.out)
              clear HB
              have HB := n0_
              clear n0_
              have p454 : 0 ≤ (x12_3 : Int) := of_decide_eq_true (by first | (with_reducible assumption) | assumption)
              have q454 : x12_3 < (l0.length : Int) := of_decide_eq_true (by first | (with_reducible assumption) | assumption)
              obtain ⟨ad454, e454, hx454_0, hx454_1, hx454_2, hx454_3, hx454_4⟩ := at_T49 HR0.out x12_3 p454 q454
              have hw454_4 := hx454_4
              have hw454_3 := hx454_3
              have hw454_2 := hx454_2
              have hw454_1 := hx454_1
              have hw454_0 := hx454_0
              cases e454
              replace hx454_0 := (HB.out.cell (World.block_lt_of_cell? w _ hx454_0)).trans hx454_0
              replace hx454_1 := (HB.out.cell (World.block_lt_of_cell? w _ hx454_1)).trans hx454_1
              replace hx454_2 := (HB.out.cell (World.block_lt_of_cell? w _ hx454_2)).trans hx454_2
              replace hx454_3 := (HB.out.cell (World.block_lt_of_cell? w _ hx454_3)).trans hx454_3
              replace hx454_4 := (HB.out.cell (World.block_lt_of_cell? w _ hx454_4)).trans hx454_4
              replace p454 := eq_true p454
              replace q454 := eq_true q454
              have p455 : 0 ≤ (x12_3 : Int) := of_decide_eq_true (by first | (with_reducible assumption) | assumption)
              have q455 : x12_3 < (l1.length : Int) := of_decide_eq_true (by first | (with_reducible assumption) | assumption)
              obtain ⟨ad455, e455, hx455_0, hx455_1, hx455_2, hx455_3, hx455_4⟩ := at_T49 HR1.out x12_3 p455 q455
              have hw455_4 := hx455_4
              have hw455_3 := hx455_3
              have hw455_2 := hx455_2
              have hw455_1 := hx455_1
              have hw455_0 := hx455_0
              cases e455
              replace hx455_0 := (HB.out.cell (World.block_lt_of_cell? w _ hx455_0)).trans hx455_0
              replace hx455_1 := (HB.out.cell (World.block_lt_of_cell? w _ hx455_1)).trans hx455_1
              replace hx455_2 := (HB.out.cell (World.block_lt_of_cell? w _ hx455_2)).trans hx455_2
              replace hx455_3 := (HB.out.cell (World.block_lt_of_cell? w _ hx455_3)).trans hx455_3
              replace hx455_4 := (HB.out.cell (World.block_lt_of_cell? w _ hx455_4)).trans hx455_4
              replace p455 := eq_true p455
              replace q455 := eq_true q455
              refine start_ (n := 13) (S := fun w' => w'.cell? (ad454.add ((x12_3).toNat * 5)) = some (.int .i64 ((rd_T49 l0 x12_3).f0)) ∧ w'.cell? ⟨(ad454.add ((x12_3).toNat * 5)).block, (ad454.add ((x12_3).toNat * 5)).off + 1, none⟩ = some (.int .i64 ((rd_T49 l0 x12_3).f1)) ∧ w'.cell? ⟨(ad454.add ((x12_3).toNat * 5)).block, (ad454.add ((x12_3).toNat * 5)).off + 2, none⟩ = some (.int .i64 ((rd_T49 l0 x12_3).f2)) ∧ w'.cell? ⟨(ad454.add ((x12_3).toNat * 5)).block, (ad454.add ((x12_3).toNat * 5)).off + 3, none⟩ = some (.int .i64 ((rd_T49 l0 x12_3).f3)) ∧ w'.cell? ⟨(ad454.add ((x12_3).toNat * 5)).block, (ad454.add ((x12_3).toNat * 5)).off + 4, none⟩ = some (.int .u64 ((rd_T49 l0 x12_3).f4)) ∧ w'.cell? (ad455.add ((x12_3).toNat * 5)) = some (.int .i64 ((rd_T49 l1 x12_3).f0)) ∧ w'.cell? ⟨(ad455.add ((x12_3).toNat * 5)).block, (ad455.add ((x12_3).toNat * 5)).off + 1, none⟩ = some (.int .i64 ((rd_T49 l1 x12_3).f1)) ∧ w'.cell? ⟨(ad455.add ((x12_3).toNat * 5)).block, (ad455.add ((x12_3).toNat * 5)).off + 2, none⟩ = some (.int .i64 ((rd_T49 l1 x12_3).f2)) ∧ w'.cell? ⟨(ad455.add ((x12_3).toNat * 5)).block, (ad455.add ((x12_3).toNat * 5)).off + 3, none⟩ = some (.int .i64 ((rd_T49 l1 x12_3).f3)) ∧ w'.cell? ⟨(ad455.add ((x12_3).toNat * 5)).block, (ad455.add ((x12_3).toNat * 5)).off + 4, none⟩ = some (.int .u64 ((rd_T49 l1 x12_3).f4))) (ds := []) #[false, false, false, false, false, false, false, false, false, false, false, false, false] (by kernel_rfl) rfl rfl ⟨((HB.out.cell (World.block_lt_of_cell? w _ hw454_0)).trans hw454_0), ((HB.out.cell (World.block_lt_of_cell? w _ hw454_1)).trans hw454_1), ((HB.out.cell (World.block_lt_of_cell? w _ hw454_2)).trans hw454_2), ((HB.out.cell (World.block_lt_of_cell? w _ hw454_3)).trans hw454_3), ((HB.out.cell (World.block_lt_of_cell? w _ hw454_4)).trans hw454_4), ((HB.out.cell (World.block_lt_of_cell? w _ hw455_0)).trans hw455_0), ((HB.out.cell (World.block_lt_of_cell? w _ hw455_1)).trans hw455_1), ((HB.out.cell (World.block_lt_of_cell? w _ hw455_2)).trans hw455_2), ((HB.out.cell (World.block_lt_of_cell? w _ hw455_3)).trans hw455_3), ((HB.out.cell (World.block_lt_of_cell? w _ hw455_4)).trans hw455_4)⟩ (fun hHeld => ?_); refine with_tabW chargeparklaw42_SettleDispute.tab12 chargeparklaw42_SettleDispute.bits12 (fun HT_ HW_ => ?_)
              generalize wr.drew = w70 at HB hx454_0 hx454_1 hx454_2 hx454_3 hx454_4 hx455_0 hx455_1 hx455_2 hx455_3 hx455_4 hHeld ⊢
              refine pure_ (i := 0) (N := some 75) (v := ?_) (a' := ?_) #[true, false, false, false, false, false, false, false, false, false, false, false, false] rfl rfl (any_of HT_.out (by kernel_rfl)) (fun _ _ _ h => h) (Or.inl ⟨by rfl, ?_⟩) ?_ ?_
              rotate_left
              ·intro w'
               go_simp
               with_reducible rfl
              rotate_left
              ·simp only [Act.put, List.setIfInBounds_toArray, List.set_cons_zero, List.set_cons_succ, i64_w, i32_w]
               rfl
              refine pure_ (i := 1) (N := some 76) (v := ?_) (a' := ?_) #[true, true, false, false, false, false, false, false, false, false, false, false, false] rfl rfl (any_of HT_.out (by kernel_rfl)) (fun _ _ _ h => h) (Or.inl ⟨by rfl, ?_⟩) ?_ ?_
              rotate_left
              ·intro w'
               go_simp
               with_reducible rfl
              rotate_left
              ·simp only [Act.put, List.setIfInBounds_toArray, List.set_cons_zero, List.set_cons_succ, i64_w, i32_w]
               rfl
              refine pure_ (i := 2) (N := some 77) (v := ?_) (a' := ?_) #[true, true, true, false, false, false, false, false, false, false, false, false, false] rfl rfl (any_of HT_.out (by kernel_rfl)) (fun _ _ _ h => h) (Or.inl ⟨by rfl, ?_⟩) ?_ ?_
              rotate_left
              ·intro w'
               go_simp
               with_reducible rfl
              rotate_left
              ·simp only [Act.put, List.setIfInBounds_toArray, List.set_cons_zero, List.set_cons_succ, i64_w, i32_w]
               rfl
              refine pure_ (i := 3) (N := some 78) (v := ?_) (a' := ?_) #[true, true, true, true, false, false, false, false, false, false, false, false, false] rfl rfl (any_of HT_.out (by kernel_rfl)) (fun _ _ _ h => h) (Or.inl ⟨by rfl, ?_⟩) ?_ ?_
              rotate_left
              ·intro w'
               go_simp
               with_reducible rfl
              rotate_left
              ·simp only [Act.put, List.setIfInBounds_toArray, List.set_cons_zero, List.set_cons_succ, i64_w, i32_w]
               rfl
              refine pure_ (i := 4) (N := some 79) (v := ?_) (a' := ?_) #[true, true, true, true, true, false, false, false, false, false, false, false, false] rfl rfl (any_of HT_.out (by kernel_rfl)) (fun _ _ _ h => h) (Or.inl ⟨by rfl, ?_⟩) ?_ ?_
              rotate_left
              ·intro w'
               go_simp
               with_reducible rfl
              rotate_left
              ·simp only [Act.put, List.setIfInBounds_toArray, List.set_cons_zero, List.set_cons_succ, i64_w, i32_w]
               rfl
              refine pure_ (i := 6) (N := some 81) (v := ?_) (a' := ?_) #[true, true, true, true, true, false, true, false, false, false, false, false, false] rfl rfl (any_of HT_.out (by kernel_rfl)) (fun _ _ _ h => h) (Or.inl ⟨by rfl, ?_⟩) ?_ ?_
              rotate_left
              ·intro w'
               go_simp
               with_reducible rfl
              rotate_left
              ·simp only [Act.put, List.setIfInBounds_toArray, List.set_cons_zero, List.set_cons_succ, i64_w, i32_w]
               rfl
              refine pure_ (i := 7) (N := some 82) (v := ?_) (a' := ?_) #[true, true, true, true, true, false, true, true, false, false, false, false, false] rfl rfl (any_of HT_.out (by kernel_rfl)) (fun _ _ _ h => h) (Or.inl ⟨by rfl, ?_⟩) ?_ ?_
              rotate_left
              ·intro w'
               go_simp
               with_reducible rfl
              rotate_left
              ·simp only [Act.put, List.setIfInBounds_toArray, List.set_cons_zero, List.set_cons_succ, i64_w, i32_w]
               rfl
              refine pure_ (i := 8) (N := some 83) (v := ?_) (a' := ?_) #[true, true, true, true, true, false, true, true, true, false, false, false, false] rfl rfl (any_of HT_.out (by kernel_rfl)) (fun _ _ _ h => h) (Or.inl ⟨by rfl, ?_⟩) ?_ ?_
              rotate_left
              ·intro w'
               go_simp
               with_reducible rfl
              rotate_left
              ·simp only [Act.put, List.setIfInBounds_toArray, List.set_cons_zero, List.set_cons_succ, i64_w, i32_w]
               rfl
              refine take_ (i := 5) (N := some 80) (v := ?_) (a' := ?_) #[true, true, true, true, true, true, true, true, true, false, false, false, false] rfl rfl (take_ofW HT_.out HW_.out (by kernel_rfl)) (fun _ _ _ h => h) (Or.inl ⟨by rfl, ?_⟩) hHeld ?_ ?_
              rotate_left
              ·rintro w' ⟨s0, s1, s2, s3, s4, s5, s6, s7, s8, s9⟩
               go_simp
               with_reducible rfl
              rotate_left
              ·simp only [Act.put, List.setIfInBounds_toArray, List.set_cons_zero, List.set_cons_succ, i64_w, i32_w]
               rfl
              refine take_ (i := 9) (N := some 84) (v := ?_) (a' := ?_) #[true, true, true, true, true, true, true, true, true, true, false, false, false] rfl rfl (take_ofW HT_.out HW_.out (by kernel_rfl)) (fun _ _ _ h => h) (Or.inl ⟨by rfl, ?_⟩) hHeld ?_ ?_
              rotate_left
              ·rintro w' ⟨s0, s1, s2, s3, s4, s5, s6, s7, s8, s9⟩
               go_simp
               with_reducible rfl
              rotate_left
              ·simp only [Act.put, List.setIfInBounds_toArray, List.set_cons_zero, List.set_cons_succ, i64_w, i32_w]
               rfl
              refine pure_ (i := 10) (N := some 85) (v := ?_) (a' := ?_) #[true, true, true, true, true, true, true, true, true, true, true, false, false] rfl rfl (any_of HT_.out (by kernel_rfl)) (fun _ _ _ h => h) (Or.inl ⟨by rfl, ?_⟩) ?_ ?_
              rotate_left
              ·intro w'
               go_simp
               with_reducible rfl
              rotate_left
              ·simp only [Act.put, List.setIfInBounds_toArray, List.set_cons_zero, List.set_cons_succ, i64_w, i32_w]
               rfl
              refine pure_ (i := 11) (N := some 86) (v := ?_) (a' := ?_) #[true, true, true, true, true, true, true, true, true, true, true, true, false] rfl rfl (any_of HT_.out (by kernel_rfl)) (fun _ _ _ h => h) (Or.inl ⟨by rfl, ?_⟩) ?_ ?_
              rotate_left
              ·intro w'
               go_simp
               with_reducible rfl
              rotate_left
              ·simp only [Act.put, List.setIfInBounds_toArray, List.set_cons_zero, List.set_cons_succ, i64_w, i32_w]
               rfl
              refine pure_ (i := 12) (N := some 5) (v := ?_) (a' := ?_) #[true, true, true, true, true, true, true, true, true, true, true, true, true] rfl rfl (any_of HT_.out (by kernel_rfl)) (fun _ _ _ h => h) (Or.inl ⟨by rfl, ?_⟩) ?_ ?_
              rotate_left
              ·intro w'
               go_simp
               with_reducible rfl
              rotate_left
              ·simp only [Act.put, List.setIfInBounds_toArray, List.set_cons_zero, List.set_cons_succ, i64_w, i32_w]
               rfl
              refine done_ (done_of HT_.out (by kernel_rfl)) ?_
              try go_wp2
              go_roundg k3
              case measure => have := HJ3.out; have := HJ9.out; have := HK3.out; omega
              case rel => exact ⟨((((rd_T49 l0 x12_3).f0) == ((rd_T49 l1 x12_3).f0) && (((rd_T49 l0 x12_3).f1) == ((rd_T49 l1 x12_3).f1) && (((rd_T49 l0 x12_3).f2) == ((rd_T49 l1 x12_3).f2) && (((rd_T49 l0 x12_3).f3) == ((rd_T49 l1 x12_3).f3) && (((rd_T49 l0 x12_3).f4) == ((rd_T49 l1 x12_3).f4))))))), (wrap64 (x12_3 + 1)), (by first | rfl | (simp; done) | (simp [*]; done)), (by first | rfl | (simp; done) | (simp [*]; done)), H', ⟨by have := HJ3.out; have := HJ9.out; have := HK3.out; omega⟩, ⟨by repeat (first | (with_reducible first | exact HB.out | apply below_alloc | apply pw_below_drewN | apply below_drew1) | exact HB.out)⟩⟩
             ·rw [if_neg c69] at H
              exact absurd H (by simp)
            ·replace c68 := Bool.eq_false_iff.mpr c68
             subst c68
             have H1 : (chargeparklaw42_SettleDispute.l0 k3 l0 l1 false t448 (wrap64 (x12_3 + 1))) = some r := by rw [if_neg (show ¬ (false = true) by decide)] at H; exact H
             clear H
             have H := H1
             clear H1
             have H' := Aside0.mk H
             clear H
             try go_wp2
             have n0_ := Aside0.mk (below_drew1 HB.out)
             clear HB
             have HB := n0_
             clear n0_
             refine start_ (n := 13) (S := fun w' => True) (ds := []) #[false, false, false, false, false, false, false, false, false, false, false, false, false] (by kernel_rfl) rfl rfl trivial (fun hHeld => ?_); refine with_tabW chargeparklaw42_SettleDispute.tab12 chargeparklaw42_SettleDispute.bits12 (fun HT_ HW_ => ?_)
             generalize wr.drew = w71 at HB hHeld ⊢
             refine pure_ (i := 0) (N := some 75) (v := ?_) (a' := ?_) #[true, false, false, false, false, false, false, false, false, false, false, false, false] rfl rfl (any_of HT_.out (by kernel_rfl)) (fun _ _ _ h => h) (Or.inl ⟨by rfl, ?_⟩) ?_ ?_
             rotate_left
             ·intro w'
              go_simp
              with_reducible rfl
             rotate_left
             ·simp only [Act.put, List.setIfInBounds_toArray, List.set_cons_zero, List.set_cons_succ, i64_w, i32_w]
              rfl
             refine pure_ (i := 1) (N := some 76) (v := ?_) (a' := ?_) #[true, true, false, false, false, false, false, false, false, false, false, false, false] rfl rfl (any_of HT_.out (by kernel_rfl)) (fun _ _ _ h => h) (Or.inl ⟨by rfl, ?_⟩) ?_ ?_
             rotate_left
             ·intro w'
              go_simp
              with_reducible rfl
             rotate_left
             ·simp only [Act.put, List.setIfInBounds_toArray, List.set_cons_zero, List.set_cons_succ, i64_w, i32_w]
              rfl
             refine pure_ (i := 2) (N := some 77) (v := undef) (a' := ?_) #[true, true, true, false, false, false, false, false, false, false, false, false, false] rfl rfl (any_of HT_.out (by kernel_rfl)) (fun _ _ _ h => h) (Or.inr ⟨by rfl, rfl⟩) ?_ ?_
             rotate_left
             ·simp only [Act.put, List.setIfInBounds_toArray, List.set_cons_zero, List.set_cons_succ, i64_w, i32_w]
              rfl
             refine pure_ (i := 3) (N := some 78) (v := undef) (a' := ?_) #[true, true, true, true, false, false, false, false, false, false, false, false, false] rfl rfl (any_of HT_.out (by kernel_rfl)) (fun _ _ _ h => h) (Or.inr ⟨by rfl, rfl⟩) ?_ ?_
             rotate_left
             ·simp only [Act.put, List.setIfInBounds_toArray, List.set_cons_zero, List.set_cons_succ, i64_w, i32_w]
              rfl
             refine pure_ (i := 4) (N := some 79) (v := undef) (a' := ?_) #[true, true, true, true, true, false, false, false, false, false, false, false, false] rfl rfl (any_of HT_.out (by kernel_rfl)) (fun _ _ _ h => h) (Or.inr ⟨by rfl, rfl⟩) ?_ ?_
             rotate_left
             ·simp only [Act.put, List.setIfInBounds_toArray, List.set_cons_zero, List.set_cons_succ, i64_w, i32_w]
              rfl
             refine pure_ (i := 5) (N := some 80) (v := undef) (a' := ?_) #[true, true, true, true, true, true, false, false, false, false, false, false, false] rfl rfl (any_of HT_.out (by kernel_rfl)) (fun _ _ _ h => h) (Or.inr ⟨by rfl, rfl⟩) ?_ ?_
             rotate_left
             ·simp only [Act.put, List.setIfInBounds_toArray, List.set_cons_zero, List.set_cons_succ, i64_w, i32_w]
              rfl
             refine pure_ (i := 6) (N := some 81) (v := undef) (a' := ?_) #[true, true, true, true, true, true, true, false, false, false, false, false, false] rfl rfl (any_of HT_.out (by kernel_rfl)) (fun _ _ _ h => h) (Or.inr ⟨by rfl, rfl⟩) ?_ ?_
             rotate_left
             ·simp only [Act.put, List.setIfInBounds_toArray, List.set_cons_zero, List.set_cons_succ, i64_w, i32_w]
              rfl
             refine pure_ (i := 7) (N := some 82) (v := undef) (a' := ?_) #[true, true, true, true, true, true, true, true, false, false, false, false, false] rfl rfl (any_of HT_.out (by kernel_rfl)) (fun _ _ _ h => h) (Or.inr ⟨by rfl, rfl⟩) ?_ ?_
             rotate_left
             ·simp only [Act.put, List.setIfInBounds_toArray, List.set_cons_zero, List.set_cons_succ, i64_w, i32_w]
              rfl
             refine pure_ (i := 8) (N := some 83) (v := undef) (a' := ?_) #[true, true, true, true, true, true, true, true, true, false, false, false, false] rfl rfl (any_of HT_.out (by kernel_rfl)) (fun _ _ _ h => h) (Or.inr ⟨by rfl, rfl⟩) ?_ ?_
             rotate_left
             ·simp only [Act.put, List.setIfInBounds_toArray, List.set_cons_zero, List.set_cons_succ, i64_w, i32_w]
              rfl
             refine pure_ (i := 9) (N := some 84) (v := undef) (a' := ?_) #[true, true, true, true, true, true, true, true, true, true, false, false, false] rfl rfl (any_of HT_.out (by kernel_rfl)) (fun _ _ _ h => h) (Or.inr ⟨by rfl, rfl⟩) ?_ ?_
             rotate_left
             ·simp only [Act.put, List.setIfInBounds_toArray, List.set_cons_zero, List.set_cons_succ, i64_w, i32_w]
              rfl
             refine pure_ (i := 10) (N := some 85) (v := undef) (a' := ?_) #[true, true, true, true, true, true, true, true, true, true, true, false, false] rfl rfl (any_of HT_.out (by kernel_rfl)) (fun _ _ _ h => h) (Or.inr ⟨by rfl, rfl⟩) ?_ ?_
             rotate_left
             ·simp only [Act.put, List.setIfInBounds_toArray, List.set_cons_zero, List.set_cons_succ, i64_w, i32_w]
              rfl
             refine pure_ (i := 11) (N := some 86) (v := ?_) (a' := ?_) #[true, true, true, true, true, true, true, true, true, true, true, true, false] rfl rfl (any_of HT_.out (by kernel_rfl)) (fun _ _ _ h => h) (Or.inl ⟨by rfl, ?_⟩) ?_ ?_
             rotate_left
             ·intro w'
              go_simp
              with_reducible rfl
             rotate_left
             ·simp only [Act.put, List.setIfInBounds_toArray, List.set_cons_zero, List.set_cons_succ, i64_w, i32_w]
              rfl
             refine pure_ (i := 12) (N := some 5) (v := ?_) (a' := ?_) #[true, true, true, true, true, true, true, true, true, true, true, true, true] rfl rfl (any_of HT_.out (by kernel_rfl)) (fun _ _ _ h => h) (Or.inl ⟨by rfl, ?_⟩) ?_ ?_
             rotate_left
             ·intro w'
              go_simp
              with_reducible rfl
             rotate_left
             ·simp only [Act.put, List.setIfInBounds_toArray, List.set_cons_zero, List.set_cons_succ, i64_w, i32_w]
              rfl
             refine done_ (done_of HT_.out (by kernel_rfl)) ?_
             try go_wp2
             go_roundg k3
             case measure => have := HJ3.out; have := HJ9.out; have := HK3.out; omega
             case rel => exact ⟨(false), (wrap64 (x12_3 + 1)), (by first | rfl | (simp; done) | (simp [*]; done)), (by first | rfl | (simp; done) | (simp [*]; done)), H', ⟨by have := HJ3.out; have := HJ9.out; have := HK3.out; omega⟩, ⟨by repeat (first | (with_reducible first | exact HB.out | apply below_alloc | apply pw_below_drewN | apply below_drew1) | exact HB.out)⟩⟩
           ·rw [if_neg c67] at H
            have c67b0 : decide (x12_3 < (l1.length : Int)) = false := decide_eq_false c67
            clear c67
            by_cases c72 : x5_3 = true
            ·subst c72
             have H1 : (if (l0.length : Int) = (l1.length : Int) then (some (t448 == 0)) else (none)) = some r := by rw [if_pos rfl] at H; exact H
             clear H
             have H := H1
             clear H1
             by_cases c73 : (l0.length : Int) = (l1.length : Int)
             ·rw [if_pos c73] at H
              have c73b0 : ((l0.length : Int) == (l1.length : Int)) = true := beq_iff_eq.mpr c73
              have c73b1 : ((l0.length : Int) != (l1.length : Int)) = false := bne_eq_false_iff_eq.mpr c73
              have c73b2 : (l0.length == l1.length) = true := by first | simpa using c73 | (simp at c73 ⊢; omega)
              clear c73
              obtain rfl := Option.some.inj H
              go_wp2
              go_ret
              exact ⟨by first | rfl | (simp [errW_none, errW_some] <;> rfl) | (simp [*, errW_none, errW_some] <;> rfl), by repeat (first | (with_reducible first | exact HB.out | apply below_alloc | apply pw_below_drewN | apply below_drew1) | exact HB.out)⟩
             ·rw [if_neg c73] at H
              exact absurd H (by simp)
            ·replace c72 := Bool.eq_false_iff.mpr c72
             subst c72
             have H1 : (none) = some r := by rw [if_neg (show ¬ (false = true) by decide)] at H; exact H
             clear H
             have H := H1
             clear H1
             exact absurd H (by simp)
          ·rw [if_neg c66] at H
           have c66b0 : decide (x12_3 < (l0.length : Int)) = false := decide_eq_false c66
           clear c66
           by_cases c74 : x5_3 = true
           ·subst c74
            have H1 : (if (l0.length : Int) = (l1.length : Int) then (some (t448 == 0)) else (none)) = some r := by rw [if_pos rfl] at H; exact H
            clear H
            have H := H1
            clear H1
            by_cases c75 : (l0.length : Int) = (l1.length : Int)
            ·rw [if_pos c75] at H
             have c75b0 : ((l0.length : Int) == (l1.length : Int)) = true := beq_iff_eq.mpr c75
             have c75b1 : ((l0.length : Int) != (l1.length : Int)) = false := bne_eq_false_iff_eq.mpr c75
             have c75b2 : (l0.length == l1.length) = true := by first | simpa using c75 | (simp at c75 ⊢; omega)
             clear c75
             obtain rfl := Option.some.inj H
             go_wp2
             go_ret
             exact ⟨by first | rfl | (simp [errW_none, errW_some] <;> rfl) | (simp [*, errW_none, errW_some] <;> rfl), by repeat (first | (with_reducible first | exact HB.out | apply below_alloc | apply pw_below_drewN | apply below_drew1) | exact HB.out)⟩
            ·rw [if_neg c75] at H
             exact absurd H (by simp)
           ·replace c74 := Bool.eq_false_iff.mpr c74
            subst c74
            have H1 : (none) = some r := by rw [if_neg (show ¬ (false = true) by decide)] at H; exact H
            clear H
            have H := H1
            clear H1
            exact absurd H (by simp)

/-- THE ONE PURE STATEMENT of chargeparklaw42_SettleDispute: yours. -/
def chargeparklaw42_SettleDispute.Pure : Prop := ∀ (l0 : List (S49)) (l1 : List (S49)), l0.length ≤ maxLen → (∀ y ∈ l0, ok49 y) → l1.length ≤ maxLen → (∀ y ∈ l1, ok49 y) → ∃ k, chargeparklaw42_SettleDispute.f k l0 l1 = some true
theorem chargeparklaw42_SettleDispute.walk (P : chargeparklaw42_SettleDispute.Pure) (A0 : Option Addr) (c0 : Nat) (l0 : List (S49)) (A1 : Option Addr) (c1 : Nat) (l1 : List (S49)) (w : World) (hC0 : Kd.C k49 w A0 l0.length l0) (hc0 : l0.length ≤ c0) (hm0 : l0.length ≤ maxLen) (ho0 : ∀ y ∈ l0, ok49 y) (hC1 : Kd.C k49 w A1 l1.length l1) (hc1 : l1.length ≤ c1) (hm1 : l1.length ≤ maxLen) (ho1 : ∀ y ∈ l1, ok49 y) :
  Calls Try.prog 8 #[.slice A0 l0.length c0, .slice A1 l1.length c1] w fun e w' => e = .returned (.bool true) ∧ Below w.heap.size w w' := by
 obtain ⟨k, h⟩ := P l0 l1 hm0 ho0 hm1 ho1
 refine (chargeparklaw42_SettleDispute.calls k _ _ l0 _ _ l1 true w hC0 hc0 hC1 hc1 h).mono ?_
 rintro e w' ⟨rfl, hd⟩
 exact ⟨rfl, hd⟩


end Go.Proofs.Ytanaaphabeonoaa.PAll
