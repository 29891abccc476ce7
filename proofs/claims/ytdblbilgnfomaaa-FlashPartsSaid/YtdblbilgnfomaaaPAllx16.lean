-- Written by a program of this session (xprint.py, over the kit's print.py), with contracts proved by hand.
import Derived.Test.YtdblbilgnfomaaaPAllx0
import Derived.Test.YtdblbilgnfomaaaPAllx2
import Derived.Test.YtdblbilgnfomaaaPAllx3
import Derived.Test.YtdblbilgnfomaaaPAllx4
import Derived.Test.YtdblbilgnfomaaaPAllx9
namespace Go.Proofs.Ytdblbilgnfomaaa.PAll
open Go.RowKit Go.Proofs.Ytdblbilgnfomaaa.Open Go.Proofs.YtdblbilgnfomaaaW.PrintWords Go.Proofs.YtdblbilgnfomaaaW.PrintLast Go.Proofs.YtdblbilgnfomaaaW.PrintMore
attribute [local go_sem] max2_int min2_int max_two min_two max_three min_three max_four min_four   -- for this text's walks alone
set_option linter.unusedVariables false
set_option linter.unusedSimpArgs false

/-! ### chargeparklaw17_FlashParts: function 9 -/
mutual
def chargeparklaw17_FlashParts.j0 : Nat → Int → List Int → Int → Bool → Bool → Int → List Int → Option (Bool)
  | 0, _, _, _, _, _, _, _ => none
  | k + 1, x1, x2, x3, x9, x28, x406000, x406001 => if x28 = true then (some x9) else ((flash_Program.f x406000 x406001 x1 x2).bind fun bt407 => (if bt407.2 = 0 then (chargeparklaw17_FlashParts.j1 k x1 x2 x3 x9 bt407.1 bt407.2 ((bt407.1.length : Int) != (wrap64 ((x2.length : Int) + 1))) x406000 x406001) else (chargeparklaw17_FlashParts.j1 k x1 x2 x3 x9 bt407.1 bt407.2 true x406000 x406001)))
def chargeparklaw17_FlashParts.j1 : Nat → Int → List Int → Int → Bool → List (S24) → Int → Bool → Int → List Int → Option (Bool)
  | 0, _, _, _, _, _, _, _, _, _ => none
  | k + 1, x1, x2, x3, x9, x10, x11, x46, x406000, x406001 => if x46 = true then (if x9 = true then (some (x11 != 0)) else (none)) else (if (wrap64 ((x2.length : Int) + 1)) = 0 then (none) else (if 0 ≤ (Int.tmod (wrap64 (x3)) (wrap64 ((x2.length : Int) + 1))) then (if (Int.tmod (wrap64 (x3)) (wrap64 ((x2.length : Int) + 1))) ≤ (x2.length : Int) then ((flash_Program.f x406000 x406001 x1 (x2.take ((Int.tmod (wrap64 (x3)) (wrap64 ((x2.length : Int) + 1))) : Int).toNat)).bind fun bt412 => ((chargeparklaw17_last.f bt412.1 bt412.2 (wrap64 ((Int.tmod (wrap64 (x3)) (wrap64 ((x2.length : Int) + 1))) + 1))).bind fun bt416 => ((flash_Program.f bt416.1 bt416.2.1 (wrap64 (x1 + (Int.tmod (wrap64 (x3)) (wrap64 ((x2.length : Int) + 1))))) (x2.drop ((Int.tmod (wrap64 (x3)) (wrap64 ((x2.length : Int) + 1))) : Int).toNat)).bind fun bt423 => (if bt416.2.2 = true then (if bt423.2 = 0 then (if (bt423.1.length : Int) = (wrap64 ((wrap64 ((x2.length : Int) - (Int.tmod (wrap64 (x3)) (wrap64 ((x2.length : Int) + 1))))) + 1)) then (if x9 = true then ((some (([] : List (S24)) : List (S24))).bind fun y427 => (if y427.length + bt412.1.length < 4398046511104 then ((some (y427 ++ bt412.1 : List (S24))).bind fun y430 => (if 1 ≤ (bt423.1.length : Int) then ((some (bt423.1.drop 1 : List (S24))).bind fun y433 => (if y430.length + y433.length < 4398046511104 then ((chargeparkref17_SameList.f k x10 (y430 ++ y433)).bind fun t441 => (some t441)) else (none))) else (none))) else (none))) else (none)) else (none)) else (none)) else (none))))) else (none)) else (none)))
end
def chargeparklaw17_FlashParts.f (k : Nat) (a0_0 : Int) (l0_1 : List Int) (a1 : Int) (l2 : List Int) (a3 : Int) : Option (Bool) := (chargeparklaw17_head.f k).bind fun t406 => (if (l0_1.length : Int) > 300 then (chargeparklaw17_FlashParts.j0 k a1 l2 a3 t406 true a0_0 l0_1) else (chargeparklaw17_FlashParts.j0 k a1 l2 a3 t406 (decide ((l2.length : Int) > 300)) a0_0 l0_1))
theorem chargeparklaw17_FlashParts.mono_l : ∀ k, (∀ y0 y1 y2 y3 y4 y5 y6, LeO (chargeparklaw17_FlashParts.j0 k y0 y1 y2 y3 y4 y5 y6) (chargeparklaw17_FlashParts.j0 (k + 1) y0 y1 y2 y3 y4 y5 y6)) ∧ (∀ y0 y1 y2 y3 y4 y5 y6 y7 y8, LeO (chargeparklaw17_FlashParts.j1 k y0 y1 y2 y3 y4 y5 y6 y7 y8) (chargeparklaw17_FlashParts.j1 (k + 1) y0 y1 y2 y3 y4 y5 y6 y7 y8))
  | 0 => ⟨fun _ _ _ _ _ _ _ r h => by simp [chargeparklaw17_FlashParts.j0] at h, fun _ _ _ _ _ _ _ _ _ r h => by simp [chargeparklaw17_FlashParts.j1] at h⟩
  | k + 1 => by
    obtain ⟨ih0, ih1⟩ := chargeparklaw17_FlashParts.mono_l k
    refine ⟨?_, ?_⟩
    · intro y0 y1 y2 y3 y4 y5 y6
      unfold chargeparklaw17_FlashParts.j0
      repeat' first
      | (with_reducible exact ih0 _ _ _ _ _ _ _)
      | (with_reducible exact ih1 _ _ _ _ _ _ _ _ _)
      | (with_reducible exact chargeparklaw17_head.mono _)
      | (with_reducible exact chargeparkref17_SameList.mono _ _ _)
      | (with_reducible exact LeO.refl _)
      | (with_reducible exact LeO.none _)
      | (with_reducible refine LeO.ite ?_ ?_)
      | (with_reducible refine LeO.bind ?_ (fun _ => ?_))
      | exact ih0 _ _ _ _ _ _ _
      | exact ih1 _ _ _ _ _ _ _ _ _
      | exact chargeparklaw17_head.mono _
      | exact chargeparkref17_SameList.mono _ _ _
      | exact LeO.none _
      | refine LeO.ite ?_ ?_
      | refine LeO.bind ?_ (fun _ => ?_)
    · intro y0 y1 y2 y3 y4 y5 y6 y7 y8
      unfold chargeparklaw17_FlashParts.j1
      repeat' first
      | (with_reducible exact ih0 _ _ _ _ _ _ _)
      | (with_reducible exact ih1 _ _ _ _ _ _ _ _ _)
      | (with_reducible exact chargeparklaw17_head.mono _)
      | (with_reducible exact chargeparkref17_SameList.mono _ _ _)
      | (with_reducible exact LeO.refl _)
      | (with_reducible exact LeO.none _)
      | (with_reducible refine LeO.ite ?_ ?_)
      | (with_reducible refine LeO.bind ?_ (fun _ => ?_))
      | exact ih0 _ _ _ _ _ _ _
      | exact ih1 _ _ _ _ _ _ _ _ _
      | exact chargeparklaw17_head.mono _
      | exact chargeparkref17_SameList.mono _ _ _
      | exact LeO.none _
      | refine LeO.ite ?_ ?_
      | refine LeO.bind ?_ (fun _ => ?_)
theorem chargeparklaw17_FlashParts.mono : ∀ a0 a1 a2 a3 a4 k, LeO (chargeparklaw17_FlashParts.f k a0 a1 a2 a3 a4) (chargeparklaw17_FlashParts.f (k + 1) a0 a1 a2 a3 a4) := by
  intro a0 a1 a2 a3 a4 k
  obtain ⟨ih0, ih1⟩ := chargeparklaw17_FlashParts.mono_l k
  unfold chargeparklaw17_FlashParts.f
  repeat' first
      | (with_reducible exact ih0 _ _ _ _ _ _ _)
      | (with_reducible exact ih1 _ _ _ _ _ _ _ _ _)
      | (with_reducible exact chargeparklaw17_head.mono _)
      | (with_reducible exact chargeparkref17_SameList.mono _ _ _)
      | (with_reducible exact LeO.refl _)
      | (with_reducible exact LeO.none _)
      | (with_reducible refine LeO.ite ?_ ?_)
      | (with_reducible refine LeO.bind ?_ (fun _ => ?_))
      | exact ih0 _ _ _ _ _ _ _
      | exact ih1 _ _ _ _ _ _ _ _ _
      | exact chargeparklaw17_head.mono _
      | exact chargeparkref17_SameList.mono _ _ _
      | exact LeO.none _
      | refine LeO.ite ?_ ?_
      | refine LeO.bind ?_ (fun _ => ?_)
def chargeparklaw17_FlashParts.T8 : Bool × List (List Nat × List Nat) := (true, [([], []), ([], []), ([], []), ([], []), ([2, 3], [2, 3]), ([0, 1, 4], [0, 1, 4]), ([5], [5]), ([6], [6]), ([6], [6]), ([7, 5, 0, 1, 2, 3, 4, 5, 6, 7], [7]), ([8, 9, 0, 1, 2, 3, 4, 5, 6, 7, 8, 9], [8])])
def chargeparklaw17_FlashParts.B8 : List Nat := [0, 0, 0, 0, 12, 31, 63, 127, 127, 255, 1023]
theorem chargeparklaw17_FlashParts.tab8 : rtab .any (opsOf Try.f9 8) = chargeparklaw17_FlashParts.T8 := by kernel_rfl
theorem chargeparklaw17_FlashParts.bits8 : waitsOk chargeparklaw17_FlashParts.T8.2 chargeparklaw17_FlashParts.B8 = true := by kernel_rfl
def chargeparklaw17_FlashParts.T10 : Bool × List (List Nat × List Nat) := (true, [([], []), ([], []), ([], []), ([1, 2], [1, 2]), ([], []), ([], []), ([4, 5], [4, 5]), ([0, 3, 6], [0, 3, 6]), ([7], [7]), ([8], [8]), ([8], [8]), ([9, 7, 0, 1, 2, 3, 4, 5, 6, 7, 8, 9], [9]), ([10, 11, 0, 1, 2, 3, 4, 5, 6, 7, 8, 9, 10, 11], [10])])
def chargeparklaw17_FlashParts.B10 : List Nat := [0, 0, 0, 6, 0, 0, 48, 127, 255, 511, 511, 1023, 4095]
theorem chargeparklaw17_FlashParts.tab10 : rtab .any (opsOf Try.f9 10) = chargeparklaw17_FlashParts.T10 := by kernel_rfl
theorem chargeparklaw17_FlashParts.bits10 : waitsOk chargeparklaw17_FlashParts.T10.2 chargeparklaw17_FlashParts.B10 = true := by kernel_rfl
def chargeparklaw17_FlashParts.T13 : Bool × List (List Nat × List Nat) := (true, [([], []), ([0], [0]), ([1], [1]), ([1], [1]), ([1], [1]), ([3, 4, 1, 1], [1, 3, 4]), ([1], [1]), ([6, 1], [1, 6]), ([5, 7, 5, 1], [1, 5, 7]), ([2, 8, 8, 1], [1, 2, 8]), ([1, 9], [1, 9]), ([10, 9, 0, 1, 2, 3, 4, 5, 6, 7, 8, 9, 10], [10])])
def chargeparklaw17_FlashParts.B13 : List Nat := [0, 1, 3, 3, 3, 27, 3, 67, 251, 511, 1023, 2047]
theorem chargeparklaw17_FlashParts.tab13 : rtab .any (opsOf Try.f9 13) = chargeparklaw17_FlashParts.T13 := by kernel_rfl
theorem chargeparklaw17_FlashParts.bits13 : waitsOk chargeparklaw17_FlashParts.T13.2 chargeparklaw17_FlashParts.B13 = true := by kernel_rfl
set_option maxHeartbeats 8000000 in
set_option maxRecDepth 100000 in
theorem chargeparklaw17_FlashParts.calls (k : Nat) (a0_0 : Int) (A0_1 : Option Addr) (c0_1 : Nat) (l0_1 : List Int) (a1 : Int) (A2 : Option Addr) (c2 : Nat) (l2 : List Int) (a3 : Int) (r : Bool) (w : World) (hr0_1 : Kd.C (Kd.int .u8) w A0_1 l0_1.length l0_1) (hc0_1 : l0_1.length ≤ c0_1) (hr2 : Kd.C (Kd.int .u8) w A2 l2.length l2) (hc2 : l2.length ≤ c2) (h : chargeparklaw17_FlashParts.f k a0_0 l0_1 a1 l2 a3 = some r) :
    Calls Try.prog 9 #[.agg #[.int .i64 a0_0, .slice A0_1 l0_1.length c0_1], .int .i64 a1, .slice A2 l2.length c2, .int .u16 a3] w fun e w' => e = .returned (.bool r) ∧ Below w.heap.size w w' := by
  have hu24 := Try.underlying24
  have HR0_1 := Aside0.mk hr0_1
  have HC0_1 := Aside0.mk hc0_1
  clear hr0_1 hc0_1
  have HR2 := Aside0.mk hr2
  have HC2 := Aside0.mk hc2
  clear hr2 hc2
  have HB := Aside0.mk (Below.refl w.heap.size w)
  have H : ((chargeparklaw17_head.f k).bind fun t406 => (if (l0_1.length : Int) > 300 then (chargeparklaw17_FlashParts.j0 k a1 l2 a3 t406 true a0_0 l0_1) else (chargeparklaw17_FlashParts.j0 k a1 l2 a3 t406 (decide ((l2.length : Int) > 300)) a0_0 l0_1))) = some r := h
  clear h
  replace H := Option.bind_eq_some_iff.mp H
  obtain ⟨t406, A50, H⟩ := H
  replace H : (if (l0_1.length : Int) > 300 then (chargeparklaw17_FlashParts.j0 k a1 l2 a3 t406 true a0_0 l0_1) else (chargeparklaw17_FlashParts.j0 k a1 l2 a3 t406 (decide ((l2.length : Int) > 300)) a0_0 l0_1)) = some r := H
  have A5 := Aside0.mk A50
  clear A50
  have HC6 := Aside0.mk H
  clear H
  go_enter Try.func9, Try.ntmps9
  go_upto_region 2 with (first | ((with_reducible refine gate_dst (N := 4) rfl ?_); (try (refine gate_guard (by rfl) ?_; dsimp only)); refine box_event ?hg (N := 4) ?hd (cs := #[.int .i64 a0_0, .slice A0_1 l0_1.length c0_1]) (t := 24) ?hr ?_; (case hd => rfl); (case hg => rfl); (case hr => first | (go_simp; done) | (go_simp; rfl)); intro gb405 hg w7 hbox hb; have n0_ := Aside0.mk (below_step (by repeat (first | (with_reducible first | exact HB.out | apply below_alloc | apply pw_below_drewN | apply below_drew1) | exact HB.out)) hb); have n1_ := Aside0.mk (hbox); have n2_ := Aside0.mk ((by rw [hg]; exact (below_size (by repeat (first | (with_reducible first | exact HB.out | apply below_alloc | apply pw_below_drewN | apply below_drew1) | exact HB.out))) : w.heap.size ≤ gb405)); have n3_ := Aside0.mk ((by rw [hg]; exact (below_size (by repeat (first | (with_reducible first | exact HB.out | apply below_alloc | apply pw_below_drewN | apply below_drew1) | exact HB.out))) : w.heap.size ≤ gb405)); clear HB; have HB := n0_; have BK405 := n1_; have GW405 := n2_; have GE405 := n3_; clear n0_ n1_ n2_ n3_; clear hb hbox hg) | ((with_reducible refine gate_callee (f := 10) rfl ?_); refine goesL_ (some 19) rfl rfl Try.func10 (by kernel_rfl) rfl #[] rfl (by (try simp only [List.map_toArray, List.map_cons, List.map_nil]); first | done | rfl | (simp only [List.length_drop, List.length_take]; rfl)) ?_; (with_reducible refine (chargeparklaw17_head.calls k  t406 _ A5.out).mono ?_); rintro e w8 ⟨rfl, hb⟩; refine ⟨_, rfl, ?_⟩; have n0_ := Aside0.mk (blk_below (g := gb405) (o := .cells #[.int .i64 a0_0, .slice A0_1 l0_1.length c0_1] 24 (0, 0)) (by (with_reducible repeat (first | refine blk_drewN ?_ _ | refine blk_drew ?_ | refine blk_alloc ?_ _)); exact BK405.out) hb); have n1_ := Aside0.mk (below_step (by repeat (first | (with_reducible first | exact HB.out | apply below_alloc | apply pw_below_drewN | apply below_drew1 | refine below_set ?_ GE405.out) | exact HB.out)) hb); clear BK405; clear HB; have BK405 := n0_; have HB := n1_; clear n0_ n1_; (try clear hb); (try clear hb2); (try clear hk); (try clear hi)))
  (try simp only [Act.put, List.setIfInBounds_toArray, List.set_cons_zero, List.set_cons_succ])
  go_cut [28] (fun v28 wc => ∃ (kq : Nat) (x28_5 : Bool), v28 = .bool x28_5 ∧ Aside0 (chargeparklaw17_FlashParts.j0 kq a1 l2 a3 t406 x28_5 a0_0 l0_1 = some r) ∧ Aside0 (kq ≤ k) ∧ Aside0 (wc.heap[gb405]? = some (.cells #[.int .i64 a0_0, (.slice A0_1 l0_1.length c0_1)] 24 (0, 0))) ∧ Aside0 (Below w.heap.size w wc))
  case first =>
    have H := HC6.out
    clear HC6
    by_cases c9 : (l0_1.length : Int) > 300
    · rw [if_pos c9] at H
      have c9b0 : decide (300 < (l0_1.length : Int)) = true := decide_eq_true c9
      have c9b1 : decide (300 < l0_1.length) = true := decide_eq_true (by omega)
      clear c9
      (first | rw [c9b0] | (simp only [i64_w, i32_w]; rw [c9b0]) | skip)
      have H' := Aside0.mk H
      clear H
      have hcz10_0 : w8.cell? ⟨gb405, 0, none⟩ = some (.int .i64 a0_0) := (blk_cell BK405.out 0).trans rfl
      have hcz10_1 : w8.cell? ⟨gb405, 1, none⟩ = some (.slice A0_1 l0_1.length c0_1) := (blk_cell BK405.out 1).trans rfl
      have hfz10_0 := blk_frozen BK405.out 0
      have hfz10_1 := blk_frozen BK405.out 1
      go_wp2
      go_meet
      case rel => exact ⟨_, (true), (by first | rfl | (simp; done) | (simp [*]; done) | (simp [*, Int.tdiv_eq_ediv_of_nonneg]; done)), H', ⟨by first | omega | exact Nat.le_refl _⟩, ⟨by (with_reducible repeat (first | refine blk_drewN ?_ _ | refine blk_drew ?_ | refine blk_alloc ?_ _)); exact BK405.out⟩, ⟨by repeat (first | (with_reducible first | exact HB.out | apply below_alloc | apply pw_below_drewN | apply below_drew1 | refine below_set ?_ GE405.out) | exact HB.out)⟩⟩
    · rw [if_neg c9] at H
      have c9b0 : decide (300 < (l0_1.length : Int)) = false := decide_eq_false c9
      have c9b1 : decide (300 < l0_1.length) = false := decide_eq_false (by omega)
      clear c9
      (first | rw [c9b0] | (simp only [i64_w, i32_w]; rw [c9b0]) | skip)
      have H' := Aside0.mk H
      clear H
      have hcz11_0 : w8.cell? ⟨gb405, 0, none⟩ = some (.int .i64 a0_0) := (blk_cell BK405.out 0).trans rfl
      have hcz11_1 : w8.cell? ⟨gb405, 1, none⟩ = some (.slice A0_1 l0_1.length c0_1) := (blk_cell BK405.out 1).trans rfl
      have hfz11_0 := blk_frozen BK405.out 0
      have hfz11_1 := blk_frozen BK405.out 1
      go_wp2
      go_meet
      case rel => exact ⟨_, (decide ((l2.length : Int) > 300)), (by first | rfl | (simp; done) | (simp [*]; done) | (simp [*, Int.tdiv_eq_ediv_of_nonneg]; done)), H', ⟨by first | omega | exact Nat.le_refl _⟩, ⟨by (with_reducible repeat (first | refine blk_drewN ?_ _ | refine blk_drew ?_ | refine blk_alloc ?_ _)); exact BK405.out⟩, ⟨by repeat (first | (with_reducible first | exact HB.out | apply below_alloc | apply pw_below_drewN | apply below_drew1 | refine below_set ?_ GE405.out) | exact HB.out)⟩⟩
  case rest =>
    clear HC6
    try clear c1
    try clear c2
    try clear p2
    try clear c9
    try clear c9b0
    try clear c9b1
    try clear c10
    try clear hcz10_0
    try clear hcz10_1
    try clear hcz11_0
    try clear hcz11_1
    try clear hfz10_0
    try clear hfz10_1
    try clear hfz11_0
    try clear hfz11_1
    obtain ⟨kq, x28_5, rfl, HA, HJ5, BK405, HB⟩ := hcut
    cases kq with
    | zero => exact absurd HA.out (by simp [chargeparklaw17_FlashParts.j0])
    | succ kj5 =>
      have H := HA.out
      clear HA
      simp only [chargeparklaw17_FlashParts.j0] at H
      by_cases c12 : x28_5 = true
      · subst c12
        have H1 : (some t406) = some r := by rw [if_pos rfl] at H; exact H
        clear H
        have H := H1
        clear H1
        obtain rfl := Option.some.inj H
        go_wp2
        go_ret
        exact ⟨by first | rfl | (simp [errW_none, errW_some] <;> rfl) | (simp [*, errW_none, errW_some] <;> rfl) | (rw [Int.tmod_eq_emod_of_nonneg (Int.natCast_nonneg _)]; rfl), by repeat (first | (with_reducible first | exact HB.out | apply below_alloc | apply pw_below_drewN | apply below_drew1 | refine below_set ?_ GE405.out) | exact HB.out)⟩
      · replace c12 := Bool.eq_false_iff.mpr c12
        subst c12
        have H1 : ((flash_Program.f a0_0 l0_1 a1 l2).bind fun bt407 => (if bt407.2 = 0 then (chargeparklaw17_FlashParts.j1 kj5 a1 l2 a3 t406 bt407.1 bt407.2 ((bt407.1.length : Int) != (wrap64 ((l2.length : Int) + 1))) a0_0 l0_1) else (chargeparklaw17_FlashParts.j1 kj5 a1 l2 a3 t406 bt407.1 bt407.2 true a0_0 l0_1))) = some r := by rw [if_neg (show ¬ (false = true) by decide)] at H; exact H
        clear H
        have H := H1
        clear H1
        replace H := Option.bind_eq_some_iff.mp H
        obtain ⟨⟨t407, t410⟩, A130, H⟩ := H
        replace H : (if t410 = 0 then (chargeparklaw17_FlashParts.j1 kj5 a1 l2 a3 t406 t407 t410 ((t407.length : Int) != (wrap64 ((l2.length : Int) + 1))) a0_0 l0_1) else (chargeparklaw17_FlashParts.j1 kj5 a1 l2 a3 t406 t407 t410 true a0_0 l0_1)) = some r := H
        have A13 := Aside0.mk A130
        clear A130
        have HC14 := Aside0.mk H
        clear H
        have hcz15_0 : wc.cell? ⟨gb405, 0, none⟩ = some (.int .i64 a0_0) := (blk_cell BK405.out 0).trans rfl
        have hcz15_1 : wc.cell? ⟨gb405, 1, none⟩ = some (.slice A0_1 l0_1.length c0_1) := (blk_cell BK405.out 1).trans rfl
        have hfz15_0 := blk_frozen BK405.out 0
        have hfz15_1 := blk_frozen BK405.out 1
        go_upto_region 5 with (first | ((with_reducible refine gate_callee (f := 14) rfl ?_); refine goesL_ (some 34) rfl rfl Try.func14 (by kernel_rfl) rfl #[.agg #[.int .i64 a0_0, .slice A0_1 l0_1.length c0_1], .int .i64 a1, .slice A2 l2.length c2] rfl (by (try simp only [List.map_toArray, List.map_cons, List.map_nil]); first | done | rfl | (simp only [List.length_drop, List.length_take]; rfl)) ?_; (with_reducible refine (flash_Program.calls a0_0 _ _ l0_1 a1 _ _ l2 t407 t410 _ ?side1 ?side2 ?side3 ?side4 A13.out).mono ?_); (case side1 => repeat (first | exact (Kd.C_below HR0_1.out HB.out) | (with_reducible refine Kd.C_alloc ?_ _) | (with_reducible refine Kd.C_drewN ?_ _) | (with_reducible refine Kd.C_drew ?_))); (case side2 => exact HC0_1.out); (case side3 => repeat (first | exact (Kd.C_below HR2.out HB.out) | (with_reducible refine Kd.C_alloc ?_ _) | (with_reducible refine Kd.C_drewN ?_ _) | (with_reducible refine Kd.C_drew ?_))); (case side4 => exact HC2.out); rintro e w16 ⟨v408, rfl, ho0, hb⟩; refine ⟨_, rfl, ?_⟩; have n0_ := Aside0.mk (Kd.N_lower (Kd.N_mono (ok' := fun k_ => k_ ≠ gb405) ho0 (fun k_ hk_ => (Kd.freshB (g := gb405) (o := .cells #[.int .i64 a0_0, .slice A0_1 l0_1.length c0_1] 24 (0, 0)) (by (with_reducible repeat (first | refine blk_drewN ?_ _ | refine blk_drew ?_ | refine blk_alloc ?_ _)); exact BK405.out) k_ hk_))) (below_size (by repeat (first | (with_reducible first | exact HB.out | apply below_alloc | apply pw_below_drewN | apply below_drew1 | refine below_set ?_ GE405.out) | exact HB.out)))); have n1_ := Aside0.mk (blk_below (g := gb405) (o := .cells #[.int .i64 a0_0, .slice A0_1 l0_1.length c0_1] 24 (0, 0)) (by (with_reducible repeat (first | refine blk_drewN ?_ _ | refine blk_drew ?_ | refine blk_alloc ?_ _)); exact BK405.out) hb); have n2_ := Aside0.mk (below_step (by repeat (first | (with_reducible first | exact HB.out | apply below_alloc | apply pw_below_drewN | apply below_drew1 | refine below_set ?_ GE405.out) | exact HB.out)) hb); clear BK405; clear HB; have HO409 := n0_; have BK405 := n1_; have HB := n2_; clear n0_ n1_ n2_; (try clear hb); (try clear hb2); (try clear hk); (try clear hi); (try clear ho0)))
        (try simp only [Act.put, List.setIfInBounds_toArray, List.set_cons_zero, List.set_cons_succ])
        go_cut [46] (fun v46 wc => ∃ (kq : Nat) (x46_13 : Bool), v46 = .bool x46_13 ∧ Aside0 (chargeparklaw17_FlashParts.j1 kq a1 l2 a3 t406 t407 t410 x46_13 a0_0 l0_1 = some r) ∧ Aside0 (kq ≤ kj5) ∧ Aside0 (Kd.N k24 24 wc w.heap.size (fun k_ => k_ ≠ gb405) v408 t407) ∧ Aside0 (wc.heap[gb405]? = some (.cells #[.int .i64 a0_0, (.slice A0_1 l0_1.length c0_1)] 24 (0, 0))) ∧ Aside0 (Below w.heap.size w wc))
        case first =>
          have H := HC14.out
          clear HC14
          by_cases c17 : t410 = 0
          · rw [if_pos c17] at H
            have c17b0 : (t410 == 0) = true := beq_iff_eq.mpr c17
            have c17b1 : (t410 != 0) = false := bne_eq_false_iff_eq.mpr c17
            clear c17
            (first | rw [c17b0] | (simp only [i64_w, i32_w]; rw [c17b0]) | skip)
            have H' := Aside0.mk H
            clear H
            obtain ⟨Ao18, co18, eo18⟩ := Kd.N_slice HO409.out
            subst eo18
            go_wp2
            go_meet
            case rel => exact ⟨_, (((t407.length : Int) != (wrap64 ((l2.length : Int) + 1)))), (by first | rfl | (simp; done) | (simp [*]; done) | (simp [*, Int.tdiv_eq_ediv_of_nonneg]; done)), H', ⟨by have := HJ5.out; first | omega | exact Nat.le_refl _⟩, ⟨by (with_reducible repeat (first | apply Kd.N_alloc | apply Kd.N_drewN | apply Kd.N_drew)); exact HO409.out⟩, ⟨by (with_reducible repeat (first | refine blk_drewN ?_ _ | refine blk_drew ?_ | refine blk_alloc ?_ _)); exact BK405.out⟩, ⟨by repeat (first | (with_reducible first | exact HB.out | apply below_alloc | apply pw_below_drewN | apply below_drew1 | refine below_set ?_ GE405.out) | exact HB.out)⟩⟩
          · rw [if_neg c17] at H
            have c17b0 : (t410 == 0) = false := beq_eq_false_iff_ne.mpr c17
            have c17b1 : (t410 != 0) = true := bne_iff_ne.mpr c17
            (first | rw [c17b0] | (simp only [i64_w, i32_w]; rw [c17b0]) | skip)
            have H' := Aside0.mk H
            clear H
            go_wp2
            go_meet
            case rel => exact ⟨_, (true), (by first | rfl | (simp; done) | (simp [*]; done) | (simp [*, Int.tdiv_eq_ediv_of_nonneg]; done)), H', ⟨by have := HJ5.out; first | omega | exact Nat.le_refl _⟩, ⟨by (with_reducible repeat (first | apply Kd.N_alloc | apply Kd.N_drewN | apply Kd.N_drew)); exact HO409.out⟩, ⟨by (with_reducible repeat (first | refine blk_drewN ?_ _ | refine blk_drew ?_ | refine blk_alloc ?_ _)); exact BK405.out⟩, ⟨by repeat (first | (with_reducible first | exact HB.out | apply below_alloc | apply pw_below_drewN | apply below_drew1 | refine below_set ?_ GE405.out) | exact HB.out)⟩⟩
        case rest =>
          clear HC14
          try clear c1
          try clear c2
          try clear p2
          try clear p6
          try clear c9
          try clear c9b0
          try clear c9b1
          try clear c10
          try clear c12
          try clear c14
          try clear c17
          try clear c17b0
          try clear c17b1
          try clear hcz10_0
          try clear hcz10_1
          try clear hcz11_0
          try clear hcz11_1
          try clear hcz15_0
          try clear hcz15_1
          try clear hfz10_0
          try clear hfz10_1
          try clear hfz11_0
          try clear hfz11_1
          try clear hfz15_0
          try clear hfz15_1
          try clear p2
          obtain ⟨kq, x46_13, rfl, HA, HJ13, HO_10, BK405, HB⟩ := hcut
          cases kq with
          | zero => exact absurd HA.out (by simp [chargeparklaw17_FlashParts.j1])
          | succ kj13 =>
            have H := HA.out
            clear HA
            simp only [chargeparklaw17_FlashParts.j1] at H
            by_cases c19 : x46_13 = true
            · subst c19
              have H1 : (if t406 = true then (some (t410 != 0)) else (none)) = some r := by rw [if_pos rfl] at H; exact H
              clear H
              have H := H1
              clear H1
              by_cases c20 : t406 = true
              · subst c20
                have H1 : (some (t410 != 0)) = some r := by rw [if_pos rfl] at H; exact H
                clear H
                have H := H1
                clear H1
                obtain rfl := Option.some.inj H
                go_wp2
                go_ret
                exact ⟨by first | rfl | (simp [errW_none, errW_some] <;> rfl) | (simp [*, errW_none, errW_some] <;> rfl) | (rw [Int.tmod_eq_emod_of_nonneg (Int.natCast_nonneg _)]; rfl), by repeat (first | (with_reducible first | exact HB.out | apply below_alloc | apply pw_below_drewN | apply below_drew1 | refine below_set ?_ GE405.out) | exact HB.out)⟩
              · replace c20 := Bool.eq_false_iff.mpr c20
                subst c20
                have H1 : (none) = some r := by rw [if_neg (show ¬ (false = true) by decide)] at H; exact H
                clear H
                have H := H1
                clear H1
                exact absurd H (by simp)
            · replace c19 := Bool.eq_false_iff.mpr c19
              subst c19
              have H1 : (if (wrap64 ((l2.length : Int) + 1)) = 0 then (none) else (if 0 ≤ (Int.tmod (wrap64 (a3)) (wrap64 ((l2.length : Int) + 1))) then (if (Int.tmod (wrap64 (a3)) (wrap64 ((l2.length : Int) + 1))) ≤ (l2.length : Int) then ((flash_Program.f a0_0 l0_1 a1 (l2.take ((Int.tmod (wrap64 (a3)) (wrap64 ((l2.length : Int) + 1))) : Int).toNat)).bind fun bt412 => ((chargeparklaw17_last.f bt412.1 bt412.2 (wrap64 ((Int.tmod (wrap64 (a3)) (wrap64 ((l2.length : Int) + 1))) + 1))).bind fun bt416 => ((flash_Program.f bt416.1 bt416.2.1 (wrap64 (a1 + (Int.tmod (wrap64 (a3)) (wrap64 ((l2.length : Int) + 1))))) (l2.drop ((Int.tmod (wrap64 (a3)) (wrap64 ((l2.length : Int) + 1))) : Int).toNat)).bind fun bt423 => (if bt416.2.2 = true then (if bt423.2 = 0 then (if (bt423.1.length : Int) = (wrap64 ((wrap64 ((l2.length : Int) - (Int.tmod (wrap64 (a3)) (wrap64 ((l2.length : Int) + 1))))) + 1)) then (if t406 = true then ((some (([] : List (S24)) : List (S24))).bind fun y427 => (if y427.length + bt412.1.length < 4398046511104 then ((some (y427 ++ bt412.1 : List (S24))).bind fun y430 => (if 1 ≤ (bt423.1.length : Int) then ((some (bt423.1.drop 1 : List (S24))).bind fun y433 => (if y430.length + y433.length < 4398046511104 then ((chargeparkref17_SameList.f kj13 t407 (y430 ++ y433)).bind fun t441 => (some t441)) else (none))) else (none))) else (none))) else (none)) else (none)) else (none)) else (none))))) else (none)) else (none))) = some r := by rw [if_neg (show ¬ (false = true) by decide)] at H; exact H
              clear H
              have H := H1
              clear H1
              by_cases c21 : (wrap64 ((l2.length : Int) + 1)) = 0
              · rw [if_pos c21] at H
                exact absurd H (by simp)
              · rw [if_neg c21] at H
                have c21b0 : ((wrap64 ((l2.length : Int) + 1)) == 0) = false := beq_eq_false_iff_ne.mpr c21
                have c21b1 : ((wrap64 ((l2.length : Int) + 1)) != 0) = true := bne_iff_ne.mpr c21
                obtain ⟨ji22, hji22⟩ : ∃ j_ : Int, (Int.tmod (wrap64 (a3)) (wrap64 ((l2.length : Int) + 1))) = j_ := ⟨_, rfl⟩
                replace H : (if 0 ≤ (ji22) then (if (ji22) ≤ (l2.length : Int) then ((flash_Program.f a0_0 l0_1 a1 (l2.take ((ji22) : Int).toNat)).bind fun bt412 => ((chargeparklaw17_last.f bt412.1 bt412.2 (wrap64 ((ji22) + 1))).bind fun bt416 => ((flash_Program.f bt416.1 bt416.2.1 (wrap64 (a1 + (ji22))) (l2.drop ((ji22) : Int).toNat)).bind fun bt423 => (if bt416.2.2 = true then (if bt423.2 = 0 then (if (bt423.1.length : Int) = (wrap64 ((wrap64 ((l2.length : Int) - (ji22))) + 1)) then (if t406 = true then ((some (([] : List (S24)) : List (S24))).bind fun y427 => (if y427.length + bt412.1.length < 4398046511104 then ((some (y427 ++ bt412.1 : List (S24))).bind fun y430 => (if 1 ≤ (bt423.1.length : Int) then ((some (bt423.1.drop 1 : List (S24))).bind fun y433 => (if y430.length + y433.length < 4398046511104 then ((chargeparkref17_SameList.f kj13 t407 (y430 ++ y433)).bind fun t441 => (some t441)) else (none))) else (none))) else (none))) else (none)) else (none)) else (none)) else (none))))) else (none)) else (none)) = some r := by first | (rw [hji22] at H; exact H) | (simp only [hji22] at H ⊢; exact H)
                by_cases c23 : 0 ≤ (ji22)
                · rw [if_pos c23] at H
                  have c23b0 := eq_true c23
                  have c23b1 : decide (0 ≤ (ji22)) = true := decide_eq_true c23
                  clear c23
                  by_cases c24 : (ji22) ≤ (l2.length : Int)
                  · rw [if_pos c24] at H
                    have c24b0 := eq_true c24
                    have c24b1 : decide ((ji22) ≤ (l2.length : Int)) = true := decide_eq_true c24
                    clear c24
                    replace H := Option.bind_eq_some_iff.mp H
                    obtain ⟨⟨t412, t415⟩, A250, H⟩ := H
                    replace H : ((chargeparklaw17_last.f t412 t415 (wrap64 ((ji22) + 1))).bind fun bt416 => ((flash_Program.f bt416.1 bt416.2.1 (wrap64 (a1 + (ji22))) (l2.drop ((ji22) : Int).toNat)).bind fun bt423 => (if bt416.2.2 = true then (if bt423.2 = 0 then (if (bt423.1.length : Int) = (wrap64 ((wrap64 ((l2.length : Int) - (ji22))) + 1)) then (if t406 = true then ((some (([] : List (S24)) : List (S24))).bind fun y427 => (if y427.length + t412.length < 4398046511104 then ((some (y427 ++ t412 : List (S24))).bind fun y430 => (if 1 ≤ (bt423.1.length : Int) then ((some (bt423.1.drop 1 : List (S24))).bind fun y433 => (if y430.length + y433.length < 4398046511104 then ((chargeparkref17_SameList.f kj13 t407 (y430 ++ y433)).bind fun t441 => (some t441)) else (none))) else (none))) else (none))) else (none)) else (none)) else (none)) else (none)))) = some r := H
                    have A25 := Aside0.mk A250
                    clear A250
                    replace H := Option.bind_eq_some_iff.mp H
                    obtain ⟨⟨t416, t417, t420⟩, A260, H⟩ := H
                    replace H : ((flash_Program.f t416 t417 (wrap64 (a1 + (ji22))) (l2.drop ((ji22) : Int).toNat)).bind fun bt423 => (if t420 = true then (if bt423.2 = 0 then (if (bt423.1.length : Int) = (wrap64 ((wrap64 ((l2.length : Int) - (ji22))) + 1)) then (if t406 = true then ((some (([] : List (S24)) : List (S24))).bind fun y427 => (if y427.length + t412.length < 4398046511104 then ((some (y427 ++ t412 : List (S24))).bind fun y430 => (if 1 ≤ (bt423.1.length : Int) then ((some (bt423.1.drop 1 : List (S24))).bind fun y433 => (if y430.length + y433.length < 4398046511104 then ((chargeparkref17_SameList.f kj13 t407 (y430 ++ y433)).bind fun t441 => (some t441)) else (none))) else (none))) else (none))) else (none)) else (none)) else (none)) else (none))) = some r := H
                    have A26 := Aside0.mk A260
                    clear A260
                    have c27b0 := eq_true (of_decide_eq_true (by first | (with_reducible assumption) | assumption) : 0 ≤ (ji22))
                    have c28b0 := eq_true (of_decide_eq_true (by first | (with_reducible assumption) | assumption) : (ji22) ≤ (l2.length : Int))
                    replace H := Option.bind_eq_some_iff.mp H
                    obtain ⟨⟨t423, t426⟩, A290, H⟩ := H
                    replace H : (if t420 = true then (if t426 = 0 then (if (t423.length : Int) = (wrap64 ((wrap64 ((l2.length : Int) - (ji22))) + 1)) then (if t406 = true then ((some (([] : List (S24)) : List (S24))).bind fun y427 => (if y427.length + t412.length < 4398046511104 then ((some (y427 ++ t412 : List (S24))).bind fun y430 => (if 1 ≤ (t423.length : Int) then ((some (t423.drop 1 : List (S24))).bind fun y433 => (if y430.length + y433.length < 4398046511104 then ((chargeparkref17_SameList.f kj13 t407 (y430 ++ y433)).bind fun t441 => (some t441)) else (none))) else (none))) else (none))) else (none)) else (none)) else (none)) else (none)) = some r := H
                    have A29 := Aside0.mk A290
                    clear A290
                    by_cases c30 : t420 = true
                    · subst c30
                      have H1 : (if t426 = 0 then (if (t423.length : Int) = (wrap64 ((wrap64 ((l2.length : Int) - (ji22))) + 1)) then (if t406 = true then ((some (([] : List (S24)) : List (S24))).bind fun y427 => (if y427.length + t412.length < 4398046511104 then ((some (y427 ++ t412 : List (S24))).bind fun y430 => (if 1 ≤ (t423.length : Int) then ((some (t423.drop 1 : List (S24))).bind fun y433 => (if y430.length + y433.length < 4398046511104 then ((chargeparkref17_SameList.f kj13 t407 (y430 ++ y433)).bind fun t441 => (some t441)) else (none))) else (none))) else (none))) else (none)) else (none)) else (none)) = some r := by rw [if_pos rfl] at H; exact H
                      clear H
                      have H := H1
                      clear H1
                      by_cases c31 : t426 = 0
                      · rw [if_pos c31] at H
                        have c31b0 : (t426 == 0) = true := beq_iff_eq.mpr c31
                        have c31b1 : (t426 != 0) = false := bne_eq_false_iff_eq.mpr c31
                        clear c31
                        by_cases c32 : (t423.length : Int) = (wrap64 ((wrap64 ((l2.length : Int) - (ji22))) + 1))
                        · rw [if_pos c32] at H
                          have c32b0 : ((t423.length : Int) == (wrap64 ((wrap64 ((l2.length : Int) - (ji22))) + 1))) = true := beq_iff_eq.mpr c32
                          have c32b1 : ((t423.length : Int) != (wrap64 ((wrap64 ((l2.length : Int) - (ji22))) + 1))) = false := bne_eq_false_iff_eq.mpr c32
                          clear c32
                          by_cases c33 : t406 = true
                          · subst c33
                            have H1 : ((some (([] : List (S24)) : List (S24))).bind fun y427 => (if y427.length + t412.length < 4398046511104 then ((some (y427 ++ t412 : List (S24))).bind fun y430 => (if 1 ≤ (t423.length : Int) then ((some (t423.drop 1 : List (S24))).bind fun y433 => (if y430.length + y433.length < 4398046511104 then ((chargeparkref17_SameList.f kj13 t407 (y430 ++ y433)).bind fun t441 => (some t441)) else (none))) else (none))) else (none))) = some r := by rw [if_pos rfl] at H; exact H
                            clear H
                            have H := H1
                            clear H1
                            obtain ⟨y427, hy427⟩ : ∃ y_ : List (S24), y_ = (([] : List (S24))) := ⟨_, rfl⟩
                            replace H : (if y427.length + t412.length < 4398046511104 then ((some (y427 ++ t412 : List (S24))).bind fun y430 => (if 1 ≤ (t423.length : Int) then ((some (t423.drop 1 : List (S24))).bind fun y433 => (if y430.length + y433.length < 4398046511104 then ((chargeparkref17_SameList.f kj13 t407 (y430 ++ y433)).bind fun t441 => (some t441)) else (none))) else (none))) else (none)) = some r := by first | (rw [hy427]; with_reducible exact H) | (have H2_ := (Option.bind_some _ _).symm.trans H; rw [hy427]; with_reducible exact H2_) | (have H2_ := (Option.bind_some _ _).symm.trans H; with_reducible exact H2_) | with_reducible exact H | (rw [hy427]; exact H) | exact H
                            have Ny427 := Aside0.mk hy427
                            clear hy427
                            by_cases c34 : y427.length + t412.length < 4398046511104
                            · rw [if_pos c34] at H
                              have LMc34 := Aside0.mk c34
                              clear c34
                              obtain ⟨y430, hy430⟩ : ∃ y_ : List (S24), y_ = (y427 ++ t412) := ⟨_, rfl⟩
                              replace H : (if 1 ≤ (t423.length : Int) then ((some (t423.drop 1 : List (S24))).bind fun y433 => (if y430.length + y433.length < 4398046511104 then ((chargeparkref17_SameList.f kj13 t407 (y430 ++ y433)).bind fun t441 => (some t441)) else (none))) else (none)) = some r := by first | (rw [hy430]; with_reducible exact H) | (have H2_ := (Option.bind_some _ _).symm.trans H; rw [hy430]; with_reducible exact H2_) | (have H2_ := (Option.bind_some _ _).symm.trans H; with_reducible exact H2_) | with_reducible exact H | (rw [hy430]; exact H) | exact H
                              have Ny430 := Aside0.mk hy430
                              clear hy430
                              by_cases c35 : 1 ≤ (t423.length : Int)
                              · rw [if_pos c35] at H
                                have c35b0 := eq_true c35
                                have c35b1 : decide (1 ≤ (t423.length : Int)) = true := decide_eq_true c35
                                clear c35
                                obtain ⟨y433, hy433⟩ : ∃ y_ : List (S24), y_ = (t423.drop 1) := ⟨_, rfl⟩
                                replace H : (if y430.length + y433.length < 4398046511104 then ((chargeparkref17_SameList.f kj13 t407 (y430 ++ y433)).bind fun t441 => (some t441)) else (none)) = some r := by first | (rw [hy433]; with_reducible exact H) | (have H2_ := (Option.bind_some _ _).symm.trans H; rw [hy433]; with_reducible exact H2_) | (have H2_ := (Option.bind_some _ _).symm.trans H; with_reducible exact H2_) | with_reducible exact H | (rw [hy433]; exact H) | exact H
                                have Ny433 := Aside0.mk hy433
                                clear hy433
                                by_cases c36 : y430.length + y433.length < 4398046511104
                                · rw [if_pos c36] at H
                                  have LMc36 := Aside0.mk c36
                                  clear c36
                                  obtain ⟨y438, hy438⟩ : ∃ y_ : List (S24), y_ = (y430 ++ y433) := ⟨_, rfl⟩
                                  replace H : ((chargeparkref17_SameList.f kj13 t407 y438).bind fun t441 => (some t441)) = some r := by first | (rw [hy438]; with_reducible exact H) | (have H2_ := (Option.bind_some _ _).symm.trans H; rw [hy438]; with_reducible exact H2_) | (have H2_ := (Option.bind_some _ _).symm.trans H; with_reducible exact H2_) | with_reducible exact H | (rw [hy438]; exact H) | exact H
                                  have Ny438 := Aside0.mk hy438
                                  clear hy438
                                  replace H := Option.bind_eq_some_iff.mp H
                                  obtain ⟨t441, A370, H⟩ := H
                                  replace H : (some t441) = some r := H
                                  have A37 := Aside0.mk A370
                                  clear A370
                                  obtain rfl := Option.some.inj H
                                  try go_wp2
                                  have n0_ := Aside0.mk (Kd.N_drew HO_10.out)
                                  have n1_ := Aside0.mk (blk_drew BK405.out)
                                  have n2_ := Aside0.mk (below_drew1 HB.out)
                                  clear HO_10
                                  clear BK405
                                  clear HB
                                  have HO_10 := n0_
                                  have BK405 := n1_
                                  have HB := n2_
                                  clear n0_ n1_ n2_
                                  obtain ⟨i039, hi039, _, hsz39, _⟩ := info_parts info5
                                  obtain ⟨hcut39, hA39, hC39⟩ := print_take_of (P := Try.prog) (Value.int .u8) 0 22 5 .i64 Try.underlying22 hi039 hsz39 A2 c2 l2 (ji22) (of_decide_eq_true (by first | (with_reducible assumption) | assumption)) (of_decide_eq_true (by first | (with_reducible assumption) | assumption)) HC2.out
                                  have HR411 := Aside0.mk (Kd.C_of_reads (h1 := fun _ => rfl) (hA39 _ (Kd.reads_of_C HR2.out)))
                                  have HC411 := Aside0.mk hC39
                                  clear hA39 hC39 hi039 hsz39
                                  refine start_ (n := 11) (S := fun w' => w'.cell? ⟨gb405, 0, none⟩ = some (.int .i64 a0_0) ∧ w'.cell? ⟨gb405, 1, none⟩ = some (.slice A0_1 l0_1.length c0_1)) (ds := []) #[false, false, false, false, false, false, false, false, false, false, false] (by kernel_rfl) rfl rfl ⟨(blk_cell BK405.out 0).trans rfl, (blk_cell BK405.out 1).trans rfl⟩ (fun hHeld => ?_); refine with_tabW chargeparklaw17_FlashParts.tab8 chargeparklaw17_FlashParts.bits8 (fun HT_ HW_ => ?_)
                                  generalize wc.drew = w38 at HO_10 BK405 HB HR411 hHeld ⊢
                                  refine pure_ (i := 1) (N := some 60) (v := ?_) (a' := ?_) #[false, true, false, false, false, false, false, false, false, false, false] rfl rfl (any_of HT_.out (by kernel_rfl)) (fun _ _ _ h => h) (Or.inl ⟨by rfl, ?_⟩) ?_ ?_
                                  rotate_left
                                  · intro w'
                                    go_simp
                                    with_reducible rfl
                                  rotate_left
                                  · simp only [Act.put, List.setIfInBounds_toArray, List.set_cons_zero, List.set_cons_succ, i64_w, i32_w]
                                    rfl
                                  refine pure_ (i := 2) (N := some 61) (v := ?_) (a' := ?_) #[false, true, true, false, false, false, false, false, false, false, false] rfl rfl (any_of HT_.out (by kernel_rfl)) (fun _ _ _ h => h) (Or.inl ⟨by rfl, ?_⟩) ?_ ?_
                                  rotate_left
                                  · intro w'
                                    go_simp
                                    with_reducible rfl
                                  rotate_left
                                  · simp only [Act.put, List.setIfInBounds_toArray, List.set_cons_zero, List.set_cons_succ, i64_w, i32_w]
                                    rfl
                                  refine pure_ (i := 3) (N := some 62) (v := ?_) (a' := ?_) #[false, true, true, true, false, false, false, false, false, false, false] rfl rfl (any_of HT_.out (by kernel_rfl)) (fun _ _ _ h => h) (Or.inl ⟨by rfl, ?_⟩) ?_ ?_
                                  rotate_left
                                  · intro w'
                                    go_simp
                                    with_reducible rfl
                                  rotate_left
                                  · simp only [Act.put, List.setIfInBounds_toArray, List.set_cons_zero, List.set_cons_succ, i64_w, i32_w]
                                    rfl
                                  refine pure_ (i := 4) (N := some 63) (v := ?_) (a' := ?_) #[false, true, true, true, true, false, false, false, false, false, false] rfl rfl (any_of HT_.out (by kernel_rfl)) (fun _ _ _ h => h) (Or.inl ⟨by rfl, ?_⟩) ?_ ?_
                                  rotate_left
                                  · intro w'
                                    go_simp
                                    with_reducible rfl
                                  rotate_left
                                  · simp only [Act.put, List.setIfInBounds_toArray, List.set_cons_zero, List.set_cons_succ, i64_w, i32_w]
                                    rfl
                                  refine take_ (i := 0) (N := some 59) (v := ?_) (a' := ?_) #[true, true, true, true, true, false, false, false, false, false, false] rfl rfl (take_ofW HT_.out HW_.out (by kernel_rfl)) (fun _ _ _ h => h) (Or.inl ⟨by rfl, ?_⟩) hHeld ?_ ?_
                                  rotate_left
                                  · rintro w' ⟨s0, s1⟩
                                    go_simp
                                    with_reducible rfl
                                  rotate_left
                                  · simp only [Act.put, List.setIfInBounds_toArray, List.set_cons_zero, List.set_cons_succ, i64_w, i32_w]
                                    rfl
                                  refine one_ (i := 5) (N := some 64) #[true, true, true, true, true, true, false, false, false, false, false] rfl rfl (one_of HT_.out (by kernel_rfl)) (by decide) (fun K hK => ?_)
                                  refine goes_ Try.func14 (by kernel_rfl) rfl #[.agg #[.int .i64 a0_0, .slice A0_1 l0_1.length c0_1], .int .i64 a1, .slice A2 (l2.take ((ji22) : Int).toNat).length c2] (by rfl) rfl rfl (by (try simp only [List.map_toArray, List.map_cons, List.map_nil]); first | done | (rw [show (l2.take ((ji22) : Int).toNat).length = (ji22).toNat from (by rw [List.length_take]; have h_ : ((ji22) : Int) ≤ (l2.length : Int) := of_decide_eq_true (by first | (with_reducible assumption) | assumption); omega)] <;> rfl) | (simp only [hji22]; rfl) | rfl | (simp only [List.length_drop, List.length_take]; rfl)) ?_
                                  with_reducible refine (flash_Program.calls a0_0 _ _ l0_1 a1 _ _ (l2.take ((ji22) : Int).toNat) t412 t415 _ ?side1 ?side2 ?side3 ?side4 A25.out).mono ?_
                                  (case side1 => repeat (first | exact (Kd.C_below HR0_1.out HB.out) | (with_reducible refine Kd.C_alloc ?_ _) | (with_reducible refine Kd.C_drewN ?_ _) | (with_reducible refine Kd.C_drew ?_)))
                                  (case side2 => exact HC0_1.out)
                                  (case side3 => repeat (first | exact (Kd.C_below HR411.out HB.out) | (with_reducible refine Kd.C_alloc ?_ _) | (with_reducible refine Kd.C_drewN ?_ _) | (with_reducible refine Kd.C_drew ?_)))
                                  (case side4 => exact HC411.out)
                                  rintro e w40 ⟨v413, rfl, ho0, hb⟩
                                  refine ⟨_, rfl, ?_⟩
                                  have n0_ := Aside0.mk (Kd.N_elder' (by (with_reducible repeat (first | apply Kd.N_alloc | apply Kd.N_drewN | apply Kd.N_drew)); exact HO_10.out) (Kd.N_base ho0) hb)
                                  have n1_ := Aside0.mk (Kd.N_lower (Kd.N_mono (ok' := fun k_ => some k_ ≠ (v408 : Value).ownBlock ∧ k_ ≠ gb405) ho0 (fun k_ hk_ => ⟨(Kd.fresh' (Kd.N_lt (by (with_reducible repeat (first | apply Kd.N_alloc | apply Kd.N_drewN | apply Kd.N_drew)); exact HO_10.out)) k_ hk_), (Kd.freshB (g := gb405) (o := .cells #[.int .i64 a0_0, .slice A0_1 l0_1.length c0_1] 24 (0, 0)) (by (with_reducible repeat (first | refine blk_drewN ?_ _ | refine blk_drew ?_ | refine blk_alloc ?_ _)); exact BK405.out) k_ hk_)⟩)) (below_size (by repeat (first | (with_reducible first | exact HB.out | apply below_alloc | apply pw_below_drewN | apply below_drew1 | refine below_set ?_ GE405.out) | exact HB.out))))
                                  have n2_ := Aside0.mk (blk_below (g := gb405) (o := .cells #[.int .i64 a0_0, .slice A0_1 l0_1.length c0_1] 24 (0, 0)) (by (with_reducible repeat (first | refine blk_drewN ?_ _ | refine blk_drew ?_ | refine blk_alloc ?_ _)); exact BK405.out) hb)
                                  have n3_ := Aside0.mk (below_step (by repeat (first | (with_reducible first | exact HB.out | apply below_alloc | apply pw_below_drewN | apply below_drew1 | refine below_set ?_ GE405.out) | exact HB.out)) hb)
                                  clear HO_10
                                  clear BK405
                                  clear HB
                                  have HO_10 := n0_
                                  have HO414 := n1_
                                  have BK405 := n2_
                                  have HB := n3_
                                  clear n0_ n1_ n2_ n3_
                                  (try clear hb)
                                  (try clear hb2)
                                  (try clear hk)
                                  (try clear hi)
                                  (try clear ho0)
                                  refine hK.out _ _ ⟨(blk_cell BK405.out 0).trans rfl, (blk_cell BK405.out 1).trans rfl⟩ (fun hHeld => ?_)
                                  clear hK K
                                  refine norm_ (a' := ?_) ?_ ?_
                                  rotate_left
                                  · show Act.put _ (some 64) _ = _
                                    simp only [Act.put, List.setIfInBounds_toArray, List.set_cons_zero, List.set_cons_succ, i64_w, i32_w]
                                    rfl
                                  refine pure_ (i := 6) (N := some 58) (v := ?_) (a' := ?_) #[true, true, true, true, true, true, true, false, false, false, false] rfl rfl (any_of HT_.out (by kernel_rfl)) (fun _ _ _ h => h) (Or.inl ⟨by rfl, ?_⟩) ?_ ?_
                                  rotate_left
                                  · intro w'
                                    go_simp
                                    with_reducible rfl
                                  rotate_left
                                  · simp only [Act.put, List.setIfInBounds_toArray, List.set_cons_zero, List.set_cons_succ, i64_w, i32_w]
                                    rfl
                                  refine pure_ (i := 7) (N := some 65) (v := ?_) (a' := ?_) #[true, true, true, true, true, true, true, true, false, false, false] rfl rfl (any_of HT_.out (by kernel_rfl)) (fun _ _ _ h => h) (Or.inl ⟨by rfl, ?_⟩) ?_ ?_
                                  rotate_left
                                  · intro w'
                                    go_simp
                                    with_reducible rfl
                                  rotate_left
                                  · simp only [Act.put, List.setIfInBounds_toArray, List.set_cons_zero, List.set_cons_succ, i64_w, i32_w]
                                    rfl
                                  refine pure_ (i := 8) (N := some 66) (v := ?_) (a' := ?_) #[true, true, true, true, true, true, true, true, true, false, false] rfl rfl (any_of HT_.out (by kernel_rfl)) (fun _ _ _ h => h) (Or.inl ⟨by rfl, ?_⟩) ?_ ?_
                                  rotate_left
                                  · intro w'
                                    go_simp
                                    with_reducible rfl
                                  rotate_left
                                  · simp only [Act.put, List.setIfInBounds_toArray, List.set_cons_zero, List.set_cons_succ, i64_w, i32_w]
                                    rfl
                                  refine pure_ (i := 9) (N := some 13) (v := ?_) (a' := ?_) #[true, true, true, true, true, true, true, true, true, true, false] rfl rfl (any_of HT_.out (by kernel_rfl)) (fun _ _ _ h => h) (Or.inl ⟨by rfl, ?_⟩) ?_ ?_
                                  rotate_left
                                  · intro w'
                                    go_simp
                                    with_reducible rfl
                                  rotate_left
                                  · simp only [Act.put, List.setIfInBounds_toArray, List.set_cons_zero, List.set_cons_succ, i64_w, i32_w]
                                    rfl
                                  refine pure_ (i := 10) (N := some 14) (v := ?_) (a' := ?_) #[true, true, true, true, true, true, true, true, true, true, true] rfl rfl (any_of HT_.out (by kernel_rfl)) (fun _ _ _ h => h) (Or.inl ⟨by rfl, ?_⟩) ?_ ?_
                                  rotate_left
                                  · intro w'
                                    go_simp
                                    with_reducible rfl
                                  rotate_left
                                  · simp only [Act.put, List.setIfInBounds_toArray, List.set_cons_zero, List.set_cons_succ, i64_w, i32_w]
                                    rfl
                                  refine done_ (done_of HT_.out (by kernel_rfl)) ?_
                                  obtain ⟨Ao41, co41, eo41⟩ := Kd.N_slice HO414.out
                                  subst eo41
                                  try go_wp2_with (first | ((with_reducible refine gate_callee (f := 23) rfl ?_); refine goesL_ (some 72) rfl rfl Try.func23 (by kernel_rfl) rfl #[.slice Ao41 t412.length co41, .int .i64 t415, .int .i64 (wrap64 ((ji22) + 1))] rfl (by (try simp only [List.map_toArray, List.map_cons, List.map_nil]); first | done | (simp only [hji22]; rfl) | rfl | (simp only [List.length_drop, List.length_take]; rfl)) ?_; (with_reducible refine (chargeparklaw17_last.calls (fun k_ => (some k_ ≠ (v408 : Value).ownBlock ∧ k_ ≠ gb405)) _ _ t412 t415 (wrap64 ((ji22) + 1)) t416 t417 true _ ?side1 A26.out).mono ?_); (case side1 => exact Kd.N_V (HO414.out)); rintro e w42 ⟨v418, rfl, ho0, hb⟩; refine ⟨_, rfl, ?_⟩; have n0_ := Aside0.mk (Kd.N_below (by (with_reducible repeat (first | apply Kd.N_alloc | apply Kd.N_drewN | apply Kd.N_drew)); exact HO_10.out) hb); have n1_ := Aside0.mk (Kd.N_below (by (with_reducible repeat (first | apply Kd.N_alloc | apply Kd.N_drewN | apply Kd.N_drew)); exact HO414.out) hb); have n2_ := Aside0.mk (Kd.V_lower (Kd.V_mono (ok' := fun k_ => some k_ ≠ (v408 : Value).ownBlock ∧ k_ ≠ gb405) ho0 (fun k_ hk_ => ⟨Or.elim hk_ (fun hs_ => hs_.1) (fun hn_ => (Kd.fresh' (Kd.N_lt (by (with_reducible repeat (first | apply Kd.N_alloc | apply Kd.N_drewN | apply Kd.N_drew)); exact HO_10.out)) k_ hn_)), Or.elim hk_ (fun hs_ => hs_.2) (fun hn_ => (Kd.freshB (g := gb405) (o := .cells #[.int .i64 a0_0, .slice A0_1 l0_1.length c0_1] 24 (0, 0)) (by (with_reducible repeat (first | refine blk_drewN ?_ _ | refine blk_drew ?_ | refine blk_alloc ?_ _)); exact BK405.out) k_ hn_))⟩)) (below_size (by repeat (first | (with_reducible first | exact HB.out | apply below_alloc | apply pw_below_drewN | apply below_drew1 | refine below_set ?_ GE405.out) | exact HB.out)))); have n3_ := Aside0.mk (blk_below (g := gb405) (o := .cells #[.int .i64 a0_0, .slice A0_1 l0_1.length c0_1] 24 (0, 0)) (by (with_reducible repeat (first | refine blk_drewN ?_ _ | refine blk_drew ?_ | refine blk_alloc ?_ _)); exact BK405.out) hb); have n4_ := Aside0.mk (below_step (by repeat (first | (with_reducible first | exact HB.out | apply below_alloc | apply pw_below_drewN | apply below_drew1 | refine below_set ?_ GE405.out) | exact HB.out)) hb); clear HO_10; clear HO414; clear BK405; clear HB; have HO_10 := n0_; have HO414 := n1_; have HO419 := n2_; have BK405 := n3_; have HB := n4_; clear n0_ n1_ n2_ n3_ n4_; (try clear hb); (try clear hb2); (try clear hk); (try clear hi); (try clear ho0)) | ((with_reducible refine gate_dst (N := 15) rfl ?_); (try (refine gate_guard (by rfl) ?_; dsimp only)); refine box_event ?hg (N := 15) ?hd (cs := #[.int .i64 0, .slice none 0 0]) (t := 24) ?hr ?_; (case hd => rfl); (case hg => rfl); (case hr => first | (go_simp; done) | (go_simp; rfl)); intro gb421 hg w43 hbox hb; have n0_ := Aside0.mk (Kd.N_below (Kd.N_elderB (by (with_reducible repeat (first | apply Kd.N_alloc | apply Kd.N_drewN | apply Kd.N_drew)); exact HO_10.out) gb421 (Nat.le_of_eq hg.symm)) hb); have n1_ := Aside0.mk (Kd.N_below (Kd.N_elderB (by (with_reducible repeat (first | apply Kd.N_alloc | apply Kd.N_drewN | apply Kd.N_drew)); exact HO414.out) gb421 (Nat.le_of_eq hg.symm)) hb); have n2_ := Aside0.mk (Kd.V_below (Kd.V_elderB (by (with_reducible repeat (first | apply Kd.V_alloc | apply Kd.V_drewN | apply Kd.V_drew)); exact HO419.out) gb421 (Nat.le_of_eq hg.symm)) hb); have n3_ := Aside0.mk (blk_below (g := gb405) (o := .cells #[.int .i64 a0_0, .slice A0_1 l0_1.length c0_1] 24 (0, 0)) (by (with_reducible repeat (first | refine blk_drewN ?_ _ | refine blk_drew ?_ | refine blk_alloc ?_ _)); exact BK405.out) hb); have n4_ := Aside0.mk (below_step (by repeat (first | (with_reducible first | exact HB.out | apply below_alloc | apply pw_below_drewN | apply below_drew1 | refine below_set ?_ GE405.out) | exact HB.out)) hb); have n5_ := Aside0.mk (hbox); have n6_ := Aside0.mk ((by rw [hg]; exact (below_size (by repeat (first | (with_reducible first | exact HB.out | apply below_alloc | apply pw_below_drewN | apply below_drew1 | refine below_set ?_ GE405.out) | exact HB.out))) : w.heap.size ≤ gb421)); have n7_ := Aside0.mk ((by rw [hg]; exact (below_size (by repeat (first | (with_reducible first | exact HB.out | apply below_alloc | apply pw_below_drewN | apply below_drew1 | refine below_set ?_ GE405.out) | exact HB.out))) : w.heap.size ≤ gb421)); have n8_ := Aside0.mk ((by rw [hg]; exact Nat.ne_of_lt (blk_lt (g := gb405) (o := .cells #[.int .i64 a0_0, .slice A0_1 l0_1.length c0_1] 24 (0, 0)) (by (with_reducible repeat (first | refine blk_drewN ?_ _ | refine blk_drew ?_ | refine blk_alloc ?_ _)); exact BK405.out)) : gb405 ≠ gb421)); have n9_ := Aside0.mk ((by rw [hg]; exact Nat.ne_of_gt (blk_lt (g := gb405) (o := .cells #[.int .i64 a0_0, .slice A0_1 l0_1.length c0_1] 24 (0, 0)) (by (with_reducible repeat (first | refine blk_drewN ?_ _ | refine blk_drew ?_ | refine blk_alloc ?_ _)); exact BK405.out)) : gb421 ≠ gb405)); clear HO_10; clear HO414; clear HO419; clear BK405; clear HB; have HO_10 := n0_; have HO414 := n1_; have HO419 := n2_; have BK405 := n3_; have HB := n4_; have BK421 := n5_; have GW421 := n6_; have GE421 := n7_; have NB405_421 := n8_; have NB421_405 := n9_; clear n0_ n1_ n2_ n3_ n4_ n5_ n6_ n7_ n8_ n9_; clear hb hbox hg; have hnb44 := NB421_405.out; have hnc44 := NB405_421.out; have hcz45_0 : w43.cell? ⟨gb421, 0, none⟩ = some (.int .i64 0) := (blk_cell BK421.out 0).trans rfl; have hcz45_1 : w43.cell? ⟨gb421, 1, none⟩ = some (.slice none 0 0) := (blk_cell BK421.out 1).trans rfl; have hfz45_0 := blk_frozen BK421.out 0; have hfz45_1 := blk_frozen BK421.out 1; obtain ⟨Ao46, co46, eo46⟩ := Kd.V_slice HO419.out; subst eo46))
                                  have n0_ : Aside0 (Kd.N k24 24 ((w43.setCell ⟨gb421, 0, none⟩ (.int .i64 t416)).setCell ⟨gb421, 1, none⟩ (.slice Ao46 t417.length co46)) w.heap.size (fun k_ => some k_ ≠ (.slice Ao41 t412.length co41 : Value).ownBlock ∧ k_ ≠ gb405 ∧ k_ ≠ gb421) v408 t407) := ⟨by (with_reducible repeat (first | apply Kd.N_alloc | apply Kd.N_drewN | apply Kd.N_drew)); exact Kd.N_mono (Kd.N_far (p := ⟨gb421, 1, none⟩) (Kd.N_far (p := ⟨gb421, 0, none⟩) (Kd.N_mono HO_10.out (fun k_ hk => (⟨hk, hk.2⟩ : _ ∧ k_ ≠ gb421))) (fun _ hk => hk.2) (.int .i64 t416)) (fun _ hk => hk.2) (.slice Ao46 t417.length co46)) (fun _ hk => ⟨hk.1.1.2, ⟨hk.1.1.1, hk.1.2⟩⟩)⟩
                                  have n1_ : Aside0 (Kd.N k24 24 ((w43.setCell ⟨gb421, 0, none⟩ (.int .i64 t416)).setCell ⟨gb421, 1, none⟩ (.slice Ao46 t417.length co46)) w.heap.size (fun k_ => some k_ ≠ (v408 : Value).ownBlock ∧ k_ ≠ gb405 ∧ k_ ≠ gb421) (.slice Ao41 t412.length co41) t412) := ⟨by (with_reducible repeat (first | apply Kd.N_alloc | apply Kd.N_drewN | apply Kd.N_drew)); exact Kd.N_mono (Kd.N_far (p := ⟨gb421, 1, none⟩) (Kd.N_far (p := ⟨gb421, 0, none⟩) (Kd.N_mono HO414.out (fun k_ hk => (⟨hk, hk.2⟩ : _ ∧ k_ ≠ gb421))) (fun _ hk => hk.2) (.int .i64 t416)) (fun _ hk => hk.2) (.slice Ao46 t417.length co46)) (fun _ hk => ⟨hk.1.1.1, ⟨hk.1.1.2, hk.1.2⟩⟩)⟩
                                  have n2_ : Aside0 (Kd.V (Kd.int .u8) 5 ((w43.setCell ⟨gb421, 0, none⟩ (.int .i64 t416)).setCell ⟨gb421, 1, none⟩ (.slice Ao46 t417.length co46)) w.heap.size (fun k_ => some k_ ≠ (v408 : Value).ownBlock ∧ k_ ≠ gb405 ∧ k_ ≠ gb421) (.slice Ao46 t417.length co46) t417) := ⟨by (with_reducible repeat (first | apply Kd.V_alloc | apply Kd.V_drewN | apply Kd.V_drew)); exact Kd.V_mono (Kd.V_far (p := ⟨gb421, 1, none⟩) (Kd.V_far (p := ⟨gb421, 0, none⟩) (Kd.V_mono HO419.out (fun k_ hk => (⟨hk, hk.2⟩ : _ ∧ k_ ≠ gb421))) (fun _ hk => hk.2) (.int .i64 t416)) (fun _ hk => hk.2) (.slice Ao46 t417.length co46)) (fun _ hk => ⟨hk.1.1.1, ⟨hk.1.1.2, hk.1.2⟩⟩)⟩
                                  have n3_ : Aside0 (((w43.setCell ⟨gb421, 0, none⟩ (.int .i64 t416)).setCell ⟨gb421, 1, none⟩ (.slice Ao46 t417.length co46)).heap[gb405]? = some (.cells #[.int .i64 a0_0, .slice A0_1 l0_1.length c0_1] 24 (0, 0))) := ⟨by (with_reducible repeat (first | refine blk_drewN ?_ _ | refine blk_drew ?_ | refine blk_alloc ?_ _)); refine blk_far ?_ NB405_421.out _; (with_reducible repeat (first | refine blk_drewN ?_ _ | refine blk_drew ?_ | refine blk_alloc ?_ _)); refine blk_far ?_ NB405_421.out _; (with_reducible repeat (first | refine blk_drewN ?_ _ | refine blk_drew ?_ | refine blk_alloc ?_ _)); exact BK405.out⟩
                                  have n4_ : Aside0 (((w43.setCell ⟨gb421, 0, none⟩ (.int .i64 t416)).setCell ⟨gb421, 1, none⟩ (.slice Ao46 t417.length co46)).heap[gb421]? = some (.cells #[.int .i64 t416, .slice Ao46 t417.length co46] 24 (0, 0))) := ⟨by (with_reducible repeat (first | refine blk_drewN ?_ _ | refine blk_drew ?_ | refine blk_alloc ?_ _)); refine blk_put (cs := #[.int .i64 t416, .slice none 0 0]) ?_ 1 _ rfl; (with_reducible repeat (first | refine blk_drewN ?_ _ | refine blk_drew ?_ | refine blk_alloc ?_ _)); refine blk_put (cs := #[.int .i64 0, .slice none 0 0]) ?_ 0 _ rfl; (with_reducible repeat (first | refine blk_drewN ?_ _ | refine blk_drew ?_ | refine blk_alloc ?_ _)); exact BK421.out⟩
                                  have n5_ : Aside0 (Below w.heap.size w ((w43.setCell ⟨gb421, 0, none⟩ (.int .i64 t416)).setCell ⟨gb421, 1, none⟩ (.slice Ao46 t417.length co46))) := ⟨by repeat (first | (with_reducible first | exact HB.out | apply below_alloc | apply pw_below_drewN | apply below_drew1 | refine below_set ?_ GE405.out | refine below_set ?_ GE421.out) | exact HB.out)⟩
                                  (try clear HO_10)
                                  (try clear HO414)
                                  (try clear HO419)
                                  (try clear BK405)
                                  (try clear BK421)
                                  (try clear HB)
                                  generalize ((w43.setCell ⟨gb421, 0, none⟩ (.int .i64 t416)).setCell ⟨gb421, 1, none⟩ (.slice Ao46 t417.length co46)) = w47 at n0_ n1_ n2_ n3_ n4_ n5_ ⊢
                                  have HO_10 := n0_
                                  have HO414 := n1_
                                  have HO419 := n2_
                                  have BK405 := n3_
                                  have BK421 := n4_
                                  have HB := n5_
                                  clear n0_ n1_ n2_ n3_ n4_ n5_
                                  have n0_ := Aside0.mk (Kd.N_drew HO_10.out)
                                  have n1_ := Aside0.mk (Kd.N_drew HO414.out)
                                  have n2_ := Aside0.mk (Kd.V_drew HO419.out)
                                  have n3_ := Aside0.mk (blk_drew BK405.out)
                                  have n4_ := Aside0.mk (blk_drew BK421.out)
                                  have n5_ := Aside0.mk (below_drew1 HB.out)
                                  clear HO_10
                                  clear HO414
                                  clear HO419
                                  clear BK405
                                  clear BK421
                                  clear HB
                                  have HO_10 := n0_
                                  have HO414 := n1_
                                  have HO419 := n2_
                                  have BK405 := n3_
                                  have BK421 := n4_
                                  have HB := n5_
                                  clear n0_ n1_ n2_ n3_ n4_ n5_
                                  obtain ⟨i049, hi049, _, hsz49, _⟩ := info_parts info5
                                  obtain ⟨A49, hcut49, hA49, hC49⟩ := print_drop_of (P := Try.prog) (Value.int .u8) 0 22 5 .i64 Try.underlying22 hi049 hsz49 A2 c2 l2 (ji22) (of_decide_eq_true (by first | (with_reducible assumption) | assumption)) (of_decide_eq_true (by first | (with_reducible assumption) | assumption)) HC2.out
                                  have HR422 := Aside0.mk (Kd.C_of_reads (h1 := fun _ => rfl) (hA49 _ (Kd.reads_of_C HR2.out)))
                                  have HC422 := Aside0.mk hC49
                                  clear hA49 hC49 hi049 hsz49
                                  refine start_ (n := 13) (S := fun w' => w'.cell? ⟨gb421, 0, none⟩ = some (.int .i64 t416) ∧ w'.cell? ⟨gb421, 1, none⟩ = some (.slice Ao46 t417.length co46)) (ds := []) #[false, false, false, false, false, false, false, false, false, false, false, false, false] (by kernel_rfl) rfl rfl ⟨(blk_cell BK421.out 0).trans rfl, (blk_cell BK421.out 1).trans rfl⟩ (fun hHeld => ?_); refine with_tabW chargeparklaw17_FlashParts.tab10 chargeparklaw17_FlashParts.bits10 (fun HT_ HW_ => ?_)
                                  generalize w47.drew = w48 at HO_10 HO414 HO419 BK405 BK421 HB HR422 hHeld ⊢
                                  refine pure_ (i := 1) (N := some 77) (v := ?_) (a' := ?_) #[false, true, false, false, false, false, false, false, false, false, false, false, false] rfl rfl (any_of HT_.out (by kernel_rfl)) (fun _ _ _ h => h) (Or.inl ⟨by rfl, ?_⟩) ?_ ?_
                                  rotate_left
                                  · intro w'
                                    go_simp
                                    with_reducible rfl
                                  rotate_left
                                  · simp only [Act.put, List.setIfInBounds_toArray, List.set_cons_zero, List.set_cons_succ, i64_w, i32_w]
                                    rfl
                                  refine pure_ (i := 2) (N := some 78) (v := ?_) (a' := ?_) #[false, true, true, false, false, false, false, false, false, false, false, false, false] rfl rfl (any_of HT_.out (by kernel_rfl)) (fun _ _ _ h => h) (Or.inl ⟨by rfl, ?_⟩) ?_ ?_
                                  rotate_left
                                  · intro w'
                                    go_simp
                                    with_reducible rfl
                                  rotate_left
                                  · simp only [Act.put, List.setIfInBounds_toArray, List.set_cons_zero, List.set_cons_succ, i64_w, i32_w]
                                    rfl
                                  refine pure_ (i := 3) (N := some 79) (v := ?_) (a' := ?_) #[false, true, true, true, false, false, false, false, false, false, false, false, false] rfl rfl (any_of HT_.out (by kernel_rfl)) (fun _ _ _ h => h) (Or.inl ⟨by rfl, ?_⟩) ?_ ?_
                                  rotate_left
                                  · intro w'
                                    go_simp
                                    with_reducible rfl
                                  rotate_left
                                  · simp only [Act.put, List.setIfInBounds_toArray, List.set_cons_zero, List.set_cons_succ, i64_w, i32_w]
                                    rfl
                                  refine pure_ (i := 4) (N := some 80) (v := ?_) (a' := ?_) #[false, true, true, true, true, false, false, false, false, false, false, false, false] rfl rfl (any_of HT_.out (by kernel_rfl)) (fun _ _ _ h => h) (Or.inl ⟨by rfl, ?_⟩) ?_ ?_
                                  rotate_left
                                  · intro w'
                                    go_simp
                                    with_reducible rfl
                                  rotate_left
                                  · simp only [Act.put, List.setIfInBounds_toArray, List.set_cons_zero, List.set_cons_succ, i64_w, i32_w]
                                    rfl
                                  refine pure_ (i := 5) (N := some 81) (v := ?_) (a' := ?_) #[false, true, true, true, true, true, false, false, false, false, false, false, false] rfl rfl (any_of HT_.out (by kernel_rfl)) (fun _ _ _ h => h) (Or.inl ⟨by rfl, ?_⟩) ?_ ?_
                                  rotate_left
                                  · intro w'
                                    go_simp
                                    with_reducible rfl
                                  rotate_left
                                  · simp only [Act.put, List.setIfInBounds_toArray, List.set_cons_zero, List.set_cons_succ, i64_w, i32_w]
                                    rfl
                                  refine pure_ (i := 6) (N := some 82) (v := ?_) (a' := ?_) #[false, true, true, true, true, true, true, false, false, false, false, false, false] rfl rfl (any_of HT_.out (by kernel_rfl)) (fun _ _ _ h => h) (Or.inl ⟨by rfl, ?_⟩) ?_ ?_
                                  rotate_left
                                  · intro w'
                                    go_simp
                                    with_reducible rfl
                                  rotate_left
                                  · simp only [Act.put, List.setIfInBounds_toArray, List.set_cons_zero, List.set_cons_succ, i64_w, i32_w]
                                    rfl
                                  refine take_ (i := 0) (N := some 76) (v := ?_) (a' := ?_) #[true, true, true, true, true, true, true, false, false, false, false, false, false] rfl rfl (take_ofW HT_.out HW_.out (by kernel_rfl)) (fun _ _ _ h => h) (Or.inl ⟨by rfl, ?_⟩) hHeld ?_ ?_
                                  rotate_left
                                  · rintro w' ⟨s0, s1⟩
                                    go_simp
                                    with_reducible rfl
                                  rotate_left
                                  · simp only [Act.put, List.setIfInBounds_toArray, List.set_cons_zero, List.set_cons_succ, i64_w, i32_w]
                                    rfl
                                  refine one_ (i := 7) (N := some 83) #[true, true, true, true, true, true, true, true, false, false, false, false, false] rfl rfl (one_of HT_.out (by kernel_rfl)) (by decide) (fun K hK => ?_)
                                  refine goes_ Try.func14 (by kernel_rfl) rfl #[.agg #[.int .i64 t416, .slice Ao46 t417.length co46], .int .i64 (wrap64 (a1 + (ji22))), .slice A49 (l2.drop ((ji22) : Int).toNat).length (c2 - (ji22).toNat)] (by rfl) rfl rfl (by (try simp only [List.map_toArray, List.map_cons, List.map_nil]); first | done | (rw [show (l2.drop ((ji22) : Int).toNat).length = (l2.length - (ji22).toNat) from List.length_drop] <;> rfl) | (simp only [hji22]; rfl) | rfl | (simp only [List.length_drop, List.length_take]; rfl)) ?_
                                  with_reducible refine (flash_Program.calls t416 _ _ t417 (wrap64 (a1 + (ji22))) _ _ (l2.drop ((ji22) : Int).toNat) t423 t426 _ ?side1 ?side2 ?side3 ?side4 A29.out).mono ?_
                                  (case side1 => repeat (first | exact (Kd.V_reads' HO419.out).2.2 | (with_reducible refine Kd.C_alloc ?_ _) | (with_reducible refine Kd.C_drewN ?_ _) | (with_reducible refine Kd.C_drew ?_)))
                                  (case side2 => exact (Kd.V_reads' HO419.out).2.1)
                                  (case side3 => repeat (first | exact (Kd.C_below HR422.out HB.out) | (with_reducible refine Kd.C_alloc ?_ _) | (with_reducible refine Kd.C_drewN ?_ _) | (with_reducible refine Kd.C_drew ?_)))
                                  (case side4 => exact HC422.out)
                                  rintro e w50 ⟨v424, rfl, ho0, hb⟩
                                  refine ⟨_, rfl, ?_⟩
                                  have n0_ := Aside0.mk (Kd.N_elder' (by (with_reducible repeat (first | apply Kd.N_alloc | apply Kd.N_drewN | apply Kd.N_drew)); exact HO_10.out) (Kd.N_base ho0) hb)
                                  have n1_ := Aside0.mk (Kd.N_elder' (by (with_reducible repeat (first | apply Kd.N_alloc | apply Kd.N_drewN | apply Kd.N_drew)); exact HO414.out) (Kd.N_base ho0) hb)
                                  have n2_ := Aside0.mk (Kd.V_elder' (by (with_reducible repeat (first | apply Kd.V_alloc | apply Kd.V_drewN | apply Kd.V_drew)); exact HO419.out) (Kd.N_base ho0) hb)
                                  have n3_ := Aside0.mk (Kd.N_lower (Kd.N_mono (ok' := fun k_ => some k_ ≠ (v408 : Value).ownBlock ∧ some k_ ≠ (.slice Ao41 t412.length co41 : Value).ownBlock ∧ k_ ≠ gb405 ∧ k_ ≠ gb421) ho0 (fun k_ hk_ => ⟨(Kd.fresh' (Kd.N_lt (by (with_reducible repeat (first | apply Kd.N_alloc | apply Kd.N_drewN | apply Kd.N_drew)); exact HO_10.out)) k_ hk_), (Kd.fresh' (Kd.N_lt (by (with_reducible repeat (first | apply Kd.N_alloc | apply Kd.N_drewN | apply Kd.N_drew)); exact HO414.out)) k_ hk_), (Kd.freshB (g := gb405) (o := .cells #[.int .i64 a0_0, .slice A0_1 l0_1.length c0_1] 24 (0, 0)) (by (with_reducible repeat (first | refine blk_drewN ?_ _ | refine blk_drew ?_ | refine blk_alloc ?_ _)); exact BK405.out) k_ hk_), (Kd.freshB (g := gb421) (o := .cells #[.int .i64 t416, .slice Ao46 t417.length co46] 24 (0, 0)) (by (with_reducible repeat (first | refine blk_drewN ?_ _ | refine blk_drew ?_ | refine blk_alloc ?_ _)); exact BK421.out) k_ hk_)⟩)) (below_size (by repeat (first | (with_reducible first | exact HB.out | apply below_alloc | apply pw_below_drewN | apply below_drew1 | refine below_set ?_ GE405.out | refine below_set ?_ GE421.out) | exact HB.out))))
                                  have n4_ := Aside0.mk (blk_below (g := gb405) (o := .cells #[.int .i64 a0_0, .slice A0_1 l0_1.length c0_1] 24 (0, 0)) (by (with_reducible repeat (first | refine blk_drewN ?_ _ | refine blk_drew ?_ | refine blk_alloc ?_ _)); exact BK405.out) hb)
                                  have n5_ := Aside0.mk (blk_below (g := gb421) (o := .cells #[.int .i64 t416, .slice Ao46 t417.length co46] 24 (0, 0)) (by (with_reducible repeat (first | refine blk_drewN ?_ _ | refine blk_drew ?_ | refine blk_alloc ?_ _)); exact BK421.out) hb)
                                  have n6_ := Aside0.mk (below_step (by repeat (first | (with_reducible first | exact HB.out | apply below_alloc | apply pw_below_drewN | apply below_drew1 | refine below_set ?_ GE405.out | refine below_set ?_ GE421.out) | exact HB.out)) hb)
                                  clear HO_10
                                  clear HO414
                                  clear HO419
                                  clear BK405
                                  clear BK421
                                  clear HB
                                  have HO_10 := n0_
                                  have HO414 := n1_
                                  have HO419 := n2_
                                  have HO425 := n3_
                                  have BK405 := n4_
                                  have BK421 := n5_
                                  have HB := n6_
                                  clear n0_ n1_ n2_ n3_ n4_ n5_ n6_
                                  (try clear hb)
                                  (try clear hb2)
                                  (try clear hk)
                                  (try clear hi)
                                  (try clear ho0)
                                  refine hK.out _ _ ⟨(blk_cell BK421.out 0).trans rfl, (blk_cell BK421.out 1).trans rfl⟩ (fun hHeld => ?_)
                                  clear hK K
                                  refine norm_ (a' := ?_) ?_ ?_
                                  rotate_left
                                  · show Act.put _ (some 83) _ = _
                                    simp only [Act.put, List.setIfInBounds_toArray, List.set_cons_zero, List.set_cons_succ, i64_w, i32_w]
                                    rfl
                                  refine pure_ (i := 8) (N := some 75) (v := ?_) (a' := ?_) #[true, true, true, true, true, true, true, true, true, false, false, false, false] rfl rfl (any_of HT_.out (by kernel_rfl)) (fun _ _ _ h => h) (Or.inl ⟨by rfl, ?_⟩) ?_ ?_
                                  rotate_left
                                  · intro w'
                                    go_simp
                                    with_reducible rfl
                                  rotate_left
                                  · simp only [Act.put, List.setIfInBounds_toArray, List.set_cons_zero, List.set_cons_succ, i64_w, i32_w]
                                    rfl
                                  refine pure_ (i := 9) (N := some 84) (v := ?_) (a' := ?_) #[true, true, true, true, true, true, true, true, true, true, false, false, false] rfl rfl (any_of HT_.out (by kernel_rfl)) (fun _ _ _ h => h) (Or.inl ⟨by rfl, ?_⟩) ?_ ?_
                                  rotate_left
                                  · intro w'
                                    go_simp
                                    with_reducible rfl
                                  rotate_left
                                  · simp only [Act.put, List.setIfInBounds_toArray, List.set_cons_zero, List.set_cons_succ, i64_w, i32_w]
                                    rfl
                                  refine pure_ (i := 10) (N := some 85) (v := ?_) (a' := ?_) #[true, true, true, true, true, true, true, true, true, true, true, false, false] rfl rfl (any_of HT_.out (by kernel_rfl)) (fun _ _ _ h => h) (Or.inl ⟨by rfl, ?_⟩) ?_ ?_
                                  rotate_left
                                  · intro w'
                                    go_simp
                                    with_reducible rfl
                                  rotate_left
                                  · simp only [Act.put, List.setIfInBounds_toArray, List.set_cons_zero, List.set_cons_succ, i64_w, i32_w]
                                    rfl
                                  refine pure_ (i := 11) (N := some 17) (v := ?_) (a' := ?_) #[true, true, true, true, true, true, true, true, true, true, true, true, false] rfl rfl (any_of HT_.out (by kernel_rfl)) (fun _ _ _ h => h) (Or.inl ⟨by rfl, ?_⟩) ?_ ?_
                                  rotate_left
                                  · intro w'
                                    go_simp
                                    with_reducible rfl
                                  rotate_left
                                  · simp only [Act.put, List.setIfInBounds_toArray, List.set_cons_zero, List.set_cons_succ, i64_w, i32_w]
                                    rfl
                                  refine pure_ (i := 12) (N := some 18) (v := ?_) (a' := ?_) #[true, true, true, true, true, true, true, true, true, true, true, true, true] rfl rfl (any_of HT_.out (by kernel_rfl)) (fun _ _ _ h => h) (Or.inl ⟨by rfl, ?_⟩) ?_ ?_
                                  rotate_left
                                  · intro w'
                                    go_simp
                                    with_reducible rfl
                                  rotate_left
                                  · simp only [Act.put, List.setIfInBounds_toArray, List.set_cons_zero, List.set_cons_succ, i64_w, i32_w]
                                    rfl
                                  refine done_ (done_of HT_.out (by kernel_rfl)) ?_
                                  obtain ⟨Ao51, co51, eo51⟩ := Kd.N_slice HO425.out
                                  subst eo51
                                  try go_wp2
                                  have n0_ := Aside0.mk (Kd.N_drew HO_10.out)
                                  have n1_ := Aside0.mk (Kd.N_drew HO414.out)
                                  have n2_ := Aside0.mk (Kd.V_drew HO419.out)
                                  have n3_ := Aside0.mk (Kd.N_drew HO425.out)
                                  have n4_ := Aside0.mk (blk_drew BK405.out)
                                  have n5_ := Aside0.mk (blk_drew BK421.out)
                                  have n6_ := Aside0.mk (below_drew1 HB.out)
                                  clear HO_10
                                  clear HO414
                                  clear HO419
                                  clear HO425
                                  clear BK405
                                  clear BK421
                                  clear HB
                                  have HO_10 := n0_
                                  have HO414 := n1_
                                  have HO419 := n2_
                                  have HO425 := n3_
                                  have BK405 := n4_
                                  have BK421 := n5_
                                  have HB := n6_
                                  clear n0_ n1_ n2_ n3_ n4_ n5_ n6_
                                  have q53 : (1 : Int) ≤ ((t423.length : Int) : Int) := of_decide_eq_true (by first | (with_reducible assumption) | assumption)
                                  obtain ⟨i053, hi053, _, hsz53, _⟩ := info_parts info24
                                  have hroom53 : t423.length ≤ co51 := (Kd.N_reads' HO425.out).2.1
                                  have hC53 : Kd.F k24 _ _ Ao51 t423.length t423 := (Kd.V_at (base := w.heap.size) (Kd.N_V HO425.out)).2.2
                                  have hcut53 := cut_from (P := Try.prog) 30 24 .i64 Try.underlying30 hi053 2 hsz53 Ao51 t423.length co51 1 (by omega) q53
                                  have hr53 := Kd.F_cut (m := (1 : Int).toNat) (c := co51) hC53 (by omega) hroom53
                                  obtain ⟨A53, hA53⟩ : ∃ A1, A1 = (if co51 = (1 : Int).toNat then Ao51 else (Ao51 : Option Addr).map (·.add ((1 : Int).toNat * 2))) := ⟨_, rfl⟩
                                  obtain ⟨c53, hc53⟩ : ∃ c1, c1 = co51 - (1 : Int).toNat := ⟨_, rfl⟩
                                  have hy53 : y433.length = t423.length - (1 : Int).toNat := (by rw [Ny433.out, List.length_drop] <;> omega)
                                  rw [show (t423).drop (1 : Int).toNat = y433 from Ny433.out.symm] at hr53
                                  replace hr53 : Kd.F k24 _ _ A53 y433.length y433 := (by rw [hA53]; exact hr53)
                                  rw [← hy53, ← hA53, ← hc53] at hcut53
                                  have HO437 := Aside0.mk (show Kd.V k24 24 _ w.heap.size _ (.slice A53 y433.length c53) y433 from Kd.V_mk (by rw [hy53, hc53]; exact Nat.sub_le_sub_right hroom53 _) hr53)
                                  have HC437 := Aside0.mk (show y433.length ≤ c53 from by rw [hy53, hc53]; exact Nat.sub_le_sub_right hroom53 _)
                                  clear hr53 hC53 hroom53 hi053 hsz53 hc53
                                  have KY53 := Aside0.mk hy53
                                  have KA53 := Aside0.mk hA53
                                  clear hy53 hA53
                                  replace q53 := eq_true q53
                                  refine start_ (n := 12) (S := fun w' => True) (ds := []) #[false, false, false, false, false, false, false, false, false, false, false, false] (by kernel_rfl) rfl rfl trivial (fun hHeld => ?_); refine with_tabW chargeparklaw17_FlashParts.tab13 chargeparklaw17_FlashParts.bits13 (fun HT_ HW_ => ?_)
                                  generalize w50.drew = w52 at HO_10 HO414 HO419 HO425 BK405 BK421 HB HO437 hHeld ⊢
                                  refine pure_ (i := 0) (N := some 102) (v := ?_) (a' := ?_) #[true, false, false, false, false, false, false, false, false, false, false, false] rfl rfl (any_of HT_.out (by kernel_rfl)) (fun _ _ _ h => h) (Or.inl ⟨by rfl, ?_⟩) ?_ ?_
                                  rotate_left
                                  · intro w'
                                    go_simp
                                    with_reducible rfl
                                  rotate_left
                                  · simp only [Act.put, List.setIfInBounds_toArray, List.set_cons_zero, List.set_cons_succ, i64_w, i32_w]
                                    rfl
                                  refine pure_ (i := 1) (N := some 103) (v := ?_) (a' := ?_) #[true, true, false, false, false, false, false, false, false, false, false, false] rfl rfl (any_of HT_.out (by kernel_rfl)) (fun _ _ _ h => h) (Or.inl ⟨by rfl, ?_⟩) ?_ ?_
                                  rotate_left
                                  · intro w'
                                    go_simp
                                    with_reducible rfl
                                  rotate_left
                                  · simp only [Act.put, List.setIfInBounds_toArray, List.set_cons_zero, List.set_cons_succ, i64_w, i32_w]
                                    rfl
                                  refine pure_ (i := 2) (N := some 104) (v := ?_) (a' := ?_) #[true, true, true, false, false, false, false, false, false, false, false, false] rfl rfl (any_of HT_.out (by kernel_rfl)) (fun _ _ _ h => h) (Or.inl ⟨by rfl, ?_⟩) ?_ ?_
                                  rotate_left
                                  · intro w'
                                    go_simp
                                    with_reducible rfl
                                  rotate_left
                                  · simp only [Act.put, List.setIfInBounds_toArray, List.set_cons_zero, List.set_cons_succ, i64_w, i32_w]
                                    rfl
                                  refine pure_ (i := 4) (N := some 106) (v := ?_) (a' := ?_) #[true, true, true, false, true, false, false, false, false, false, false, false] rfl rfl (any_of HT_.out (by kernel_rfl)) (fun _ _ _ h => h) (Or.inl ⟨by rfl, ?_⟩) ?_ ?_
                                  rotate_left
                                  · intro w'
                                    go_simp
                                    with_reducible rfl
                                  rotate_left
                                  · simp only [Act.put, List.setIfInBounds_toArray, List.set_cons_zero, List.set_cons_succ, i64_w, i32_w]
                                    rfl
                                  refine pure_ (i := 6) (N := some 108) (v := ?_) (a' := ?_) #[true, true, true, false, true, false, true, false, false, false, false, false] rfl rfl (any_of HT_.out (by kernel_rfl)) (fun _ _ _ h => h) (Or.inl ⟨by rfl, ?_⟩) ?_ ?_
                                  rotate_left
                                  · intro w'
                                    go_simp
                                    with_reducible rfl
                                  rotate_left
                                  · simp only [Act.put, List.setIfInBounds_toArray, List.set_cons_zero, List.set_cons_succ, i64_w, i32_w]
                                    rfl
                                  refine pure_ (i := 7) (N := some 109) (v := ?_) (a' := ?_) #[true, true, true, false, true, false, true, true, false, false, false, false] rfl rfl (any_of HT_.out (by kernel_rfl)) (fun _ _ _ h => h) (Or.inl ⟨by rfl, ?_⟩) ?_ ?_
                                  rotate_left
                                  · intro w'
                                    go_simp
                                    with_reducible rfl
                                  rotate_left
                                  · simp only [Act.put, List.setIfInBounds_toArray, List.set_cons_zero, List.set_cons_succ, i64_w, i32_w]
                                    rfl
                                  refine one_ (i := 3) (N := some 105) #[true, true, true, true, true, false, true, true, false, false, false, false] rfl rfl (one_of HT_.out (by kernel_rfl)) (by decide) (fun K hK => ?_)
                                  refine Kd.N_lit_step k24 _ 24 ?hg (N' := 105) ?hd (xs := ([] : List (S24))) (inner := []) (ok := (fun k_ => some k_ ≠ (v408 : Value).ownBlock ∧ some k_ ≠ (.slice Ao41 t412.length co41 : Value).ownBlock ∧ some k_ ≠ (.slice Ao51 t423.length co51 : Value).ownBlock ∧ k_ ≠ gb405 ∧ k_ ≠ gb421)) (okp := (fun k_ => some k_ ≠ (v408 : Value).ownBlock ∧ some k_ ≠ (.slice Ao41 t412.length co41 : Value).ownBlock ∧ some k_ ≠ (.slice Ao51 t423.length co51 : Value).ownBlock ∧ k_ ≠ gb405 ∧ k_ ≠ gb421)) ?hr ?hp (fun _ hk => hk) ((show ∀ k_, w52.heap.size ≤ k_ → (fun k_ => some k_ ≠ (v408 : Value).ownBlock ∧ some k_ ≠ (.slice Ao41 t412.length co41 : Value).ownBlock ∧ some k_ ≠ (.slice Ao51 t423.length co51 : Value).ownBlock ∧ k_ ≠ gb405 ∧ k_ ≠ gb421) k_ from fun k_ hk => ⟨Kd.fresh' (Kd.N_lt (by (with_reducible repeat (first | apply Kd.N_alloc | apply Kd.N_drewN | apply Kd.N_drew)); exact HO_10.out)) k_ hk, Kd.fresh' (Kd.N_lt (by (with_reducible repeat (first | apply Kd.N_alloc | apply Kd.N_drewN | apply Kd.N_drew)); exact HO414.out)) k_ hk, Kd.fresh' (Kd.N_lt (by (with_reducible repeat (first | apply Kd.N_alloc | apply Kd.N_drewN | apply Kd.N_drew)); exact HO425.out)) k_ hk, Kd.freshB (g := gb405) (o := .cells #[.int .i64 a0_0, .slice A0_1 l0_1.length c0_1] 24 (0, 0)) (by (with_reducible repeat (first | refine blk_drewN ?_ _ | refine blk_drew ?_ | refine blk_alloc ?_ _)); exact BK405.out) k_ hk, Kd.freshB (g := gb421) (o := .cells #[.int .i64 t416, .slice Ao46 t417.length co46] 24 (0, 0)) (by (with_reducible repeat (first | refine blk_drewN ?_ _ | refine blk_drew ?_ | refine blk_alloc ?_ _)); exact BK421.out) k_ hk⟩) _ (Nat.le_refl _)) (Below.refl _ _) (Nat.le_refl _) (by simp) ?_; (case hd => rfl); (case hg => rfl); (case hr => first | (go_simp; done) | (go_simp; rfl)); (case hp => exact (Reps.none _ _))
                                  intro v428 w54 ho55 hb hg_ hnew_
                                  clear hg_ hnew_
                                  (first | rw [← Ny427.out] at ho55 | (simp only [Int.reduceToNat] at ho55; rw [← Ny427.out] at ho55))
                                  have n0_ := Aside0.mk (Kd.N_elder' (by (with_reducible repeat (first | apply Kd.N_alloc | apply Kd.N_drewN | apply Kd.N_drew)); exact HO_10.out) (Kd.N_base ho55) hb)
                                  have n1_ := Aside0.mk (Kd.N_elder' (by (with_reducible repeat (first | apply Kd.N_alloc | apply Kd.N_drewN | apply Kd.N_drew)); exact HO414.out) (Kd.N_base ho55) hb)
                                  have n2_ := Aside0.mk (Kd.V_elder' (by (with_reducible repeat (first | apply Kd.V_alloc | apply Kd.V_drewN | apply Kd.V_drew)); exact HO419.out) (Kd.N_base ho55) hb)
                                  have n3_ := Aside0.mk (Kd.N_elder' (by (with_reducible repeat (first | apply Kd.N_alloc | apply Kd.N_drewN | apply Kd.N_drew)); exact HO425.out) (Kd.N_base ho55) hb)
                                  have n4_ := Aside0.mk (Kd.V_elder' (by (with_reducible repeat (first | apply Kd.V_alloc | apply Kd.V_drewN | apply Kd.V_drew)); exact HO437.out) (Kd.N_base ho55) hb)
                                  have n5_ := Aside0.mk (Kd.N_lower ho55 (below_size (by repeat (first | (with_reducible first | exact HB.out | apply below_alloc | apply pw_below_drewN | apply below_drew1 | refine below_set ?_ GE405.out | refine below_set ?_ GE421.out) | exact HB.out))))
                                  have n6_ := Aside0.mk (blk_below (g := gb405) (o := .cells #[.int .i64 a0_0, .slice A0_1 l0_1.length c0_1] 24 (0, 0)) (by (with_reducible repeat (first | refine blk_drewN ?_ _ | refine blk_drew ?_ | refine blk_alloc ?_ _)); exact BK405.out) hb)
                                  have n7_ := Aside0.mk (blk_below (g := gb421) (o := .cells #[.int .i64 t416, .slice Ao46 t417.length co46] 24 (0, 0)) (by (with_reducible repeat (first | refine blk_drewN ?_ _ | refine blk_drew ?_ | refine blk_alloc ?_ _)); exact BK421.out) hb)
                                  have n8_ := Aside0.mk (below_step (by repeat (first | (with_reducible first | exact HB.out | apply below_alloc | apply pw_below_drewN | apply below_drew1 | refine below_set ?_ GE405.out | refine below_set ?_ GE421.out) | exact HB.out)) hb)
                                  clear HO_10
                                  clear HO414
                                  clear HO419
                                  clear HO425
                                  clear HO437
                                  clear BK405
                                  clear BK421
                                  clear HB
                                  have HO_10 := n0_
                                  have HO414 := n1_
                                  have HO419 := n2_
                                  have HO425 := n3_
                                  have HO437 := n4_
                                  have HO429 := n5_
                                  have BK405 := n6_
                                  have BK421 := n7_
                                  have HB := n8_
                                  clear n0_ n1_ n2_ n3_ n4_ n5_ n6_ n7_ n8_
                                  clear hb ho55
                                  refine hK.out _ _ trivial (fun hHeld => ?_)
                                  clear hK K
                                  refine norm_ (a' := ?_) ?_ ?_
                                  rotate_left
                                  · show Act.put _ (some 105) _ = _
                                    simp only [Act.put, List.setIfInBounds_toArray, List.set_cons_zero, List.set_cons_succ, i64_w, i32_w]
                                    rfl
                                  refine one_ (i := 5) (N := some 107) #[true, true, true, true, true, true, true, true, false, false, false, false] rfl rfl (one_of HT_.out (by kernel_rfl)) (by decide) (fun K hK => ?_)
                                  refine Kd.N_append_rows_step k24 (w0 := w) w.heap.size (by rfl) (.tmp 105) (.tmp 106) 30 24 (.agg #[(.int .i64 0), (.slice none 0 0)]) 32 rfl Try.underlying30 info24 rfl (by decide) (by omega) v428 y427 t412 _ _ _ (fun k_ => some k_ ≠ (v408 : Value).ownBlock ∧ some k_ ≠ (.slice Ao51 t423.length co51 : Value).ownBlock ∧ k_ ≠ gb405 ∧ k_ ≠ gb421) (fun k_ => ((fun k_ => some k_ ≠ (v408 : Value).ownBlock ∧ some k_ ≠ (.slice Ao51 t423.length co51 : Value).ownBlock ∧ k_ ≠ gb405 ∧ k_ ≠ gb421)) k_ ∧ some k_ ≠ (v428 : Value).ownBlock) rfl rfl ?aO ?aR (fun _ hk => hk) ?aF ?aB ?aS ?aL ?_
                                  (case aR => exact (by skip; exact Kd.N_F (Kd.N_mono (ok' := (fun k_ => ((fun k_ => some k_ ≠ (v408 : Value).ownBlock ∧ some k_ ≠ (.slice Ao51 t423.length co51 : Value).ownBlock ∧ k_ ≠ gb405 ∧ k_ ≠ gb421)) k_ ∧ some k_ ≠ (v428 : Value).ownBlock)) (HO414.out) (fun k_ hk => ⟨⟨hk.1.1.1, ⟨hk.1.2, ⟨hk.1.1.2.1, hk.1.1.2.2⟩⟩⟩, hk.2⟩))))
                                  (case aB => exact (by repeat (first | (with_reducible first | exact HB.out | apply below_alloc | apply pw_below_drewN | apply below_drew1 | refine below_set ?_ GE405.out | refine below_set ?_ GE421.out) | exact HB.out)))
                                  (case aF => exact (fun k_ hk => ⟨Kd.fresh' (Kd.N_lt (by (with_reducible repeat (first | apply Kd.N_alloc | apply Kd.N_drewN | apply Kd.N_drew)); exact HO_10.out)) k_ hk, Kd.fresh' (Kd.N_lt (by (with_reducible repeat (first | apply Kd.N_alloc | apply Kd.N_drewN | apply Kd.N_drew)); exact HO425.out)) k_ hk, Kd.freshB (g := gb405) (o := .cells #[.int .i64 a0_0, .slice A0_1 l0_1.length c0_1] 24 (0, 0)) (by (with_reducible repeat (first | refine blk_drewN ?_ _ | refine blk_drew ?_ | refine blk_alloc ?_ _)); exact BK405.out) k_ hk, Kd.freshB (g := gb421) (o := .cells #[.int .i64 t416, .slice Ao46 t417.length co46] 24 (0, 0)) (by (with_reducible repeat (first | refine blk_drewN ?_ _ | refine blk_drew ?_ | refine blk_alloc ?_ _)); exact BK421.out) k_ hk⟩))
                                  (case aO => exact (by (with_reducible repeat (first | apply Kd.N_alloc | apply Kd.N_drewN | apply Kd.N_drew)); exact Kd.N_mono HO429.out (fun _ hk => ⟨hk.1, ⟨hk.2.2.1, ⟨hk.2.2.2.1, hk.2.2.2.2⟩⟩⟩)))
                                  (case aS => exact (below_size (by repeat (first | (with_reducible first | exact HB.out | apply below_alloc | apply pw_below_drewN | apply below_drew1 | refine below_set ?_ GE405.out | refine below_set ?_ GE421.out) | exact HB.out))))
                                  (case aL => have := LMc34.out; omega)
                                  intro v431 w56 ho hb hg hat
                                  rw [← Ny430.out] at ho
                                  have n0_ := Aside0.mk (Kd.N_afterv (ok := (fun k_ => some k_ ≠ (.slice Ao41 t412.length co41 : Value).ownBlock ∧ some k_ ≠ (.slice Ao51 t423.length co51 : Value).ownBlock ∧ k_ ≠ gb405 ∧ k_ ≠ gb421)) (by (with_reducible repeat (first | apply Kd.N_alloc | apply Kd.N_drewN | apply Kd.N_drew)); exact Kd.N_mono HO_10.out (fun _ hk => ⟨⟨hk.1.1.1, ⟨hk.1.2, ⟨hk.1.1.2.1, hk.1.1.2.2⟩⟩⟩, hk.2⟩)) hg hat)
                                  have n1_ := Aside0.mk (blk_grown (g := gb405) (o := .cells #[.int .i64 a0_0, .slice A0_1 l0_1.length c0_1] 24 (0, 0)) (by (with_reducible repeat (first | refine blk_drewN ?_ _ | refine blk_drew ?_ | refine blk_alloc ?_ _)); exact BK405.out) hg (Kd.N_away HO429.out (fun _ hk => hk.2.2.2.1)))
                                  have n2_ := Aside0.mk (Kd.N_afterv (ok := (fun k_ => some k_ ≠ (v408 : Value).ownBlock ∧ some k_ ≠ (.slice Ao51 t423.length co51 : Value).ownBlock ∧ k_ ≠ gb405 ∧ k_ ≠ gb421)) (by (with_reducible repeat (first | apply Kd.N_alloc | apply Kd.N_drewN | apply Kd.N_drew)); exact Kd.N_mono HO414.out (fun _ hk => ⟨⟨hk.1.1.1, ⟨hk.1.2, ⟨hk.1.1.2.1, hk.1.1.2.2⟩⟩⟩, hk.2⟩)) hg hat)
                                  have n3_ := Aside0.mk (Kd.V_afterv (ok := (fun k_ => some k_ ≠ (v408 : Value).ownBlock ∧ some k_ ≠ (.slice Ao51 t423.length co51 : Value).ownBlock ∧ k_ ≠ gb405 ∧ k_ ≠ gb421)) (by (with_reducible repeat (first | apply Kd.V_alloc | apply Kd.V_drewN | apply Kd.V_drew)); exact Kd.V_mono HO419.out (fun _ hk => ⟨⟨hk.1.1.1, ⟨hk.1.2, ⟨hk.1.1.2.1, hk.1.1.2.2⟩⟩⟩, hk.2⟩)) hg hat)
                                  have n4_ := Aside0.mk (blk_grown (g := gb421) (o := .cells #[.int .i64 t416, .slice Ao46 t417.length co46] 24 (0, 0)) (by (with_reducible repeat (first | refine blk_drewN ?_ _ | refine blk_drew ?_ | refine blk_alloc ?_ _)); exact BK421.out) hg (Kd.N_away HO429.out (fun _ hk => hk.2.2.2.2)))
                                  have n5_ := Aside0.mk (Kd.N_afterv (ok := (fun k_ => some k_ ≠ (v408 : Value).ownBlock ∧ some k_ ≠ (.slice Ao41 t412.length co41 : Value).ownBlock ∧ k_ ≠ gb405 ∧ k_ ≠ gb421)) (by (with_reducible repeat (first | apply Kd.N_alloc | apply Kd.N_drewN | apply Kd.N_drew)); exact HO425.out) hg hat)
                                  have n6_ := Aside0.mk (Kd.V_afterv (ok := (fun k_ => some k_ ≠ (v408 : Value).ownBlock ∧ some k_ ≠ (.slice Ao41 t412.length co41 : Value).ownBlock ∧ k_ ≠ gb405 ∧ k_ ≠ gb421)) (by (with_reducible repeat (first | apply Kd.V_alloc | apply Kd.V_drewN | apply Kd.V_drew)); exact HO437.out) hg hat)
                                  have n7_ := Aside0.mk (hb)
                                  have n8_ := Aside0.mk (ho)
                                  clear HO_10
                                  clear BK405
                                  clear HO414
                                  clear HO419
                                  clear BK421
                                  clear HO425
                                  clear HO437
                                  clear HB
                                  clear HO429
                                  have HO_10 := n0_
                                  have BK405 := n1_
                                  have HO414 := n2_
                                  have HO419 := n3_
                                  have BK421 := n4_
                                  have HO425 := n5_
                                  have HO437 := n6_
                                  have HB := n7_
                                  have HO432 := n8_
                                  clear n0_ n1_ n2_ n3_ n4_ n5_ n6_ n7_ n8_
                                  clear ho hb hg hat
                                  refine hK.out _ _ trivial (fun hHeld => ?_)
                                  clear hK K
                                  refine norm_ (a' := ?_) ?_ ?_
                                  rotate_left
                                  · show Act.put _ (some 107) _ = _
                                    simp only [Act.put, List.setIfInBounds_toArray, List.set_cons_zero, List.set_cons_succ, i64_w, i32_w]
                                    rfl
                                  refine one_ (i := 8) (N := some 110) #[true, true, true, true, true, true, true, true, true, false, false, false] rfl rfl (one_of HT_.out (by kernel_rfl)) (by decide) (fun K hK => ?_)
                                  refine Kd.N_append_rows_step k24 (w0 := w) w.heap.size (by rfl) (.tmp 107) (.tmp 109) 30 24 (.agg #[(.int .i64 0), (.slice none 0 0)]) 32 rfl Try.underlying30 info24 rfl (by decide) (by omega) v431 y430 y433 _ _ _ (fun k_ => some k_ ≠ (v408 : Value).ownBlock ∧ k_ ≠ gb405 ∧ k_ ≠ gb421) (fun k_ => ((fun k_ => some k_ ≠ (v408 : Value).ownBlock ∧ k_ ≠ gb405 ∧ k_ ≠ gb421)) k_ ∧ some k_ ≠ (v431 : Value).ownBlock) rfl rfl ?aO ?aR (fun _ hk => hk) ?aF ?aB ?aS ?aL ?_
                                  (case aR => exact (by skip; exact Kd.V_F (Kd.V_mono (ok' := (fun k_ => ((fun k_ => some k_ ≠ (v408 : Value).ownBlock ∧ k_ ≠ gb405 ∧ k_ ≠ gb421)) k_ ∧ some k_ ≠ (v431 : Value).ownBlock)) (HO437.out) (fun k_ hk => ⟨⟨hk.1.1, ⟨hk.1.2.2.1, hk.1.2.2.2⟩⟩, hk.2⟩))))
                                  (case aB => exact (by repeat (first | (with_reducible first | exact HB.out | apply below_alloc | apply pw_below_drewN | apply below_drew1 | refine below_set ?_ GE405.out | refine below_set ?_ GE421.out) | exact HB.out)))
                                  (case aF => exact (fun k_ hk => ⟨Kd.fresh' (Kd.N_lt (by (with_reducible repeat (first | apply Kd.N_alloc | apply Kd.N_drewN | apply Kd.N_drew)); exact HO_10.out)) k_ hk, Kd.freshB (g := gb405) (o := .cells #[.int .i64 a0_0, .slice A0_1 l0_1.length c0_1] 24 (0, 0)) (by (with_reducible repeat (first | refine blk_drewN ?_ _ | refine blk_drew ?_ | refine blk_alloc ?_ _)); exact BK405.out) k_ hk, Kd.freshB (g := gb421) (o := .cells #[.int .i64 t416, .slice Ao46 t417.length co46] 24 (0, 0)) (by (with_reducible repeat (first | refine blk_drewN ?_ _ | refine blk_drew ?_ | refine blk_alloc ?_ _)); exact BK421.out) k_ hk⟩))
                                  (case aO => exact (by (with_reducible repeat (first | apply Kd.N_alloc | apply Kd.N_drewN | apply Kd.N_drew)); exact Kd.N_mono HO432.out (fun _ hk => ⟨hk.1, ⟨hk.2.2.1, hk.2.2.2⟩⟩)))
                                  (case aS => exact (below_size (by repeat (first | (with_reducible first | exact HB.out | apply below_alloc | apply pw_below_drewN | apply below_drew1 | refine below_set ?_ GE405.out | refine below_set ?_ GE421.out) | exact HB.out))))
                                  (case aL => have := LMc36.out; omega)
                                  intro v439 w57 ho hb hg hat
                                  rw [← Ny438.out] at ho
                                  have n0_ := Aside0.mk (Kd.N_afterv (ok := (fun k_ => some k_ ≠ (.slice Ao41 t412.length co41 : Value).ownBlock ∧ some k_ ≠ (.slice Ao51 t423.length co51 : Value).ownBlock ∧ k_ ≠ gb405 ∧ k_ ≠ gb421)) (by (with_reducible repeat (first | apply Kd.N_alloc | apply Kd.N_drewN | apply Kd.N_drew)); exact HO_10.out) hg hat)
                                  have n1_ := Aside0.mk (blk_grown (g := gb405) (o := .cells #[.int .i64 a0_0, .slice A0_1 l0_1.length c0_1] 24 (0, 0)) (by (with_reducible repeat (first | refine blk_drewN ?_ _ | refine blk_drew ?_ | refine blk_alloc ?_ _)); exact BK405.out) hg (Kd.N_away HO432.out (fun _ hk => hk.2.2.1)))
                                  have n2_ := Aside0.mk (Kd.N_afterv (ok := (fun k_ => some k_ ≠ (v408 : Value).ownBlock ∧ some k_ ≠ (.slice Ao51 t423.length co51 : Value).ownBlock ∧ k_ ≠ gb405 ∧ k_ ≠ gb421)) (by (with_reducible repeat (first | apply Kd.N_alloc | apply Kd.N_drewN | apply Kd.N_drew)); exact HO414.out) hg hat)
                                  have n3_ := Aside0.mk (Kd.V_afterv (ok := (fun k_ => some k_ ≠ (v408 : Value).ownBlock ∧ some k_ ≠ (.slice Ao51 t423.length co51 : Value).ownBlock ∧ k_ ≠ gb405 ∧ k_ ≠ gb421)) (by (with_reducible repeat (first | apply Kd.V_alloc | apply Kd.V_drewN | apply Kd.V_drew)); exact HO419.out) hg hat)
                                  have n4_ := Aside0.mk (blk_grown (g := gb421) (o := .cells #[.int .i64 t416, .slice Ao46 t417.length co46] 24 (0, 0)) (by (with_reducible repeat (first | refine blk_drewN ?_ _ | refine blk_drew ?_ | refine blk_alloc ?_ _)); exact BK421.out) hg (Kd.N_away HO432.out (fun _ hk => hk.2.2.2)))
                                  have n5_ := Aside0.mk (Kd.N_afterv (ok := (fun k_ => some k_ ≠ (v408 : Value).ownBlock ∧ some k_ ≠ (.slice Ao41 t412.length co41 : Value).ownBlock ∧ k_ ≠ gb405 ∧ k_ ≠ gb421)) (by (with_reducible repeat (first | apply Kd.N_alloc | apply Kd.N_drewN | apply Kd.N_drew)); exact HO425.out) hg hat)
                                  have n6_ := Aside0.mk (Kd.V_afterv (ok := (fun k_ => some k_ ≠ (v408 : Value).ownBlock ∧ some k_ ≠ (.slice Ao41 t412.length co41 : Value).ownBlock ∧ k_ ≠ gb405 ∧ k_ ≠ gb421)) (by (with_reducible repeat (first | apply Kd.V_alloc | apply Kd.V_drewN | apply Kd.V_drew)); exact HO437.out) hg hat)
                                  have n7_ := Aside0.mk (hb)
                                  have n8_ := Aside0.mk (ho)
                                  clear HO_10
                                  clear BK405
                                  clear HO414
                                  clear HO419
                                  clear BK421
                                  clear HO425
                                  clear HO437
                                  clear HB
                                  clear HO432
                                  have HO_10 := n0_
                                  have BK405 := n1_
                                  have HO414 := n2_
                                  have HO419 := n3_
                                  have BK421 := n4_
                                  have HO425 := n5_
                                  have HO437 := n6_
                                  have HB := n7_
                                  have HO440 := n8_
                                  clear n0_ n1_ n2_ n3_ n4_ n5_ n6_ n7_ n8_
                                  clear ho hb hg hat
                                  obtain ⟨Ao58, co58, eo58⟩ := Kd.N_slice HO_10.out
                                  (first | subst eo58 | (injection eo58 with f1_ f2_ f3_; have f4_ := f1_.symm; have f5_ := f3_.symm; clear f1_ f2_ f3_; subst f4_; subst f5_))
                                  obtain ⟨Ao59, co59, eo59⟩ := Kd.N_slice HO440.out
                                  (first | subst eo59 | (injection eo59 with f1_ f2_ f3_; have f4_ := f1_.symm; have f5_ := f3_.symm; clear f1_ f2_ f3_; subst f4_; subst f5_))
                                  refine hK.out _ _ trivial (fun hHeld => ?_)
                                  clear hK K
                                  refine norm_ (a' := ?_) ?_ ?_
                                  rotate_left
                                  · show Act.put _ (some 110) _ = _
                                    simp only [Act.put, List.setIfInBounds_toArray, List.set_cons_zero, List.set_cons_succ, i64_w, i32_w]
                                    rfl
                                  refine one_ (i := 9) (N := some 111) #[true, true, true, true, true, true, true, true, true, true, false, false] rfl rfl (one_of HT_.out (by kernel_rfl)) (by decide) (fun K hK => ?_)
                                  refine goes_ Try.func20 (by kernel_rfl) rfl #[.slice Ao58 t407.length co58, .slice Ao59 y438.length co59] (by rfl) rfl rfl (by (try simp only [List.map_toArray, List.map_cons, List.map_nil]); first | done | rfl | (simp only [List.length_drop, List.length_take]; rfl)) ?_
                                  with_reducible refine (chargeparkref17_SameList.calls kj13 _ _ t407 _ _ y438 t441 _ ?side1 ?side2 ?side3 ?side4 A37.out).mono ?_
                                  (case side1 => repeat (first | exact (Kd.N_reads' HO_10.out).2.2 | (with_reducible refine Kd.C_alloc ?_ _) | (with_reducible refine Kd.C_drewN ?_ _) | (with_reducible refine Kd.C_drew ?_)))
                                  (case side2 => exact (Kd.N_reads' HO_10.out).2.1)
                                  (case side3 => repeat (first | exact (Kd.N_reads' HO440.out).2.2 | (with_reducible refine Kd.C_alloc ?_ _) | (with_reducible refine Kd.C_drewN ?_ _) | (with_reducible refine Kd.C_drew ?_)))
                                  (case side4 => exact (Kd.N_reads' HO440.out).2.1)
                                  rintro e w60 ⟨rfl, hb⟩
                                  refine ⟨_, rfl, ?_⟩
                                  have n0_ := Aside0.mk (Kd.N_below (by (with_reducible repeat (first | apply Kd.N_alloc | apply Kd.N_drewN | apply Kd.N_drew)); exact HO_10.out) hb)
                                  have n1_ := Aside0.mk (Kd.N_below (by (with_reducible repeat (first | apply Kd.N_alloc | apply Kd.N_drewN | apply Kd.N_drew)); exact HO414.out) hb)
                                  have n2_ := Aside0.mk (Kd.V_below (by (with_reducible repeat (first | apply Kd.V_alloc | apply Kd.V_drewN | apply Kd.V_drew)); exact HO419.out) hb)
                                  have n3_ := Aside0.mk (Kd.N_below (by (with_reducible repeat (first | apply Kd.N_alloc | apply Kd.N_drewN | apply Kd.N_drew)); exact HO425.out) hb)
                                  have n4_ := Aside0.mk (Kd.V_below (by (with_reducible repeat (first | apply Kd.V_alloc | apply Kd.V_drewN | apply Kd.V_drew)); exact HO437.out) hb)
                                  have n5_ := Aside0.mk (Kd.N_below (by (with_reducible repeat (first | apply Kd.N_alloc | apply Kd.N_drewN | apply Kd.N_drew)); exact HO440.out) hb)
                                  have n6_ := Aside0.mk (blk_below (g := gb405) (o := .cells #[.int .i64 a0_0, .slice A0_1 l0_1.length c0_1] 24 (0, 0)) (by (with_reducible repeat (first | refine blk_drewN ?_ _ | refine blk_drew ?_ | refine blk_alloc ?_ _)); exact BK405.out) hb)
                                  have n7_ := Aside0.mk (blk_below (g := gb421) (o := .cells #[.int .i64 t416, .slice Ao46 t417.length co46] 24 (0, 0)) (by (with_reducible repeat (first | refine blk_drewN ?_ _ | refine blk_drew ?_ | refine blk_alloc ?_ _)); exact BK421.out) hb)
                                  have n8_ := Aside0.mk (below_step (by repeat (first | (with_reducible first | exact HB.out | apply below_alloc | apply pw_below_drewN | apply below_drew1 | refine below_set ?_ GE405.out | refine below_set ?_ GE421.out) | exact HB.out)) hb)
                                  clear HO_10
                                  clear HO414
                                  clear HO419
                                  clear HO425
                                  clear HO437
                                  clear HO440
                                  clear BK405
                                  clear BK421
                                  clear HB
                                  have HO_10 := n0_
                                  have HO414 := n1_
                                  have HO419 := n2_
                                  have HO425 := n3_
                                  have HO437 := n4_
                                  have HO440 := n5_
                                  have BK405 := n6_
                                  have BK421 := n7_
                                  have HB := n8_
                                  clear n0_ n1_ n2_ n3_ n4_ n5_ n6_ n7_ n8_
                                  (try clear hb)
                                  (try clear hb2)
                                  (try clear hk)
                                  (try clear hi)
                                  refine hK.out _ _ trivial (fun hHeld => ?_)
                                  clear hK K
                                  refine norm_ (a' := ?_) ?_ ?_
                                  rotate_left
                                  · show Act.put _ (some 111) _ = _
                                    simp only [Act.put, List.setIfInBounds_toArray, List.set_cons_zero, List.set_cons_succ, i64_w, i32_w]
                                    rfl
                                  refine pure_ (i := 10) (N := some 112) (v := ?_) (a' := ?_) #[true, true, true, true, true, true, true, true, true, true, true, false] rfl rfl (any_of HT_.out (by kernel_rfl)) (fun _ _ _ h => h) (Or.inl ⟨by rfl, ?_⟩) ?_ ?_
                                  rotate_left
                                  · intro w'
                                    go_simp
                                    with_reducible rfl
                                  rotate_left
                                  · simp only [Act.put, List.setIfInBounds_toArray, List.set_cons_zero, List.set_cons_succ, i64_w, i32_w]
                                    rfl
                                  refine pure_ (i := 11) (N := some 8) (v := ?_) (a' := ?_) #[true, true, true, true, true, true, true, true, true, true, true, true] rfl rfl (any_of HT_.out (by kernel_rfl)) (fun _ _ _ h => h) (Or.inl ⟨by rfl, ?_⟩) ?_ ?_
                                  rotate_left
                                  · intro w'
                                    go_simp
                                    with_reducible rfl
                                  rotate_left
                                  · simp only [Act.put, List.setIfInBounds_toArray, List.set_cons_zero, List.set_cons_succ, i64_w, i32_w]
                                    rfl
                                  refine done_ (done_of HT_.out (by kernel_rfl)) ?_
                                  try go_wp2
                                  go_ret
                                  exact ⟨by first | rfl | (simp [errW_none, errW_some] <;> rfl) | (simp only [← hji22]; first | rfl | (simp [errW_none, errW_some] <;> rfl)) | (simp [*, errW_none, errW_some] <;> rfl) | (rw [Int.tmod_eq_emod_of_nonneg (Int.natCast_nonneg _)]; rfl), by repeat (first | (with_reducible first | exact HB.out | apply below_alloc | apply pw_below_drewN | apply below_drew1 | refine below_set ?_ GE405.out | refine below_set ?_ GE421.out) | exact HB.out)⟩
                                · rw [if_neg c36] at H
                                  exact absurd H (by simp)
                              · rw [if_neg c35] at H
                                exact absurd H (by simp)
                            · rw [if_neg c34] at H
                              exact absurd H (by simp)
                          · replace c33 := Bool.eq_false_iff.mpr c33
                            subst c33
                            have H1 : (none) = some r := by rw [if_neg (show ¬ (false = true) by decide)] at H; exact H
                            clear H
                            have H := H1
                            clear H1
                            exact absurd H (by simp)
                        · rw [if_neg c32] at H
                          exact absurd H (by simp)
                      · rw [if_neg c31] at H
                        exact absurd H (by simp)
                    · replace c30 := Bool.eq_false_iff.mpr c30
                      subst c30
                      have H1 : (none) = some r := by rw [if_neg (show ¬ (false = true) by decide)] at H; exact H
                      clear H
                      have H := H1
                      clear H1
                      exact absurd H (by simp)
                  · rw [if_neg c24] at H
                    exact absurd H (by simp)
                · rw [if_neg c23] at H
                  exact absurd H (by simp)

/-- THE ONE PURE STATEMENT of chargeparklaw17_FlashParts: yours. -/
def chargeparklaw17_FlashParts.Pure : Prop := ∀ (a0 : S24) (a1 : Int) (l2 : List Int) (a3 : Int), ok24 a0 → (Lit.int .i64 a1).wf = true → l2.length ≤ maxLen → l2.length * 1 ≤ 140737488351232 → (∀ x ∈ l2, (Lit.int .u8 x).wf = true) → (Lit.int .u16 a3).wf = true → ∃ k, chargeparklaw17_FlashParts.f k a0.f0 a0.f1 a1 l2 a3 = some true
theorem chargeparklaw17_FlashParts.walk (P : chargeparklaw17_FlashParts.Pure) (a0 : S24) (A0_1 : Option Addr) (c0_1 : Nat) (a1 : Int) (a2 : Option Addr) (len2 cap2 : Nat) (z2 : List Int) (a3 : Int) (w : World) (ho0 : ok24 a0) (hC0_1 : Kd.C (Kd.int .u8) w A0_1 a0.f1.length a0.f1) (hc0_1 : a0.f1.length ≤ c0_1) (w1 : (Lit.int .i64 a1).wf = true) (w2 : (a2 = none ∧ len2 = 0 ∧ cap2 = 0 ∧ z2 = []) ∨ ∃ x, a2 = some x ∧ len2 ≤ cap2 ∧ cap2 ≤ maxLen ∧ z2.length = cap2 ∧ (∀ i, i < z2.length → w.cell? (x.add i) = some (.int .u8 (z2.getD i 0))) ∧ ∀ n ∈ z2, (Lit.int .u8 n).wf = true) (y2 : len2 * 1 ≤ 140737488351232) (w3 : (Lit.int .u16 a3).wf = true) :
    Calls Try.prog 9 #[.agg #[.int .i64 a0.f0, .slice A0_1 a0.f1.length c0_1], .int .i64 a1, .slice a2 len2 cap2, .int .u16 a3] w fun e w' => e = .returned (.bool true) ∧ Below w.heap.size w w' := by
  obtain ⟨l2, rfl, hr2, hm2, hw2, hc2⟩ := ReadsInt.ofRowC w2
  obtain ⟨k, h⟩ := P a0 a1 l2 a3 ho0 w1 hm2 y2 hw2 w3
  refine (chargeparklaw17_FlashParts.calls k a0.f0 _ _ a0.f1 a1 _ _ l2 a3 true w hC0_1 hc0_1 (Kd.C_of_reads (d := (0 : Int)) (h1 := fun _ => rfl) hr2) hc2 h).mono ?_
  rintro e w' ⟨rfl, hd⟩
  exact ⟨rfl, hd⟩


end Go.Proofs.Ytdblbilgnfomaaa.PAll
