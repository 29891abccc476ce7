-- Written by a program of this session (xprint.py, over the kit's print.py), with contracts proved by hand.
import Derived.Test.YtdblbilgnfomaaaPAllx0
import Derived.Test.YtdblbilgnfomaaaPAllx3
import Derived.Test.YtdblbilgnfomaaaPAllx4
import Derived.Test.YtdblbilgnfomaaaPAllx11
namespace Go.Proofs.Ytdblbilgnfomaaa.PAll
open Go.RowKit Go.Proofs.Ytdblbilgnfomaaa.Open Go.Proofs.YtdblbilgnfomaaaW.PrintWords Go.Proofs.YtdblbilgnfomaaaW.PrintLast Go.Proofs.YtdblbilgnfomaaaW.PrintMore
attribute [local go_sem] max2_int min2_int max_two min_two max_three min_three max_four min_four   -- for this text's walks alone
set_option linter.unusedVariables false
set_option linter.unusedSimpArgs false

/-! ### chargeparklaw17_FlashOrder: function 7 -/
mutual
def chargeparklaw17_FlashOrder.j0 : Nat → Int → List Int → Int → List Int → Bool → Bool → Int → List Int → Option (Bool)
  | 0, _, _, _, _, _, _, _, _ => none
  | k + 1, x1, x2, x3, x4, x11, x40, x331000, x331001 => if x40 = true then (some x11) else ((chargeparklaw17_done.f x331000 x331001 x1 x2).bind fun bt332 => ((chargeparklaw17_done.f x331000 x331001 x3 x4).bind fun bt338 => (if bt332.2.2 = true then (chargeparklaw17_FlashOrder.j1 k x1 x2 x3 x4 x11 (!bt338.2.2) x331000 x331001 bt332.1 bt332.2.1 bt338.1 bt338.2.1) else (chargeparklaw17_FlashOrder.j1 k x1 x2 x3 x4 x11 true x331000 x331001 bt332.1 bt332.2.1 bt338.1 bt338.2.1))))
def chargeparklaw17_FlashOrder.j1 : Nat → Int → List Int → Int → List Int → Bool → Bool → Int → List Int → Int → List Int → Int → List Int → Option (Bool)
  | 0, _, _, _, _, _, _, _, _, _, _, _, _ => none
  | k + 1, x1, x2, x3, x4, x11, x61, x331000, x331001, x338000, x338001, x344000, x344001 => if x61 = true then (some x11) else ((chargeparklaw17_done.f x338000 x338001 x3 x4).bind fun bt344 => ((chargeparklaw17_done.f x344000 x344001 x1 x2).bind fun bt350 => (if bt344.2.2 = true then (if bt350.2.2 = true then ((chargeparkref17_Same.f k bt344.1 bt344.2.1 bt350.1 bt350.2.1).bind fun t356 => (chargeparklaw17_FlashOrder.j2 k x1 x2 x4 x11 (!t356) x331000 x331001 x338000 x338001)) else (chargeparklaw17_FlashOrder.j2 k x1 x2 x4 x11 true x331000 x331001 x338000 x338001)) else (chargeparklaw17_FlashOrder.j2 k x1 x2 x4 x11 true x331000 x331001 x338000 x338001))))
def chargeparklaw17_FlashOrder.j2 : Nat → Int → List Int → List Int → Bool → Bool → Int → List Int → Int → List Int → Option (Bool)
  | 0, _, _, _, _, _, _, _, _, _ => none
  | k + 1, x1, x2, x4, x11, x88, x331000, x331001, x338000, x338001 => if x88 = true then (none) else ((some (([] : List Int) : List Int)).bind fun y357 => (if y357.length + x2.length < 140737488355328 then ((some (y357 ++ x2 : List Int)).bind fun y360 => (chargeparklaw17_FlashOrder.l0 k x1 x2 x4 x11 y360 (y360.length : Int) 0 x331000 x331001 x338000 x338001)) else (none)))
def chargeparklaw17_FlashOrder.l0 : Nat → Int → List Int → List Int → Bool → List Int → Int → Int → Int → List Int → Int → List Int → Option (Bool)
  | 0, _, _, _, _, _, _, _, _, _, _, _ => none
  | k + 1, x1, x2, x4, x11, x20, x93, x94, x331000, x331001, x338000, x338001 => if x94 < x93 then (if x94 < (x4.length : Int) then (if 0 ≤ x94 then (if x94 < (x20.length : Int) then (chargeparklaw17_FlashOrder.l0 k x1 x2 x4 x11 (x20.set (x94 : Int).toNat (Go.bits .and .u8 (rd x20 x94) (rd x4 x94))) x93 (wrap64 (x94 + 1)) x331000 x331001 x338000 x338001) else (none)) else (none)) else (chargeparklaw17_FlashOrder.l0 k x1 x2 x4 x11 x20 x93 (wrap64 (x94 + 1)) x331000 x331001 x338000 x338001)) else (if (x4.length : Int) > (x2.length : Int) then (some x11) else ((chargeparklaw17_done.f x338000 x338001 x1 x4).bind fun bt366 => ((chargeparklaw17_done.f x331000 x331001 x1 x20).bind fun bt372 => (if x11 = true then (if bt366.2.2 = true then (if bt372.2.2 = true then ((chargeparkref17_Same.f k bt366.1 bt366.2.1 bt372.1 bt372.2.1).bind fun t378 => (some t378)) else (none)) else (none)) else (none)))))
end
def chargeparklaw17_FlashOrder.f (k : Nat) (a0_0 : Int) (l0_1 : List Int) (a1 : Int) (l2 : List Int) (a3 : Int) (l4 : List Int) : Option (Bool) := (chargeparklaw17_head.f k).bind fun t331 => (if (l0_1.length : Int) > 300 then (chargeparklaw17_FlashOrder.j0 k a1 l2 a3 l4 t331 true a0_0 l0_1) else (if (l2.length : Int) > 300 then (chargeparklaw17_FlashOrder.j0 k a1 l2 a3 l4 t331 true a0_0 l0_1) else (chargeparklaw17_FlashOrder.j0 k a1 l2 a3 l4 t331 (decide ((l4.length : Int) > 300)) a0_0 l0_1)))
theorem chargeparklaw17_FlashOrder.mono_l : ∀ k, (∀ y0 y1 y2 y3 y4 y5 y6 y7, LeO (chargeparklaw17_FlashOrder.j0 k y0 y1 y2 y3 y4 y5 y6 y7) (chargeparklaw17_FlashOrder.j0 (k + 1) y0 y1 y2 y3 y4 y5 y6 y7)) ∧ (∀ y0 y1 y2 y3 y4 y5 y6 y7 y8 y9 y10 y11, LeO (chargeparklaw17_FlashOrder.j1 k y0 y1 y2 y3 y4 y5 y6 y7 y8 y9 y10 y11) (chargeparklaw17_FlashOrder.j1 (k + 1) y0 y1 y2 y3 y4 y5 y6 y7 y8 y9 y10 y11)) ∧ (∀ y0 y1 y2 y3 y4 y5 y6 y7 y8, LeO (chargeparklaw17_FlashOrder.j2 k y0 y1 y2 y3 y4 y5 y6 y7 y8) (chargeparklaw17_FlashOrder.j2 (k + 1) y0 y1 y2 y3 y4 y5 y6 y7 y8)) ∧ (∀ y0 y1 y2 y3 y4 y5 y6 y7 y8 y9 y10, LeO (chargeparklaw17_FlashOrder.l0 k y0 y1 y2 y3 y4 y5 y6 y7 y8 y9 y10) (chargeparklaw17_FlashOrder.l0 (k + 1) y0 y1 y2 y3 y4 y5 y6 y7 y8 y9 y10))
  | 0 => ⟨fun _ _ _ _ _ _ _ _ r h => by simp [chargeparklaw17_FlashOrder.j0] at h, fun _ _ _ _ _ _ _ _ _ _ _ _ r h => by simp [chargeparklaw17_FlashOrder.j1] at h, fun _ _ _ _ _ _ _ _ _ r h => by simp [chargeparklaw17_FlashOrder.j2] at h, fun _ _ _ _ _ _ _ _ _ _ _ r h => by simp [chargeparklaw17_FlashOrder.l0] at h⟩
  | k + 1 => by
    obtain ⟨ih0, ih1, ih2, ih3⟩ := chargeparklaw17_FlashOrder.mono_l k
    refine ⟨?_, ?_, ?_, ?_⟩
    · intro y0 y1 y2 y3 y4 y5 y6 y7
      unfold chargeparklaw17_FlashOrder.j0
      repeat' first
      | (with_reducible exact ih0 _ _ _ _ _ _ _ _)
      | (with_reducible exact ih1 _ _ _ _ _ _ _ _ _ _ _ _)
      | (with_reducible exact ih2 _ _ _ _ _ _ _ _ _)
      | (with_reducible exact ih3 _ _ _ _ _ _ _ _ _ _ _)
      | (with_reducible exact chargeparklaw17_head.mono _)
      | (with_reducible exact chargeparkref17_Same.mono _ _ _ _ _)
      | (with_reducible exact LeO.refl _)
      | (with_reducible exact LeO.none _)
      | (with_reducible refine LeO.ite ?_ ?_)
      | (with_reducible refine LeO.bind ?_ (fun _ => ?_))
      | exact ih0 _ _ _ _ _ _ _ _
      | exact ih1 _ _ _ _ _ _ _ _ _ _ _ _
      | exact ih2 _ _ _ _ _ _ _ _ _
      | exact ih3 _ _ _ _ _ _ _ _ _ _ _
      | exact chargeparklaw17_head.mono _
      | exact chargeparkref17_Same.mono _ _ _ _ _
      | exact LeO.none _
      | refine LeO.ite ?_ ?_
      | refine LeO.bind ?_ (fun _ => ?_)
    · intro y0 y1 y2 y3 y4 y5 y6 y7 y8 y9 y10 y11
      unfold chargeparklaw17_FlashOrder.j1
      repeat' first
      | (with_reducible exact ih0 _ _ _ _ _ _ _ _)
      | (with_reducible exact ih1 _ _ _ _ _ _ _ _ _ _ _ _)
      | (with_reducible exact ih2 _ _ _ _ _ _ _ _ _)
      | (with_reducible exact ih3 _ _ _ _ _ _ _ _ _ _ _)
      | (with_reducible exact chargeparklaw17_head.mono _)
      | (with_reducible exact chargeparkref17_Same.mono _ _ _ _ _)
      | (with_reducible exact LeO.refl _)
      | (with_reducible exact LeO.none _)
      | (with_reducible refine LeO.ite ?_ ?_)
      | (with_reducible refine LeO.bind ?_ (fun _ => ?_))
      | exact ih0 _ _ _ _ _ _ _ _
      | exact ih1 _ _ _ _ _ _ _ _ _ _ _ _
      | exact ih2 _ _ _ _ _ _ _ _ _
      | exact ih3 _ _ _ _ _ _ _ _ _ _ _
      | exact chargeparklaw17_head.mono _
      | exact chargeparkref17_Same.mono _ _ _ _ _
      | exact LeO.none _
      | refine LeO.ite ?_ ?_
      | refine LeO.bind ?_ (fun _ => ?_)
    · intro y0 y1 y2 y3 y4 y5 y6 y7 y8
      unfold chargeparklaw17_FlashOrder.j2
      repeat' first
      | (with_reducible exact ih0 _ _ _ _ _ _ _ _)
      | (with_reducible exact ih1 _ _ _ _ _ _ _ _ _ _ _ _)
      | (with_reducible exact ih2 _ _ _ _ _ _ _ _ _)
      | (with_reducible exact ih3 _ _ _ _ _ _ _ _ _ _ _)
      | (with_reducible exact chargeparklaw17_head.mono _)
      | (with_reducible exact chargeparkref17_Same.mono _ _ _ _ _)
      | (with_reducible exact LeO.refl _)
      | (with_reducible exact LeO.none _)
      | (with_reducible refine LeO.ite ?_ ?_)
      | (with_reducible refine LeO.bind ?_ (fun _ => ?_))
      | exact ih0 _ _ _ _ _ _ _ _
      | exact ih1 _ _ _ _ _ _ _ _ _ _ _ _
      | exact ih2 _ _ _ _ _ _ _ _ _
      | exact ih3 _ _ _ _ _ _ _ _ _ _ _
      | exact chargeparklaw17_head.mono _
      | exact chargeparkref17_Same.mono _ _ _ _ _
      | exact LeO.none _
      | refine LeO.ite ?_ ?_
      | refine LeO.bind ?_ (fun _ => ?_)
    · intro y0 y1 y2 y3 y4 y5 y6 y7 y8 y9 y10
      unfold chargeparklaw17_FlashOrder.l0
      repeat' first
      | (with_reducible exact ih0 _ _ _ _ _ _ _ _)
      | (with_reducible exact ih1 _ _ _ _ _ _ _ _ _ _ _ _)
      | (with_reducible exact ih2 _ _ _ _ _ _ _ _ _)
      | (with_reducible exact ih3 _ _ _ _ _ _ _ _ _ _ _)
      | (with_reducible exact chargeparklaw17_head.mono _)
      | (with_reducible exact chargeparkref17_Same.mono _ _ _ _ _)
      | (with_reducible exact LeO.refl _)
      | (with_reducible exact LeO.none _)
      | (with_reducible refine LeO.ite ?_ ?_)
      | (with_reducible refine LeO.bind ?_ (fun _ => ?_))
      | exact ih0 _ _ _ _ _ _ _ _
      | exact ih1 _ _ _ _ _ _ _ _ _ _ _ _
      | exact ih2 _ _ _ _ _ _ _ _ _
      | exact ih3 _ _ _ _ _ _ _ _ _ _ _
      | exact chargeparklaw17_head.mono _
      | exact chargeparkref17_Same.mono _ _ _ _ _
      | exact LeO.none _
      | refine LeO.ite ?_ ?_
      | refine LeO.bind ?_ (fun _ => ?_)
theorem chargeparklaw17_FlashOrder.mono : ∀ a0 a1 a2 a3 a4 a5 k, LeO (chargeparklaw17_FlashOrder.f k a0 a1 a2 a3 a4 a5) (chargeparklaw17_FlashOrder.f (k + 1) a0 a1 a2 a3 a4 a5) := by
  intro a0 a1 a2 a3 a4 a5 k
  obtain ⟨ih0, ih1, ih2, ih3⟩ := chargeparklaw17_FlashOrder.mono_l k
  unfold chargeparklaw17_FlashOrder.f
  repeat' first
      | (with_reducible exact ih0 _ _ _ _ _ _ _ _)
      | (with_reducible exact ih1 _ _ _ _ _ _ _ _ _ _ _ _)
      | (with_reducible exact ih2 _ _ _ _ _ _ _ _ _)
      | (with_reducible exact ih3 _ _ _ _ _ _ _ _ _ _ _)
      | (with_reducible exact chargeparklaw17_head.mono _)
      | (with_reducible exact chargeparkref17_Same.mono _ _ _ _ _)
      | (with_reducible exact LeO.refl _)
      | (with_reducible exact LeO.none _)
      | (with_reducible refine LeO.ite ?_ ?_)
      | (with_reducible refine LeO.bind ?_ (fun _ => ?_))
      | exact ih0 _ _ _ _ _ _ _ _
      | exact ih1 _ _ _ _ _ _ _ _ _ _ _ _
      | exact ih2 _ _ _ _ _ _ _ _ _
      | exact ih3 _ _ _ _ _ _ _ _ _ _ _
      | exact chargeparklaw17_head.mono _
      | exact chargeparkref17_Same.mono _ _ _ _ _
      | exact LeO.none _
      | refine LeO.ite ?_ ?_
      | refine LeO.bind ?_ (fun _ => ?_)
def chargeparklaw17_FlashOrder.T17 : Bool × List (List Nat × List Nat) := (true, [([], []), ([], []), ([0, 1], [0, 1]), ([2], [2]), ([], []), ([], []), ([4, 5], [4, 5]), ([6], [6]), ([3, 7], [3, 7]), ([0, 1, 0, 1, 2, 3, 4, 5, 6, 7, 8], [0, 1]), ([9, 8, 0, 1, 2, 3, 4, 5, 6, 7, 8], [8, 9])])
def chargeparklaw17_FlashOrder.B17 : List Nat := [0, 0, 3, 7, 0, 0, 48, 112, 255, 511, 1023]
theorem chargeparklaw17_FlashOrder.tab17 : rtab .any (opsOf Try.f7 17) = chargeparklaw17_FlashOrder.T17 := by kernel_rfl
theorem chargeparklaw17_FlashOrder.bits17 : waitsOk chargeparklaw17_FlashOrder.T17.2 chargeparklaw17_FlashOrder.B17 = true := by kernel_rfl
set_option maxHeartbeats 8000000 in
set_option maxRecDepth 100000 in
theorem chargeparklaw17_FlashOrder.calls (k : Nat) (a0_0 : Int) (A0_1 : Option Addr) (c0_1 : Nat) (l0_1 : List Int) (a1 : Int) (A2 : Option Addr) (c2 : Nat) (l2 : List Int) (a3 : Int) (A4 : Option Addr) (c4 : Nat) (l4 : List Int) (r : Bool) (w : World) (hr0_1 : Kd.C (Kd.int .u8) w A0_1 l0_1.length l0_1) (hc0_1 : l0_1.length ≤ c0_1) (hr2 : Kd.C (Kd.int .u8) w A2 l2.length l2) (hc2 : l2.length ≤ c2) (hr4 : Kd.C (Kd.int .u8) w A4 l4.length l4) (hc4 : l4.length ≤ c4) (h : chargeparklaw17_FlashOrder.f k a0_0 l0_1 a1 l2 a3 l4 = some r) :
    Calls Try.prog 7 #[.agg #[.int .i64 a0_0, .slice A0_1 l0_1.length c0_1], .int .i64 a1, .slice A2 l2.length c2, .int .i64 a3, .slice A4 l4.length c4] w fun e w' => e = .returned (.bool r) ∧ Below w.heap.size w w' := by
  have hu24 := Try.underlying24
  have HR0_1 := Aside0.mk hr0_1
  have HC0_1 := Aside0.mk hc0_1
  clear hr0_1 hc0_1
  have HR2 := Aside0.mk hr2
  have HC2 := Aside0.mk hc2
  clear hr2 hc2
  have HR4 := Aside0.mk hr4
  have HC4 := Aside0.mk hc4
  clear hr4 hc4
  have HB := Aside0.mk (Below.refl w.heap.size w)
  have H : ((chargeparklaw17_head.f k).bind fun t331 => (if (l0_1.length : Int) > 300 then (chargeparklaw17_FlashOrder.j0 k a1 l2 a3 l4 t331 true a0_0 l0_1) else (if (l2.length : Int) > 300 then (chargeparklaw17_FlashOrder.j0 k a1 l2 a3 l4 t331 true a0_0 l0_1) else (chargeparklaw17_FlashOrder.j0 k a1 l2 a3 l4 t331 (decide ((l4.length : Int) > 300)) a0_0 l0_1)))) = some r := h
  clear h
  replace H := Option.bind_eq_some_iff.mp H
  obtain ⟨t331, A60, H⟩ := H
  replace H : (if (l0_1.length : Int) > 300 then (chargeparklaw17_FlashOrder.j0 k a1 l2 a3 l4 t331 true a0_0 l0_1) else (if (l2.length : Int) > 300 then (chargeparklaw17_FlashOrder.j0 k a1 l2 a3 l4 t331 true a0_0 l0_1) else (chargeparklaw17_FlashOrder.j0 k a1 l2 a3 l4 t331 (decide ((l4.length : Int) > 300)) a0_0 l0_1))) = some r := H
  have A6 := Aside0.mk A60
  clear A60
  have HC7 := Aside0.mk H
  clear H
  go_enter Try.func7, Try.ntmps7
  go_upto_region 2 with (first | ((with_reducible refine gate_dst (N := 5) rfl ?_); (try (refine gate_guard (by rfl) ?_; dsimp only)); refine box_event ?hg (N := 5) ?hd (cs := #[.int .i64 a0_0, .slice A0_1 l0_1.length c0_1]) (t := 24) ?hr ?_; (case hd => rfl); (case hg => rfl); (case hr => first | (go_simp; done) | (go_simp; rfl)); intro gb330 hg w8 hbox hb; have n0_ := Aside0.mk (below_step (by repeat (first | (with_reducible first | exact HB.out | apply below_alloc | apply pw_below_drewN | apply below_drew1) | exact HB.out)) hb); have n1_ := Aside0.mk (hbox); have n2_ := Aside0.mk ((by rw [hg]; exact (below_size (by repeat (first | (with_reducible first | exact HB.out | apply below_alloc | apply pw_below_drewN | apply below_drew1) | exact HB.out))) : w.heap.size ≤ gb330)); have n3_ := Aside0.mk ((by rw [hg]; exact (below_size (by repeat (first | (with_reducible first | exact HB.out | apply below_alloc | apply pw_below_drewN | apply below_drew1) | exact HB.out))) : w.heap.size ≤ gb330)); clear HB; have HB := n0_; have BK330 := n1_; have GW330 := n2_; have GE330 := n3_; clear n0_ n1_ n2_ n3_; clear hb hbox hg) | ((with_reducible refine gate_callee (f := 10) rfl ?_); refine goesL_ (some 26) rfl rfl Try.func10 (by kernel_rfl) rfl #[] rfl (by (try simp only [List.map_toArray, List.map_cons, List.map_nil]); first | done | rfl | (simp only [List.length_drop, List.length_take]; rfl)) ?_; (with_reducible refine (chargeparklaw17_head.calls k  t331 _ A6.out).mono ?_); rintro e w9 ⟨rfl, hb⟩; refine ⟨_, rfl, ?_⟩; have n0_ := Aside0.mk (blk_below (g := gb330) (o := .cells #[.int .i64 a0_0, .slice A0_1 l0_1.length c0_1] 24 (0, 0)) (by (with_reducible repeat (first | refine blk_drewN ?_ _ | refine blk_drew ?_ | refine blk_alloc ?_ _)); exact BK330.out) hb); have n1_ := Aside0.mk (below_step (by repeat (first | (with_reducible first | exact HB.out | apply below_alloc | apply pw_below_drewN | apply below_drew1 | refine below_set ?_ GE330.out) | exact HB.out)) hb); clear BK330; clear HB; have BK330 := n0_; have HB := n1_; clear n0_ n1_; (try clear hb); (try clear hb2); (try clear hk); (try clear hi)))
  (try simp only [Act.put, List.setIfInBounds_toArray, List.set_cons_zero, List.set_cons_succ])
  go_cut [40] (fun v40 wc => ∃ (kq : Nat) (x40_6 : Bool), v40 = .bool x40_6 ∧ Aside0 (chargeparklaw17_FlashOrder.j0 kq a1 l2 a3 l4 t331 x40_6 a0_0 l0_1 = some r) ∧ Aside0 (kq ≤ k) ∧ Aside0 (wc.heap[gb330]? = some (.cells #[.int .i64 a0_0, (.slice A0_1 l0_1.length c0_1)] 24 (0, 0))) ∧ Aside0 (Below w.heap.size w wc))
  case first =>
    have H := HC7.out
    clear HC7
    by_cases c10 : (l0_1.length : Int) > 300
    · rw [if_pos c10] at H
      have c10b0 : decide (300 < (l0_1.length : Int)) = true := decide_eq_true c10
      have c10b1 : decide (300 < l0_1.length) = true := decide_eq_true (by omega)
      clear c10
      (first | rw [c10b0] | (simp only [i64_w, i32_w]; rw [c10b0]) | skip)
      have H' := Aside0.mk H
      clear H
      have hcz11_0 : w9.cell? ⟨gb330, 0, none⟩ = some (.int .i64 a0_0) := (blk_cell BK330.out 0).trans rfl
      have hcz11_1 : w9.cell? ⟨gb330, 1, none⟩ = some (.slice A0_1 l0_1.length c0_1) := (blk_cell BK330.out 1).trans rfl
      have hfz11_0 := blk_frozen BK330.out 0
      have hfz11_1 := blk_frozen BK330.out 1
      go_wp2
      go_meet
      case rel => exact ⟨_, (true), (by first | rfl | (simp; done) | (simp [*]; done) | (simp [*, Int.tdiv_eq_ediv_of_nonneg]; done)), H', ⟨by first | omega | exact Nat.le_refl _⟩, ⟨by (with_reducible repeat (first | refine blk_drewN ?_ _ | refine blk_drew ?_ | refine blk_alloc ?_ _)); exact BK330.out⟩, ⟨by repeat (first | (with_reducible first | exact HB.out | apply below_alloc | apply pw_below_drewN | apply below_drew1 | refine below_set ?_ GE330.out) | exact HB.out)⟩⟩
    · rw [if_neg c10] at H
      have c10b0 : decide (300 < (l0_1.length : Int)) = false := decide_eq_false c10
      have c10b1 : decide (300 < l0_1.length) = false := decide_eq_false (by omega)
      clear c10
      (first | rw [c10b0] | (simp only [i64_w, i32_w]; rw [c10b0]) | skip)
      by_cases c12 : (l2.length : Int) > 300
      · rw [if_pos c12] at H
        have c12b0 : decide (300 < (l2.length : Int)) = true := decide_eq_true c12
        have c12b1 : decide (300 < l2.length) = true := decide_eq_true (by omega)
        clear c12
        have H' := Aside0.mk H
        clear H
        have hcz13_0 : w9.cell? ⟨gb330, 0, none⟩ = some (.int .i64 a0_0) := (blk_cell BK330.out 0).trans rfl
        have hcz13_1 : w9.cell? ⟨gb330, 1, none⟩ = some (.slice A0_1 l0_1.length c0_1) := (blk_cell BK330.out 1).trans rfl
        have hfz13_0 := blk_frozen BK330.out 0
        have hfz13_1 := blk_frozen BK330.out 1
        go_wp2
        go_meet
        case rel => exact ⟨_, (true), (by first | rfl | (simp; done) | (simp [*]; done) | (simp [*, Int.tdiv_eq_ediv_of_nonneg]; done)), H', ⟨by first | omega | exact Nat.le_refl _⟩, ⟨by (with_reducible repeat (first | refine blk_drewN ?_ _ | refine blk_drew ?_ | refine blk_alloc ?_ _)); exact BK330.out⟩, ⟨by repeat (first | (with_reducible first | exact HB.out | apply below_alloc | apply pw_below_drewN | apply below_drew1 | refine below_set ?_ GE330.out) | exact HB.out)⟩⟩
      · rw [if_neg c12] at H
        have c12b0 : decide (300 < (l2.length : Int)) = false := decide_eq_false c12
        have c12b1 : decide (300 < l2.length) = false := decide_eq_false (by omega)
        clear c12
        have H' := Aside0.mk H
        clear H
        have hcz14_0 : w9.cell? ⟨gb330, 0, none⟩ = some (.int .i64 a0_0) := (blk_cell BK330.out 0).trans rfl
        have hcz14_1 : w9.cell? ⟨gb330, 1, none⟩ = some (.slice A0_1 l0_1.length c0_1) := (blk_cell BK330.out 1).trans rfl
        have hfz14_0 := blk_frozen BK330.out 0
        have hfz14_1 := blk_frozen BK330.out 1
        go_wp2
        go_meet
        case rel => exact ⟨_, (decide ((l4.length : Int) > 300)), (by first | rfl | (simp; done) | (simp [*]; done) | (simp [*, Int.tdiv_eq_ediv_of_nonneg]; done)), H', ⟨by first | omega | exact Nat.le_refl _⟩, ⟨by (with_reducible repeat (first | refine blk_drewN ?_ _ | refine blk_drew ?_ | refine blk_alloc ?_ _)); exact BK330.out⟩, ⟨by repeat (first | (with_reducible first | exact HB.out | apply below_alloc | apply pw_below_drewN | apply below_drew1 | refine below_set ?_ GE330.out) | exact HB.out)⟩⟩
  case rest =>
    clear HC7
    try clear c1
    try clear c2
    try clear p2
    try clear c4
    try clear c7
    try clear c10
    try clear c10b0
    try clear c10b1
    try clear c12
    try clear c12b0
    try clear c12b1
    try clear hcz11_0
    try clear hcz11_1
    try clear hcz13_0
    try clear hcz13_1
    try clear hcz14_0
    try clear hcz14_1
    try clear hfz11_0
    try clear hfz11_1
    try clear hfz13_0
    try clear hfz13_1
    try clear hfz14_0
    try clear hfz14_1
    obtain ⟨kq, x40_6, rfl, HA, HJ6, BK330, HB⟩ := hcut
    cases kq with
    | zero => exact absurd HA.out (by simp [chargeparklaw17_FlashOrder.j0])
    | succ kj6 =>
      have H := HA.out
      clear HA
      simp only [chargeparklaw17_FlashOrder.j0] at H
      by_cases c15 : x40_6 = true
      · subst c15
        have H1 : (some t331) = some r := by rw [if_pos rfl] at H; exact H
        clear H
        have H := H1
        clear H1
        obtain rfl := Option.some.inj H
        go_wp2
        go_ret
        exact ⟨by first | rfl | (simp [errW_none, errW_some] <;> rfl) | (simp [*, errW_none, errW_some] <;> rfl) | (rw [Int.tmod_eq_emod_of_nonneg (Int.natCast_nonneg _)]; rfl), by repeat (first | (with_reducible first | exact HB.out | apply below_alloc | apply pw_below_drewN | apply below_drew1 | refine below_set ?_ GE330.out) | exact HB.out)⟩
      · replace c15 := Bool.eq_false_iff.mpr c15
        subst c15
        have H1 : ((chargeparklaw17_done.f a0_0 l0_1 a1 l2).bind fun bt332 => ((chargeparklaw17_done.f a0_0 l0_1 a3 l4).bind fun bt338 => (if bt332.2.2 = true then (chargeparklaw17_FlashOrder.j1 kj6 a1 l2 a3 l4 t331 (!bt338.2.2) a0_0 l0_1 bt332.1 bt332.2.1 bt338.1 bt338.2.1) else (chargeparklaw17_FlashOrder.j1 kj6 a1 l2 a3 l4 t331 true a0_0 l0_1 bt332.1 bt332.2.1 bt338.1 bt338.2.1)))) = some r := by rw [if_neg (show ¬ (false = true) by decide)] at H; exact H
        clear H
        have H := H1
        clear H1
        replace H := Option.bind_eq_some_iff.mp H
        obtain ⟨⟨t332, t333, t336⟩, A160, H⟩ := H
        replace H : ((chargeparklaw17_done.f a0_0 l0_1 a3 l4).bind fun bt338 => (if t336 = true then (chargeparklaw17_FlashOrder.j1 kj6 a1 l2 a3 l4 t331 (!bt338.2.2) a0_0 l0_1 t332 t333 bt338.1 bt338.2.1) else (chargeparklaw17_FlashOrder.j1 kj6 a1 l2 a3 l4 t331 true a0_0 l0_1 t332 t333 bt338.1 bt338.2.1))) = some r := H
        have A16 := Aside0.mk A160
        clear A160
        replace H := Option.bind_eq_some_iff.mp H
        obtain ⟨⟨t338, t339, t342⟩, A170, H⟩ := H
        replace H : (if t336 = true then (chargeparklaw17_FlashOrder.j1 kj6 a1 l2 a3 l4 t331 (!t342) a0_0 l0_1 t332 t333 t338 t339) else (chargeparklaw17_FlashOrder.j1 kj6 a1 l2 a3 l4 t331 true a0_0 l0_1 t332 t333 t338 t339)) = some r := H
        have A17 := Aside0.mk A170
        clear A170
        have HC18 := Aside0.mk H
        clear H
        have hcz19_0 : wc.cell? ⟨gb330, 0, none⟩ = some (.int .i64 a0_0) := (blk_cell BK330.out 0).trans rfl
        have hcz19_1 : wc.cell? ⟨gb330, 1, none⟩ = some (.slice A0_1 l0_1.length c0_1) := (blk_cell BK330.out 1).trans rfl
        have hfz19_0 := blk_frozen BK330.out 0
        have hfz19_1 := blk_frozen BK330.out 1
        go_upto_region 6 with (first | ((with_reducible refine gate_callee (f := 22) rfl ?_); refine goesL_ (some 46) rfl rfl Try.func22 (by kernel_rfl) rfl #[.agg #[.int .i64 a0_0, .slice A0_1 l0_1.length c0_1], .int .i64 a1, .slice A2 l2.length c2] rfl (by (try simp only [List.map_toArray, List.map_cons, List.map_nil]); first | done | rfl | (simp only [List.length_drop, List.length_take]; rfl)) ?_; (with_reducible refine (chargeparklaw17_done.calls a0_0 _ _ l0_1 a1 _ _ l2 t332 t333 t336 _ ?side1 ?side2 ?side3 ?side4 A16.out).mono ?_); (case side1 => repeat (first | exact (Kd.C_below HR0_1.out HB.out) | (with_reducible refine Kd.C_alloc ?_ _) | (with_reducible refine Kd.C_drewN ?_ _) | (with_reducible refine Kd.C_drew ?_))); (case side2 => exact HC0_1.out); (case side3 => repeat (first | exact (Kd.C_below HR2.out HB.out) | (with_reducible refine Kd.C_alloc ?_ _) | (with_reducible refine Kd.C_drewN ?_ _) | (with_reducible refine Kd.C_drew ?_))); (case side4 => exact HC2.out); rintro e w20 ⟨v334, rfl, ho0, hb⟩; refine ⟨_, rfl, ?_⟩; have n0_ := Aside0.mk (Kd.V_lower (Kd.V_mono (ok' := fun k_ => k_ ≠ gb330) ho0 (fun k_ hk_ => (Kd.freshB (g := gb330) (o := .cells #[.int .i64 a0_0, .slice A0_1 l0_1.length c0_1] 24 (0, 0)) (by (with_reducible repeat (first | refine blk_drewN ?_ _ | refine blk_drew ?_ | refine blk_alloc ?_ _)); exact BK330.out) k_ hk_))) (below_size (by repeat (first | (with_reducible first | exact HB.out | apply below_alloc | apply pw_below_drewN | apply below_drew1 | refine below_set ?_ GE330.out) | exact HB.out)))); have n1_ := Aside0.mk (blk_below (g := gb330) (o := .cells #[.int .i64 a0_0, .slice A0_1 l0_1.length c0_1] 24 (0, 0)) (by (with_reducible repeat (first | refine blk_drewN ?_ _ | refine blk_drew ?_ | refine blk_alloc ?_ _)); exact BK330.out) hb); have n2_ := Aside0.mk (below_step (by repeat (first | (with_reducible first | exact HB.out | apply below_alloc | apply pw_below_drewN | apply below_drew1 | refine below_set ?_ GE330.out) | exact HB.out)) hb); clear BK330; clear HB; have HO335 := n0_; have BK330 := n1_; have HB := n2_; clear n0_ n1_ n2_; (try clear hb); (try clear hb2); (try clear hk); (try clear hi); (try clear ho0)) | ((with_reducible refine gate_dst (N := 12) rfl ?_); (try (refine gate_guard (by rfl) ?_; dsimp only)); refine box_event ?hg (N := 12) ?hd (cs := #[.int .i64 0, .slice none 0 0]) (t := 24) ?hr ?_; (case hd => rfl); (case hg => rfl); (case hr => first | (go_simp; done) | (go_simp; rfl)); intro gb337 hg w21 hbox hb; have n0_ := Aside0.mk (Kd.V_below (Kd.V_elderB (by (with_reducible repeat (first | apply Kd.V_alloc | apply Kd.V_drewN | apply Kd.V_drew)); exact HO335.out) gb337 (Nat.le_of_eq hg.symm)) hb); have n1_ := Aside0.mk (blk_below (g := gb330) (o := .cells #[.int .i64 a0_0, .slice A0_1 l0_1.length c0_1] 24 (0, 0)) (by (with_reducible repeat (first | refine blk_drewN ?_ _ | refine blk_drew ?_ | refine blk_alloc ?_ _)); exact BK330.out) hb); have n2_ := Aside0.mk (below_step (by repeat (first | (with_reducible first | exact HB.out | apply below_alloc | apply pw_below_drewN | apply below_drew1 | refine below_set ?_ GE330.out) | exact HB.out)) hb); have n3_ := Aside0.mk (hbox); have n4_ := Aside0.mk ((by rw [hg]; exact (below_size (by repeat (first | (with_reducible first | exact HB.out | apply below_alloc | apply pw_below_drewN | apply below_drew1 | refine below_set ?_ GE330.out) | exact HB.out))) : w.heap.size ≤ gb337)); have n5_ := Aside0.mk ((by rw [hg]; exact (below_size (by repeat (first | (with_reducible first | exact HB.out | apply below_alloc | apply pw_below_drewN | apply below_drew1 | refine below_set ?_ GE330.out) | exact HB.out))) : w.heap.size ≤ gb337)); have n6_ := Aside0.mk ((by rw [hg]; exact Nat.ne_of_lt (blk_lt (g := gb330) (o := .cells #[.int .i64 a0_0, .slice A0_1 l0_1.length c0_1] 24 (0, 0)) (by (with_reducible repeat (first | refine blk_drewN ?_ _ | refine blk_drew ?_ | refine blk_alloc ?_ _)); exact BK330.out)) : gb330 ≠ gb337)); have n7_ := Aside0.mk ((by rw [hg]; exact Nat.ne_of_gt (blk_lt (g := gb330) (o := .cells #[.int .i64 a0_0, .slice A0_1 l0_1.length c0_1] 24 (0, 0)) (by (with_reducible repeat (first | refine blk_drewN ?_ _ | refine blk_drew ?_ | refine blk_alloc ?_ _)); exact BK330.out)) : gb337 ≠ gb330)); clear HO335; clear BK330; clear HB; have HO335 := n0_; have BK330 := n1_; have HB := n2_; have BK337 := n3_; have GW337 := n4_; have GE337 := n5_; have NB330_337 := n6_; have NB337_330 := n7_; clear n0_ n1_ n2_ n3_ n4_ n5_ n6_ n7_; clear hb hbox hg; have hnb22 := NB337_330.out; have hnc22 := NB330_337.out; have hcz23_0 : w21.cell? ⟨gb337, 0, none⟩ = some (.int .i64 0) := (blk_cell BK337.out 0).trans rfl; have hcz23_1 : w21.cell? ⟨gb337, 1, none⟩ = some (.slice none 0 0) := (blk_cell BK337.out 1).trans rfl; have hfz23_0 := blk_frozen BK337.out 0; have hfz23_1 := blk_frozen BK337.out 1; obtain ⟨Ao24, co24, eo24⟩ := Kd.V_slice HO335.out; subst eo24; have hcz25_0 : w21.cell? ⟨gb330, 0, none⟩ = some (.int .i64 a0_0) := (blk_cell BK330.out 0).trans rfl; have hcz25_1 : w21.cell? ⟨gb330, 1, none⟩ = some (.slice A0_1 l0_1.length c0_1) := (blk_cell BK330.out 1).trans rfl; have hfz25_0 := blk_frozen BK330.out 0; have hfz25_1 := blk_frozen BK330.out 1) | ((with_reducible refine gate_callee (f := 22) rfl ?_); refine goesL_ (some 53) rfl rfl Try.func22 (by kernel_rfl) rfl #[.agg #[.int .i64 a0_0, .slice A0_1 l0_1.length c0_1], .int .i64 a3, .slice A4 l4.length c4] rfl (by (try simp only [List.map_toArray, List.map_cons, List.map_nil]); first | done | rfl | (simp only [List.length_drop, List.length_take]; rfl)) ?_; (with_reducible refine (chargeparklaw17_done.calls a0_0 _ _ l0_1 a3 _ _ l4 t338 t339 t342 _ ?side1 ?side2 ?side3 ?side4 A17.out).mono ?_); (case side1 => exact Kd.C_below HR0_1.out (by repeat (first | (with_reducible first | exact HB.out | apply below_alloc | apply pw_below_drewN | apply below_drew1 | refine below_set ?_ GE330.out | refine below_set ?_ GE337.out) | exact HB.out))); (case side2 => exact HC0_1.out); (case side3 => exact Kd.C_below HR4.out (by repeat (first | (with_reducible first | exact HB.out | apply below_alloc | apply pw_below_drewN | apply below_drew1 | refine below_set ?_ GE330.out | refine below_set ?_ GE337.out) | exact HB.out))); (case side4 => exact HC4.out); rintro e w26 ⟨v340, rfl, ho0, hb⟩; refine ⟨_, rfl, ?_⟩; have n0_ := Aside0.mk (Kd.V_below (by (with_reducible repeat (first | apply Kd.V_alloc | apply Kd.V_drewN | apply Kd.V_drew)); exact (Kd.V_mono (Kd.V_far (p := ⟨gb337, 1, none⟩) (Kd.V_far (p := ⟨gb337, 0, none⟩) (Kd.V_mono HO335.out (fun k_ hk => (⟨hk, hk.2⟩ : _ ∧ k_ ≠ gb337))) (fun _ hk => hk.2) (.int .i64 t332)) (fun _ hk => hk.2) (.slice Ao24 t333.length co24)) (fun _ h_ => h_.1))) hb); have n1_ := Aside0.mk (Kd.V_lower (Kd.V_mono (ok' := fun k_ => k_ ≠ gb330 ∧ k_ ≠ gb337) ho0 (fun k_ hk_ => ⟨(Kd.freshB (g := gb330) (o := .cells #[.int .i64 a0_0, .slice A0_1 l0_1.length c0_1] 24 (0, 0)) (by (with_reducible repeat (first | refine blk_drewN ?_ _ | refine blk_drew ?_ | refine blk_alloc ?_ _)); refine blk_far ?_ NB330_337.out _; (with_reducible repeat (first | refine blk_drewN ?_ _ | refine blk_drew ?_ | refine blk_alloc ?_ _)); refine blk_far ?_ NB330_337.out _; (with_reducible repeat (first | refine blk_drewN ?_ _ | refine blk_drew ?_ | refine blk_alloc ?_ _)); exact BK330.out) k_ hk_), (Kd.freshB (g := gb337) (o := .cells #[.int .i64 t332, .slice Ao24 t333.length co24] 24 (0, 0)) (by (with_reducible repeat (first | refine blk_drewN ?_ _ | refine blk_drew ?_ | refine blk_alloc ?_ _)); refine blk_put (cs := #[.int .i64 t332, .slice none 0 0]) ?_ 1 _ rfl; (with_reducible repeat (first | refine blk_drewN ?_ _ | refine blk_drew ?_ | refine blk_alloc ?_ _)); refine blk_put (cs := #[.int .i64 0, .slice none 0 0]) ?_ 0 _ rfl; (with_reducible repeat (first | refine blk_drewN ?_ _ | refine blk_drew ?_ | refine blk_alloc ?_ _)); exact BK337.out) k_ hk_)⟩)) (below_size (by repeat (first | (with_reducible first | exact HB.out | apply below_alloc | apply pw_below_drewN | apply below_drew1 | refine below_set ?_ GE330.out | refine below_set ?_ GE337.out) | exact HB.out)))); have n2_ := Aside0.mk (blk_below (g := gb330) (o := .cells #[.int .i64 a0_0, .slice A0_1 l0_1.length c0_1] 24 (0, 0)) (by (with_reducible repeat (first | refine blk_drewN ?_ _ | refine blk_drew ?_ | refine blk_alloc ?_ _)); refine blk_far ?_ NB330_337.out _; (with_reducible repeat (first | refine blk_drewN ?_ _ | refine blk_drew ?_ | refine blk_alloc ?_ _)); refine blk_far ?_ NB330_337.out _; (with_reducible repeat (first | refine blk_drewN ?_ _ | refine blk_drew ?_ | refine blk_alloc ?_ _)); exact BK330.out) hb); have n3_ := Aside0.mk (blk_below (g := gb337) (o := .cells #[.int .i64 t332, .slice Ao24 t333.length co24] 24 (0, 0)) (by (with_reducible repeat (first | refine blk_drewN ?_ _ | refine blk_drew ?_ | refine blk_alloc ?_ _)); refine blk_put (cs := #[.int .i64 t332, .slice none 0 0]) ?_ 1 _ rfl; (with_reducible repeat (first | refine blk_drewN ?_ _ | refine blk_drew ?_ | refine blk_alloc ?_ _)); refine blk_put (cs := #[.int .i64 0, .slice none 0 0]) ?_ 0 _ rfl; (with_reducible repeat (first | refine blk_drewN ?_ _ | refine blk_drew ?_ | refine blk_alloc ?_ _)); exact BK337.out) hb); have n4_ := Aside0.mk (below_step (by repeat (first | (with_reducible first | exact HB.out | apply below_alloc | apply pw_below_drewN | apply below_drew1 | refine below_set ?_ GE330.out | refine below_set ?_ GE337.out) | exact HB.out)) hb); clear HO335; clear BK330; clear BK337; clear HB; have HO335 := n0_; have HO341 := n1_; have BK330 := n2_; have BK337 := n3_; have HB := n4_; clear n0_ n1_ n2_ n3_ n4_; (try clear hb); (try clear hb2); (try clear hk); (try clear hi); (try clear ho0)) | ((with_reducible refine gate_dst (N := 14) rfl ?_); (try (refine gate_guard (by rfl) ?_; dsimp only)); refine box_event ?hg (N := 14) ?hd (cs := #[.int .i64 0, .slice none 0 0]) (t := 24) ?hr ?_; (case hd => rfl); (case hg => rfl); (case hr => first | (go_simp; done) | (go_simp; rfl)); intro gb343 hg w27 hbox hb; have n0_ := Aside0.mk (Kd.V_below (Kd.V_elderB (by (with_reducible repeat (first | apply Kd.V_alloc | apply Kd.V_drewN | apply Kd.V_drew)); exact HO335.out) gb343 (Nat.le_of_eq hg.symm)) hb); have n1_ := Aside0.mk (Kd.V_below (Kd.V_elderB (by (with_reducible repeat (first | apply Kd.V_alloc | apply Kd.V_drewN | apply Kd.V_drew)); exact HO341.out) gb343 (Nat.le_of_eq hg.symm)) hb); have n2_ := Aside0.mk (blk_below (g := gb330) (o := .cells #[.int .i64 a0_0, .slice A0_1 l0_1.length c0_1] 24 (0, 0)) (by (with_reducible repeat (first | refine blk_drewN ?_ _ | refine blk_drew ?_ | refine blk_alloc ?_ _)); exact BK330.out) hb); have n3_ := Aside0.mk (blk_below (g := gb337) (o := .cells #[.int .i64 t332, .slice Ao24 t333.length co24] 24 (0, 0)) (by (with_reducible repeat (first | refine blk_drewN ?_ _ | refine blk_drew ?_ | refine blk_alloc ?_ _)); exact BK337.out) hb); have n4_ := Aside0.mk (below_step (by repeat (first | (with_reducible first | exact HB.out | apply below_alloc | apply pw_below_drewN | apply below_drew1 | refine below_set ?_ GE330.out | refine below_set ?_ GE337.out) | exact HB.out)) hb); have n5_ := Aside0.mk (hbox); have n6_ := Aside0.mk ((by rw [hg]; exact (below_size (by repeat (first | (with_reducible first | exact HB.out | apply below_alloc | apply pw_below_drewN | apply below_drew1 | refine below_set ?_ GE330.out | refine below_set ?_ GE337.out) | exact HB.out))) : w.heap.size ≤ gb343)); have n7_ := Aside0.mk ((by rw [hg]; exact (below_size (by repeat (first | (with_reducible first | exact HB.out | apply below_alloc | apply pw_below_drewN | apply below_drew1 | refine below_set ?_ GE330.out | refine below_set ?_ GE337.out) | exact HB.out))) : w.heap.size ≤ gb343)); have n8_ := Aside0.mk ((by rw [hg]; exact Nat.ne_of_lt (blk_lt (g := gb330) (o := .cells #[.int .i64 a0_0, .slice A0_1 l0_1.length c0_1] 24 (0, 0)) (by (with_reducible repeat (first | refine blk_drewN ?_ _ | refine blk_drew ?_ | refine blk_alloc ?_ _)); exact BK330.out)) : gb330 ≠ gb343)); have n9_ := Aside0.mk ((by rw [hg]; exact Nat.ne_of_gt (blk_lt (g := gb330) (o := .cells #[.int .i64 a0_0, .slice A0_1 l0_1.length c0_1] 24 (0, 0)) (by (with_reducible repeat (first | refine blk_drewN ?_ _ | refine blk_drew ?_ | refine blk_alloc ?_ _)); exact BK330.out)) : gb343 ≠ gb330)); have n10_ := Aside0.mk ((by rw [hg]; exact Nat.ne_of_lt (blk_lt (g := gb337) (o := .cells #[.int .i64 t332, .slice Ao24 t333.length co24] 24 (0, 0)) (by (with_reducible repeat (first | refine blk_drewN ?_ _ | refine blk_drew ?_ | refine blk_alloc ?_ _)); exact BK337.out)) : gb337 ≠ gb343)); have n11_ := Aside0.mk ((by rw [hg]; exact Nat.ne_of_gt (blk_lt (g := gb337) (o := .cells #[.int .i64 t332, .slice Ao24 t333.length co24] 24 (0, 0)) (by (with_reducible repeat (first | refine blk_drewN ?_ _ | refine blk_drew ?_ | refine blk_alloc ?_ _)); exact BK337.out)) : gb343 ≠ gb337)); clear HO335; clear HO341; clear BK330; clear BK337; clear HB; have HO335 := n0_; have HO341 := n1_; have BK330 := n2_; have BK337 := n3_; have HB := n4_; have BK343 := n5_; have GW343 := n6_; have GE343 := n7_; have NB330_343 := n8_; have NB343_330 := n9_; have NB337_343 := n10_; have NB343_337 := n11_; clear n0_ n1_ n2_ n3_ n4_ n5_ n6_ n7_ n8_ n9_ n10_ n11_; clear hb hbox hg; have hnb28 := NB343_330.out; have hnc28 := NB330_343.out; have hnb29 := NB343_337.out; have hnc29 := NB337_343.out; have hcz30_0 : w27.cell? ⟨gb343, 0, none⟩ = some (.int .i64 0) := (blk_cell BK343.out 0).trans rfl; have hcz30_1 : w27.cell? ⟨gb343, 1, none⟩ = some (.slice none 0 0) := (blk_cell BK343.out 1).trans rfl; have hfz30_0 := blk_frozen BK343.out 0; have hfz30_1 := blk_frozen BK343.out 1; obtain ⟨Ao31, co31, eo31⟩ := Kd.V_slice HO341.out; subst eo31))
        (try simp only [Act.put, List.setIfInBounds_toArray, List.set_cons_zero, List.set_cons_succ])
        go_cut [61] (fun v61 wc => ∃ (kq : Nat) (x61_17 : Bool), v61 = .bool x61_17 ∧ Aside0 (chargeparklaw17_FlashOrder.j1 kq a1 l2 a3 l4 t331 x61_17 a0_0 l0_1 t332 t333 t338 t339 = some r) ∧ Aside0 (kq ≤ kj6) ∧ Aside0 (Kd.V (Kd.int .u8) 5 wc w.heap.size (fun k_ => k_ ≠ gb330 ∧ k_ ≠ gb337 ∧ k_ ≠ gb343) (.slice Ao24 t333.length co24) t333) ∧ Aside0 (Kd.V (Kd.int .u8) 5 wc w.heap.size (fun k_ => k_ ≠ gb330 ∧ k_ ≠ gb337 ∧ k_ ≠ gb343) (.slice Ao31 t339.length co31) t339) ∧ Aside0 (wc.heap[gb330]? = some (.cells #[.int .i64 a0_0, (.slice A0_1 l0_1.length c0_1)] 24 (0, 0))) ∧ Aside0 (wc.heap[gb337]? = some (.cells #[.int .i64 t332, (.slice Ao24 t333.length co24)] 24 (0, 0))) ∧ Aside0 (wc.heap[gb343]? = some (.cells #[.int .i64 t338, (.slice Ao31 t339.length co31)] 24 (0, 0))) ∧ Aside0 (Below w.heap.size w wc))
        case first =>
          have H := HC18.out
          clear HC18
          by_cases c32 : t336 = true
          · subst c32
            have H1 : (chargeparklaw17_FlashOrder.j1 kj6 a1 l2 a3 l4 t331 (!t342) a0_0 l0_1 t332 t333 t338 t339) = some r := by rw [if_pos rfl] at H; exact H
            clear H
            have H := H1
            clear H1
            have H' := Aside0.mk H
            clear H
            go_wp2
            go_meet
            case rel => exact ⟨_, (!t342), (by first | rfl | (simp; done) | (simp [*]; done) | (simp [*, Int.tdiv_eq_ediv_of_nonneg]; done)), H', ⟨by have := HJ6.out; first | omega | exact Nat.le_refl _⟩, ⟨by (with_reducible repeat (first | apply Kd.V_alloc | apply Kd.V_drewN | apply Kd.V_drew)); exact Kd.V_mono (Kd.V_far (p := ⟨gb343, 1, none⟩) (Kd.V_far (p := ⟨gb343, 0, none⟩) (Kd.V_mono HO335.out (fun k_ hk => (⟨hk, hk.2⟩ : _ ∧ k_ ≠ gb343))) (fun _ hk => hk.2) (.int .i64 t338)) (fun _ hk => hk.2) (.slice Ao31 t339.length co31)) (fun _ hk => ⟨hk.1.1.1, ⟨hk.1.1.2, hk.1.2⟩⟩)⟩, ⟨by (with_reducible repeat (first | apply Kd.V_alloc | apply Kd.V_drewN | apply Kd.V_drew)); exact Kd.V_mono (Kd.V_far (p := ⟨gb343, 1, none⟩) (Kd.V_far (p := ⟨gb343, 0, none⟩) (Kd.V_mono HO341.out (fun k_ hk => (⟨hk, hk.2⟩ : _ ∧ k_ ≠ gb343))) (fun _ hk => hk.2) (.int .i64 t338)) (fun _ hk => hk.2) (.slice Ao31 t339.length co31)) (fun _ hk => ⟨hk.1.1.1, ⟨hk.1.1.2, hk.1.2⟩⟩)⟩, ⟨by (with_reducible repeat (first | refine blk_drewN ?_ _ | refine blk_drew ?_ | refine blk_alloc ?_ _)); refine blk_far ?_ NB330_343.out _; (with_reducible repeat (first | refine blk_drewN ?_ _ | refine blk_drew ?_ | refine blk_alloc ?_ _)); refine blk_far ?_ NB330_343.out _; (with_reducible repeat (first | refine blk_drewN ?_ _ | refine blk_drew ?_ | refine blk_alloc ?_ _)); exact BK330.out⟩, ⟨by (with_reducible repeat (first | refine blk_drewN ?_ _ | refine blk_drew ?_ | refine blk_alloc ?_ _)); refine blk_far ?_ NB337_343.out _; (with_reducible repeat (first | refine blk_drewN ?_ _ | refine blk_drew ?_ | refine blk_alloc ?_ _)); refine blk_far ?_ NB337_343.out _; (with_reducible repeat (first | refine blk_drewN ?_ _ | refine blk_drew ?_ | refine blk_alloc ?_ _)); exact BK337.out⟩, ⟨by (with_reducible repeat (first | refine blk_drewN ?_ _ | refine blk_drew ?_ | refine blk_alloc ?_ _)); refine blk_put (cs := #[.int .i64 t338, .slice none 0 0]) ?_ 1 _ rfl; (with_reducible repeat (first | refine blk_drewN ?_ _ | refine blk_drew ?_ | refine blk_alloc ?_ _)); refine blk_put (cs := #[.int .i64 0, .slice none 0 0]) ?_ 0 _ rfl; (with_reducible repeat (first | refine blk_drewN ?_ _ | refine blk_drew ?_ | refine blk_alloc ?_ _)); exact BK343.out⟩, ⟨by repeat (first | (with_reducible first | exact HB.out | apply below_alloc | apply pw_below_drewN | apply below_drew1 | refine below_set ?_ GE330.out | refine below_set ?_ GE337.out | refine below_set ?_ GE343.out) | exact HB.out)⟩⟩
          · replace c32 := Bool.eq_false_iff.mpr c32
            subst c32
            have H1 : (chargeparklaw17_FlashOrder.j1 kj6 a1 l2 a3 l4 t331 true a0_0 l0_1 t332 t333 t338 t339) = some r := by rw [if_neg (show ¬ (false = true) by decide)] at H; exact H
            clear H
            have H := H1
            clear H1
            have H' := Aside0.mk H
            clear H
            go_wp2
            go_meet
            case rel => exact ⟨_, (true), (by first | rfl | (simp; done) | (simp [*]; done) | (simp [*, Int.tdiv_eq_ediv_of_nonneg]; done)), H', ⟨by have := HJ6.out; first | omega | exact Nat.le_refl _⟩, ⟨by (with_reducible repeat (first | apply Kd.V_alloc | apply Kd.V_drewN | apply Kd.V_drew)); exact Kd.V_mono (Kd.V_far (p := ⟨gb343, 1, none⟩) (Kd.V_far (p := ⟨gb343, 0, none⟩) (Kd.V_mono HO335.out (fun k_ hk => (⟨hk, hk.2⟩ : _ ∧ k_ ≠ gb343))) (fun _ hk => hk.2) (.int .i64 t338)) (fun _ hk => hk.2) (.slice Ao31 t339.length co31)) (fun _ hk => ⟨hk.1.1.1, ⟨hk.1.1.2, hk.1.2⟩⟩)⟩, ⟨by (with_reducible repeat (first | apply Kd.V_alloc | apply Kd.V_drewN | apply Kd.V_drew)); exact Kd.V_mono (Kd.V_far (p := ⟨gb343, 1, none⟩) (Kd.V_far (p := ⟨gb343, 0, none⟩) (Kd.V_mono HO341.out (fun k_ hk => (⟨hk, hk.2⟩ : _ ∧ k_ ≠ gb343))) (fun _ hk => hk.2) (.int .i64 t338)) (fun _ hk => hk.2) (.slice Ao31 t339.length co31)) (fun _ hk => ⟨hk.1.1.1, ⟨hk.1.1.2, hk.1.2⟩⟩)⟩, ⟨by (with_reducible repeat (first | refine blk_drewN ?_ _ | refine blk_drew ?_ | refine blk_alloc ?_ _)); refine blk_far ?_ NB330_343.out _; (with_reducible repeat (first | refine blk_drewN ?_ _ | refine blk_drew ?_ | refine blk_alloc ?_ _)); refine blk_far ?_ NB330_343.out _; (with_reducible repeat (first | refine blk_drewN ?_ _ | refine blk_drew ?_ | refine blk_alloc ?_ _)); exact BK330.out⟩, ⟨by (with_reducible repeat (first | refine blk_drewN ?_ _ | refine blk_drew ?_ | refine blk_alloc ?_ _)); refine blk_far ?_ NB337_343.out _; (with_reducible repeat (first | refine blk_drewN ?_ _ | refine blk_drew ?_ | refine blk_alloc ?_ _)); refine blk_far ?_ NB337_343.out _; (with_reducible repeat (first | refine blk_drewN ?_ _ | refine blk_drew ?_ | refine blk_alloc ?_ _)); exact BK337.out⟩, ⟨by (with_reducible repeat (first | refine blk_drewN ?_ _ | refine blk_drew ?_ | refine blk_alloc ?_ _)); refine blk_put (cs := #[.int .i64 t338, .slice none 0 0]) ?_ 1 _ rfl; (with_reducible repeat (first | refine blk_drewN ?_ _ | refine blk_drew ?_ | refine blk_alloc ?_ _)); refine blk_put (cs := #[.int .i64 0, .slice none 0 0]) ?_ 0 _ rfl; (with_reducible repeat (first | refine blk_drewN ?_ _ | refine blk_drew ?_ | refine blk_alloc ?_ _)); exact BK343.out⟩, ⟨by repeat (first | (with_reducible first | exact HB.out | apply below_alloc | apply pw_below_drewN | apply below_drew1 | refine below_set ?_ GE330.out | refine below_set ?_ GE337.out | refine below_set ?_ GE343.out) | exact HB.out)⟩⟩
        case rest =>
          clear HC18
          try clear c1
          try clear c2
          try clear p2
          try clear c3
          try clear c4
          try clear c7
          try clear c10
          try clear c10b0
          try clear c10b1
          try clear c12
          try clear c12b0
          try clear c12b1
          try clear c15
          try clear c22
          try clear c28
          try clear c29
          try clear c32
          try clear hcz11_0
          try clear hcz11_1
          try clear hcz13_0
          try clear hcz13_1
          try clear hcz14_0
          try clear hcz14_1
          try clear hcz19_0
          try clear hcz19_1
          try clear hcz23_0
          try clear hcz23_1
          try clear hcz25_0
          try clear hcz25_1
          try clear hcz30_0
          try clear hcz30_1
          try clear hfz11_0
          try clear hfz11_1
          try clear hfz13_0
          try clear hfz13_1
          try clear hfz14_0
          try clear hfz14_1
          try clear hfz19_0
          try clear hfz19_1
          try clear hfz23_0
          try clear hfz23_1
          try clear hfz25_0
          try clear hfz25_1
          try clear hfz30_0
          try clear hfz30_1
          try clear p2
          obtain ⟨kq, x61_17, rfl, HA, HJ17, HO_338001, HO_344001, BK330, BK337, BK343, HB⟩ := hcut
          cases kq with
          | zero => exact absurd HA.out (by simp [chargeparklaw17_FlashOrder.j1])
          | succ kj17 =>
            have H := HA.out
            clear HA
            simp only [chargeparklaw17_FlashOrder.j1] at H
            by_cases c33 : x61_17 = true
            · subst c33
              have H1 : (some t331) = some r := by rw [if_pos rfl] at H; exact H
              clear H
              have H := H1
              clear H1
              obtain rfl := Option.some.inj H
              go_wp2
              go_ret
              exact ⟨by first | rfl | (simp [errW_none, errW_some] <;> rfl) | (simp [*, errW_none, errW_some] <;> rfl) | (rw [Int.tmod_eq_emod_of_nonneg (Int.natCast_nonneg _)]; rfl), by repeat (first | (with_reducible first | exact HB.out | apply below_alloc | apply pw_below_drewN | apply below_drew1 | refine below_set ?_ GE330.out | refine below_set ?_ GE337.out | refine below_set ?_ GE343.out) | exact HB.out)⟩
            · replace c33 := Bool.eq_false_iff.mpr c33
              subst c33
              have H1 : ((chargeparklaw17_done.f t332 t333 a3 l4).bind fun bt344 => ((chargeparklaw17_done.f t338 t339 a1 l2).bind fun bt350 => (if bt344.2.2 = true then (if bt350.2.2 = true then ((chargeparkref17_Same.f kj17 bt344.1 bt344.2.1 bt350.1 bt350.2.1).bind fun t356 => (chargeparklaw17_FlashOrder.j2 kj17 a1 l2 l4 t331 (!t356) a0_0 l0_1 t332 t333)) else (chargeparklaw17_FlashOrder.j2 kj17 a1 l2 l4 t331 true a0_0 l0_1 t332 t333)) else (chargeparklaw17_FlashOrder.j2 kj17 a1 l2 l4 t331 true a0_0 l0_1 t332 t333)))) = some r := by rw [if_neg (show ¬ (false = true) by decide)] at H; exact H
              clear H
              have H := H1
              clear H1
              replace H := Option.bind_eq_some_iff.mp H
              obtain ⟨⟨t344, t345, t348⟩, A340, H⟩ := H
              replace H : ((chargeparklaw17_done.f t338 t339 a1 l2).bind fun bt350 => (if t348 = true then (if bt350.2.2 = true then ((chargeparkref17_Same.f kj17 t344 t345 bt350.1 bt350.2.1).bind fun t356 => (chargeparklaw17_FlashOrder.j2 kj17 a1 l2 l4 t331 (!t356) a0_0 l0_1 t332 t333)) else (chargeparklaw17_FlashOrder.j2 kj17 a1 l2 l4 t331 true a0_0 l0_1 t332 t333)) else (chargeparklaw17_FlashOrder.j2 kj17 a1 l2 l4 t331 true a0_0 l0_1 t332 t333))) = some r := H
              have A34 := Aside0.mk A340
              clear A340
              replace H := Option.bind_eq_some_iff.mp H
              obtain ⟨⟨t350, t351, t354⟩, A350, H⟩ := H
              replace H : (if t348 = true then (if t354 = true then ((chargeparkref17_Same.f kj17 t344 t345 t350 t351).bind fun t356 => (chargeparklaw17_FlashOrder.j2 kj17 a1 l2 l4 t331 (!t356) a0_0 l0_1 t332 t333)) else (chargeparklaw17_FlashOrder.j2 kj17 a1 l2 l4 t331 true a0_0 l0_1 t332 t333)) else (chargeparklaw17_FlashOrder.j2 kj17 a1 l2 l4 t331 true a0_0 l0_1 t332 t333)) = some r := H
              have A35 := Aside0.mk A350
              clear A350
              have HC36 := Aside0.mk H
              clear H
              have hnb37 := NB337_330.out
              have hnc37 := NB330_337.out
              have hnb38 := NB337_343.out
              have hnc38 := NB343_337.out
              have hcz39_0 : wc.cell? ⟨gb337, 0, none⟩ = some (.int .i64 t332) := (blk_cell BK337.out 0).trans rfl
              have hcz39_1 : wc.cell? ⟨gb337, 1, none⟩ = some (.slice Ao24 t333.length co24) := (blk_cell BK337.out 1).trans rfl
              have hfz39_0 := blk_frozen BK337.out 0
              have hfz39_1 := blk_frozen BK337.out 1
              go_upto_region 10 with (first | ((with_reducible refine gate_callee (f := 22) rfl ?_); refine goesL_ (some 67) rfl rfl Try.func22 (by kernel_rfl) rfl #[.agg #[.int .i64 t332, .slice Ao24 t333.length co24], .int .i64 a3, .slice A4 l4.length c4] rfl (by (try simp only [List.map_toArray, List.map_cons, List.map_nil]); first | done | rfl | (simp only [List.length_drop, List.length_take]; rfl)) ?_; (with_reducible refine (chargeparklaw17_done.calls t332 _ _ t333 a3 _ _ l4 t344 t345 t348 _ ?side1 ?side2 ?side3 ?side4 A34.out).mono ?_); (case side1 => repeat (first | exact (Kd.V_reads' HO_338001.out).2.2 | (with_reducible refine Kd.C_alloc ?_ _) | (with_reducible refine Kd.C_drewN ?_ _) | (with_reducible refine Kd.C_drew ?_))); (case side2 => exact (Kd.V_reads' HO_338001.out).2.1); (case side3 => repeat (first | exact (Kd.C_below HR4.out HB.out) | (with_reducible refine Kd.C_alloc ?_ _) | (with_reducible refine Kd.C_drewN ?_ _) | (with_reducible refine Kd.C_drew ?_))); (case side4 => exact HC4.out); rintro e w40 ⟨v346, rfl, ho0, hb⟩; refine ⟨_, rfl, ?_⟩; have n0_ := Aside0.mk (Kd.V_below (by (with_reducible repeat (first | apply Kd.V_alloc | apply Kd.V_drewN | apply Kd.V_drew)); exact HO_338001.out) hb); have n1_ := Aside0.mk (Kd.V_below (by (with_reducible repeat (first | apply Kd.V_alloc | apply Kd.V_drewN | apply Kd.V_drew)); exact HO_344001.out) hb); have n2_ := Aside0.mk (Kd.V_lower (Kd.V_mono (ok' := fun k_ => k_ ≠ gb330 ∧ k_ ≠ gb337 ∧ k_ ≠ gb343) ho0 (fun k_ hk_ => ⟨(Kd.freshB (g := gb330) (o := .cells #[.int .i64 a0_0, .slice A0_1 l0_1.length c0_1] 24 (0, 0)) (by (with_reducible repeat (first | refine blk_drewN ?_ _ | refine blk_drew ?_ | refine blk_alloc ?_ _)); exact BK330.out) k_ hk_), (Kd.freshB (g := gb337) (o := .cells #[.int .i64 t332, .slice Ao24 t333.length co24] 24 (0, 0)) (by (with_reducible repeat (first | refine blk_drewN ?_ _ | refine blk_drew ?_ | refine blk_alloc ?_ _)); exact BK337.out) k_ hk_), (Kd.freshB (g := gb343) (o := .cells #[.int .i64 t338, .slice Ao31 t339.length co31] 24 (0, 0)) (by (with_reducible repeat (first | refine blk_drewN ?_ _ | refine blk_drew ?_ | refine blk_alloc ?_ _)); exact BK343.out) k_ hk_)⟩)) (below_size (by repeat (first | (with_reducible first | exact HB.out | apply below_alloc | apply pw_below_drewN | apply below_drew1 | refine below_set ?_ GE330.out | refine below_set ?_ GE337.out | refine below_set ?_ GE343.out) | exact HB.out)))); have n3_ := Aside0.mk (blk_below (g := gb330) (o := .cells #[.int .i64 a0_0, .slice A0_1 l0_1.length c0_1] 24 (0, 0)) (by (with_reducible repeat (first | refine blk_drewN ?_ _ | refine blk_drew ?_ | refine blk_alloc ?_ _)); exact BK330.out) hb); have n4_ := Aside0.mk (blk_below (g := gb337) (o := .cells #[.int .i64 t332, .slice Ao24 t333.length co24] 24 (0, 0)) (by (with_reducible repeat (first | refine blk_drewN ?_ _ | refine blk_drew ?_ | refine blk_alloc ?_ _)); exact BK337.out) hb); have n5_ := Aside0.mk (blk_below (g := gb343) (o := .cells #[.int .i64 t338, .slice Ao31 t339.length co31] 24 (0, 0)) (by (with_reducible repeat (first | refine blk_drewN ?_ _ | refine blk_drew ?_ | refine blk_alloc ?_ _)); exact BK343.out) hb); have n6_ := Aside0.mk (below_step (by repeat (first | (with_reducible first | exact HB.out | apply below_alloc | apply pw_below_drewN | apply below_drew1 | refine below_set ?_ GE330.out | refine below_set ?_ GE337.out | refine below_set ?_ GE343.out) | exact HB.out)) hb); clear HO_338001; clear HO_344001; clear BK330; clear BK337; clear BK343; clear HB; have HO_338001 := n0_; have HO_344001 := n1_; have HO347 := n2_; have BK330 := n3_; have BK337 := n4_; have BK343 := n5_; have HB := n6_; clear n0_ n1_ n2_ n3_ n4_ n5_ n6_; (try clear hb); (try clear hb2); (try clear hk); (try clear hi); (try clear ho0)) | ((with_reducible refine gate_dst (N := 16) rfl ?_); (try (refine gate_guard (by rfl) ?_; dsimp only)); refine box_event ?hg (N := 16) ?hd (cs := #[.int .i64 0, .slice none 0 0]) (t := 24) ?hr ?_; (case hd => rfl); (case hg => rfl); (case hr => first | (go_simp; done) | (go_simp; rfl)); intro gb349 hg w41 hbox hb; have n0_ := Aside0.mk (Kd.V_below (Kd.V_elderB (by (with_reducible repeat (first | apply Kd.V_alloc | apply Kd.V_drewN | apply Kd.V_drew)); exact HO_338001.out) gb349 (Nat.le_of_eq hg.symm)) hb); have n1_ := Aside0.mk (Kd.V_below (Kd.V_elderB (by (with_reducible repeat (first | apply Kd.V_alloc | apply Kd.V_drewN | apply Kd.V_drew)); exact HO_344001.out) gb349 (Nat.le_of_eq hg.symm)) hb); have n2_ := Aside0.mk (Kd.V_below (Kd.V_elderB (by (with_reducible repeat (first | apply Kd.V_alloc | apply Kd.V_drewN | apply Kd.V_drew)); exact HO347.out) gb349 (Nat.le_of_eq hg.symm)) hb); have n3_ := Aside0.mk (blk_below (g := gb330) (o := .cells #[.int .i64 a0_0, .slice A0_1 l0_1.length c0_1] 24 (0, 0)) (by (with_reducible repeat (first | refine blk_drewN ?_ _ | refine blk_drew ?_ | refine blk_alloc ?_ _)); exact BK330.out) hb); have n4_ := Aside0.mk (blk_below (g := gb337) (o := .cells #[.int .i64 t332, .slice Ao24 t333.length co24] 24 (0, 0)) (by (with_reducible repeat (first | refine blk_drewN ?_ _ | refine blk_drew ?_ | refine blk_alloc ?_ _)); exact BK337.out) hb); have n5_ := Aside0.mk (blk_below (g := gb343) (o := .cells #[.int .i64 t338, .slice Ao31 t339.length co31] 24 (0, 0)) (by (with_reducible repeat (first | refine blk_drewN ?_ _ | refine blk_drew ?_ | refine blk_alloc ?_ _)); exact BK343.out) hb); have n6_ := Aside0.mk (below_step (by repeat (first | (with_reducible first | exact HB.out | apply below_alloc | apply pw_below_drewN | apply below_drew1 | refine below_set ?_ GE330.out | refine below_set ?_ GE337.out | refine below_set ?_ GE343.out) | exact HB.out)) hb); have n7_ := Aside0.mk (hbox); have n8_ := Aside0.mk ((by rw [hg]; exact (below_size (by repeat (first | (with_reducible first | exact HB.out | apply below_alloc | apply pw_below_drewN | apply below_drew1 | refine below_set ?_ GE330.out | refine below_set ?_ GE337.out | refine below_set ?_ GE343.out) | exact HB.out))) : w.heap.size ≤ gb349)); have n9_ := Aside0.mk ((by rw [hg]; exact (below_size (by repeat (first | (with_reducible first | exact HB.out | apply below_alloc | apply pw_below_drewN | apply below_drew1 | refine below_set ?_ GE330.out | refine below_set ?_ GE337.out | refine below_set ?_ GE343.out) | exact HB.out))) : w.heap.size ≤ gb349)); have n10_ := Aside0.mk ((by rw [hg]; exact Nat.ne_of_lt (blk_lt (g := gb330) (o := .cells #[.int .i64 a0_0, .slice A0_1 l0_1.length c0_1] 24 (0, 0)) (by (with_reducible repeat (first | refine blk_drewN ?_ _ | refine blk_drew ?_ | refine blk_alloc ?_ _)); exact BK330.out)) : gb330 ≠ gb349)); have n11_ := Aside0.mk ((by rw [hg]; exact Nat.ne_of_gt (blk_lt (g := gb330) (o := .cells #[.int .i64 a0_0, .slice A0_1 l0_1.length c0_1] 24 (0, 0)) (by (with_reducible repeat (first | refine blk_drewN ?_ _ | refine blk_drew ?_ | refine blk_alloc ?_ _)); exact BK330.out)) : gb349 ≠ gb330)); have n12_ := Aside0.mk ((by rw [hg]; exact Nat.ne_of_lt (blk_lt (g := gb337) (o := .cells #[.int .i64 t332, .slice Ao24 t333.length co24] 24 (0, 0)) (by (with_reducible repeat (first | refine blk_drewN ?_ _ | refine blk_drew ?_ | refine blk_alloc ?_ _)); exact BK337.out)) : gb337 ≠ gb349)); have n13_ := Aside0.mk ((by rw [hg]; exact Nat.ne_of_gt (blk_lt (g := gb337) (o := .cells #[.int .i64 t332, .slice Ao24 t333.length co24] 24 (0, 0)) (by (with_reducible repeat (first | refine blk_drewN ?_ _ | refine blk_drew ?_ | refine blk_alloc ?_ _)); exact BK337.out)) : gb349 ≠ gb337)); have n14_ := Aside0.mk ((by rw [hg]; exact Nat.ne_of_lt (blk_lt (g := gb343) (o := .cells #[.int .i64 t338, .slice Ao31 t339.length co31] 24 (0, 0)) (by (with_reducible repeat (first | refine blk_drewN ?_ _ | refine blk_drew ?_ | refine blk_alloc ?_ _)); exact BK343.out)) : gb343 ≠ gb349)); have n15_ := Aside0.mk ((by rw [hg]; exact Nat.ne_of_gt (blk_lt (g := gb343) (o := .cells #[.int .i64 t338, .slice Ao31 t339.length co31] 24 (0, 0)) (by (with_reducible repeat (first | refine blk_drewN ?_ _ | refine blk_drew ?_ | refine blk_alloc ?_ _)); exact BK343.out)) : gb349 ≠ gb343)); clear HO_338001; clear HO_344001; clear HO347; clear BK330; clear BK337; clear BK343; clear HB; have HO_338001 := n0_; have HO_344001 := n1_; have HO347 := n2_; have BK330 := n3_; have BK337 := n4_; have BK343 := n5_; have HB := n6_; have BK349 := n7_; have GW349 := n8_; have GE349 := n9_; have NB330_349 := n10_; have NB349_330 := n11_; have NB337_349 := n12_; have NB349_337 := n13_; have NB343_349 := n14_; have NB349_343 := n15_; clear n0_ n1_ n2_ n3_ n4_ n5_ n6_ n7_ n8_ n9_ n10_ n11_ n12_ n13_ n14_ n15_; clear hb hbox hg; have hnb42 := NB349_330.out; have hnc42 := NB330_349.out; have hnb43 := NB349_337.out; have hnc43 := NB337_349.out; have hnb44 := NB349_343.out; have hnc44 := NB343_349.out; have hcz45_0 : w41.cell? ⟨gb349, 0, none⟩ = some (.int .i64 0) := (blk_cell BK349.out 0).trans rfl; have hcz45_1 : w41.cell? ⟨gb349, 1, none⟩ = some (.slice none 0 0) := (blk_cell BK349.out 1).trans rfl; have hfz45_0 := blk_frozen BK349.out 0; have hfz45_1 := blk_frozen BK349.out 1; obtain ⟨Ao46, co46, eo46⟩ := Kd.V_slice HO347.out; subst eo46; have hnb47 := NB343_330.out; have hnc47 := NB330_343.out; have hcz48_0 : w41.cell? ⟨gb343, 0, none⟩ = some (.int .i64 t338) := (blk_cell BK343.out 0).trans rfl; have hcz48_1 : w41.cell? ⟨gb343, 1, none⟩ = some (.slice Ao31 t339.length co31) := (blk_cell BK343.out 1).trans rfl; have hfz48_0 := blk_frozen BK343.out 0; have hfz48_1 := blk_frozen BK343.out 1) | ((with_reducible refine gate_callee (f := 22) rfl ?_); refine goesL_ (some 74) rfl rfl Try.func22 (by kernel_rfl) rfl #[.agg #[.int .i64 t338, .slice Ao31 t339.length co31], .int .i64 a1, .slice A2 l2.length c2] rfl (by (try simp only [List.map_toArray, List.map_cons, List.map_nil]); first | done | rfl | (simp only [List.length_drop, List.length_take]; rfl)) ?_; (with_reducible refine (chargeparklaw17_done.calls t338 _ _ t339 a1 _ _ l2 t350 t351 t354 _ ?side1 ?side2 ?side3 ?side4 A35.out).mono ?_); (case side1 => refine (Kd.V_reads' (e := 5) (base := w.heap.size) (ok := fun k_ => ((k_ ≠ gb330 ∧ (k_ ≠ gb337 ∧ k_ ≠ gb343)) ∧ k_ ≠ gb349)) (n := t339.length) (c := co31) ?_).2.2; exact (by (with_reducible repeat (first | apply Kd.V_alloc | apply Kd.V_drewN | apply Kd.V_drew)); exact (Kd.V_mono (Kd.V_far (p := ⟨gb349, 1, none⟩) (Kd.V_far (p := ⟨gb349, 0, none⟩) (Kd.V_mono HO_344001.out (fun k_ hk => (⟨hk, hk.2⟩ : _ ∧ k_ ≠ gb349))) (fun _ hk => hk.2) (.int .i64 t344)) (fun _ hk => hk.2) (.slice Ao46 t345.length co46)) (fun _ h_ => h_.1)))); (case side2 => exact (Kd.V_reads' HO_344001.out).2.1); (case side3 => exact Kd.C_below HR2.out (by repeat (first | (with_reducible first | exact HB.out | apply below_alloc | apply pw_below_drewN | apply below_drew1 | refine below_set ?_ GE330.out | refine below_set ?_ GE337.out | refine below_set ?_ GE343.out | refine below_set ?_ GE349.out) | exact HB.out))); (case side4 => exact HC2.out); rintro e w49 ⟨v352, rfl, ho0, hb⟩; refine ⟨_, rfl, ?_⟩; have n0_ := Aside0.mk (Kd.V_below (by (with_reducible repeat (first | apply Kd.V_alloc | apply Kd.V_drewN | apply Kd.V_drew)); exact (Kd.V_mono (Kd.V_far (p := ⟨gb349, 1, none⟩) (Kd.V_far (p := ⟨gb349, 0, none⟩) (Kd.V_mono HO_338001.out (fun k_ hk => (⟨hk, hk.2⟩ : _ ∧ k_ ≠ gb349))) (fun _ hk => hk.2) (.int .i64 t344)) (fun _ hk => hk.2) (.slice Ao46 t345.length co46)) (fun _ h_ => h_.1))) hb); have n1_ := Aside0.mk (Kd.V_below (by (with_reducible repeat (first | apply Kd.V_alloc | apply Kd.V_drewN | apply Kd.V_drew)); exact (Kd.V_mono (Kd.V_far (p := ⟨gb349, 1, none⟩) (Kd.V_far (p := ⟨gb349, 0, none⟩) (Kd.V_mono HO_344001.out (fun k_ hk => (⟨hk, hk.2⟩ : _ ∧ k_ ≠ gb349))) (fun _ hk => hk.2) (.int .i64 t344)) (fun _ hk => hk.2) (.slice Ao46 t345.length co46)) (fun _ h_ => h_.1))) hb); have n2_ := Aside0.mk (Kd.V_below (by (with_reducible repeat (first | apply Kd.V_alloc | apply Kd.V_drewN | apply Kd.V_drew)); exact (Kd.V_mono (Kd.V_far (p := ⟨gb349, 1, none⟩) (Kd.V_far (p := ⟨gb349, 0, none⟩) (Kd.V_mono HO347.out (fun k_ hk => (⟨hk, hk.2⟩ : _ ∧ k_ ≠ gb349))) (fun _ hk => hk.2) (.int .i64 t344)) (fun _ hk => hk.2) (.slice Ao46 t345.length co46)) (fun _ h_ => h_.1))) hb); have n3_ := Aside0.mk (Kd.V_lower (Kd.V_mono (ok' := fun k_ => k_ ≠ gb330 ∧ k_ ≠ gb337 ∧ k_ ≠ gb343 ∧ k_ ≠ gb349) ho0 (fun k_ hk_ => ⟨(Kd.freshB (g := gb330) (o := .cells #[.int .i64 a0_0, .slice A0_1 l0_1.length c0_1] 24 (0, 0)) (by (with_reducible repeat (first | refine blk_drewN ?_ _ | refine blk_drew ?_ | refine blk_alloc ?_ _)); refine blk_far ?_ NB330_349.out _; (with_reducible repeat (first | refine blk_drewN ?_ _ | refine blk_drew ?_ | refine blk_alloc ?_ _)); refine blk_far ?_ NB330_349.out _; (with_reducible repeat (first | refine blk_drewN ?_ _ | refine blk_drew ?_ | refine blk_alloc ?_ _)); exact BK330.out) k_ hk_), (Kd.freshB (g := gb337) (o := .cells #[.int .i64 t332, .slice Ao24 t333.length co24] 24 (0, 0)) (by (with_reducible repeat (first | refine blk_drewN ?_ _ | refine blk_drew ?_ | refine blk_alloc ?_ _)); refine blk_far ?_ NB337_349.out _; (with_reducible repeat (first | refine blk_drewN ?_ _ | refine blk_drew ?_ | refine blk_alloc ?_ _)); refine blk_far ?_ NB337_349.out _; (with_reducible repeat (first | refine blk_drewN ?_ _ | refine blk_drew ?_ | refine blk_alloc ?_ _)); exact BK337.out) k_ hk_), (Kd.freshB (g := gb343) (o := .cells #[.int .i64 t338, .slice Ao31 t339.length co31] 24 (0, 0)) (by (with_reducible repeat (first | refine blk_drewN ?_ _ | refine blk_drew ?_ | refine blk_alloc ?_ _)); refine blk_far ?_ NB343_349.out _; (with_reducible repeat (first | refine blk_drewN ?_ _ | refine blk_drew ?_ | refine blk_alloc ?_ _)); refine blk_far ?_ NB343_349.out _; (with_reducible repeat (first | refine blk_drewN ?_ _ | refine blk_drew ?_ | refine blk_alloc ?_ _)); exact BK343.out) k_ hk_), (Kd.freshB (g := gb349) (o := .cells #[.int .i64 t344, .slice Ao46 t345.length co46] 24 (0, 0)) (by (with_reducible repeat (first | refine blk_drewN ?_ _ | refine blk_drew ?_ | refine blk_alloc ?_ _)); refine blk_put (cs := #[.int .i64 t344, .slice none 0 0]) ?_ 1 _ rfl; (with_reducible repeat (first | refine blk_drewN ?_ _ | refine blk_drew ?_ | refine blk_alloc ?_ _)); refine blk_put (cs := #[.int .i64 0, .slice none 0 0]) ?_ 0 _ rfl; (with_reducible repeat (first | refine blk_drewN ?_ _ | refine blk_drew ?_ | refine blk_alloc ?_ _)); exact BK349.out) k_ hk_)⟩)) (below_size (by repeat (first | (with_reducible first | exact HB.out | apply below_alloc | apply pw_below_drewN | apply below_drew1 | refine below_set ?_ GE330.out | refine below_set ?_ GE337.out | refine below_set ?_ GE343.out | refine below_set ?_ GE349.out) | exact HB.out)))); have n4_ := Aside0.mk (blk_below (g := gb330) (o := .cells #[.int .i64 a0_0, .slice A0_1 l0_1.length c0_1] 24 (0, 0)) (by (with_reducible repeat (first | refine blk_drewN ?_ _ | refine blk_drew ?_ | refine blk_alloc ?_ _)); refine blk_far ?_ NB330_349.out _; (with_reducible repeat (first | refine blk_drewN ?_ _ | refine blk_drew ?_ | refine blk_alloc ?_ _)); refine blk_far ?_ NB330_349.out _; (with_reducible repeat (first | refine blk_drewN ?_ _ | refine blk_drew ?_ | refine blk_alloc ?_ _)); exact BK330.out) hb); have n5_ := Aside0.mk (blk_below (g := gb337) (o := .cells #[.int .i64 t332, .slice Ao24 t333.length co24] 24 (0, 0)) (by (with_reducible repeat (first | refine blk_drewN ?_ _ | refine blk_drew ?_ | refine blk_alloc ?_ _)); refine blk_far ?_ NB337_349.out _; (with_reducible repeat (first | refine blk_drewN ?_ _ | refine blk_drew ?_ | refine blk_alloc ?_ _)); refine blk_far ?_ NB337_349.out _; (with_reducible repeat (first | refine blk_drewN ?_ _ | refine blk_drew ?_ | refine blk_alloc ?_ _)); exact BK337.out) hb); have n6_ := Aside0.mk (blk_below (g := gb343) (o := .cells #[.int .i64 t338, .slice Ao31 t339.length co31] 24 (0, 0)) (by (with_reducible repeat (first | refine blk_drewN ?_ _ | refine blk_drew ?_ | refine blk_alloc ?_ _)); refine blk_far ?_ NB343_349.out _; (with_reducible repeat (first | refine blk_drewN ?_ _ | refine blk_drew ?_ | refine blk_alloc ?_ _)); refine blk_far ?_ NB343_349.out _; (with_reducible repeat (first | refine blk_drewN ?_ _ | refine blk_drew ?_ | refine blk_alloc ?_ _)); exact BK343.out) hb); have n7_ := Aside0.mk (blk_below (g := gb349) (o := .cells #[.int .i64 t344, .slice Ao46 t345.length co46] 24 (0, 0)) (by (with_reducible repeat (first | refine blk_drewN ?_ _ | refine blk_drew ?_ | refine blk_alloc ?_ _)); refine blk_put (cs := #[.int .i64 t344, .slice none 0 0]) ?_ 1 _ rfl; (with_reducible repeat (first | refine blk_drewN ?_ _ | refine blk_drew ?_ | refine blk_alloc ?_ _)); refine blk_put (cs := #[.int .i64 0, .slice none 0 0]) ?_ 0 _ rfl; (with_reducible repeat (first | refine blk_drewN ?_ _ | refine blk_drew ?_ | refine blk_alloc ?_ _)); exact BK349.out) hb); have n8_ := Aside0.mk (below_step (by repeat (first | (with_reducible first | exact HB.out | apply below_alloc | apply pw_below_drewN | apply below_drew1 | refine below_set ?_ GE330.out | refine below_set ?_ GE337.out | refine below_set ?_ GE343.out | refine below_set ?_ GE349.out) | exact HB.out)) hb); clear HO_338001; clear HO_344001; clear HO347; clear BK330; clear BK337; clear BK343; clear BK349; clear HB; have HO_338001 := n0_; have HO_344001 := n1_; have HO347 := n2_; have HO353 := n3_; have BK330 := n4_; have BK337 := n5_; have BK343 := n6_; have BK349 := n7_; have HB := n8_; clear n0_ n1_ n2_ n3_ n4_ n5_ n6_ n7_ n8_; (try clear hb); (try clear hb2); (try clear hk); (try clear hi); (try clear ho0)) | ((with_reducible refine gate_dst (N := 18) rfl ?_); (try (refine gate_guard (by rfl) ?_; dsimp only)); refine box_event ?hg (N := 18) ?hd (cs := #[.int .i64 0, .slice none 0 0]) (t := 24) ?hr ?_; (case hd => rfl); (case hg => rfl); (case hr => first | (go_simp; done) | (go_simp; rfl)); intro gb355 hg w50 hbox hb; have n0_ := Aside0.mk (Kd.V_below (Kd.V_elderB (by (with_reducible repeat (first | apply Kd.V_alloc | apply Kd.V_drewN | apply Kd.V_drew)); exact HO_338001.out) gb355 (Nat.le_of_eq hg.symm)) hb); have n1_ := Aside0.mk (Kd.V_below (Kd.V_elderB (by (with_reducible repeat (first | apply Kd.V_alloc | apply Kd.V_drewN | apply Kd.V_drew)); exact HO_344001.out) gb355 (Nat.le_of_eq hg.symm)) hb); have n2_ := Aside0.mk (Kd.V_below (Kd.V_elderB (by (with_reducible repeat (first | apply Kd.V_alloc | apply Kd.V_drewN | apply Kd.V_drew)); exact HO347.out) gb355 (Nat.le_of_eq hg.symm)) hb); have n3_ := Aside0.mk (Kd.V_below (Kd.V_elderB (by (with_reducible repeat (first | apply Kd.V_alloc | apply Kd.V_drewN | apply Kd.V_drew)); exact HO353.out) gb355 (Nat.le_of_eq hg.symm)) hb); have n4_ := Aside0.mk (blk_below (g := gb330) (o := .cells #[.int .i64 a0_0, .slice A0_1 l0_1.length c0_1] 24 (0, 0)) (by (with_reducible repeat (first | refine blk_drewN ?_ _ | refine blk_drew ?_ | refine blk_alloc ?_ _)); exact BK330.out) hb); have n5_ := Aside0.mk (blk_below (g := gb337) (o := .cells #[.int .i64 t332, .slice Ao24 t333.length co24] 24 (0, 0)) (by (with_reducible repeat (first | refine blk_drewN ?_ _ | refine blk_drew ?_ | refine blk_alloc ?_ _)); exact BK337.out) hb); have n6_ := Aside0.mk (blk_below (g := gb343) (o := .cells #[.int .i64 t338, .slice Ao31 t339.length co31] 24 (0, 0)) (by (with_reducible repeat (first | refine blk_drewN ?_ _ | refine blk_drew ?_ | refine blk_alloc ?_ _)); exact BK343.out) hb); have n7_ := Aside0.mk (blk_below (g := gb349) (o := .cells #[.int .i64 t344, .slice Ao46 t345.length co46] 24 (0, 0)) (by (with_reducible repeat (first | refine blk_drewN ?_ _ | refine blk_drew ?_ | refine blk_alloc ?_ _)); exact BK349.out) hb); have n8_ := Aside0.mk (below_step (by repeat (first | (with_reducible first | exact HB.out | apply below_alloc | apply pw_below_drewN | apply below_drew1 | refine below_set ?_ GE330.out | refine below_set ?_ GE337.out | refine below_set ?_ GE343.out | refine below_set ?_ GE349.out) | exact HB.out)) hb); have n9_ := Aside0.mk (hbox); have n10_ := Aside0.mk ((by rw [hg]; exact (below_size (by repeat (first | (with_reducible first | exact HB.out | apply below_alloc | apply pw_below_drewN | apply below_drew1 | refine below_set ?_ GE330.out | refine below_set ?_ GE337.out | refine below_set ?_ GE343.out | refine below_set ?_ GE349.out) | exact HB.out))) : w.heap.size ≤ gb355)); have n11_ := Aside0.mk ((by rw [hg]; exact (below_size (by repeat (first | (with_reducible first | exact HB.out | apply below_alloc | apply pw_below_drewN | apply below_drew1 | refine below_set ?_ GE330.out | refine below_set ?_ GE337.out | refine below_set ?_ GE343.out | refine below_set ?_ GE349.out) | exact HB.out))) : w.heap.size ≤ gb355)); have n12_ := Aside0.mk ((by rw [hg]; exact Nat.ne_of_lt (blk_lt (g := gb330) (o := .cells #[.int .i64 a0_0, .slice A0_1 l0_1.length c0_1] 24 (0, 0)) (by (with_reducible repeat (first | refine blk_drewN ?_ _ | refine blk_drew ?_ | refine blk_alloc ?_ _)); exact BK330.out)) : gb330 ≠ gb355)); have n13_ := Aside0.mk ((by rw [hg]; exact Nat.ne_of_gt (blk_lt (g := gb330) (o := .cells #[.int .i64 a0_0, .slice A0_1 l0_1.length c0_1] 24 (0, 0)) (by (with_reducible repeat (first | refine blk_drewN ?_ _ | refine blk_drew ?_ | refine blk_alloc ?_ _)); exact BK330.out)) : gb355 ≠ gb330)); have n14_ := Aside0.mk ((by rw [hg]; exact Nat.ne_of_lt (blk_lt (g := gb337) (o := .cells #[.int .i64 t332, .slice Ao24 t333.length co24] 24 (0, 0)) (by (with_reducible repeat (first | refine blk_drewN ?_ _ | refine blk_drew ?_ | refine blk_alloc ?_ _)); exact BK337.out)) : gb337 ≠ gb355)); have n15_ := Aside0.mk ((by rw [hg]; exact Nat.ne_of_gt (blk_lt (g := gb337) (o := .cells #[.int .i64 t332, .slice Ao24 t333.length co24] 24 (0, 0)) (by (with_reducible repeat (first | refine blk_drewN ?_ _ | refine blk_drew ?_ | refine blk_alloc ?_ _)); exact BK337.out)) : gb355 ≠ gb337)); have n16_ := Aside0.mk ((by rw [hg]; exact Nat.ne_of_lt (blk_lt (g := gb343) (o := .cells #[.int .i64 t338, .slice Ao31 t339.length co31] 24 (0, 0)) (by (with_reducible repeat (first | refine blk_drewN ?_ _ | refine blk_drew ?_ | refine blk_alloc ?_ _)); exact BK343.out)) : gb343 ≠ gb355)); have n17_ := Aside0.mk ((by rw [hg]; exact Nat.ne_of_gt (blk_lt (g := gb343) (o := .cells #[.int .i64 t338, .slice Ao31 t339.length co31] 24 (0, 0)) (by (with_reducible repeat (first | refine blk_drewN ?_ _ | refine blk_drew ?_ | refine blk_alloc ?_ _)); exact BK343.out)) : gb355 ≠ gb343)); have n18_ := Aside0.mk ((by rw [hg]; exact Nat.ne_of_lt (blk_lt (g := gb349) (o := .cells #[.int .i64 t344, .slice Ao46 t345.length co46] 24 (0, 0)) (by (with_reducible repeat (first | refine blk_drewN ?_ _ | refine blk_drew ?_ | refine blk_alloc ?_ _)); exact BK349.out)) : gb349 ≠ gb355)); have n19_ := Aside0.mk ((by rw [hg]; exact Nat.ne_of_gt (blk_lt (g := gb349) (o := .cells #[.int .i64 t344, .slice Ao46 t345.length co46] 24 (0, 0)) (by (with_reducible repeat (first | refine blk_drewN ?_ _ | refine blk_drew ?_ | refine blk_alloc ?_ _)); exact BK349.out)) : gb355 ≠ gb349)); clear HO_338001; clear HO_344001; clear HO347; clear HO353; clear BK330; clear BK337; clear BK343; clear BK349; clear HB; have HO_338001 := n0_; have HO_344001 := n1_; have HO347 := n2_; have HO353 := n3_; have BK330 := n4_; have BK337 := n5_; have BK343 := n6_; have BK349 := n7_; have HB := n8_; have BK355 := n9_; have GW355 := n10_; have GE355 := n11_; have NB330_355 := n12_; have NB355_330 := n13_; have NB337_355 := n14_; have NB355_337 := n15_; have NB343_355 := n16_; have NB355_343 := n17_; have NB349_355 := n18_; have NB355_349 := n19_; clear n0_ n1_ n2_ n3_ n4_ n5_ n6_ n7_ n8_ n9_ n10_ n11_ n12_ n13_ n14_ n15_ n16_ n17_ n18_ n19_; clear hb hbox hg; have hnb51 := NB355_330.out; have hnc51 := NB330_355.out; have hnb52 := NB355_337.out; have hnc52 := NB337_355.out; have hnb53 := NB355_343.out; have hnc53 := NB343_355.out; have hnb54 := NB355_349.out; have hnc54 := NB349_355.out; have hcz55_0 : w50.cell? ⟨gb355, 0, none⟩ = some (.int .i64 0) := (blk_cell BK355.out 0).trans rfl; have hcz55_1 : w50.cell? ⟨gb355, 1, none⟩ = some (.slice none 0 0) := (blk_cell BK355.out 1).trans rfl; have hfz55_0 := blk_frozen BK355.out 0; have hfz55_1 := blk_frozen BK355.out 1; obtain ⟨Ao56, co56, eo56⟩ := Kd.V_slice HO353.out; subst eo56))
              (try simp only [Act.put, List.setIfInBounds_toArray, List.set_cons_zero, List.set_cons_succ])
              go_cut [88] (fun v88 wc => ∃ (kq : Nat) (x88_35 : Bool), v88 = .bool x88_35 ∧ Aside0 (chargeparklaw17_FlashOrder.j2 kq a1 l2 l4 t331 x88_35 a0_0 l0_1 t332 t333 = some r) ∧ Aside0 (kq ≤ kj17) ∧ Aside0 (Kd.V (Kd.int .u8) 5 wc w.heap.size (fun k_ => k_ ≠ gb330 ∧ k_ ≠ gb337 ∧ k_ ≠ gb343 ∧ k_ ≠ gb349 ∧ k_ ≠ gb355) (.slice Ao24 t333.length co24) t333) ∧ Aside0 (Kd.V (Kd.int .u8) 5 wc w.heap.size (fun k_ => k_ ≠ gb330 ∧ k_ ≠ gb337 ∧ k_ ≠ gb343 ∧ k_ ≠ gb349 ∧ k_ ≠ gb355) (.slice Ao31 t339.length co31) t339) ∧ Aside0 (Kd.V (Kd.int .u8) 5 wc w.heap.size (fun k_ => k_ ≠ gb330 ∧ k_ ≠ gb337 ∧ k_ ≠ gb343 ∧ k_ ≠ gb349 ∧ k_ ≠ gb355) (.slice Ao46 t345.length co46) t345) ∧ Aside0 (Kd.V (Kd.int .u8) 5 wc w.heap.size (fun k_ => k_ ≠ gb330 ∧ k_ ≠ gb337 ∧ k_ ≠ gb343 ∧ k_ ≠ gb349 ∧ k_ ≠ gb355) (.slice Ao56 t351.length co56) t351) ∧ Aside0 (wc.heap[gb330]? = some (.cells #[.int .i64 a0_0, (.slice A0_1 l0_1.length c0_1)] 24 (0, 0))) ∧ Aside0 (wc.heap[gb337]? = some (.cells #[.int .i64 t332, (.slice Ao24 t333.length co24)] 24 (0, 0))) ∧ Aside0 (wc.heap[gb343]? = some (.cells #[.int .i64 t338, (.slice Ao31 t339.length co31)] 24 (0, 0))) ∧ Aside0 (wc.heap[gb349]? = some (.cells #[.int .i64 t344, (.slice Ao46 t345.length co46)] 24 (0, 0))) ∧ Aside0 (wc.heap[gb355]? = some (.cells #[.int .i64 t350, (.slice Ao56 t351.length co56)] 24 (0, 0))) ∧ Aside0 (Below w.heap.size w wc))
              case first =>
                have H := HC36.out
                clear HC36
                by_cases c57 : t348 = true
                · subst c57
                  have H1 : (if t354 = true then ((chargeparkref17_Same.f kj17 t344 t345 t350 t351).bind fun t356 => (chargeparklaw17_FlashOrder.j2 kj17 a1 l2 l4 t331 (!t356) a0_0 l0_1 t332 t333)) else (chargeparklaw17_FlashOrder.j2 kj17 a1 l2 l4 t331 true a0_0 l0_1 t332 t333)) = some r := by rw [if_pos rfl] at H; exact H
                  clear H
                  have H := H1
                  clear H1
                  by_cases c58 : t354 = true
                  · subst c58
                    have H1 : ((chargeparkref17_Same.f kj17 t344 t345 t350 t351).bind fun t356 => (chargeparklaw17_FlashOrder.j2 kj17 a1 l2 l4 t331 (!t356) a0_0 l0_1 t332 t333)) = some r := by rw [if_pos rfl] at H; exact H
                    clear H
                    have H := H1
                    clear H1
                    replace H := Option.bind_eq_some_iff.mp H
                    obtain ⟨t356, A590, H⟩ := H
                    replace H : (chargeparklaw17_FlashOrder.j2 kj17 a1 l2 l4 t331 (!t356) a0_0 l0_1 t332 t333) = some r := H
                    have A59 := Aside0.mk A590
                    clear A590
                    have H' := Aside0.mk H
                    clear H
                    have hnb60 := NB349_330.out
                    have hnc60 := NB330_349.out
                    have hnb61 := NB349_337.out
                    have hnc61 := NB337_349.out
                    have hnb62 := NB349_343.out
                    have hnc62 := NB343_349.out
                    have hnb63 := NB349_355.out
                    have hnc63 := NB355_349.out
                    have hcz64_0 : w50.cell? ⟨gb349, 0, none⟩ = some (.int .i64 t344) := (blk_cell BK349.out 0).trans rfl
                    have hcz64_1 : w50.cell? ⟨gb349, 1, none⟩ = some (.slice Ao46 t345.length co46) := (blk_cell BK349.out 1).trans rfl
                    have hfz64_0 := blk_frozen BK349.out 0
                    have hfz64_1 := blk_frozen BK349.out 1
                    have hnb65 := NB355_330.out
                    have hnc65 := NB330_355.out
                    have hnb66 := NB355_337.out
                    have hnc66 := NB337_355.out
                    have hnb67 := NB355_343.out
                    have hnc67 := NB343_355.out
                    have hcz68_0 : w50.cell? ⟨gb355, 0, none⟩ = some (.int .i64 0) := (blk_cell BK355.out 0).trans rfl
                    have hcz68_1 : w50.cell? ⟨gb355, 1, none⟩ = some (.slice none 0 0) := (blk_cell BK355.out 1).trans rfl
                    have hfz68_0 := blk_frozen BK355.out 0
                    have hfz68_1 := blk_frozen BK355.out 1
                    go_wp2_with (first | (go_at_call 13; (with_reducible refine (chargeparkref17_Same.calls kj17 t344 _ _ t345 t350 _ _ t351 t356 _ ?side1 ?side2 ?side3 ?side4 A59.out).mono ?_); (case side1 => refine (Kd.V_reads' (e := 5) (base := w.heap.size) (ok := fun k_ => (((k_ ≠ gb330 ∧ (k_ ≠ gb337 ∧ k_ ≠ gb343)) ∧ k_ ≠ gb349) ∧ k_ ≠ gb355)) (n := t345.length) (c := co46) ?_).2.2; exact (by (with_reducible repeat (first | apply Kd.V_alloc | apply Kd.V_drewN | apply Kd.V_drew)); exact (Kd.V_mono (Kd.V_far (p := ⟨gb355, 1, none⟩) (Kd.V_far (p := ⟨gb355, 0, none⟩) (Kd.V_mono HO347.out (fun k_ hk => (⟨hk, hk.2⟩ : _ ∧ k_ ≠ gb355))) (fun _ hk => hk.2) (.int .i64 t350)) (fun _ hk => hk.2) (.slice Ao56 t351.length co56)) (fun _ h_ => h_.1)))); (case side2 => exact (Kd.V_reads' HO347.out).2.1); (case side3 => refine (Kd.V_reads' (e := 5) (base := w.heap.size) (ok := fun k_ => ((k_ ≠ gb330 ∧ (k_ ≠ gb337 ∧ (k_ ≠ gb343 ∧ k_ ≠ gb349))) ∧ k_ ≠ gb355)) (n := t351.length) (c := co56) ?_).2.2; exact (by (with_reducible repeat (first | apply Kd.V_alloc | apply Kd.V_drewN | apply Kd.V_drew)); exact (Kd.V_mono (Kd.V_far (p := ⟨gb355, 1, none⟩) (Kd.V_far (p := ⟨gb355, 0, none⟩) (Kd.V_mono HO353.out (fun k_ hk => (⟨hk, hk.2⟩ : _ ∧ k_ ≠ gb355))) (fun _ hk => hk.2) (.int .i64 t350)) (fun _ hk => hk.2) (.slice Ao56 t351.length co56)) (fun _ h_ => h_.1)))); (case side4 => exact (Kd.V_reads' HO353.out).2.1); rintro e w69 ⟨rfl, hb⟩; have n0_ := Aside0.mk (Kd.V_below (by (with_reducible repeat (first | apply Kd.V_alloc | apply Kd.V_drewN | apply Kd.V_drew)); exact (Kd.V_mono (Kd.V_far (p := ⟨gb355, 1, none⟩) (Kd.V_far (p := ⟨gb355, 0, none⟩) (Kd.V_mono HO_338001.out (fun k_ hk => (⟨hk, hk.2⟩ : _ ∧ k_ ≠ gb355))) (fun _ hk => hk.2) (.int .i64 t350)) (fun _ hk => hk.2) (.slice Ao56 t351.length co56)) (fun _ h_ => h_.1))) hb); have n1_ := Aside0.mk (Kd.V_below (by (with_reducible repeat (first | apply Kd.V_alloc | apply Kd.V_drewN | apply Kd.V_drew)); exact (Kd.V_mono (Kd.V_far (p := ⟨gb355, 1, none⟩) (Kd.V_far (p := ⟨gb355, 0, none⟩) (Kd.V_mono HO_344001.out (fun k_ hk => (⟨hk, hk.2⟩ : _ ∧ k_ ≠ gb355))) (fun _ hk => hk.2) (.int .i64 t350)) (fun _ hk => hk.2) (.slice Ao56 t351.length co56)) (fun _ h_ => h_.1))) hb); have n2_ := Aside0.mk (Kd.V_below (by (with_reducible repeat (first | apply Kd.V_alloc | apply Kd.V_drewN | apply Kd.V_drew)); exact (Kd.V_mono (Kd.V_far (p := ⟨gb355, 1, none⟩) (Kd.V_far (p := ⟨gb355, 0, none⟩) (Kd.V_mono HO347.out (fun k_ hk => (⟨hk, hk.2⟩ : _ ∧ k_ ≠ gb355))) (fun _ hk => hk.2) (.int .i64 t350)) (fun _ hk => hk.2) (.slice Ao56 t351.length co56)) (fun _ h_ => h_.1))) hb); have n3_ := Aside0.mk (Kd.V_below (by (with_reducible repeat (first | apply Kd.V_alloc | apply Kd.V_drewN | apply Kd.V_drew)); exact (Kd.V_mono (Kd.V_far (p := ⟨gb355, 1, none⟩) (Kd.V_far (p := ⟨gb355, 0, none⟩) (Kd.V_mono HO353.out (fun k_ hk => (⟨hk, hk.2⟩ : _ ∧ k_ ≠ gb355))) (fun _ hk => hk.2) (.int .i64 t350)) (fun _ hk => hk.2) (.slice Ao56 t351.length co56)) (fun _ h_ => h_.1))) hb); have n4_ := Aside0.mk (blk_below (g := gb330) (o := .cells #[.int .i64 a0_0, .slice A0_1 l0_1.length c0_1] 24 (0, 0)) (by (with_reducible repeat (first | refine blk_drewN ?_ _ | refine blk_drew ?_ | refine blk_alloc ?_ _)); refine blk_far ?_ NB330_355.out _; (with_reducible repeat (first | refine blk_drewN ?_ _ | refine blk_drew ?_ | refine blk_alloc ?_ _)); refine blk_far ?_ NB330_355.out _; (with_reducible repeat (first | refine blk_drewN ?_ _ | refine blk_drew ?_ | refine blk_alloc ?_ _)); exact BK330.out) hb); have n5_ := Aside0.mk (blk_below (g := gb337) (o := .cells #[.int .i64 t332, .slice Ao24 t333.length co24] 24 (0, 0)) (by (with_reducible repeat (first | refine blk_drewN ?_ _ | refine blk_drew ?_ | refine blk_alloc ?_ _)); refine blk_far ?_ NB337_355.out _; (with_reducible repeat (first | refine blk_drewN ?_ _ | refine blk_drew ?_ | refine blk_alloc ?_ _)); refine blk_far ?_ NB337_355.out _; (with_reducible repeat (first | refine blk_drewN ?_ _ | refine blk_drew ?_ | refine blk_alloc ?_ _)); exact BK337.out) hb); have n6_ := Aside0.mk (blk_below (g := gb343) (o := .cells #[.int .i64 t338, .slice Ao31 t339.length co31] 24 (0, 0)) (by (with_reducible repeat (first | refine blk_drewN ?_ _ | refine blk_drew ?_ | refine blk_alloc ?_ _)); refine blk_far ?_ NB343_355.out _; (with_reducible repeat (first | refine blk_drewN ?_ _ | refine blk_drew ?_ | refine blk_alloc ?_ _)); refine blk_far ?_ NB343_355.out _; (with_reducible repeat (first | refine blk_drewN ?_ _ | refine blk_drew ?_ | refine blk_alloc ?_ _)); exact BK343.out) hb); have n7_ := Aside0.mk (blk_below (g := gb349) (o := .cells #[.int .i64 t344, .slice Ao46 t345.length co46] 24 (0, 0)) (by (with_reducible repeat (first | refine blk_drewN ?_ _ | refine blk_drew ?_ | refine blk_alloc ?_ _)); refine blk_far ?_ NB349_355.out _; (with_reducible repeat (first | refine blk_drewN ?_ _ | refine blk_drew ?_ | refine blk_alloc ?_ _)); refine blk_far ?_ NB349_355.out _; (with_reducible repeat (first | refine blk_drewN ?_ _ | refine blk_drew ?_ | refine blk_alloc ?_ _)); exact BK349.out) hb); have n8_ := Aside0.mk (blk_below (g := gb355) (o := .cells #[.int .i64 t350, .slice Ao56 t351.length co56] 24 (0, 0)) (by (with_reducible repeat (first | refine blk_drewN ?_ _ | refine blk_drew ?_ | refine blk_alloc ?_ _)); refine blk_put (cs := #[.int .i64 t350, .slice none 0 0]) ?_ 1 _ rfl; (with_reducible repeat (first | refine blk_drewN ?_ _ | refine blk_drew ?_ | refine blk_alloc ?_ _)); refine blk_put (cs := #[.int .i64 0, .slice none 0 0]) ?_ 0 _ rfl; (with_reducible repeat (first | refine blk_drewN ?_ _ | refine blk_drew ?_ | refine blk_alloc ?_ _)); exact BK355.out) hb); have n9_ := Aside0.mk (below_step (by repeat (first | (with_reducible first | exact HB.out | apply below_alloc | apply pw_below_drewN | apply below_drew1 | refine below_set ?_ GE330.out | refine below_set ?_ GE337.out | refine below_set ?_ GE343.out | refine below_set ?_ GE349.out | refine below_set ?_ GE355.out) | exact HB.out)) hb); clear HO_338001; clear HO_344001; clear HO347; clear HO353; clear BK330; clear BK337; clear BK343; clear BK349; clear BK355; clear HB; have HO_338001 := n0_; have HO_344001 := n1_; have HO347 := n2_; have HO353 := n3_; have BK330 := n4_; have BK337 := n5_; have BK343 := n6_; have BK349 := n7_; have BK355 := n8_; have HB := n9_; clear n0_ n1_ n2_ n3_ n4_ n5_ n6_ n7_ n8_ n9_; (try clear hb); (try clear hb2); (try clear hk); (try clear hi)))
                    go_meet
                    case rel => exact ⟨_, (!t356), (by first | rfl | (simp; done) | (simp [*]; done) | (simp [*, Int.tdiv_eq_ediv_of_nonneg]; done)), H', ⟨by have := HJ6.out; have := HJ17.out; first | omega | exact Nat.le_refl _⟩, ⟨by (with_reducible repeat (first | apply Kd.V_alloc | apply Kd.V_drewN | apply Kd.V_drew)); exact Kd.V_mono HO_338001.out (fun _ hk => ⟨hk.1.1.1, ⟨hk.1.1.2.1, ⟨hk.1.1.2.2, ⟨hk.1.2, hk.2⟩⟩⟩⟩)⟩, ⟨by (with_reducible repeat (first | apply Kd.V_alloc | apply Kd.V_drewN | apply Kd.V_drew)); exact Kd.V_mono HO_344001.out (fun _ hk => ⟨hk.1.1.1, ⟨hk.1.1.2.1, ⟨hk.1.1.2.2, ⟨hk.1.2, hk.2⟩⟩⟩⟩)⟩, ⟨by (with_reducible repeat (first | apply Kd.V_alloc | apply Kd.V_drewN | apply Kd.V_drew)); exact Kd.V_mono HO347.out (fun _ hk => ⟨hk.1.1.1, ⟨hk.1.1.2.1, ⟨hk.1.1.2.2, ⟨hk.1.2, hk.2⟩⟩⟩⟩)⟩, ⟨by (with_reducible repeat (first | apply Kd.V_alloc | apply Kd.V_drewN | apply Kd.V_drew)); exact Kd.V_mono HO353.out (fun _ hk => ⟨hk.1.1, ⟨hk.1.2.1, ⟨hk.1.2.2.1, ⟨hk.1.2.2.2, hk.2⟩⟩⟩⟩)⟩, ⟨by (with_reducible repeat (first | refine blk_drewN ?_ _ | refine blk_drew ?_ | refine blk_alloc ?_ _)); exact BK330.out⟩, ⟨by (with_reducible repeat (first | refine blk_drewN ?_ _ | refine blk_drew ?_ | refine blk_alloc ?_ _)); exact BK337.out⟩, ⟨by (with_reducible repeat (first | refine blk_drewN ?_ _ | refine blk_drew ?_ | refine blk_alloc ?_ _)); exact BK343.out⟩, ⟨by (with_reducible repeat (first | refine blk_drewN ?_ _ | refine blk_drew ?_ | refine blk_alloc ?_ _)); exact BK349.out⟩, ⟨by (with_reducible repeat (first | refine blk_drewN ?_ _ | refine blk_drew ?_ | refine blk_alloc ?_ _)); exact BK355.out⟩, ⟨by repeat (first | (with_reducible first | exact HB.out | apply below_alloc | apply pw_below_drewN | apply below_drew1 | refine below_set ?_ GE330.out | refine below_set ?_ GE337.out | refine below_set ?_ GE343.out | refine below_set ?_ GE349.out | refine below_set ?_ GE355.out) | exact HB.out)⟩⟩
                  · replace c58 := Bool.eq_false_iff.mpr c58
                    subst c58
                    have H1 : (chargeparklaw17_FlashOrder.j2 kj17 a1 l2 l4 t331 true a0_0 l0_1 t332 t333) = some r := by rw [if_neg (show ¬ (false = true) by decide)] at H; exact H
                    clear H
                    have H := H1
                    clear H1
                    have H' := Aside0.mk H
                    clear H
                    go_wp2
                    go_meet
                    case rel => exact ⟨_, (true), (by first | rfl | (simp; done) | (simp [*]; done) | (simp [*, Int.tdiv_eq_ediv_of_nonneg]; done)), H', ⟨by have := HJ6.out; have := HJ17.out; first | omega | exact Nat.le_refl _⟩, ⟨by (with_reducible repeat (first | apply Kd.V_alloc | apply Kd.V_drewN | apply Kd.V_drew)); exact Kd.V_mono (Kd.V_far (p := ⟨gb355, 1, none⟩) (Kd.V_far (p := ⟨gb355, 0, none⟩) (Kd.V_mono HO_338001.out (fun k_ hk => (⟨hk, hk.2⟩ : _ ∧ k_ ≠ gb355))) (fun _ hk => hk.2) (.int .i64 t350)) (fun _ hk => hk.2) (.slice Ao56 t351.length co56)) (fun _ hk => ⟨hk.1.1.1.1, ⟨hk.1.1.1.2.1, ⟨hk.1.1.1.2.2, ⟨hk.1.1.2, hk.1.2⟩⟩⟩⟩)⟩, ⟨by (with_reducible repeat (first | apply Kd.V_alloc | apply Kd.V_drewN | apply Kd.V_drew)); exact Kd.V_mono (Kd.V_far (p := ⟨gb355, 1, none⟩) (Kd.V_far (p := ⟨gb355, 0, none⟩) (Kd.V_mono HO_344001.out (fun k_ hk => (⟨hk, hk.2⟩ : _ ∧ k_ ≠ gb355))) (fun _ hk => hk.2) (.int .i64 t350)) (fun _ hk => hk.2) (.slice Ao56 t351.length co56)) (fun _ hk => ⟨hk.1.1.1.1, ⟨hk.1.1.1.2.1, ⟨hk.1.1.1.2.2, ⟨hk.1.1.2, hk.1.2⟩⟩⟩⟩)⟩, ⟨by (with_reducible repeat (first | apply Kd.V_alloc | apply Kd.V_drewN | apply Kd.V_drew)); exact Kd.V_mono (Kd.V_far (p := ⟨gb355, 1, none⟩) (Kd.V_far (p := ⟨gb355, 0, none⟩) (Kd.V_mono HO347.out (fun k_ hk => (⟨hk, hk.2⟩ : _ ∧ k_ ≠ gb355))) (fun _ hk => hk.2) (.int .i64 t350)) (fun _ hk => hk.2) (.slice Ao56 t351.length co56)) (fun _ hk => ⟨hk.1.1.1.1, ⟨hk.1.1.1.2.1, ⟨hk.1.1.1.2.2, ⟨hk.1.1.2, hk.1.2⟩⟩⟩⟩)⟩, ⟨by (with_reducible repeat (first | apply Kd.V_alloc | apply Kd.V_drewN | apply Kd.V_drew)); exact Kd.V_mono (Kd.V_far (p := ⟨gb355, 1, none⟩) (Kd.V_far (p := ⟨gb355, 0, none⟩) (Kd.V_mono HO353.out (fun k_ hk => (⟨hk, hk.2⟩ : _ ∧ k_ ≠ gb355))) (fun _ hk => hk.2) (.int .i64 t350)) (fun _ hk => hk.2) (.slice Ao56 t351.length co56)) (fun _ hk => ⟨hk.1.1.1, ⟨hk.1.1.2.1, ⟨hk.1.1.2.2.1, ⟨hk.1.1.2.2.2, hk.1.2⟩⟩⟩⟩)⟩, ⟨by (with_reducible repeat (first | refine blk_drewN ?_ _ | refine blk_drew ?_ | refine blk_alloc ?_ _)); refine blk_far ?_ NB330_355.out _; (with_reducible repeat (first | refine blk_drewN ?_ _ | refine blk_drew ?_ | refine blk_alloc ?_ _)); refine blk_far ?_ NB330_355.out _; (with_reducible repeat (first | refine blk_drewN ?_ _ | refine blk_drew ?_ | refine blk_alloc ?_ _)); exact BK330.out⟩, ⟨by (with_reducible repeat (first | refine blk_drewN ?_ _ | refine blk_drew ?_ | refine blk_alloc ?_ _)); refine blk_far ?_ NB337_355.out _; (with_reducible repeat (first | refine blk_drewN ?_ _ | refine blk_drew ?_ | refine blk_alloc ?_ _)); refine blk_far ?_ NB337_355.out _; (with_reducible repeat (first | refine blk_drewN ?_ _ | refine blk_drew ?_ | refine blk_alloc ?_ _)); exact BK337.out⟩, ⟨by (with_reducible repeat (first | refine blk_drewN ?_ _ | refine blk_drew ?_ | refine blk_alloc ?_ _)); refine blk_far ?_ NB343_355.out _; (with_reducible repeat (first | refine blk_drewN ?_ _ | refine blk_drew ?_ | refine blk_alloc ?_ _)); refine blk_far ?_ NB343_355.out _; (with_reducible repeat (first | refine blk_drewN ?_ _ | refine blk_drew ?_ | refine blk_alloc ?_ _)); exact BK343.out⟩, ⟨by (with_reducible repeat (first | refine blk_drewN ?_ _ | refine blk_drew ?_ | refine blk_alloc ?_ _)); refine blk_far ?_ NB349_355.out _; (with_reducible repeat (first | refine blk_drewN ?_ _ | refine blk_drew ?_ | refine blk_alloc ?_ _)); refine blk_far ?_ NB349_355.out _; (with_reducible repeat (first | refine blk_drewN ?_ _ | refine blk_drew ?_ | refine blk_alloc ?_ _)); exact BK349.out⟩, ⟨by (with_reducible repeat (first | refine blk_drewN ?_ _ | refine blk_drew ?_ | refine blk_alloc ?_ _)); refine blk_put (cs := #[.int .i64 t350, .slice none 0 0]) ?_ 1 _ rfl; (with_reducible repeat (first | refine blk_drewN ?_ _ | refine blk_drew ?_ | refine blk_alloc ?_ _)); refine blk_put (cs := #[.int .i64 0, .slice none 0 0]) ?_ 0 _ rfl; (with_reducible repeat (first | refine blk_drewN ?_ _ | refine blk_drew ?_ | refine blk_alloc ?_ _)); exact BK355.out⟩, ⟨by repeat (first | (with_reducible first | exact HB.out | apply below_alloc | apply pw_below_drewN | apply below_drew1 | refine below_set ?_ GE330.out | refine below_set ?_ GE337.out | refine below_set ?_ GE343.out | refine below_set ?_ GE349.out | refine below_set ?_ GE355.out) | exact HB.out)⟩⟩
                · replace c57 := Bool.eq_false_iff.mpr c57
                  subst c57
                  have H1 : (chargeparklaw17_FlashOrder.j2 kj17 a1 l2 l4 t331 true a0_0 l0_1 t332 t333) = some r := by rw [if_neg (show ¬ (false = true) by decide)] at H; exact H
                  clear H
                  have H := H1
                  clear H1
                  have H' := Aside0.mk H
                  clear H
                  go_wp2
                  go_meet
                  case rel => exact ⟨_, (true), (by first | rfl | (simp; done) | (simp [*]; done) | (simp [*, Int.tdiv_eq_ediv_of_nonneg]; done)), H', ⟨by have := HJ6.out; have := HJ17.out; first | omega | exact Nat.le_refl _⟩, ⟨by (with_reducible repeat (first | apply Kd.V_alloc | apply Kd.V_drewN | apply Kd.V_drew)); exact Kd.V_mono (Kd.V_far (p := ⟨gb355, 1, none⟩) (Kd.V_far (p := ⟨gb355, 0, none⟩) (Kd.V_mono HO_338001.out (fun k_ hk => (⟨hk, hk.2⟩ : _ ∧ k_ ≠ gb355))) (fun _ hk => hk.2) (.int .i64 t350)) (fun _ hk => hk.2) (.slice Ao56 t351.length co56)) (fun _ hk => ⟨hk.1.1.1.1, ⟨hk.1.1.1.2.1, ⟨hk.1.1.1.2.2, ⟨hk.1.1.2, hk.1.2⟩⟩⟩⟩)⟩, ⟨by (with_reducible repeat (first | apply Kd.V_alloc | apply Kd.V_drewN | apply Kd.V_drew)); exact Kd.V_mono (Kd.V_far (p := ⟨gb355, 1, none⟩) (Kd.V_far (p := ⟨gb355, 0, none⟩) (Kd.V_mono HO_344001.out (fun k_ hk => (⟨hk, hk.2⟩ : _ ∧ k_ ≠ gb355))) (fun _ hk => hk.2) (.int .i64 t350)) (fun _ hk => hk.2) (.slice Ao56 t351.length co56)) (fun _ hk => ⟨hk.1.1.1.1, ⟨hk.1.1.1.2.1, ⟨hk.1.1.1.2.2, ⟨hk.1.1.2, hk.1.2⟩⟩⟩⟩)⟩, ⟨by (with_reducible repeat (first | apply Kd.V_alloc | apply Kd.V_drewN | apply Kd.V_drew)); exact Kd.V_mono (Kd.V_far (p := ⟨gb355, 1, none⟩) (Kd.V_far (p := ⟨gb355, 0, none⟩) (Kd.V_mono HO347.out (fun k_ hk => (⟨hk, hk.2⟩ : _ ∧ k_ ≠ gb355))) (fun _ hk => hk.2) (.int .i64 t350)) (fun _ hk => hk.2) (.slice Ao56 t351.length co56)) (fun _ hk => ⟨hk.1.1.1.1, ⟨hk.1.1.1.2.1, ⟨hk.1.1.1.2.2, ⟨hk.1.1.2, hk.1.2⟩⟩⟩⟩)⟩, ⟨by (with_reducible repeat (first | apply Kd.V_alloc | apply Kd.V_drewN | apply Kd.V_drew)); exact Kd.V_mono (Kd.V_far (p := ⟨gb355, 1, none⟩) (Kd.V_far (p := ⟨gb355, 0, none⟩) (Kd.V_mono HO353.out (fun k_ hk => (⟨hk, hk.2⟩ : _ ∧ k_ ≠ gb355))) (fun _ hk => hk.2) (.int .i64 t350)) (fun _ hk => hk.2) (.slice Ao56 t351.length co56)) (fun _ hk => ⟨hk.1.1.1, ⟨hk.1.1.2.1, ⟨hk.1.1.2.2.1, ⟨hk.1.1.2.2.2, hk.1.2⟩⟩⟩⟩)⟩, ⟨by (with_reducible repeat (first | refine blk_drewN ?_ _ | refine blk_drew ?_ | refine blk_alloc ?_ _)); refine blk_far ?_ NB330_355.out _; (with_reducible repeat (first | refine blk_drewN ?_ _ | refine blk_drew ?_ | refine blk_alloc ?_ _)); refine blk_far ?_ NB330_355.out _; (with_reducible repeat (first | refine blk_drewN ?_ _ | refine blk_drew ?_ | refine blk_alloc ?_ _)); exact BK330.out⟩, ⟨by (with_reducible repeat (first | refine blk_drewN ?_ _ | refine blk_drew ?_ | refine blk_alloc ?_ _)); refine blk_far ?_ NB337_355.out _; (with_reducible repeat (first | refine blk_drewN ?_ _ | refine blk_drew ?_ | refine blk_alloc ?_ _)); refine blk_far ?_ NB337_355.out _; (with_reducible repeat (first | refine blk_drewN ?_ _ | refine blk_drew ?_ | refine blk_alloc ?_ _)); exact BK337.out⟩, ⟨by (with_reducible repeat (first | refine blk_drewN ?_ _ | refine blk_drew ?_ | refine blk_alloc ?_ _)); refine blk_far ?_ NB343_355.out _; (with_reducible repeat (first | refine blk_drewN ?_ _ | refine blk_drew ?_ | refine blk_alloc ?_ _)); refine blk_far ?_ NB343_355.out _; (with_reducible repeat (first | refine blk_drewN ?_ _ | refine blk_drew ?_ | refine blk_alloc ?_ _)); exact BK343.out⟩, ⟨by (with_reducible repeat (first | refine blk_drewN ?_ _ | refine blk_drew ?_ | refine blk_alloc ?_ _)); refine blk_far ?_ NB349_355.out _; (with_reducible repeat (first | refine blk_drewN ?_ _ | refine blk_drew ?_ | refine blk_alloc ?_ _)); refine blk_far ?_ NB349_355.out _; (with_reducible repeat (first | refine blk_drewN ?_ _ | refine blk_drew ?_ | refine blk_alloc ?_ _)); exact BK349.out⟩, ⟨by (with_reducible repeat (first | refine blk_drewN ?_ _ | refine blk_drew ?_ | refine blk_alloc ?_ _)); refine blk_put (cs := #[.int .i64 t350, .slice none 0 0]) ?_ 1 _ rfl; (with_reducible repeat (first | refine blk_drewN ?_ _ | refine blk_drew ?_ | refine blk_alloc ?_ _)); refine blk_put (cs := #[.int .i64 0, .slice none 0 0]) ?_ 0 _ rfl; (with_reducible repeat (first | refine blk_drewN ?_ _ | refine blk_drew ?_ | refine blk_alloc ?_ _)); exact BK355.out⟩, ⟨by repeat (first | (with_reducible first | exact HB.out | apply below_alloc | apply pw_below_drewN | apply below_drew1 | refine below_set ?_ GE330.out | refine below_set ?_ GE337.out | refine below_set ?_ GE343.out | refine below_set ?_ GE349.out | refine below_set ?_ GE355.out) | exact HB.out)⟩⟩
              case rest =>
                clear HC36
                try clear c1
                try clear c2
                try clear p2
                try clear c3
                try clear c4
                try clear c5
                try clear c6
                try clear c7
                try clear c10
                try clear c10b0
                try clear c10b1
                try clear c12
                try clear c12b0
                try clear c12b1
                try clear c15
                try clear c22
                try clear c28
                try clear c29
                try clear c32
                try clear c33
                try clear c37
                try clear c38
                try clear c42
                try clear c43
                try clear c44
                try clear c47
                try clear c51
                try clear c52
                try clear c53
                try clear c54
                try clear c57
                try clear c58
                try clear c60
                try clear c61
                try clear c62
                try clear c63
                try clear c65
                try clear c66
                try clear c67
                try clear hcz11_0
                try clear hcz11_1
                try clear hcz13_0
                try clear hcz13_1
                try clear hcz14_0
                try clear hcz14_1
                try clear hcz19_0
                try clear hcz19_1
                try clear hcz23_0
                try clear hcz23_1
                try clear hcz25_0
                try clear hcz25_1
                try clear hcz30_0
                try clear hcz30_1
                try clear hcz39_0
                try clear hcz39_1
                try clear hcz45_0
                try clear hcz45_1
                try clear hcz48_0
                try clear hcz48_1
                try clear hcz55_0
                try clear hcz55_1
                try clear hcz64_0
                try clear hcz64_1
                try clear hcz68_0
                try clear hcz68_1
                try clear hfz11_0
                try clear hfz11_1
                try clear hfz13_0
                try clear hfz13_1
                try clear hfz14_0
                try clear hfz14_1
                try clear hfz19_0
                try clear hfz19_1
                try clear hfz23_0
                try clear hfz23_1
                try clear hfz25_0
                try clear hfz25_1
                try clear hfz30_0
                try clear hfz30_1
                try clear hfz39_0
                try clear hfz39_1
                try clear hfz45_0
                try clear hfz45_1
                try clear hfz48_0
                try clear hfz48_1
                try clear hfz55_0
                try clear hfz55_1
                try clear hfz64_0
                try clear hfz64_1
                try clear hfz68_0
                try clear hfz68_1
                try clear p2
                obtain ⟨kq, x88_35, rfl, HA, HJ35, HO_338001, HO_344001, HO_350001, HO_356001, BK330, BK337, BK343, BK349, BK355, HB⟩ := hcut
                cases kq with
                | zero => exact absurd HA.out (by simp [chargeparklaw17_FlashOrder.j2])
                | succ kj35 =>
                  have H := HA.out
                  clear HA
                  simp only [chargeparklaw17_FlashOrder.j2] at H
                  by_cases c70 : x88_35 = true
                  · subst c70
                    have H1 : (none) = some r := by rw [if_pos rfl] at H; exact H
                    clear H
                    have H := H1
                    clear H1
                    exact absurd H (by simp)
                  · replace c70 := Bool.eq_false_iff.mpr c70
                    subst c70
                    have H1 : ((some (([] : List Int) : List Int)).bind fun y357 => (if y357.length + l2.length < 140737488355328 then ((some (y357 ++ l2 : List Int)).bind fun y360 => (chargeparklaw17_FlashOrder.l0 kj35 a1 l2 l4 t331 y360 (y360.length : Int) 0 a0_0 l0_1 t332 t333)) else (none))) = some r := by rw [if_neg (show ¬ (false = true) by decide)] at H; exact H
                    clear H
                    have H := H1
                    clear H1
                    obtain ⟨y357, hy357⟩ : ∃ y_ : List Int, y_ = (([] : List Int)) := ⟨_, rfl⟩
                    replace H : (if y357.length + l2.length < 140737488355328 then ((some (y357 ++ l2 : List Int)).bind fun y360 => (chargeparklaw17_FlashOrder.l0 kj35 a1 l2 l4 t331 y360 (y360.length : Int) 0 a0_0 l0_1 t332 t333)) else (none)) = some r := by first | (rw [hy357]; with_reducible exact H) | (have H2_ := (Option.bind_some _ _).symm.trans H; rw [hy357]; with_reducible exact H2_) | (have H2_ := (Option.bind_some _ _).symm.trans H; with_reducible exact H2_) | with_reducible exact H | (rw [hy357]; exact H) | exact H
                    have Ny357 := Aside0.mk hy357
                    clear hy357
                    by_cases c71 : y357.length + l2.length < 140737488355328
                    · rw [if_pos c71] at H
                      have LMc71 := Aside0.mk c71
                      clear c71
                      obtain ⟨y360, hy360⟩ : ∃ y_ : List Int, y_ = (y357 ++ l2) := ⟨_, rfl⟩
                      replace H : (chargeparklaw17_FlashOrder.l0 kj35 a1 l2 l4 t331 y360 (y360.length : Int) 0 a0_0 l0_1 t332 t333) = some r := by first | (rw [hy360]; with_reducible exact H) | (have H2_ := (Option.bind_some _ _).symm.trans H; rw [hy360]; with_reducible exact H2_) | (have H2_ := (Option.bind_some _ _).symm.trans H; with_reducible exact H2_) | with_reducible exact H | (rw [hy360]; exact H) | exact H
                      have Ny360 := Aside0.mk hy360
                      clear hy360
                      have H' := Aside0.mk H
                      clear H
                      go_wp2_with (first | ((with_reducible refine gate_dst (N := 89) rfl ?_); (try (refine gate_guard (by rfl) ?_; dsimp only)); refine Kd.R_lit (Kd.int .u8) _ 5 ?hg (N := 89) ?hd (xs := ([] : List Int)) (inner := []) (ok := fun _ => True) (okp := fun _ => True) ?hr ?hp (fun _ hk => hk) trivial (Below.refl _ _) (Nat.le_refl _) (by simp) ?_; (case hd => rfl); (case hg => rfl); (case hr => first | (go_simp; done) | (go_simp; rfl)); (case hp => exact (Reps.none _ _)); intro v358 w72 ho73 hb hg_ hnew_; clear hg_ hnew_; (first | rw [← Ny357.out] at ho73 | (simp only [Int.reduceToNat] at ho73; rw [← Ny357.out] at ho73)); have n0_ := Aside0.mk (Kd.V_elder' (by (with_reducible repeat (first | apply Kd.V_alloc | apply Kd.V_drewN | apply Kd.V_drew)); exact HO_338001.out) (Kd.R_base ho73) hb); have n1_ := Aside0.mk (Kd.V_elder' (by (with_reducible repeat (first | apply Kd.V_alloc | apply Kd.V_drewN | apply Kd.V_drew)); exact HO_344001.out) (Kd.R_base ho73) hb); have n2_ := Aside0.mk (Kd.V_elder' (by (with_reducible repeat (first | apply Kd.V_alloc | apply Kd.V_drewN | apply Kd.V_drew)); exact HO_350001.out) (Kd.R_base ho73) hb); have n3_ := Aside0.mk (Kd.V_elder' (by (with_reducible repeat (first | apply Kd.V_alloc | apply Kd.V_drewN | apply Kd.V_drew)); exact HO_356001.out) (Kd.R_base ho73) hb); have n4_ := Aside0.mk (Kd.R_lower ho73 (below_size (by repeat (first | (with_reducible first | exact HB.out | apply below_alloc | apply pw_below_drewN | apply below_drew1 | refine below_set ?_ GE330.out | refine below_set ?_ GE337.out | refine below_set ?_ GE343.out | refine below_set ?_ GE349.out | refine below_set ?_ GE355.out) | exact HB.out)))); have n5_ := Aside0.mk (blk_below (g := gb330) (o := .cells #[.int .i64 a0_0, .slice A0_1 l0_1.length c0_1] 24 (0, 0)) (by (with_reducible repeat (first | refine blk_drewN ?_ _ | refine blk_drew ?_ | refine blk_alloc ?_ _)); exact BK330.out) hb); have n6_ := Aside0.mk (blk_below (g := gb337) (o := .cells #[.int .i64 t332, .slice Ao24 t333.length co24] 24 (0, 0)) (by (with_reducible repeat (first | refine blk_drewN ?_ _ | refine blk_drew ?_ | refine blk_alloc ?_ _)); exact BK337.out) hb); have n7_ := Aside0.mk (blk_below (g := gb343) (o := .cells #[.int .i64 t338, .slice Ao31 t339.length co31] 24 (0, 0)) (by (with_reducible repeat (first | refine blk_drewN ?_ _ | refine blk_drew ?_ | refine blk_alloc ?_ _)); exact BK343.out) hb); have n8_ := Aside0.mk (blk_below (g := gb349) (o := .cells #[.int .i64 t344, .slice Ao46 t345.length co46] 24 (0, 0)) (by (with_reducible repeat (first | refine blk_drewN ?_ _ | refine blk_drew ?_ | refine blk_alloc ?_ _)); exact BK349.out) hb); have n9_ := Aside0.mk (blk_below (g := gb355) (o := .cells #[.int .i64 t350, .slice Ao56 t351.length co56] 24 (0, 0)) (by (with_reducible repeat (first | refine blk_drewN ?_ _ | refine blk_drew ?_ | refine blk_alloc ?_ _)); exact BK355.out) hb); have n10_ := Aside0.mk (below_step (by repeat (first | (with_reducible first | exact HB.out | apply below_alloc | apply pw_below_drewN | apply below_drew1 | refine below_set ?_ GE330.out | refine below_set ?_ GE337.out | refine below_set ?_ GE343.out | refine below_set ?_ GE349.out | refine below_set ?_ GE355.out) | exact HB.out)) hb); clear HO_338001; clear HO_344001; clear HO_350001; clear HO_356001; clear BK330; clear BK337; clear BK343; clear BK349; clear BK355; clear HB; have HO_338001 := n0_; have HO_344001 := n1_; have HO_350001 := n2_; have HO_356001 := n3_; have HO359 := n4_; have BK330 := n5_; have BK337 := n6_; have BK343 := n7_; have BK349 := n8_; have BK355 := n9_; have HB := n10_; clear n0_ n1_ n2_ n3_ n4_ n5_ n6_ n7_ n8_ n9_ n10_; clear hb ho73) | ((with_reducible refine gate_builtin (b := .append) (xs := #[.tmp 89, .tmp 90]) rfl ?_); (try (refine gate_guard (by rfl) ?_; dsimp only)); at_builtin; refine Kd.R_append_rows (Kd.int .u8) (w0 := w) w.heap.size rfl (.tmp 89) (.tmp 90) 22 5 (.int .u8 0) 1 rfl Try.underlying22 info5 rfl (by decide) (by omega) v358 y357 l2 _ _ _ (fun _ => True) (fun _ => False) rfl rfl ?aO ?aR (fun _ _ h => h) (fun _ h => h.elim) ?aF ?aB ?aS ?aL ?_; (case aR => repeat (first | exact (Kd.C_below HR2.out HB.out) | (with_reducible refine Kd.C_alloc ?_ _) | (with_reducible refine Kd.C_drewN ?_ _) | (with_reducible refine Kd.C_drew ?_))); (case aB => exact (by repeat (first | (with_reducible first | exact HB.out | apply below_alloc | apply pw_below_drewN | apply below_drew1 | refine below_set ?_ GE330.out | refine below_set ?_ GE337.out | refine below_set ?_ GE343.out | refine below_set ?_ GE349.out | refine below_set ?_ GE355.out) | exact HB.out))); (case aF => exact (fun _ _ => trivial)); (case aO => exact (by (with_reducible repeat (first | apply Kd.R_alloc | apply Kd.R_drewN | apply Kd.R_drew)); exact HO359.out)); (case aS => exact (below_size (by repeat (first | (with_reducible first | exact HB.out | apply below_alloc | apply pw_below_drewN | apply below_drew1 | refine below_set ?_ GE330.out | refine below_set ?_ GE337.out | refine below_set ?_ GE343.out | refine below_set ?_ GE349.out | refine below_set ?_ GE355.out) | exact HB.out)))); (case aL => have := LMc71.out; omega); intro v361 w74 ho hb hg hat; rw [← Ny360.out] at ho; have n0_ := Aside0.mk (Kd.V_afterv (ok := (fun k_ => k_ ≠ gb330 ∧ k_ ≠ gb337 ∧ k_ ≠ gb343 ∧ k_ ≠ gb349 ∧ k_ ≠ gb355)) (by (with_reducible repeat (first | apply Kd.V_alloc | apply Kd.V_drewN | apply Kd.V_drew)); exact HO_338001.out) hg hat); have n1_ := Aside0.mk (Kd.V_afterv (ok := (fun k_ => k_ ≠ gb330 ∧ k_ ≠ gb337 ∧ k_ ≠ gb343 ∧ k_ ≠ gb349 ∧ k_ ≠ gb355)) (by (with_reducible repeat (first | apply Kd.V_alloc | apply Kd.V_drewN | apply Kd.V_drew)); exact HO_344001.out) hg hat); have n2_ := Aside0.mk (Kd.V_afterv (ok := (fun k_ => k_ ≠ gb330 ∧ k_ ≠ gb337 ∧ k_ ≠ gb343 ∧ k_ ≠ gb349 ∧ k_ ≠ gb355)) (by (with_reducible repeat (first | apply Kd.V_alloc | apply Kd.V_drewN | apply Kd.V_drew)); exact HO_350001.out) hg hat); have n3_ := Aside0.mk (Kd.V_afterv (ok := (fun k_ => k_ ≠ gb330 ∧ k_ ≠ gb337 ∧ k_ ≠ gb343 ∧ k_ ≠ gb349 ∧ k_ ≠ gb355)) (by (with_reducible repeat (first | apply Kd.V_alloc | apply Kd.V_drewN | apply Kd.V_drew)); exact HO_356001.out) hg hat); have n4_ := Aside0.mk (blk_grown (g := gb330) (o := .cells #[.int .i64 a0_0, .slice A0_1 l0_1.length c0_1] 24 (0, 0)) (by (with_reducible repeat (first | refine blk_drewN ?_ _ | refine blk_drew ?_ | refine blk_alloc ?_ _)); exact BK330.out) hg (Kd.R_ne HO359.out BK330.out (by decide))); have n5_ := Aside0.mk (blk_grown (g := gb337) (o := .cells #[.int .i64 t332, .slice Ao24 t333.length co24] 24 (0, 0)) (by (with_reducible repeat (first | refine blk_drewN ?_ _ | refine blk_drew ?_ | refine blk_alloc ?_ _)); exact BK337.out) hg (Kd.R_ne HO359.out BK337.out (by decide))); have n6_ := Aside0.mk (blk_grown (g := gb343) (o := .cells #[.int .i64 t338, .slice Ao31 t339.length co31] 24 (0, 0)) (by (with_reducible repeat (first | refine blk_drewN ?_ _ | refine blk_drew ?_ | refine blk_alloc ?_ _)); exact BK343.out) hg (Kd.R_ne HO359.out BK343.out (by decide))); have n7_ := Aside0.mk (blk_grown (g := gb349) (o := .cells #[.int .i64 t344, .slice Ao46 t345.length co46] 24 (0, 0)) (by (with_reducible repeat (first | refine blk_drewN ?_ _ | refine blk_drew ?_ | refine blk_alloc ?_ _)); exact BK349.out) hg (Kd.R_ne HO359.out BK349.out (by decide))); have n8_ := Aside0.mk (blk_grown (g := gb355) (o := .cells #[.int .i64 t350, .slice Ao56 t351.length co56] 24 (0, 0)) (by (with_reducible repeat (first | refine blk_drewN ?_ _ | refine blk_drew ?_ | refine blk_alloc ?_ _)); exact BK355.out) hg (Kd.R_ne HO359.out BK355.out (by decide))); have n9_ := Aside0.mk (hb); have n10_ := Aside0.mk (ho); clear HO_338001; clear HO_344001; clear HO_350001; clear HO_356001; clear BK330; clear BK337; clear BK343; clear BK349; clear BK355; clear HB; clear HO359; have HO_338001 := n0_; have HO_344001 := n1_; have HO_350001 := n2_; have HO_356001 := n3_; have BK330 := n4_; have BK337 := n5_; have BK343 := n6_; have BK349 := n7_; have BK355 := n8_; have HB := n9_; have HO362 := n10_; clear n0_ n1_ n2_ n3_ n4_ n5_ n6_ n7_ n8_ n9_ n10_; clear ho hb hg hat; obtain ⟨Ao75, co75, eo75⟩ := Kd.R_slice HO362.out; subst eo75))
                      go_loopg [94] kj35 (fun kq v94 w' => ∃ (x20_4 : List Int) (x94_4 : Int), v94 = .int .i64 x94_4 ∧ Aside0 (chargeparklaw17_FlashOrder.l0 kq a1 l2 l4 t331 x20_4 (y360.length : Int) x94_4 a0_0 l0_1 t332 t333 = some r) ∧ Aside0 (kq ≤ kj35) ∧ Aside0 (Kd.R (Kd.int .u8) 5 w' w.heap.size (fun _ => True) (.slice Ao75 y360.length co75) x20_4) ∧ Aside0 (Kd.V (Kd.int .u8) 5 w' w.heap.size (fun k_ => some k_ ≠ ((.slice Ao75 y360.length co75) : Value).ownBlock ∧ k_ ≠ gb330 ∧ k_ ≠ gb337 ∧ k_ ≠ gb343 ∧ k_ ≠ gb349 ∧ k_ ≠ gb355) (.slice Ao24 t333.length co24) t333) ∧ Aside0 (Kd.V (Kd.int .u8) 5 w' w.heap.size (fun k_ => some k_ ≠ ((.slice Ao75 y360.length co75) : Value).ownBlock ∧ k_ ≠ gb330 ∧ k_ ≠ gb337 ∧ k_ ≠ gb343 ∧ k_ ≠ gb349 ∧ k_ ≠ gb355) (.slice Ao31 t339.length co31) t339) ∧ Aside0 (Kd.V (Kd.int .u8) 5 w' w.heap.size (fun k_ => some k_ ≠ ((.slice Ao75 y360.length co75) : Value).ownBlock ∧ k_ ≠ gb330 ∧ k_ ≠ gb337 ∧ k_ ≠ gb343 ∧ k_ ≠ gb349 ∧ k_ ≠ gb355) (.slice Ao46 t345.length co46) t345) ∧ Aside0 (Kd.V (Kd.int .u8) 5 w' w.heap.size (fun k_ => some k_ ≠ ((.slice Ao75 y360.length co75) : Value).ownBlock ∧ k_ ≠ gb330 ∧ k_ ≠ gb337 ∧ k_ ≠ gb343 ∧ k_ ≠ gb349 ∧ k_ ≠ gb355) (.slice Ao56 t351.length co56) t351) ∧ Aside0 (w'.heap[gb330]? = some (.cells #[.int .i64 a0_0, (.slice A0_1 l0_1.length c0_1)] 24 (0, 0))) ∧ Aside0 (w'.heap[gb337]? = some (.cells #[.int .i64 t332, (.slice Ao24 t333.length co24)] 24 (0, 0))) ∧ Aside0 (w'.heap[gb343]? = some (.cells #[.int .i64 t338, (.slice Ao31 t339.length co31)] 24 (0, 0))) ∧ Aside0 (w'.heap[gb349]? = some (.cells #[.int .i64 t344, (.slice Ao46 t345.length co46)] 24 (0, 0))) ∧ Aside0 (w'.heap[gb355]? = some (.cells #[.int .i64 t350, (.slice Ao56 t351.length co56)] 24 (0, 0))) ∧ Aside0 (Below w.heap.size w w'))
                      case atStart => exact ⟨(y360), (0), (by first | rfl | (simp; done) | (simp [*]; done)), H', ⟨Nat.le_refl _⟩, ⟨by (with_reducible repeat (first | apply Kd.R_alloc | apply Kd.R_drewN | apply Kd.R_drew)); exact HO362.out⟩, ⟨by (with_reducible repeat (first | apply Kd.V_alloc | apply Kd.V_drewN | apply Kd.V_drew)); exact Kd.V_mono HO_338001.out (fun _ hk => ⟨hk.2, ⟨hk.1.1, ⟨hk.1.2.1, ⟨hk.1.2.2.1, ⟨hk.1.2.2.2.1, hk.1.2.2.2.2⟩⟩⟩⟩⟩)⟩, ⟨by (with_reducible repeat (first | apply Kd.V_alloc | apply Kd.V_drewN | apply Kd.V_drew)); exact Kd.V_mono HO_344001.out (fun _ hk => ⟨hk.2, ⟨hk.1.1, ⟨hk.1.2.1, ⟨hk.1.2.2.1, ⟨hk.1.2.2.2.1, hk.1.2.2.2.2⟩⟩⟩⟩⟩)⟩, ⟨by (with_reducible repeat (first | apply Kd.V_alloc | apply Kd.V_drewN | apply Kd.V_drew)); exact Kd.V_mono HO_350001.out (fun _ hk => ⟨hk.2, ⟨hk.1.1, ⟨hk.1.2.1, ⟨hk.1.2.2.1, ⟨hk.1.2.2.2.1, hk.1.2.2.2.2⟩⟩⟩⟩⟩)⟩, ⟨by (with_reducible repeat (first | apply Kd.V_alloc | apply Kd.V_drewN | apply Kd.V_drew)); exact Kd.V_mono HO_356001.out (fun _ hk => ⟨hk.2, ⟨hk.1.1, ⟨hk.1.2.1, ⟨hk.1.2.2.1, ⟨hk.1.2.2.2.1, hk.1.2.2.2.2⟩⟩⟩⟩⟩)⟩, ⟨by (with_reducible repeat (first | refine blk_drewN ?_ _ | refine blk_drew ?_ | refine blk_alloc ?_ _)); exact BK330.out⟩, ⟨by (with_reducible repeat (first | refine blk_drewN ?_ _ | refine blk_drew ?_ | refine blk_alloc ?_ _)); exact BK337.out⟩, ⟨by (with_reducible repeat (first | refine blk_drewN ?_ _ | refine blk_drew ?_ | refine blk_alloc ?_ _)); exact BK343.out⟩, ⟨by (with_reducible repeat (first | refine blk_drewN ?_ _ | refine blk_drew ?_ | refine blk_alloc ?_ _)); exact BK349.out⟩, ⟨by (with_reducible repeat (first | refine blk_drewN ?_ _ | refine blk_drew ?_ | refine blk_alloc ?_ _)); exact BK355.out⟩, ⟨by repeat (first | (with_reducible first | exact HB.out | apply below_alloc | apply pw_below_drewN | apply below_drew1 | refine below_set ?_ GE330.out | refine below_set ?_ GE337.out | refine below_set ?_ GE343.out | refine below_set ?_ GE349.out | refine below_set ?_ GE355.out) | exact HB.out)⟩⟩
                      case round =>
                        clear H'
                        try clear c1
                        try clear c2
                        try clear p2
                        try clear c3
                        try clear c4
                        try clear c5
                        try clear c6
                        try clear c7
                        try clear c10
                        try clear c10b0
                        try clear c10b1
                        try clear c12
                        try clear c12b0
                        try clear c12b1
                        try clear c15
                        try clear c22
                        try clear c28
                        try clear c29
                        try clear c32
                        try clear c33
                        try clear c37
                        try clear c38
                        try clear c42
                        try clear c43
                        try clear c44
                        try clear c47
                        try clear c51
                        try clear c52
                        try clear c53
                        try clear c54
                        try clear c57
                        try clear c58
                        try clear c60
                        try clear c61
                        try clear c62
                        try clear c63
                        try clear c65
                        try clear c66
                        try clear c67
                        try clear c70
                        try clear c71
                        try clear hcz11_0
                        try clear hcz11_1
                        try clear hcz13_0
                        try clear hcz13_1
                        try clear hcz14_0
                        try clear hcz14_1
                        try clear hcz19_0
                        try clear hcz19_1
                        try clear hcz23_0
                        try clear hcz23_1
                        try clear hcz25_0
                        try clear hcz25_1
                        try clear hcz30_0
                        try clear hcz30_1
                        try clear hcz39_0
                        try clear hcz39_1
                        try clear hcz45_0
                        try clear hcz45_1
                        try clear hcz48_0
                        try clear hcz48_1
                        try clear hcz55_0
                        try clear hcz55_1
                        try clear hcz64_0
                        try clear hcz64_1
                        try clear hcz68_0
                        try clear hcz68_1
                        try clear hfz11_0
                        try clear hfz11_1
                        try clear hfz13_0
                        try clear hfz13_1
                        try clear hfz14_0
                        try clear hfz14_1
                        try clear hfz19_0
                        try clear hfz19_1
                        try clear hfz23_0
                        try clear hfz23_1
                        try clear hfz25_0
                        try clear hfz25_1
                        try clear hfz30_0
                        try clear hfz30_1
                        try clear hfz39_0
                        try clear hfz39_1
                        try clear hfz45_0
                        try clear hfz45_1
                        try clear hfz48_0
                        try clear hfz48_1
                        try clear hfz55_0
                        try clear hfz55_1
                        try clear hfz64_0
                        try clear hfz64_1
                        try clear hfz68_0
                        try clear hfz68_1
                        try clear p2
                        obtain ⟨x20_4, x94_4, rfl, HA, HK4, HO_20, HO_338001, HO_344001, HO_350001, HO_356001, BK330, BK337, BK343, BK349, BK355, HB⟩ := hrel
                        have hl20_4 := (Kd.R_reads' HO_20.out).1
                        rw [hl20_4] at HO_20
                        (try simp only [hl20_4])
                        (try simp only [hl20_4] at BK330)
                        (try simp only [hl20_4] at BK337)
                        (try simp only [hl20_4] at BK343)
                        (try simp only [hl20_4] at BK349)
                        (try simp only [hl20_4] at BK355)
                        (try simp only [hl20_4] at HO_338001)
                        (try simp only [hl20_4] at HO_344001)
                        (try simp only [hl20_4] at HO_350001)
                        (try simp only [hl20_4] at HO_356001)
                        cases gk with
                        | zero => exact absurd HA.out (by simp [chargeparklaw17_FlashOrder.l0])
                        | succ k4 =>
                          have H := HA.out
                          clear HA
                          simp only [chargeparklaw17_FlashOrder.l0] at H
                          by_cases c76 : x94_4 < (y360.length : Int)
                          · rw [if_pos c76] at H
                            have c76b0 : decide (x94_4 < (y360.length : Int)) = true := decide_eq_true c76
                            try (have c76b0x := c76b0; simp only [hl20_4] at c76b0x)
                            clear c76
                            by_cases c77 : x94_4 < (l4.length : Int)
                            · rw [if_pos c77] at H
                              have c77b0 : decide (x94_4 < (l4.length : Int)) = true := decide_eq_true c77
                              try (have c77b0x := c77b0; simp only [hl20_4] at c77b0x)
                              clear c77
                              by_cases c78 : 0 ≤ x94_4
                              · rw [if_pos c78] at H
                                have c78b0 : decide (0 ≤ x94_4) = true := decide_eq_true c78
                                clear c78
                                by_cases c79 : x94_4 < (x20_4.length : Int)
                                · rw [if_pos c79] at H
                                  have c79b0 : decide (x94_4 < (x20_4.length : Int)) = true := decide_eq_true c79
                                  try (have c79b0x := c79b0; simp only [hl20_4] at c79b0x)
                                  clear c79
                                  obtain ⟨y365, hy365⟩ : ∃ y_ : List Int, y_ = (x20_4.set (x94_4 : Int).toNat (Go.bits .and .u8 (rd x20_4 x94_4) (rd l4 x94_4))) := ⟨_, rfl⟩
                                  replace H : (chargeparklaw17_FlashOrder.l0 k4 a1 l2 l4 t331 y365 (y360.length : Int) (wrap64 (x94_4 + 1)) a0_0 l0_1 t332 t333) = some r := by first | (rw [hy365]; with_reducible exact H) | (have H2_ := (Option.bind_some _ _).symm.trans H; rw [hy365]; with_reducible exact H2_) | (have H2_ := (Option.bind_some _ _).symm.trans H; with_reducible exact H2_) | with_reducible exact H | (rw [hy365]; exact H) | exact H
                                  have Ny365 := Aside0.mk hy365
                                  clear hy365
                                  have H' := Aside0.mk H
                                  clear H
                                  try go_wp2
                                  have n0_ := Aside0.mk (Kd.R_drew HO_20.out)
                                  have n1_ := Aside0.mk (Kd.V_drew HO_338001.out)
                                  have n2_ := Aside0.mk (Kd.V_drew HO_344001.out)
                                  have n3_ := Aside0.mk (Kd.V_drew HO_350001.out)
                                  have n4_ := Aside0.mk (Kd.V_drew HO_356001.out)
                                  have n5_ := Aside0.mk (blk_drew BK330.out)
                                  have n6_ := Aside0.mk (blk_drew BK337.out)
                                  have n7_ := Aside0.mk (blk_drew BK343.out)
                                  have n8_ := Aside0.mk (blk_drew BK349.out)
                                  have n9_ := Aside0.mk (blk_drew BK355.out)
                                  have n10_ := Aside0.mk (below_drew1 HB.out)
                                  clear HO_20
                                  clear HO_338001
                                  clear HO_344001
                                  clear HO_350001
                                  clear HO_356001
                                  clear BK330
                                  clear BK337
                                  clear BK343
                                  clear BK349
                                  clear BK355
                                  clear HB
                                  have HO_20 := n0_
                                  have HO_338001 := n1_
                                  have HO_344001 := n2_
                                  have HO_350001 := n3_
                                  have HO_356001 := n4_
                                  have BK330 := n5_
                                  have BK337 := n6_
                                  have BK343 := n7_
                                  have BK349 := n8_
                                  have BK355 := n9_
                                  have HB := n10_
                                  clear n0_ n1_ n2_ n3_ n4_ n5_ n6_ n7_ n8_ n9_ n10_
                                  have p363 : 0 ≤ (x94_4 : Int) := of_decide_eq_true (by first | (with_reducible assumption) | assumption)
                                  have q363 : x94_4 < (x20_4.length : Int) := of_decide_eq_true (by first | (with_reducible assumption) | assumption)
                                  obtain ⟨ad363, e363, hx363_0⟩ := Kd.at_int (Kd.R_reads' HO_20.out).2.2 x94_4 p363 q363
                                  cases e363
                                  replace p363 := eq_true p363
                                  replace q363 := eq_true q363
                                  have p364 : 0 ≤ (x94_4 : Int) := of_decide_eq_true (by first | (with_reducible assumption) | assumption)
                                  have q364 : x94_4 < (l4.length : Int) := of_decide_eq_true (by first | (with_reducible assumption) | assumption)
                                  obtain ⟨ad364, e364, hx364_0⟩ := Kd.at_int HR4.out x94_4 p364 q364
                                  have hw364_0 := hx364_0
                                  cases e364
                                  replace hx364_0 := (HB.out.cell (World.block_lt_of_cell? w _ hx364_0)).trans hx364_0
                                  replace p364 := eq_true p364
                                  replace q364 := eq_true q364
                                  have p80 : 0 ≤ (x94_4 : Int) := of_decide_eq_true (by first | (with_reducible assumption) | assumption)
                                  have q80 : (x94_4 : Int) < ((x20_4.length : Int) : Int) := of_decide_eq_true (by first | (with_reducible assumption) | assumption)
                                  obtain ⟨go80, co80, eo80, gb80, gl80, cl80, HG80⟩ := Kd.R_form HO_20.out (by omega)
                                  (first | cases eo80 | (injection eo80 with ea_ en_ ec_; (first | subst ea_ | (injection ea_ with ea_; subst ea_)); subst ec_; clear en_))
                                  have GB80 := Aside0.mk gb80
                                  have GG80 := Aside0.mk HG80
                                  clear gb80 gl80 HG80
                                  (first | simp only [add_plain] at hx363_0 | skip)
                                  obtain ⟨hx80_0, hf80_0⟩ := Kd.R_celln 0 HO_20.out (x94_4 : Int) p80 q80
                                  replace p80 := eq_true p80
                                  replace q80 := eq_true q80
                                  have HP82 := Kd.R_putn HO_20.out (x94_4 : Int) (Go.bits .and .u8 (rd x20_4 x94_4) (rd l4 x94_4))
                                  rw [← Ny365.out] at HP82
                                  have HQ82 := Aside0.mk HP82
                                  clear HP82
                                  refine start_ (n := 11) (S := fun w' => w'.cell? ⟨go80, (x94_4).toNat, none⟩ = some (.int .u8 (rd x20_4 x94_4)) ∧ w'.cell? (ad364.add (x94_4).toNat) = some (.int .u8 (rd l4 x94_4))) (ds := [10]) #[false, false, false, false, false, false, false, false, false, false, false] (by kernel_rfl) rfl rfl ⟨hx363_0, ((HB.out.cell (World.block_lt_of_cell? w _ hw364_0)).trans hw364_0)⟩ (fun hHeld => ?_); refine with_tabW chargeparklaw17_FlashOrder.tab17 chargeparklaw17_FlashOrder.bits17 (fun HT_ HW_ => ?_)
                                  generalize wr.drew = w81 at HO_20 HO_338001 HO_344001 HO_350001 HO_356001 BK330 BK337 BK343 BK349 BK355 HB GG80 HQ82 hf80_0 hx363_0 hx364_0 hx80_0 hHeld ⊢
                                  refine pure_ (i := 0) (N := some 101) (v := ?_) (a' := ?_) #[true, false, false, false, false, false, false, false, false, false, false] rfl rfl (any_of HT_.out (by kernel_rfl)) (fun _ _ _ h => h) (Or.inl ⟨by rfl, ?_⟩) ?_ ?_
                                  rotate_left
                                  · intro w'
                                    go_simp
                                    with_reducible rfl
                                  rotate_left
                                  · simp only [Act.put, List.setIfInBounds_toArray, List.set_cons_zero, List.set_cons_succ, i64_w, i32_w]
                                    rfl
                                  refine pure_ (i := 1) (N := some 102) (v := ?_) (a' := ?_) #[true, true, false, false, false, false, false, false, false, false, false] rfl rfl (any_of HT_.out (by kernel_rfl)) (fun _ _ _ h => h) (Or.inl ⟨by rfl, ?_⟩) ?_ ?_
                                  rotate_left
                                  · intro w'
                                    go_simp
                                    with_reducible rfl
                                  rotate_left
                                  · simp only [Act.put, List.setIfInBounds_toArray, List.set_cons_zero, List.set_cons_succ, i64_w, i32_w]
                                    rfl
                                  refine pure_ (i := 2) (N := some 103) (v := ?_) (a' := ?_) #[true, true, true, false, false, false, false, false, false, false, false] rfl rfl (any_of HT_.out (by kernel_rfl)) (fun _ _ _ h => h) (Or.inl ⟨by rfl, ?_⟩) ?_ ?_
                                  rotate_left
                                  · intro w'
                                    go_simp
                                    with_reducible rfl
                                  rotate_left
                                  · simp only [Act.put, List.setIfInBounds_toArray, List.set_cons_zero, List.set_cons_succ, i64_w, i32_w]
                                    rfl
                                  refine pure_ (i := 4) (N := some 105) (v := ?_) (a' := ?_) #[true, true, true, false, true, false, false, false, false, false, false] rfl rfl (any_of HT_.out (by kernel_rfl)) (fun _ _ _ h => h) (Or.inl ⟨by rfl, ?_⟩) ?_ ?_
                                  rotate_left
                                  · intro w'
                                    go_simp
                                    with_reducible rfl
                                  rotate_left
                                  · simp only [Act.put, List.setIfInBounds_toArray, List.set_cons_zero, List.set_cons_succ, i64_w, i32_w]
                                    rfl
                                  refine pure_ (i := 5) (N := some 106) (v := ?_) (a' := ?_) #[true, true, true, false, true, true, false, false, false, false, false] rfl rfl (any_of HT_.out (by kernel_rfl)) (fun _ _ _ h => h) (Or.inl ⟨by rfl, ?_⟩) ?_ ?_
                                  rotate_left
                                  · intro w'
                                    go_simp
                                    with_reducible rfl
                                  rotate_left
                                  · simp only [Act.put, List.setIfInBounds_toArray, List.set_cons_zero, List.set_cons_succ, i64_w, i32_w]
                                    rfl
                                  refine pure_ (i := 6) (N := some 107) (v := ?_) (a' := ?_) #[true, true, true, false, true, true, true, false, false, false, false] rfl rfl (any_of HT_.out (by kernel_rfl)) (fun _ _ _ h => h) (Or.inl ⟨by rfl, ?_⟩) ?_ ?_
                                  rotate_left
                                  · intro w'
                                    go_simp
                                    with_reducible rfl
                                  rotate_left
                                  · simp only [Act.put, List.setIfInBounds_toArray, List.set_cons_zero, List.set_cons_succ, i64_w, i32_w]
                                    rfl
                                  refine take_ (i := 3) (N := some 104) (v := ?_) (a' := ?_) #[true, true, true, true, true, true, true, false, false, false, false] rfl rfl (take_ofW HT_.out HW_.out (by kernel_rfl)) (fun _ _ _ h => h) (Or.inl ⟨by rfl, ?_⟩) hHeld ?_ ?_
                                  rotate_left
                                  · rintro w' ⟨s0, s1⟩
                                    go_simp
                                    with_reducible rfl
                                  rotate_left
                                  · simp only [Act.put, List.setIfInBounds_toArray, List.set_cons_zero, List.set_cons_succ, i64_w, i32_w]
                                    rfl
                                  refine take_ (i := 7) (N := some 108) (v := ?_) (a' := ?_) #[true, true, true, true, true, true, true, true, false, false, false] rfl rfl (take_ofW HT_.out HW_.out (by kernel_rfl)) (fun _ _ _ h => h) (Or.inl ⟨by rfl, ?_⟩) hHeld ?_ ?_
                                  rotate_left
                                  · rintro w' ⟨s0, s1⟩
                                    go_simp
                                    with_reducible rfl
                                  rotate_left
                                  · simp only [Act.put, List.setIfInBounds_toArray, List.set_cons_zero, List.set_cons_succ, i64_w, i32_w]
                                    rfl
                                  refine pure_ (i := 8) (N := some 109) (v := ?_) (a' := ?_) #[true, true, true, true, true, true, true, true, true, false, false] rfl rfl (any_of HT_.out (by kernel_rfl)) (fun _ _ _ h => h) (Or.inl ⟨by rfl, ?_⟩) ?_ ?_
                                  rotate_left
                                  · intro w'
                                    go_simp
                                    with_reducible rfl
                                  rotate_left
                                  · simp only [Act.put, List.setIfInBounds_toArray, List.set_cons_zero, List.set_cons_succ, i64_w, i32_w]
                                    rfl
                                  refine pure_ (i := 9) (N := some 110) (v := ?_) (a' := ?_) #[true, true, true, true, true, true, true, true, true, true, false] rfl rfl (any_of HT_.out (by kernel_rfl)) (fun _ _ _ h => h) (Or.inl ⟨by rfl, ?_⟩) ?_ ?_
                                  rotate_left
                                  · intro w'
                                    go_simp
                                    with_reducible rfl
                                  rotate_left
                                  · simp only [Act.put, List.setIfInBounds_toArray, List.set_cons_zero, List.set_cons_succ, i64_w, i32_w]
                                    rfl
                                  refine last_ (i := 10) (N := none) #[true, true, true, true, true, true, true, true, true, true, true] rfl rfl (one_of HT_.out (by kernel_rfl)) (by decide) (fun K hK => ?_)
                                  refine skip_ (w1 := ?_) (by rfl) rfl ?_ ?_
                                  rotate_left
                                  · go_simp
                                    rfl
                                  refine hK.out _ _ ?_
                                  clear hK K
                                  refine done_ (done_of HT_.out (by kernel_rfl)) ?_
                                  try go_wp2
                                  (try simp only [← hl20_4])
                                  go_roundg k4
                                  case measure => have := HJ6.out; have := HJ17.out; have := HJ35.out; have := HK4.out; omega
                                  case rel => exact ⟨(y365), (wrap64 (x94_4 + 1)), (by first | rfl | (simp; done) | (simp [*]; done) | (simp [*, Int.tdiv_eq_ediv_of_nonneg]; done)), H', ⟨by have := HJ6.out; have := HJ17.out; have := HJ35.out; have := HK4.out; omega⟩, ⟨by (try simp only [hl20_4]); (with_reducible repeat (first | apply Kd.R_alloc | apply Kd.R_drewN | apply Kd.R_drew)); exact HQ82.out⟩, ⟨by (try simp only [hl20_4]); (with_reducible repeat (first | apply Kd.V_alloc | apply Kd.V_drewN | apply Kd.V_drew)); exact Kd.V_mono (Kd.V_far (p := ⟨go80, (x94_4 : Int).toNat, none⟩) (Kd.V_mono HO_338001.out (fun k_ hk => (⟨hk, fun e_ => hk.1 (by rw [e_]; rfl)⟩ : _ ∧ k_ ≠ go80))) (fun _ hk => hk.2) (.int .u8 (Go.bits .and .u8 (rd x20_4 x94_4) (rd l4 x94_4)))) (fun _ hk => ⟨hk.1.1, ⟨hk.1.2.1, ⟨hk.1.2.2.1, ⟨hk.1.2.2.2.1, ⟨hk.1.2.2.2.2.1, hk.1.2.2.2.2.2⟩⟩⟩⟩⟩)⟩, ⟨by (try simp only [hl20_4]); (with_reducible repeat (first | apply Kd.V_alloc | apply Kd.V_drewN | apply Kd.V_drew)); exact Kd.V_mono (Kd.V_far (p := ⟨go80, (x94_4 : Int).toNat, none⟩) (Kd.V_mono HO_344001.out (fun k_ hk => (⟨hk, fun e_ => hk.1 (by rw [e_]; rfl)⟩ : _ ∧ k_ ≠ go80))) (fun _ hk => hk.2) (.int .u8 (Go.bits .and .u8 (rd x20_4 x94_4) (rd l4 x94_4)))) (fun _ hk => ⟨hk.1.1, ⟨hk.1.2.1, ⟨hk.1.2.2.1, ⟨hk.1.2.2.2.1, ⟨hk.1.2.2.2.2.1, hk.1.2.2.2.2.2⟩⟩⟩⟩⟩)⟩, ⟨by (try simp only [hl20_4]); (with_reducible repeat (first | apply Kd.V_alloc | apply Kd.V_drewN | apply Kd.V_drew)); exact Kd.V_mono (Kd.V_far (p := ⟨go80, (x94_4 : Int).toNat, none⟩) (Kd.V_mono HO_350001.out (fun k_ hk => (⟨hk, fun e_ => hk.1 (by rw [e_]; rfl)⟩ : _ ∧ k_ ≠ go80))) (fun _ hk => hk.2) (.int .u8 (Go.bits .and .u8 (rd x20_4 x94_4) (rd l4 x94_4)))) (fun _ hk => ⟨hk.1.1, ⟨hk.1.2.1, ⟨hk.1.2.2.1, ⟨hk.1.2.2.2.1, ⟨hk.1.2.2.2.2.1, hk.1.2.2.2.2.2⟩⟩⟩⟩⟩)⟩, ⟨by (try simp only [hl20_4]); (with_reducible repeat (first | apply Kd.V_alloc | apply Kd.V_drewN | apply Kd.V_drew)); exact Kd.V_mono (Kd.V_far (p := ⟨go80, (x94_4 : Int).toNat, none⟩) (Kd.V_mono HO_356001.out (fun k_ hk => (⟨hk, fun e_ => hk.1 (by rw [e_]; rfl)⟩ : _ ∧ k_ ≠ go80))) (fun _ hk => hk.2) (.int .u8 (Go.bits .and .u8 (rd x20_4 x94_4) (rd l4 x94_4)))) (fun _ hk => ⟨hk.1.1, ⟨hk.1.2.1, ⟨hk.1.2.2.1, ⟨hk.1.2.2.2.1, ⟨hk.1.2.2.2.2.1, hk.1.2.2.2.2.2⟩⟩⟩⟩⟩)⟩, ⟨by (try simp only [hl20_4]); (with_reducible repeat (first | refine blk_drewN ?_ _ | refine blk_drew ?_ | refine blk_alloc ?_ _)); refine blk_far ?_ (by have h_ := Kd.R_ne HO_20.out BK330.out (by decide); intro e_; exact h_ (by rw [e_]; rfl)) _; (with_reducible repeat (first | refine blk_drewN ?_ _ | refine blk_drew ?_ | refine blk_alloc ?_ _)); exact BK330.out⟩, ⟨by (try simp only [hl20_4]); (with_reducible repeat (first | refine blk_drewN ?_ _ | refine blk_drew ?_ | refine blk_alloc ?_ _)); refine blk_far ?_ (by have h_ := Kd.R_ne HO_20.out BK337.out (by decide); intro e_; exact h_ (by rw [e_]; rfl)) _; (with_reducible repeat (first | refine blk_drewN ?_ _ | refine blk_drew ?_ | refine blk_alloc ?_ _)); exact BK337.out⟩, ⟨by (try simp only [hl20_4]); (with_reducible repeat (first | refine blk_drewN ?_ _ | refine blk_drew ?_ | refine blk_alloc ?_ _)); refine blk_far ?_ (by have h_ := Kd.R_ne HO_20.out BK343.out (by decide); intro e_; exact h_ (by rw [e_]; rfl)) _; (with_reducible repeat (first | refine blk_drewN ?_ _ | refine blk_drew ?_ | refine blk_alloc ?_ _)); exact BK343.out⟩, ⟨by (try simp only [hl20_4]); (with_reducible repeat (first | refine blk_drewN ?_ _ | refine blk_drew ?_ | refine blk_alloc ?_ _)); refine blk_far ?_ (by have h_ := Kd.R_ne HO_20.out BK349.out (by decide); intro e_; exact h_ (by rw [e_]; rfl)) _; (with_reducible repeat (first | refine blk_drewN ?_ _ | refine blk_drew ?_ | refine blk_alloc ?_ _)); exact BK349.out⟩, ⟨by (try simp only [hl20_4]); (with_reducible repeat (first | refine blk_drewN ?_ _ | refine blk_drew ?_ | refine blk_alloc ?_ _)); refine blk_far ?_ (by have h_ := Kd.R_ne HO_20.out BK355.out (by decide); intro e_; exact h_ (by rw [e_]; rfl)) _; (with_reducible repeat (first | refine blk_drewN ?_ _ | refine blk_drew ?_ | refine blk_alloc ?_ _)); exact BK355.out⟩, ⟨by repeat (first | (with_reducible first | exact HB.out | apply below_alloc | apply pw_below_drewN | apply below_drew1 | refine below_set ?_ GB80.out | refine below_set ?_ GE330.out | refine below_set ?_ GE337.out | refine below_set ?_ GE343.out | refine below_set ?_ GE349.out | refine below_set ?_ GE355.out) | exact HB.out)⟩⟩
                                · rw [if_neg c79] at H
                                  exact absurd H (by simp)
                              · rw [if_neg c78] at H
                                exact absurd H (by simp)
                            · rw [if_neg c77] at H
                              have c77b0 : decide (x94_4 < (l4.length : Int)) = false := decide_eq_false c77
                              try (have c77b0x := c77b0; simp only [hl20_4] at c77b0x)
                              clear c77
                              have H' := Aside0.mk H
                              clear H
                              go_wp2
                              (try simp only [← hl20_4])
                              go_roundg k4
                              case measure => have := HJ6.out; have := HJ17.out; have := HJ35.out; have := HK4.out; omega
                              case rel => exact ⟨(x20_4), (wrap64 (x94_4 + 1)), (by first | rfl | (simp; done) | (simp [*]; done) | (simp [*, Int.tdiv_eq_ediv_of_nonneg]; done)), H', ⟨by have := HJ6.out; have := HJ17.out; have := HJ35.out; have := HK4.out; omega⟩, ⟨by (try simp only [hl20_4]); (with_reducible repeat (first | apply Kd.R_alloc | apply Kd.R_drewN | apply Kd.R_drew)); exact HO_20.out⟩, ⟨by (try simp only [hl20_4]); (with_reducible repeat (first | apply Kd.V_alloc | apply Kd.V_drewN | apply Kd.V_drew)); exact HO_338001.out⟩, ⟨by (try simp only [hl20_4]); (with_reducible repeat (first | apply Kd.V_alloc | apply Kd.V_drewN | apply Kd.V_drew)); exact HO_344001.out⟩, ⟨by (try simp only [hl20_4]); (with_reducible repeat (first | apply Kd.V_alloc | apply Kd.V_drewN | apply Kd.V_drew)); exact HO_350001.out⟩, ⟨by (try simp only [hl20_4]); (with_reducible repeat (first | apply Kd.V_alloc | apply Kd.V_drewN | apply Kd.V_drew)); exact HO_356001.out⟩, ⟨by (try simp only [hl20_4]); (with_reducible repeat (first | refine blk_drewN ?_ _ | refine blk_drew ?_ | refine blk_alloc ?_ _)); exact BK330.out⟩, ⟨by (try simp only [hl20_4]); (with_reducible repeat (first | refine blk_drewN ?_ _ | refine blk_drew ?_ | refine blk_alloc ?_ _)); exact BK337.out⟩, ⟨by (try simp only [hl20_4]); (with_reducible repeat (first | refine blk_drewN ?_ _ | refine blk_drew ?_ | refine blk_alloc ?_ _)); exact BK343.out⟩, ⟨by (try simp only [hl20_4]); (with_reducible repeat (first | refine blk_drewN ?_ _ | refine blk_drew ?_ | refine blk_alloc ?_ _)); exact BK349.out⟩, ⟨by (try simp only [hl20_4]); (with_reducible repeat (first | refine blk_drewN ?_ _ | refine blk_drew ?_ | refine blk_alloc ?_ _)); exact BK355.out⟩, ⟨by repeat (first | (with_reducible first | exact HB.out | apply below_alloc | apply pw_below_drewN | apply below_drew1 | refine below_set ?_ GE330.out | refine below_set ?_ GE337.out | refine below_set ?_ GE343.out | refine below_set ?_ GE349.out | refine below_set ?_ GE355.out) | exact HB.out)⟩⟩
                          · rw [if_neg c76] at H
                            have c76b0 : decide (x94_4 < (y360.length : Int)) = false := decide_eq_false c76
                            try (have c76b0x := c76b0; simp only [hl20_4] at c76b0x)
                            clear c76
                            by_cases c83 : (l4.length : Int) > (l2.length : Int)
                            · rw [if_pos c83] at H
                              have c83b0 : decide ((l2.length : Int) < (l4.length : Int)) = true := decide_eq_true c83
                              try (have c83b0x := c83b0; simp only [hl20_4] at c83b0x)
                              have c83b1 : decide (l2.length < l4.length) = true := decide_eq_true (Int.ofNat_lt.mp c83)
                              clear c83
                              obtain rfl := Option.some.inj H
                              go_wp2
                              go_ret
                              exact ⟨by first | rfl | (simp [errW_none, errW_some] <;> rfl) | (simp [*, errW_none, errW_some] <;> rfl) | (rw [Int.tmod_eq_emod_of_nonneg (Int.natCast_nonneg _)]; rfl), by repeat (first | (with_reducible first | exact HB.out | apply below_alloc | apply pw_below_drewN | apply below_drew1 | refine below_set ?_ GE330.out | refine below_set ?_ GE337.out | refine below_set ?_ GE343.out | refine below_set ?_ GE349.out | refine below_set ?_ GE355.out) | exact HB.out)⟩
                            · rw [if_neg c83] at H
                              have c83b0 : decide ((l2.length : Int) < (l4.length : Int)) = false := decide_eq_false c83
                              try (have c83b0x := c83b0; simp only [hl20_4] at c83b0x)
                              have c83b1 : decide (l2.length < l4.length) = false := decide_eq_false (fun h => c83 (Int.ofNat_lt.mpr h))
                              clear c83
                              replace H := Option.bind_eq_some_iff.mp H
                              obtain ⟨⟨t366, t367, t370⟩, A840, H⟩ := H
                              replace H : ((chargeparklaw17_done.f a0_0 l0_1 a1 x20_4).bind fun bt372 => (if t331 = true then (if t370 = true then (if bt372.2.2 = true then ((chargeparkref17_Same.f k4 t366 t367 bt372.1 bt372.2.1).bind fun t378 => (some t378)) else (none)) else (none)) else (none))) = some r := H
                              have A84 := Aside0.mk A840
                              clear A840
                              replace H := Option.bind_eq_some_iff.mp H
                              obtain ⟨⟨t372, t373, t376⟩, A850, H⟩ := H
                              replace H : (if t331 = true then (if t370 = true then (if t376 = true then ((chargeparkref17_Same.f k4 t366 t367 t372 t373).bind fun t378 => (some t378)) else (none)) else (none)) else (none)) = some r := H
                              have A85 := Aside0.mk A850
                              clear A850
                              by_cases c86 : t331 = true
                              · subst c86
                                have H1 : (if t370 = true then (if t376 = true then ((chargeparkref17_Same.f k4 t366 t367 t372 t373).bind fun t378 => (some t378)) else (none)) else (none)) = some r := by rw [if_pos rfl] at H; exact H
                                clear H
                                have H := H1
                                clear H1
                                by_cases c87 : t370 = true
                                · subst c87
                                  have H1 : (if t376 = true then ((chargeparkref17_Same.f k4 t366 t367 t372 t373).bind fun t378 => (some t378)) else (none)) = some r := by rw [if_pos rfl] at H; exact H
                                  clear H
                                  have H := H1
                                  clear H1
                                  by_cases c88 : t376 = true
                                  · subst c88
                                    have H1 : ((chargeparkref17_Same.f k4 t366 t367 t372 t373).bind fun t378 => (some t378)) = some r := by rw [if_pos rfl] at H; exact H
                                    clear H
                                    have H := H1
                                    clear H1
                                    replace H := Option.bind_eq_some_iff.mp H
                                    obtain ⟨t378, A890, H⟩ := H
                                    replace H : (some t378) = some r := H
                                    have A89 := Aside0.mk A890
                                    clear A890
                                    obtain rfl := Option.some.inj H
                                    have hnb90 := NB337_330.out
                                    have hnc90 := NB330_337.out
                                    have hnb91 := NB337_343.out
                                    have hnc91 := NB343_337.out
                                    have hnb92 := NB337_349.out
                                    have hnc92 := NB349_337.out
                                    have hnb93 := NB337_355.out
                                    have hnc93 := NB355_337.out
                                    have hcz94_0 : wr.cell? ⟨gb337, 0, none⟩ = some (.int .i64 t332) := (blk_cell BK337.out 0).trans rfl
                                    have hcz94_1 : wr.cell? ⟨gb337, 1, none⟩ = some (.slice Ao24 t333.length co24) := (blk_cell BK337.out 1).trans rfl
                                    have hfz94_0 := blk_frozen BK337.out 0
                                    have hfz94_1 := blk_frozen BK337.out 1
                                    go_wp2_with (first | ((with_reducible refine gate_callee (f := 22) rfl ?_); refine goesL_ (some 122) rfl rfl Try.func22 (by kernel_rfl) rfl #[.agg #[.int .i64 t332, .slice Ao24 t333.length co24], .int .i64 a1, .slice A4 l4.length c4] rfl (by (try simp only [List.map_toArray, List.map_cons, List.map_nil]); first | done | rfl | (simp only [List.length_drop, List.length_take]; rfl)) ?_; (with_reducible refine (chargeparklaw17_done.calls t332 _ _ t333 a1 _ _ l4 t366 t367 true _ ?side1 ?side2 ?side3 ?side4 A84.out).mono ?_); (case side1 => repeat (first | exact (Kd.V_reads' HO_338001.out).2.2 | (with_reducible refine Kd.C_alloc ?_ _) | (with_reducible refine Kd.C_drewN ?_ _) | (with_reducible refine Kd.C_drew ?_))); (case side2 => exact (Kd.V_reads' HO_338001.out).2.1); (case side3 => repeat (first | exact (Kd.C_below HR4.out HB.out) | (with_reducible refine Kd.C_alloc ?_ _) | (with_reducible refine Kd.C_drewN ?_ _) | (with_reducible refine Kd.C_drew ?_))); (case side4 => exact HC4.out); rintro e w95 ⟨v368, rfl, ho0, hb⟩; refine ⟨_, rfl, ?_⟩; have n0_ := Aside0.mk (Kd.R_below (by (with_reducible repeat (first | apply Kd.R_alloc | apply Kd.R_drewN | apply Kd.R_drew)); exact HO_20.out) hb); have n1_ := Aside0.mk (Kd.V_below (by (with_reducible repeat (first | apply Kd.V_alloc | apply Kd.V_drewN | apply Kd.V_drew)); exact HO_338001.out) hb); have n2_ := Aside0.mk (Kd.V_below (by (with_reducible repeat (first | apply Kd.V_alloc | apply Kd.V_drewN | apply Kd.V_drew)); exact HO_344001.out) hb); have n3_ := Aside0.mk (Kd.V_below (by (with_reducible repeat (first | apply Kd.V_alloc | apply Kd.V_drewN | apply Kd.V_drew)); exact HO_350001.out) hb); have n4_ := Aside0.mk (Kd.V_below (by (with_reducible repeat (first | apply Kd.V_alloc | apply Kd.V_drewN | apply Kd.V_drew)); exact HO_356001.out) hb); have n5_ := Aside0.mk (Kd.V_lower (Kd.V_mono (ok' := fun k_ => some k_ ≠ (.slice Ao75 x20_4.length co75 : Value).ownBlock ∧ k_ ≠ gb330 ∧ k_ ≠ gb337 ∧ k_ ≠ gb343 ∧ k_ ≠ gb349 ∧ k_ ≠ gb355) ho0 (fun k_ hk_ => ⟨(Kd.fresh' (Kd.R_lt (by (with_reducible repeat (first | apply Kd.R_alloc | apply Kd.R_drewN | apply Kd.R_drew)); exact HO_20.out)) k_ hk_), (Kd.freshB (g := gb330) (o := .cells #[.int .i64 a0_0, .slice A0_1 l0_1.length c0_1] 24 (0, 0)) (by (with_reducible repeat (first | refine blk_drewN ?_ _ | refine blk_drew ?_ | refine blk_alloc ?_ _)); exact BK330.out) k_ hk_), (Kd.freshB (g := gb337) (o := .cells #[.int .i64 t332, .slice Ao24 t333.length co24] 24 (0, 0)) (by (with_reducible repeat (first | refine blk_drewN ?_ _ | refine blk_drew ?_ | refine blk_alloc ?_ _)); exact BK337.out) k_ hk_), (Kd.freshB (g := gb343) (o := .cells #[.int .i64 t338, .slice Ao31 t339.length co31] 24 (0, 0)) (by (with_reducible repeat (first | refine blk_drewN ?_ _ | refine blk_drew ?_ | refine blk_alloc ?_ _)); exact BK343.out) k_ hk_), (Kd.freshB (g := gb349) (o := .cells #[.int .i64 t344, .slice Ao46 t345.length co46] 24 (0, 0)) (by (with_reducible repeat (first | refine blk_drewN ?_ _ | refine blk_drew ?_ | refine blk_alloc ?_ _)); exact BK349.out) k_ hk_), (Kd.freshB (g := gb355) (o := .cells #[.int .i64 t350, .slice Ao56 t351.length co56] 24 (0, 0)) (by (with_reducible repeat (first | refine blk_drewN ?_ _ | refine blk_drew ?_ | refine blk_alloc ?_ _)); exact BK355.out) k_ hk_)⟩)) (below_size (by repeat (first | (with_reducible first | exact HB.out | apply below_alloc | apply pw_below_drewN | apply below_drew1 | refine below_set ?_ GE330.out | refine below_set ?_ GE337.out | refine below_set ?_ GE343.out | refine below_set ?_ GE349.out | refine below_set ?_ GE355.out) | exact HB.out)))); have n6_ := Aside0.mk (blk_below (g := gb330) (o := .cells #[.int .i64 a0_0, .slice A0_1 l0_1.length c0_1] 24 (0, 0)) (by (with_reducible repeat (first | refine blk_drewN ?_ _ | refine blk_drew ?_ | refine blk_alloc ?_ _)); exact BK330.out) hb); have n7_ := Aside0.mk (blk_below (g := gb337) (o := .cells #[.int .i64 t332, .slice Ao24 t333.length co24] 24 (0, 0)) (by (with_reducible repeat (first | refine blk_drewN ?_ _ | refine blk_drew ?_ | refine blk_alloc ?_ _)); exact BK337.out) hb); have n8_ := Aside0.mk (blk_below (g := gb343) (o := .cells #[.int .i64 t338, .slice Ao31 t339.length co31] 24 (0, 0)) (by (with_reducible repeat (first | refine blk_drewN ?_ _ | refine blk_drew ?_ | refine blk_alloc ?_ _)); exact BK343.out) hb); have n9_ := Aside0.mk (blk_below (g := gb349) (o := .cells #[.int .i64 t344, .slice Ao46 t345.length co46] 24 (0, 0)) (by (with_reducible repeat (first | refine blk_drewN ?_ _ | refine blk_drew ?_ | refine blk_alloc ?_ _)); exact BK349.out) hb); have n10_ := Aside0.mk (blk_below (g := gb355) (o := .cells #[.int .i64 t350, .slice Ao56 t351.length co56] 24 (0, 0)) (by (with_reducible repeat (first | refine blk_drewN ?_ _ | refine blk_drew ?_ | refine blk_alloc ?_ _)); exact BK355.out) hb); have n11_ := Aside0.mk (below_step (by repeat (first | (with_reducible first | exact HB.out | apply below_alloc | apply pw_below_drewN | apply below_drew1 | refine below_set ?_ GE330.out | refine below_set ?_ GE337.out | refine below_set ?_ GE343.out | refine below_set ?_ GE349.out | refine below_set ?_ GE355.out) | exact HB.out)) hb); clear HO_20; clear HO_338001; clear HO_344001; clear HO_350001; clear HO_356001; clear BK330; clear BK337; clear BK343; clear BK349; clear BK355; clear HB; have HO_20 := n0_; have HO_338001 := n1_; have HO_344001 := n2_; have HO_350001 := n3_; have HO_356001 := n4_; have HO369 := n5_; have BK330 := n6_; have BK337 := n7_; have BK343 := n8_; have BK349 := n9_; have BK355 := n10_; have HB := n11_; clear n0_ n1_ n2_ n3_ n4_ n5_ n6_ n7_ n8_ n9_ n10_ n11_; (try clear hb); (try clear hb2); (try clear hk); (try clear hi); (try clear ho0)) | ((with_reducible refine gate_dst (N := 22) rfl ?_); (try (refine gate_guard (by rfl) ?_; dsimp only)); refine box_event ?hg (N := 22) ?hd (cs := #[.int .i64 0, .slice none 0 0]) (t := 24) ?hr ?_; (case hd => rfl); (case hg => rfl); (case hr => first | (go_simp; done) | (go_simp; rfl)); intro gb371 hg w96 hbox hb; have n0_ := Aside0.mk (Kd.R_below (by (with_reducible repeat (first | apply Kd.R_alloc | apply Kd.R_drewN | apply Kd.R_drew)); exact HO_20.out) hb); have n1_ := Aside0.mk (Kd.V_below (Kd.V_elderB (by (with_reducible repeat (first | apply Kd.V_alloc | apply Kd.V_drewN | apply Kd.V_drew)); exact HO_338001.out) gb371 (Nat.le_of_eq hg.symm)) hb); have n2_ := Aside0.mk (Kd.V_below (Kd.V_elderB (by (with_reducible repeat (first | apply Kd.V_alloc | apply Kd.V_drewN | apply Kd.V_drew)); exact HO_344001.out) gb371 (Nat.le_of_eq hg.symm)) hb); have n3_ := Aside0.mk (Kd.V_below (Kd.V_elderB (by (with_reducible repeat (first | apply Kd.V_alloc | apply Kd.V_drewN | apply Kd.V_drew)); exact HO_350001.out) gb371 (Nat.le_of_eq hg.symm)) hb); have n4_ := Aside0.mk (Kd.V_below (Kd.V_elderB (by (with_reducible repeat (first | apply Kd.V_alloc | apply Kd.V_drewN | apply Kd.V_drew)); exact HO_356001.out) gb371 (Nat.le_of_eq hg.symm)) hb); have n5_ := Aside0.mk (Kd.V_below (Kd.V_elderB (by (with_reducible repeat (first | apply Kd.V_alloc | apply Kd.V_drewN | apply Kd.V_drew)); exact HO369.out) gb371 (Nat.le_of_eq hg.symm)) hb); have n6_ := Aside0.mk (blk_below (g := gb330) (o := .cells #[.int .i64 a0_0, .slice A0_1 l0_1.length c0_1] 24 (0, 0)) (by (with_reducible repeat (first | refine blk_drewN ?_ _ | refine blk_drew ?_ | refine blk_alloc ?_ _)); exact BK330.out) hb); have n7_ := Aside0.mk (blk_below (g := gb337) (o := .cells #[.int .i64 t332, .slice Ao24 t333.length co24] 24 (0, 0)) (by (with_reducible repeat (first | refine blk_drewN ?_ _ | refine blk_drew ?_ | refine blk_alloc ?_ _)); exact BK337.out) hb); have n8_ := Aside0.mk (blk_below (g := gb343) (o := .cells #[.int .i64 t338, .slice Ao31 t339.length co31] 24 (0, 0)) (by (with_reducible repeat (first | refine blk_drewN ?_ _ | refine blk_drew ?_ | refine blk_alloc ?_ _)); exact BK343.out) hb); have n9_ := Aside0.mk (blk_below (g := gb349) (o := .cells #[.int .i64 t344, .slice Ao46 t345.length co46] 24 (0, 0)) (by (with_reducible repeat (first | refine blk_drewN ?_ _ | refine blk_drew ?_ | refine blk_alloc ?_ _)); exact BK349.out) hb); have n10_ := Aside0.mk (blk_below (g := gb355) (o := .cells #[.int .i64 t350, .slice Ao56 t351.length co56] 24 (0, 0)) (by (with_reducible repeat (first | refine blk_drewN ?_ _ | refine blk_drew ?_ | refine blk_alloc ?_ _)); exact BK355.out) hb); have n11_ := Aside0.mk (below_step (by repeat (first | (with_reducible first | exact HB.out | apply below_alloc | apply pw_below_drewN | apply below_drew1 | refine below_set ?_ GE330.out | refine below_set ?_ GE337.out | refine below_set ?_ GE343.out | refine below_set ?_ GE349.out | refine below_set ?_ GE355.out) | exact HB.out)) hb); have n12_ := Aside0.mk (hbox); have n13_ := Aside0.mk ((by rw [hg]; exact (below_size (by repeat (first | (with_reducible first | exact HB.out | apply below_alloc | apply pw_below_drewN | apply below_drew1 | refine below_set ?_ GE330.out | refine below_set ?_ GE337.out | refine below_set ?_ GE343.out | refine below_set ?_ GE349.out | refine below_set ?_ GE355.out) | exact HB.out))) : w.heap.size ≤ gb371)); have n14_ := Aside0.mk ((by rw [hg]; exact (below_size (by repeat (first | (with_reducible first | exact HB.out | apply below_alloc | apply pw_below_drewN | apply below_drew1 | refine below_set ?_ GE330.out | refine below_set ?_ GE337.out | refine below_set ?_ GE343.out | refine below_set ?_ GE349.out | refine below_set ?_ GE355.out) | exact HB.out))) : w.heap.size ≤ gb371)); have n15_ := Aside0.mk ((by rw [hg]; exact Nat.ne_of_lt (blk_lt (g := gb330) (o := .cells #[.int .i64 a0_0, .slice A0_1 l0_1.length c0_1] 24 (0, 0)) (by (with_reducible repeat (first | refine blk_drewN ?_ _ | refine blk_drew ?_ | refine blk_alloc ?_ _)); exact BK330.out)) : gb330 ≠ gb371)); have n16_ := Aside0.mk ((by rw [hg]; exact Nat.ne_of_gt (blk_lt (g := gb330) (o := .cells #[.int .i64 a0_0, .slice A0_1 l0_1.length c0_1] 24 (0, 0)) (by (with_reducible repeat (first | refine blk_drewN ?_ _ | refine blk_drew ?_ | refine blk_alloc ?_ _)); exact BK330.out)) : gb371 ≠ gb330)); have n17_ := Aside0.mk ((by rw [hg]; exact Nat.ne_of_lt (blk_lt (g := gb337) (o := .cells #[.int .i64 t332, .slice Ao24 t333.length co24] 24 (0, 0)) (by (with_reducible repeat (first | refine blk_drewN ?_ _ | refine blk_drew ?_ | refine blk_alloc ?_ _)); exact BK337.out)) : gb337 ≠ gb371)); have n18_ := Aside0.mk ((by rw [hg]; exact Nat.ne_of_gt (blk_lt (g := gb337) (o := .cells #[.int .i64 t332, .slice Ao24 t333.length co24] 24 (0, 0)) (by (with_reducible repeat (first | refine blk_drewN ?_ _ | refine blk_drew ?_ | refine blk_alloc ?_ _)); exact BK337.out)) : gb371 ≠ gb337)); have n19_ := Aside0.mk ((by rw [hg]; exact Nat.ne_of_lt (blk_lt (g := gb343) (o := .cells #[.int .i64 t338, .slice Ao31 t339.length co31] 24 (0, 0)) (by (with_reducible repeat (first | refine blk_drewN ?_ _ | refine blk_drew ?_ | refine blk_alloc ?_ _)); exact BK343.out)) : gb343 ≠ gb371)); have n20_ := Aside0.mk ((by rw [hg]; exact Nat.ne_of_gt (blk_lt (g := gb343) (o := .cells #[.int .i64 t338, .slice Ao31 t339.length co31] 24 (0, 0)) (by (with_reducible repeat (first | refine blk_drewN ?_ _ | refine blk_drew ?_ | refine blk_alloc ?_ _)); exact BK343.out)) : gb371 ≠ gb343)); have n21_ := Aside0.mk ((by rw [hg]; exact Nat.ne_of_lt (blk_lt (g := gb349) (o := .cells #[.int .i64 t344, .slice Ao46 t345.length co46] 24 (0, 0)) (by (with_reducible repeat (first | refine blk_drewN ?_ _ | refine blk_drew ?_ | refine blk_alloc ?_ _)); exact BK349.out)) : gb349 ≠ gb371)); have n22_ := Aside0.mk ((by rw [hg]; exact Nat.ne_of_gt (blk_lt (g := gb349) (o := .cells #[.int .i64 t344, .slice Ao46 t345.length co46] 24 (0, 0)) (by (with_reducible repeat (first | refine blk_drewN ?_ _ | refine blk_drew ?_ | refine blk_alloc ?_ _)); exact BK349.out)) : gb371 ≠ gb349)); have n23_ := Aside0.mk ((by rw [hg]; exact Nat.ne_of_lt (blk_lt (g := gb355) (o := .cells #[.int .i64 t350, .slice Ao56 t351.length co56] 24 (0, 0)) (by (with_reducible repeat (first | refine blk_drewN ?_ _ | refine blk_drew ?_ | refine blk_alloc ?_ _)); exact BK355.out)) : gb355 ≠ gb371)); have n24_ := Aside0.mk ((by rw [hg]; exact Nat.ne_of_gt (blk_lt (g := gb355) (o := .cells #[.int .i64 t350, .slice Ao56 t351.length co56] 24 (0, 0)) (by (with_reducible repeat (first | refine blk_drewN ?_ _ | refine blk_drew ?_ | refine blk_alloc ?_ _)); exact BK355.out)) : gb371 ≠ gb355)); clear HO_20; clear HO_338001; clear HO_344001; clear HO_350001; clear HO_356001; clear HO369; clear BK330; clear BK337; clear BK343; clear BK349; clear BK355; clear HB; have HO_20 := n0_; have HO_338001 := n1_; have HO_344001 := n2_; have HO_350001 := n3_; have HO_356001 := n4_; have HO369 := n5_; have BK330 := n6_; have BK337 := n7_; have BK343 := n8_; have BK349 := n9_; have BK355 := n10_; have HB := n11_; have BK371 := n12_; have GW371 := n13_; have GE371 := n14_; have NB330_371 := n15_; have NB371_330 := n16_; have NB337_371 := n17_; have NB371_337 := n18_; have NB343_371 := n19_; have NB371_343 := n20_; have NB349_371 := n21_; have NB371_349 := n22_; have NB355_371 := n23_; have NB371_355 := n24_; clear n0_ n1_ n2_ n3_ n4_ n5_ n6_ n7_ n8_ n9_ n10_ n11_ n12_ n13_ n14_ n15_ n16_ n17_ n18_ n19_ n20_ n21_ n22_ n23_ n24_; clear hb hbox hg; have hnb97 := NB371_330.out; have hnc97 := NB330_371.out; have hnb98 := NB371_337.out; have hnc98 := NB337_371.out; have hnb99 := NB371_343.out; have hnc99 := NB343_371.out; have hnb100 := NB371_349.out; have hnc100 := NB349_371.out; have hnb101 := NB371_355.out; have hnc101 := NB355_371.out; have hcz102_0 : w96.cell? ⟨gb371, 0, none⟩ = some (.int .i64 0) := (blk_cell BK371.out 0).trans rfl; have hcz102_1 : w96.cell? ⟨gb371, 1, none⟩ = some (.slice none 0 0) := (blk_cell BK371.out 1).trans rfl; have hfz102_0 := blk_frozen BK371.out 0; have hfz102_1 := blk_frozen BK371.out 1; obtain ⟨Ao103, co103, eo103⟩ := Kd.V_slice HO369.out; subst eo103; have hnb104 := NB330_343.out; have hnc104 := NB343_330.out; have hnb105 := NB330_349.out; have hnc105 := NB349_330.out; have hnb106 := NB330_355.out; have hnc106 := NB355_330.out; have hcz107_0 : w96.cell? ⟨gb330, 0, none⟩ = some (.int .i64 a0_0) := (blk_cell BK330.out 0).trans rfl; have hcz107_1 : w96.cell? ⟨gb330, 1, none⟩ = some (.slice A0_1 l0_1.length c0_1) := (blk_cell BK330.out 1).trans rfl; have hfz107_0 := blk_frozen BK330.out 0; have hfz107_1 := blk_frozen BK330.out 1) | ((with_reducible refine gate_callee (f := 22) rfl ?_); refine goesL_ (some 129) rfl rfl Try.func22 (by kernel_rfl) rfl #[.agg #[.int .i64 a0_0, .slice A0_1 l0_1.length c0_1], .int .i64 a1, .slice Ao75 x20_4.length co75] rfl (by (try simp only [List.map_toArray, List.map_cons, List.map_nil]); first | done | rfl | (simp only [List.length_drop, List.length_take]; rfl)) ?_; (with_reducible refine (chargeparklaw17_done.calls a0_0 _ _ l0_1 a1 _ _ x20_4 t372 t373 true _ ?side1 ?side2 ?side3 ?side4 A85.out).mono ?_); (case side1 => exact Kd.C_below HR0_1.out (by repeat (first | (with_reducible first | exact HB.out | apply below_alloc | apply pw_below_drewN | apply below_drew1 | refine below_set ?_ GE330.out | refine below_set ?_ GE337.out | refine below_set ?_ GE343.out | refine below_set ?_ GE349.out | refine below_set ?_ GE355.out | refine below_set ?_ GE371.out) | exact HB.out))); (case side2 => exact HC0_1.out); (case side3 => refine (Kd.R_reads' (e := 5) (base := w.heap.size) (ok := fun k_ => True) (n := x20_4.length) (c := co75) ?_).2.2; exact (by (with_reducible repeat (first | apply Kd.R_alloc | apply Kd.R_drewN | apply Kd.R_drew)); exact (Kd.R_mono (Kd.R_far (p := ⟨gb371, 1, none⟩) (Kd.R_far (p := ⟨gb371, 0, none⟩) (Kd.R_types HO_20.out BK371.out (by decide)) (fun _ hk => hk.2) (.int .i64 t366)) (fun _ hk => hk.2) (.slice Ao103 t367.length co103)) (fun _ h_ => h_.1)))); (case side4 => exact (Kd.R_reads' HO_20.out).2.1); rintro e w108 ⟨v374, rfl, ho0, hb⟩; refine ⟨_, rfl, ?_⟩; have n0_ := Aside0.mk (Kd.R_below (by (with_reducible repeat (first | apply Kd.R_alloc | apply Kd.R_drewN | apply Kd.R_drew)); exact (Kd.R_mono (Kd.R_far (p := ⟨gb371, 1, none⟩) (Kd.R_far (p := ⟨gb371, 0, none⟩) (Kd.R_types HO_20.out BK371.out (by decide)) (fun _ hk => hk.2) (.int .i64 t366)) (fun _ hk => hk.2) (.slice Ao103 t367.length co103)) (fun _ h_ => h_.1))) hb); have n1_ := Aside0.mk (Kd.V_below (by (with_reducible repeat (first | apply Kd.V_alloc | apply Kd.V_drewN | apply Kd.V_drew)); exact (Kd.V_mono (Kd.V_far (p := ⟨gb371, 1, none⟩) (Kd.V_far (p := ⟨gb371, 0, none⟩) (Kd.V_mono HO_338001.out (fun k_ hk => (⟨hk, hk.2⟩ : _ ∧ k_ ≠ gb371))) (fun _ hk => hk.2) (.int .i64 t366)) (fun _ hk => hk.2) (.slice Ao103 t367.length co103)) (fun _ h_ => h_.1))) hb); have n2_ := Aside0.mk (Kd.V_below (by (with_reducible repeat (first | apply Kd.V_alloc | apply Kd.V_drewN | apply Kd.V_drew)); exact (Kd.V_mono (Kd.V_far (p := ⟨gb371, 1, none⟩) (Kd.V_far (p := ⟨gb371, 0, none⟩) (Kd.V_mono HO_344001.out (fun k_ hk => (⟨hk, hk.2⟩ : _ ∧ k_ ≠ gb371))) (fun _ hk => hk.2) (.int .i64 t366)) (fun _ hk => hk.2) (.slice Ao103 t367.length co103)) (fun _ h_ => h_.1))) hb); have n3_ := Aside0.mk (Kd.V_below (by (with_reducible repeat (first | apply Kd.V_alloc | apply Kd.V_drewN | apply Kd.V_drew)); exact (Kd.V_mono (Kd.V_far (p := ⟨gb371, 1, none⟩) (Kd.V_far (p := ⟨gb371, 0, none⟩) (Kd.V_mono HO_350001.out (fun k_ hk => (⟨hk, hk.2⟩ : _ ∧ k_ ≠ gb371))) (fun _ hk => hk.2) (.int .i64 t366)) (fun _ hk => hk.2) (.slice Ao103 t367.length co103)) (fun _ h_ => h_.1))) hb); have n4_ := Aside0.mk (Kd.V_below (by (with_reducible repeat (first | apply Kd.V_alloc | apply Kd.V_drewN | apply Kd.V_drew)); exact (Kd.V_mono (Kd.V_far (p := ⟨gb371, 1, none⟩) (Kd.V_far (p := ⟨gb371, 0, none⟩) (Kd.V_mono HO_356001.out (fun k_ hk => (⟨hk, hk.2⟩ : _ ∧ k_ ≠ gb371))) (fun _ hk => hk.2) (.int .i64 t366)) (fun _ hk => hk.2) (.slice Ao103 t367.length co103)) (fun _ h_ => h_.1))) hb); have n5_ := Aside0.mk (Kd.V_below (by (with_reducible repeat (first | apply Kd.V_alloc | apply Kd.V_drewN | apply Kd.V_drew)); exact (Kd.V_mono (Kd.V_far (p := ⟨gb371, 1, none⟩) (Kd.V_far (p := ⟨gb371, 0, none⟩) (Kd.V_mono HO369.out (fun k_ hk => (⟨hk, hk.2⟩ : _ ∧ k_ ≠ gb371))) (fun _ hk => hk.2) (.int .i64 t366)) (fun _ hk => hk.2) (.slice Ao103 t367.length co103)) (fun _ h_ => h_.1))) hb); have n6_ := Aside0.mk (Kd.V_lower (Kd.V_mono (ok' := fun k_ => some k_ ≠ (.slice Ao75 x20_4.length co75 : Value).ownBlock ∧ k_ ≠ gb330 ∧ k_ ≠ gb337 ∧ k_ ≠ gb343 ∧ k_ ≠ gb349 ∧ k_ ≠ gb355 ∧ k_ ≠ gb371) ho0 (fun k_ hk_ => ⟨(Kd.fresh' (Kd.R_lt (by (with_reducible repeat (first | apply Kd.R_alloc | apply Kd.R_drewN | apply Kd.R_drew)); exact (Kd.R_mono (Kd.R_far (p := ⟨gb371, 1, none⟩) (Kd.R_far (p := ⟨gb371, 0, none⟩) (Kd.R_types HO_20.out BK371.out (by decide)) (fun _ hk => hk.2) (.int .i64 t366)) (fun _ hk => hk.2) (.slice Ao103 t367.length co103)) (fun _ h_ => h_.1)))) k_ hk_), (Kd.freshB (g := gb330) (o := .cells #[.int .i64 a0_0, .slice A0_1 l0_1.length c0_1] 24 (0, 0)) (by (with_reducible repeat (first | refine blk_drewN ?_ _ | refine blk_drew ?_ | refine blk_alloc ?_ _)); refine blk_far ?_ NB330_371.out _; (with_reducible repeat (first | refine blk_drewN ?_ _ | refine blk_drew ?_ | refine blk_alloc ?_ _)); refine blk_far ?_ NB330_371.out _; (with_reducible repeat (first | refine blk_drewN ?_ _ | refine blk_drew ?_ | refine blk_alloc ?_ _)); exact BK330.out) k_ hk_), (Kd.freshB (g := gb337) (o := .cells #[.int .i64 t332, .slice Ao24 t333.length co24] 24 (0, 0)) (by (with_reducible repeat (first | refine blk_drewN ?_ _ | refine blk_drew ?_ | refine blk_alloc ?_ _)); refine blk_far ?_ NB337_371.out _; (with_reducible repeat (first | refine blk_drewN ?_ _ | refine blk_drew ?_ | refine blk_alloc ?_ _)); refine blk_far ?_ NB337_371.out _; (with_reducible repeat (first | refine blk_drewN ?_ _ | refine blk_drew ?_ | refine blk_alloc ?_ _)); exact BK337.out) k_ hk_), (Kd.freshB (g := gb343) (o := .cells #[.int .i64 t338, .slice Ao31 t339.length co31] 24 (0, 0)) (by (with_reducible repeat (first | refine blk_drewN ?_ _ | refine blk_drew ?_ | refine blk_alloc ?_ _)); refine blk_far ?_ NB343_371.out _; (with_reducible repeat (first | refine blk_drewN ?_ _ | refine blk_drew ?_ | refine blk_alloc ?_ _)); refine blk_far ?_ NB343_371.out _; (with_reducible repeat (first | refine blk_drewN ?_ _ | refine blk_drew ?_ | refine blk_alloc ?_ _)); exact BK343.out) k_ hk_), (Kd.freshB (g := gb349) (o := .cells #[.int .i64 t344, .slice Ao46 t345.length co46] 24 (0, 0)) (by (with_reducible repeat (first | refine blk_drewN ?_ _ | refine blk_drew ?_ | refine blk_alloc ?_ _)); refine blk_far ?_ NB349_371.out _; (with_reducible repeat (first | refine blk_drewN ?_ _ | refine blk_drew ?_ | refine blk_alloc ?_ _)); refine blk_far ?_ NB349_371.out _; (with_reducible repeat (first | refine blk_drewN ?_ _ | refine blk_drew ?_ | refine blk_alloc ?_ _)); exact BK349.out) k_ hk_), (Kd.freshB (g := gb355) (o := .cells #[.int .i64 t350, .slice Ao56 t351.length co56] 24 (0, 0)) (by (with_reducible repeat (first | refine blk_drewN ?_ _ | refine blk_drew ?_ | refine blk_alloc ?_ _)); refine blk_far ?_ NB355_371.out _; (with_reducible repeat (first | refine blk_drewN ?_ _ | refine blk_drew ?_ | refine blk_alloc ?_ _)); refine blk_far ?_ NB355_371.out _; (with_reducible repeat (first | refine blk_drewN ?_ _ | refine blk_drew ?_ | refine blk_alloc ?_ _)); exact BK355.out) k_ hk_), (Kd.freshB (g := gb371) (o := .cells #[.int .i64 t366, .slice Ao103 t367.length co103] 24 (0, 0)) (by (with_reducible repeat (first | refine blk_drewN ?_ _ | refine blk_drew ?_ | refine blk_alloc ?_ _)); refine blk_put (cs := #[.int .i64 t366, .slice none 0 0]) ?_ 1 _ rfl; (with_reducible repeat (first | refine blk_drewN ?_ _ | refine blk_drew ?_ | refine blk_alloc ?_ _)); refine blk_put (cs := #[.int .i64 0, .slice none 0 0]) ?_ 0 _ rfl; (with_reducible repeat (first | refine blk_drewN ?_ _ | refine blk_drew ?_ | refine blk_alloc ?_ _)); exact BK371.out) k_ hk_)⟩)) (below_size (by repeat (first | (with_reducible first | exact HB.out | apply below_alloc | apply pw_below_drewN | apply below_drew1 | refine below_set ?_ GE330.out | refine below_set ?_ GE337.out | refine below_set ?_ GE343.out | refine below_set ?_ GE349.out | refine below_set ?_ GE355.out | refine below_set ?_ GE371.out) | exact HB.out)))); have n7_ := Aside0.mk (blk_below (g := gb330) (o := .cells #[.int .i64 a0_0, .slice A0_1 l0_1.length c0_1] 24 (0, 0)) (by (with_reducible repeat (first | refine blk_drewN ?_ _ | refine blk_drew ?_ | refine blk_alloc ?_ _)); refine blk_far ?_ NB330_371.out _; (with_reducible repeat (first | refine blk_drewN ?_ _ | refine blk_drew ?_ | refine blk_alloc ?_ _)); refine blk_far ?_ NB330_371.out _; (with_reducible repeat (first | refine blk_drewN ?_ _ | refine blk_drew ?_ | refine blk_alloc ?_ _)); exact BK330.out) hb); have n8_ := Aside0.mk (blk_below (g := gb337) (o := .cells #[.int .i64 t332, .slice Ao24 t333.length co24] 24 (0, 0)) (by (with_reducible repeat (first | refine blk_drewN ?_ _ | refine blk_drew ?_ | refine blk_alloc ?_ _)); refine blk_far ?_ NB337_371.out _; (with_reducible repeat (first | refine blk_drewN ?_ _ | refine blk_drew ?_ | refine blk_alloc ?_ _)); refine blk_far ?_ NB337_371.out _; (with_reducible repeat (first | refine blk_drewN ?_ _ | refine blk_drew ?_ | refine blk_alloc ?_ _)); exact BK337.out) hb); have n9_ := Aside0.mk (blk_below (g := gb343) (o := .cells #[.int .i64 t338, .slice Ao31 t339.length co31] 24 (0, 0)) (by (with_reducible repeat (first | refine blk_drewN ?_ _ | refine blk_drew ?_ | refine blk_alloc ?_ _)); refine blk_far ?_ NB343_371.out _; (with_reducible repeat (first | refine blk_drewN ?_ _ | refine blk_drew ?_ | refine blk_alloc ?_ _)); refine blk_far ?_ NB343_371.out _; (with_reducible repeat (first | refine blk_drewN ?_ _ | refine blk_drew ?_ | refine blk_alloc ?_ _)); exact BK343.out) hb); have n10_ := Aside0.mk (blk_below (g := gb349) (o := .cells #[.int .i64 t344, .slice Ao46 t345.length co46] 24 (0, 0)) (by (with_reducible repeat (first | refine blk_drewN ?_ _ | refine blk_drew ?_ | refine blk_alloc ?_ _)); refine blk_far ?_ NB349_371.out _; (with_reducible repeat (first | refine blk_drewN ?_ _ | refine blk_drew ?_ | refine blk_alloc ?_ _)); refine blk_far ?_ NB349_371.out _; (with_reducible repeat (first | refine blk_drewN ?_ _ | refine blk_drew ?_ | refine blk_alloc ?_ _)); exact BK349.out) hb); have n11_ := Aside0.mk (blk_below (g := gb355) (o := .cells #[.int .i64 t350, .slice Ao56 t351.length co56] 24 (0, 0)) (by (with_reducible repeat (first | refine blk_drewN ?_ _ | refine blk_drew ?_ | refine blk_alloc ?_ _)); refine blk_far ?_ NB355_371.out _; (with_reducible repeat (first | refine blk_drewN ?_ _ | refine blk_drew ?_ | refine blk_alloc ?_ _)); refine blk_far ?_ NB355_371.out _; (with_reducible repeat (first | refine blk_drewN ?_ _ | refine blk_drew ?_ | refine blk_alloc ?_ _)); exact BK355.out) hb); have n12_ := Aside0.mk (blk_below (g := gb371) (o := .cells #[.int .i64 t366, .slice Ao103 t367.length co103] 24 (0, 0)) (by (with_reducible repeat (first | refine blk_drewN ?_ _ | refine blk_drew ?_ | refine blk_alloc ?_ _)); refine blk_put (cs := #[.int .i64 t366, .slice none 0 0]) ?_ 1 _ rfl; (with_reducible repeat (first | refine blk_drewN ?_ _ | refine blk_drew ?_ | refine blk_alloc ?_ _)); refine blk_put (cs := #[.int .i64 0, .slice none 0 0]) ?_ 0 _ rfl; (with_reducible repeat (first | refine blk_drewN ?_ _ | refine blk_drew ?_ | refine blk_alloc ?_ _)); exact BK371.out) hb); have n13_ := Aside0.mk (below_step (by repeat (first | (with_reducible first | exact HB.out | apply below_alloc | apply pw_below_drewN | apply below_drew1 | refine below_set ?_ GE330.out | refine below_set ?_ GE337.out | refine below_set ?_ GE343.out | refine below_set ?_ GE349.out | refine below_set ?_ GE355.out | refine below_set ?_ GE371.out) | exact HB.out)) hb); clear HO_20; clear HO_338001; clear HO_344001; clear HO_350001; clear HO_356001; clear HO369; clear BK330; clear BK337; clear BK343; clear BK349; clear BK355; clear BK371; clear HB; have HO_20 := n0_; have HO_338001 := n1_; have HO_344001 := n2_; have HO_350001 := n3_; have HO_356001 := n4_; have HO369 := n5_; have HO375 := n6_; have BK330 := n7_; have BK337 := n8_; have BK343 := n9_; have BK349 := n10_; have BK355 := n11_; have BK371 := n12_; have HB := n13_; clear n0_ n1_ n2_ n3_ n4_ n5_ n6_ n7_ n8_ n9_ n10_ n11_ n12_ n13_; (try clear hb); (try clear hb2); (try clear hk); (try clear hi); (try clear ho0)) | ((with_reducible refine gate_dst (N := 24) rfl ?_); (try (refine gate_guard (by rfl) ?_; dsimp only)); refine box_event ?hg (N := 24) ?hd (cs := #[.int .i64 0, .slice none 0 0]) (t := 24) ?hr ?_; (case hd => rfl); (case hg => rfl); (case hr => first | (go_simp; done) | (go_simp; rfl)); intro gb377 hg w109 hbox hb; have n0_ := Aside0.mk (Kd.R_below (by (with_reducible repeat (first | apply Kd.R_alloc | apply Kd.R_drewN | apply Kd.R_drew)); exact HO_20.out) hb); have n1_ := Aside0.mk (Kd.V_below (Kd.V_elderB (by (with_reducible repeat (first | apply Kd.V_alloc | apply Kd.V_drewN | apply Kd.V_drew)); exact HO_338001.out) gb377 (Nat.le_of_eq hg.symm)) hb); have n2_ := Aside0.mk (Kd.V_below (Kd.V_elderB (by (with_reducible repeat (first | apply Kd.V_alloc | apply Kd.V_drewN | apply Kd.V_drew)); exact HO_344001.out) gb377 (Nat.le_of_eq hg.symm)) hb); have n3_ := Aside0.mk (Kd.V_below (Kd.V_elderB (by (with_reducible repeat (first | apply Kd.V_alloc | apply Kd.V_drewN | apply Kd.V_drew)); exact HO_350001.out) gb377 (Nat.le_of_eq hg.symm)) hb); have n4_ := Aside0.mk (Kd.V_below (Kd.V_elderB (by (with_reducible repeat (first | apply Kd.V_alloc | apply Kd.V_drewN | apply Kd.V_drew)); exact HO_356001.out) gb377 (Nat.le_of_eq hg.symm)) hb); have n5_ := Aside0.mk (Kd.V_below (Kd.V_elderB (by (with_reducible repeat (first | apply Kd.V_alloc | apply Kd.V_drewN | apply Kd.V_drew)); exact HO369.out) gb377 (Nat.le_of_eq hg.symm)) hb); have n6_ := Aside0.mk (Kd.V_below (Kd.V_elderB (by (with_reducible repeat (first | apply Kd.V_alloc | apply Kd.V_drewN | apply Kd.V_drew)); exact HO375.out) gb377 (Nat.le_of_eq hg.symm)) hb); have n7_ := Aside0.mk (blk_below (g := gb330) (o := .cells #[.int .i64 a0_0, .slice A0_1 l0_1.length c0_1] 24 (0, 0)) (by (with_reducible repeat (first | refine blk_drewN ?_ _ | refine blk_drew ?_ | refine blk_alloc ?_ _)); exact BK330.out) hb); have n8_ := Aside0.mk (blk_below (g := gb337) (o := .cells #[.int .i64 t332, .slice Ao24 t333.length co24] 24 (0, 0)) (by (with_reducible repeat (first | refine blk_drewN ?_ _ | refine blk_drew ?_ | refine blk_alloc ?_ _)); exact BK337.out) hb); have n9_ := Aside0.mk (blk_below (g := gb343) (o := .cells #[.int .i64 t338, .slice Ao31 t339.length co31] 24 (0, 0)) (by (with_reducible repeat (first | refine blk_drewN ?_ _ | refine blk_drew ?_ | refine blk_alloc ?_ _)); exact BK343.out) hb); have n10_ := Aside0.mk (blk_below (g := gb349) (o := .cells #[.int .i64 t344, .slice Ao46 t345.length co46] 24 (0, 0)) (by (with_reducible repeat (first | refine blk_drewN ?_ _ | refine blk_drew ?_ | refine blk_alloc ?_ _)); exact BK349.out) hb); have n11_ := Aside0.mk (blk_below (g := gb355) (o := .cells #[.int .i64 t350, .slice Ao56 t351.length co56] 24 (0, 0)) (by (with_reducible repeat (first | refine blk_drewN ?_ _ | refine blk_drew ?_ | refine blk_alloc ?_ _)); exact BK355.out) hb); have n12_ := Aside0.mk (blk_below (g := gb371) (o := .cells #[.int .i64 t366, .slice Ao103 t367.length co103] 24 (0, 0)) (by (with_reducible repeat (first | refine blk_drewN ?_ _ | refine blk_drew ?_ | refine blk_alloc ?_ _)); exact BK371.out) hb); have n13_ := Aside0.mk (below_step (by repeat (first | (with_reducible first | exact HB.out | apply below_alloc | apply pw_below_drewN | apply below_drew1 | refine below_set ?_ GE330.out | refine below_set ?_ GE337.out | refine below_set ?_ GE343.out | refine below_set ?_ GE349.out | refine below_set ?_ GE355.out | refine below_set ?_ GE371.out) | exact HB.out)) hb); have n14_ := Aside0.mk (hbox); have n15_ := Aside0.mk ((by rw [hg]; exact (below_size (by repeat (first | (with_reducible first | exact HB.out | apply below_alloc | apply pw_below_drewN | apply below_drew1 | refine below_set ?_ GE330.out | refine below_set ?_ GE337.out | refine below_set ?_ GE343.out | refine below_set ?_ GE349.out | refine below_set ?_ GE355.out | refine below_set ?_ GE371.out) | exact HB.out))) : w.heap.size ≤ gb377)); have n16_ := Aside0.mk ((by rw [hg]; exact (below_size (by repeat (first | (with_reducible first | exact HB.out | apply below_alloc | apply pw_below_drewN | apply below_drew1 | refine below_set ?_ GE330.out | refine below_set ?_ GE337.out | refine below_set ?_ GE343.out | refine below_set ?_ GE349.out | refine below_set ?_ GE355.out | refine below_set ?_ GE371.out) | exact HB.out))) : w.heap.size ≤ gb377)); have n17_ := Aside0.mk ((by rw [hg]; exact Nat.ne_of_lt (blk_lt (g := gb330) (o := .cells #[.int .i64 a0_0, .slice A0_1 l0_1.length c0_1] 24 (0, 0)) (by (with_reducible repeat (first | refine blk_drewN ?_ _ | refine blk_drew ?_ | refine blk_alloc ?_ _)); exact BK330.out)) : gb330 ≠ gb377)); have n18_ := Aside0.mk ((by rw [hg]; exact Nat.ne_of_gt (blk_lt (g := gb330) (o := .cells #[.int .i64 a0_0, .slice A0_1 l0_1.length c0_1] 24 (0, 0)) (by (with_reducible repeat (first | refine blk_drewN ?_ _ | refine blk_drew ?_ | refine blk_alloc ?_ _)); exact BK330.out)) : gb377 ≠ gb330)); have n19_ := Aside0.mk ((by rw [hg]; exact Nat.ne_of_lt (blk_lt (g := gb337) (o := .cells #[.int .i64 t332, .slice Ao24 t333.length co24] 24 (0, 0)) (by (with_reducible repeat (first | refine blk_drewN ?_ _ | refine blk_drew ?_ | refine blk_alloc ?_ _)); exact BK337.out)) : gb337 ≠ gb377)); have n20_ := Aside0.mk ((by rw [hg]; exact Nat.ne_of_gt (blk_lt (g := gb337) (o := .cells #[.int .i64 t332, .slice Ao24 t333.length co24] 24 (0, 0)) (by (with_reducible repeat (first | refine blk_drewN ?_ _ | refine blk_drew ?_ | refine blk_alloc ?_ _)); exact BK337.out)) : gb377 ≠ gb337)); have n21_ := Aside0.mk ((by rw [hg]; exact Nat.ne_of_lt (blk_lt (g := gb343) (o := .cells #[.int .i64 t338, .slice Ao31 t339.length co31] 24 (0, 0)) (by (with_reducible repeat (first | refine blk_drewN ?_ _ | refine blk_drew ?_ | refine blk_alloc ?_ _)); exact BK343.out)) : gb343 ≠ gb377)); have n22_ := Aside0.mk ((by rw [hg]; exact Nat.ne_of_gt (blk_lt (g := gb343) (o := .cells #[.int .i64 t338, .slice Ao31 t339.length co31] 24 (0, 0)) (by (with_reducible repeat (first | refine blk_drewN ?_ _ | refine blk_drew ?_ | refine blk_alloc ?_ _)); exact BK343.out)) : gb377 ≠ gb343)); have n23_ := Aside0.mk ((by rw [hg]; exact Nat.ne_of_lt (blk_lt (g := gb349) (o := .cells #[.int .i64 t344, .slice Ao46 t345.length co46] 24 (0, 0)) (by (with_reducible repeat (first | refine blk_drewN ?_ _ | refine blk_drew ?_ | refine blk_alloc ?_ _)); exact BK349.out)) : gb349 ≠ gb377)); have n24_ := Aside0.mk ((by rw [hg]; exact Nat.ne_of_gt (blk_lt (g := gb349) (o := .cells #[.int .i64 t344, .slice Ao46 t345.length co46] 24 (0, 0)) (by (with_reducible repeat (first | refine blk_drewN ?_ _ | refine blk_drew ?_ | refine blk_alloc ?_ _)); exact BK349.out)) : gb377 ≠ gb349)); have n25_ := Aside0.mk ((by rw [hg]; exact Nat.ne_of_lt (blk_lt (g := gb355) (o := .cells #[.int .i64 t350, .slice Ao56 t351.length co56] 24 (0, 0)) (by (with_reducible repeat (first | refine blk_drewN ?_ _ | refine blk_drew ?_ | refine blk_alloc ?_ _)); exact BK355.out)) : gb355 ≠ gb377)); have n26_ := Aside0.mk ((by rw [hg]; exact Nat.ne_of_gt (blk_lt (g := gb355) (o := .cells #[.int .i64 t350, .slice Ao56 t351.length co56] 24 (0, 0)) (by (with_reducible repeat (first | refine blk_drewN ?_ _ | refine blk_drew ?_ | refine blk_alloc ?_ _)); exact BK355.out)) : gb377 ≠ gb355)); have n27_ := Aside0.mk ((by rw [hg]; exact Nat.ne_of_lt (blk_lt (g := gb371) (o := .cells #[.int .i64 t366, .slice Ao103 t367.length co103] 24 (0, 0)) (by (with_reducible repeat (first | refine blk_drewN ?_ _ | refine blk_drew ?_ | refine blk_alloc ?_ _)); exact BK371.out)) : gb371 ≠ gb377)); have n28_ := Aside0.mk ((by rw [hg]; exact Nat.ne_of_gt (blk_lt (g := gb371) (o := .cells #[.int .i64 t366, .slice Ao103 t367.length co103] 24 (0, 0)) (by (with_reducible repeat (first | refine blk_drewN ?_ _ | refine blk_drew ?_ | refine blk_alloc ?_ _)); exact BK371.out)) : gb377 ≠ gb371)); clear HO_20; clear HO_338001; clear HO_344001; clear HO_350001; clear HO_356001; clear HO369; clear HO375; clear BK330; clear BK337; clear BK343; clear BK349; clear BK355; clear BK371; clear HB; have HO_20 := n0_; have HO_338001 := n1_; have HO_344001 := n2_; have HO_350001 := n3_; have HO_356001 := n4_; have HO369 := n5_; have HO375 := n6_; have BK330 := n7_; have BK337 := n8_; have BK343 := n9_; have BK349 := n10_; have BK355 := n11_; have BK371 := n12_; have HB := n13_; have BK377 := n14_; have GW377 := n15_; have GE377 := n16_; have NB330_377 := n17_; have NB377_330 := n18_; have NB337_377 := n19_; have NB377_337 := n20_; have NB343_377 := n21_; have NB377_343 := n22_; have NB349_377 := n23_; have NB377_349 := n24_; have NB355_377 := n25_; have NB377_355 := n26_; have NB371_377 := n27_; have NB377_371 := n28_; clear n0_ n1_ n2_ n3_ n4_ n5_ n6_ n7_ n8_ n9_ n10_ n11_ n12_ n13_ n14_ n15_ n16_ n17_ n18_ n19_ n20_ n21_ n22_ n23_ n24_ n25_ n26_ n27_ n28_; clear hb hbox hg; have hnb110 := NB377_330.out; have hnc110 := NB330_377.out; have hnb111 := NB377_337.out; have hnc111 := NB337_377.out; have hnb112 := NB377_343.out; have hnc112 := NB343_377.out; have hnb113 := NB377_349.out; have hnc113 := NB349_377.out; have hnb114 := NB377_355.out; have hnc114 := NB355_377.out; have hnb115 := NB377_371.out; have hnc115 := NB371_377.out; have hcz116_0 : w109.cell? ⟨gb377, 0, none⟩ = some (.int .i64 0) := (blk_cell BK377.out 0).trans rfl; have hcz116_1 : w109.cell? ⟨gb377, 1, none⟩ = some (.slice none 0 0) := (blk_cell BK377.out 1).trans rfl; have hfz116_0 := blk_frozen BK377.out 0; have hfz116_1 := blk_frozen BK377.out 1; obtain ⟨Ao117, co117, eo117⟩ := Kd.V_slice HO375.out; subst eo117; have hcz118_0 : w109.cell? ⟨gb371, 0, none⟩ = some (.int .i64 t366) := (blk_cell BK371.out 0).trans rfl; have hcz118_1 : w109.cell? ⟨gb371, 1, none⟩ = some (.slice Ao103 t367.length co103) := (blk_cell BK371.out 1).trans rfl; have hfz118_0 := blk_frozen BK371.out 0; have hfz118_1 := blk_frozen BK371.out 1) | (go_at_call 13; (with_reducible refine (chargeparkref17_Same.calls k4 t366 _ _ t367 t372 _ _ t373 t378 _ ?side1 ?side2 ?side3 ?side4 A89.out).mono ?_); (case side1 => refine (Kd.V_reads' (e := 5) (base := w.heap.size) (ok := fun k_ => (((some k_ ≠ (.slice Ao75 x20_4.length co75 : Value).ownBlock ∧ (k_ ≠ gb330 ∧ (k_ ≠ gb337 ∧ (k_ ≠ gb343 ∧ (k_ ≠ gb349 ∧ k_ ≠ gb355))))) ∧ k_ ≠ gb371) ∧ k_ ≠ gb377)) (n := t367.length) (c := co103) ?_).2.2; exact (by (with_reducible repeat (first | apply Kd.V_alloc | apply Kd.V_drewN | apply Kd.V_drew)); exact (Kd.V_mono (Kd.V_far (p := ⟨gb377, 1, none⟩) (Kd.V_far (p := ⟨gb377, 0, none⟩) (Kd.V_mono HO369.out (fun k_ hk => (⟨hk, hk.2⟩ : _ ∧ k_ ≠ gb377))) (fun _ hk => hk.2) (.int .i64 t372)) (fun _ hk => hk.2) (.slice Ao117 t373.length co117)) (fun _ h_ => h_.1)))); (case side2 => exact (Kd.V_reads' HO369.out).2.1); (case side3 => refine (Kd.V_reads' (e := 5) (base := w.heap.size) (ok := fun k_ => ((some k_ ≠ (.slice Ao75 x20_4.length co75 : Value).ownBlock ∧ (k_ ≠ gb330 ∧ (k_ ≠ gb337 ∧ (k_ ≠ gb343 ∧ (k_ ≠ gb349 ∧ (k_ ≠ gb355 ∧ k_ ≠ gb371)))))) ∧ k_ ≠ gb377)) (n := t373.length) (c := co117) ?_).2.2; exact (by (with_reducible repeat (first | apply Kd.V_alloc | apply Kd.V_drewN | apply Kd.V_drew)); exact (Kd.V_mono (Kd.V_far (p := ⟨gb377, 1, none⟩) (Kd.V_far (p := ⟨gb377, 0, none⟩) (Kd.V_mono HO375.out (fun k_ hk => (⟨hk, hk.2⟩ : _ ∧ k_ ≠ gb377))) (fun _ hk => hk.2) (.int .i64 t372)) (fun _ hk => hk.2) (.slice Ao117 t373.length co117)) (fun _ h_ => h_.1)))); (case side4 => exact (Kd.V_reads' HO375.out).2.1); rintro e w119 ⟨rfl, hb⟩; have n0_ := Aside0.mk (Kd.R_below (by (with_reducible repeat (first | apply Kd.R_alloc | apply Kd.R_drewN | apply Kd.R_drew)); exact (Kd.R_mono (Kd.R_far (p := ⟨gb377, 1, none⟩) (Kd.R_far (p := ⟨gb377, 0, none⟩) (Kd.R_types HO_20.out BK377.out (by decide)) (fun _ hk => hk.2) (.int .i64 t372)) (fun _ hk => hk.2) (.slice Ao117 t373.length co117)) (fun _ h_ => h_.1))) hb); have n1_ := Aside0.mk (Kd.V_below (by (with_reducible repeat (first | apply Kd.V_alloc | apply Kd.V_drewN | apply Kd.V_drew)); exact (Kd.V_mono (Kd.V_far (p := ⟨gb377, 1, none⟩) (Kd.V_far (p := ⟨gb377, 0, none⟩) (Kd.V_mono HO_338001.out (fun k_ hk => (⟨hk, hk.2⟩ : _ ∧ k_ ≠ gb377))) (fun _ hk => hk.2) (.int .i64 t372)) (fun _ hk => hk.2) (.slice Ao117 t373.length co117)) (fun _ h_ => h_.1))) hb); have n2_ := Aside0.mk (Kd.V_below (by (with_reducible repeat (first | apply Kd.V_alloc | apply Kd.V_drewN | apply Kd.V_drew)); exact (Kd.V_mono (Kd.V_far (p := ⟨gb377, 1, none⟩) (Kd.V_far (p := ⟨gb377, 0, none⟩) (Kd.V_mono HO_344001.out (fun k_ hk => (⟨hk, hk.2⟩ : _ ∧ k_ ≠ gb377))) (fun _ hk => hk.2) (.int .i64 t372)) (fun _ hk => hk.2) (.slice Ao117 t373.length co117)) (fun _ h_ => h_.1))) hb); have n3_ := Aside0.mk (Kd.V_below (by (with_reducible repeat (first | apply Kd.V_alloc | apply Kd.V_drewN | apply Kd.V_drew)); exact (Kd.V_mono (Kd.V_far (p := ⟨gb377, 1, none⟩) (Kd.V_far (p := ⟨gb377, 0, none⟩) (Kd.V_mono HO_350001.out (fun k_ hk => (⟨hk, hk.2⟩ : _ ∧ k_ ≠ gb377))) (fun _ hk => hk.2) (.int .i64 t372)) (fun _ hk => hk.2) (.slice Ao117 t373.length co117)) (fun _ h_ => h_.1))) hb); have n4_ := Aside0.mk (Kd.V_below (by (with_reducible repeat (first | apply Kd.V_alloc | apply Kd.V_drewN | apply Kd.V_drew)); exact (Kd.V_mono (Kd.V_far (p := ⟨gb377, 1, none⟩) (Kd.V_far (p := ⟨gb377, 0, none⟩) (Kd.V_mono HO_356001.out (fun k_ hk => (⟨hk, hk.2⟩ : _ ∧ k_ ≠ gb377))) (fun _ hk => hk.2) (.int .i64 t372)) (fun _ hk => hk.2) (.slice Ao117 t373.length co117)) (fun _ h_ => h_.1))) hb); have n5_ := Aside0.mk (Kd.V_below (by (with_reducible repeat (first | apply Kd.V_alloc | apply Kd.V_drewN | apply Kd.V_drew)); exact (Kd.V_mono (Kd.V_far (p := ⟨gb377, 1, none⟩) (Kd.V_far (p := ⟨gb377, 0, none⟩) (Kd.V_mono HO369.out (fun k_ hk => (⟨hk, hk.2⟩ : _ ∧ k_ ≠ gb377))) (fun _ hk => hk.2) (.int .i64 t372)) (fun _ hk => hk.2) (.slice Ao117 t373.length co117)) (fun _ h_ => h_.1))) hb); have n6_ := Aside0.mk (Kd.V_below (by (with_reducible repeat (first | apply Kd.V_alloc | apply Kd.V_drewN | apply Kd.V_drew)); exact (Kd.V_mono (Kd.V_far (p := ⟨gb377, 1, none⟩) (Kd.V_far (p := ⟨gb377, 0, none⟩) (Kd.V_mono HO375.out (fun k_ hk => (⟨hk, hk.2⟩ : _ ∧ k_ ≠ gb377))) (fun _ hk => hk.2) (.int .i64 t372)) (fun _ hk => hk.2) (.slice Ao117 t373.length co117)) (fun _ h_ => h_.1))) hb); have n7_ := Aside0.mk (blk_below (g := gb330) (o := .cells #[.int .i64 a0_0, .slice A0_1 l0_1.length c0_1] 24 (0, 0)) (by (with_reducible repeat (first | refine blk_drewN ?_ _ | refine blk_drew ?_ | refine blk_alloc ?_ _)); refine blk_far ?_ NB330_377.out _; (with_reducible repeat (first | refine blk_drewN ?_ _ | refine blk_drew ?_ | refine blk_alloc ?_ _)); refine blk_far ?_ NB330_377.out _; (with_reducible repeat (first | refine blk_drewN ?_ _ | refine blk_drew ?_ | refine blk_alloc ?_ _)); exact BK330.out) hb); have n8_ := Aside0.mk (blk_below (g := gb337) (o := .cells #[.int .i64 t332, .slice Ao24 t333.length co24] 24 (0, 0)) (by (with_reducible repeat (first | refine blk_drewN ?_ _ | refine blk_drew ?_ | refine blk_alloc ?_ _)); refine blk_far ?_ NB337_377.out _; (with_reducible repeat (first | refine blk_drewN ?_ _ | refine blk_drew ?_ | refine blk_alloc ?_ _)); refine blk_far ?_ NB337_377.out _; (with_reducible repeat (first | refine blk_drewN ?_ _ | refine blk_drew ?_ | refine blk_alloc ?_ _)); exact BK337.out) hb); have n9_ := Aside0.mk (blk_below (g := gb343) (o := .cells #[.int .i64 t338, .slice Ao31 t339.length co31] 24 (0, 0)) (by (with_reducible repeat (first | refine blk_drewN ?_ _ | refine blk_drew ?_ | refine blk_alloc ?_ _)); refine blk_far ?_ NB343_377.out _; (with_reducible repeat (first | refine blk_drewN ?_ _ | refine blk_drew ?_ | refine blk_alloc ?_ _)); refine blk_far ?_ NB343_377.out _; (with_reducible repeat (first | refine blk_drewN ?_ _ | refine blk_drew ?_ | refine blk_alloc ?_ _)); exact BK343.out) hb); have n10_ := Aside0.mk (blk_below (g := gb349) (o := .cells #[.int .i64 t344, .slice Ao46 t345.length co46] 24 (0, 0)) (by (with_reducible repeat (first | refine blk_drewN ?_ _ | refine blk_drew ?_ | refine blk_alloc ?_ _)); refine blk_far ?_ NB349_377.out _; (with_reducible repeat (first | refine blk_drewN ?_ _ | refine blk_drew ?_ | refine blk_alloc ?_ _)); refine blk_far ?_ NB349_377.out _; (with_reducible repeat (first | refine blk_drewN ?_ _ | refine blk_drew ?_ | refine blk_alloc ?_ _)); exact BK349.out) hb); have n11_ := Aside0.mk (blk_below (g := gb355) (o := .cells #[.int .i64 t350, .slice Ao56 t351.length co56] 24 (0, 0)) (by (with_reducible repeat (first | refine blk_drewN ?_ _ | refine blk_drew ?_ | refine blk_alloc ?_ _)); refine blk_far ?_ NB355_377.out _; (with_reducible repeat (first | refine blk_drewN ?_ _ | refine blk_drew ?_ | refine blk_alloc ?_ _)); refine blk_far ?_ NB355_377.out _; (with_reducible repeat (first | refine blk_drewN ?_ _ | refine blk_drew ?_ | refine blk_alloc ?_ _)); exact BK355.out) hb); have n12_ := Aside0.mk (blk_below (g := gb371) (o := .cells #[.int .i64 t366, .slice Ao103 t367.length co103] 24 (0, 0)) (by (with_reducible repeat (first | refine blk_drewN ?_ _ | refine blk_drew ?_ | refine blk_alloc ?_ _)); refine blk_far ?_ NB371_377.out _; (with_reducible repeat (first | refine blk_drewN ?_ _ | refine blk_drew ?_ | refine blk_alloc ?_ _)); refine blk_far ?_ NB371_377.out _; (with_reducible repeat (first | refine blk_drewN ?_ _ | refine blk_drew ?_ | refine blk_alloc ?_ _)); exact BK371.out) hb); have n13_ := Aside0.mk (blk_below (g := gb377) (o := .cells #[.int .i64 t372, .slice Ao117 t373.length co117] 24 (0, 0)) (by (with_reducible repeat (first | refine blk_drewN ?_ _ | refine blk_drew ?_ | refine blk_alloc ?_ _)); refine blk_put (cs := #[.int .i64 t372, .slice none 0 0]) ?_ 1 _ rfl; (with_reducible repeat (first | refine blk_drewN ?_ _ | refine blk_drew ?_ | refine blk_alloc ?_ _)); refine blk_put (cs := #[.int .i64 0, .slice none 0 0]) ?_ 0 _ rfl; (with_reducible repeat (first | refine blk_drewN ?_ _ | refine blk_drew ?_ | refine blk_alloc ?_ _)); exact BK377.out) hb); have n14_ := Aside0.mk (below_step (by repeat (first | (with_reducible first | exact HB.out | apply below_alloc | apply pw_below_drewN | apply below_drew1 | refine below_set ?_ GE330.out | refine below_set ?_ GE337.out | refine below_set ?_ GE343.out | refine below_set ?_ GE349.out | refine below_set ?_ GE355.out | refine below_set ?_ GE371.out | refine below_set ?_ GE377.out) | exact HB.out)) hb); clear HO_20; clear HO_338001; clear HO_344001; clear HO_350001; clear HO_356001; clear HO369; clear HO375; clear BK330; clear BK337; clear BK343; clear BK349; clear BK355; clear BK371; clear BK377; clear HB; have HO_20 := n0_; have HO_338001 := n1_; have HO_344001 := n2_; have HO_350001 := n3_; have HO_356001 := n4_; have HO369 := n5_; have HO375 := n6_; have BK330 := n7_; have BK337 := n8_; have BK343 := n9_; have BK349 := n10_; have BK355 := n11_; have BK371 := n12_; have BK377 := n13_; have HB := n14_; clear n0_ n1_ n2_ n3_ n4_ n5_ n6_ n7_ n8_ n9_ n10_ n11_ n12_ n13_ n14_; (try clear hb); (try clear hb2); (try clear hk); (try clear hi)))
                                    go_ret
                                    exact ⟨by first | rfl | (simp [errW_none, errW_some] <;> rfl) | (simp [*, errW_none, errW_some] <;> rfl) | (rw [Int.tmod_eq_emod_of_nonneg (Int.natCast_nonneg _)]; rfl), by repeat (first | (with_reducible first | exact HB.out | apply below_alloc | apply pw_below_drewN | apply below_drew1 | refine below_set ?_ GE330.out | refine below_set ?_ GE337.out | refine below_set ?_ GE343.out | refine below_set ?_ GE349.out | refine below_set ?_ GE355.out | refine below_set ?_ GE371.out | refine below_set ?_ GE377.out) | exact HB.out)⟩
                                  · replace c88 := Bool.eq_false_iff.mpr c88
                                    subst c88
                                    have H1 : (none) = some r := by rw [if_neg (show ¬ (false = true) by decide)] at H; exact H
                                    clear H
                                    have H := H1
                                    clear H1
                                    exact absurd H (by simp)
                                · replace c87 := Bool.eq_false_iff.mpr c87
                                  subst c87
                                  have H1 : (none) = some r := by rw [if_neg (show ¬ (false = true) by decide)] at H; exact H
                                  clear H
                                  have H := H1
                                  clear H1
                                  exact absurd H (by simp)
                              · replace c86 := Bool.eq_false_iff.mpr c86
                                subst c86
                                have H1 : (none) = some r := by rw [if_neg (show ¬ (false = true) by decide)] at H; exact H
                                clear H
                                have H := H1
                                clear H1
                                exact absurd H (by simp)
                    · rw [if_neg c71] at H
                      exact absurd H (by simp)

/-- THE ONE PURE STATEMENT of chargeparklaw17_FlashOrder: yours. -/
def chargeparklaw17_FlashOrder.Pure : Prop := ∀ (a0 : S24) (a1 : Int) (l2 : List Int) (a3 : Int) (l4 : List Int), ok24 a0 → (Lit.int .i64 a1).wf = true → l2.length ≤ maxLen → l2.length * 1 ≤ 140737488351232 → (∀ x ∈ l2, (Lit.int .u8 x).wf = true) → (Lit.int .i64 a3).wf = true → l4.length ≤ maxLen → l4.length * 1 ≤ 140737488351232 → (∀ x ∈ l4, (Lit.int .u8 x).wf = true) → ∃ k, chargeparklaw17_FlashOrder.f k a0.f0 a0.f1 a1 l2 a3 l4 = some true
theorem chargeparklaw17_FlashOrder.walk (P : chargeparklaw17_FlashOrder.Pure) (a0 : S24) (A0_1 : Option Addr) (c0_1 : Nat) (a1 : Int) (a2 : Option Addr) (len2 cap2 : Nat) (z2 : List Int) (a3 : Int) (a4 : Option Addr) (len4 cap4 : Nat) (z4 : List Int) (w : World) (ho0 : ok24 a0) (hC0_1 : Kd.C (Kd.int .u8) w A0_1 a0.f1.length a0.f1) (hc0_1 : a0.f1.length ≤ c0_1) (w1 : (Lit.int .i64 a1).wf = true) (w2 : (a2 = none ∧ len2 = 0 ∧ cap2 = 0 ∧ z2 = []) ∨ ∃ x, a2 = some x ∧ len2 ≤ cap2 ∧ cap2 ≤ maxLen ∧ z2.length = cap2 ∧ (∀ i, i < z2.length → w.cell? (x.add i) = some (.int .u8 (z2.getD i 0))) ∧ ∀ n ∈ z2, (Lit.int .u8 n).wf = true) (y2 : len2 * 1 ≤ 140737488351232) (w3 : (Lit.int .i64 a3).wf = true) (w4 : (a4 = none ∧ len4 = 0 ∧ cap4 = 0 ∧ z4 = []) ∨ ∃ x, a4 = some x ∧ len4 ≤ cap4 ∧ cap4 ≤ maxLen ∧ z4.length = cap4 ∧ (∀ i, i < z4.length → w.cell? (x.add i) = some (.int .u8 (z4.getD i 0))) ∧ ∀ n ∈ z4, (Lit.int .u8 n).wf = true) (y4 : len4 * 1 ≤ 140737488351232) :
    Calls Try.prog 7 #[.agg #[.int .i64 a0.f0, .slice A0_1 a0.f1.length c0_1], .int .i64 a1, .slice a2 len2 cap2, .int .i64 a3, .slice a4 len4 cap4] w fun e w' => e = .returned (.bool true) ∧ Below w.heap.size w w' := by
  obtain ⟨l2, rfl, hr2, hm2, hw2, hc2⟩ := ReadsInt.ofRowC w2
  obtain ⟨l4, rfl, hr4, hm4, hw4, hc4⟩ := ReadsInt.ofRowC w4
  obtain ⟨k, h⟩ := P a0 a1 l2 a3 l4 ho0 w1 hm2 y2 hw2 w3 hm4 y4 hw4
  refine (chargeparklaw17_FlashOrder.calls k a0.f0 _ _ a0.f1 a1 _ _ l2 a3 _ _ l4 true w hC0_1 hc0_1 (Kd.C_of_reads (d := (0 : Int)) (h1 := fun _ => rfl) hr2) hc2 (Kd.C_of_reads (d := (0 : Int)) (h1 := fun _ => rfl) hr4) hc4 h).mono ?_
  rintro e w' ⟨rfl, hd⟩
  exact ⟨rfl, hd⟩


end Go.Proofs.Ytdblbilgnfomaaa.PAll
