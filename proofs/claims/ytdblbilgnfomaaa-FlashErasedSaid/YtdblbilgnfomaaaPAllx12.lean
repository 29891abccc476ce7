-- Written by a program of this session (xprint.py, over the kit's print.py), with contracts proved by hand.
import Derived.Test.YtdblbilgnfomaaaPAllx0
import Derived.Test.YtdblbilgnfomaaaPAllx1
import Derived.Test.YtdblbilgnfomaaaPAllx4
import Derived.Test.YtdblbilgnfomaaaPAllx11
namespace Go.Proofs.Ytdblbilgnfomaaa.PAll
open Go.RowKit Go.Proofs.Ytdblbilgnfomaaa.Open Go.Proofs.YtdblbilgnfomaaaW.PrintWords Go.Proofs.YtdblbilgnfomaaaW.PrintLast Go.Proofs.YtdblbilgnfomaaaW.PrintMore
attribute [local go_sem] max2_int min2_int max_two min_two max_three min_three max_four min_four   -- for this text's walks alone
set_option linter.unusedVariables false
set_option linter.unusedSimpArgs false

/-! ### chargeparklaw17_FlashErased: function 5 -/
mutual
def chargeparklaw17_FlashErased.j0 : Nat → Int → List Int → Bool → Int → Bool → Int → List Int → Option (Bool)
  | 0, _, _, _, _, _, _, _ => none
  | k + 1, x2, x3, x9, x11, x46, x295000, x295001 => if x46 = true then (if x9 = true then (if x11 = 0 then (some (decide ((x295001.length : Int) > 0))) else (none)) else (none)) else (if (wrap64 ((wrap64 ((x295001.length : Int) - (x3.length : Int))) + 1)) = 0 then (none) else ((chargeparklaw17_done.f x295000 x295001 (Int.tmod (wrap64 (x2)) (wrap64 ((wrap64 ((x295001.length : Int) - (x3.length : Int))) + 1))) x3).bind fun bt295 => (if bt295.2.2 = true then (chargeparklaw17_FlashErased.j1 k x3 x9 (Int.tmod (wrap64 (x2)) (wrap64 ((wrap64 ((x295001.length : Int) - (x3.length : Int))) + 1))) ((bt295.2.1.length : Int) != (x295001.length : Int)) bt295.1 bt295.2.1) else (chargeparklaw17_FlashErased.j1 k x3 x9 (Int.tmod (wrap64 (x2)) (wrap64 ((wrap64 ((x295001.length : Int) - (x3.length : Int))) + 1))) true bt295.1 bt295.2.1))))
def chargeparklaw17_FlashErased.j1 : Nat → List Int → Bool → Int → Bool → Int → List Int → Option (Bool)
  | 0, _, _, _, _, _, _ => none
  | k + 1, x3, x9, x12, x85, x301000, x301001 => if x85 = true then (none) else (chargeparklaw17_FlashErased.l0 k x3 x9 x12 x301001 (x301001.length : Int) 0)
def chargeparklaw17_FlashErased.l0 : Nat → List Int → Bool → Int → List Int → Int → Int → Option (Bool)
  | 0, _, _, _, _, _, _ => none
  | k + 1, x3, x9, x12, x87, x88, x89 => if x89 < x88 then (if 0 ≤ x89 then (if x89 < (x87.length : Int) then (if x89 ≥ x12 then (chargeparklaw17_FlashErased.j3 k x3 x9 x12 x89 (rd x87 x89) 255 x87 x88 x89 (decide (x89 < (wrap64 (x12 + (x3.length : Int)))))) else (chargeparklaw17_FlashErased.j3 k x3 x9 x12 x89 (rd x87 x89) 255 x87 x88 x89 false)) else (none)) else (none)) else (some x9)
def chargeparklaw17_FlashErased.j3 : Nat → List Int → Bool → Int → Int → Int → Int → List Int → Int → Int → Bool → Option (Bool)
  | 0, _, _, _, _, _, _, _, _, _, _ => none
  | k + 1, x3, x9, x12, x15, x16, x17, x87, x88, x89, x104 => if x104 = true then (if 0 ≤ (wrap64 (x15 - x12)) then (if (wrap64 (x15 - x12)) < (x3.length : Int) then (if x16 = (rd x3 (wrap64 (x15 - x12))) then (chargeparklaw17_FlashErased.l0 k x3 x9 x12 x87 x88 (wrap64 (x89 + 1))) else (none)) else (none)) else (none)) else (if x16 = x17 then (chargeparklaw17_FlashErased.l0 k x3 x9 x12 x87 x88 (wrap64 (x89 + 1))) else (none))
end
def chargeparklaw17_FlashErased.f (k : Nat) (a0 : Int) (a1 : Int) (a2 : Int) (l3 : List Int) : Option (Bool) := (chargeparklaw17_head.f k).bind fun t288 => ((flash_New.f (wrap64 (1 + (Int.tmod (wrap64 (a0)) 64))) (wrap64 (1 + (Int.tmod (wrap64 (a1)) 4)))).bind fun bt289 => (if bt289.2.2 = 0 then (if (bt289.2.1.length : Int) = 0 then (chargeparklaw17_FlashErased.j0 k a2 l3 t288 bt289.2.2 true bt289.1 bt289.2.1) else (chargeparklaw17_FlashErased.j0 k a2 l3 t288 bt289.2.2 (decide ((l3.length : Int) > (bt289.2.1.length : Int))) bt289.1 bt289.2.1)) else (chargeparklaw17_FlashErased.j0 k a2 l3 t288 bt289.2.2 true bt289.1 bt289.2.1)))
theorem chargeparklaw17_FlashErased.mono_l : ∀ k, (∀ y0 y1 y2 y3 y4 y5 y6, LeO (chargeparklaw17_FlashErased.j0 k y0 y1 y2 y3 y4 y5 y6) (chargeparklaw17_FlashErased.j0 (k + 1) y0 y1 y2 y3 y4 y5 y6)) ∧ (∀ y0 y1 y2 y3 y4 y5, LeO (chargeparklaw17_FlashErased.j1 k y0 y1 y2 y3 y4 y5) (chargeparklaw17_FlashErased.j1 (k + 1) y0 y1 y2 y3 y4 y5)) ∧ (∀ y0 y1 y2 y3 y4 y5, LeO (chargeparklaw17_FlashErased.l0 k y0 y1 y2 y3 y4 y5) (chargeparklaw17_FlashErased.l0 (k + 1) y0 y1 y2 y3 y4 y5)) ∧ (∀ y0 y1 y2 y3 y4 y5 y6 y7 y8 y9, LeO (chargeparklaw17_FlashErased.j3 k y0 y1 y2 y3 y4 y5 y6 y7 y8 y9) (chargeparklaw17_FlashErased.j3 (k + 1) y0 y1 y2 y3 y4 y5 y6 y7 y8 y9))
  | 0 => ⟨fun _ _ _ _ _ _ _ r h => by simp [chargeparklaw17_FlashErased.j0] at h, fun _ _ _ _ _ _ r h => by simp [chargeparklaw17_FlashErased.j1] at h, fun _ _ _ _ _ _ r h => by simp [chargeparklaw17_FlashErased.l0] at h, fun _ _ _ _ _ _ _ _ _ _ r h => by simp [chargeparklaw17_FlashErased.j3] at h⟩
  | k + 1 => by
    obtain ⟨ih0, ih1, ih2, ih3⟩ := chargeparklaw17_FlashErased.mono_l k
    refine ⟨?_, ?_, ?_, ?_⟩
    · intro y0 y1 y2 y3 y4 y5 y6
      unfold chargeparklaw17_FlashErased.j0
      repeat' first
      | (with_reducible exact ih0 _ _ _ _ _ _ _)
      | (with_reducible exact ih1 _ _ _ _ _ _)
      | (with_reducible exact ih2 _ _ _ _ _ _)
      | (with_reducible exact ih3 _ _ _ _ _ _ _ _ _ _)
      | (with_reducible exact chargeparklaw17_head.mono _)
      | (with_reducible exact LeO.refl _)
      | (with_reducible exact LeO.none _)
      | (with_reducible refine LeO.ite ?_ ?_)
      | (with_reducible refine LeO.bind ?_ (fun _ => ?_))
      | exact ih0 _ _ _ _ _ _ _
      | exact ih1 _ _ _ _ _ _
      | exact ih2 _ _ _ _ _ _
      | exact ih3 _ _ _ _ _ _ _ _ _ _
      | exact chargeparklaw17_head.mono _
      | exact LeO.none _
      | refine LeO.ite ?_ ?_
      | refine LeO.bind ?_ (fun _ => ?_)
    · intro y0 y1 y2 y3 y4 y5
      unfold chargeparklaw17_FlashErased.j1
      repeat' first
      | (with_reducible exact ih0 _ _ _ _ _ _ _)
      | (with_reducible exact ih1 _ _ _ _ _ _)
      | (with_reducible exact ih2 _ _ _ _ _ _)
      | (with_reducible exact ih3 _ _ _ _ _ _ _ _ _ _)
      | (with_reducible exact chargeparklaw17_head.mono _)
      | (with_reducible exact LeO.refl _)
      | (with_reducible exact LeO.none _)
      | (with_reducible refine LeO.ite ?_ ?_)
      | (with_reducible refine LeO.bind ?_ (fun _ => ?_))
      | exact ih0 _ _ _ _ _ _ _
      | exact ih1 _ _ _ _ _ _
      | exact ih2 _ _ _ _ _ _
      | exact ih3 _ _ _ _ _ _ _ _ _ _
      | exact chargeparklaw17_head.mono _
      | exact LeO.none _
      | refine LeO.ite ?_ ?_
      | refine LeO.bind ?_ (fun _ => ?_)
    · intro y0 y1 y2 y3 y4 y5
      unfold chargeparklaw17_FlashErased.l0
      repeat' first
      | (with_reducible exact ih0 _ _ _ _ _ _ _)
      | (with_reducible exact ih1 _ _ _ _ _ _)
      | (with_reducible exact ih2 _ _ _ _ _ _)
      | (with_reducible exact ih3 _ _ _ _ _ _ _ _ _ _)
      | (with_reducible exact chargeparklaw17_head.mono _)
      | (with_reducible exact LeO.refl _)
      | (with_reducible exact LeO.none _)
      | (with_reducible refine LeO.ite ?_ ?_)
      | (with_reducible refine LeO.bind ?_ (fun _ => ?_))
      | exact ih0 _ _ _ _ _ _ _
      | exact ih1 _ _ _ _ _ _
      | exact ih2 _ _ _ _ _ _
      | exact ih3 _ _ _ _ _ _ _ _ _ _
      | exact chargeparklaw17_head.mono _
      | exact LeO.none _
      | refine LeO.ite ?_ ?_
      | refine LeO.bind ?_ (fun _ => ?_)
    · intro y0 y1 y2 y3 y4 y5 y6 y7 y8 y9
      unfold chargeparklaw17_FlashErased.j3
      repeat' first
      | (with_reducible exact ih0 _ _ _ _ _ _ _)
      | (with_reducible exact ih1 _ _ _ _ _ _)
      | (with_reducible exact ih2 _ _ _ _ _ _)
      | (with_reducible exact ih3 _ _ _ _ _ _ _ _ _ _)
      | (with_reducible exact chargeparklaw17_head.mono _)
      | (with_reducible exact LeO.refl _)
      | (with_reducible exact LeO.none _)
      | (with_reducible refine LeO.ite ?_ ?_)
      | (with_reducible refine LeO.bind ?_ (fun _ => ?_))
      | exact ih0 _ _ _ _ _ _ _
      | exact ih1 _ _ _ _ _ _
      | exact ih2 _ _ _ _ _ _
      | exact ih3 _ _ _ _ _ _ _ _ _ _
      | exact chargeparklaw17_head.mono _
      | exact LeO.none _
      | refine LeO.ite ?_ ?_
      | refine LeO.bind ?_ (fun _ => ?_)
theorem chargeparklaw17_FlashErased.mono : ∀ a0 a1 a2 a3 k, LeO (chargeparklaw17_FlashErased.f k a0 a1 a2 a3) (chargeparklaw17_FlashErased.f (k + 1) a0 a1 a2 a3) := by
  intro a0 a1 a2 a3 k
  obtain ⟨ih0, ih1, ih2, ih3⟩ := chargeparklaw17_FlashErased.mono_l k
  unfold chargeparklaw17_FlashErased.f
  repeat' first
      | (with_reducible exact ih0 _ _ _ _ _ _ _)
      | (with_reducible exact ih1 _ _ _ _ _ _)
      | (with_reducible exact ih2 _ _ _ _ _ _)
      | (with_reducible exact ih3 _ _ _ _ _ _ _ _ _ _)
      | (with_reducible exact chargeparklaw17_head.mono _)
      | (with_reducible exact LeO.refl _)
      | (with_reducible exact LeO.none _)
      | (with_reducible refine LeO.ite ?_ ?_)
      | (with_reducible refine LeO.bind ?_ (fun _ => ?_))
      | exact ih0 _ _ _ _ _ _ _
      | exact ih1 _ _ _ _ _ _
      | exact ih2 _ _ _ _ _ _
      | exact ih3 _ _ _ _ _ _ _ _ _ _
      | exact chargeparklaw17_head.mono _
      | exact LeO.none _
      | refine LeO.ite ?_ ?_
      | refine LeO.bind ?_ (fun _ => ?_)
set_option maxHeartbeats 8000000 in
set_option maxRecDepth 100000 in
theorem chargeparklaw17_FlashErased.calls (k : Nat) (a0 : Int) (a1 : Int) (a2 : Int) (A3 : Option Addr) (c3 : Nat) (l3 : List Int) (r : Bool) (w : World) (hr3 : Kd.C (Kd.int .u8) w A3 l3.length l3) (hc3 : l3.length ≤ c3) (h : chargeparklaw17_FlashErased.f k a0 a1 a2 l3 = some r) :
    Calls Try.prog 5 #[.int .u8 a0, .int .u8 a1, .int .u16 a2, .slice A3 l3.length c3] w fun e w' => e = .returned (.bool r) ∧ Below w.heap.size w w' := by
  have hu24 := Try.underlying24
  have HR3 := Aside0.mk hr3
  have HC3 := Aside0.mk hc3
  clear hr3 hc3
  have HB := Aside0.mk (Below.refl w.heap.size w)
  have H : ((chargeparklaw17_head.f k).bind fun t288 => ((flash_New.f (wrap64 (1 + (Int.tmod (wrap64 (a0)) 64))) (wrap64 (1 + (Int.tmod (wrap64 (a1)) 4)))).bind fun bt289 => (if bt289.2.2 = 0 then (if (bt289.2.1.length : Int) = 0 then (chargeparklaw17_FlashErased.j0 k a2 l3 t288 bt289.2.2 true bt289.1 bt289.2.1) else (chargeparklaw17_FlashErased.j0 k a2 l3 t288 bt289.2.2 (decide ((l3.length : Int) > (bt289.2.1.length : Int))) bt289.1 bt289.2.1)) else (chargeparklaw17_FlashErased.j0 k a2 l3 t288 bt289.2.2 true bt289.1 bt289.2.1)))) = some r := h
  clear h
  replace H := Option.bind_eq_some_iff.mp H
  obtain ⟨t288, A50, H⟩ := H
  replace H : ((flash_New.f (wrap64 (1 + (Int.tmod (wrap64 (a0)) 64))) (wrap64 (1 + (Int.tmod (wrap64 (a1)) 4)))).bind fun bt289 => (if bt289.2.2 = 0 then (if (bt289.2.1.length : Int) = 0 then (chargeparklaw17_FlashErased.j0 k a2 l3 t288 bt289.2.2 true bt289.1 bt289.2.1) else (chargeparklaw17_FlashErased.j0 k a2 l3 t288 bt289.2.2 (decide ((l3.length : Int) > (bt289.2.1.length : Int))) bt289.1 bt289.2.1)) else (chargeparklaw17_FlashErased.j0 k a2 l3 t288 bt289.2.2 true bt289.1 bt289.2.1))) = some r := H
  have A5 := Aside0.mk A50
  clear A50
  replace H := Option.bind_eq_some_iff.mp H
  obtain ⟨⟨t289, t290, t293⟩, A60, H⟩ := H
  replace H : (if t293 = 0 then (if (t290.length : Int) = 0 then (chargeparklaw17_FlashErased.j0 k a2 l3 t288 t293 true t289 t290) else (chargeparklaw17_FlashErased.j0 k a2 l3 t288 t293 (decide ((l3.length : Int) > (t290.length : Int))) t289 t290)) else (chargeparklaw17_FlashErased.j0 k a2 l3 t288 t293 true t289 t290)) = some r := H
  have A6 := Aside0.mk A60
  clear A60
  have HC7 := Aside0.mk H
  clear H
  go_enter Try.func5, Try.ntmps5
  go_upto_region 3 with (first | ((with_reducible refine gate_callee (f := 10) rfl ?_); refine goesL_ (some 18) rfl rfl Try.func10 (by kernel_rfl) rfl #[] rfl (by (try simp only [List.map_toArray, List.map_cons, List.map_nil]); first | done | rfl | (simp only [List.length_drop, List.length_take]; rfl)) ?_; (with_reducible refine (chargeparklaw17_head.calls k  t288 _ A5.out).mono ?_); rintro e w8 ⟨rfl, hb⟩; refine ⟨_, rfl, ?_⟩; have n0_ := Aside0.mk (below_step (by repeat (first | (with_reducible first | exact HB.out | apply below_alloc | apply pw_below_drewN | apply below_drew1) | exact HB.out)) hb); clear HB; have HB := n0_; clear n0_; (try clear hb); (try clear hb2); (try clear hk); (try clear hi)) | ((with_reducible refine gate_callee (f := 11) rfl ?_); refine goesL_ (some 28) rfl rfl Try.func11 (by kernel_rfl) rfl #[.int .i64 (wrap64 (1 + (Int.tmod (wrap64 (a0)) 64))), .int .i64 (wrap64 (1 + (Int.tmod (wrap64 (a1)) 4)))] rfl (by (try simp only [List.map_toArray, List.map_cons, List.map_nil]); first | done | rfl | (simp only [List.length_drop, List.length_take]; rfl)) ?_; (with_reducible refine (flash_New.calls (wrap64 (1 + (Int.tmod (wrap64 (a0)) 64))) (wrap64 (1 + (Int.tmod (wrap64 (a1)) 4))) t289 t290 t293 _ A6.out).mono ?_); rintro e w9 ⟨v291, rfl, ho0, hb⟩; refine ⟨_, rfl, ?_⟩; have n0_ := Aside0.mk (Kd.V_lower (Kd.V_mono (ok' := fun k_ => True) ho0 (fun k_ hk_ => trivial)) (below_size (by repeat (first | (with_reducible first | exact HB.out | apply below_alloc | apply pw_below_drewN | apply below_drew1) | exact HB.out)))); have n1_ := Aside0.mk (below_step (by repeat (first | (with_reducible first | exact HB.out | apply below_alloc | apply pw_below_drewN | apply below_drew1) | exact HB.out)) hb); clear HB; have HO292 := n0_; have HB := n1_; clear n0_ n1_; (try clear hb); (try clear hb2); (try clear hk); (try clear hi); (try clear ho0)) | ((with_reducible refine gate_dst (N := 10) rfl ?_); (try (refine gate_guard (by rfl) ?_; dsimp only)); refine box_event ?hg (N := 10) ?hd (cs := #[.int .i64 0, .slice none 0 0]) (t := 24) ?hr ?_; (case hd => rfl); (case hg => rfl); (case hr => first | (go_simp; done) | (go_simp; rfl)); intro gb294 hg w10 hbox hb; have n0_ := Aside0.mk (Kd.V_below (Kd.V_elderB (by (with_reducible repeat (first | apply Kd.V_alloc | apply Kd.V_drewN | apply Kd.V_drew)); exact HO292.out) gb294 (Nat.le_of_eq hg.symm)) hb); have n1_ := Aside0.mk (below_step (by repeat (first | (with_reducible first | exact HB.out | apply below_alloc | apply pw_below_drewN | apply below_drew1) | exact HB.out)) hb); have n2_ := Aside0.mk (hbox); have n3_ := Aside0.mk ((by rw [hg]; exact (below_size (by repeat (first | (with_reducible first | exact HB.out | apply below_alloc | apply pw_below_drewN | apply below_drew1) | exact HB.out))) : w.heap.size ≤ gb294)); have n4_ := Aside0.mk ((by rw [hg]; exact (below_size (by repeat (first | (with_reducible first | exact HB.out | apply below_alloc | apply pw_below_drewN | apply below_drew1) | exact HB.out))) : w.heap.size ≤ gb294)); clear HO292; clear HB; have HO292 := n0_; have HB := n1_; have BK294 := n2_; have GW294 := n3_; have GE294 := n4_; clear n0_ n1_ n2_ n3_ n4_; clear hb hbox hg; have hcz11_0 : w10.cell? ⟨gb294, 0, none⟩ = some (.int .i64 0) := (blk_cell BK294.out 0).trans rfl; have hcz11_1 : w10.cell? ⟨gb294, 1, none⟩ = some (.slice none 0 0) := (blk_cell BK294.out 1).trans rfl; have hfz11_0 := blk_frozen BK294.out 0; have hfz11_1 := blk_frozen BK294.out 1; obtain ⟨Ao12, co12, eo12⟩ := Kd.V_slice HO292.out; subst eo12))
  (try simp only [Act.put, List.setIfInBounds_toArray, List.set_cons_zero, List.set_cons_succ])
  go_cut [46] (fun v46 wc => ∃ (kq : Nat) (x46_6 : Bool), v46 = .bool x46_6 ∧ Aside0 (chargeparklaw17_FlashErased.j0 kq a2 l3 t288 t293 x46_6 t289 t290 = some r) ∧ Aside0 (kq ≤ k) ∧ Aside0 (Kd.V (Kd.int .u8) 5 wc w.heap.size (fun k_ => k_ ≠ gb294) (.slice Ao12 t290.length co12) t290) ∧ Aside0 (wc.heap[gb294]? = some (.cells #[.int .i64 t289, (.slice Ao12 t290.length co12)] 24 (0, 0))) ∧ Aside0 (Below w.heap.size w wc))
  case first =>
    have H := HC7.out
    clear HC7
    by_cases c13 : t293 = 0
    · rw [if_pos c13] at H
      have c13b0 : (t293 == 0) = true := beq_iff_eq.mpr c13
      have c13b1 : (t293 != 0) = false := bne_eq_false_iff_eq.mpr c13
      clear c13
      (first | rw [c13b0] | (simp only [i64_w, i32_w]; rw [c13b0]) | skip)
      by_cases c14 : (t290.length : Int) = 0
      · rw [if_pos c14] at H
        have c14b0 : ((t290.length : Int) == 0) = true := beq_iff_eq.mpr c14
        have c14b1 : ((t290.length : Int) != 0) = false := bne_eq_false_iff_eq.mpr c14
        clear c14
        have H' := Aside0.mk H
        clear H
        have hcz15_0 : w10.cell? ⟨gb294, 0, none⟩ = some (.int .i64 0) := (blk_cell BK294.out 0).trans rfl
        have hcz15_1 : w10.cell? ⟨gb294, 1, none⟩ = some (.slice none 0 0) := (blk_cell BK294.out 1).trans rfl
        have hfz15_0 := blk_frozen BK294.out 0
        have hfz15_1 := blk_frozen BK294.out 1
        go_wp2
        go_meet
        case rel => exact ⟨_, (true), (by first | rfl | (simp; done) | (simp [*]; done) | (simp [*, Int.tdiv_eq_ediv_of_nonneg]; done)), H', ⟨by first | omega | exact Nat.le_refl _⟩, ⟨by (with_reducible repeat (first | apply Kd.V_alloc | apply Kd.V_drewN | apply Kd.V_drew)); exact Kd.V_mono (Kd.V_far (p := ⟨gb294, 1, none⟩) (Kd.V_far (p := ⟨gb294, 0, none⟩) (Kd.V_mono HO292.out (fun k_ hk => (⟨hk, hk.2⟩ : _ ∧ k_ ≠ gb294))) (fun _ hk => hk.2) (.int .i64 t289)) (fun _ hk => hk.2) (.slice Ao12 t290.length co12)) (fun _ hk => hk.1.2)⟩, ⟨by (with_reducible repeat (first | refine blk_drewN ?_ _ | refine blk_drew ?_ | refine blk_alloc ?_ _)); refine blk_put (cs := #[.int .i64 t289, .slice none 0 0]) ?_ 1 _ rfl; (with_reducible repeat (first | refine blk_drewN ?_ _ | refine blk_drew ?_ | refine blk_alloc ?_ _)); refine blk_put (cs := #[.int .i64 0, .slice none 0 0]) ?_ 0 _ rfl; (with_reducible repeat (first | refine blk_drewN ?_ _ | refine blk_drew ?_ | refine blk_alloc ?_ _)); exact BK294.out⟩, ⟨by repeat (first | (with_reducible first | exact HB.out | apply below_alloc | apply pw_below_drewN | apply below_drew1 | refine below_set ?_ GE294.out) | exact HB.out)⟩⟩
      · rw [if_neg c14] at H
        have c14b0 : ((t290.length : Int) == 0) = false := beq_eq_false_iff_ne.mpr c14
        have c14b1 : ((t290.length : Int) != 0) = true := bne_iff_ne.mpr c14
        have c14b2 : ¬ (t290 = []) := fun h_ => c14 (by rw [h_]; rfl)
        have H' := Aside0.mk H
        clear H
        have hcz16_0 : w10.cell? ⟨gb294, 0, none⟩ = some (.int .i64 0) := (blk_cell BK294.out 0).trans rfl
        have hcz16_1 : w10.cell? ⟨gb294, 1, none⟩ = some (.slice none 0 0) := (blk_cell BK294.out 1).trans rfl
        have hfz16_0 := blk_frozen BK294.out 0
        have hfz16_1 := blk_frozen BK294.out 1
        go_wp2
        go_meet
        case rel => exact ⟨_, (decide ((l3.length : Int) > (t290.length : Int))), (by first | rfl | (simp; done) | (simp [*]; done) | (simp [*, Int.tdiv_eq_ediv_of_nonneg]; done)), H', ⟨by first | omega | exact Nat.le_refl _⟩, ⟨by (with_reducible repeat (first | apply Kd.V_alloc | apply Kd.V_drewN | apply Kd.V_drew)); exact Kd.V_mono (Kd.V_far (p := ⟨gb294, 1, none⟩) (Kd.V_far (p := ⟨gb294, 0, none⟩) (Kd.V_mono HO292.out (fun k_ hk => (⟨hk, hk.2⟩ : _ ∧ k_ ≠ gb294))) (fun _ hk => hk.2) (.int .i64 t289)) (fun _ hk => hk.2) (.slice Ao12 t290.length co12)) (fun _ hk => hk.1.2)⟩, ⟨by (with_reducible repeat (first | refine blk_drewN ?_ _ | refine blk_drew ?_ | refine blk_alloc ?_ _)); refine blk_put (cs := #[.int .i64 t289, .slice none 0 0]) ?_ 1 _ rfl; (with_reducible repeat (first | refine blk_drewN ?_ _ | refine blk_drew ?_ | refine blk_alloc ?_ _)); refine blk_put (cs := #[.int .i64 0, .slice none 0 0]) ?_ 0 _ rfl; (with_reducible repeat (first | refine blk_drewN ?_ _ | refine blk_drew ?_ | refine blk_alloc ?_ _)); exact BK294.out⟩, ⟨by repeat (first | (with_reducible first | exact HB.out | apply below_alloc | apply pw_below_drewN | apply below_drew1 | refine below_set ?_ GE294.out) | exact HB.out)⟩⟩
    · rw [if_neg c13] at H
      have c13b0 : (t293 == 0) = false := beq_eq_false_iff_ne.mpr c13
      have c13b1 : (t293 != 0) = true := bne_iff_ne.mpr c13
      (first | rw [c13b0] | (simp only [i64_w, i32_w]; rw [c13b0]) | skip)
      have H' := Aside0.mk H
      clear H
      go_wp2
      go_meet
      case rel => exact ⟨_, (true), (by first | rfl | (simp; done) | (simp [*]; done) | (simp [*, Int.tdiv_eq_ediv_of_nonneg]; done)), H', ⟨by first | omega | exact Nat.le_refl _⟩, ⟨by (with_reducible repeat (first | apply Kd.V_alloc | apply Kd.V_drewN | apply Kd.V_drew)); exact Kd.V_mono (Kd.V_far (p := ⟨gb294, 1, none⟩) (Kd.V_far (p := ⟨gb294, 0, none⟩) (Kd.V_mono HO292.out (fun k_ hk => (⟨hk, hk.2⟩ : _ ∧ k_ ≠ gb294))) (fun _ hk => hk.2) (.int .i64 t289)) (fun _ hk => hk.2) (.slice Ao12 t290.length co12)) (fun _ hk => hk.1.2)⟩, ⟨by (with_reducible repeat (first | refine blk_drewN ?_ _ | refine blk_drew ?_ | refine blk_alloc ?_ _)); refine blk_put (cs := #[.int .i64 t289, .slice none 0 0]) ?_ 1 _ rfl; (with_reducible repeat (first | refine blk_drewN ?_ _ | refine blk_drew ?_ | refine blk_alloc ?_ _)); refine blk_put (cs := #[.int .i64 0, .slice none 0 0]) ?_ 0 _ rfl; (with_reducible repeat (first | refine blk_drewN ?_ _ | refine blk_drew ?_ | refine blk_alloc ?_ _)); exact BK294.out⟩, ⟨by repeat (first | (with_reducible first | exact HB.out | apply below_alloc | apply pw_below_drewN | apply below_drew1 | refine below_set ?_ GE294.out) | exact HB.out)⟩⟩
  case rest =>
    clear HC7
    try clear c1
    try clear p2
    try clear c3
    try clear c5
    try clear p6
    try clear c10
    try clear c11
    try clear c13
    try clear c13b0
    try clear c13b1
    try clear c14
    try clear c14b0
    try clear c14b1
    try clear c14b2
    try clear hcz11_0
    try clear hcz11_1
    try clear hcz15_0
    try clear hcz15_1
    try clear hcz16_0
    try clear hcz16_1
    try clear hfz11_0
    try clear hfz11_1
    try clear hfz15_0
    try clear hfz15_1
    try clear hfz16_0
    try clear hfz16_1
    obtain ⟨kq, x46_6, rfl, HA, HJ6, HO_295001, BK294, HB⟩ := hcut
    cases kq with
    | zero => exact absurd HA.out (by simp [chargeparklaw17_FlashErased.j0])
    | succ kj6 =>
      have H := HA.out
      clear HA
      simp only [chargeparklaw17_FlashErased.j0] at H
      by_cases c17 : x46_6 = true
      · subst c17
        have H1 : (if t288 = true then (if t293 = 0 then (some (decide ((t290.length : Int) > 0))) else (none)) else (none)) = some r := by rw [if_pos rfl] at H; exact H
        clear H
        have H := H1
        clear H1
        by_cases c18 : t288 = true
        · subst c18
          have H1 : (if t293 = 0 then (some (decide ((t290.length : Int) > 0))) else (none)) = some r := by rw [if_pos rfl] at H; exact H
          clear H
          have H := H1
          clear H1
          by_cases c19 : t293 = 0
          · rw [if_pos c19] at H
            have c19b0 : (t293 == 0) = true := beq_iff_eq.mpr c19
            have c19b1 : (t293 != 0) = false := bne_eq_false_iff_eq.mpr c19
            clear c19
            obtain rfl := Option.some.inj H
            have hcz20_0 : wc.cell? ⟨gb294, 0, none⟩ = some (.int .i64 t289) := (blk_cell BK294.out 0).trans rfl
            have hcz20_1 : wc.cell? ⟨gb294, 1, none⟩ = some (.slice Ao12 t290.length co12) := (blk_cell BK294.out 1).trans rfl
            have hfz20_0 := blk_frozen BK294.out 0
            have hfz20_1 := blk_frozen BK294.out 1
            go_wp2
            go_ret
            exact ⟨by first | rfl | (simp [errW_none, errW_some] <;> rfl) | (simp [*, errW_none, errW_some] <;> rfl) | (rw [Int.tmod_eq_emod_of_nonneg (Int.natCast_nonneg _)]; rfl), by repeat (first | (with_reducible first | exact HB.out | apply below_alloc | apply pw_below_drewN | apply below_drew1 | refine below_set ?_ GE294.out) | exact HB.out)⟩
          · rw [if_neg c19] at H
            exact absurd H (by simp)
        · replace c18 := Bool.eq_false_iff.mpr c18
          subst c18
          have H1 : (none) = some r := by rw [if_neg (show ¬ (false = true) by decide)] at H; exact H
          clear H
          have H := H1
          clear H1
          exact absurd H (by simp)
      · replace c17 := Bool.eq_false_iff.mpr c17
        subst c17
        have H1 : (if (wrap64 ((wrap64 ((t290.length : Int) - (l3.length : Int))) + 1)) = 0 then (none) else ((chargeparklaw17_done.f t289 t290 (Int.tmod (wrap64 (a2)) (wrap64 ((wrap64 ((t290.length : Int) - (l3.length : Int))) + 1))) l3).bind fun bt295 => (if bt295.2.2 = true then (chargeparklaw17_FlashErased.j1 kj6 l3 t288 (Int.tmod (wrap64 (a2)) (wrap64 ((wrap64 ((t290.length : Int) - (l3.length : Int))) + 1))) ((bt295.2.1.length : Int) != (t290.length : Int)) bt295.1 bt295.2.1) else (chargeparklaw17_FlashErased.j1 kj6 l3 t288 (Int.tmod (wrap64 (a2)) (wrap64 ((wrap64 ((t290.length : Int) - (l3.length : Int))) + 1))) true bt295.1 bt295.2.1)))) = some r := by rw [if_neg (show ¬ (false = true) by decide)] at H; exact H
        clear H
        have H := H1
        clear H1
        by_cases c21 : (wrap64 ((wrap64 ((t290.length : Int) - (l3.length : Int))) + 1)) = 0
        · rw [if_pos c21] at H
          exact absurd H (by simp)
        · rw [if_neg c21] at H
          have c21b0 : ((wrap64 ((wrap64 ((t290.length : Int) - (l3.length : Int))) + 1)) == 0) = false := beq_eq_false_iff_ne.mpr c21
          have c21b1 : ((wrap64 ((wrap64 ((t290.length : Int) - (l3.length : Int))) + 1)) != 0) = true := bne_iff_ne.mpr c21
          replace H := Option.bind_eq_some_iff.mp H
          obtain ⟨⟨t295, t296, t299⟩, A220, H⟩ := H
          replace H : (if t299 = true then (chargeparklaw17_FlashErased.j1 kj6 l3 t288 (Int.tmod (wrap64 (a2)) (wrap64 ((wrap64 ((t290.length : Int) - (l3.length : Int))) + 1))) ((t296.length : Int) != (t290.length : Int)) t295 t296) else (chargeparklaw17_FlashErased.j1 kj6 l3 t288 (Int.tmod (wrap64 (a2)) (wrap64 ((wrap64 ((t290.length : Int) - (l3.length : Int))) + 1))) true t295 t296)) = some r := H
          have A22 := Aside0.mk A220
          clear A220
          have HC23 := Aside0.mk H
          clear H
          have hcz24_0 : wc.cell? ⟨gb294, 0, none⟩ = some (.int .i64 t289) := (blk_cell BK294.out 0).trans rfl
          have hcz24_1 : wc.cell? ⟨gb294, 1, none⟩ = some (.slice Ao12 t290.length co12) := (blk_cell BK294.out 1).trans rfl
          have hfz24_0 := blk_frozen BK294.out 0
          have hfz24_1 := blk_frozen BK294.out 1
          go_upto_region 7 with (first | ((with_reducible refine gate_callee (f := 22) rfl ?_); refine goesL_ (some 72) rfl rfl Try.func22 (by kernel_rfl) rfl #[.agg #[.int .i64 t289, .slice Ao12 t290.length co12], .int .i64 (Int.tmod (wrap64 (a2)) (wrap64 ((wrap64 ((t290.length : Int) - (l3.length : Int))) + 1))), .slice A3 l3.length c3] rfl (by (try simp only [List.map_toArray, List.map_cons, List.map_nil]); first | done | rfl | (simp only [List.length_drop, List.length_take]; rfl)) ?_; (with_reducible refine (chargeparklaw17_done.calls t289 _ _ t290 (Int.tmod (wrap64 (a2)) (wrap64 ((wrap64 ((t290.length : Int) - (l3.length : Int))) + 1))) _ _ l3 t295 t296 t299 _ ?side1 ?side2 ?side3 ?side4 A22.out).mono ?_); (case side1 => repeat (first | exact (Kd.V_reads' HO_295001.out).2.2 | (with_reducible refine Kd.C_alloc ?_ _) | (with_reducible refine Kd.C_drewN ?_ _) | (with_reducible refine Kd.C_drew ?_))); (case side2 => exact (Kd.V_reads' HO_295001.out).2.1); (case side3 => repeat (first | exact (Kd.C_below HR3.out HB.out) | (with_reducible refine Kd.C_alloc ?_ _) | (with_reducible refine Kd.C_drewN ?_ _) | (with_reducible refine Kd.C_drew ?_))); (case side4 => exact HC3.out); rintro e w25 ⟨v297, rfl, ho0, hb⟩; refine ⟨_, rfl, ?_⟩; have n0_ := Aside0.mk (Kd.V_below (by (with_reducible repeat (first | apply Kd.V_alloc | apply Kd.V_drewN | apply Kd.V_drew)); exact HO_295001.out) hb); have n1_ := Aside0.mk (Kd.V_lower (Kd.V_mono (ok' := fun k_ => k_ ≠ gb294) ho0 (fun k_ hk_ => (Kd.freshB (g := gb294) (o := .cells #[.int .i64 t289, .slice Ao12 t290.length co12] 24 (0, 0)) (by (with_reducible repeat (first | refine blk_drewN ?_ _ | refine blk_drew ?_ | refine blk_alloc ?_ _)); exact BK294.out) k_ hk_))) (below_size (by repeat (first | (with_reducible first | exact HB.out | apply below_alloc | apply pw_below_drewN | apply below_drew1 | refine below_set ?_ GE294.out) | exact HB.out)))); have n2_ := Aside0.mk (blk_below (g := gb294) (o := .cells #[.int .i64 t289, .slice Ao12 t290.length co12] 24 (0, 0)) (by (with_reducible repeat (first | refine blk_drewN ?_ _ | refine blk_drew ?_ | refine blk_alloc ?_ _)); exact BK294.out) hb); have n3_ := Aside0.mk (below_step (by repeat (first | (with_reducible first | exact HB.out | apply below_alloc | apply pw_below_drewN | apply below_drew1 | refine below_set ?_ GE294.out) | exact HB.out)) hb); clear HO_295001; clear BK294; clear HB; have HO_295001 := n0_; have HO298 := n1_; have BK294 := n2_; have HB := n3_; clear n0_ n1_ n2_ n3_; (try clear hb); (try clear hb2); (try clear hk); (try clear hi); (try clear ho0)) | ((with_reducible refine gate_dst (N := 13) rfl ?_); (try (refine gate_guard (by rfl) ?_; dsimp only)); refine box_event ?hg (N := 13) ?hd (cs := #[.int .i64 0, .slice none 0 0]) (t := 24) ?hr ?_; (case hd => rfl); (case hg => rfl); (case hr => first | (go_simp; done) | (go_simp; rfl)); intro gb300 hg w26 hbox hb; have n0_ := Aside0.mk (Kd.V_below (Kd.V_elderB (by (with_reducible repeat (first | apply Kd.V_alloc | apply Kd.V_drewN | apply Kd.V_drew)); exact HO_295001.out) gb300 (Nat.le_of_eq hg.symm)) hb); have n1_ := Aside0.mk (Kd.V_below (Kd.V_elderB (by (with_reducible repeat (first | apply Kd.V_alloc | apply Kd.V_drewN | apply Kd.V_drew)); exact HO298.out) gb300 (Nat.le_of_eq hg.symm)) hb); have n2_ := Aside0.mk (blk_below (g := gb294) (o := .cells #[.int .i64 t289, .slice Ao12 t290.length co12] 24 (0, 0)) (by (with_reducible repeat (first | refine blk_drewN ?_ _ | refine blk_drew ?_ | refine blk_alloc ?_ _)); exact BK294.out) hb); have n3_ := Aside0.mk (below_step (by repeat (first | (with_reducible first | exact HB.out | apply below_alloc | apply pw_below_drewN | apply below_drew1 | refine below_set ?_ GE294.out) | exact HB.out)) hb); have n4_ := Aside0.mk (hbox); have n5_ := Aside0.mk ((by rw [hg]; exact (below_size (by repeat (first | (with_reducible first | exact HB.out | apply below_alloc | apply pw_below_drewN | apply below_drew1 | refine below_set ?_ GE294.out) | exact HB.out))) : w.heap.size ≤ gb300)); have n6_ := Aside0.mk ((by rw [hg]; exact (below_size (by repeat (first | (with_reducible first | exact HB.out | apply below_alloc | apply pw_below_drewN | apply below_drew1 | refine below_set ?_ GE294.out) | exact HB.out))) : w.heap.size ≤ gb300)); have n7_ := Aside0.mk ((by rw [hg]; exact Nat.ne_of_lt (blk_lt (g := gb294) (o := .cells #[.int .i64 t289, .slice Ao12 t290.length co12] 24 (0, 0)) (by (with_reducible repeat (first | refine blk_drewN ?_ _ | refine blk_drew ?_ | refine blk_alloc ?_ _)); exact BK294.out)) : gb294 ≠ gb300)); have n8_ := Aside0.mk ((by rw [hg]; exact Nat.ne_of_gt (blk_lt (g := gb294) (o := .cells #[.int .i64 t289, .slice Ao12 t290.length co12] 24 (0, 0)) (by (with_reducible repeat (first | refine blk_drewN ?_ _ | refine blk_drew ?_ | refine blk_alloc ?_ _)); exact BK294.out)) : gb300 ≠ gb294)); clear HO_295001; clear HO298; clear BK294; clear HB; have HO_295001 := n0_; have HO298 := n1_; have BK294 := n2_; have HB := n3_; have BK300 := n4_; have GW300 := n5_; have GE300 := n6_; have NB294_300 := n7_; have NB300_294 := n8_; clear n0_ n1_ n2_ n3_ n4_ n5_ n6_ n7_ n8_; clear hb hbox hg; have hnb27 := NB300_294.out; have hnc27 := NB294_300.out; have hcz28_0 : w26.cell? ⟨gb300, 0, none⟩ = some (.int .i64 0) := (blk_cell BK300.out 0).trans rfl; have hcz28_1 : w26.cell? ⟨gb300, 1, none⟩ = some (.slice none 0 0) := (blk_cell BK300.out 1).trans rfl; have hfz28_0 := blk_frozen BK300.out 0; have hfz28_1 := blk_frozen BK300.out 1; obtain ⟨Ao29, co29, eo29⟩ := Kd.V_slice HO298.out; subst eo29))
          (try simp only [Act.put, List.setIfInBounds_toArray, List.set_cons_zero, List.set_cons_succ])
          go_cut [85] (fun v85 wc => ∃ (kq : Nat) (x85_22 : Bool), v85 = .bool x85_22 ∧ Aside0 (chargeparklaw17_FlashErased.j1 kq l3 t288 (Int.tmod (wrap64 (a2)) (wrap64 ((wrap64 ((t290.length : Int) - (l3.length : Int))) + 1))) x85_22 t295 t296 = some r) ∧ Aside0 (kq ≤ kj6) ∧ Aside0 (Kd.V (Kd.int .u8) 5 wc w.heap.size (fun k_ => k_ ≠ gb294 ∧ k_ ≠ gb300) (.slice Ao12 t290.length co12) t290) ∧ Aside0 (Kd.V (Kd.int .u8) 5 wc w.heap.size (fun k_ => k_ ≠ gb294 ∧ k_ ≠ gb300) (.slice Ao29 t296.length co29) t296) ∧ Aside0 (wc.heap[gb294]? = some (.cells #[.int .i64 t289, (.slice Ao12 t290.length co12)] 24 (0, 0))) ∧ Aside0 (wc.heap[gb300]? = some (.cells #[.int .i64 t295, (.slice Ao29 t296.length co29)] 24 (0, 0))) ∧ Aside0 (Below w.heap.size w wc))
          case first =>
            have H := HC23.out
            clear HC23
            by_cases c30 : t299 = true
            · subst c30
              have H1 : (chargeparklaw17_FlashErased.j1 kj6 l3 t288 (Int.tmod (wrap64 (a2)) (wrap64 ((wrap64 ((t290.length : Int) - (l3.length : Int))) + 1))) ((t296.length : Int) != (t290.length : Int)) t295 t296) = some r := by rw [if_pos rfl] at H; exact H
              clear H
              have H := H1
              clear H1
              have H' := Aside0.mk H
              clear H
              have hnb31 := NB300_294.out
              have hnc31 := NB294_300.out
              have hcz32_0 : w26.cell? ⟨gb300, 0, none⟩ = some (.int .i64 0) := (blk_cell BK300.out 0).trans rfl
              have hcz32_1 : w26.cell? ⟨gb300, 1, none⟩ = some (.slice none 0 0) := (blk_cell BK300.out 1).trans rfl
              have hfz32_0 := blk_frozen BK300.out 0
              have hfz32_1 := blk_frozen BK300.out 1
              have hcz33_0 : w26.cell? ⟨gb294, 0, none⟩ = some (.int .i64 t289) := (blk_cell BK294.out 0).trans rfl
              have hcz33_1 : w26.cell? ⟨gb294, 1, none⟩ = some (.slice Ao12 t290.length co12) := (blk_cell BK294.out 1).trans rfl
              have hfz33_0 := blk_frozen BK294.out 0
              have hfz33_1 := blk_frozen BK294.out 1
              go_wp2
              go_meet
              case rel => exact ⟨_, (((t296.length : Int) != (t290.length : Int))), (by first | rfl | (simp; done) | (simp [*]; done) | (simp [*, Int.tdiv_eq_ediv_of_nonneg]; done)), H', ⟨by have := HJ6.out; first | omega | exact Nat.le_refl _⟩, ⟨by (with_reducible repeat (first | apply Kd.V_alloc | apply Kd.V_drewN | apply Kd.V_drew)); exact Kd.V_mono (Kd.V_far (p := ⟨gb300, 1, none⟩) (Kd.V_far (p := ⟨gb300, 0, none⟩) (Kd.V_mono HO_295001.out (fun k_ hk => (⟨hk, hk.2⟩ : _ ∧ k_ ≠ gb300))) (fun _ hk => hk.2) (.int .i64 t295)) (fun _ hk => hk.2) (.slice Ao29 t296.length co29)) (fun _ hk => ⟨hk.1.1, hk.1.2⟩)⟩, ⟨by (with_reducible repeat (first | apply Kd.V_alloc | apply Kd.V_drewN | apply Kd.V_drew)); exact Kd.V_mono (Kd.V_far (p := ⟨gb300, 1, none⟩) (Kd.V_far (p := ⟨gb300, 0, none⟩) (Kd.V_mono HO298.out (fun k_ hk => (⟨hk, hk.2⟩ : _ ∧ k_ ≠ gb300))) (fun _ hk => hk.2) (.int .i64 t295)) (fun _ hk => hk.2) (.slice Ao29 t296.length co29)) (fun _ hk => ⟨hk.1.1, hk.1.2⟩)⟩, ⟨by (with_reducible repeat (first | refine blk_drewN ?_ _ | refine blk_drew ?_ | refine blk_alloc ?_ _)); refine blk_far ?_ NB294_300.out _; (with_reducible repeat (first | refine blk_drewN ?_ _ | refine blk_drew ?_ | refine blk_alloc ?_ _)); refine blk_far ?_ NB294_300.out _; (with_reducible repeat (first | refine blk_drewN ?_ _ | refine blk_drew ?_ | refine blk_alloc ?_ _)); exact BK294.out⟩, ⟨by (with_reducible repeat (first | refine blk_drewN ?_ _ | refine blk_drew ?_ | refine blk_alloc ?_ _)); refine blk_put (cs := #[.int .i64 t295, .slice none 0 0]) ?_ 1 _ rfl; (with_reducible repeat (first | refine blk_drewN ?_ _ | refine blk_drew ?_ | refine blk_alloc ?_ _)); refine blk_put (cs := #[.int .i64 0, .slice none 0 0]) ?_ 0 _ rfl; (with_reducible repeat (first | refine blk_drewN ?_ _ | refine blk_drew ?_ | refine blk_alloc ?_ _)); exact BK300.out⟩, ⟨by repeat (first | (with_reducible first | exact HB.out | apply below_alloc | apply pw_below_drewN | apply below_drew1 | refine below_set ?_ GE294.out | refine below_set ?_ GE300.out) | exact HB.out)⟩⟩
            · replace c30 := Bool.eq_false_iff.mpr c30
              subst c30
              have H1 : (chargeparklaw17_FlashErased.j1 kj6 l3 t288 (Int.tmod (wrap64 (a2)) (wrap64 ((wrap64 ((t290.length : Int) - (l3.length : Int))) + 1))) true t295 t296) = some r := by rw [if_neg (show ¬ (false = true) by decide)] at H; exact H
              clear H
              have H := H1
              clear H1
              have H' := Aside0.mk H
              clear H
              go_wp2
              go_meet
              case rel => exact ⟨_, (true), (by first | rfl | (simp; done) | (simp [*]; done) | (simp [*, Int.tdiv_eq_ediv_of_nonneg]; done)), H', ⟨by have := HJ6.out; first | omega | exact Nat.le_refl _⟩, ⟨by (with_reducible repeat (first | apply Kd.V_alloc | apply Kd.V_drewN | apply Kd.V_drew)); exact Kd.V_mono (Kd.V_far (p := ⟨gb300, 1, none⟩) (Kd.V_far (p := ⟨gb300, 0, none⟩) (Kd.V_mono HO_295001.out (fun k_ hk => (⟨hk, hk.2⟩ : _ ∧ k_ ≠ gb300))) (fun _ hk => hk.2) (.int .i64 t295)) (fun _ hk => hk.2) (.slice Ao29 t296.length co29)) (fun _ hk => ⟨hk.1.1, hk.1.2⟩)⟩, ⟨by (with_reducible repeat (first | apply Kd.V_alloc | apply Kd.V_drewN | apply Kd.V_drew)); exact Kd.V_mono (Kd.V_far (p := ⟨gb300, 1, none⟩) (Kd.V_far (p := ⟨gb300, 0, none⟩) (Kd.V_mono HO298.out (fun k_ hk => (⟨hk, hk.2⟩ : _ ∧ k_ ≠ gb300))) (fun _ hk => hk.2) (.int .i64 t295)) (fun _ hk => hk.2) (.slice Ao29 t296.length co29)) (fun _ hk => ⟨hk.1.1, hk.1.2⟩)⟩, ⟨by (with_reducible repeat (first | refine blk_drewN ?_ _ | refine blk_drew ?_ | refine blk_alloc ?_ _)); refine blk_far ?_ NB294_300.out _; (with_reducible repeat (first | refine blk_drewN ?_ _ | refine blk_drew ?_ | refine blk_alloc ?_ _)); refine blk_far ?_ NB294_300.out _; (with_reducible repeat (first | refine blk_drewN ?_ _ | refine blk_drew ?_ | refine blk_alloc ?_ _)); exact BK294.out⟩, ⟨by (with_reducible repeat (first | refine blk_drewN ?_ _ | refine blk_drew ?_ | refine blk_alloc ?_ _)); refine blk_put (cs := #[.int .i64 t295, .slice none 0 0]) ?_ 1 _ rfl; (with_reducible repeat (first | refine blk_drewN ?_ _ | refine blk_drew ?_ | refine blk_alloc ?_ _)); refine blk_put (cs := #[.int .i64 0, .slice none 0 0]) ?_ 0 _ rfl; (with_reducible repeat (first | refine blk_drewN ?_ _ | refine blk_drew ?_ | refine blk_alloc ?_ _)); exact BK300.out⟩, ⟨by repeat (first | (with_reducible first | exact HB.out | apply below_alloc | apply pw_below_drewN | apply below_drew1 | refine below_set ?_ GE294.out | refine below_set ?_ GE300.out) | exact HB.out)⟩⟩
          case rest =>
            clear HC23
            try clear c1
            try clear c2
            try clear p2
            try clear c3
            try clear c5
            try clear p6
            try clear c10
            try clear c11
            try clear c13
            try clear c13b0
            try clear c13b1
            try clear c14
            try clear c14b0
            try clear c14b1
            try clear c14b2
            try clear c17
            try clear c18
            try clear c19
            try clear c19b0
            try clear c19b1
            try clear c21
            try clear c21b0
            try clear c21b1
            try clear c22
            try clear c27
            try clear c30
            try clear c31
            try clear hcz11_0
            try clear hcz11_1
            try clear hcz15_0
            try clear hcz15_1
            try clear hcz16_0
            try clear hcz16_1
            try clear hcz20_0
            try clear hcz20_1
            try clear hcz24_0
            try clear hcz24_1
            try clear hcz28_0
            try clear hcz28_1
            try clear hcz32_0
            try clear hcz32_1
            try clear hcz33_0
            try clear hcz33_1
            try clear hfz11_0
            try clear hfz11_1
            try clear hfz15_0
            try clear hfz15_1
            try clear hfz16_0
            try clear hfz16_1
            try clear hfz20_0
            try clear hfz20_1
            try clear hfz24_0
            try clear hfz24_1
            try clear hfz28_0
            try clear hfz28_1
            try clear hfz32_0
            try clear hfz32_1
            try clear hfz33_0
            try clear hfz33_1
            try clear p2
            try clear p6
            obtain ⟨kq, x85_22, rfl, HA, HJ22, HO_295001, HO_301001, BK294, BK300, HB⟩ := hcut
            cases kq with
            | zero => exact absurd HA.out (by simp [chargeparklaw17_FlashErased.j1])
            | succ kj22 =>
              have H := HA.out
              clear HA
              simp only [chargeparklaw17_FlashErased.j1] at H
              by_cases c34 : x85_22 = true
              · subst c34
                have H1 : (none) = some r := by rw [if_pos rfl] at H; exact H
                clear H
                have H := H1
                clear H1
                exact absurd H (by simp)
              · replace c34 := Bool.eq_false_iff.mpr c34
                subst c34
                have H1 : (chargeparklaw17_FlashErased.l0 kj22 l3 t288 (Int.tmod (wrap64 (a2)) (wrap64 ((wrap64 ((t290.length : Int) - (l3.length : Int))) + 1))) t296 (t296.length : Int) 0) = some r := by rw [if_neg (show ¬ (false = true) by decide)] at H; exact H
                clear H
                have H := H1
                clear H1
                have H' := Aside0.mk H
                clear H
                have hnb35 := NB300_294.out
                have hnc35 := NB294_300.out
                have hcz36_0 : wc.cell? ⟨gb300, 0, none⟩ = some (.int .i64 t295) := (blk_cell BK300.out 0).trans rfl
                have hcz36_1 : wc.cell? ⟨gb300, 1, none⟩ = some (.slice Ao29 t296.length co29) := (blk_cell BK300.out 1).trans rfl
                have hfz36_0 := blk_frozen BK300.out 0
                have hfz36_1 := blk_frozen BK300.out 1
                go_wp2
                go_loopg [89] kj22 (fun kq v89 w' => ∃ (x89_3 : Int), v89 = .int .i64 x89_3 ∧ Aside0 (chargeparklaw17_FlashErased.l0 kq l3 t288 (Int.tmod (wrap64 (a2)) (wrap64 ((wrap64 ((t290.length : Int) - (l3.length : Int))) + 1))) t296 (t296.length : Int) x89_3 = some r) ∧ Aside0 (kq ≤ kj22) ∧ Aside0 (Kd.V (Kd.int .u8) 5 w' w.heap.size (fun k_ => k_ ≠ gb294 ∧ k_ ≠ gb300) (.slice Ao29 t296.length co29) t296) ∧ Aside0 (Kd.V (Kd.int .u8) 5 w' w.heap.size (fun k_ => k_ ≠ gb294 ∧ k_ ≠ gb300) (.slice Ao12 t290.length co12) t290) ∧ Aside0 (Kd.V (Kd.int .u8) 5 w' w.heap.size (fun k_ => k_ ≠ gb294 ∧ k_ ≠ gb300) (.slice Ao29 t296.length co29) t296) ∧ Aside0 (w'.heap[gb294]? = some (.cells #[.int .i64 t289, (.slice Ao12 t290.length co12)] 24 (0, 0))) ∧ Aside0 (w'.heap[gb300]? = some (.cells #[.int .i64 t295, (.slice Ao29 t296.length co29)] 24 (0, 0))) ∧ Aside0 (Below w.heap.size w w'))
                case atStart => exact ⟨(0), (by first | rfl | (simp; done) | (simp [*]; done)), H', ⟨Nat.le_refl _⟩, ⟨by (with_reducible repeat (first | apply Kd.V_alloc | apply Kd.V_drewN | apply Kd.V_drew)); exact HO_301001.out⟩, ⟨by (with_reducible repeat (first | apply Kd.V_alloc | apply Kd.V_drewN | apply Kd.V_drew)); exact HO_295001.out⟩, ⟨by (with_reducible repeat (first | apply Kd.V_alloc | apply Kd.V_drewN | apply Kd.V_drew)); exact HO_301001.out⟩, ⟨by (with_reducible repeat (first | refine blk_drewN ?_ _ | refine blk_drew ?_ | refine blk_alloc ?_ _)); exact BK294.out⟩, ⟨by (with_reducible repeat (first | refine blk_drewN ?_ _ | refine blk_drew ?_ | refine blk_alloc ?_ _)); exact BK300.out⟩, ⟨by repeat (first | (with_reducible first | exact HB.out | apply below_alloc | apply pw_below_drewN | apply below_drew1 | refine below_set ?_ GE294.out | refine below_set ?_ GE300.out) | exact HB.out)⟩⟩
                case round =>
                  clear H'
                  try clear c1
                  try clear c2
                  try clear p2
                  try clear c3
                  try clear c5
                  try clear p6
                  try clear c10
                  try clear c11
                  try clear c13
                  try clear c13b0
                  try clear c13b1
                  try clear c14
                  try clear c14b0
                  try clear c14b1
                  try clear c14b2
                  try clear c17
                  try clear c18
                  try clear c19
                  try clear c19b0
                  try clear c19b1
                  try clear c21
                  try clear c21b0
                  try clear c21b1
                  try clear c22
                  try clear c27
                  try clear c30
                  try clear c31
                  try clear c34
                  try clear c35
                  try clear hcz11_0
                  try clear hcz11_1
                  try clear hcz15_0
                  try clear hcz15_1
                  try clear hcz16_0
                  try clear hcz16_1
                  try clear hcz20_0
                  try clear hcz20_1
                  try clear hcz24_0
                  try clear hcz24_1
                  try clear hcz28_0
                  try clear hcz28_1
                  try clear hcz32_0
                  try clear hcz32_1
                  try clear hcz33_0
                  try clear hcz33_1
                  try clear hcz36_0
                  try clear hcz36_1
                  try clear hfz11_0
                  try clear hfz11_1
                  try clear hfz15_0
                  try clear hfz15_1
                  try clear hfz16_0
                  try clear hfz16_1
                  try clear hfz20_0
                  try clear hfz20_1
                  try clear hfz24_0
                  try clear hfz24_1
                  try clear hfz28_0
                  try clear hfz28_1
                  try clear hfz32_0
                  try clear hfz32_1
                  try clear hfz33_0
                  try clear hfz33_1
                  try clear hfz36_0
                  try clear hfz36_1
                  try clear p2
                  try clear p6
                  obtain ⟨x89_3, rfl, HA, HK3, HO_87, HO_295001, HO_301001, BK294, BK300, HB⟩ := hrel
                  cases gk with
                  | zero => exact absurd HA.out (by simp [chargeparklaw17_FlashErased.l0])
                  | succ k3 =>
                    have H := HA.out
                    clear HA
                    simp only [chargeparklaw17_FlashErased.l0] at H
                    by_cases c37 : x89_3 < (t296.length : Int)
                    · rw [if_pos c37] at H
                      have c37b0 : decide (x89_3 < (t296.length : Int)) = true := decide_eq_true c37
                      clear c37
                      by_cases c38 : 0 ≤ x89_3
                      · rw [if_pos c38] at H
                        have c38b0 : decide (0 ≤ x89_3) = true := decide_eq_true c38
                        clear c38
                        by_cases c39 : x89_3 < (t296.length : Int)
                        · rw [if_pos c39] at H
                          have c39b0 : decide (x89_3 < (t296.length : Int)) = true := decide_eq_true c39
                          clear c39
                          have HC40 := Aside0.mk H
                          clear H
                          have p301 : 0 ≤ (x89_3 : Int) := of_decide_eq_true (by first | (with_reducible assumption) | assumption)
                          have q301 : x89_3 < (t296.length : Int) := of_decide_eq_true (by first | (with_reducible assumption) | assumption)
                          obtain ⟨ad301, e301, hx301_0⟩ := Kd.at_int (Kd.V_reads' HO_87.out).2.2 x89_3 p301 q301
                          cases e301
                          replace p301 := eq_true p301
                          replace q301 := eq_true q301
                          go_upto_region 13 with (fail)
                          go_cut [104] (fun v104 wc => ∃ (kq : Nat) (x104_39 : Bool), v104 = .bool x104_39 ∧ Aside0 (chargeparklaw17_FlashErased.j3 kq l3 t288 (Int.tmod (wrap64 (a2)) (wrap64 ((wrap64 ((t290.length : Int) - (l3.length : Int))) + 1))) x89_3 (rd t296 x89_3) 255 t296 (t296.length : Int) x89_3 x104_39 = some r) ∧ Aside0 (kq ≤ k3) ∧ Aside0 (Kd.V (Kd.int .u8) 5 wc w.heap.size (fun k_ => k_ ≠ gb294 ∧ k_ ≠ gb300) (.slice (some ad301) t296.length co29) t296) ∧ Aside0 (Kd.V (Kd.int .u8) 5 wc w.heap.size (fun k_ => k_ ≠ gb294 ∧ k_ ≠ gb300) (.slice Ao12 t290.length co12) t290) ∧ Aside0 (Kd.V (Kd.int .u8) 5 wc w.heap.size (fun k_ => k_ ≠ gb294 ∧ k_ ≠ gb300) (.slice (some ad301) t296.length co29) t296) ∧ Aside0 (wc.heap[gb294]? = some (.cells #[.int .i64 t289, (.slice Ao12 t290.length co12)] 24 (0, 0))) ∧ Aside0 (wc.heap[gb300]? = some (.cells #[.int .i64 t295, (.slice (some ad301) t296.length co29)] 24 (0, 0))) ∧ Aside0 (Below w.heap.size w wc))
                          case first =>
                            have H := HC40.out
                            clear HC40
                            by_cases c41 : x89_3 ≥ (Int.tmod (wrap64 (a2)) (wrap64 ((wrap64 ((t290.length : Int) - (l3.length : Int))) + 1)))
                            · rw [if_pos c41] at H
                              have c41b0 : decide ((Int.tmod (wrap64 (a2)) (wrap64 ((wrap64 ((t290.length : Int) - (l3.length : Int))) + 1))) ≤ x89_3) = true := decide_eq_true c41
                              clear c41
                              (first | rw [c41b0] | (simp only [i64_w, i32_w]; rw [c41b0]) | skip)
                              have H' := Aside0.mk H
                              clear H
                              go_wp2
                              go_meet
                              case rel => exact ⟨_, (decide (x89_3 < (wrap64 ((Int.tmod (wrap64 (a2)) (wrap64 ((wrap64 ((t290.length : Int) - (l3.length : Int))) + 1))) + (l3.length : Int))))), (by first | rfl | (simp; done) | (simp [*]; done) | (simp [*, Int.tdiv_eq_ediv_of_nonneg]; done)), H', ⟨by have := HJ6.out; have := HJ22.out; have := HK3.out; first | omega | exact Nat.le_refl _⟩, ⟨by (with_reducible repeat (first | apply Kd.V_alloc | apply Kd.V_drewN | apply Kd.V_drew)); exact HO_87.out⟩, ⟨by (with_reducible repeat (first | apply Kd.V_alloc | apply Kd.V_drewN | apply Kd.V_drew)); exact HO_295001.out⟩, ⟨by (with_reducible repeat (first | apply Kd.V_alloc | apply Kd.V_drewN | apply Kd.V_drew)); exact HO_301001.out⟩, ⟨by (with_reducible repeat (first | refine blk_drewN ?_ _ | refine blk_drew ?_ | refine blk_alloc ?_ _)); exact BK294.out⟩, ⟨by (with_reducible repeat (first | refine blk_drewN ?_ _ | refine blk_drew ?_ | refine blk_alloc ?_ _)); exact BK300.out⟩, ⟨by repeat (first | (with_reducible first | exact HB.out | apply below_alloc | apply pw_below_drewN | apply below_drew1 | refine below_set ?_ GE294.out | refine below_set ?_ GE300.out) | exact HB.out)⟩⟩
                            · rw [if_neg c41] at H
                              have c41b0 : decide ((Int.tmod (wrap64 (a2)) (wrap64 ((wrap64 ((t290.length : Int) - (l3.length : Int))) + 1))) ≤ x89_3) = false := decide_eq_false c41
                              clear c41
                              (first | rw [c41b0] | (simp only [i64_w, i32_w]; rw [c41b0]) | skip)
                              have H' := Aside0.mk H
                              clear H
                              go_wp2
                              go_meet
                              case rel => exact ⟨_, (false), (by first | rfl | (simp; done) | (simp [*]; done) | (simp [*, Int.tdiv_eq_ediv_of_nonneg]; done)), H', ⟨by have := HJ6.out; have := HJ22.out; have := HK3.out; first | omega | exact Nat.le_refl _⟩, ⟨by (with_reducible repeat (first | apply Kd.V_alloc | apply Kd.V_drewN | apply Kd.V_drew)); exact HO_87.out⟩, ⟨by (with_reducible repeat (first | apply Kd.V_alloc | apply Kd.V_drewN | apply Kd.V_drew)); exact HO_295001.out⟩, ⟨by (with_reducible repeat (first | apply Kd.V_alloc | apply Kd.V_drewN | apply Kd.V_drew)); exact HO_301001.out⟩, ⟨by (with_reducible repeat (first | refine blk_drewN ?_ _ | refine blk_drew ?_ | refine blk_alloc ?_ _)); exact BK294.out⟩, ⟨by (with_reducible repeat (first | refine blk_drewN ?_ _ | refine blk_drew ?_ | refine blk_alloc ?_ _)); exact BK300.out⟩, ⟨by repeat (first | (with_reducible first | exact HB.out | apply below_alloc | apply pw_below_drewN | apply below_drew1 | refine below_set ?_ GE294.out | refine below_set ?_ GE300.out) | exact HB.out)⟩⟩
                          case rest =>
                            clear HC40
                            try clear c1
                            try clear c2
                            try clear p2
                            try clear c3
                            try clear p3
                            try clear q3
                            try clear hx3
                            try clear c4
                            try clear c5
                            try clear p6
                            try clear c10
                            try clear c11
                            try clear c13
                            try clear c13b0
                            try clear c13b1
                            try clear c14
                            try clear c14b0
                            try clear c14b1
                            try clear c14b2
                            try clear c17
                            try clear c18
                            try clear c19
                            try clear c19b0
                            try clear c19b1
                            try clear c21
                            try clear c21b0
                            try clear c21b1
                            try clear c22
                            try clear c27
                            try clear c30
                            try clear p30
                            try clear q30
                            try clear hx30
                            try clear c31
                            try clear c34
                            try clear c35
                            try clear c37
                            try clear c37b0
                            try clear c38
                            try clear c38b0
                            try clear c39
                            try clear c39b0
                            try clear c41
                            try clear c41b0
                            try clear hcz11_0
                            try clear hcz11_1
                            try clear hcz15_0
                            try clear hcz15_1
                            try clear hcz16_0
                            try clear hcz16_1
                            try clear hcz20_0
                            try clear hcz20_1
                            try clear hcz24_0
                            try clear hcz24_1
                            try clear hcz28_0
                            try clear hcz28_1
                            try clear hcz32_0
                            try clear hcz32_1
                            try clear hcz33_0
                            try clear hcz33_1
                            try clear hcz36_0
                            try clear hcz36_1
                            try clear hfz11_0
                            try clear hfz11_1
                            try clear hfz15_0
                            try clear hfz15_1
                            try clear hfz16_0
                            try clear hfz16_1
                            try clear hfz20_0
                            try clear hfz20_1
                            try clear hfz24_0
                            try clear hfz24_1
                            try clear hfz28_0
                            try clear hfz28_1
                            try clear hfz32_0
                            try clear hfz32_1
                            try clear hfz33_0
                            try clear hfz33_1
                            try clear hfz36_0
                            try clear hfz36_1
                            try clear hx301_0
                            try clear p2
                            try clear p301
                            try clear p6
                            try clear q301
                            obtain ⟨kq, x104_39, rfl, HA, HJ39, HO_87, HO_295001, HO_301001, BK294, BK300, HB⟩ := hcut
                            cases kq with
                            | zero => exact absurd HA.out (by simp [chargeparklaw17_FlashErased.j3])
                            | succ kj39 =>
                              have H := HA.out
                              clear HA
                              simp only [chargeparklaw17_FlashErased.j3] at H
                              by_cases c42 : x104_39 = true
                              · subst c42
                                have H1 : (if 0 ≤ (wrap64 (x89_3 - (Int.tmod (wrap64 (a2)) (wrap64 ((wrap64 ((t290.length : Int) - (l3.length : Int))) + 1))))) then (if (wrap64 (x89_3 - (Int.tmod (wrap64 (a2)) (wrap64 ((wrap64 ((t290.length : Int) - (l3.length : Int))) + 1))))) < (l3.length : Int) then (if (rd t296 x89_3) = (rd l3 (wrap64 (x89_3 - (Int.tmod (wrap64 (a2)) (wrap64 ((wrap64 ((t290.length : Int) - (l3.length : Int))) + 1)))))) then (chargeparklaw17_FlashErased.l0 kj39 l3 t288 (Int.tmod (wrap64 (a2)) (wrap64 ((wrap64 ((t290.length : Int) - (l3.length : Int))) + 1))) t296 (t296.length : Int) (wrap64 (x89_3 + 1))) else (none)) else (none)) else (none)) = some r := by rw [if_pos rfl] at H; exact H
                                clear H
                                have H := H1
                                clear H1
                                obtain ⟨ji43, hji43⟩ : ∃ j_ : Int, (wrap64 (x89_3 - (Int.tmod (wrap64 (a2)) (wrap64 ((wrap64 ((t290.length : Int) - (l3.length : Int))) + 1))))) = j_ := ⟨_, rfl⟩
                                replace H : (if 0 ≤ (ji43) then (if (ji43) < (l3.length : Int) then (if (rd t296 x89_3) = (rd l3 (ji43)) then (chargeparklaw17_FlashErased.l0 kj39 l3 t288 (Int.tmod (wrap64 (a2)) (wrap64 ((wrap64 ((t290.length : Int) - (l3.length : Int))) + 1))) t296 (t296.length : Int) (wrap64 (x89_3 + 1))) else (none)) else (none)) else (none)) = some r := by first | (rw [hji43] at H; exact H) | (simp only [hji43] at H ⊢; exact H)
                                have hji43w : (IntKind.i64.wrap (x89_3 - (Int.tmod (wrap64 (a2)) (wrap64 ((wrap64 ((t290.length : Int) - (l3.length : Int))) + 1))))) = ji43 := (i64_w _).trans hji43
                                by_cases c44 : 0 ≤ (ji43)
                                · rw [if_pos c44] at H
                                  have c44b0 : decide (0 ≤ (ji43)) = true := decide_eq_true c44
                                  clear c44
                                  by_cases c45 : (ji43) < (l3.length : Int)
                                  · rw [if_pos c45] at H
                                    have c45b0 : decide ((ji43) < (l3.length : Int)) = true := decide_eq_true c45
                                    clear c45
                                    by_cases c46 : (rd t296 x89_3) = (rd l3 (ji43))
                                    · rw [if_pos c46] at H
                                      have c46b0 : ((rd t296 x89_3) == (rd l3 (ji43))) = true := beq_iff_eq.mpr c46
                                      have c46b1 : ((rd t296 x89_3) != (rd l3 (ji43))) = false := bne_eq_false_iff_eq.mpr c46
                                      clear c46
                                      have H' := Aside0.mk H
                                      clear H
                                      have p302 : 0 ≤ ((ji43) : Int) := of_decide_eq_true (by first | (with_reducible assumption) | assumption)
                                      have q302 : (ji43) < (l3.length : Int) := of_decide_eq_true (by first | (with_reducible assumption) | assumption)
                                      obtain ⟨ad302, e302, hx302_0⟩ := Kd.at_int HR3.out (ji43) p302 q302
                                      cases e302
                                      replace hx302_0 := (HB.out.cell (World.block_lt_of_cell? w _ hx302_0)).trans hx302_0
                                      replace p302 := eq_true p302
                                      replace q302 := eq_true q302
                                      go_wp2
                                      go_roundg kj39
                                      case measure => have := HJ6.out; have := HJ22.out; have := HK3.out; have := HJ39.out; omega
                                      case rel => exact ⟨(wrap64 (x89_3 + 1)), (by first | rfl | (simp; done) | (simp [*]; done) | (simp [*, Int.tdiv_eq_ediv_of_nonneg]; done)), H', ⟨by have := HJ6.out; have := HJ22.out; have := HK3.out; have := HJ39.out; omega⟩, ⟨by (with_reducible repeat (first | apply Kd.V_alloc | apply Kd.V_drewN | apply Kd.V_drew)); exact HO_87.out⟩, ⟨by (with_reducible repeat (first | apply Kd.V_alloc | apply Kd.V_drewN | apply Kd.V_drew)); exact HO_295001.out⟩, ⟨by (with_reducible repeat (first | apply Kd.V_alloc | apply Kd.V_drewN | apply Kd.V_drew)); exact HO_301001.out⟩, ⟨by (with_reducible repeat (first | refine blk_drewN ?_ _ | refine blk_drew ?_ | refine blk_alloc ?_ _)); exact BK294.out⟩, ⟨by (with_reducible repeat (first | refine blk_drewN ?_ _ | refine blk_drew ?_ | refine blk_alloc ?_ _)); exact BK300.out⟩, ⟨by repeat (first | (with_reducible first | exact HB.out | apply below_alloc | apply pw_below_drewN | apply below_drew1 | refine below_set ?_ GE294.out | refine below_set ?_ GE300.out) | exact HB.out)⟩⟩
                                    · rw [if_neg c46] at H
                                      exact absurd H (by simp)
                                  · rw [if_neg c45] at H
                                    exact absurd H (by simp)
                                · rw [if_neg c44] at H
                                  exact absurd H (by simp)
                              · replace c42 := Bool.eq_false_iff.mpr c42
                                subst c42
                                have H1 : (if (rd t296 x89_3) = 255 then (chargeparklaw17_FlashErased.l0 kj39 l3 t288 (Int.tmod (wrap64 (a2)) (wrap64 ((wrap64 ((t290.length : Int) - (l3.length : Int))) + 1))) t296 (t296.length : Int) (wrap64 (x89_3 + 1))) else (none)) = some r := by rw [if_neg (show ¬ (false = true) by decide)] at H; exact H
                                clear H
                                have H := H1
                                clear H1
                                by_cases c47 : (rd t296 x89_3) = 255
                                · rw [if_pos c47] at H
                                  have c47b0 : ((rd t296 x89_3) == 255) = true := beq_iff_eq.mpr c47
                                  have c47b1 : ((rd t296 x89_3) != 255) = false := bne_eq_false_iff_eq.mpr c47
                                  clear c47
                                  have H' := Aside0.mk H
                                  clear H
                                  go_wp2
                                  go_roundg kj39
                                  case measure => have := HJ6.out; have := HJ22.out; have := HK3.out; have := HJ39.out; omega
                                  case rel => exact ⟨(wrap64 (x89_3 + 1)), (by first | rfl | (simp; done) | (simp [*]; done) | (simp [*, Int.tdiv_eq_ediv_of_nonneg]; done)), H', ⟨by have := HJ6.out; have := HJ22.out; have := HK3.out; have := HJ39.out; omega⟩, ⟨by (with_reducible repeat (first | apply Kd.V_alloc | apply Kd.V_drewN | apply Kd.V_drew)); exact HO_87.out⟩, ⟨by (with_reducible repeat (first | apply Kd.V_alloc | apply Kd.V_drewN | apply Kd.V_drew)); exact HO_295001.out⟩, ⟨by (with_reducible repeat (first | apply Kd.V_alloc | apply Kd.V_drewN | apply Kd.V_drew)); exact HO_301001.out⟩, ⟨by (with_reducible repeat (first | refine blk_drewN ?_ _ | refine blk_drew ?_ | refine blk_alloc ?_ _)); exact BK294.out⟩, ⟨by (with_reducible repeat (first | refine blk_drewN ?_ _ | refine blk_drew ?_ | refine blk_alloc ?_ _)); exact BK300.out⟩, ⟨by repeat (first | (with_reducible first | exact HB.out | apply below_alloc | apply pw_below_drewN | apply below_drew1 | refine below_set ?_ GE294.out | refine below_set ?_ GE300.out) | exact HB.out)⟩⟩
                                · rw [if_neg c47] at H
                                  exact absurd H (by simp)
                        · rw [if_neg c39] at H
                          exact absurd H (by simp)
                      · rw [if_neg c38] at H
                        exact absurd H (by simp)
                    · rw [if_neg c37] at H
                      have c37b0 : decide (x89_3 < (t296.length : Int)) = false := decide_eq_false c37
                      clear c37
                      obtain rfl := Option.some.inj H
                      go_wp2
                      go_ret
                      exact ⟨by first | rfl | (simp [errW_none, errW_some] <;> rfl) | (simp [*, errW_none, errW_some] <;> rfl) | (rw [Int.tmod_eq_emod_of_nonneg (Int.natCast_nonneg _)]; rfl), by repeat (first | (with_reducible first | exact HB.out | apply below_alloc | apply pw_below_drewN | apply below_drew1 | refine below_set ?_ GE294.out | refine below_set ?_ GE300.out) | exact HB.out)⟩

/-- THE ONE PURE STATEMENT of chargeparklaw17_FlashErased: yours. -/
def chargeparklaw17_FlashErased.Pure : Prop := ∀ (a0 : Int) (a1 : Int) (a2 : Int) (l3 : List Int), (Lit.int .u8 a0).wf = true → (Lit.int .u8 a1).wf = true → (Lit.int .u16 a2).wf = true → l3.length ≤ maxLen → l3.length * 1 ≤ 140737488351232 → (∀ x ∈ l3, (Lit.int .u8 x).wf = true) → ∃ k, chargeparklaw17_FlashErased.f k a0 a1 a2 l3 = some true
theorem chargeparklaw17_FlashErased.walk (P : chargeparklaw17_FlashErased.Pure) (a0 : Int) (a1 : Int) (a2 : Int) (a3 : Option Addr) (len3 cap3 : Nat) (z3 : List Int) (w : World) (w0 : (Lit.int .u8 a0).wf = true) (w1 : (Lit.int .u8 a1).wf = true) (w2 : (Lit.int .u16 a2).wf = true) (w3 : (a3 = none ∧ len3 = 0 ∧ cap3 = 0 ∧ z3 = []) ∨ ∃ x, a3 = some x ∧ len3 ≤ cap3 ∧ cap3 ≤ maxLen ∧ z3.length = cap3 ∧ (∀ i, i < z3.length → w.cell? (x.add i) = some (.int .u8 (z3.getD i 0))) ∧ ∀ n ∈ z3, (Lit.int .u8 n).wf = true) (y3 : len3 * 1 ≤ 140737488351232) :
    Calls Try.prog 5 #[.int .u8 a0, .int .u8 a1, .int .u16 a2, .slice a3 len3 cap3] w fun e w' => e = .returned (.bool true) ∧ Below w.heap.size w w' := by
  obtain ⟨l3, rfl, hr3, hm3, hw3, hc3⟩ := ReadsInt.ofRowC w3
  obtain ⟨k, h⟩ := P a0 a1 a2 l3 w0 w1 w2 hm3 y3 hw3
  refine (chargeparklaw17_FlashErased.calls k a0 a1 a2 _ _ l3 true w (Kd.C_of_reads (d := (0 : Int)) (h1 := fun _ => rfl) hr3) hc3 h).mono ?_
  rintro e w' ⟨rfl, hd⟩
  exact ⟨rfl, hd⟩


end Go.Proofs.Ytdblbilgnfomaaa.PAll
