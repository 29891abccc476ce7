-- Written by a program of this session (xprint.py, over the kit's print.py), with contracts proved by hand.
import Derived.Test.YtdblbilgnfomaaaPAllx0
import Derived.Test.YtdblbilgnfomaaaPAllx3
import Derived.Test.YtdblbilgnfomaaaPAllx4
namespace Go.Proofs.Ytdblbilgnfomaaa.PAll
open Go.RowKit Go.Proofs.Ytdblbilgnfomaaa.Open Go.Proofs.YtdblbilgnfomaaaW.PrintWords Go.Proofs.YtdblbilgnfomaaaW.PrintLast Go.Proofs.YtdblbilgnfomaaaW.PrintMore
attribute [local go_sem] max2_int min2_int max_two min_two max_three min_three max_four min_four   -- for this text's walks alone
set_option linter.unusedVariables false
set_option linter.unusedSimpArgs false

/-! ### chargeparklaw17_FlashErasing: function 8 -/
mutual
def chargeparklaw17_FlashErasing.j0 : Nat → Int → Int → Bool → List (S24) → Bool → Int → List Int → Int → List Int → Option (Bool)
  | 0, _, _, _, _, _, _, _, _, _ => none
  | k + 1, x1, x2, x7, x8, x61, x380000, x380001, x391000, x391001 => if x61 = true then (none) else (chargeparklaw17_FlashErasing.l0 k x1 x2 x7 x8 x391001 (x391001.length : Int) 0 x380000 x380001 x391000 x391001)
def chargeparklaw17_FlashErasing.l0 : Nat → Int → Int → Bool → List (S24) → List Int → Int → Int → Int → List Int → Int → List Int → Option (Bool)
  | 0, _, _, _, _, _, _, _, _, _, _, _ => none
  | k + 1, x1, x2, x7, x8, x63, x64, x65, x380000, x380001, x391000, x391001 => if x65 < x64 then (if 0 ≤ x65 then (if x65 < (x63.length : Int) then (if x380000 = 0 then (none) else (if (wrap64 (Int.tdiv x65 x380000)) = x1 then (if (rd x63 x65) = 255 then (chargeparklaw17_FlashErasing.l0 k x1 x2 x7 x8 x63 x64 (wrap64 (x65 + 1)) x380000 x380001 x391000 x391001) else (none)) else (if x65 < (x380001.length : Int) then (if (rd x63 x65) = (rd x380001 x65) then (chargeparklaw17_FlashErasing.l0 k x1 x2 x7 x8 x63 x64 (wrap64 (x65 + 1)) x380000 x380001 x391000 x391001) else (none)) else (none)))) else (none)) else (none)) else (if (x8.length : Int) = 0 then (none) else (if 0 ≤ (Int.tmod (wrap64 (x2)) (x8.length : Int)) then (if (Int.tmod (wrap64 (x2)) (x8.length : Int)) < (x8.length : Int) then ((flash_Erase.f ((rd_T24 x8 (Int.tmod (wrap64 (x2)) (x8.length : Int))).f0) ((rd_T24 x8 (Int.tmod (wrap64 (x2)) (x8.length : Int))).f1) x1).bind fun bt394 => ((chargeparklaw17_last.f bt394.1 bt394.2 (wrap64 (x380000 + 1))).bind fun bt398 => (if x7 = true then (if bt398.2.2 = true then ((chargeparkref17_Same.f k bt398.1 bt398.2.1 x391000 x391001).bind fun t404 => (some t404)) else (none)) else (none)))) else (none)) else (none)))
end
def chargeparklaw17_FlashErasing.f (k : Nat) (a0_0 : Int) (l0_1 : List Int) (a1 : Int) (a2 : Int) : Option (Bool) := (chargeparklaw17_head.f k).bind fun t380 => (if (l0_1.length : Int) > 300 then (some t380) else ((flash_Erase.f a0_0 l0_1 a1).bind fun bt381 => (if bt381.2 = 0 then ((chargeparklaw17_last.f bt381.1 bt381.2 (wrap64 (a0_0 + 1))).bind fun bt385 => (if bt385.2.2 = true then (if (bt385.2.1.length : Int) = (l0_1.length : Int) then (chargeparklaw17_FlashErasing.j0 k a1 a2 t380 bt381.1 (decide (a1 < 0)) a0_0 l0_1 bt385.1 bt385.2.1) else (chargeparklaw17_FlashErasing.j0 k a1 a2 t380 bt381.1 true a0_0 l0_1 bt385.1 bt385.2.1)) else (chargeparklaw17_FlashErasing.j0 k a1 a2 t380 bt381.1 true a0_0 l0_1 bt385.1 bt385.2.1))) else (if t380 = true then (some ((bt381.1.length : Int) == 0)) else (none)))))
theorem chargeparklaw17_FlashErasing.mono_l : ∀ k, (∀ y0 y1 y2 y3 y4 y5 y6 y7 y8, LeO (chargeparklaw17_FlashErasing.j0 k y0 y1 y2 y3 y4 y5 y6 y7 y8) (chargeparklaw17_FlashErasing.j0 (k + 1) y0 y1 y2 y3 y4 y5 y6 y7 y8)) ∧ (∀ y0 y1 y2 y3 y4 y5 y6 y7 y8 y9 y10, LeO (chargeparklaw17_FlashErasing.l0 k y0 y1 y2 y3 y4 y5 y6 y7 y8 y9 y10) (chargeparklaw17_FlashErasing.l0 (k + 1) y0 y1 y2 y3 y4 y5 y6 y7 y8 y9 y10))
  | 0 => ⟨fun _ _ _ _ _ _ _ _ _ r h => by simp [chargeparklaw17_FlashErasing.j0] at h, fun _ _ _ _ _ _ _ _ _ _ _ r h => by simp [chargeparklaw17_FlashErasing.l0] at h⟩
  | k + 1 => by
    obtain ⟨ih0, ih1⟩ := chargeparklaw17_FlashErasing.mono_l k
    refine ⟨?_, ?_⟩
    · intro y0 y1 y2 y3 y4 y5 y6 y7 y8
      unfold chargeparklaw17_FlashErasing.j0
      repeat' first
      | (with_reducible exact ih0 _ _ _ _ _ _ _ _ _)
      | (with_reducible exact ih1 _ _ _ _ _ _ _ _ _ _ _)
      | (with_reducible exact chargeparklaw17_head.mono _)
      | (with_reducible exact chargeparkref17_Same.mono _ _ _ _ _)
      | (with_reducible exact LeO.refl _)
      | (with_reducible exact LeO.none _)
      | (with_reducible refine LeO.ite ?_ ?_)
      | (with_reducible refine LeO.bind ?_ (fun _ => ?_))
      | exact ih0 _ _ _ _ _ _ _ _ _
      | exact ih1 _ _ _ _ _ _ _ _ _ _ _
      | exact chargeparklaw17_head.mono _
      | exact chargeparkref17_Same.mono _ _ _ _ _
      | exact LeO.none _
      | refine LeO.ite ?_ ?_
      | refine LeO.bind ?_ (fun _ => ?_)
    · intro y0 y1 y2 y3 y4 y5 y6 y7 y8 y9 y10
      unfold chargeparklaw17_FlashErasing.l0
      repeat' first
      | (with_reducible exact ih0 _ _ _ _ _ _ _ _ _)
      | (with_reducible exact ih1 _ _ _ _ _ _ _ _ _ _ _)
      | (with_reducible exact chargeparklaw17_head.mono _)
      | (with_reducible exact chargeparkref17_Same.mono _ _ _ _ _)
      | (with_reducible exact LeO.refl _)
      | (with_reducible exact LeO.none _)
      | (with_reducible refine LeO.ite ?_ ?_)
      | (with_reducible refine LeO.bind ?_ (fun _ => ?_))
      | exact ih0 _ _ _ _ _ _ _ _ _
      | exact ih1 _ _ _ _ _ _ _ _ _ _ _
      | exact chargeparklaw17_head.mono _
      | exact chargeparkref17_Same.mono _ _ _ _ _
      | exact LeO.none _
      | refine LeO.ite ?_ ?_
      | refine LeO.bind ?_ (fun _ => ?_)
theorem chargeparklaw17_FlashErasing.mono : ∀ a0 a1 a2 a3 k, LeO (chargeparklaw17_FlashErasing.f k a0 a1 a2 a3) (chargeparklaw17_FlashErasing.f (k + 1) a0 a1 a2 a3) := by
  intro a0 a1 a2 a3 k
  obtain ⟨ih0, ih1⟩ := chargeparklaw17_FlashErasing.mono_l k
  unfold chargeparklaw17_FlashErasing.f
  repeat' first
      | (with_reducible exact ih0 _ _ _ _ _ _ _ _ _)
      | (with_reducible exact ih1 _ _ _ _ _ _ _ _ _ _ _)
      | (with_reducible exact chargeparklaw17_head.mono _)
      | (with_reducible exact chargeparkref17_Same.mono _ _ _ _ _)
      | (with_reducible exact LeO.refl _)
      | (with_reducible exact LeO.none _)
      | (with_reducible refine LeO.ite ?_ ?_)
      | (with_reducible refine LeO.bind ?_ (fun _ => ?_))
      | exact ih0 _ _ _ _ _ _ _ _ _
      | exact ih1 _ _ _ _ _ _ _ _ _ _ _
      | exact chargeparklaw17_head.mono _
      | exact chargeparkref17_Same.mono _ _ _ _ _
      | exact LeO.none _
      | refine LeO.ite ?_ ?_
      | refine LeO.bind ?_ (fun _ => ?_)
set_option maxHeartbeats 8000000 in
set_option maxRecDepth 100000 in
theorem chargeparklaw17_FlashErasing.calls (k : Nat) (a0_0 : Int) (A0_1 : Option Addr) (c0_1 : Nat) (l0_1 : List Int) (a1 : Int) (a2 : Int) (r : Bool) (w : World) (hr0_1 : Kd.C (Kd.int .u8) w A0_1 l0_1.length l0_1) (hc0_1 : l0_1.length ≤ c0_1) (h : chargeparklaw17_FlashErasing.f k a0_0 l0_1 a1 a2 = some r) :
    Calls Try.prog 8 #[.agg #[.int .i64 a0_0, .slice A0_1 l0_1.length c0_1], .int .i64 a1, .int .u16 a2] w fun e w' => e = .returned (.bool r) ∧ Below w.heap.size w w' := by
  have hu24 := Try.underlying24
  have HR0_1 := Aside0.mk hr0_1
  have HC0_1 := Aside0.mk hc0_1
  clear hr0_1 hc0_1
  have HB := Aside0.mk (Below.refl w.heap.size w)
  have H : ((chargeparklaw17_head.f k).bind fun t380 => (if (l0_1.length : Int) > 300 then (some t380) else ((flash_Erase.f a0_0 l0_1 a1).bind fun bt381 => (if bt381.2 = 0 then ((chargeparklaw17_last.f bt381.1 bt381.2 (wrap64 (a0_0 + 1))).bind fun bt385 => (if bt385.2.2 = true then (if (bt385.2.1.length : Int) = (l0_1.length : Int) then (chargeparklaw17_FlashErasing.j0 k a1 a2 t380 bt381.1 (decide (a1 < 0)) a0_0 l0_1 bt385.1 bt385.2.1) else (chargeparklaw17_FlashErasing.j0 k a1 a2 t380 bt381.1 true a0_0 l0_1 bt385.1 bt385.2.1)) else (chargeparklaw17_FlashErasing.j0 k a1 a2 t380 bt381.1 true a0_0 l0_1 bt385.1 bt385.2.1))) else (if t380 = true then (some ((bt381.1.length : Int) == 0)) else (none)))))) = some r := h
  clear h
  replace H := Option.bind_eq_some_iff.mp H
  obtain ⟨t380, A40, H⟩ := H
  replace H : (if (l0_1.length : Int) > 300 then (some t380) else ((flash_Erase.f a0_0 l0_1 a1).bind fun bt381 => (if bt381.2 = 0 then ((chargeparklaw17_last.f bt381.1 bt381.2 (wrap64 (a0_0 + 1))).bind fun bt385 => (if bt385.2.2 = true then (if (bt385.2.1.length : Int) = (l0_1.length : Int) then (chargeparklaw17_FlashErasing.j0 k a1 a2 t380 bt381.1 (decide (a1 < 0)) a0_0 l0_1 bt385.1 bt385.2.1) else (chargeparklaw17_FlashErasing.j0 k a1 a2 t380 bt381.1 true a0_0 l0_1 bt385.1 bt385.2.1)) else (chargeparklaw17_FlashErasing.j0 k a1 a2 t380 bt381.1 true a0_0 l0_1 bt385.1 bt385.2.1))) else (if t380 = true then (some ((bt381.1.length : Int) == 0)) else (none))))) = some r := H
  have A4 := Aside0.mk A40
  clear A40
  by_cases c5 : (l0_1.length : Int) > 300
  · rw [if_pos c5] at H
    have c5b0 : decide (300 < (l0_1.length : Int)) = true := decide_eq_true c5
    have c5b1 : decide (300 < l0_1.length) = true := decide_eq_true (by omega)
    clear c5
    obtain rfl := Option.some.inj H
    go_enter Try.func8, Try.ntmps8
    go_wp2_with (first | ((with_reducible refine gate_dst (N := 3) rfl ?_); (try (refine gate_guard (by rfl) ?_; dsimp only)); refine box_event ?hg (N := 3) ?hd (cs := #[.int .i64 a0_0, .slice A0_1 l0_1.length c0_1]) (t := 24) ?hr ?_; (case hd => rfl); (case hg => rfl); (case hr => first | (go_simp; done) | (go_simp; rfl)); intro gb379 hg w6 hbox hb; have n0_ := Aside0.mk (below_step (by repeat (first | (with_reducible first | exact HB.out | apply below_alloc | apply pw_below_drewN | apply below_drew1) | exact HB.out)) hb); have n1_ := Aside0.mk (hbox); have n2_ := Aside0.mk ((by rw [hg]; exact (below_size (by repeat (first | (with_reducible first | exact HB.out | apply below_alloc | apply pw_below_drewN | apply below_drew1) | exact HB.out))) : w.heap.size ≤ gb379)); have n3_ := Aside0.mk ((by rw [hg]; exact (below_size (by repeat (first | (with_reducible first | exact HB.out | apply below_alloc | apply pw_below_drewN | apply below_drew1) | exact HB.out))) : w.heap.size ≤ gb379)); clear HB; have HB := n0_; have BK379 := n1_; have GW379 := n2_; have GE379 := n3_; clear n0_ n1_ n2_ n3_; clear hb hbox hg) | ((with_reducible refine gate_callee (f := 10) rfl ?_); refine goesL_ (some 18) rfl rfl Try.func10 (by kernel_rfl) rfl #[] rfl (by (try simp only [List.map_toArray, List.map_cons, List.map_nil]); first | done | rfl | (simp only [List.length_drop, List.length_take]; rfl)) ?_; (with_reducible refine (chargeparklaw17_head.calls k  t380 _ A4.out).mono ?_); rintro e w7 ⟨rfl, hb⟩; refine ⟨_, rfl, ?_⟩; have n0_ := Aside0.mk (blk_below (g := gb379) (o := .cells #[.int .i64 a0_0, .slice A0_1 l0_1.length c0_1] 24 (0, 0)) (by (with_reducible repeat (first | refine blk_drewN ?_ _ | refine blk_drew ?_ | refine blk_alloc ?_ _)); exact BK379.out) hb); have n1_ := Aside0.mk (below_step (by repeat (first | (with_reducible first | exact HB.out | apply below_alloc | apply pw_below_drewN | apply below_drew1 | refine below_set ?_ GE379.out) | exact HB.out)) hb); clear BK379; clear HB; have BK379 := n0_; have HB := n1_; clear n0_ n1_; (try clear hb); (try clear hb2); (try clear hk); (try clear hi); have hcz8_0 : w7.cell? ⟨gb379, 0, none⟩ = some (.int .i64 a0_0) := (blk_cell BK379.out 0).trans rfl; have hcz8_1 : w7.cell? ⟨gb379, 1, none⟩ = some (.slice A0_1 l0_1.length c0_1) := (blk_cell BK379.out 1).trans rfl; have hfz8_0 := blk_frozen BK379.out 0; have hfz8_1 := blk_frozen BK379.out 1))
    go_ret
    exact ⟨by first | rfl | (simp [errW_none, errW_some] <;> rfl) | (simp [*, errW_none, errW_some] <;> rfl) | (rw [Int.tmod_eq_emod_of_nonneg (Int.natCast_nonneg _)]; rfl), by repeat (first | (with_reducible first | exact HB.out | apply below_alloc | apply pw_below_drewN | apply below_drew1 | refine below_set ?_ GE379.out) | exact HB.out)⟩
  · rw [if_neg c5] at H
    have c5b0 : decide (300 < (l0_1.length : Int)) = false := decide_eq_false c5
    have c5b1 : decide (300 < l0_1.length) = false := decide_eq_false (by omega)
    clear c5
    replace H := Option.bind_eq_some_iff.mp H
    obtain ⟨⟨t381, t384⟩, A90, H⟩ := H
    replace H : (if t384 = 0 then ((chargeparklaw17_last.f t381 t384 (wrap64 (a0_0 + 1))).bind fun bt385 => (if bt385.2.2 = true then (if (bt385.2.1.length : Int) = (l0_1.length : Int) then (chargeparklaw17_FlashErasing.j0 k a1 a2 t380 t381 (decide (a1 < 0)) a0_0 l0_1 bt385.1 bt385.2.1) else (chargeparklaw17_FlashErasing.j0 k a1 a2 t380 t381 true a0_0 l0_1 bt385.1 bt385.2.1)) else (chargeparklaw17_FlashErasing.j0 k a1 a2 t380 t381 true a0_0 l0_1 bt385.1 bt385.2.1))) else (if t380 = true then (some ((t381.length : Int) == 0)) else (none))) = some r := H
    have A9 := Aside0.mk A90
    clear A90
    by_cases c10 : t384 = 0
    · rw [if_pos c10] at H
      have c10b0 : (t384 == 0) = true := beq_iff_eq.mpr c10
      have c10b1 : (t384 != 0) = false := bne_eq_false_iff_eq.mpr c10
      clear c10
      replace H := Option.bind_eq_some_iff.mp H
      obtain ⟨⟨t385, t386, t389⟩, A110, H⟩ := H
      replace H : (if t389 = true then (if (t386.length : Int) = (l0_1.length : Int) then (chargeparklaw17_FlashErasing.j0 k a1 a2 t380 t381 (decide (a1 < 0)) a0_0 l0_1 t385 t386) else (chargeparklaw17_FlashErasing.j0 k a1 a2 t380 t381 true a0_0 l0_1 t385 t386)) else (chargeparklaw17_FlashErasing.j0 k a1 a2 t380 t381 true a0_0 l0_1 t385 t386)) = some r := H
      have A11 := Aside0.mk A110
      clear A110
      have HC12 := Aside0.mk H
      clear H
      go_enter Try.func8, Try.ntmps8
      go_upto_region 8 with (first | ((with_reducible refine gate_dst (N := 3) rfl ?_); (try (refine gate_guard (by rfl) ?_; dsimp only)); refine box_event ?hg (N := 3) ?hd (cs := #[.int .i64 a0_0, .slice A0_1 l0_1.length c0_1]) (t := 24) ?hr ?_; (case hd => rfl); (case hg => rfl); (case hr => first | (go_simp; done) | (go_simp; rfl)); intro gb379 hg w13 hbox hb; have n0_ := Aside0.mk (below_step (by repeat (first | (with_reducible first | exact HB.out | apply below_alloc | apply pw_below_drewN | apply below_drew1) | exact HB.out)) hb); have n1_ := Aside0.mk (hbox); have n2_ := Aside0.mk ((by rw [hg]; exact (below_size (by repeat (first | (with_reducible first | exact HB.out | apply below_alloc | apply pw_below_drewN | apply below_drew1) | exact HB.out))) : w.heap.size ≤ gb379)); have n3_ := Aside0.mk ((by rw [hg]; exact (below_size (by repeat (first | (with_reducible first | exact HB.out | apply below_alloc | apply pw_below_drewN | apply below_drew1) | exact HB.out))) : w.heap.size ≤ gb379)); clear HB; have HB := n0_; have BK379 := n1_; have GW379 := n2_; have GE379 := n3_; clear n0_ n1_ n2_ n3_; clear hb hbox hg) | ((with_reducible refine gate_callee (f := 10) rfl ?_); refine goesL_ (some 18) rfl rfl Try.func10 (by kernel_rfl) rfl #[] rfl (by (try simp only [List.map_toArray, List.map_cons, List.map_nil]); first | done | rfl | (simp only [List.length_drop, List.length_take]; rfl)) ?_; (with_reducible refine (chargeparklaw17_head.calls k  t380 _ A4.out).mono ?_); rintro e w14 ⟨rfl, hb⟩; refine ⟨_, rfl, ?_⟩; have n0_ := Aside0.mk (blk_below (g := gb379) (o := .cells #[.int .i64 a0_0, .slice A0_1 l0_1.length c0_1] 24 (0, 0)) (by (with_reducible repeat (first | refine blk_drewN ?_ _ | refine blk_drew ?_ | refine blk_alloc ?_ _)); exact BK379.out) hb); have n1_ := Aside0.mk (below_step (by repeat (first | (with_reducible first | exact HB.out | apply below_alloc | apply pw_below_drewN | apply below_drew1 | refine below_set ?_ GE379.out) | exact HB.out)) hb); clear BK379; clear HB; have BK379 := n0_; have HB := n1_; clear n0_ n1_; (try clear hb); (try clear hb2); (try clear hk); (try clear hi); have hcz15_0 : w14.cell? ⟨gb379, 0, none⟩ = some (.int .i64 a0_0) := (blk_cell BK379.out 0).trans rfl; have hcz15_1 : w14.cell? ⟨gb379, 1, none⟩ = some (.slice A0_1 l0_1.length c0_1) := (blk_cell BK379.out 1).trans rfl; have hfz15_0 := blk_frozen BK379.out 0; have hfz15_1 := blk_frozen BK379.out 1) | ((with_reducible refine gate_callee (f := 16) rfl ?_); refine goesL_ (some 27) rfl rfl Try.func16 (by kernel_rfl) rfl #[.agg #[.int .i64 a0_0, .slice A0_1 l0_1.length c0_1], .int .i64 a1] rfl (by (try simp only [List.map_toArray, List.map_cons, List.map_nil]); first | done | rfl | (simp only [List.length_drop, List.length_take]; rfl)) ?_; (with_reducible refine (flash_Erase.calls a0_0 _ _ l0_1 a1 t381 t384 _ ?side1 ?side2 A9.out).mono ?_); (case side1 => repeat (first | exact (Kd.C_below HR0_1.out HB.out) | (with_reducible refine Kd.C_alloc ?_ _) | (with_reducible refine Kd.C_drewN ?_ _) | (with_reducible refine Kd.C_drew ?_))); (case side2 => exact HC0_1.out); rintro e w16 ⟨v382, rfl, ho0, hb⟩; refine ⟨_, rfl, ?_⟩; have n0_ := Aside0.mk (Kd.N_lower (Kd.N_mono (ok' := fun k_ => k_ ≠ gb379) ho0 (fun k_ hk_ => (Kd.freshB (g := gb379) (o := .cells #[.int .i64 a0_0, .slice A0_1 l0_1.length c0_1] 24 (0, 0)) (by (with_reducible repeat (first | refine blk_drewN ?_ _ | refine blk_drew ?_ | refine blk_alloc ?_ _)); exact BK379.out) k_ hk_))) (below_size (by repeat (first | (with_reducible first | exact HB.out | apply below_alloc | apply pw_below_drewN | apply below_drew1 | refine below_set ?_ GE379.out) | exact HB.out)))); have n1_ := Aside0.mk (blk_below (g := gb379) (o := .cells #[.int .i64 a0_0, .slice A0_1 l0_1.length c0_1] 24 (0, 0)) (by (with_reducible repeat (first | refine blk_drewN ?_ _ | refine blk_drew ?_ | refine blk_alloc ?_ _)); exact BK379.out) hb); have n2_ := Aside0.mk (below_step (by repeat (first | (with_reducible first | exact HB.out | apply below_alloc | apply pw_below_drewN | apply below_drew1 | refine below_set ?_ GE379.out) | exact HB.out)) hb); clear BK379; clear HB; have HO383 := n0_; have BK379 := n1_; have HB := n2_; clear n0_ n1_ n2_; (try clear hb); (try clear hb2); (try clear hk); (try clear hi); (try clear ho0); have hcz17_0 : w16.cell? ⟨gb379, 0, none⟩ = some (.int .i64 a0_0) := (blk_cell BK379.out 0).trans rfl; have hcz17_1 : w16.cell? ⟨gb379, 1, none⟩ = some (.slice A0_1 l0_1.length c0_1) := (blk_cell BK379.out 1).trans rfl; have hfz17_0 := blk_frozen BK379.out 0; have hfz17_1 := blk_frozen BK379.out 1; obtain ⟨Ao18, co18, eo18⟩ := Kd.N_slice HO383.out; subst eo18) | ((with_reducible refine gate_callee (f := 23) rfl ?_); refine goesL_ (some 44) rfl rfl Try.func23 (by kernel_rfl) rfl #[.slice Ao18 t381.length co18, .int .i64 t384, .int .i64 (wrap64 (a0_0 + 1))] rfl (by (try simp only [List.map_toArray, List.map_cons, List.map_nil]); first | done | rfl | (simp only [List.length_drop, List.length_take]; rfl)) ?_; (with_reducible refine (chargeparklaw17_last.calls (fun k_ => k_ ≠ gb379) _ _ t381 t384 (wrap64 (a0_0 + 1)) t385 t386 t389 _ ?side1 A11.out).mono ?_); (case side1 => exact Kd.N_V (HO383.out)); rintro e w19 ⟨v387, rfl, ho0, hb⟩; refine ⟨_, rfl, ?_⟩; have n0_ := Aside0.mk (Kd.N_below (by (with_reducible repeat (first | apply Kd.N_alloc | apply Kd.N_drewN | apply Kd.N_drew)); exact HO383.out) hb); have n1_ := Aside0.mk (Kd.V_lower (Kd.V_mono (ok' := fun k_ => k_ ≠ gb379) ho0 (fun k_ hk_ => Or.elim hk_ (fun hs_ => hs_) (fun hn_ => (Kd.freshB (g := gb379) (o := .cells #[.int .i64 a0_0, .slice A0_1 l0_1.length c0_1] 24 (0, 0)) (by (with_reducible repeat (first | refine blk_drewN ?_ _ | refine blk_drew ?_ | refine blk_alloc ?_ _)); exact BK379.out) k_ hn_)))) (below_size (by repeat (first | (with_reducible first | exact HB.out | apply below_alloc | apply pw_below_drewN | apply below_drew1 | refine below_set ?_ GE379.out) | exact HB.out)))); have n2_ := Aside0.mk (blk_below (g := gb379) (o := .cells #[.int .i64 a0_0, .slice A0_1 l0_1.length c0_1] 24 (0, 0)) (by (with_reducible repeat (first | refine blk_drewN ?_ _ | refine blk_drew ?_ | refine blk_alloc ?_ _)); exact BK379.out) hb); have n3_ := Aside0.mk (below_step (by repeat (first | (with_reducible first | exact HB.out | apply below_alloc | apply pw_below_drewN | apply below_drew1 | refine below_set ?_ GE379.out) | exact HB.out)) hb); clear HO383; clear BK379; clear HB; have HO383 := n0_; have HO388 := n1_; have BK379 := n2_; have HB := n3_; clear n0_ n1_ n2_ n3_; (try clear hb); (try clear hb2); (try clear hk); (try clear hi); (try clear ho0)) | ((with_reducible refine gate_dst (N := 10) rfl ?_); (try (refine gate_guard (by rfl) ?_; dsimp only)); refine box_event ?hg (N := 10) ?hd (cs := #[.int .i64 0, .slice none 0 0]) (t := 24) ?hr ?_; (case hd => rfl); (case hg => rfl); (case hr => first | (go_simp; done) | (go_simp; rfl)); intro gb390 hg w20 hbox hb; have n0_ := Aside0.mk (Kd.N_below (Kd.N_elderB (by (with_reducible repeat (first | apply Kd.N_alloc | apply Kd.N_drewN | apply Kd.N_drew)); exact HO383.out) gb390 (Nat.le_of_eq hg.symm)) hb); have n1_ := Aside0.mk (Kd.V_below (Kd.V_elderB (by (with_reducible repeat (first | apply Kd.V_alloc | apply Kd.V_drewN | apply Kd.V_drew)); exact HO388.out) gb390 (Nat.le_of_eq hg.symm)) hb); have n2_ := Aside0.mk (blk_below (g := gb379) (o := .cells #[.int .i64 a0_0, .slice A0_1 l0_1.length c0_1] 24 (0, 0)) (by (with_reducible repeat (first | refine blk_drewN ?_ _ | refine blk_drew ?_ | refine blk_alloc ?_ _)); exact BK379.out) hb); have n3_ := Aside0.mk (below_step (by repeat (first | (with_reducible first | exact HB.out | apply below_alloc | apply pw_below_drewN | apply below_drew1 | refine below_set ?_ GE379.out) | exact HB.out)) hb); have n4_ := Aside0.mk (hbox); have n5_ := Aside0.mk ((by rw [hg]; exact (below_size (by repeat (first | (with_reducible first | exact HB.out | apply below_alloc | apply pw_below_drewN | apply below_drew1 | refine below_set ?_ GE379.out) | exact HB.out))) : w.heap.size ≤ gb390)); have n6_ := Aside0.mk ((by rw [hg]; exact (below_size (by repeat (first | (with_reducible first | exact HB.out | apply below_alloc | apply pw_below_drewN | apply below_drew1 | refine below_set ?_ GE379.out) | exact HB.out))) : w.heap.size ≤ gb390)); have n7_ := Aside0.mk ((by rw [hg]; exact Nat.ne_of_lt (blk_lt (g := gb379) (o := .cells #[.int .i64 a0_0, .slice A0_1 l0_1.length c0_1] 24 (0, 0)) (by (with_reducible repeat (first | refine blk_drewN ?_ _ | refine blk_drew ?_ | refine blk_alloc ?_ _)); exact BK379.out)) : gb379 ≠ gb390)); have n8_ := Aside0.mk ((by rw [hg]; exact Nat.ne_of_gt (blk_lt (g := gb379) (o := .cells #[.int .i64 a0_0, .slice A0_1 l0_1.length c0_1] 24 (0, 0)) (by (with_reducible repeat (first | refine blk_drewN ?_ _ | refine blk_drew ?_ | refine blk_alloc ?_ _)); exact BK379.out)) : gb390 ≠ gb379)); clear HO383; clear HO388; clear BK379; clear HB; have HO383 := n0_; have HO388 := n1_; have BK379 := n2_; have HB := n3_; have BK390 := n4_; have GW390 := n5_; have GE390 := n6_; have NB379_390 := n7_; have NB390_379 := n8_; clear n0_ n1_ n2_ n3_ n4_ n5_ n6_ n7_ n8_; clear hb hbox hg; have hnb21 := NB390_379.out; have hnc21 := NB379_390.out; have hcz22_0 : w20.cell? ⟨gb390, 0, none⟩ = some (.int .i64 0) := (blk_cell BK390.out 0).trans rfl; have hcz22_1 : w20.cell? ⟨gb390, 1, none⟩ = some (.slice none 0 0) := (blk_cell BK390.out 1).trans rfl; have hfz22_0 := blk_frozen BK390.out 0; have hfz22_1 := blk_frozen BK390.out 1; obtain ⟨Ao23, co23, eo23⟩ := Kd.V_slice HO388.out; subst eo23))
      (try simp only [Act.put, List.setIfInBounds_toArray, List.set_cons_zero, List.set_cons_succ])
      go_cut [61] (fun v61 wc => ∃ (kq : Nat) (x61_11 : Bool), v61 = .bool x61_11 ∧ Aside0 (chargeparklaw17_FlashErasing.j0 kq a1 a2 t380 t381 x61_11 a0_0 l0_1 t385 t386 = some r) ∧ Aside0 (kq ≤ k) ∧ Aside0 (Kd.N k24 24 wc w.heap.size (fun k_ => k_ ≠ gb379 ∧ k_ ≠ gb390) (.slice Ao18 t381.length co18) t381) ∧ Aside0 (Kd.V (Kd.int .u8) 5 wc w.heap.size (fun k_ => k_ ≠ gb379 ∧ k_ ≠ gb390) (.slice Ao23 t386.length co23) t386) ∧ Aside0 (wc.heap[gb379]? = some (.cells #[.int .i64 a0_0, (.slice A0_1 l0_1.length c0_1)] 24 (0, 0))) ∧ Aside0 (wc.heap[gb390]? = some (.cells #[.int .i64 t385, (.slice Ao23 t386.length co23)] 24 (0, 0))) ∧ Aside0 (Below w.heap.size w wc))
      case first =>
        have H := HC12.out
        clear HC12
        by_cases c24 : t389 = true
        · subst c24
          have H1 : (if (t386.length : Int) = (l0_1.length : Int) then (chargeparklaw17_FlashErasing.j0 k a1 a2 t380 t381 (decide (a1 < 0)) a0_0 l0_1 t385 t386) else (chargeparklaw17_FlashErasing.j0 k a1 a2 t380 t381 true a0_0 l0_1 t385 t386)) = some r := by rw [if_pos rfl] at H; exact H
          clear H
          have H := H1
          clear H1
          by_cases c25 : (t386.length : Int) = (l0_1.length : Int)
          · rw [if_pos c25] at H
            have c25b0 : ((t386.length : Int) == (l0_1.length : Int)) = true := beq_iff_eq.mpr c25
            have c25b1 : ((t386.length : Int) != (l0_1.length : Int)) = false := bne_eq_false_iff_eq.mpr c25
            have c25b2 : (t386.length == l0_1.length) = true := by first | simpa using c25 | (simp at c25 ⊢; omega)
            clear c25
            (first | rw [c25b0] | (simp only [i64_w, i32_w]; rw [c25b0]) | skip)
            have H' := Aside0.mk H
            clear H
            have hnb26 := NB390_379.out
            have hnc26 := NB379_390.out
            have hcz27_0 : w20.cell? ⟨gb390, 0, none⟩ = some (.int .i64 0) := (blk_cell BK390.out 0).trans rfl
            have hcz27_1 : w20.cell? ⟨gb390, 1, none⟩ = some (.slice none 0 0) := (blk_cell BK390.out 1).trans rfl
            have hfz27_0 := blk_frozen BK390.out 0
            have hfz27_1 := blk_frozen BK390.out 1
            have hcz28_0 : w20.cell? ⟨gb379, 0, none⟩ = some (.int .i64 a0_0) := (blk_cell BK379.out 0).trans rfl
            have hcz28_1 : w20.cell? ⟨gb379, 1, none⟩ = some (.slice A0_1 l0_1.length c0_1) := (blk_cell BK379.out 1).trans rfl
            have hfz28_0 := blk_frozen BK379.out 0
            have hfz28_1 := blk_frozen BK379.out 1
            go_wp2
            go_meet
            case rel => exact ⟨_, (decide (a1 < 0)), (by first | rfl | (simp; done) | (simp [*]; done) | (simp [*, Int.tdiv_eq_ediv_of_nonneg]; done)), H', ⟨by first | omega | exact Nat.le_refl _⟩, ⟨by (with_reducible repeat (first | apply Kd.N_alloc | apply Kd.N_drewN | apply Kd.N_drew)); exact Kd.N_mono (Kd.N_far (p := ⟨gb390, 1, none⟩) (Kd.N_far (p := ⟨gb390, 0, none⟩) (Kd.N_mono HO383.out (fun k_ hk => (⟨hk, hk.2⟩ : _ ∧ k_ ≠ gb390))) (fun _ hk => hk.2) (.int .i64 t385)) (fun _ hk => hk.2) (.slice Ao23 t386.length co23)) (fun _ hk => ⟨hk.1.1, hk.1.2⟩)⟩, ⟨by (with_reducible repeat (first | apply Kd.V_alloc | apply Kd.V_drewN | apply Kd.V_drew)); exact Kd.V_mono (Kd.V_far (p := ⟨gb390, 1, none⟩) (Kd.V_far (p := ⟨gb390, 0, none⟩) (Kd.V_mono HO388.out (fun k_ hk => (⟨hk, hk.2⟩ : _ ∧ k_ ≠ gb390))) (fun _ hk => hk.2) (.int .i64 t385)) (fun _ hk => hk.2) (.slice Ao23 t386.length co23)) (fun _ hk => ⟨hk.1.1, hk.1.2⟩)⟩, ⟨by (with_reducible repeat (first | refine blk_drewN ?_ _ | refine blk_drew ?_ | refine blk_alloc ?_ _)); refine blk_far ?_ NB379_390.out _; (with_reducible repeat (first | refine blk_drewN ?_ _ | refine blk_drew ?_ | refine blk_alloc ?_ _)); refine blk_far ?_ NB379_390.out _; (with_reducible repeat (first | refine blk_drewN ?_ _ | refine blk_drew ?_ | refine blk_alloc ?_ _)); exact BK379.out⟩, ⟨by (with_reducible repeat (first | refine blk_drewN ?_ _ | refine blk_drew ?_ | refine blk_alloc ?_ _)); refine blk_put (cs := #[.int .i64 t385, .slice none 0 0]) ?_ 1 _ rfl; (with_reducible repeat (first | refine blk_drewN ?_ _ | refine blk_drew ?_ | refine blk_alloc ?_ _)); refine blk_put (cs := #[.int .i64 0, .slice none 0 0]) ?_ 0 _ rfl; (with_reducible repeat (first | refine blk_drewN ?_ _ | refine blk_drew ?_ | refine blk_alloc ?_ _)); exact BK390.out⟩, ⟨by repeat (first | (with_reducible first | exact HB.out | apply below_alloc | apply pw_below_drewN | apply below_drew1 | refine below_set ?_ GE379.out | refine below_set ?_ GE390.out) | exact HB.out)⟩⟩
          · rw [if_neg c25] at H
            have c25b0 : ((t386.length : Int) == (l0_1.length : Int)) = false := beq_eq_false_iff_ne.mpr c25
            have c25b1 : ((t386.length : Int) != (l0_1.length : Int)) = true := bne_iff_ne.mpr c25
            have c25b2 : (t386.length == l0_1.length) = false := by first | simpa using c25 | (simp at c25 ⊢; omega)
            (first | rw [c25b0] | (simp only [i64_w, i32_w]; rw [c25b0]) | skip)
            have H' := Aside0.mk H
            clear H
            have hnb29 := NB390_379.out
            have hnc29 := NB379_390.out
            have hcz30_0 : w20.cell? ⟨gb390, 0, none⟩ = some (.int .i64 0) := (blk_cell BK390.out 0).trans rfl
            have hcz30_1 : w20.cell? ⟨gb390, 1, none⟩ = some (.slice none 0 0) := (blk_cell BK390.out 1).trans rfl
            have hfz30_0 := blk_frozen BK390.out 0
            have hfz30_1 := blk_frozen BK390.out 1
            have hcz31_0 : w20.cell? ⟨gb379, 0, none⟩ = some (.int .i64 a0_0) := (blk_cell BK379.out 0).trans rfl
            have hcz31_1 : w20.cell? ⟨gb379, 1, none⟩ = some (.slice A0_1 l0_1.length c0_1) := (blk_cell BK379.out 1).trans rfl
            have hfz31_0 := blk_frozen BK379.out 0
            have hfz31_1 := blk_frozen BK379.out 1
            go_wp2
            go_meet
            case rel => exact ⟨_, (true), (by first | rfl | (simp; done) | (simp [*]; done) | (simp [*, Int.tdiv_eq_ediv_of_nonneg]; done)), H', ⟨by first | omega | exact Nat.le_refl _⟩, ⟨by (with_reducible repeat (first | apply Kd.N_alloc | apply Kd.N_drewN | apply Kd.N_drew)); exact Kd.N_mono (Kd.N_far (p := ⟨gb390, 1, none⟩) (Kd.N_far (p := ⟨gb390, 0, none⟩) (Kd.N_mono HO383.out (fun k_ hk => (⟨hk, hk.2⟩ : _ ∧ k_ ≠ gb390))) (fun _ hk => hk.2) (.int .i64 t385)) (fun _ hk => hk.2) (.slice Ao23 t386.length co23)) (fun _ hk => ⟨hk.1.1, hk.1.2⟩)⟩, ⟨by (with_reducible repeat (first | apply Kd.V_alloc | apply Kd.V_drewN | apply Kd.V_drew)); exact Kd.V_mono (Kd.V_far (p := ⟨gb390, 1, none⟩) (Kd.V_far (p := ⟨gb390, 0, none⟩) (Kd.V_mono HO388.out (fun k_ hk => (⟨hk, hk.2⟩ : _ ∧ k_ ≠ gb390))) (fun _ hk => hk.2) (.int .i64 t385)) (fun _ hk => hk.2) (.slice Ao23 t386.length co23)) (fun _ hk => ⟨hk.1.1, hk.1.2⟩)⟩, ⟨by (with_reducible repeat (first | refine blk_drewN ?_ _ | refine blk_drew ?_ | refine blk_alloc ?_ _)); refine blk_far ?_ NB379_390.out _; (with_reducible repeat (first | refine blk_drewN ?_ _ | refine blk_drew ?_ | refine blk_alloc ?_ _)); refine blk_far ?_ NB379_390.out _; (with_reducible repeat (first | refine blk_drewN ?_ _ | refine blk_drew ?_ | refine blk_alloc ?_ _)); exact BK379.out⟩, ⟨by (with_reducible repeat (first | refine blk_drewN ?_ _ | refine blk_drew ?_ | refine blk_alloc ?_ _)); refine blk_put (cs := #[.int .i64 t385, .slice none 0 0]) ?_ 1 _ rfl; (with_reducible repeat (first | refine blk_drewN ?_ _ | refine blk_drew ?_ | refine blk_alloc ?_ _)); refine blk_put (cs := #[.int .i64 0, .slice none 0 0]) ?_ 0 _ rfl; (with_reducible repeat (first | refine blk_drewN ?_ _ | refine blk_drew ?_ | refine blk_alloc ?_ _)); exact BK390.out⟩, ⟨by repeat (first | (with_reducible first | exact HB.out | apply below_alloc | apply pw_below_drewN | apply below_drew1 | refine below_set ?_ GE379.out | refine below_set ?_ GE390.out) | exact HB.out)⟩⟩
        · replace c24 := Bool.eq_false_iff.mpr c24
          subst c24
          have H1 : (chargeparklaw17_FlashErasing.j0 k a1 a2 t380 t381 true a0_0 l0_1 t385 t386) = some r := by rw [if_neg (show ¬ (false = true) by decide)] at H; exact H
          clear H
          have H := H1
          clear H1
          have H' := Aside0.mk H
          clear H
          go_wp2
          go_meet
          case rel => exact ⟨_, (true), (by first | rfl | (simp; done) | (simp [*]; done) | (simp [*, Int.tdiv_eq_ediv_of_nonneg]; done)), H', ⟨by first | omega | exact Nat.le_refl _⟩, ⟨by (with_reducible repeat (first | apply Kd.N_alloc | apply Kd.N_drewN | apply Kd.N_drew)); exact Kd.N_mono (Kd.N_far (p := ⟨gb390, 1, none⟩) (Kd.N_far (p := ⟨gb390, 0, none⟩) (Kd.N_mono HO383.out (fun k_ hk => (⟨hk, hk.2⟩ : _ ∧ k_ ≠ gb390))) (fun _ hk => hk.2) (.int .i64 t385)) (fun _ hk => hk.2) (.slice Ao23 t386.length co23)) (fun _ hk => ⟨hk.1.1, hk.1.2⟩)⟩, ⟨by (with_reducible repeat (first | apply Kd.V_alloc | apply Kd.V_drewN | apply Kd.V_drew)); exact Kd.V_mono (Kd.V_far (p := ⟨gb390, 1, none⟩) (Kd.V_far (p := ⟨gb390, 0, none⟩) (Kd.V_mono HO388.out (fun k_ hk => (⟨hk, hk.2⟩ : _ ∧ k_ ≠ gb390))) (fun _ hk => hk.2) (.int .i64 t385)) (fun _ hk => hk.2) (.slice Ao23 t386.length co23)) (fun _ hk => ⟨hk.1.1, hk.1.2⟩)⟩, ⟨by (with_reducible repeat (first | refine blk_drewN ?_ _ | refine blk_drew ?_ | refine blk_alloc ?_ _)); refine blk_far ?_ NB379_390.out _; (with_reducible repeat (first | refine blk_drewN ?_ _ | refine blk_drew ?_ | refine blk_alloc ?_ _)); refine blk_far ?_ NB379_390.out _; (with_reducible repeat (first | refine blk_drewN ?_ _ | refine blk_drew ?_ | refine blk_alloc ?_ _)); exact BK379.out⟩, ⟨by (with_reducible repeat (first | refine blk_drewN ?_ _ | refine blk_drew ?_ | refine blk_alloc ?_ _)); refine blk_put (cs := #[.int .i64 t385, .slice none 0 0]) ?_ 1 _ rfl; (with_reducible repeat (first | refine blk_drewN ?_ _ | refine blk_drew ?_ | refine blk_alloc ?_ _)); refine blk_put (cs := #[.int .i64 0, .slice none 0 0]) ?_ 0 _ rfl; (with_reducible repeat (first | refine blk_drewN ?_ _ | refine blk_drew ?_ | refine blk_alloc ?_ _)); exact BK390.out⟩, ⟨by repeat (first | (with_reducible first | exact HB.out | apply below_alloc | apply pw_below_drewN | apply below_drew1 | refine below_set ?_ GE379.out | refine below_set ?_ GE390.out) | exact HB.out)⟩⟩
      case rest =>
        clear HC12
        try clear c1
        try clear c2
        try clear p2
        try clear c5
        try clear c5b0
        try clear c5b1
        try clear p6
        try clear c8
        try clear c10
        try clear c10b0
        try clear c10b1
        try clear c16
        try clear c21
        try clear c23
        try clear c24
        try clear c25
        try clear c25b0
        try clear c25b1
        try clear c25b2
        try clear c26
        try clear c29
        try clear hcz15_0
        try clear hcz15_1
        try clear hcz17_0
        try clear hcz17_1
        try clear hcz22_0
        try clear hcz22_1
        try clear hcz27_0
        try clear hcz27_1
        try clear hcz28_0
        try clear hcz28_1
        try clear hcz30_0
        try clear hcz30_1
        try clear hcz31_0
        try clear hcz31_1
        try clear hcz8_0
        try clear hcz8_1
        try clear hfz15_0
        try clear hfz15_1
        try clear hfz17_0
        try clear hfz17_1
        try clear hfz22_0
        try clear hfz22_1
        try clear hfz27_0
        try clear hfz27_1
        try clear hfz28_0
        try clear hfz28_1
        try clear hfz30_0
        try clear hfz30_1
        try clear hfz31_0
        try clear hfz31_1
        try clear hfz8_0
        try clear hfz8_1
        obtain ⟨kq, x61_11, rfl, HA, HJ11, HO_8, HO_391001, BK379, BK390, HB⟩ := hcut
        cases kq with
        | zero => exact absurd HA.out (by simp [chargeparklaw17_FlashErasing.j0])
        | succ kj11 =>
          have H := HA.out
          clear HA
          simp only [chargeparklaw17_FlashErasing.j0] at H
          by_cases c32 : x61_11 = true
          · subst c32
            have H1 : (none) = some r := by rw [if_pos rfl] at H; exact H
            clear H
            have H := H1
            clear H1
            exact absurd H (by simp)
          · replace c32 := Bool.eq_false_iff.mpr c32
            subst c32
            have H1 : (chargeparklaw17_FlashErasing.l0 kj11 a1 a2 t380 t381 t386 (t386.length : Int) 0 a0_0 l0_1 t385 t386) = some r := by rw [if_neg (show ¬ (false = true) by decide)] at H; exact H
            clear H
            have H := H1
            clear H1
            have H' := Aside0.mk H
            clear H
            have hnb33 := NB390_379.out
            have hnc33 := NB379_390.out
            have hcz34_0 : wc.cell? ⟨gb390, 0, none⟩ = some (.int .i64 t385) := (blk_cell BK390.out 0).trans rfl
            have hcz34_1 : wc.cell? ⟨gb390, 1, none⟩ = some (.slice Ao23 t386.length co23) := (blk_cell BK390.out 1).trans rfl
            have hfz34_0 := blk_frozen BK390.out 0
            have hfz34_1 := blk_frozen BK390.out 1
            go_wp2
            go_loopg [65] kj11 (fun kq v65 w' => ∃ (x65_2 : Int), v65 = .int .i64 x65_2 ∧ Aside0 (chargeparklaw17_FlashErasing.l0 kq a1 a2 t380 t381 t386 (t386.length : Int) x65_2 a0_0 l0_1 t385 t386 = some r) ∧ Aside0 (kq ≤ kj11) ∧ Aside0 (Kd.N k24 24 w' w.heap.size (fun k_ => k_ ≠ gb379 ∧ k_ ≠ gb390) (.slice Ao18 t381.length co18) t381) ∧ Aside0 (Kd.V (Kd.int .u8) 5 w' w.heap.size (fun k_ => k_ ≠ gb379 ∧ k_ ≠ gb390) (.slice Ao23 t386.length co23) t386) ∧ Aside0 (Kd.V (Kd.int .u8) 5 w' w.heap.size (fun k_ => k_ ≠ gb379 ∧ k_ ≠ gb390) (.slice Ao23 t386.length co23) t386) ∧ Aside0 (w'.heap[gb379]? = some (.cells #[.int .i64 a0_0, (.slice A0_1 l0_1.length c0_1)] 24 (0, 0))) ∧ Aside0 (w'.heap[gb390]? = some (.cells #[.int .i64 t385, (.slice Ao23 t386.length co23)] 24 (0, 0))) ∧ Aside0 (Below w.heap.size w w'))
            case atStart => exact ⟨(0), (by first | rfl | (simp; done) | (simp [*]; done)), H', ⟨Nat.le_refl _⟩, ⟨by (with_reducible repeat (first | apply Kd.N_alloc | apply Kd.N_drewN | apply Kd.N_drew)); exact HO_8.out⟩, ⟨by (with_reducible repeat (first | apply Kd.V_alloc | apply Kd.V_drewN | apply Kd.V_drew)); exact HO_391001.out⟩, ⟨by (with_reducible repeat (first | apply Kd.V_alloc | apply Kd.V_drewN | apply Kd.V_drew)); exact HO_391001.out⟩, ⟨by (with_reducible repeat (first | refine blk_drewN ?_ _ | refine blk_drew ?_ | refine blk_alloc ?_ _)); exact BK379.out⟩, ⟨by (with_reducible repeat (first | refine blk_drewN ?_ _ | refine blk_drew ?_ | refine blk_alloc ?_ _)); exact BK390.out⟩, ⟨by repeat (first | (with_reducible first | exact HB.out | apply below_alloc | apply pw_below_drewN | apply below_drew1 | refine below_set ?_ GE379.out | refine below_set ?_ GE390.out) | exact HB.out)⟩⟩
            case round =>
              clear H'
              try clear c1
              try clear c2
              try clear p2
              try clear c3
              try clear c5
              try clear c5b0
              try clear c5b1
              try clear p6
              try clear c8
              try clear c10
              try clear c10b0
              try clear c10b1
              try clear c16
              try clear c21
              try clear c23
              try clear c24
              try clear c25
              try clear c25b0
              try clear c25b1
              try clear c25b2
              try clear c26
              try clear c29
              try clear c32
              try clear c33
              try clear hcz15_0
              try clear hcz15_1
              try clear hcz17_0
              try clear hcz17_1
              try clear hcz22_0
              try clear hcz22_1
              try clear hcz27_0
              try clear hcz27_1
              try clear hcz28_0
              try clear hcz28_1
              try clear hcz30_0
              try clear hcz30_1
              try clear hcz31_0
              try clear hcz31_1
              try clear hcz34_0
              try clear hcz34_1
              try clear hcz8_0
              try clear hcz8_1
              try clear hfz15_0
              try clear hfz15_1
              try clear hfz17_0
              try clear hfz17_1
              try clear hfz22_0
              try clear hfz22_1
              try clear hfz27_0
              try clear hfz27_1
              try clear hfz28_0
              try clear hfz28_1
              try clear hfz30_0
              try clear hfz30_1
              try clear hfz31_0
              try clear hfz31_1
              try clear hfz34_0
              try clear hfz34_1
              try clear hfz8_0
              try clear hfz8_1
              try clear p2
              try clear p6
              obtain ⟨x65_2, rfl, HA, HK2, HO_8, HO_63, HO_391001, BK379, BK390, HB⟩ := hrel
              cases gk with
              | zero => exact absurd HA.out (by simp [chargeparklaw17_FlashErasing.l0])
              | succ k2 =>
                have H := HA.out
                clear HA
                simp only [chargeparklaw17_FlashErasing.l0] at H
                by_cases c35 : x65_2 < (t386.length : Int)
                · rw [if_pos c35] at H
                  have c35b0 : decide (x65_2 < (t386.length : Int)) = true := decide_eq_true c35
                  clear c35
                  by_cases c36 : 0 ≤ x65_2
                  · rw [if_pos c36] at H
                    have c36b0 : decide (0 ≤ x65_2) = true := decide_eq_true c36
                    clear c36
                    by_cases c37 : x65_2 < (t386.length : Int)
                    · rw [if_pos c37] at H
                      have c37b0 : decide (x65_2 < (t386.length : Int)) = true := decide_eq_true c37
                      clear c37
                      by_cases c38 : a0_0 = 0
                      · rw [if_pos c38] at H
                        exact absurd H (by simp)
                      · rw [if_neg c38] at H
                        have c38b0 : (a0_0 == 0) = false := beq_eq_false_iff_ne.mpr c38
                        have c38b1 : (a0_0 != 0) = true := bne_iff_ne.mpr c38
                        by_cases c39 : (wrap64 (Int.tdiv x65_2 a0_0)) = a1
                        · rw [if_pos c39] at H
                          have c39b0 : ((wrap64 (Int.tdiv x65_2 a0_0)) == a1) = true := beq_iff_eq.mpr c39
                          have c39b1 : ((wrap64 (Int.tdiv x65_2 a0_0)) != a1) = false := bne_eq_false_iff_eq.mpr c39
                          clear c39
                          by_cases c40 : (rd t386 x65_2) = 255
                          · rw [if_pos c40] at H
                            have c40b0 : ((rd t386 x65_2) == 255) = true := beq_iff_eq.mpr c40
                            have c40b1 : ((rd t386 x65_2) != 255) = false := bne_eq_false_iff_eq.mpr c40
                            clear c40
                            have H' := Aside0.mk H
                            clear H
                            have p391 : 0 ≤ (x65_2 : Int) := of_decide_eq_true (by first | (with_reducible assumption) | assumption)
                            have q391 : x65_2 < (t386.length : Int) := of_decide_eq_true (by first | (with_reducible assumption) | assumption)
                            obtain ⟨ad391, e391, hx391_0⟩ := Kd.at_int (Kd.V_reads' HO_63.out).2.2 x65_2 p391 q391
                            cases e391
                            replace p391 := eq_true p391
                            replace q391 := eq_true q391
                            have hnb41 := NB379_390.out
                            have hnc41 := NB390_379.out
                            have hcz42_0 : wr.cell? ⟨gb379, 0, none⟩ = some (.int .i64 a0_0) := (blk_cell BK379.out 0).trans rfl
                            have hcz42_1 : wr.cell? ⟨gb379, 1, none⟩ = some (.slice A0_1 l0_1.length c0_1) := (blk_cell BK379.out 1).trans rfl
                            have hfz42_0 := blk_frozen BK379.out 0
                            have hfz42_1 := blk_frozen BK379.out 1
                            go_wp2
                            go_roundg k2
                            case measure => have := HJ11.out; have := HK2.out; omega
                            case rel => exact ⟨(wrap64 (x65_2 + 1)), (by first | rfl | (simp; done) | (simp [*]; done) | (simp [*, Int.tdiv_eq_ediv_of_nonneg]; done)), H', ⟨by have := HJ11.out; have := HK2.out; omega⟩, ⟨by (with_reducible repeat (first | apply Kd.N_alloc | apply Kd.N_drewN | apply Kd.N_drew)); exact HO_8.out⟩, ⟨by (with_reducible repeat (first | apply Kd.V_alloc | apply Kd.V_drewN | apply Kd.V_drew)); exact HO_63.out⟩, ⟨by (with_reducible repeat (first | apply Kd.V_alloc | apply Kd.V_drewN | apply Kd.V_drew)); exact HO_391001.out⟩, ⟨by (with_reducible repeat (first | refine blk_drewN ?_ _ | refine blk_drew ?_ | refine blk_alloc ?_ _)); exact BK379.out⟩, ⟨by (with_reducible repeat (first | refine blk_drewN ?_ _ | refine blk_drew ?_ | refine blk_alloc ?_ _)); exact BK390.out⟩, ⟨by repeat (first | (with_reducible first | exact HB.out | apply below_alloc | apply pw_below_drewN | apply below_drew1 | refine below_set ?_ GE379.out | refine below_set ?_ GE390.out) | exact HB.out)⟩⟩
                          · rw [if_neg c40] at H
                            exact absurd H (by simp)
                        · rw [if_neg c39] at H
                          have c39b0 : ((wrap64 (Int.tdiv x65_2 a0_0)) == a1) = false := beq_eq_false_iff_ne.mpr c39
                          have c39b1 : ((wrap64 (Int.tdiv x65_2 a0_0)) != a1) = true := bne_iff_ne.mpr c39
                          by_cases c43 : x65_2 < (l0_1.length : Int)
                          · rw [if_pos c43] at H
                            have c43b0 : decide (x65_2 < (l0_1.length : Int)) = true := decide_eq_true c43
                            clear c43
                            by_cases c44 : (rd t386 x65_2) = (rd l0_1 x65_2)
                            · rw [if_pos c44] at H
                              have c44b0 : ((rd t386 x65_2) == (rd l0_1 x65_2)) = true := beq_iff_eq.mpr c44
                              have c44b1 : ((rd t386 x65_2) != (rd l0_1 x65_2)) = false := bne_eq_false_iff_eq.mpr c44
                              clear c44
                              have H' := Aside0.mk H
                              clear H
                              have p391 : 0 ≤ (x65_2 : Int) := of_decide_eq_true (by first | (with_reducible assumption) | assumption)
                              have q391 : x65_2 < (t386.length : Int) := of_decide_eq_true (by first | (with_reducible assumption) | assumption)
                              obtain ⟨ad391, e391, hx391_0⟩ := Kd.at_int (Kd.V_reads' HO_63.out).2.2 x65_2 p391 q391
                              cases e391
                              replace p391 := eq_true p391
                              replace q391 := eq_true q391
                              have hnb45 := NB379_390.out
                              have hnc45 := NB390_379.out
                              have hcz46_0 : wr.cell? ⟨gb379, 0, none⟩ = some (.int .i64 a0_0) := (blk_cell BK379.out 0).trans rfl
                              have hcz46_1 : wr.cell? ⟨gb379, 1, none⟩ = some (.slice A0_1 l0_1.length c0_1) := (blk_cell BK379.out 1).trans rfl
                              have hfz46_0 := blk_frozen BK379.out 0
                              have hfz46_1 := blk_frozen BK379.out 1
                              have p392 : 0 ≤ (x65_2 : Int) := of_decide_eq_true (by first | (with_reducible assumption) | assumption)
                              have q392 : x65_2 < (l0_1.length : Int) := of_decide_eq_true (by first | (with_reducible assumption) | assumption)
                              obtain ⟨ad392, e392, hx392_0⟩ := Kd.at_int HR0_1.out x65_2 p392 q392
                              cases e392
                              replace hx392_0 := (HB.out.cell (World.block_lt_of_cell? w _ hx392_0)).trans hx392_0
                              replace p392 := eq_true p392
                              replace q392 := eq_true q392
                              go_wp2
                              go_roundg k2
                              case measure => have := HJ11.out; have := HK2.out; omega
                              case rel => exact ⟨(wrap64 (x65_2 + 1)), (by first | rfl | (simp; done) | (simp [*]; done) | (simp [*, Int.tdiv_eq_ediv_of_nonneg]; done)), H', ⟨by have := HJ11.out; have := HK2.out; omega⟩, ⟨by (with_reducible repeat (first | apply Kd.N_alloc | apply Kd.N_drewN | apply Kd.N_drew)); exact HO_8.out⟩, ⟨by (with_reducible repeat (first | apply Kd.V_alloc | apply Kd.V_drewN | apply Kd.V_drew)); exact HO_63.out⟩, ⟨by (with_reducible repeat (first | apply Kd.V_alloc | apply Kd.V_drewN | apply Kd.V_drew)); exact HO_391001.out⟩, ⟨by (with_reducible repeat (first | refine blk_drewN ?_ _ | refine blk_drew ?_ | refine blk_alloc ?_ _)); exact BK379.out⟩, ⟨by (with_reducible repeat (first | refine blk_drewN ?_ _ | refine blk_drew ?_ | refine blk_alloc ?_ _)); exact BK390.out⟩, ⟨by repeat (first | (with_reducible first | exact HB.out | apply below_alloc | apply pw_below_drewN | apply below_drew1 | refine below_set ?_ GE379.out | refine below_set ?_ GE390.out) | exact HB.out)⟩⟩
                            · rw [if_neg c44] at H
                              exact absurd H (by simp)
                          · rw [if_neg c43] at H
                            exact absurd H (by simp)
                    · rw [if_neg c37] at H
                      exact absurd H (by simp)
                  · rw [if_neg c36] at H
                    exact absurd H (by simp)
                · rw [if_neg c35] at H
                  have c35b0 : decide (x65_2 < (t386.length : Int)) = false := decide_eq_false c35
                  clear c35
                  by_cases c47 : (t381.length : Int) = 0
                  · rw [if_pos c47] at H
                    exact absurd H (by simp)
                  · rw [if_neg c47] at H
                    have c47b0 : ((t381.length : Int) == 0) = false := beq_eq_false_iff_ne.mpr c47
                    have c47b1 : ((t381.length : Int) != 0) = true := bne_iff_ne.mpr c47
                    have c47b2 : ¬ (t381 = []) := fun h_ => c47 (by rw [h_]; rfl)
                    obtain ⟨ji48, hji48⟩ : ∃ j_ : Int, (Int.tmod (wrap64 (a2)) (t381.length : Int)) = j_ := ⟨_, rfl⟩
                    replace H : (if 0 ≤ (ji48) then (if (ji48) < (t381.length : Int) then ((flash_Erase.f ((rd_T24 t381 (ji48)).f0) ((rd_T24 t381 (ji48)).f1) a1).bind fun bt394 => ((chargeparklaw17_last.f bt394.1 bt394.2 (wrap64 (a0_0 + 1))).bind fun bt398 => (if t380 = true then (if bt398.2.2 = true then ((chargeparkref17_Same.f k2 bt398.1 bt398.2.1 t385 t386).bind fun t404 => (some t404)) else (none)) else (none)))) else (none)) else (none)) = some r := by first | (rw [hji48] at H; exact H) | (simp only [hji48] at H ⊢; exact H)
                    by_cases c49 : 0 ≤ (ji48)
                    · rw [if_pos c49] at H
                      have c49b0 : decide (0 ≤ (ji48)) = true := decide_eq_true c49
                      clear c49
                      by_cases c50 : (ji48) < (t381.length : Int)
                      · rw [if_pos c50] at H
                        have c50b0 : decide ((ji48) < (t381.length : Int)) = true := decide_eq_true c50
                        clear c50
                        replace H := Option.bind_eq_some_iff.mp H
                        obtain ⟨⟨t394, t397⟩, A510, H⟩ := H
                        replace H : ((chargeparklaw17_last.f t394 t397 (wrap64 (a0_0 + 1))).bind fun bt398 => (if t380 = true then (if bt398.2.2 = true then ((chargeparkref17_Same.f k2 bt398.1 bt398.2.1 t385 t386).bind fun t404 => (some t404)) else (none)) else (none))) = some r := H
                        have A51 := Aside0.mk A510
                        clear A510
                        replace H := Option.bind_eq_some_iff.mp H
                        obtain ⟨⟨t398, t399, t402⟩, A520, H⟩ := H
                        replace H : (if t380 = true then (if t402 = true then ((chargeparkref17_Same.f k2 t398 t399 t385 t386).bind fun t404 => (some t404)) else (none)) else (none)) = some r := H
                        have A52 := Aside0.mk A520
                        clear A520
                        by_cases c53 : t380 = true
                        · subst c53
                          have H1 : (if t402 = true then ((chargeparkref17_Same.f k2 t398 t399 t385 t386).bind fun t404 => (some t404)) else (none)) = some r := by rw [if_pos rfl] at H; exact H
                          clear H
                          have H := H1
                          clear H1
                          by_cases c54 : t402 = true
                          · subst c54
                            have H1 : ((chargeparkref17_Same.f k2 t398 t399 t385 t386).bind fun t404 => (some t404)) = some r := by rw [if_pos rfl] at H; exact H
                            clear H
                            have H := H1
                            clear H1
                            replace H := Option.bind_eq_some_iff.mp H
                            obtain ⟨t404, A550, H⟩ := H
                            replace H : (some t404) = some r := H
                            have A55 := Aside0.mk A550
                            clear A550
                            obtain rfl := Option.some.inj H
                            have p393 : 0 ≤ ((ji48) : Int) := of_decide_eq_true (by first | (with_reducible assumption) | assumption)
                            have q393 : (ji48) < (t381.length : Int) := of_decide_eq_true (by first | (with_reducible assumption) | assumption)
                            obtain ⟨ad393, A393_1, c393_1, e393, hx393_0, hx393_1, hl393_1, hi393_1⟩ := at_T24 (Kd.N_reads' HO_8.out).2.2 (ji48) p393 q393
                            cases e393
                            obtain ⟨ce393, hce393, hMe393, hcc393⟩ := Kd.N_get HO_8.out z24 (ji48) p393 (by first | exact q393 | exact of_decide_eq_true (by first | (with_reducible assumption) | assumption) | (have e_ := (Kd.N_reads' HO_8.out).1; omega))
                            obtain ⟨ua393_1, uc393_1, rfl, ul393_1, ge393_1⟩ := k24_openF hMe393
                            have hv393_1 := hcc393 1 _ rfl
                            rw [add_field _ _ 1 (by omega)] at hv393_1
                            replace hv393_1 := Option.some.inj (hv393_1.symm.trans hx393_1)
                            injection hv393_1 with hva_ hvn_ hvc_
                            rw [hva_] at ge393_1
                            rw [hvc_] at ul393_1
                            have HL393_1 := Aside0.mk (show Kd.V (Kd.int .u8) 5 _ w.heap.size _ _ ((rd_T24 t381 (ji48)).f1) from Kd.V_mk ul393_1 ge393_1)
                            clear hva_ hvn_ hvc_ ge393_1 ul393_1
                            clear hcc393 hce393
                            have HR393_1 := Aside0.mk hi393_1
                            have HC393_1 := Aside0.mk hl393_1
                            clear hi393_1 hl393_1
                            replace p393 := eq_true p393
                            replace q393 := eq_true q393
                            go_wp2_with (first | ((with_reducible refine gate_callee (f := 16) rfl ?_); refine goesL_ (some 108) rfl rfl Try.func16 (by kernel_rfl) rfl #[.agg #[.int .i64 ((rd_T24 t381 (ji48)).f0), .slice A393_1 ((rd_T24 t381 (ji48)).f1).length c393_1], .int .i64 a1] rfl (by (try simp only [List.map_toArray, List.map_cons, List.map_nil]); first | done | (simp only [hji48]; rfl) | rfl | (simp only [List.length_drop, List.length_take]; rfl)) ?_; (with_reducible refine (flash_Erase.calls ((rd_T24 t381 (ji48)).f0) _ _ ((rd_T24 t381 (ji48)).f1) a1 t394 t397 _ ?side1 ?side2 A51.out).mono ?_); (case side1 => repeat (first | exact (by repeat (first | (with_reducible exact HR393_1.out) | (with_reducible refine Kd.C_alloc ?_ _) | (with_reducible refine Kd.C_drewN ?_ _) | (with_reducible refine Kd.C_drew ?_) | exact HR393_1.out)) | (with_reducible refine Kd.C_alloc ?_ _) | (with_reducible refine Kd.C_drewN ?_ _) | (with_reducible refine Kd.C_drew ?_))); (case side2 => exact HC393_1.out); rintro e w56 ⟨v395, rfl, ho0, hb⟩; refine ⟨_, rfl, ?_⟩; have n0_ := Aside0.mk (Kd.N_elder' (by (with_reducible repeat (first | apply Kd.N_alloc | apply Kd.N_drewN | apply Kd.N_drew)); exact HO_8.out) (Kd.N_base ho0) hb); have n1_ := Aside0.mk (Kd.V_elder' (by (with_reducible repeat (first | apply Kd.V_alloc | apply Kd.V_drewN | apply Kd.V_drew)); exact HO_63.out) (Kd.N_base ho0) hb); have n2_ := Aside0.mk (Kd.V_elder' (by (with_reducible repeat (first | apply Kd.V_alloc | apply Kd.V_drewN | apply Kd.V_drew)); exact HO_391001.out) (Kd.N_base ho0) hb); have n3_ := Aside0.mk (Kd.V_elder' (by (with_reducible repeat (first | apply Kd.V_alloc | apply Kd.V_drewN | apply Kd.V_drew)); exact HL393_1.out) (Kd.N_base ho0) hb); have n4_ := Aside0.mk (Kd.N_lower (Kd.N_mono (ok' := fun k_ => some k_ ≠ (.slice (some ad393) t381.length co18 : Value).ownBlock ∧ k_ ≠ gb379 ∧ k_ ≠ gb390) ho0 (fun k_ hk_ => ⟨(Kd.fresh' (Kd.N_lt (by (with_reducible repeat (first | apply Kd.N_alloc | apply Kd.N_drewN | apply Kd.N_drew)); exact HO_8.out)) k_ hk_), (Kd.freshB (g := gb379) (o := .cells #[.int .i64 a0_0, .slice A0_1 l0_1.length c0_1] 24 (0, 0)) (by (with_reducible repeat (first | refine blk_drewN ?_ _ | refine blk_drew ?_ | refine blk_alloc ?_ _)); exact BK379.out) k_ hk_), (Kd.freshB (g := gb390) (o := .cells #[.int .i64 t385, .slice Ao23 t386.length co23] 24 (0, 0)) (by (with_reducible repeat (first | refine blk_drewN ?_ _ | refine blk_drew ?_ | refine blk_alloc ?_ _)); exact BK390.out) k_ hk_)⟩)) (below_size (by repeat (first | (with_reducible first | exact HB.out | apply below_alloc | apply pw_below_drewN | apply below_drew1 | refine below_set ?_ GE379.out | refine below_set ?_ GE390.out) | exact HB.out)))); have n5_ := Aside0.mk (blk_below (g := gb379) (o := .cells #[.int .i64 a0_0, .slice A0_1 l0_1.length c0_1] 24 (0, 0)) (by (with_reducible repeat (first | refine blk_drewN ?_ _ | refine blk_drew ?_ | refine blk_alloc ?_ _)); exact BK379.out) hb); have n6_ := Aside0.mk (blk_below (g := gb390) (o := .cells #[.int .i64 t385, .slice Ao23 t386.length co23] 24 (0, 0)) (by (with_reducible repeat (first | refine blk_drewN ?_ _ | refine blk_drew ?_ | refine blk_alloc ?_ _)); exact BK390.out) hb); have n7_ := Aside0.mk (Kd.C_below (by repeat (first | (with_reducible exact HR393_1.out) | (with_reducible refine Kd.C_alloc ?_ _) | (with_reducible refine Kd.C_drewN ?_ _) | (with_reducible refine Kd.C_drew ?_) | exact HR393_1.out)) hb); have n8_ := Aside0.mk (below_step (by repeat (first | (with_reducible first | exact HB.out | apply below_alloc | apply pw_below_drewN | apply below_drew1 | refine below_set ?_ GE379.out | refine below_set ?_ GE390.out) | exact HB.out)) hb); clear HO_8; clear HO_63; clear HO_391001; clear HL393_1; clear BK379; clear BK390; clear HR393_1; clear HB; have HO_8 := n0_; have HO_63 := n1_; have HO_391001 := n2_; have HL393_1 := n3_; have HO396 := n4_; have BK379 := n5_; have BK390 := n6_; have HR393_1 := n7_; have HB := n8_; clear n0_ n1_ n2_ n3_ n4_ n5_ n6_ n7_ n8_; (try clear hb); (try clear hb2); (try clear hk); (try clear hi); (try clear ho0); have hnb57 := NB379_390.out; have hnc57 := NB390_379.out; have hcz58_0 : w56.cell? ⟨gb379, 0, none⟩ = some (.int .i64 a0_0) := (blk_cell BK379.out 0).trans rfl; have hcz58_1 : w56.cell? ⟨gb379, 1, none⟩ = some (.slice A0_1 l0_1.length c0_1) := (blk_cell BK379.out 1).trans rfl; have hfz58_0 := blk_frozen BK379.out 0; have hfz58_1 := blk_frozen BK379.out 1; obtain ⟨Ao59, co59, eo59⟩ := Kd.N_slice HO396.out; subst eo59) | ((with_reducible refine gate_callee (f := 23) rfl ?_); refine goesL_ (some 117) rfl rfl Try.func23 (by kernel_rfl) rfl #[.slice Ao59 t394.length co59, .int .i64 t397, .int .i64 (wrap64 (a0_0 + 1))] rfl (by (try simp only [List.map_toArray, List.map_cons, List.map_nil]); first | done | rfl | (simp only [List.length_drop, List.length_take]; rfl)) ?_; (with_reducible refine (chargeparklaw17_last.calls (fun k_ => (some k_ ≠ (.slice (some ad393) t381.length co18 : Value).ownBlock ∧ (k_ ≠ gb379 ∧ k_ ≠ gb390))) _ _ t394 t397 (wrap64 (a0_0 + 1)) t398 t399 true _ ?side1 A52.out).mono ?_); (case side1 => exact Kd.N_V (HO396.out)); rintro e w60 ⟨v400, rfl, ho0, hb⟩; refine ⟨_, rfl, ?_⟩; have n0_ := Aside0.mk (Kd.N_below (by (with_reducible repeat (first | apply Kd.N_alloc | apply Kd.N_drewN | apply Kd.N_drew)); exact HO_8.out) hb); have n1_ := Aside0.mk (Kd.V_below (by (with_reducible repeat (first | apply Kd.V_alloc | apply Kd.V_drewN | apply Kd.V_drew)); exact HO_63.out) hb); have n2_ := Aside0.mk (Kd.V_below (by (with_reducible repeat (first | apply Kd.V_alloc | apply Kd.V_drewN | apply Kd.V_drew)); exact HO_391001.out) hb); have n3_ := Aside0.mk (Kd.V_below (by (with_reducible repeat (first | apply Kd.V_alloc | apply Kd.V_drewN | apply Kd.V_drew)); exact HL393_1.out) hb); have n4_ := Aside0.mk (Kd.N_below (by (with_reducible repeat (first | apply Kd.N_alloc | apply Kd.N_drewN | apply Kd.N_drew)); exact HO396.out) hb); have n5_ := Aside0.mk (Kd.V_lower (Kd.V_mono (ok' := fun k_ => some k_ ≠ (.slice (some ad393) t381.length co18 : Value).ownBlock ∧ k_ ≠ gb379 ∧ k_ ≠ gb390) ho0 (fun k_ hk_ => ⟨Or.elim hk_ (fun hs_ => hs_.1) (fun hn_ => (Kd.fresh' (Kd.N_lt (by (with_reducible repeat (first | apply Kd.N_alloc | apply Kd.N_drewN | apply Kd.N_drew)); exact HO_8.out)) k_ hn_)), Or.elim hk_ (fun hs_ => hs_.2.1) (fun hn_ => (Kd.freshB (g := gb379) (o := .cells #[.int .i64 a0_0, .slice A0_1 l0_1.length c0_1] 24 (0, 0)) (by (with_reducible repeat (first | refine blk_drewN ?_ _ | refine blk_drew ?_ | refine blk_alloc ?_ _)); exact BK379.out) k_ hn_)), Or.elim hk_ (fun hs_ => hs_.2.2) (fun hn_ => (Kd.freshB (g := gb390) (o := .cells #[.int .i64 t385, .slice Ao23 t386.length co23] 24 (0, 0)) (by (with_reducible repeat (first | refine blk_drewN ?_ _ | refine blk_drew ?_ | refine blk_alloc ?_ _)); exact BK390.out) k_ hn_))⟩)) (below_size (by repeat (first | (with_reducible first | exact HB.out | apply below_alloc | apply pw_below_drewN | apply below_drew1 | refine below_set ?_ GE379.out | refine below_set ?_ GE390.out) | exact HB.out)))); have n6_ := Aside0.mk (blk_below (g := gb379) (o := .cells #[.int .i64 a0_0, .slice A0_1 l0_1.length c0_1] 24 (0, 0)) (by (with_reducible repeat (first | refine blk_drewN ?_ _ | refine blk_drew ?_ | refine blk_alloc ?_ _)); exact BK379.out) hb); have n7_ := Aside0.mk (blk_below (g := gb390) (o := .cells #[.int .i64 t385, .slice Ao23 t386.length co23] 24 (0, 0)) (by (with_reducible repeat (first | refine blk_drewN ?_ _ | refine blk_drew ?_ | refine blk_alloc ?_ _)); exact BK390.out) hb); have n8_ := Aside0.mk (Kd.C_below (by repeat (first | (with_reducible exact HR393_1.out) | (with_reducible refine Kd.C_alloc ?_ _) | (with_reducible refine Kd.C_drewN ?_ _) | (with_reducible refine Kd.C_drew ?_) | exact HR393_1.out)) hb); have n9_ := Aside0.mk (below_step (by repeat (first | (with_reducible first | exact HB.out | apply below_alloc | apply pw_below_drewN | apply below_drew1 | refine below_set ?_ GE379.out | refine below_set ?_ GE390.out) | exact HB.out)) hb); clear HO_8; clear HO_63; clear HO_391001; clear HL393_1; clear HO396; clear BK379; clear BK390; clear HR393_1; clear HB; have HO_8 := n0_; have HO_63 := n1_; have HO_391001 := n2_; have HL393_1 := n3_; have HO396 := n4_; have HO401 := n5_; have BK379 := n6_; have BK390 := n7_; have HR393_1 := n8_; have HB := n9_; clear n0_ n1_ n2_ n3_ n4_ n5_ n6_ n7_ n8_ n9_; (try clear hb); (try clear hb2); (try clear hk); (try clear hi); (try clear ho0)) | ((with_reducible refine gate_dst (N := 16) rfl ?_); (try (refine gate_guard (by rfl) ?_; dsimp only)); refine box_event ?hg (N := 16) ?hd (cs := #[.int .i64 0, .slice none 0 0]) (t := 24) ?hr ?_; (case hd => rfl); (case hg => rfl); (case hr => first | (go_simp; done) | (go_simp; rfl)); intro gb403 hg w61 hbox hb; have n0_ := Aside0.mk (Kd.N_below (Kd.N_elderB (by (with_reducible repeat (first | apply Kd.N_alloc | apply Kd.N_drewN | apply Kd.N_drew)); exact HO_8.out) gb403 (Nat.le_of_eq hg.symm)) hb); have n1_ := Aside0.mk (Kd.V_below (Kd.V_elderB (by (with_reducible repeat (first | apply Kd.V_alloc | apply Kd.V_drewN | apply Kd.V_drew)); exact HO_63.out) gb403 (Nat.le_of_eq hg.symm)) hb); have n2_ := Aside0.mk (Kd.V_below (Kd.V_elderB (by (with_reducible repeat (first | apply Kd.V_alloc | apply Kd.V_drewN | apply Kd.V_drew)); exact HO_391001.out) gb403 (Nat.le_of_eq hg.symm)) hb); have n3_ := Aside0.mk (Kd.V_below (Kd.V_elderB (by (with_reducible repeat (first | apply Kd.V_alloc | apply Kd.V_drewN | apply Kd.V_drew)); exact HL393_1.out) gb403 (Nat.le_of_eq hg.symm)) hb); have n4_ := Aside0.mk (Kd.N_below (Kd.N_elderB (by (with_reducible repeat (first | apply Kd.N_alloc | apply Kd.N_drewN | apply Kd.N_drew)); exact HO396.out) gb403 (Nat.le_of_eq hg.symm)) hb); have n5_ := Aside0.mk (Kd.V_below (Kd.V_elderB (by (with_reducible repeat (first | apply Kd.V_alloc | apply Kd.V_drewN | apply Kd.V_drew)); exact HO401.out) gb403 (Nat.le_of_eq hg.symm)) hb); have n6_ := Aside0.mk (blk_below (g := gb379) (o := .cells #[.int .i64 a0_0, .slice A0_1 l0_1.length c0_1] 24 (0, 0)) (by (with_reducible repeat (first | refine blk_drewN ?_ _ | refine blk_drew ?_ | refine blk_alloc ?_ _)); exact BK379.out) hb); have n7_ := Aside0.mk (blk_below (g := gb390) (o := .cells #[.int .i64 t385, .slice Ao23 t386.length co23] 24 (0, 0)) (by (with_reducible repeat (first | refine blk_drewN ?_ _ | refine blk_drew ?_ | refine blk_alloc ?_ _)); exact BK390.out) hb); have n8_ := Aside0.mk (Kd.C_below (by repeat (first | (with_reducible exact HR393_1.out) | (with_reducible refine Kd.C_alloc ?_ _) | (with_reducible refine Kd.C_drewN ?_ _) | (with_reducible refine Kd.C_drew ?_) | exact HR393_1.out)) hb); have n9_ := Aside0.mk (below_step (by repeat (first | (with_reducible first | exact HB.out | apply below_alloc | apply pw_below_drewN | apply below_drew1 | refine below_set ?_ GE379.out | refine below_set ?_ GE390.out) | exact HB.out)) hb); have n10_ := Aside0.mk (hbox); have n11_ := Aside0.mk ((by rw [hg]; exact (below_size (by repeat (first | (with_reducible first | exact HB.out | apply below_alloc | apply pw_below_drewN | apply below_drew1 | refine below_set ?_ GE379.out | refine below_set ?_ GE390.out) | exact HB.out))) : w.heap.size ≤ gb403)); have n12_ := Aside0.mk ((by rw [hg]; exact (below_size (by repeat (first | (with_reducible first | exact HB.out | apply below_alloc | apply pw_below_drewN | apply below_drew1 | refine below_set ?_ GE379.out | refine below_set ?_ GE390.out) | exact HB.out))) : w.heap.size ≤ gb403)); have n13_ := Aside0.mk ((by rw [hg]; exact Nat.ne_of_lt (blk_lt (g := gb379) (o := .cells #[.int .i64 a0_0, .slice A0_1 l0_1.length c0_1] 24 (0, 0)) (by (with_reducible repeat (first | refine blk_drewN ?_ _ | refine blk_drew ?_ | refine blk_alloc ?_ _)); exact BK379.out)) : gb379 ≠ gb403)); have n14_ := Aside0.mk ((by rw [hg]; exact Nat.ne_of_gt (blk_lt (g := gb379) (o := .cells #[.int .i64 a0_0, .slice A0_1 l0_1.length c0_1] 24 (0, 0)) (by (with_reducible repeat (first | refine blk_drewN ?_ _ | refine blk_drew ?_ | refine blk_alloc ?_ _)); exact BK379.out)) : gb403 ≠ gb379)); have n15_ := Aside0.mk ((by rw [hg]; exact Nat.ne_of_lt (blk_lt (g := gb390) (o := .cells #[.int .i64 t385, .slice Ao23 t386.length co23] 24 (0, 0)) (by (with_reducible repeat (first | refine blk_drewN ?_ _ | refine blk_drew ?_ | refine blk_alloc ?_ _)); exact BK390.out)) : gb390 ≠ gb403)); have n16_ := Aside0.mk ((by rw [hg]; exact Nat.ne_of_gt (blk_lt (g := gb390) (o := .cells #[.int .i64 t385, .slice Ao23 t386.length co23] 24 (0, 0)) (by (with_reducible repeat (first | refine blk_drewN ?_ _ | refine blk_drew ?_ | refine blk_alloc ?_ _)); exact BK390.out)) : gb403 ≠ gb390)); clear HO_8; clear HO_63; clear HO_391001; clear HL393_1; clear HO396; clear HO401; clear BK379; clear BK390; clear HR393_1; clear HB; have HO_8 := n0_; have HO_63 := n1_; have HO_391001 := n2_; have HL393_1 := n3_; have HO396 := n4_; have HO401 := n5_; have BK379 := n6_; have BK390 := n7_; have HR393_1 := n8_; have HB := n9_; have BK403 := n10_; have GW403 := n11_; have GE403 := n12_; have NB379_403 := n13_; have NB403_379 := n14_; have NB390_403 := n15_; have NB403_390 := n16_; clear n0_ n1_ n2_ n3_ n4_ n5_ n6_ n7_ n8_ n9_ n10_ n11_ n12_ n13_ n14_ n15_ n16_; clear hb hbox hg; have hnb62 := NB403_379.out; have hnc62 := NB379_403.out; have hnb63 := NB403_390.out; have hnc63 := NB390_403.out; have hcz64_0 : w61.cell? ⟨gb403, 0, none⟩ = some (.int .i64 0) := (blk_cell BK403.out 0).trans rfl; have hcz64_1 : w61.cell? ⟨gb403, 1, none⟩ = some (.slice none 0 0) := (blk_cell BK403.out 1).trans rfl; have hfz64_0 := blk_frozen BK403.out 0; have hfz64_1 := blk_frozen BK403.out 1; obtain ⟨Ao65, co65, eo65⟩ := Kd.V_slice HO401.out; subst eo65; have hcz66_0 : w61.cell? ⟨gb390, 0, none⟩ = some (.int .i64 t385) := (blk_cell BK390.out 0).trans rfl; have hcz66_1 : w61.cell? ⟨gb390, 1, none⟩ = some (.slice Ao23 t386.length co23) := (blk_cell BK390.out 1).trans rfl; have hfz66_0 := blk_frozen BK390.out 0; have hfz66_1 := blk_frozen BK390.out 1) | (go_at_call 13; (with_reducible refine (chargeparkref17_Same.calls k2 t398 _ _ t399 t385 _ _ t386 t404 _ ?side1 ?side2 ?side3 ?side4 A55.out).mono ?_); (case side1 => refine (Kd.V_reads' (e := 5) (base := w.heap.size) (ok := fun k_ => ((some k_ ≠ (.slice (some ad393) t381.length co18 : Value).ownBlock ∧ (k_ ≠ gb379 ∧ k_ ≠ gb390)) ∧ k_ ≠ gb403)) (n := t399.length) (c := co65) ?_).2.2; exact (by (with_reducible repeat (first | apply Kd.V_alloc | apply Kd.V_drewN | apply Kd.V_drew)); exact (Kd.V_mono (Kd.V_far (p := ⟨gb403, 1, none⟩) (Kd.V_far (p := ⟨gb403, 0, none⟩) (Kd.V_mono HO401.out (fun k_ hk => (⟨hk, hk.2⟩ : _ ∧ k_ ≠ gb403))) (fun _ hk => hk.2) (.int .i64 t398)) (fun _ hk => hk.2) (.slice Ao65 t399.length co65)) (fun _ h_ => h_.1)))); (case side2 => exact (Kd.V_reads' HO401.out).2.1); (case side3 => refine (Kd.V_reads' (e := 5) (base := w.heap.size) (ok := fun k_ => (((k_ ≠ gb379 ∧ k_ ≠ gb390) ∧ some k_ ≠ (.slice Ao59 t394.length co59 : Value).ownBlock) ∧ k_ ≠ gb403)) (n := t386.length) (c := co23) ?_).2.2; exact (by (with_reducible repeat (first | apply Kd.V_alloc | apply Kd.V_drewN | apply Kd.V_drew)); exact (Kd.V_mono (Kd.V_far (p := ⟨gb403, 1, none⟩) (Kd.V_far (p := ⟨gb403, 0, none⟩) (Kd.V_mono HO_391001.out (fun k_ hk => (⟨hk, hk.2⟩ : _ ∧ k_ ≠ gb403))) (fun _ hk => hk.2) (.int .i64 t398)) (fun _ hk => hk.2) (.slice Ao65 t399.length co65)) (fun _ h_ => h_.1)))); (case side4 => exact (Kd.V_reads' HO_391001.out).2.1); rintro e w67 ⟨rfl, hb⟩; have n0_ := Aside0.mk (Kd.N_below (by (with_reducible repeat (first | apply Kd.N_alloc | apply Kd.N_drewN | apply Kd.N_drew)); exact (Kd.N_mono (Kd.N_far (p := ⟨gb403, 1, none⟩) (Kd.N_far (p := ⟨gb403, 0, none⟩) (Kd.N_mono HO_8.out (fun k_ hk => (⟨hk, hk.2⟩ : _ ∧ k_ ≠ gb403))) (fun _ hk => hk.2) (.int .i64 t398)) (fun _ hk => hk.2) (.slice Ao65 t399.length co65)) (fun _ h_ => h_.1))) hb); have n1_ := Aside0.mk (Kd.V_below (by (with_reducible repeat (first | apply Kd.V_alloc | apply Kd.V_drewN | apply Kd.V_drew)); exact (Kd.V_mono (Kd.V_far (p := ⟨gb403, 1, none⟩) (Kd.V_far (p := ⟨gb403, 0, none⟩) (Kd.V_mono HO_63.out (fun k_ hk => (⟨hk, hk.2⟩ : _ ∧ k_ ≠ gb403))) (fun _ hk => hk.2) (.int .i64 t398)) (fun _ hk => hk.2) (.slice Ao65 t399.length co65)) (fun _ h_ => h_.1))) hb); have n2_ := Aside0.mk (Kd.V_below (by (with_reducible repeat (first | apply Kd.V_alloc | apply Kd.V_drewN | apply Kd.V_drew)); exact (Kd.V_mono (Kd.V_far (p := ⟨gb403, 1, none⟩) (Kd.V_far (p := ⟨gb403, 0, none⟩) (Kd.V_mono HO_391001.out (fun k_ hk => (⟨hk, hk.2⟩ : _ ∧ k_ ≠ gb403))) (fun _ hk => hk.2) (.int .i64 t398)) (fun _ hk => hk.2) (.slice Ao65 t399.length co65)) (fun _ h_ => h_.1))) hb); have n3_ := Aside0.mk (Kd.V_below (by (with_reducible repeat (first | apply Kd.V_alloc | apply Kd.V_drewN | apply Kd.V_drew)); exact (Kd.V_mono (Kd.V_far (p := ⟨gb403, 1, none⟩) (Kd.V_far (p := ⟨gb403, 0, none⟩) (Kd.V_mono HL393_1.out (fun k_ hk => (⟨hk, hk.2⟩ : _ ∧ k_ ≠ gb403))) (fun _ hk => hk.2) (.int .i64 t398)) (fun _ hk => hk.2) (.slice Ao65 t399.length co65)) (fun _ h_ => h_.1))) hb); have n4_ := Aside0.mk (Kd.N_below (by (with_reducible repeat (first | apply Kd.N_alloc | apply Kd.N_drewN | apply Kd.N_drew)); exact (Kd.N_mono (Kd.N_far (p := ⟨gb403, 1, none⟩) (Kd.N_far (p := ⟨gb403, 0, none⟩) (Kd.N_mono HO396.out (fun k_ hk => (⟨hk, hk.2⟩ : _ ∧ k_ ≠ gb403))) (fun _ hk => hk.2) (.int .i64 t398)) (fun _ hk => hk.2) (.slice Ao65 t399.length co65)) (fun _ h_ => h_.1))) hb); have n5_ := Aside0.mk (Kd.V_below (by (with_reducible repeat (first | apply Kd.V_alloc | apply Kd.V_drewN | apply Kd.V_drew)); exact (Kd.V_mono (Kd.V_far (p := ⟨gb403, 1, none⟩) (Kd.V_far (p := ⟨gb403, 0, none⟩) (Kd.V_mono HO401.out (fun k_ hk => (⟨hk, hk.2⟩ : _ ∧ k_ ≠ gb403))) (fun _ hk => hk.2) (.int .i64 t398)) (fun _ hk => hk.2) (.slice Ao65 t399.length co65)) (fun _ h_ => h_.1))) hb); have n6_ := Aside0.mk (blk_below (g := gb379) (o := .cells #[.int .i64 a0_0, .slice A0_1 l0_1.length c0_1] 24 (0, 0)) (by (with_reducible repeat (first | refine blk_drewN ?_ _ | refine blk_drew ?_ | refine blk_alloc ?_ _)); refine blk_far ?_ NB379_403.out _; (with_reducible repeat (first | refine blk_drewN ?_ _ | refine blk_drew ?_ | refine blk_alloc ?_ _)); refine blk_far ?_ NB379_403.out _; (with_reducible repeat (first | refine blk_drewN ?_ _ | refine blk_drew ?_ | refine blk_alloc ?_ _)); exact BK379.out) hb); have n7_ := Aside0.mk (blk_below (g := gb390) (o := .cells #[.int .i64 t385, .slice Ao23 t386.length co23] 24 (0, 0)) (by (with_reducible repeat (first | refine blk_drewN ?_ _ | refine blk_drew ?_ | refine blk_alloc ?_ _)); refine blk_far ?_ NB390_403.out _; (with_reducible repeat (first | refine blk_drewN ?_ _ | refine blk_drew ?_ | refine blk_alloc ?_ _)); refine blk_far ?_ NB390_403.out _; (with_reducible repeat (first | refine blk_drewN ?_ _ | refine blk_drew ?_ | refine blk_alloc ?_ _)); exact BK390.out) hb); have n8_ := Aside0.mk (Kd.C_below ((Kd.V_reads' (by (with_reducible repeat (first | apply Kd.V_alloc | apply Kd.V_drewN | apply Kd.V_drew)); exact (Kd.V_mono (Kd.V_far (p := ⟨gb403, 1, none⟩) (Kd.V_far (p := ⟨gb403, 0, none⟩) (Kd.V_mono HL393_1.out (fun k_ hk => (⟨hk, hk.2⟩ : _ ∧ k_ ≠ gb403))) (fun _ hk => hk.2) (.int .i64 t398)) (fun _ hk => hk.2) (.slice Ao65 t399.length co65)) (fun _ h_ => h_.1)))).2.2) hb); have n9_ := Aside0.mk (blk_below (g := gb403) (o := .cells #[.int .i64 t398, .slice Ao65 t399.length co65] 24 (0, 0)) (by (with_reducible repeat (first | refine blk_drewN ?_ _ | refine blk_drew ?_ | refine blk_alloc ?_ _)); refine blk_put (cs := #[.int .i64 t398, .slice none 0 0]) ?_ 1 _ rfl; (with_reducible repeat (first | refine blk_drewN ?_ _ | refine blk_drew ?_ | refine blk_alloc ?_ _)); refine blk_put (cs := #[.int .i64 0, .slice none 0 0]) ?_ 0 _ rfl; (with_reducible repeat (first | refine blk_drewN ?_ _ | refine blk_drew ?_ | refine blk_alloc ?_ _)); exact BK403.out) hb); have n10_ := Aside0.mk (below_step (by repeat (first | (with_reducible first | exact HB.out | apply below_alloc | apply pw_below_drewN | apply below_drew1 | refine below_set ?_ GE379.out | refine below_set ?_ GE390.out | refine below_set ?_ GE403.out) | exact HB.out)) hb); clear HO_8; clear HO_63; clear HO_391001; clear HL393_1; clear HO396; clear HO401; clear BK379; clear BK390; clear HR393_1; clear BK403; clear HB; have HO_8 := n0_; have HO_63 := n1_; have HO_391001 := n2_; have HL393_1 := n3_; have HO396 := n4_; have HO401 := n5_; have BK379 := n6_; have BK390 := n7_; have HR393_1 := n8_; have BK403 := n9_; have HB := n10_; clear n0_ n1_ n2_ n3_ n4_ n5_ n6_ n7_ n8_ n9_ n10_; (try clear hb); (try clear hb2); (try clear hk); (try clear hi)))
                            go_ret
                            exact ⟨by first | rfl | (simp [errW_none, errW_some] <;> rfl) | (simp only [← hji48]; first | rfl | (simp [errW_none, errW_some] <;> rfl)) | (simp [*, errW_none, errW_some] <;> rfl) | (rw [Int.tmod_eq_emod_of_nonneg (Int.natCast_nonneg _)]; rfl), by repeat (first | (with_reducible first | exact HB.out | apply below_alloc | apply pw_below_drewN | apply below_drew1 | refine below_set ?_ GE379.out | refine below_set ?_ GE390.out | refine below_set ?_ GE403.out) | exact HB.out)⟩
                          · replace c54 := Bool.eq_false_iff.mpr c54
                            subst c54
                            have H1 : (none) = some r := by rw [if_neg (show ¬ (false = true) by decide)] at H; exact H
                            clear H
                            have H := H1
                            clear H1
                            exact absurd H (by simp)
                        · replace c53 := Bool.eq_false_iff.mpr c53
                          subst c53
                          have H1 : (none) = some r := by rw [if_neg (show ¬ (false = true) by decide)] at H; exact H
                          clear H
                          have H := H1
                          clear H1
                          exact absurd H (by simp)
                      · rw [if_neg c50] at H
                        exact absurd H (by simp)
                    · rw [if_neg c49] at H
                      exact absurd H (by simp)
    · rw [if_neg c10] at H
      have c10b0 : (t384 == 0) = false := beq_eq_false_iff_ne.mpr c10
      have c10b1 : (t384 != 0) = true := bne_iff_ne.mpr c10
      by_cases c68 : t380 = true
      · subst c68
        have H1 : (some ((t381.length : Int) == 0)) = some r := by rw [if_pos rfl] at H; exact H
        clear H
        have H := H1
        clear H1
        obtain rfl := Option.some.inj H
        go_enter Try.func8, Try.ntmps8
        go_wp2_with (first | ((with_reducible refine gate_dst (N := 3) rfl ?_); (try (refine gate_guard (by rfl) ?_; dsimp only)); refine box_event ?hg (N := 3) ?hd (cs := #[.int .i64 a0_0, .slice A0_1 l0_1.length c0_1]) (t := 24) ?hr ?_; (case hd => rfl); (case hg => rfl); (case hr => first | (go_simp; done) | (go_simp; rfl)); intro gb379 hg w69 hbox hb; have n0_ := Aside0.mk (below_step (by repeat (first | (with_reducible first | exact HB.out | apply below_alloc | apply pw_below_drewN | apply below_drew1) | exact HB.out)) hb); have n1_ := Aside0.mk (hbox); have n2_ := Aside0.mk ((by rw [hg]; exact (below_size (by repeat (first | (with_reducible first | exact HB.out | apply below_alloc | apply pw_below_drewN | apply below_drew1) | exact HB.out))) : w.heap.size ≤ gb379)); have n3_ := Aside0.mk ((by rw [hg]; exact (below_size (by repeat (first | (with_reducible first | exact HB.out | apply below_alloc | apply pw_below_drewN | apply below_drew1) | exact HB.out))) : w.heap.size ≤ gb379)); clear HB; have HB := n0_; have BK379 := n1_; have GW379 := n2_; have GE379 := n3_; clear n0_ n1_ n2_ n3_; clear hb hbox hg) | ((with_reducible refine gate_callee (f := 10) rfl ?_); refine goesL_ (some 18) rfl rfl Try.func10 (by kernel_rfl) rfl #[] rfl (by (try simp only [List.map_toArray, List.map_cons, List.map_nil]); first | done | rfl | (simp only [List.length_drop, List.length_take]; rfl)) ?_; (with_reducible refine (chargeparklaw17_head.calls k  true _ A4.out).mono ?_); rintro e w70 ⟨rfl, hb⟩; refine ⟨_, rfl, ?_⟩; have n0_ := Aside0.mk (blk_below (g := gb379) (o := .cells #[.int .i64 a0_0, .slice A0_1 l0_1.length c0_1] 24 (0, 0)) (by (with_reducible repeat (first | refine blk_drewN ?_ _ | refine blk_drew ?_ | refine blk_alloc ?_ _)); exact BK379.out) hb); have n1_ := Aside0.mk (below_step (by repeat (first | (with_reducible first | exact HB.out | apply below_alloc | apply pw_below_drewN | apply below_drew1 | refine below_set ?_ GE379.out) | exact HB.out)) hb); clear BK379; clear HB; have BK379 := n0_; have HB := n1_; clear n0_ n1_; (try clear hb); (try clear hb2); (try clear hk); (try clear hi); have hcz71_0 : w70.cell? ⟨gb379, 0, none⟩ = some (.int .i64 a0_0) := (blk_cell BK379.out 0).trans rfl; have hcz71_1 : w70.cell? ⟨gb379, 1, none⟩ = some (.slice A0_1 l0_1.length c0_1) := (blk_cell BK379.out 1).trans rfl; have hfz71_0 := blk_frozen BK379.out 0; have hfz71_1 := blk_frozen BK379.out 1) | ((with_reducible refine gate_callee (f := 16) rfl ?_); refine goesL_ (some 27) rfl rfl Try.func16 (by kernel_rfl) rfl #[.agg #[.int .i64 a0_0, .slice A0_1 l0_1.length c0_1], .int .i64 a1] rfl (by (try simp only [List.map_toArray, List.map_cons, List.map_nil]); first | done | rfl | (simp only [List.length_drop, List.length_take]; rfl)) ?_; (with_reducible refine (flash_Erase.calls a0_0 _ _ l0_1 a1 t381 t384 _ ?side1 ?side2 A9.out).mono ?_); (case side1 => repeat (first | exact (Kd.C_below HR0_1.out HB.out) | (with_reducible refine Kd.C_alloc ?_ _) | (with_reducible refine Kd.C_drewN ?_ _) | (with_reducible refine Kd.C_drew ?_))); (case side2 => exact HC0_1.out); rintro e w72 ⟨v382, rfl, ho0, hb⟩; refine ⟨_, rfl, ?_⟩; have n0_ := Aside0.mk (Kd.N_lower (Kd.N_mono (ok' := fun k_ => k_ ≠ gb379) ho0 (fun k_ hk_ => (Kd.freshB (g := gb379) (o := .cells #[.int .i64 a0_0, .slice A0_1 l0_1.length c0_1] 24 (0, 0)) (by (with_reducible repeat (first | refine blk_drewN ?_ _ | refine blk_drew ?_ | refine blk_alloc ?_ _)); exact BK379.out) k_ hk_))) (below_size (by repeat (first | (with_reducible first | exact HB.out | apply below_alloc | apply pw_below_drewN | apply below_drew1 | refine below_set ?_ GE379.out) | exact HB.out)))); have n1_ := Aside0.mk (blk_below (g := gb379) (o := .cells #[.int .i64 a0_0, .slice A0_1 l0_1.length c0_1] 24 (0, 0)) (by (with_reducible repeat (first | refine blk_drewN ?_ _ | refine blk_drew ?_ | refine blk_alloc ?_ _)); exact BK379.out) hb); have n2_ := Aside0.mk (below_step (by repeat (first | (with_reducible first | exact HB.out | apply below_alloc | apply pw_below_drewN | apply below_drew1 | refine below_set ?_ GE379.out) | exact HB.out)) hb); clear BK379; clear HB; have HO383 := n0_; have BK379 := n1_; have HB := n2_; clear n0_ n1_ n2_; (try clear hb); (try clear hb2); (try clear hk); (try clear hi); (try clear ho0); obtain ⟨Ao73, co73, eo73⟩ := Kd.N_slice HO383.out; subst eo73))
        go_ret
        exact ⟨by first | rfl | (simp [errW_none, errW_some] <;> rfl) | (simp [*, errW_none, errW_some] <;> rfl) | (rw [Int.tmod_eq_emod_of_nonneg (Int.natCast_nonneg _)]; rfl), by repeat (first | (with_reducible first | exact HB.out | apply below_alloc | apply pw_below_drewN | apply below_drew1 | refine below_set ?_ GE379.out) | exact HB.out)⟩
      · replace c68 := Bool.eq_false_iff.mpr c68
        subst c68
        have H1 : (none) = some r := by rw [if_neg (show ¬ (false = true) by decide)] at H; exact H
        clear H
        have H := H1
        clear H1
        exact absurd H (by simp)

/-- THE ONE PURE STATEMENT of chargeparklaw17_FlashErasing: yours. -/
def chargeparklaw17_FlashErasing.Pure : Prop := ∀ (a0 : S24) (a1 : Int) (a2 : Int), ok24 a0 → (Lit.int .i64 a1).wf = true → (Lit.int .u16 a2).wf = true → ∃ k, chargeparklaw17_FlashErasing.f k a0.f0 a0.f1 a1 a2 = some true
theorem chargeparklaw17_FlashErasing.walk (P : chargeparklaw17_FlashErasing.Pure) (a0 : S24) (A0_1 : Option Addr) (c0_1 : Nat) (a1 : Int) (a2 : Int) (w : World) (ho0 : ok24 a0) (hC0_1 : Kd.C (Kd.int .u8) w A0_1 a0.f1.length a0.f1) (hc0_1 : a0.f1.length ≤ c0_1) (w1 : (Lit.int .i64 a1).wf = true) (w2 : (Lit.int .u16 a2).wf = true) :
    Calls Try.prog 8 #[.agg #[.int .i64 a0.f0, .slice A0_1 a0.f1.length c0_1], .int .i64 a1, .int .u16 a2] w fun e w' => e = .returned (.bool true) ∧ Below w.heap.size w w' := by
  obtain ⟨k, h⟩ := P a0 a1 a2 ho0 w1 w2
  refine (chargeparklaw17_FlashErasing.calls k a0.f0 _ _ a0.f1 a1 a2 true w hC0_1 hc0_1 h).mono ?_
  rintro e w' ⟨rfl, hd⟩
  exact ⟨rfl, hd⟩


end Go.Proofs.Ytdblbilgnfomaaa.PAll
