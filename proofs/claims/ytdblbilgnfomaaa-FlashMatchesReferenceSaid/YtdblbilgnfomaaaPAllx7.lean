-- Written by a program of this session (xprint.py, over the kit's print.py), with contracts proved by hand.
import Derived.Test.YtdblbilgnfomaaaPAllx0
import Derived.Test.YtdblbilgnfomaaaPAllx6
namespace Go.Proofs.Ytdblbilgnfomaaa.PAll
open Go.RowKit Go.Proofs.Ytdblbilgnfomaaa.Open Go.Proofs.YtdblbilgnfomaaaW.PrintWords Go.Proofs.YtdblbilgnfomaaaW.PrintLast Go.Proofs.YtdblbilgnfomaaaW.PrintMore
attribute [local go_sem] max2_int min2_int max_two min_two max_three min_three max_four min_four   -- for this text's walks alone
set_option linter.unusedVariables false
set_option linter.unusedSimpArgs false

/-! ### chargeparkref17_Program: function 15 -/
mutual
def chargeparkref17_Program.j0 : Nat → Int → List Int → Bool → Int → List Int → Option ((List (S24)) × Int)
  | 0, _, _, _, _, _ => none
  | k + 1, x1, x2, x17, x198000, x198001 => if x17 = true then (some (([] : List (S24)), 1)) else (if x1 > (x198001.length : Int) then (chargeparkref17_Program.j1 k x1 x2 true x198000 x198001) else (chargeparkref17_Program.j1 k x1 x2 (decide ((x2.length : Int) > (wrap64 ((x198001.length : Int) - x1)))) x198000 x198001))
def chargeparkref17_Program.j1 : Nat → Int → List Int → Bool → Int → List Int → Option ((List (S24)) × Int)
  | 0, _, _, _, _, _ => none
  | k + 1, x1, x2, x32, x198000, x198001 => if x32 = true then (some (([] : List (S24)), 3)) else (chargeparkref17_Program.l0 k x1 x2 (([(⟨x198000, x198001⟩ : S24)] : List (S24))) 0)
def chargeparkref17_Program.l0 : Nat → Int → List Int → List (S24) → Int → Option ((List (S24)) × Int)
  | 0, _, _, _, _ => none
  | k + 1, x1, x2, x8, x9 => if x9 < (x2.length : Int) then (if 0 ≤ x9 then (if x9 < (x8.length : Int) then (if 0 ≤ (wrap64 (x1 + x9)) then (if (wrap64 (x1 + x9)) < (((rd_T24 x8 x9).f1).length : Int) then ((chargeparkref17_With.f ((rd_T24 x8 x9).f0) ((rd_T24 x8 x9).f1) (wrap64 (x1 + x9)) (Go.bits .and .u8 (rd ((rd_T24 x8 x9).f1) (wrap64 (x1 + x9))) (rd x2 x9))).bind fun bt206 => (if x8.length < 4398046511104 then (chargeparkref17_Program.l0 k x1 x2 (x8 ++ [(⟨bt206.1, bt206.2⟩ : S24)]) (wrap64 (x9 + 1))) else (none))) else (none)) else (none)) else (none)) else (none)) else (some (x8, 0))
end
def chargeparkref17_Program.f (k : Nat) (a0_0 : Int) (l0_1 : List Int) (a1 : Int) (l2 : List Int) : Option ((List (S24)) × Int) := (chargeparkref17_Valid.f a0_0 l0_1).bind fun t198 => (if t198 = true then (chargeparkref17_Program.j0 k a1 l2 (decide (a1 < 0)) a0_0 l0_1) else (chargeparkref17_Program.j0 k a1 l2 true a0_0 l0_1))
theorem chargeparkref17_Program.mono_l : ∀ k, (∀ y0 y1 y2 y3 y4, LeO (chargeparkref17_Program.j0 k y0 y1 y2 y3 y4) (chargeparkref17_Program.j0 (k + 1) y0 y1 y2 y3 y4)) ∧ (∀ y0 y1 y2 y3 y4, LeO (chargeparkref17_Program.j1 k y0 y1 y2 y3 y4) (chargeparkref17_Program.j1 (k + 1) y0 y1 y2 y3 y4)) ∧ (∀ y0 y1 y2 y3, LeO (chargeparkref17_Program.l0 k y0 y1 y2 y3) (chargeparkref17_Program.l0 (k + 1) y0 y1 y2 y3))
  | 0 => ⟨fun _ _ _ _ _ r h => by simp [chargeparkref17_Program.j0] at h, fun _ _ _ _ _ r h => by simp [chargeparkref17_Program.j1] at h, fun _ _ _ _ r h => by simp [chargeparkref17_Program.l0] at h⟩
  | k + 1 => by
    obtain ⟨ih0, ih1, ih2⟩ := chargeparkref17_Program.mono_l k
    refine ⟨?_, ?_, ?_⟩
    · intro y0 y1 y2 y3 y4
      unfold chargeparkref17_Program.j0
      repeat' first
      | (with_reducible exact ih0 _ _ _ _ _)
      | (with_reducible exact ih1 _ _ _ _ _)
      | (with_reducible exact ih2 _ _ _ _)
      | (with_reducible exact LeO.refl _)
      | (with_reducible exact LeO.none _)
      | (with_reducible refine LeO.ite ?_ ?_)
      | (with_reducible refine LeO.bind ?_ (fun _ => ?_))
      | exact ih0 _ _ _ _ _
      | exact ih1 _ _ _ _ _
      | exact ih2 _ _ _ _
      | exact LeO.none _
      | refine LeO.ite ?_ ?_
      | refine LeO.bind ?_ (fun _ => ?_)
    · intro y0 y1 y2 y3 y4
      unfold chargeparkref17_Program.j1
      repeat' first
      | (with_reducible exact ih0 _ _ _ _ _)
      | (with_reducible exact ih1 _ _ _ _ _)
      | (with_reducible exact ih2 _ _ _ _)
      | (with_reducible exact LeO.refl _)
      | (with_reducible exact LeO.none _)
      | (with_reducible refine LeO.ite ?_ ?_)
      | (with_reducible refine LeO.bind ?_ (fun _ => ?_))
      | exact ih0 _ _ _ _ _
      | exact ih1 _ _ _ _ _
      | exact ih2 _ _ _ _
      | exact LeO.none _
      | refine LeO.ite ?_ ?_
      | refine LeO.bind ?_ (fun _ => ?_)
    · intro y0 y1 y2 y3
      unfold chargeparkref17_Program.l0
      repeat' first
      | (with_reducible exact ih0 _ _ _ _ _)
      | (with_reducible exact ih1 _ _ _ _ _)
      | (with_reducible exact ih2 _ _ _ _)
      | (with_reducible exact LeO.refl _)
      | (with_reducible exact LeO.none _)
      | (with_reducible refine LeO.ite ?_ ?_)
      | (with_reducible refine LeO.bind ?_ (fun _ => ?_))
      | exact ih0 _ _ _ _ _
      | exact ih1 _ _ _ _ _
      | exact ih2 _ _ _ _
      | exact LeO.none _
      | refine LeO.ite ?_ ?_
      | refine LeO.bind ?_ (fun _ => ?_)
theorem chargeparkref17_Program.mono : ∀ a0 a1 a2 a3 k, LeO (chargeparkref17_Program.f k a0 a1 a2 a3) (chargeparkref17_Program.f (k + 1) a0 a1 a2 a3) := by
  intro a0 a1 a2 a3 k
  obtain ⟨ih0, ih1, ih2⟩ := chargeparkref17_Program.mono_l k
  unfold chargeparkref17_Program.f
  repeat' first
      | (with_reducible exact ih0 _ _ _ _ _)
      | (with_reducible exact ih1 _ _ _ _ _)
      | (with_reducible exact ih2 _ _ _ _)
      | (with_reducible exact LeO.refl _)
      | (with_reducible exact LeO.none _)
      | (with_reducible refine LeO.ite ?_ ?_)
      | (with_reducible refine LeO.bind ?_ (fun _ => ?_))
      | exact ih0 _ _ _ _ _
      | exact ih1 _ _ _ _ _
      | exact ih2 _ _ _ _
      | exact LeO.none _
      | refine LeO.ite ?_ ?_
      | refine LeO.bind ?_ (fun _ => ?_)
def chargeparkref17_Program.T10 : Bool × List (List Nat × List Nat) := (true, [([], []), ([], []), ([], []), ([], []), ([2, 3], [2, 3]), ([], []), ([5], [5]), ([], []), ([], []), ([7, 8], [7, 8]), ([6, 9], [6, 9]), ([10], [10]), ([], []), ([], []), ([12, 13], [12, 13]), ([14], [14]), ([11, 15], [11, 15]), ([1, 4, 16], [1, 4, 16]), ([17], [17]), ([0, 18, 17], [0, 18]), ([19, 19, 0, 1, 2, 3, 4, 5, 6, 7, 8, 9, 10, 11, 12, 13, 14, 15, 16, 17, 18, 19], [0, 19])])
def chargeparkref17_Program.B10 : List Nat := [0, 0, 0, 0, 12, 0, 32, 0, 0, 384, 992, 2016, 0, 0, 12288, 28672, 65504, 131070, 262142, 524287, 1048575]
theorem chargeparkref17_Program.tab10 : rtab .any (opsOf Try.f15 10) = chargeparkref17_Program.T10 := by kernel_rfl
theorem chargeparkref17_Program.bits10 : waitsOk chargeparkref17_Program.T10.2 chargeparkref17_Program.B10 = true := by kernel_rfl
set_option maxHeartbeats 8000000 in
set_option maxRecDepth 100000 in
theorem chargeparkref17_Program.calls (k : Nat) (a0_0 : Int) (P0_1_ : Nat → Prop) (A0_1 : Option Addr) (c0_1 : Nat) (l0_1 : List Int) (a1 : Int) (A2 : Option Addr) (c2 : Nat) (l2 : List Int) (r1 : List (S24)) (r2 : Int) (w : World) (hs0_1 : Kd.V (Kd.int .u8) 5 w w.heap.size (fun k_ => P0_1_ k_) (.slice A0_1 l0_1.length c0_1) l0_1) (hr2 : Kd.C (Kd.int .u8) w A2 l2.length l2) (hc2 : l2.length ≤ c2) (h : chargeparkref17_Program.f k a0_0 l0_1 a1 l2 = some (r1, r2)) :
    Calls Try.prog 15 #[.agg #[.int .i64 a0_0, .slice A0_1 l0_1.length c0_1], .int .i64 a1, .slice A2 l2.length c2] w fun e w' => ∃ v0_ : Value, e = .returned (.tuple #[v0_, .int .i64 r2]) ∧ Kd.N k24 24 w' w.heap.size (fun k_ => (P0_1_ k_ ∨ w.heap.size ≤ k_)) v0_ r1 ∧ Below w.heap.size w w' := by
  have hu24 := Try.underlying24
  have HO0_1 := Aside0.mk (show Kd.V (Kd.int .u8) 5 w w.heap.size (fun k_ => (P0_1_ k_ ∨ w.heap.size ≤ k_)) (.slice A0_1 l0_1.length c0_1) l0_1 from Kd.V_mono hs0_1 (fun k_ hk => .inl hk))
  have HR2 := Aside0.mk hr2
  have HC2 := Aside0.mk hc2
  clear hr2 hc2
  have HB := Aside0.mk (Below.refl w.heap.size w)
  have H : ((chargeparkref17_Valid.f a0_0 l0_1).bind fun t198 => (if t198 = true then (chargeparkref17_Program.j0 k a1 l2 (decide (a1 < 0)) a0_0 l0_1) else (chargeparkref17_Program.j0 k a1 l2 true a0_0 l0_1))) = some (r1, r2) := h
  clear h
  have HC4 := Aside0.mk H
  clear H
  go_enter Try.func15, Try.ntmps15
  go_upto_region 1 with (first | ((with_reducible refine gate_dst (N := 3) rfl ?_); (try (refine gate_guard (by rfl) ?_; dsimp only)); refine box_event ?hg (N := 3) ?hd (cs := #[.int .i64 a0_0, .slice A0_1 l0_1.length c0_1]) (t := 24) ?hr ?_; (case hd => rfl); (case hg => rfl); (case hr => first | (go_simp; done) | (go_simp; rfl)); intro gb197 hg w5 hbox hb; have n0_ := Aside0.mk (Kd.V_below (Kd.V_elderB (by (with_reducible repeat (first | apply Kd.V_alloc | apply Kd.V_drewN | apply Kd.V_drew)); exact HO0_1.out) gb197 (Nat.le_of_eq hg.symm)) hb); have n1_ := Aside0.mk (below_step (by repeat (first | (with_reducible first | exact HB.out | apply below_alloc | apply pw_below_drewN | apply below_drew1) | exact HB.out)) hb); have n2_ := Aside0.mk (hbox); have n3_ := Aside0.mk ((by rw [hg]; exact (below_size (by repeat (first | (with_reducible first | exact HB.out | apply below_alloc | apply pw_below_drewN | apply below_drew1) | exact HB.out))) : w.heap.size ≤ gb197)); have n4_ := Aside0.mk ((by rw [hg]; exact (below_size (by repeat (first | (with_reducible first | exact HB.out | apply below_alloc | apply pw_below_drewN | apply below_drew1) | exact HB.out))) : w.heap.size ≤ gb197)); clear HO0_1; clear HB; have HO0_1 := n0_; have HB := n1_; have BK197 := n2_; have GW197 := n3_; have GE197 := n4_; clear n0_ n1_ n2_ n3_ n4_; clear hb hbox hg))
  (try simp only [Act.put, List.setIfInBounds_toArray, List.set_cons_zero, List.set_cons_succ])
  go_cut [17] (fun v17 wc => ∃ (kq : Nat) (x17_3 : Bool), v17 = .bool x17_3 ∧ Aside0 (chargeparkref17_Program.j0 kq a1 l2 x17_3 a0_0 l0_1 = some (r1, r2)) ∧ Aside0 (kq ≤ k) ∧ Aside0 (Kd.V (Kd.int .u8) 5 wc w.heap.size (fun k_ => (P0_1_ k_ ∨ w.heap.size ≤ k_) ∧ k_ ≠ gb197) (.slice A0_1 l0_1.length c0_1) l0_1) ∧ Aside0 (wc.heap[gb197]? = some (.cells #[.int .i64 a0_0, (.slice A0_1 l0_1.length c0_1)] 24 (0, 0))) ∧ Aside0 (Below w.heap.size w wc))
  case first =>
    have H := HC4.out
    clear HC4
    replace H := Option.bind_eq_some_iff.mp H
    obtain ⟨t198, A60, H⟩ := H
    replace H : (if t198 = true then (chargeparkref17_Program.j0 k a1 l2 (decide (a1 < 0)) a0_0 l0_1) else (chargeparkref17_Program.j0 k a1 l2 true a0_0 l0_1)) = some (r1, r2) := H
    have A6 := Aside0.mk A60
    clear A60
    by_cases c7 : t198 = true
    · subst c7
      have H1 : (chargeparkref17_Program.j0 k a1 l2 (decide (a1 < 0)) a0_0 l0_1) = some (r1, r2) := by rw [if_pos rfl] at H; exact H
      clear H
      have H := H1
      clear H1
      have H' := Aside0.mk H
      clear H
      have hcz8_0 : w5.cell? ⟨gb197, 0, none⟩ = some (.int .i64 a0_0) := (blk_cell BK197.out 0).trans rfl
      have hcz8_1 : w5.cell? ⟨gb197, 1, none⟩ = some (.slice A0_1 l0_1.length c0_1) := (blk_cell BK197.out 1).trans rfl
      have hfz8_0 := blk_frozen BK197.out 0
      have hfz8_1 := blk_frozen BK197.out 1
      go_wp2_with (first | ((with_reducible refine gate_callee (f := 19) rfl ?_); refine goesL_ (some 12) rfl rfl Try.func19 (by kernel_rfl) rfl #[.agg #[.int .i64 a0_0, .slice A0_1 l0_1.length c0_1]] rfl (by (try simp only [List.map_toArray, List.map_cons, List.map_nil]); first | done | rfl | (simp only [List.length_drop, List.length_take]; rfl)) ?_; (with_reducible refine (chargeparkref17_Valid.calls a0_0 _ _ l0_1 true _ ?side1 ?side2 A6.out).mono ?_); (case side1 => repeat (first | exact (Kd.V_reads' HO0_1.out).2.2 | (with_reducible refine Kd.C_alloc ?_ _) | (with_reducible refine Kd.C_drewN ?_ _) | (with_reducible refine Kd.C_drew ?_))); (case side2 => exact (Kd.V_reads' HO0_1.out).2.1); rintro e w9 ⟨rfl, hb⟩; refine ⟨_, rfl, ?_⟩; have n0_ := Aside0.mk (Kd.V_below (by (with_reducible repeat (first | apply Kd.V_alloc | apply Kd.V_drewN | apply Kd.V_drew)); exact HO0_1.out) hb); have n1_ := Aside0.mk (blk_below (g := gb197) (o := .cells #[.int .i64 a0_0, .slice A0_1 l0_1.length c0_1] 24 (0, 0)) (by (with_reducible repeat (first | refine blk_drewN ?_ _ | refine blk_drew ?_ | refine blk_alloc ?_ _)); exact BK197.out) hb); have n2_ := Aside0.mk (below_step (by repeat (first | (with_reducible first | exact HB.out | apply below_alloc | apply pw_below_drewN | apply below_drew1 | refine below_set ?_ GE197.out) | exact HB.out)) hb); clear HO0_1; clear BK197; clear HB; have HO0_1 := n0_; have BK197 := n1_; have HB := n2_; clear n0_ n1_ n2_; (try clear hb); (try clear hb2); (try clear hk); (try clear hi)))
      go_meet
      case rel => exact ⟨_, (decide (a1 < 0)), (by first | rfl | (simp; done) | (simp [*]; done) | (simp [*, Int.tdiv_eq_ediv_of_nonneg]; done)), H', ⟨by first | omega | exact Nat.le_refl _⟩, ⟨by (with_reducible repeat (first | apply Kd.V_alloc | apply Kd.V_drewN | apply Kd.V_drew)); exact HO0_1.out⟩, ⟨by (with_reducible repeat (first | refine blk_drewN ?_ _ | refine blk_drew ?_ | refine blk_alloc ?_ _)); exact BK197.out⟩, ⟨by repeat (first | (with_reducible first | exact HB.out | apply below_alloc | apply pw_below_drewN | apply below_drew1 | refine below_set ?_ GE197.out) | exact HB.out)⟩⟩
    · replace c7 := Bool.eq_false_iff.mpr c7
      subst c7
      have H1 : (chargeparkref17_Program.j0 k a1 l2 true a0_0 l0_1) = some (r1, r2) := by rw [if_neg (show ¬ (false = true) by decide)] at H; exact H
      clear H
      have H := H1
      clear H1
      have H' := Aside0.mk H
      clear H
      have hcz10_0 : w5.cell? ⟨gb197, 0, none⟩ = some (.int .i64 a0_0) := (blk_cell BK197.out 0).trans rfl
      have hcz10_1 : w5.cell? ⟨gb197, 1, none⟩ = some (.slice A0_1 l0_1.length c0_1) := (blk_cell BK197.out 1).trans rfl
      have hfz10_0 := blk_frozen BK197.out 0
      have hfz10_1 := blk_frozen BK197.out 1
      go_wp2_with (first | ((with_reducible refine gate_callee (f := 19) rfl ?_); refine goesL_ (some 12) rfl rfl Try.func19 (by kernel_rfl) rfl #[.agg #[.int .i64 a0_0, .slice A0_1 l0_1.length c0_1]] rfl (by (try simp only [List.map_toArray, List.map_cons, List.map_nil]); first | done | rfl | (simp only [List.length_drop, List.length_take]; rfl)) ?_; (with_reducible refine (chargeparkref17_Valid.calls a0_0 _ _ l0_1 false _ ?side1 ?side2 A6.out).mono ?_); (case side1 => repeat (first | exact (Kd.V_reads' HO0_1.out).2.2 | (with_reducible refine Kd.C_alloc ?_ _) | (with_reducible refine Kd.C_drewN ?_ _) | (with_reducible refine Kd.C_drew ?_))); (case side2 => exact (Kd.V_reads' HO0_1.out).2.1); rintro e w11 ⟨rfl, hb⟩; refine ⟨_, rfl, ?_⟩; have n0_ := Aside0.mk (Kd.V_below (by (with_reducible repeat (first | apply Kd.V_alloc | apply Kd.V_drewN | apply Kd.V_drew)); exact HO0_1.out) hb); have n1_ := Aside0.mk (blk_below (g := gb197) (o := .cells #[.int .i64 a0_0, .slice A0_1 l0_1.length c0_1] 24 (0, 0)) (by (with_reducible repeat (first | refine blk_drewN ?_ _ | refine blk_drew ?_ | refine blk_alloc ?_ _)); exact BK197.out) hb); have n2_ := Aside0.mk (below_step (by repeat (first | (with_reducible first | exact HB.out | apply below_alloc | apply pw_below_drewN | apply below_drew1 | refine below_set ?_ GE197.out) | exact HB.out)) hb); clear HO0_1; clear BK197; clear HB; have HO0_1 := n0_; have BK197 := n1_; have HB := n2_; clear n0_ n1_ n2_; (try clear hb); (try clear hb2); (try clear hk); (try clear hi)))
      go_meet
      case rel => exact ⟨_, (true), (by first | rfl | (simp; done) | (simp [*]; done) | (simp [*, Int.tdiv_eq_ediv_of_nonneg]; done)), H', ⟨by first | omega | exact Nat.le_refl _⟩, ⟨by (with_reducible repeat (first | apply Kd.V_alloc | apply Kd.V_drewN | apply Kd.V_drew)); exact HO0_1.out⟩, ⟨by (with_reducible repeat (first | refine blk_drewN ?_ _ | refine blk_drew ?_ | refine blk_alloc ?_ _)); exact BK197.out⟩, ⟨by repeat (first | (with_reducible first | exact HB.out | apply below_alloc | apply pw_below_drewN | apply below_drew1 | refine below_set ?_ GE197.out) | exact HB.out)⟩⟩
  case rest =>
    clear HC4
    try clear c1
    try clear c2
    try clear p2
    try clear c7
    try clear hcz10_0
    try clear hcz10_1
    try clear hcz8_0
    try clear hcz8_1
    try clear hfz10_0
    try clear hfz10_1
    try clear hfz8_0
    try clear hfz8_1
    obtain ⟨kq, x17_3, rfl, HA, HJ3, HO_198001, BK197, HB⟩ := hcut
    cases kq with
    | zero => exact absurd HA.out (by simp [chargeparkref17_Program.j0])
    | succ kj3 =>
      have H := HA.out
      clear HA
      simp only [chargeparkref17_Program.j0] at H
      by_cases c12 : x17_3 = true
      · subst c12
        have H1 : (some (([] : List (S24)), 1)) = some (r1, r2) := by rw [if_pos rfl] at H; exact H
        clear H
        have H := H1
        clear H1
        simp only [Option.some.injEq, Prod.mk.injEq] at H
        obtain ⟨rfl, rfl⟩ := H
        go_wp2
        go_ret2
        exact ⟨_, by first | rfl | (simp [errW_none, errW_some] <;> rfl) | (simp [*, errW_none, errW_some] <;> rfl), by first | exact Kd.S_nil _ _ _ _ _ | exact Kd.N_nil _ _ _ _ _ | exact Kd.V_nil _ _ _ _ _ | exact Kd.Q_nil _ _ _ _ _ | exact Kd.R_nil _ _ _ _ _, by repeat (first | (with_reducible first | exact HB.out | apply below_alloc | apply pw_below_drewN | apply below_drew1 | refine below_set ?_ GE197.out) | exact HB.out)⟩
      · replace c12 := Bool.eq_false_iff.mpr c12
        subst c12
        have H1 : (if a1 > (l0_1.length : Int) then (chargeparkref17_Program.j1 kj3 a1 l2 true a0_0 l0_1) else (chargeparkref17_Program.j1 kj3 a1 l2 (decide ((l2.length : Int) > (wrap64 ((l0_1.length : Int) - a1)))) a0_0 l0_1)) = some (r1, r2) := by rw [if_neg (show ¬ (false = true) by decide)] at H; exact H
        clear H
        have H := H1
        clear H1
        have HC13 := Aside0.mk H
        clear H
        go_upto_region 3 with (fail)
        go_cut [32] (fun v32 wc => ∃ (kq : Nat) (x32_12 : Bool), v32 = .bool x32_12 ∧ Aside0 (chargeparkref17_Program.j1 kq a1 l2 x32_12 a0_0 l0_1 = some (r1, r2)) ∧ Aside0 (kq ≤ kj3) ∧ Aside0 (Kd.V (Kd.int .u8) 5 wc w.heap.size (fun k_ => (P0_1_ k_ ∨ w.heap.size ≤ k_) ∧ k_ ≠ gb197) (.slice A0_1 l0_1.length c0_1) l0_1) ∧ Aside0 (wc.heap[gb197]? = some (.cells #[.int .i64 a0_0, (.slice A0_1 l0_1.length c0_1)] 24 (0, 0))) ∧ Aside0 (Below w.heap.size w wc))
        case first =>
          have H := HC13.out
          clear HC13
          by_cases c14 : a1 > (l0_1.length : Int)
          · rw [if_pos c14] at H
            have c14b0 : decide ((l0_1.length : Int) < a1) = true := decide_eq_true c14
            clear c14
            (first | rw [c14b0] | (simp only [i64_w, i32_w]; rw [c14b0]) | skip)
            have H' := Aside0.mk H
            clear H
            have hcz15_0 : wc.cell? ⟨gb197, 0, none⟩ = some (.int .i64 a0_0) := (blk_cell BK197.out 0).trans rfl
            have hcz15_1 : wc.cell? ⟨gb197, 1, none⟩ = some (.slice A0_1 l0_1.length c0_1) := (blk_cell BK197.out 1).trans rfl
            have hfz15_0 := blk_frozen BK197.out 0
            have hfz15_1 := blk_frozen BK197.out 1
            go_wp2
            go_meet
            case rel => exact ⟨_, (true), (by first | rfl | (simp; done) | (simp [*]; done) | (simp [*, Int.tdiv_eq_ediv_of_nonneg]; done)), H', ⟨by have := HJ3.out; first | omega | exact Nat.le_refl _⟩, ⟨by (with_reducible repeat (first | apply Kd.V_alloc | apply Kd.V_drewN | apply Kd.V_drew)); exact HO_198001.out⟩, ⟨by (with_reducible repeat (first | refine blk_drewN ?_ _ | refine blk_drew ?_ | refine blk_alloc ?_ _)); exact BK197.out⟩, ⟨by repeat (first | (with_reducible first | exact HB.out | apply below_alloc | apply pw_below_drewN | apply below_drew1 | refine below_set ?_ GE197.out) | exact HB.out)⟩⟩
          · rw [if_neg c14] at H
            have c14b0 : decide ((l0_1.length : Int) < a1) = false := decide_eq_false c14
            clear c14
            (first | rw [c14b0] | (simp only [i64_w, i32_w]; rw [c14b0]) | skip)
            have H' := Aside0.mk H
            clear H
            have hcz16_0 : wc.cell? ⟨gb197, 0, none⟩ = some (.int .i64 a0_0) := (blk_cell BK197.out 0).trans rfl
            have hcz16_1 : wc.cell? ⟨gb197, 1, none⟩ = some (.slice A0_1 l0_1.length c0_1) := (blk_cell BK197.out 1).trans rfl
            have hfz16_0 := blk_frozen BK197.out 0
            have hfz16_1 := blk_frozen BK197.out 1
            go_wp2
            go_meet
            case rel => exact ⟨_, (decide ((l2.length : Int) > (wrap64 ((l0_1.length : Int) - a1)))), (by first | rfl | (simp; done) | (simp [*]; done) | (simp [*, Int.tdiv_eq_ediv_of_nonneg]; done)), H', ⟨by have := HJ3.out; first | omega | exact Nat.le_refl _⟩, ⟨by (with_reducible repeat (first | apply Kd.V_alloc | apply Kd.V_drewN | apply Kd.V_drew)); exact HO_198001.out⟩, ⟨by (with_reducible repeat (first | refine blk_drewN ?_ _ | refine blk_drew ?_ | refine blk_alloc ?_ _)); exact BK197.out⟩, ⟨by repeat (first | (with_reducible first | exact HB.out | apply below_alloc | apply pw_below_drewN | apply below_drew1 | refine below_set ?_ GE197.out) | exact HB.out)⟩⟩
        case rest =>
          clear HC13
          try clear c1
          try clear c2
          try clear p2
          try clear p6
          try clear c7
          try clear c12
          try clear c14
          try clear c14b0
          try clear c15
          try clear hcz10_0
          try clear hcz10_1
          try clear hcz15_0
          try clear hcz15_1
          try clear hcz16_0
          try clear hcz16_1
          try clear hcz8_0
          try clear hcz8_1
          try clear hfz10_0
          try clear hfz10_1
          try clear hfz15_0
          try clear hfz15_1
          try clear hfz16_0
          try clear hfz16_1
          try clear hfz8_0
          try clear hfz8_1
          try clear p2
          obtain ⟨kq, x32_12, rfl, HA, HJ12, HO_198001, BK197, HB⟩ := hcut
          cases kq with
          | zero => exact absurd HA.out (by simp [chargeparkref17_Program.j1])
          | succ kj12 =>
            have H := HA.out
            clear HA
            simp only [chargeparkref17_Program.j1] at H
            by_cases c17 : x32_12 = true
            · subst c17
              have H1 : (some (([] : List (S24)), 3)) = some (r1, r2) := by rw [if_pos rfl] at H; exact H
              clear H
              have H := H1
              clear H1
              simp only [Option.some.injEq, Prod.mk.injEq] at H
              obtain ⟨rfl, rfl⟩ := H
              go_wp2
              go_ret2
              exact ⟨_, by first | rfl | (simp [errW_none, errW_some] <;> rfl) | (simp [*, errW_none, errW_some] <;> rfl), by first | exact Kd.S_nil _ _ _ _ _ | exact Kd.N_nil _ _ _ _ _ | exact Kd.V_nil _ _ _ _ _ | exact Kd.Q_nil _ _ _ _ _ | exact Kd.R_nil _ _ _ _ _, by repeat (first | (with_reducible first | exact HB.out | apply below_alloc | apply pw_below_drewN | apply below_drew1 | refine below_set ?_ GE197.out) | exact HB.out)⟩
            · replace c17 := Bool.eq_false_iff.mpr c17
              subst c17
              have H1 : (chargeparkref17_Program.l0 kj12 a1 l2 (([(⟨a0_0, l0_1⟩ : S24)] : List (S24))) 0) = some (r1, r2) := by rw [if_neg (show ¬ (false = true) by decide)] at H; exact H
              clear H
              have H := H1
              clear H1
              obtain ⟨y199, hy199⟩ : ∃ y_ : List (S24), y_ = (([(⟨a0_0, l0_1⟩ : S24)] : List (S24))) := ⟨_, rfl⟩
              replace H : (chargeparkref17_Program.l0 kj12 a1 l2 y199 0) = some (r1, r2) := by first | (rw [hy199]; with_reducible exact H) | (have H2_ := (Option.bind_some _ _).symm.trans H; rw [hy199]; with_reducible exact H2_) | (have H2_ := (Option.bind_some _ _).symm.trans H; with_reducible exact H2_) | with_reducible exact H | (rw [hy199]; exact H) | exact H
              have Ny199 := Aside0.mk hy199
              clear hy199
              have H' := Aside0.mk H
              clear H
              have hcz18_0 : wc.cell? ⟨gb197, 0, none⟩ = some (.int .i64 a0_0) := (blk_cell BK197.out 0).trans rfl
              have hcz18_1 : wc.cell? ⟨gb197, 1, none⟩ = some (.slice A0_1 l0_1.length c0_1) := (blk_cell BK197.out 1).trans rfl
              have hfz18_0 := blk_frozen BK197.out 0
              have hfz18_1 := blk_frozen BK197.out 1
              go_wp2_with (first | ((with_reducible refine gate_dst (N := 34) rfl ?_); (try (refine gate_guard (by rfl) ?_; dsimp only)); refine Kd.N_lit k24 _ 24 ?hg (N' := 34) ?hd (xs := ([(⟨a0_0, l0_1⟩ : S24)] : List (S24))) (inner := [.int .i64 a0_0, .slice A0_1 l0_1.length c0_1]) (ok := (fun k_ => (P0_1_ k_ ∨ w.heap.size ≤ k_) ∧ k_ ≠ gb197)) (okp := (fun k_ => (P0_1_ k_ ∨ w.heap.size ≤ k_) ∧ k_ ≠ gb197)) ?hr ?hp (fun _ hk => hk) ((show ∀ k_, wc.heap.size ≤ k_ → (fun k_ => (P0_1_ k_ ∨ w.heap.size ≤ k_) ∧ k_ ≠ gb197) k_ from fun k_ hk => ⟨(.inr (Nat.le_trans (below_size (by repeat (first | (with_reducible first | exact HB.out | apply below_alloc | apply pw_below_drewN | apply below_drew1 | refine below_set ?_ GE197.out) | exact HB.out))) hk)), Kd.freshB (g := gb197) (o := .cells #[.int .i64 a0_0, .slice A0_1 l0_1.length c0_1] 24 (0, 0)) (by (with_reducible repeat (first | refine blk_drewN ?_ _ | refine blk_drew ?_ | refine blk_alloc ?_ _)); exact BK197.out) k_ hk⟩) _ (Nat.le_refl _)) (Below.refl _ _) (Nat.le_refl _) (by simp) ?_; (case hd => rfl); (case hg => rfl); (case hr => first | (go_simp; done) | (go_simp; rfl)); (case hp => exact (Reps.c2 (show Kd.FK k24 _ _ (⟨a0_0, l0_1⟩ : S24) [.int .i64 a0_0, .slice A0_1 l0_1.length c0_1] from (k24_mkF _ _ (⟨a0_0, l0_1⟩ : S24) (Kd.V_reads' (Kd.V_mono (ok' := (fun k_ => (P0_1_ k_ ∨ w.heap.size ≤ k_) ∧ k_ ≠ gb197)) (HO_198001.out) (fun k_ hk => ⟨hk.1, hk.2⟩))).2.1 (Kd.V_F (Kd.V_mono (ok' := (fun k_ => (P0_1_ k_ ∨ w.heap.size ≤ k_) ∧ k_ ≠ gb197)) (HO_198001.out) (fun k_ hk => ⟨hk.1, hk.2⟩))))) (Reps.none _ _))); intro v200 w19 ho20 hb hg_ hnew_; clear hg_ hnew_; (first | rw [← Ny199.out] at ho20 | (simp only [Int.reduceToNat] at ho20; rw [← Ny199.out] at ho20)); have n0_ := Aside0.mk (Kd.V_elder' (by (with_reducible repeat (first | apply Kd.V_alloc | apply Kd.V_drewN | apply Kd.V_drew)); exact HO_198001.out) (Kd.N_base ho20) hb); have n1_ := Aside0.mk (Kd.N_lower ho20 (below_size (by repeat (first | (with_reducible first | exact HB.out | apply below_alloc | apply pw_below_drewN | apply below_drew1 | refine below_set ?_ GE197.out) | exact HB.out)))); have n2_ := Aside0.mk (blk_below (g := gb197) (o := .cells #[.int .i64 a0_0, .slice A0_1 l0_1.length c0_1] 24 (0, 0)) (by (with_reducible repeat (first | refine blk_drewN ?_ _ | refine blk_drew ?_ | refine blk_alloc ?_ _)); exact BK197.out) hb); have n3_ := Aside0.mk (below_step (by repeat (first | (with_reducible first | exact HB.out | apply below_alloc | apply pw_below_drewN | apply below_drew1 | refine below_set ?_ GE197.out) | exact HB.out)) hb); clear HO_198001; clear BK197; clear HB; have HO_198001 := n0_; have HO201 := n1_; have BK197 := n2_; have HB := n3_; clear n0_ n1_ n2_ n3_; clear hb ho20))
              go_loopg [8, 9] kj12 (fun kq v8 v9 w' => ∃ (x8_3 : List (S24)) (x9_3 : Int), v9 = .int .i64 x9_3 ∧ Aside0 (chargeparkref17_Program.l0 kq a1 l2 x8_3 x9_3 = some (r1, r2)) ∧ Aside0 (kq ≤ kj12) ∧ Aside0 (Kd.N k24 24 w' w.heap.size (fun k_ => (P0_1_ k_ ∨ w.heap.size ≤ k_) ∧ k_ ≠ gb197) v8 x8_3) ∧ Aside0 (Kd.V (Kd.int .u8) 5 w' w.heap.size (fun k_ => (P0_1_ k_ ∨ w.heap.size ≤ k_) ∧ some k_ ≠ (v8 : Value).ownBlock ∧ k_ ≠ gb197) (.slice A0_1 l0_1.length c0_1) l0_1) ∧ Aside0 (w'.heap[gb197]? = some (.cells #[.int .i64 a0_0, (.slice A0_1 l0_1.length c0_1)] 24 (0, 0))) ∧ Aside0 (Below w.heap.size w w'))
              case atStart => exact ⟨(y199), (0), (by first | rfl | (simp; done) | (simp [*]; done)), H', ⟨Nat.le_refl _⟩, ⟨by (with_reducible repeat (first | apply Kd.N_alloc | apply Kd.N_drewN | apply Kd.N_drew)); exact HO201.out⟩, ⟨by (with_reducible repeat (first | apply Kd.V_alloc | apply Kd.V_drewN | apply Kd.V_drew)); exact Kd.V_mono HO_198001.out (fun _ hk => ⟨hk.1.1, ⟨hk.2, hk.1.2⟩⟩)⟩, ⟨by (with_reducible repeat (first | refine blk_drewN ?_ _ | refine blk_drew ?_ | refine blk_alloc ?_ _)); exact BK197.out⟩, ⟨by repeat (first | (with_reducible first | exact HB.out | apply below_alloc | apply pw_below_drewN | apply below_drew1 | refine below_set ?_ GE197.out) | exact HB.out)⟩⟩
              case round =>
                clear H'
                try clear c1
                try clear c2
                try clear p2
                try clear p6
                try clear c7
                try clear c12
                try clear c14
                try clear c14b0
                try clear c15
                try clear c17
                try clear c19
                try clear hcz10_0
                try clear hcz10_1
                try clear hcz15_0
                try clear hcz15_1
                try clear hcz16_0
                try clear hcz16_1
                try clear hcz18_0
                try clear hcz18_1
                try clear hcz8_0
                try clear hcz8_1
                try clear hfz10_0
                try clear hfz10_1
                try clear hfz15_0
                try clear hfz15_1
                try clear hfz16_0
                try clear hfz16_1
                try clear hfz18_0
                try clear hfz18_1
                try clear hfz8_0
                try clear hfz8_1
                try clear p2
                try clear p6
                obtain ⟨x8_3, x9_3, rfl, HA, HK3, HO_8, HO_198001, BK197, HB⟩ := hrel
                cases gk with
                | zero => exact absurd HA.out (by simp [chargeparkref17_Program.l0])
                | succ k3 =>
                  have H := HA.out
                  clear HA
                  simp only [chargeparkref17_Program.l0] at H
                  by_cases c21 : x9_3 < (l2.length : Int)
                  · rw [if_pos c21] at H
                    have c21b0 : decide (x9_3 < (l2.length : Int)) = true := decide_eq_true c21
                    clear c21
                    by_cases c22 : 0 ≤ x9_3
                    · rw [if_pos c22] at H
                      have c22b0 : decide (0 ≤ x9_3) = true := decide_eq_true c22
                      clear c22
                      by_cases c23 : x9_3 < (x8_3.length : Int)
                      · rw [if_pos c23] at H
                        have c23b0 : decide (x9_3 < (x8_3.length : Int)) = true := decide_eq_true c23
                        clear c23
                        obtain ⟨ji24, hji24⟩ : ∃ j_ : Int, (wrap64 (a1 + x9_3)) = j_ := ⟨_, rfl⟩
                        replace H : (if 0 ≤ (ji24) then (if (ji24) < (((rd_T24 x8_3 x9_3).f1).length : Int) then ((chargeparkref17_With.f ((rd_T24 x8_3 x9_3).f0) ((rd_T24 x8_3 x9_3).f1) (ji24) (Go.bits .and .u8 (rd ((rd_T24 x8_3 x9_3).f1) (ji24)) (rd l2 x9_3))).bind fun bt206 => (if x8_3.length < 4398046511104 then (chargeparkref17_Program.l0 k3 a1 l2 (x8_3 ++ [(⟨bt206.1, bt206.2⟩ : S24)]) (wrap64 (x9_3 + 1))) else (none))) else (none)) else (none)) = some (r1, r2) := by first | (rw [hji24] at H; exact H) | (simp only [hji24] at H ⊢; exact H)
                        have hji24w : (IntKind.i64.wrap (a1 + x9_3)) = ji24 := (i64_w _).trans hji24
                        by_cases c25 : 0 ≤ (ji24)
                        · rw [if_pos c25] at H
                          have c25b0 : decide (0 ≤ (ji24)) = true := decide_eq_true c25
                          clear c25
                          by_cases c26 : (ji24) < (((rd_T24 x8_3 x9_3).f1).length : Int)
                          · rw [if_pos c26] at H
                            have c26b0 : decide ((ji24) < (((rd_T24 x8_3 x9_3).f1).length : Int)) = true := decide_eq_true c26
                            clear c26
                            replace H := Option.bind_eq_some_iff.mp H
                            obtain ⟨⟨t206, t207⟩, A270, H⟩ := H
                            replace H : (if x8_3.length < 4398046511104 then (chargeparkref17_Program.l0 k3 a1 l2 (x8_3 ++ [(⟨t206, t207⟩ : S24)]) (wrap64 (x9_3 + 1))) else (none)) = some (r1, r2) := H
                            have A27 := Aside0.mk A270
                            clear A270
                            by_cases c28 : x8_3.length < 4398046511104
                            · rw [if_pos c28] at H
                              have LMc28 := Aside0.mk c28
                              clear c28
                              obtain ⟨y210, hy210⟩ : ∃ y_ : List (S24), y_ = (x8_3 ++ [(⟨t206, t207⟩ : S24)]) := ⟨_, rfl⟩
                              replace H : (chargeparkref17_Program.l0 k3 a1 l2 y210 (wrap64 (x9_3 + 1))) = some (r1, r2) := by first | (rw [hy210]; with_reducible exact H) | (have H2_ := (Option.bind_some _ _).symm.trans H; rw [hy210]; with_reducible exact H2_) | (have H2_ := (Option.bind_some _ _).symm.trans H; with_reducible exact H2_) | with_reducible exact H | (rw [hy210]; exact H) | exact H
                              have Ny210 := Aside0.mk hy210
                              clear hy210
                              have H' := Aside0.mk H
                              clear H
                              obtain ⟨Ao29, co29, eo29⟩ := Kd.N_slice HO_8.out
                              subst eo29
                              have p202 : 0 ≤ (x9_3 : Int) := of_decide_eq_true (by first | (with_reducible assumption) | assumption)
                              have q202 : x9_3 < (x8_3.length : Int) := of_decide_eq_true (by first | (with_reducible assumption) | assumption)
                              obtain ⟨ad202, A202_1, c202_1, e202, hx202_0, hx202_1, hl202_1, hi202_1⟩ := at_T24 (Kd.N_reads' HO_8.out).2.2 x9_3 p202 q202
                              cases e202
                              obtain ⟨ce202, hce202, hMe202, hcc202⟩ := Kd.N_get HO_8.out z24 x9_3 p202 (by first | exact q202 | exact of_decide_eq_true (by first | (with_reducible assumption) | assumption) | (have e_ := (Kd.N_reads' HO_8.out).1; omega))
                              obtain ⟨ua202_1, uc202_1, rfl, ul202_1, ge202_1⟩ := k24_openF hMe202
                              have hv202_1 := hcc202 1 _ rfl
                              rw [add_field _ _ 1 (by omega)] at hv202_1
                              replace hv202_1 := Option.some.inj (hv202_1.symm.trans hx202_1)
                              injection hv202_1 with hva_ hvn_ hvc_
                              rw [hva_] at ge202_1
                              rw [hvc_] at ul202_1
                              have HL202_1 := Aside0.mk (show Kd.V (Kd.int .u8) 5 _ w.heap.size _ _ ((rd_T24 x8_3 x9_3).f1) from Kd.V_mk ul202_1 ge202_1)
                              clear hva_ hvn_ hvc_ ge202_1 ul202_1
                              clear hcc202 hce202
                              have HR202_1 := Aside0.mk hi202_1
                              have HC202_1 := Aside0.mk hl202_1
                              clear hi202_1 hl202_1
                              replace p202 := eq_true p202
                              replace q202 := eq_true q202
                              try go_wp2_with (first | ((with_reducible refine gate_dst (N := 10) rfl ?_); (try (refine gate_guard (by rfl) ?_; dsimp only)); refine box_event ?hg (N := 10) ?hd (cs := #[.int .i64 0, .slice none 0 0]) (t := 24) ?hr ?_; (case hd => rfl); (case hg => rfl); (case hr => first | (go_simp; done) | (go_simp; rfl)); intro gb203 hg w30 hbox hb; have n0_ := Aside0.mk (Kd.N_below (Kd.N_elderB (by (with_reducible repeat (first | apply Kd.N_alloc | apply Kd.N_drewN | apply Kd.N_drew)); exact HO_8.out) gb203 (Nat.le_of_eq hg.symm)) hb); have n1_ := Aside0.mk (Kd.V_below (Kd.V_elderB (by (with_reducible repeat (first | apply Kd.V_alloc | apply Kd.V_drewN | apply Kd.V_drew)); exact HO_198001.out) gb203 (Nat.le_of_eq hg.symm)) hb); have n2_ := Aside0.mk (Kd.V_below (Kd.V_elderB (by (with_reducible repeat (first | apply Kd.V_alloc | apply Kd.V_drewN | apply Kd.V_drew)); exact HL202_1.out) gb203 (Nat.le_of_eq hg.symm)) hb); have n3_ := Aside0.mk (blk_below (g := gb197) (o := .cells #[.int .i64 a0_0, .slice A0_1 l0_1.length c0_1] 24 (0, 0)) (by (with_reducible repeat (first | refine blk_drewN ?_ _ | refine blk_drew ?_ | refine blk_alloc ?_ _)); exact BK197.out) hb); have n4_ := Aside0.mk (Kd.C_below (by repeat (first | (with_reducible exact HR202_1.out) | (with_reducible refine Kd.C_alloc ?_ _) | (with_reducible refine Kd.C_drewN ?_ _) | (with_reducible refine Kd.C_drew ?_) | exact HR202_1.out)) hb); have n5_ := Aside0.mk (below_step (by repeat (first | (with_reducible first | exact HB.out | apply below_alloc | apply pw_below_drewN | apply below_drew1 | refine below_set ?_ GE197.out) | exact HB.out)) hb); have n6_ := Aside0.mk (hbox); have n7_ := Aside0.mk ((by rw [hg]; exact (below_size (by repeat (first | (with_reducible first | exact HB.out | apply below_alloc | apply pw_below_drewN | apply below_drew1 | refine below_set ?_ GE197.out) | exact HB.out))) : w.heap.size ≤ gb203)); have n8_ := Aside0.mk ((by rw [hg]; exact (below_size (by repeat (first | (with_reducible first | exact HB.out | apply below_alloc | apply pw_below_drewN | apply below_drew1 | refine below_set ?_ GE197.out) | exact HB.out))) : w.heap.size ≤ gb203)); have n9_ := Aside0.mk ((by rw [hg]; exact Nat.ne_of_lt (blk_lt (g := gb197) (o := .cells #[.int .i64 a0_0, .slice A0_1 l0_1.length c0_1] 24 (0, 0)) (by (with_reducible repeat (first | refine blk_drewN ?_ _ | refine blk_drew ?_ | refine blk_alloc ?_ _)); exact BK197.out)) : gb197 ≠ gb203)); have n10_ := Aside0.mk ((by rw [hg]; exact Nat.ne_of_gt (blk_lt (g := gb197) (o := .cells #[.int .i64 a0_0, .slice A0_1 l0_1.length c0_1] 24 (0, 0)) (by (with_reducible repeat (first | refine blk_drewN ?_ _ | refine blk_drew ?_ | refine blk_alloc ?_ _)); exact BK197.out)) : gb203 ≠ gb197)); clear HO_8; clear HO_198001; clear HL202_1; clear BK197; clear HR202_1; clear HB; have HO_8 := n0_; have HO_198001 := n1_; have HL202_1 := n2_; have BK197 := n3_; have HR202_1 := n4_; have HB := n5_; have BK203 := n6_; have GW203 := n7_; have GE203 := n8_; have NB197_203 := n9_; have NB203_197 := n10_; clear n0_ n1_ n2_ n3_ n4_ n5_ n6_ n7_ n8_ n9_ n10_; clear hb hbox hg; have hnb31 := NB203_197.out; have hnc31 := NB197_203.out; have hcz32_0 : w30.cell? ⟨gb203, 0, none⟩ = some (.int .i64 0) := (blk_cell BK203.out 0).trans rfl; have hcz32_1 : w30.cell? ⟨gb203, 1, none⟩ = some (.slice none 0 0) := (blk_cell BK203.out 1).trans rfl; have hfz32_0 := blk_frozen BK203.out 0; have hfz32_1 := blk_frozen BK203.out 1))
                              have n0_ : Aside0 (Kd.N k24 24 ((w30.setCell ⟨gb203, 0, none⟩ (.int .i64 ((rd_T24 x8_3 x9_3).f0))).setCell ⟨gb203, 1, none⟩ (.slice A202_1 ((rd_T24 x8_3 x9_3).f1).length c202_1)) w.heap.size (fun k_ => (P0_1_ k_ ∨ w.heap.size ≤ k_) ∧ k_ ≠ gb197 ∧ k_ ≠ gb203) (.slice (some ad202) x8_3.length co29) x8_3) := ⟨by (with_reducible repeat (first | apply Kd.N_alloc | apply Kd.N_drewN | apply Kd.N_drew)); exact Kd.N_mono (Kd.N_far (p := ⟨gb203, 1, none⟩) (Kd.N_far (p := ⟨gb203, 0, none⟩) (Kd.N_mono HO_8.out (fun k_ hk => (⟨hk, hk.2⟩ : _ ∧ k_ ≠ gb203))) (fun _ hk => hk.2) (.int .i64 ((rd_T24 x8_3 x9_3).f0))) (fun _ hk => hk.2) (.slice A202_1 ((rd_T24 x8_3 x9_3).f1).length c202_1)) (fun _ hk => ⟨hk.1.1.1, ⟨hk.1.1.2, hk.1.2⟩⟩)⟩
                              have n1_ : Aside0 (Kd.V (Kd.int .u8) 5 ((w30.setCell ⟨gb203, 0, none⟩ (.int .i64 ((rd_T24 x8_3 x9_3).f0))).setCell ⟨gb203, 1, none⟩ (.slice A202_1 ((rd_T24 x8_3 x9_3).f1).length c202_1)) w.heap.size (fun k_ => (P0_1_ k_ ∨ w.heap.size ≤ k_) ∧ some k_ ≠ (.slice (some ad202) x8_3.length co29 : Value).ownBlock ∧ k_ ≠ gb197 ∧ k_ ≠ gb203) (.slice A0_1 l0_1.length c0_1) l0_1) := ⟨by (with_reducible repeat (first | apply Kd.V_alloc | apply Kd.V_drewN | apply Kd.V_drew)); exact Kd.V_mono (Kd.V_far (p := ⟨gb203, 1, none⟩) (Kd.V_far (p := ⟨gb203, 0, none⟩) (Kd.V_mono HO_198001.out (fun k_ hk => (⟨hk, hk.2⟩ : _ ∧ k_ ≠ gb203))) (fun _ hk => hk.2) (.int .i64 ((rd_T24 x8_3 x9_3).f0))) (fun _ hk => hk.2) (.slice A202_1 ((rd_T24 x8_3 x9_3).f1).length c202_1)) (fun _ hk => ⟨hk.1.1.1, ⟨hk.1.1.2.1, ⟨hk.1.1.2.2, hk.1.2⟩⟩⟩)⟩
                              have n2_ : Aside0 (Kd.V (Kd.int .u8) 5 ((w30.setCell ⟨gb203, 0, none⟩ (.int .i64 ((rd_T24 x8_3 x9_3).f0))).setCell ⟨gb203, 1, none⟩ (.slice A202_1 ((rd_T24 x8_3 x9_3).f1).length c202_1)) w.heap.size (fun k_ => (P0_1_ k_ ∨ w.heap.size ≤ k_) ∧ some k_ ≠ (.slice (some ad202) x8_3.length co29 : Value).ownBlock ∧ k_ ≠ gb197 ∧ k_ ≠ gb203) (.slice A202_1 ((rd_T24 x8_3 x9_3).f1).length c202_1) ((rd_T24 x8_3 x9_3).f1)) := ⟨by (with_reducible repeat (first | apply Kd.V_alloc | apply Kd.V_drewN | apply Kd.V_drew)); exact Kd.V_mono (Kd.V_far (p := ⟨gb203, 1, none⟩) (Kd.V_far (p := ⟨gb203, 0, none⟩) (Kd.V_mono HL202_1.out (fun k_ hk => (⟨hk, hk.2⟩ : _ ∧ k_ ≠ gb203))) (fun _ hk => hk.2) (.int .i64 ((rd_T24 x8_3 x9_3).f0))) (fun _ hk => hk.2) (.slice A202_1 ((rd_T24 x8_3 x9_3).f1).length c202_1)) (fun _ hk => ⟨hk.1.1.1.1, ⟨hk.1.1.2, ⟨hk.1.1.1.2, hk.1.2⟩⟩⟩)⟩
                              have n3_ : Aside0 (((w30.setCell ⟨gb203, 0, none⟩ (.int .i64 ((rd_T24 x8_3 x9_3).f0))).setCell ⟨gb203, 1, none⟩ (.slice A202_1 ((rd_T24 x8_3 x9_3).f1).length c202_1)).heap[gb197]? = some (.cells #[.int .i64 a0_0, .slice A0_1 l0_1.length c0_1] 24 (0, 0))) := ⟨by (with_reducible repeat (first | refine blk_drewN ?_ _ | refine blk_drew ?_ | refine blk_alloc ?_ _)); refine blk_far ?_ NB197_203.out _; (with_reducible repeat (first | refine blk_drewN ?_ _ | refine blk_drew ?_ | refine blk_alloc ?_ _)); refine blk_far ?_ NB197_203.out _; (with_reducible repeat (first | refine blk_drewN ?_ _ | refine blk_drew ?_ | refine blk_alloc ?_ _)); exact BK197.out⟩
                              have n4_ : Aside0 (((w30.setCell ⟨gb203, 0, none⟩ (.int .i64 ((rd_T24 x8_3 x9_3).f0))).setCell ⟨gb203, 1, none⟩ (.slice A202_1 ((rd_T24 x8_3 x9_3).f1).length c202_1)).heap[gb203]? = some (.cells #[.int .i64 ((rd_T24 x8_3 x9_3).f0), .slice A202_1 ((rd_T24 x8_3 x9_3).f1).length c202_1] 24 (0, 0))) := ⟨by (with_reducible repeat (first | refine blk_drewN ?_ _ | refine blk_drew ?_ | refine blk_alloc ?_ _)); refine blk_put (cs := #[.int .i64 ((rd_T24 x8_3 x9_3).f0), .slice none 0 0]) ?_ 1 _ rfl; (with_reducible repeat (first | refine blk_drewN ?_ _ | refine blk_drew ?_ | refine blk_alloc ?_ _)); refine blk_put (cs := #[.int .i64 0, .slice none 0 0]) ?_ 0 _ rfl; (with_reducible repeat (first | refine blk_drewN ?_ _ | refine blk_drew ?_ | refine blk_alloc ?_ _)); exact BK203.out⟩
                              have n5_ : Aside0 (Below w.heap.size w ((w30.setCell ⟨gb203, 0, none⟩ (.int .i64 ((rd_T24 x8_3 x9_3).f0))).setCell ⟨gb203, 1, none⟩ (.slice A202_1 ((rd_T24 x8_3 x9_3).f1).length c202_1))) := ⟨by repeat (first | (with_reducible first | exact HB.out | apply below_alloc | apply pw_below_drewN | apply below_drew1 | refine below_set ?_ GE197.out | refine below_set ?_ GE203.out) | exact HB.out)⟩
                              (try clear HO_8)
                              (try clear HO_198001)
                              (try clear HL202_1)
                              (try clear BK197)
                              (try clear BK203)
                              (try clear HB)
                              generalize ((w30.setCell ⟨gb203, 0, none⟩ (.int .i64 ((rd_T24 x8_3 x9_3).f0))).setCell ⟨gb203, 1, none⟩ (.slice A202_1 ((rd_T24 x8_3 x9_3).f1).length c202_1)) = w33 at n0_ n1_ n2_ n3_ n4_ n5_ ⊢
                              have HO_8 := n0_
                              have HO_198001 := n1_
                              have HL202_1 := n2_
                              have BK197 := n3_
                              have BK203 := n4_
                              have HB := n5_
                              clear n0_ n1_ n2_ n3_ n4_ n5_
                              have n0_ := Aside0.mk (Kd.N_drew HO_8.out)
                              have n1_ := Aside0.mk (Kd.V_drew HO_198001.out)
                              have n2_ := Aside0.mk (Kd.V_drew HL202_1.out)
                              have n3_ := Aside0.mk (blk_drew BK197.out)
                              have n4_ := Aside0.mk (blk_drew BK203.out)
                              have n5_ := Aside0.mk (below_drew1 HB.out)
                              clear HO_8
                              clear HO_198001
                              clear HL202_1
                              clear BK197
                              clear BK203
                              clear HB
                              have HO_8 := n0_
                              have HO_198001 := n1_
                              have HL202_1 := n2_
                              have BK197 := n3_
                              have BK203 := n4_
                              have HB := n5_
                              clear n0_ n1_ n2_ n3_ n4_ n5_
                              have p204 : 0 ≤ ((ji24) : Int) := of_decide_eq_true (by first | (with_reducible assumption) | assumption)
                              have q204 : (ji24) < (((rd_T24 x8_3 x9_3).f1).length : Int) := of_decide_eq_true (by first | (with_reducible assumption) | assumption)
                              obtain ⟨ad204, e204, hx204_0⟩ := Kd.at_int ((Kd.V_reads' HL202_1.out).2.2) (ji24) p204 q204
                              cases e204
                              replace p204 := eq_true p204
                              replace q204 := eq_true q204
                              have p205 : 0 ≤ (x9_3 : Int) := of_decide_eq_true (by first | (with_reducible assumption) | assumption)
                              have q205 : x9_3 < (l2.length : Int) := of_decide_eq_true (by first | (with_reducible assumption) | assumption)
                              obtain ⟨ad205, e205, hx205_0⟩ := Kd.at_int HR2.out x9_3 p205 q205
                              have hw205_0 := hx205_0
                              cases e205
                              replace hx205_0 := (HB.out.cell (World.block_lt_of_cell? w _ hx205_0)).trans hx205_0
                              replace p205 := eq_true p205
                              replace q205 := eq_true q205
                              refine start_ (n := 21) (S := fun w' => w'.cell? ⟨gb203, 0, none⟩ = some (.int .i64 ((rd_T24 x8_3 x9_3).f0)) ∧ w'.cell? ⟨gb203, 1, none⟩ = some (.slice (some ad204) ((rd_T24 x8_3 x9_3).f1).length c202_1) ∧ w'.cell? (ad204.add ((ji24)).toNat) = some (.int .u8 (rd ((rd_T24 x8_3 x9_3).f1) (ji24))) ∧ w'.cell? (ad205.add (x9_3).toNat) = some (.int .u8 (rd l2 x9_3))) (ds := [18, 19]) #[false, false, false, false, false, false, false, false, false, false, false, false, false, false, false, false, false, false, false, false, false] (by kernel_rfl) rfl rfl ⟨(blk_cell BK203.out 0).trans rfl, (blk_cell BK203.out 1).trans rfl, hx204_0, ((HB.out.cell (World.block_lt_of_cell? w _ hw205_0)).trans hw205_0)⟩ (fun hHeld => ?_); refine with_tabW chargeparkref17_Program.tab10 chargeparkref17_Program.bits10 (fun HT_ HW_ => ?_)
                              generalize w33.drew = w34 at HO_8 HO_198001 HL202_1 BK197 BK203 HB hx204_0 hx205_0 hHeld ⊢
                              refine pure_ (i := 0) (N := some 45) (v := ?_) (a' := ?_) #[true, false, false, false, false, false, false, false, false, false, false, false, false, false, false, false, false, false, false, false, false] rfl rfl (any_of HT_.out (by kernel_rfl)) (fun _ _ _ h => h) (Or.inl ⟨by rfl, ?_⟩) ?_ ?_
                              rotate_left
                              · intro w'
                                go_simp
                                with_reducible rfl
                              rotate_left
                              · simp only [Act.put, List.setIfInBounds_toArray, List.set_cons_zero, List.set_cons_succ, i64_w, i32_w]
                                rfl
                              refine pure_ (i := 2) (N := some 47) (v := ?_) (a' := ?_) #[true, false, true, false, false, false, false, false, false, false, false, false, false, false, false, false, false, false, false, false, false] rfl rfl (any_of HT_.out (by kernel_rfl)) (fun _ _ _ h => h) (Or.inl ⟨by rfl, ?_⟩) ?_ ?_
                              rotate_left
                              · intro w'
                                go_simp
                                with_reducible rfl
                              rotate_left
                              · simp only [Act.put, List.setIfInBounds_toArray, List.set_cons_zero, List.set_cons_succ, i64_w, i32_w]
                                rfl
                              refine pure_ (i := 3) (N := some 48) (v := ?_) (a' := ?_) #[true, false, true, true, false, false, false, false, false, false, false, false, false, false, false, false, false, false, false, false, false] rfl rfl (any_of HT_.out (by kernel_rfl)) (fun _ _ _ h => h) (Or.inl ⟨by rfl, ?_⟩) ?_ ?_
                              rotate_left
                              · intro w'
                                go_simp
                                with_reducible rfl
                              rotate_left
                              · simp only [Act.put, List.setIfInBounds_toArray, List.set_cons_zero, List.set_cons_succ, i64_w, i32_w]
                                rfl
                              refine pure_ (i := 4) (N := some 49) (v := ?_) (a' := ?_) #[true, false, true, true, true, false, false, false, false, false, false, false, false, false, false, false, false, false, false, false, false] rfl rfl (any_of HT_.out (by kernel_rfl)) (fun _ _ _ h => h) (Or.inl ⟨by rfl, ?_⟩) ?_ ?_
                              rotate_left
                              · intro w'
                                go_simp
                                with_reducible rfl
                              rotate_left
                              · simp only [Act.put, List.setIfInBounds_toArray, List.set_cons_zero, List.set_cons_succ, i64_w, i32_w]
                                rfl
                              refine pure_ (i := 5) (N := some 50) (v := ?_) (a' := ?_) #[true, false, true, true, true, true, false, false, false, false, false, false, false, false, false, false, false, false, false, false, false] rfl rfl (any_of HT_.out (by kernel_rfl)) (fun _ _ _ h => h) (Or.inl ⟨by rfl, ?_⟩) ?_ ?_
                              rotate_left
                              · intro w'
                                go_simp
                                with_reducible rfl
                              rotate_left
                              · simp only [Act.put, List.setIfInBounds_toArray, List.set_cons_zero, List.set_cons_succ, i64_w, i32_w]
                                rfl
                              refine pure_ (i := 7) (N := some 52) (v := ?_) (a' := ?_) #[true, false, true, true, true, true, false, true, false, false, false, false, false, false, false, false, false, false, false, false, false] rfl rfl (any_of HT_.out (by kernel_rfl)) (fun _ _ _ h => h) (Or.inl ⟨by rfl, ?_⟩) ?_ ?_
                              rotate_left
                              · intro w'
                                go_simp
                                with_reducible rfl
                              rotate_left
                              · simp only [Act.put, List.setIfInBounds_toArray, List.set_cons_zero, List.set_cons_succ, i64_w, i32_w]
                                rfl
                              refine pure_ (i := 8) (N := some 53) (v := ?_) (a' := ?_) #[true, false, true, true, true, true, false, true, true, false, false, false, false, false, false, false, false, false, false, false, false] rfl rfl (any_of HT_.out (by kernel_rfl)) (fun _ _ _ h => h) (Or.inl ⟨by rfl, ?_⟩) ?_ ?_
                              rotate_left
                              · intro w'
                                go_simp
                                with_reducible rfl
                              rotate_left
                              · simp only [Act.put, List.setIfInBounds_toArray, List.set_cons_zero, List.set_cons_succ, i64_w, i32_w]
                                rfl
                              refine pure_ (i := 9) (N := some 54) (v := ?_) (a' := ?_) #[true, false, true, true, true, true, false, true, true, true, false, false, false, false, false, false, false, false, false, false, false] rfl rfl (any_of HT_.out (by kernel_rfl)) (fun _ _ _ h => h) (Or.inl ⟨by rfl, ?_⟩) ?_ ?_
                              rotate_left
                              · intro w'
                                go_simp
                                with_reducible rfl
                              rotate_left
                              · simp only [Act.put, List.setIfInBounds_toArray, List.set_cons_zero, List.set_cons_succ, i64_w, i32_w]
                                rfl
                              refine pure_ (i := 12) (N := some 57) (v := ?_) (a' := ?_) #[true, false, true, true, true, true, false, true, true, true, false, false, true, false, false, false, false, false, false, false, false] rfl rfl (any_of HT_.out (by kernel_rfl)) (fun _ _ _ h => h) (Or.inl ⟨by rfl, ?_⟩) ?_ ?_
                              rotate_left
                              · intro w'
                                go_simp
                                with_reducible rfl
                              rotate_left
                              · simp only [Act.put, List.setIfInBounds_toArray, List.set_cons_zero, List.set_cons_succ, i64_w, i32_w]
                                rfl
                              refine pure_ (i := 13) (N := some 58) (v := ?_) (a' := ?_) #[true, false, true, true, true, true, false, true, true, true, false, false, true, true, false, false, false, false, false, false, false] rfl rfl (any_of HT_.out (by kernel_rfl)) (fun _ _ _ h => h) (Or.inl ⟨by rfl, ?_⟩) ?_ ?_
                              rotate_left
                              · intro w'
                                go_simp
                                with_reducible rfl
                              rotate_left
                              · simp only [Act.put, List.setIfInBounds_toArray, List.set_cons_zero, List.set_cons_succ, i64_w, i32_w]
                                rfl
                              refine pure_ (i := 14) (N := some 59) (v := ?_) (a' := ?_) #[true, false, true, true, true, true, false, true, true, true, false, false, true, true, true, false, false, false, false, false, false] rfl rfl (any_of HT_.out (by kernel_rfl)) (fun _ _ _ h => h) (Or.inl ⟨by rfl, ?_⟩) ?_ ?_
                              rotate_left
                              · intro w'
                                go_simp
                                with_reducible rfl
                              rotate_left
                              · simp only [Act.put, List.setIfInBounds_toArray, List.set_cons_zero, List.set_cons_succ, i64_w, i32_w]
                                rfl
                              refine take_ (i := 1) (N := some 46) (v := ?_) (a' := ?_) #[true, true, true, true, true, true, false, true, true, true, false, false, true, true, true, false, false, false, false, false, false] rfl rfl (take_ofW HT_.out HW_.out (by kernel_rfl)) (fun _ _ _ h => h) (Or.inl ⟨by rfl, ?_⟩) hHeld ?_ ?_
                              rotate_left
                              · rintro w' ⟨s0, s1, s2, s3⟩
                                go_simp
                                with_reducible rfl
                              rotate_left
                              · simp only [Act.put, List.setIfInBounds_toArray, List.set_cons_zero, List.set_cons_succ, i64_w, i32_w]
                                rfl
                              refine take_ (i := 6) (N := some 51) (v := ?_) (a' := ?_) #[true, true, true, true, true, true, true, true, true, true, false, false, true, true, true, false, false, false, false, false, false] rfl rfl (take_ofW HT_.out HW_.out (by kernel_rfl)) (fun _ _ _ h => h) (Or.inl ⟨by rfl, ?_⟩) hHeld ?_ ?_
                              rotate_left
                              · rintro w' ⟨s0, s1, s2, s3⟩
                                go_simp
                                with_reducible rfl
                              rotate_left
                              · simp only [Act.put, List.setIfInBounds_toArray, List.set_cons_zero, List.set_cons_succ, i64_w, i32_w]
                                rfl
                              refine pure_ (i := 10) (N := some 55) (v := ?_) (a' := ?_) #[true, true, true, true, true, true, true, true, true, true, true, false, true, true, true, false, false, false, false, false, false] rfl rfl (any_of HT_.out (by kernel_rfl)) (fun _ _ _ h => h) (Or.inl ⟨by rfl, ?_⟩) ?_ ?_
                              rotate_left
                              · intro w'
                                go_simp
                                with_reducible rfl
                              rotate_left
                              · simp only [Act.put, List.setIfInBounds_toArray, List.set_cons_zero, List.set_cons_succ, i64_w, i32_w]
                                rfl
                              refine take_ (i := 11) (N := some 56) (v := ?_) (a' := ?_) #[true, true, true, true, true, true, true, true, true, true, true, true, true, true, true, false, false, false, false, false, false] rfl rfl (take_ofW HT_.out HW_.out (by kernel_rfl)) (fun _ _ _ h => h) (Or.inl ⟨by rfl, ?_⟩) hHeld ?_ ?_
                              rotate_left
                              · rintro w' ⟨s0, s1, s2, s3⟩
                                go_simp
                                with_reducible rfl
                              rotate_left
                              · simp only [Act.put, List.setIfInBounds_toArray, List.set_cons_zero, List.set_cons_succ, i64_w, i32_w]
                                rfl
                              refine take_ (i := 15) (N := some 60) (v := ?_) (a' := ?_) #[true, true, true, true, true, true, true, true, true, true, true, true, true, true, true, true, false, false, false, false, false] rfl rfl (take_ofW HT_.out HW_.out (by kernel_rfl)) (fun _ _ _ h => h) (Or.inl ⟨by rfl, ?_⟩) hHeld ?_ ?_
                              rotate_left
                              · rintro w' ⟨s0, s1, s2, s3⟩
                                go_simp
                                with_reducible rfl
                              rotate_left
                              · simp only [Act.put, List.setIfInBounds_toArray, List.set_cons_zero, List.set_cons_succ, i64_w, i32_w]
                                rfl
                              refine pure_ (i := 16) (N := some 61) (v := ?_) (a' := ?_) #[true, true, true, true, true, true, true, true, true, true, true, true, true, true, true, true, true, false, false, false, false] rfl rfl (any_of HT_.out (by kernel_rfl)) (fun _ _ _ h => h) (Or.inl ⟨by rfl, ?_⟩) ?_ ?_
                              rotate_left
                              · intro w'
                                go_simp
                                with_reducible rfl
                              rotate_left
                              · simp only [Act.put, List.setIfInBounds_toArray, List.set_cons_zero, List.set_cons_succ, i64_w, i32_w]
                                rfl
                              refine one_ (i := 17) (N := some 62) #[true, true, true, true, true, true, true, true, true, true, true, true, true, true, true, true, true, true, false, false, false] rfl rfl (one_of HT_.out (by kernel_rfl)) (by decide) (fun K hK => ?_)
                              refine goes_ Try.func29 (by kernel_rfl) rfl #[.agg #[.int .i64 ((rd_T24 x8_3 x9_3).f0), .slice (some ad204) ((rd_T24 x8_3 x9_3).f1).length c202_1], .int .i64 ji24, .int .u8 (Go.bits .and .u8 (rd ((rd_T24 x8_3 x9_3).f1) (ji24)) (rd l2 x9_3))] (by rfl) rfl rfl (by (try simp only [List.map_toArray, List.map_cons, List.map_nil]); first | done | (simp only [hji24]; rfl) | rfl | (simp only [List.length_drop, List.length_take]; rfl)) ?_
                              with_reducible refine (chargeparkref17_With.calls ((rd_T24 x8_3 x9_3).f0) _ _ ((rd_T24 x8_3 x9_3).f1) ji24 (Go.bits .and .u8 (rd ((rd_T24 x8_3 x9_3).f1) (ji24)) (rd l2 x9_3)) t206 t207 _ ?side1 ?side2 A27.out).mono ?_
                              (case side1 => repeat (first | exact ((Kd.V_reads' (by (with_reducible repeat (first | apply Kd.V_alloc | apply Kd.V_drewN | apply Kd.V_drew)); exact HL202_1.out)).2.2) | (with_reducible refine Kd.C_alloc ?_ _) | (with_reducible refine Kd.C_drewN ?_ _) | (with_reducible refine Kd.C_drew ?_)))
                              (case side2 => exact HC202_1.out)
                              rintro e w35 ⟨v208, rfl, ho0, hb⟩
                              have HS2_ := (hb.cell (World.block_lt_of_cell? _ _ (hHeld.2.2.1))).trans (hHeld.2.2.1)
                              refine ⟨_, rfl, ?_⟩
                              have n0_ := Aside0.mk (Kd.N_elder' (by (with_reducible repeat (first | apply Kd.N_alloc | apply Kd.N_drewN | apply Kd.N_drew)); exact HO_8.out) (Kd.R_base ho0) hb)
                              have n1_ := Aside0.mk (Kd.V_elder' (by (with_reducible repeat (first | apply Kd.V_alloc | apply Kd.V_drewN | apply Kd.V_drew)); exact HO_198001.out) (Kd.R_base ho0) hb)
                              have n2_ := Aside0.mk (Kd.V_elder' (by (with_reducible repeat (first | apply Kd.V_alloc | apply Kd.V_drewN | apply Kd.V_drew)); exact HL202_1.out) (Kd.R_base ho0) hb)
                              have n3_ := Aside0.mk (Kd.R_lower (Kd.R_newM (M := fun k_ => (w.heap.size ≤ k_)) ho0 (below_size (by repeat (first | (with_reducible first | exact HB.out | apply below_alloc | apply pw_below_drewN | apply below_drew1 | refine below_set ?_ GE197.out | refine below_set ?_ GE203.out) | exact HB.out))) (fun k_ h_ => h_)) (below_size (by repeat (first | (with_reducible first | exact HB.out | apply below_alloc | apply pw_below_drewN | apply below_drew1 | refine below_set ?_ GE197.out | refine below_set ?_ GE203.out) | exact HB.out))))
                              have n4_ := Aside0.mk (blk_below (g := gb197) (o := .cells #[.int .i64 a0_0, .slice A0_1 l0_1.length c0_1] 24 (0, 0)) (by (with_reducible repeat (first | refine blk_drewN ?_ _ | refine blk_drew ?_ | refine blk_alloc ?_ _)); exact BK197.out) hb)
                              have n5_ := Aside0.mk (blk_below (g := gb203) (o := .cells #[.int .i64 ((rd_T24 x8_3 x9_3).f0), .slice (some ad204) ((rd_T24 x8_3 x9_3).f1).length c202_1] 24 (0, 0)) (by (with_reducible repeat (first | refine blk_drewN ?_ _ | refine blk_drew ?_ | refine blk_alloc ?_ _)); exact BK203.out) hb)
                              have n6_ := Aside0.mk (below_step (by repeat (first | (with_reducible first | exact HB.out | apply below_alloc | apply pw_below_drewN | apply below_drew1 | refine below_set ?_ GE197.out | refine below_set ?_ GE203.out) | exact HB.out)) hb)
                              clear HO_8
                              clear HO_198001
                              clear HL202_1
                              clear BK197
                              clear BK203
                              clear HB
                              have HO_8 := n0_
                              have HO_198001 := n1_
                              have HL202_1 := n2_
                              have HO209 := n3_
                              have BK197 := n4_
                              have BK203 := n5_
                              have HB := n6_
                              clear n0_ n1_ n2_ n3_ n4_ n5_ n6_
                              (try clear hb)
                              (try clear hb2)
                              (try clear hk)
                              (try clear hi)
                              (try clear ho0)
                              obtain ⟨Ao37, co37, eo37⟩ := Kd.R_slice HO209.out
                              (first | subst eo37 | (injection eo37 with f1_ f2_ f3_; have f4_ := f1_.symm; have f5_ := f3_.symm; clear f1_ f2_ f3_; subst f4_; subst f5_))
                              refine hK.out _ _ ⟨(blk_cell BK203.out 0).trans rfl, (blk_cell BK203.out 1).trans rfl, HS2_, ((HB.out.cell (World.block_lt_of_cell? w _ hw205_0)).trans hw205_0)⟩ (fun hHeld => ?_)
                              clear hK K
                              refine norm_ (a' := ?_) ?_ ?_
                              rotate_left
                              · show Act.put _ (some 62) _ = _
                                simp only [Act.put, List.setIfInBounds_toArray, List.set_cons_zero, List.set_cons_succ, i64_w, i32_w]
                                rfl
                              refine last_ (i := 18) (N := some 63) #[true, true, true, true, true, true, true, true, true, true, true, true, true, true, true, true, true, true, true, false, false] rfl rfl (one_of HT_.out (by kernel_rfl)) (by decide) (fun K hK => ?_)
                              refine value_ (w1 := ?_) (v := ?_) (by rfl) rfl ?_ ?_
                              rotate_left 2
                              · go_simp
                                constructor
                                · rfl
                                · rfl
                              refine hK.out _ _ ?_
                              clear hK K
                              refine norm_ (a' := ?_) ?_ ?_
                              rotate_left
                              · show Act.put _ (some 63) _ = _
                                simp only [Act.put, List.setIfInBounds_toArray, List.set_cons_zero, List.set_cons_succ, i64_w, i32_w]
                                rfl
                              refine last_ (i := 19) (N := some 64) #[true, true, true, true, true, true, true, true, true, true, true, true, true, true, true, true, true, true, true, true, false] rfl rfl (one_of HT_.out (by kernel_rfl)) (by decide) (fun K hK => ?_)
                              refine Kd.N_append_step k24 (w0 := w) w.heap.size (by rfl) (.tmp 45) (.tmp 63) 30 24 (.agg #[(.int .i64 0), (.slice none 0 0)]) 32 rfl Try.underlying30 info24 rfl (by decide) (by omega) (.slice (some ad202) x8_3.length co29) x8_3 (⟨t206, t207⟩ : S24) [.int .i64 t206, .slice Ao37 t207.length co37] (fun k_ => (P0_1_ k_ ∨ w.heap.size ≤ k_) ∧ k_ ≠ gb197 ∧ k_ ≠ gb203) (fun k_ => ((fun k_ => (P0_1_ k_ ∨ w.heap.size ≤ k_) ∧ k_ ≠ gb197 ∧ k_ ≠ gb203)) k_ ∧ some k_ ≠ (.slice (some ad202) x8_3.length co29 : Value).ownBlock) rfl rfl ?aP (fun _ hk => hk) ?aF ?aO ?aB ?aS ?aL ?_
                              (case aP => exact (k24_mkF _ _ (⟨t206, t207⟩ : S24) (Kd.R_reads' (Kd.R_mono (ok' := (fun k_ => ((fun k_ => (P0_1_ k_ ∨ w.heap.size ≤ k_) ∧ k_ ≠ gb197 ∧ k_ ≠ gb203)) k_ ∧ some k_ ≠ (.slice (some ad202) x8_3.length co29 : Value).ownBlock)) (Kd.R_types (Kd.R_types (Kd.R_apart' (HO209.out) (Kd.N_typed HO_8.out) (by decide)) BK197.out (by decide)) BK203.out (by decide)) (fun k_ hk => ⟨⟨(.inr (hk.1.1.1.1)), ⟨hk.1.2, hk.2⟩⟩, hk.1.1.2⟩))).2.1 (Kd.R_F (Kd.R_mono (ok' := (fun k_ => ((fun k_ => (P0_1_ k_ ∨ w.heap.size ≤ k_) ∧ k_ ≠ gb197 ∧ k_ ≠ gb203)) k_ ∧ some k_ ≠ (.slice (some ad202) x8_3.length co29 : Value).ownBlock)) (Kd.R_types (Kd.R_types (Kd.R_apart' (HO209.out) (Kd.N_typed HO_8.out) (by decide)) BK197.out (by decide)) BK203.out (by decide)) (fun k_ hk => ⟨⟨(.inr (hk.1.1.1.1)), ⟨hk.1.2, hk.2⟩⟩, hk.1.1.2⟩)))))
                              (case aB => exact (by repeat (first | (with_reducible first | exact HB.out | apply below_alloc | apply pw_below_drewN | apply below_drew1 | refine below_set ?_ GE197.out | refine below_set ?_ GE203.out) | exact HB.out)))
                              (case aF => exact (fun k_ hk => ⟨(.inr (Nat.le_trans (below_size (by repeat (first | (with_reducible first | exact HB.out | apply below_alloc | apply pw_below_drewN | apply below_drew1 | refine below_set ?_ GE197.out | refine below_set ?_ GE203.out) | exact HB.out))) hk)), Kd.freshB (g := gb197) (o := .cells #[.int .i64 a0_0, .slice A0_1 l0_1.length c0_1] 24 (0, 0)) (by (with_reducible repeat (first | refine blk_drewN ?_ _ | refine blk_drew ?_ | refine blk_alloc ?_ _)); exact BK197.out) k_ hk, Kd.freshB (g := gb203) (o := .cells #[.int .i64 ((rd_T24 x8_3 x9_3).f0), .slice (some ad204) ((rd_T24 x8_3 x9_3).f1).length c202_1] 24 (0, 0)) (by (with_reducible repeat (first | refine blk_drewN ?_ _ | refine blk_drew ?_ | refine blk_alloc ?_ _)); exact BK203.out) k_ hk⟩))
                              (case aO => exact (by (with_reducible repeat (first | apply Kd.N_alloc | apply Kd.N_drewN | apply Kd.N_drew)); exact Kd.N_mono HO_8.out (fun _ hk => ⟨hk.1.1, ⟨hk.1.2.1, hk.1.2.2⟩⟩)))
                              (case aS => exact (below_size (by repeat (first | (with_reducible first | exact HB.out | apply below_alloc | apply pw_below_drewN | apply below_drew1 | refine below_set ?_ GE197.out | refine below_set ?_ GE203.out) | exact HB.out))))
                              (case aL => have := LMc28.out; omega)
                              intro v211 w36 ho hb hg hat
                              rw [← Ny210.out] at ho
                              have n0_ := Aside0.mk (Kd.V_afterv (ok := (fun k_ => (P0_1_ k_ ∨ w.heap.size ≤ k_) ∧ some k_ ≠ (.slice Ao37 t207.length co37 : Value).ownBlock ∧ k_ ≠ gb197 ∧ k_ ≠ gb203)) (by (with_reducible repeat (first | apply Kd.V_alloc | apply Kd.V_drewN | apply Kd.V_drew)); exact Kd.V_mono HO_198001.out (fun _ hk => ⟨⟨hk.1.1, ⟨hk.2, ⟨hk.1.2.2.1, hk.1.2.2.2⟩⟩⟩, hk.1.2.1⟩)) hg hat)
                              have n1_ := Aside0.mk (blk_grown (g := gb197) (o := .cells #[.int .i64 a0_0, .slice A0_1 l0_1.length c0_1] 24 (0, 0)) (by (with_reducible repeat (first | refine blk_drewN ?_ _ | refine blk_drew ?_ | refine blk_alloc ?_ _)); exact BK197.out) hg (Kd.N_away HO_8.out (fun _ hk => hk.1.2.1)))
                              have n2_ := Aside0.mk (Kd.V_afterv (ok := (fun k_ => (P0_1_ k_ ∨ w.heap.size ≤ k_) ∧ some k_ ≠ (.slice Ao37 t207.length co37 : Value).ownBlock ∧ k_ ≠ gb197 ∧ k_ ≠ gb203)) (by (with_reducible repeat (first | apply Kd.V_alloc | apply Kd.V_drewN | apply Kd.V_drew)); exact Kd.V_mono HL202_1.out (fun _ hk => ⟨⟨hk.1.1, ⟨hk.2, ⟨hk.1.2.2.1, hk.1.2.2.2⟩⟩⟩, hk.1.2.1⟩)) hg hat)
                              have n3_ := Aside0.mk (blk_grown (g := gb203) (o := .cells #[.int .i64 ((rd_T24 x8_3 x9_3).f0), .slice (some ad204) ((rd_T24 x8_3 x9_3).f1).length c202_1] 24 (0, 0)) (by (with_reducible repeat (first | refine blk_drewN ?_ _ | refine blk_drew ?_ | refine blk_alloc ?_ _)); exact BK203.out) hg (Kd.N_away HO_8.out (fun _ hk => hk.1.2.2)))
                              have n4_ := Aside0.mk (hb)
                              have n5_ := Aside0.mk (ho)
                              clear HO_198001
                              clear BK197
                              clear HL202_1
                              clear BK203
                              clear HB
                              clear HO_8
                              clear HO209
                              have HO_198001 := n0_
                              have BK197 := n1_
                              have HL202_1 := n2_
                              have BK203 := n3_
                              have HB := n4_
                              have HO212 := n5_
                              clear n0_ n1_ n2_ n3_ n4_ n5_
                              clear ho hb hg hat
                              refine hK.out _ _ ?_
                              clear hK K
                              refine norm_ (a' := ?_) ?_ ?_
                              rotate_left
                              · show Act.put _ (some 64) _ = _
                                simp only [Act.put, List.setIfInBounds_toArray, List.set_cons_zero, List.set_cons_succ, i64_w, i32_w]
                                rfl
                              refine pure_ (i := 20) (N := some 8) (v := ?_) (a' := ?_) #[true, true, true, true, true, true, true, true, true, true, true, true, true, true, true, true, true, true, true, true, true] rfl rfl (any_of HT_.out (by kernel_rfl)) (fun _ _ _ h => h) (Or.inl ⟨by rfl, ?_⟩) ?_ ?_
                              rotate_left
                              · intro w'
                                go_simp
                                with_reducible rfl
                              rotate_left
                              · simp only [Act.put, List.setIfInBounds_toArray, List.set_cons_zero, List.set_cons_succ, i64_w, i32_w]
                                rfl
                              refine done_ (done_of HT_.out (by kernel_rfl)) ?_
                              try go_wp2
                              go_roundg k3
                              case measure => have := HJ3.out; have := HJ12.out; have := HK3.out; omega
                              case rel => exact ⟨(y210), (wrap64 (x9_3 + 1)), (by first | rfl | (simp; done) | (simp [*]; done) | (simp [*, Int.tdiv_eq_ediv_of_nonneg]; done)), H', ⟨by have := HJ3.out; have := HJ12.out; have := HK3.out; omega⟩, ⟨by (with_reducible repeat (first | apply Kd.N_alloc | apply Kd.N_drewN | apply Kd.N_drew)); exact Kd.N_mono HO212.out (fun _ hk => ⟨hk.1, hk.2.1⟩)⟩, ⟨by (with_reducible repeat (first | apply Kd.V_alloc | apply Kd.V_drewN | apply Kd.V_drew)); exact Kd.V_mono HO_198001.out (fun _ hk => ⟨hk.1.1, ⟨hk.2, hk.1.2.2.1⟩⟩)⟩, ⟨by (with_reducible repeat (first | refine blk_drewN ?_ _ | refine blk_drew ?_ | refine blk_alloc ?_ _)); exact BK197.out⟩, ⟨by repeat (first | (with_reducible first | exact HB.out | apply below_alloc | apply pw_below_drewN | apply below_drew1 | refine below_set ?_ GE197.out | refine below_set ?_ GE203.out) | exact HB.out)⟩⟩
                            · rw [if_neg c28] at H
                              exact absurd H (by simp)
                          · rw [if_neg c26] at H
                            exact absurd H (by simp)
                        · rw [if_neg c25] at H
                          exact absurd H (by simp)
                      · rw [if_neg c23] at H
                        exact absurd H (by simp)
                    · rw [if_neg c22] at H
                      exact absurd H (by simp)
                  · rw [if_neg c21] at H
                    have c21b0 : decide (x9_3 < (l2.length : Int)) = false := decide_eq_false c21
                    clear c21
                    simp only [Option.some.injEq, Prod.mk.injEq] at H
                    obtain ⟨rfl, rfl⟩ := H
                    go_wp2
                    go_ret2
                    exact ⟨_, by first | rfl | (simp [errW_none, errW_some] <;> rfl) | (simp [*, errW_none, errW_some] <;> rfl), by (with_reducible repeat (first | apply Kd.N_alloc | apply Kd.N_drewN | apply Kd.N_drew)); exact Kd.N_mono HO_8.out (fun _ hk => hk.1), by repeat (first | (with_reducible first | exact HB.out | apply below_alloc | apply pw_below_drewN | apply below_drew1 | refine below_set ?_ GE197.out) | exact HB.out)⟩


end Go.Proofs.Ytdblbilgnfomaaa.PAll
