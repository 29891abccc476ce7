-- Written by a program of this session (xprint.py, over the kit's print.py), with contracts proved by hand.
import Derived.Test.YtdblbilgnfomaaaPAllx0
namespace Go.Proofs.Ytdblbilgnfomaaa.PAll
open Go.RowKit Go.Proofs.Ytdblbilgnfomaaa.Open Go.Proofs.YtdblbilgnfomaaaW.PrintWords Go.Proofs.YtdblbilgnfomaaaW.PrintLast Go.Proofs.YtdblbilgnfomaaaW.PrintMore
attribute [local go_sem] max2_int min2_int max_two min_two max_three min_three max_four min_four   -- for this text's walks alone
set_option linter.unusedVariables false
set_option linter.unusedSimpArgs false

/-! ### chargeparkref17_Valid: function 19 -/
def chargeparkref17_Valid.f (a0_0 : Int) (l0_1 : List Int) : Option (Bool) := if a0_0 ≥ 1 then (if a0_0 ≤ 512 then (if (l0_1.length : Int) ≥ a0_0 then (if (l0_1.length : Int) ≤ 4096 then (if a0_0 = 0 then (none) else (some (((l0_1.length : Int) % a0_0) == 0))) else (some false)) else (some false)) else (some false)) else (some false)
set_option maxHeartbeats 8000000 in
set_option maxRecDepth 100000 in
theorem chargeparkref17_Valid.calls (a0_0 : Int) (A0_1 : Option Addr) (c0_1 : Nat) (l0_1 : List Int) (r : Bool) (w : World) (hr0_1 : Kd.C (Kd.int .u8) w A0_1 l0_1.length l0_1) (hc0_1 : l0_1.length ≤ c0_1) (h : chargeparkref17_Valid.f a0_0 l0_1 = some r) :
    Calls Try.prog 19 #[.agg #[.int .i64 a0_0, .slice A0_1 l0_1.length c0_1]] w fun e w' => e = .returned (.bool r) ∧ Below w.heap.size w w' := by
  have hu24 := Try.underlying24
  have HR0_1 := Aside0.mk hr0_1
  have HC0_1 := Aside0.mk hc0_1
  clear hr0_1 hc0_1
  have HB := Aside0.mk (Below.refl w.heap.size w)
  have H : (if a0_0 ≥ 1 then (if a0_0 ≤ 512 then (if (l0_1.length : Int) ≥ a0_0 then (if (l0_1.length : Int) ≤ 4096 then (if a0_0 = 0 then (none) else (some (((l0_1.length : Int) % a0_0) == 0))) else (some false)) else (some false)) else (some false)) else (some false)) = some r := h
  clear h
  by_cases c2 : a0_0 ≥ 1
  · rw [if_pos c2] at H
    have c2b0 : decide (1 ≤ a0_0) = true := decide_eq_true c2
    clear c2
    by_cases c3 : a0_0 ≤ 512
    · rw [if_pos c3] at H
      have c3b0 : decide (a0_0 ≤ 512) = true := decide_eq_true c3
      clear c3
      by_cases c4 : (l0_1.length : Int) ≥ a0_0
      · rw [if_pos c4] at H
        have c4b0 : decide (a0_0 ≤ (l0_1.length : Int)) = true := decide_eq_true c4
        clear c4
        by_cases c5 : (l0_1.length : Int) ≤ 4096
        · rw [if_pos c5] at H
          have c5b0 : decide ((l0_1.length : Int) ≤ 4096) = true := decide_eq_true c5
          have c5b1 : decide (l0_1.length ≤ 4096) = true := decide_eq_true (by omega)
          clear c5
          by_cases c6 : a0_0 = 0
          · rw [if_pos c6] at H
            exact absurd H (by simp)
          · rw [if_neg c6] at H
            have c6b0 : (a0_0 == 0) = false := beq_eq_false_iff_ne.mpr c6
            have c6b1 : (a0_0 != 0) = true := bne_iff_ne.mpr c6
            obtain rfl := Option.some.inj H
            go_enter Try.func19, Try.ntmps19
            go_wp2_with (first | ((with_reducible refine gate_dst (N := 1) rfl ?_); refine box_event ?hg (N := 1) ?hd (cs := #[.int .i64 a0_0, .slice A0_1 l0_1.length c0_1]) (t := 24) ?hr ?_; (case hd => rfl); (case hg => rfl); (case hr => first | (go_simp; done) | (go_simp; rfl)); intro gb186 hg w7 hbox hb; have n0_ := Aside0.mk (below_step (by repeat (first | (with_reducible first | exact HB.out | apply below_alloc | apply pw_below_drewN | apply below_drew1) | exact HB.out)) hb); have n1_ := Aside0.mk (hbox); have n2_ := Aside0.mk ((by rw [hg]; exact (below_size (by repeat (first | (with_reducible first | exact HB.out | apply below_alloc | apply pw_below_drewN | apply below_drew1) | exact HB.out))) : w.heap.size ≤ gb186)); have n3_ := Aside0.mk ((by rw [hg]; exact (below_size (by repeat (first | (with_reducible first | exact HB.out | apply below_alloc | apply pw_below_drewN | apply below_drew1) | exact HB.out))) : w.heap.size ≤ gb186)); clear HB; have HB := n0_; have BK186 := n1_; have GW186 := n2_; have GE186 := n3_; clear n0_ n1_ n2_ n3_; clear hb hbox hg; have hcz8_0 : w7.cell? ⟨gb186, 0, none⟩ = some (.int .i64 a0_0) := (blk_cell BK186.out 0).trans rfl; have hcz8_1 : w7.cell? ⟨gb186, 1, none⟩ = some (.slice A0_1 l0_1.length c0_1) := (blk_cell BK186.out 1).trans rfl; have hfz8_0 := blk_frozen BK186.out 0; have hfz8_1 := blk_frozen BK186.out 1))
            go_ret
            exact ⟨by first | rfl | (simp [errW_none, errW_some] <;> rfl) | (simp [*, errW_none, errW_some] <;> rfl) | (rw [Int.tmod_eq_emod_of_nonneg (Int.natCast_nonneg _)]; rfl), by repeat (first | (with_reducible first | exact HB.out | apply below_alloc | apply pw_below_drewN | apply below_drew1 | refine below_set ?_ GE186.out) | exact HB.out)⟩
        · rw [if_neg c5] at H
          have c5b0 : decide ((l0_1.length : Int) ≤ 4096) = false := decide_eq_false c5
          have c5b1 : decide (l0_1.length ≤ 4096) = false := decide_eq_false (by omega)
          clear c5
          obtain rfl := Option.some.inj H
          go_enter Try.func19, Try.ntmps19
          go_wp2_with (first | ((with_reducible refine gate_dst (N := 1) rfl ?_); refine box_event ?hg (N := 1) ?hd (cs := #[.int .i64 a0_0, .slice A0_1 l0_1.length c0_1]) (t := 24) ?hr ?_; (case hd => rfl); (case hg => rfl); (case hr => first | (go_simp; done) | (go_simp; rfl)); intro gb186 hg w9 hbox hb; have n0_ := Aside0.mk (below_step (by repeat (first | (with_reducible first | exact HB.out | apply below_alloc | apply pw_below_drewN | apply below_drew1) | exact HB.out)) hb); have n1_ := Aside0.mk (hbox); have n2_ := Aside0.mk ((by rw [hg]; exact (below_size (by repeat (first | (with_reducible first | exact HB.out | apply below_alloc | apply pw_below_drewN | apply below_drew1) | exact HB.out))) : w.heap.size ≤ gb186)); have n3_ := Aside0.mk ((by rw [hg]; exact (below_size (by repeat (first | (with_reducible first | exact HB.out | apply below_alloc | apply pw_below_drewN | apply below_drew1) | exact HB.out))) : w.heap.size ≤ gb186)); clear HB; have HB := n0_; have BK186 := n1_; have GW186 := n2_; have GE186 := n3_; clear n0_ n1_ n2_ n3_; clear hb hbox hg; have hcz10_0 : w9.cell? ⟨gb186, 0, none⟩ = some (.int .i64 a0_0) := (blk_cell BK186.out 0).trans rfl; have hcz10_1 : w9.cell? ⟨gb186, 1, none⟩ = some (.slice A0_1 l0_1.length c0_1) := (blk_cell BK186.out 1).trans rfl; have hfz10_0 := blk_frozen BK186.out 0; have hfz10_1 := blk_frozen BK186.out 1))
          go_ret
          exact ⟨by first | rfl | (simp [errW_none, errW_some] <;> rfl) | (simp [*, errW_none, errW_some] <;> rfl) | (rw [Int.tmod_eq_emod_of_nonneg (Int.natCast_nonneg _)]; rfl), by repeat (first | (with_reducible first | exact HB.out | apply below_alloc | apply pw_below_drewN | apply below_drew1 | refine below_set ?_ GE186.out) | exact HB.out)⟩
      · rw [if_neg c4] at H
        have c4b0 : decide (a0_0 ≤ (l0_1.length : Int)) = false := decide_eq_false c4
        clear c4
        obtain rfl := Option.some.inj H
        go_enter Try.func19, Try.ntmps19
        go_wp2_with (first | ((with_reducible refine gate_dst (N := 1) rfl ?_); refine box_event ?hg (N := 1) ?hd (cs := #[.int .i64 a0_0, .slice A0_1 l0_1.length c0_1]) (t := 24) ?hr ?_; (case hd => rfl); (case hg => rfl); (case hr => first | (go_simp; done) | (go_simp; rfl)); intro gb186 hg w11 hbox hb; have n0_ := Aside0.mk (below_step (by repeat (first | (with_reducible first | exact HB.out | apply below_alloc | apply pw_below_drewN | apply below_drew1) | exact HB.out)) hb); have n1_ := Aside0.mk (hbox); have n2_ := Aside0.mk ((by rw [hg]; exact (below_size (by repeat (first | (with_reducible first | exact HB.out | apply below_alloc | apply pw_below_drewN | apply below_drew1) | exact HB.out))) : w.heap.size ≤ gb186)); have n3_ := Aside0.mk ((by rw [hg]; exact (below_size (by repeat (first | (with_reducible first | exact HB.out | apply below_alloc | apply pw_below_drewN | apply below_drew1) | exact HB.out))) : w.heap.size ≤ gb186)); clear HB; have HB := n0_; have BK186 := n1_; have GW186 := n2_; have GE186 := n3_; clear n0_ n1_ n2_ n3_; clear hb hbox hg; have hcz12_0 : w11.cell? ⟨gb186, 0, none⟩ = some (.int .i64 a0_0) := (blk_cell BK186.out 0).trans rfl; have hcz12_1 : w11.cell? ⟨gb186, 1, none⟩ = some (.slice A0_1 l0_1.length c0_1) := (blk_cell BK186.out 1).trans rfl; have hfz12_0 := blk_frozen BK186.out 0; have hfz12_1 := blk_frozen BK186.out 1))
        go_ret
        exact ⟨by first | rfl | (simp [errW_none, errW_some] <;> rfl) | (simp [*, errW_none, errW_some] <;> rfl) | (rw [Int.tmod_eq_emod_of_nonneg (Int.natCast_nonneg _)]; rfl), by repeat (first | (with_reducible first | exact HB.out | apply below_alloc | apply pw_below_drewN | apply below_drew1 | refine below_set ?_ GE186.out) | exact HB.out)⟩
    · rw [if_neg c3] at H
      have c3b0 : decide (a0_0 ≤ 512) = false := decide_eq_false c3
      clear c3
      obtain rfl := Option.some.inj H
      go_enter Try.func19, Try.ntmps19
      go_wp2_with (first | ((with_reducible refine gate_dst (N := 1) rfl ?_); refine box_event ?hg (N := 1) ?hd (cs := #[.int .i64 a0_0, .slice A0_1 l0_1.length c0_1]) (t := 24) ?hr ?_; (case hd => rfl); (case hg => rfl); (case hr => first | (go_simp; done) | (go_simp; rfl)); intro gb186 hg w13 hbox hb; have n0_ := Aside0.mk (below_step (by repeat (first | (with_reducible first | exact HB.out | apply below_alloc | apply pw_below_drewN | apply below_drew1) | exact HB.out)) hb); have n1_ := Aside0.mk (hbox); have n2_ := Aside0.mk ((by rw [hg]; exact (below_size (by repeat (first | (with_reducible first | exact HB.out | apply below_alloc | apply pw_below_drewN | apply below_drew1) | exact HB.out))) : w.heap.size ≤ gb186)); have n3_ := Aside0.mk ((by rw [hg]; exact (below_size (by repeat (first | (with_reducible first | exact HB.out | apply below_alloc | apply pw_below_drewN | apply below_drew1) | exact HB.out))) : w.heap.size ≤ gb186)); clear HB; have HB := n0_; have BK186 := n1_; have GW186 := n2_; have GE186 := n3_; clear n0_ n1_ n2_ n3_; clear hb hbox hg; have hcz14_0 : w13.cell? ⟨gb186, 0, none⟩ = some (.int .i64 a0_0) := (blk_cell BK186.out 0).trans rfl; have hcz14_1 : w13.cell? ⟨gb186, 1, none⟩ = some (.slice A0_1 l0_1.length c0_1) := (blk_cell BK186.out 1).trans rfl; have hfz14_0 := blk_frozen BK186.out 0; have hfz14_1 := blk_frozen BK186.out 1))
      go_ret
      exact ⟨by first | rfl | (simp [errW_none, errW_some] <;> rfl) | (simp [*, errW_none, errW_some] <;> rfl) | (rw [Int.tmod_eq_emod_of_nonneg (Int.natCast_nonneg _)]; rfl), by repeat (first | (with_reducible first | exact HB.out | apply below_alloc | apply pw_below_drewN | apply below_drew1 | refine below_set ?_ GE186.out) | exact HB.out)⟩
  · rw [if_neg c2] at H
    have c2b0 : decide (1 ≤ a0_0) = false := decide_eq_false c2
    clear c2
    obtain rfl := Option.some.inj H
    go_enter Try.func19, Try.ntmps19
    go_wp2_with (first | ((with_reducible refine gate_dst (N := 1) rfl ?_); refine box_event ?hg (N := 1) ?hd (cs := #[.int .i64 a0_0, .slice A0_1 l0_1.length c0_1]) (t := 24) ?hr ?_; (case hd => rfl); (case hg => rfl); (case hr => first | (go_simp; done) | (go_simp; rfl)); intro gb186 hg w15 hbox hb; have n0_ := Aside0.mk (below_step (by repeat (first | (with_reducible first | exact HB.out | apply below_alloc | apply pw_below_drewN | apply below_drew1) | exact HB.out)) hb); have n1_ := Aside0.mk (hbox); have n2_ := Aside0.mk ((by rw [hg]; exact (below_size (by repeat (first | (with_reducible first | exact HB.out | apply below_alloc | apply pw_below_drewN | apply below_drew1) | exact HB.out))) : w.heap.size ≤ gb186)); have n3_ := Aside0.mk ((by rw [hg]; exact (below_size (by repeat (first | (with_reducible first | exact HB.out | apply below_alloc | apply pw_below_drewN | apply below_drew1) | exact HB.out))) : w.heap.size ≤ gb186)); clear HB; have HB := n0_; have BK186 := n1_; have GW186 := n2_; have GE186 := n3_; clear n0_ n1_ n2_ n3_; clear hb hbox hg; have hcz16_0 : w15.cell? ⟨gb186, 0, none⟩ = some (.int .i64 a0_0) := (blk_cell BK186.out 0).trans rfl; have hcz16_1 : w15.cell? ⟨gb186, 1, none⟩ = some (.slice A0_1 l0_1.length c0_1) := (blk_cell BK186.out 1).trans rfl; have hfz16_0 := blk_frozen BK186.out 0; have hfz16_1 := blk_frozen BK186.out 1))
    go_ret
    exact ⟨by first | rfl | (simp [errW_none, errW_some] <;> rfl) | (simp [*, errW_none, errW_some] <;> rfl) | (rw [Int.tmod_eq_emod_of_nonneg (Int.natCast_nonneg _)]; rfl), by repeat (first | (with_reducible first | exact HB.out | apply below_alloc | apply pw_below_drewN | apply below_drew1 | refine below_set ?_ GE186.out) | exact HB.out)⟩


/-! ### chargeparkref17_With: function 29 -/
def chargeparkref17_With.f (a0_0 : Int) (l0_1 : List Int) (a1 : Int) (a2 : Int) : Option (Int × List Int) := (some (([] : List Int) : List Int)).bind fun y189 => (if y189.length + l0_1.length < 140737488355328 then ((some (y189 ++ l0_1 : List Int)).bind fun y192 => (if 0 ≤ a1 then (if a1 < (y192.length : Int) then (some (a0_0, (y192.set (a1 : Int).toNat a2))) else (none)) else (none))) else (none))
def chargeparkref17_With.T1 : Bool × List (List Nat × List Nat) := (true, [([], []), ([0], [0]), ([], []), ([], []), ([3], [3]), ([2, 4], [2, 4]), ([1, 5], [1, 5]), ([], []), ([7, 6, 5, 0, 1, 2, 3, 4, 5, 6, 7], [6, 7])])
def chargeparkref17_With.B1 : List Nat := [0, 1, 0, 0, 8, 28, 63, 0, 255]
theorem chargeparkref17_With.tab1 : rtab .any (opsOf Try.f29 1) = chargeparkref17_With.T1 := by kernel_rfl
theorem chargeparkref17_With.bits1 : waitsOk chargeparkref17_With.T1.2 chargeparkref17_With.B1 = true := by kernel_rfl
set_option maxHeartbeats 8000000 in
set_option maxRecDepth 100000 in
theorem chargeparkref17_With.calls (a0_0 : Int) (A0_1 : Option Addr) (c0_1 : Nat) (l0_1 : List Int) (a1 : Int) (a2 : Int) (r1 : Int) (r2 : List Int) (w : World) (hr0_1 : Kd.C (Kd.int .u8) w A0_1 l0_1.length l0_1) (hc0_1 : l0_1.length ≤ c0_1) (h : chargeparkref17_With.f a0_0 l0_1 a1 a2 = some (r1, r2)) :
    Calls Try.prog 29 #[.agg #[.int .i64 a0_0, .slice A0_1 l0_1.length c0_1], .int .i64 a1, .int .u8 a2] w fun e w' => ∃ v1_ : Value, e = .returned (.agg #[.int .i64 r1, v1_]) ∧ Kd.R (Kd.int .u8) 5 w' w.heap.size (fun _ => True) v1_ r2 ∧ Below w.heap.size w w' := by
  have hu24 := Try.underlying24
  have HR0_1 := Aside0.mk hr0_1
  have HC0_1 := Aside0.mk hc0_1
  clear hr0_1 hc0_1
  have HB := Aside0.mk (Below.refl w.heap.size w)
  have H : ((some (([] : List Int) : List Int)).bind fun y189 => (if y189.length + l0_1.length < 140737488355328 then ((some (y189 ++ l0_1 : List Int)).bind fun y192 => (if 0 ≤ a1 then (if a1 < (y192.length : Int) then (some (a0_0, (y192.set (a1 : Int).toNat a2))) else (none)) else (none))) else (none))) = some (r1, r2) := h
  clear h
  obtain ⟨y189, hy189⟩ : ∃ y_ : List Int, y_ = (([] : List Int)) := ⟨_, rfl⟩
  replace H : (if y189.length + l0_1.length < 140737488355328 then ((some (y189 ++ l0_1 : List Int)).bind fun y192 => (if 0 ≤ a1 then (if a1 < (y192.length : Int) then (some (a0_0, (y192.set (a1 : Int).toNat a2))) else (none)) else (none))) else (none)) = some (r1, r2) := by first | (rw [hy189]; with_reducible exact H) | (have H2_ := (Option.bind_some _ _).symm.trans H; rw [hy189]; with_reducible exact H2_) | (have H2_ := (Option.bind_some _ _).symm.trans H; with_reducible exact H2_) | with_reducible exact H | (rw [hy189]; exact H) | exact H
  have Ny189 := Aside0.mk hy189
  clear hy189
  by_cases c4 : y189.length + l0_1.length < 140737488355328
  · rw [if_pos c4] at H
    have LMc4 := Aside0.mk c4
    clear c4
    obtain ⟨y192, hy192⟩ : ∃ y_ : List Int, y_ = (y189 ++ l0_1) := ⟨_, rfl⟩
    replace H : (if 0 ≤ a1 then (if a1 < (y192.length : Int) then (some (a0_0, (y192.set (a1 : Int).toNat a2))) else (none)) else (none)) = some (r1, r2) := by first | (rw [hy192]; with_reducible exact H) | (have H2_ := (Option.bind_some _ _).symm.trans H; rw [hy192]; with_reducible exact H2_) | (have H2_ := (Option.bind_some _ _).symm.trans H; with_reducible exact H2_) | with_reducible exact H | (rw [hy192]; exact H) | exact H
    have Ny192 := Aside0.mk hy192
    clear hy192
    by_cases c5 : 0 ≤ a1
    · rw [if_pos c5] at H
      have c5b0 : decide (0 ≤ a1) = true := decide_eq_true c5
      clear c5
      by_cases c6 : a1 < (y192.length : Int)
      · rw [if_pos c6] at H
        have c6b0 : decide (a1 < (y192.length : Int)) = true := decide_eq_true c6
        clear c6
        obtain ⟨y196, hy196⟩ : ∃ y_ : List Int, y_ = (y192.set (a1 : Int).toNat a2) := ⟨_, rfl⟩
        replace H : (some (a0_0, y196)) = some (r1, r2) := by first | (rw [hy196]; with_reducible exact H) | (have H2_ := (Option.bind_some _ _).symm.trans H; rw [hy196]; with_reducible exact H2_) | (have H2_ := (Option.bind_some _ _).symm.trans H; with_reducible exact H2_) | with_reducible exact H | (rw [hy196]; exact H) | exact H
        have Ny196 := Aside0.mk hy196
        clear hy196
        simp only [Option.some.injEq, Prod.mk.injEq] at H
        obtain ⟨rfl, rfl⟩ := H
        go_enter Try.func29, Try.ntmps29
        try go_wp2_with (first | ((with_reducible refine gate_dst (N := 3) rfl ?_); refine box_event ?hg (N := 3) ?hd (cs := #[.int .i64 a0_0, .slice A0_1 l0_1.length c0_1]) (t := 24) ?hr ?_; (case hd => rfl); (case hg => rfl); (case hr => first | (go_simp; done) | (go_simp; rfl)); intro gb187 hg w8 hbox hb; have n0_ := Aside0.mk (below_step (by repeat (first | (with_reducible first | exact HB.out | apply below_alloc | apply pw_below_drewN | apply below_drew1) | exact HB.out)) hb); have n1_ := Aside0.mk (hbox); have n2_ := Aside0.mk ((by rw [hg]; exact (below_size (by repeat (first | (with_reducible first | exact HB.out | apply below_alloc | apply pw_below_drewN | apply below_drew1) | exact HB.out))) : w.heap.size ≤ gb187)); have n3_ := Aside0.mk ((by rw [hg]; exact (below_size (by repeat (first | (with_reducible first | exact HB.out | apply below_alloc | apply pw_below_drewN | apply below_drew1) | exact HB.out))) : w.heap.size ≤ gb187)); clear HB; have HB := n0_; have BK187 := n1_; have GW187 := n2_; have GE187 := n3_; clear n0_ n1_ n2_ n3_; clear hb hbox hg) | ((with_reducible refine gate_dst (N := 6) rfl ?_); refine box_event ?hg (N := 6) ?hd (cs := #[.int .i64 0, .slice none 0 0]) (t := 24) ?hr ?_; (case hd => rfl); (case hg => rfl); (case hr => first | (go_simp; done) | (go_simp; rfl)); intro gb188 hg w9 hbox hb; have n0_ := Aside0.mk (blk_below (g := gb187) (o := .cells #[.int .i64 a0_0, .slice A0_1 l0_1.length c0_1] 24 (0, 0)) (by (with_reducible repeat (first | refine blk_drewN ?_ _ | refine blk_drew ?_ | refine blk_alloc ?_ _)); exact BK187.out) hb); have n1_ := Aside0.mk (below_step (by repeat (first | (with_reducible first | exact HB.out | apply below_alloc | apply pw_below_drewN | apply below_drew1 | refine below_set ?_ GE187.out) | exact HB.out)) hb); have n2_ := Aside0.mk (hbox); have n3_ := Aside0.mk ((by rw [hg]; exact (below_size (by repeat (first | (with_reducible first | exact HB.out | apply below_alloc | apply pw_below_drewN | apply below_drew1 | refine below_set ?_ GE187.out) | exact HB.out))) : w.heap.size ≤ gb188)); have n4_ := Aside0.mk ((by rw [hg]; exact (below_size (by repeat (first | (with_reducible first | exact HB.out | apply below_alloc | apply pw_below_drewN | apply below_drew1 | refine below_set ?_ GE187.out) | exact HB.out))) : w.heap.size ≤ gb188)); have n5_ := Aside0.mk ((by rw [hg]; exact Nat.ne_of_lt (blk_lt (g := gb187) (o := .cells #[.int .i64 a0_0, .slice A0_1 l0_1.length c0_1] 24 (0, 0)) (by (with_reducible repeat (first | refine blk_drewN ?_ _ | refine blk_drew ?_ | refine blk_alloc ?_ _)); exact BK187.out)) : gb187 ≠ gb188)); have n6_ := Aside0.mk ((by rw [hg]; exact Nat.ne_of_gt (blk_lt (g := gb187) (o := .cells #[.int .i64 a0_0, .slice A0_1 l0_1.length c0_1] 24 (0, 0)) (by (with_reducible repeat (first | refine blk_drewN ?_ _ | refine blk_drew ?_ | refine blk_alloc ?_ _)); exact BK187.out)) : gb188 ≠ gb187)); clear BK187; clear HB; have BK187 := n0_; have HB := n1_; have BK188 := n2_; have GW188 := n3_; have GE188 := n4_; have NB187_188 := n5_; have NB188_187 := n6_; clear n0_ n1_ n2_ n3_ n4_ n5_ n6_; clear hb hbox hg))
        have n0_ := Aside0.mk (blk_drew BK187.out)
        have n1_ := Aside0.mk (blk_drew BK188.out)
        have n2_ := Aside0.mk (below_drew1 HB.out)
        clear BK187
        clear BK188
        clear HB
        have BK187 := n0_
        have BK188 := n1_
        have HB := n2_
        clear n0_ n1_ n2_
        refine start_ (n := 9) (S := fun w' => w'.cell? ⟨gb187, 0, none⟩ = some (.int .i64 a0_0) ∧ w'.cell? ⟨gb187, 1, none⟩ = some (.slice A0_1 l0_1.length c0_1)) (ds := []) #[false, false, false, false, false, false, false, false, false] (by kernel_rfl) rfl rfl ⟨(blk_cell BK187.out 0).trans rfl, (blk_cell BK187.out 1).trans rfl⟩ (fun hHeld => ?_); refine with_tabW chargeparkref17_With.tab1 chargeparkref17_With.bits1 (fun HT_ HW_ => ?_)
        generalize w9.drew = w10 at BK187 BK188 HB hHeld ⊢
        refine pure_ (i := 0) (N := some 8) (v := ?_) (a' := ?_) #[true, false, false, false, false, false, false, false, false] rfl rfl (any_of HT_.out (by kernel_rfl)) (fun _ _ _ h => h) (Or.inl ⟨by rfl, ?_⟩) ?_ ?_
        rotate_left
        · intro w'
          go_simp
          with_reducible rfl
        rotate_left
        · simp only [Act.put, List.setIfInBounds_toArray, List.set_cons_zero, List.set_cons_succ, i64_w, i32_w]
          rfl
        refine pure_ (i := 3) (N := some 11) (v := ?_) (a' := ?_) #[true, false, false, true, false, false, false, false, false] rfl rfl (any_of HT_.out (by kernel_rfl)) (fun _ _ _ h => h) (Or.inl ⟨by rfl, ?_⟩) ?_ ?_
        rotate_left
        · intro w'
          go_simp
          with_reducible rfl
        rotate_left
        · simp only [Act.put, List.setIfInBounds_toArray, List.set_cons_zero, List.set_cons_succ, i64_w, i32_w]
          rfl
        refine take_ (i := 1) (N := some 9) (v := ?_) (a' := ?_) #[true, true, false, true, false, false, false, false, false] rfl rfl (take_ofW HT_.out HW_.out (by kernel_rfl)) (fun _ _ _ h => h) (Or.inl ⟨by rfl, ?_⟩) hHeld ?_ ?_
        rotate_left
        · rintro w' ⟨s0, s1⟩
          go_simp
          with_reducible rfl
        rotate_left
        · simp only [Act.put, List.setIfInBounds_toArray, List.set_cons_zero, List.set_cons_succ, i64_w, i32_w]
          rfl
        refine take_ (i := 4) (N := some 12) (v := ?_) (a' := ?_) #[true, true, false, true, true, false, false, false, false] rfl rfl (take_ofW HT_.out HW_.out (by kernel_rfl)) (fun _ _ _ h => h) (Or.inl ⟨by rfl, ?_⟩) hHeld ?_ ?_
        rotate_left
        · rintro w' ⟨s0, s1⟩
          go_simp
          with_reducible rfl
        rotate_left
        · simp only [Act.put, List.setIfInBounds_toArray, List.set_cons_zero, List.set_cons_succ, i64_w, i32_w]
          rfl
        refine join_ (σ := Value × Value × Nat) 1 #[true, true, true, true, true, true, true, true, false] (fun s_ => [(10, s_.1), (13, s_.2.1), (7, .pointer (some ⟨s_.2.2, 0, none⟩)), (14, .agg #[.int .i64 a0_0, s_.2.1])]) (fun s_ w' => (w'.cell? ⟨gb187, 0, none⟩ = some (.int .i64 a0_0) ∧ w'.cell? ⟨gb187, 1, none⟩ = some (.slice A0_1 l0_1.length c0_1)) ∧ (Kd.R (Kd.int .u8) 5 w' w.heap.size (fun _ => True) s_.2.1 y192) ∧ (w'.heap[gb187]? = some (.cells #[.int .i64 a0_0, .slice A0_1 l0_1.length c0_1] 24 (0, 0))) ∧ (w'.heap[gb188]? = some (.cells #[.int .i64 0, .slice none 0 0] 24 (0, 0))) ∧ (w'.heap[s_.2.2]? = some (.cells #[.int .i64 0, .slice none 0 0] 24 (0, 0))) ∧ (w.heap.size ≤ s_.2.2) ∧ (w.heap.size ≤ s_.2.2) ∧ (gb187 ≠ s_.2.2) ∧ (s_.2.2 ≠ gb187) ∧ (gb188 ≠ s_.2.2) ∧ (s_.2.2 ≠ gb188) ∧ (Below w.heap.size w w')) ?_ ?_
        rotate_left
        · intro hCont
          refine two_ (i := 2) (j := 7) (Ni := some 10) (Nj := some 7) #[true, true, true, true, true, false, false, false, false] #[true, true, false, true, true, false, false, true, false] rfl rfl rfl rfl (two_of HT_.out (by kernel_rfl)) (by decide) (by decide) (fun K hK => ?_) (fun K hK => ?_)
          · skip
            refine Kd.R_lit_step (Kd.int .u8) _ 5 ?hg (N := 10) ?hd (xs := ([] : List Int)) (inner := []) (ok := fun _ => True) (okp := fun _ => True) ?hr ?hp (fun _ hk => hk) trivial (Below.refl _ _) (Nat.le_refl _) (by simp) ?_; (case hd => rfl); (case hg => rfl); (case hr => first | (go_simp; done) | (go_simp; rfl)); (case hp => exact (Reps.none _ _))
            intro v190 w11 ho12 hb hg_ hnew_
            clear hg_ hnew_
            (first | rw [← Ny189.out] at ho12 | (simp only [Int.reduceToNat] at ho12; rw [← Ny189.out] at ho12))
            have n0_ := Aside0.mk (Kd.R_lower ho12 (below_size (by repeat (first | (with_reducible first | exact HB.out | apply below_alloc | apply pw_below_drewN | apply below_drew1 | refine below_set ?_ GE187.out | refine below_set ?_ GE188.out) | exact HB.out))))
            have n1_ := Aside0.mk (blk_below (g := gb187) (o := .cells #[.int .i64 a0_0, .slice A0_1 l0_1.length c0_1] 24 (0, 0)) (by (with_reducible repeat (first | refine blk_drewN ?_ _ | refine blk_drew ?_ | refine blk_alloc ?_ _)); exact BK187.out) hb)
            have n2_ := Aside0.mk (blk_below (g := gb188) (o := .cells #[.int .i64 0, .slice none 0 0] 24 (0, 0)) (by (with_reducible repeat (first | refine blk_drewN ?_ _ | refine blk_drew ?_ | refine blk_alloc ?_ _)); exact BK188.out) hb)
            have n3_ := Aside0.mk (below_step (by repeat (first | (with_reducible first | exact HB.out | apply below_alloc | apply pw_below_drewN | apply below_drew1 | refine below_set ?_ GE187.out | refine below_set ?_ GE188.out) | exact HB.out)) hb)
            clear BK187
            clear BK188
            clear HB
            have HO191 := n0_
            have BK187 := n1_
            have BK188 := n2_
            have HB := n3_
            clear n0_ n1_ n2_ n3_
            clear hb ho12
            refine hK.out _ _ ⟨(blk_cell BK187.out 0).trans rfl, (blk_cell BK187.out 1).trans rfl⟩ (fun hHeld => ?_)
            clear hK K
            refine norm_ (a' := ?_) ?_ ?_
            rotate_left
            · show Act.put _ (some 10) _ = _
              simp only [Act.put, List.setIfInBounds_toArray, List.set_cons_zero, List.set_cons_succ, i64_w, i32_w]
              rfl
            refine two_ (i := 5) (j := 7) (Ni := some 13) (Nj := some 7) #[true, true, true, true, true, true, false, false, false] #[true, true, true, true, true, false, false, true, false] rfl rfl rfl rfl (two_of HT_.out (by kernel_rfl)) (by decide) (by decide) (fun K hK => ?_) (fun K hK => ?_)
            · skip
              refine Kd.R_append_rows_step (Kd.int .u8) (w0 := w) w.heap.size (by rfl) (.tmp 10) (.tmp 12) 22 5 (.int .u8 0) 1 rfl Try.underlying22 info5 rfl (by decide) (by omega) v190 y189 l0_1 _ _ _ (fun _ => True) (fun _ => False) rfl rfl ?aO ?aR (fun _ _ h => h) (fun _ h => h.elim) ?aF ?aB ?aS ?aL ?_
              (case aR => repeat (first | exact (Kd.C_below HR0_1.out HB.out) | (with_reducible refine Kd.C_alloc ?_ _) | (with_reducible refine Kd.C_drewN ?_ _) | (with_reducible refine Kd.C_drew ?_)))
              (case aB => exact (by repeat (first | (with_reducible first | exact HB.out | apply below_alloc | apply pw_below_drewN | apply below_drew1 | refine below_set ?_ GE187.out | refine below_set ?_ GE188.out) | exact HB.out)))
              (case aF => exact (fun _ _ => trivial))
              (case aO => exact (by (with_reducible repeat (first | apply Kd.R_alloc | apply Kd.R_drewN | apply Kd.R_drew)); exact HO191.out))
              (case aS => exact (below_size (by repeat (first | (with_reducible first | exact HB.out | apply below_alloc | apply pw_below_drewN | apply below_drew1 | refine below_set ?_ GE187.out | refine below_set ?_ GE188.out) | exact HB.out))))
              (case aL => have := LMc4.out; omega)
              intro v193 w13 ho hb hg hat
              rw [← Ny192.out] at ho
              have n0_ := Aside0.mk (blk_grown (g := gb187) (o := .cells #[.int .i64 a0_0, .slice A0_1 l0_1.length c0_1] 24 (0, 0)) (by (with_reducible repeat (first | refine blk_drewN ?_ _ | refine blk_drew ?_ | refine blk_alloc ?_ _)); exact BK187.out) hg (Kd.R_ne HO191.out BK187.out (by decide)))
              have n1_ := Aside0.mk (blk_grown (g := gb188) (o := .cells #[.int .i64 0, .slice none 0 0] 24 (0, 0)) (by (with_reducible repeat (first | refine blk_drewN ?_ _ | refine blk_drew ?_ | refine blk_alloc ?_ _)); exact BK188.out) hg (Kd.R_ne HO191.out BK188.out (by decide)))
              have n2_ := Aside0.mk (hb)
              have n3_ := Aside0.mk (ho)
              clear BK187
              clear BK188
              clear HB
              clear HO191
              have BK187 := n0_
              have BK188 := n1_
              have HB := n2_
              have HO194 := n3_
              clear n0_ n1_ n2_ n3_
              clear ho hb hg hat
              obtain ⟨Ao14, co14, eo14⟩ := Kd.R_slice HO194.out
              (first | subst eo14 | (injection eo14 with f1_ f2_ f3_; have f4_ := f1_.symm; have f5_ := f3_.symm; clear f1_ f2_ f3_; subst f4_; subst f5_))
              refine hK.out _ _ ⟨(blk_cell BK187.out 0).trans rfl, (blk_cell BK187.out 1).trans rfl⟩ (fun hHeld => ?_)
              clear hK K
              refine norm_ (a' := ?_) ?_ ?_
              rotate_left
              · show Act.put _ (some 13) _ = _
                simp only [Act.put, List.setIfInBounds_toArray, List.set_cons_zero, List.set_cons_succ, i64_w, i32_w]
                rfl
              refine pure_ (i := 6) (N := some 14) (v := ?_) (a' := ?_) #[true, true, true, true, true, true, true, false, false] rfl rfl (any_of HT_.out (by kernel_rfl)) (fun _ _ _ h => h) (Or.inl ⟨by rfl, ?_⟩) ?_ ?_
              rotate_left
              · intro w'
                go_simp
                with_reducible rfl
              rotate_left
              · simp only [Act.put, List.setIfInBounds_toArray, List.set_cons_zero, List.set_cons_succ, i64_w, i32_w]
                rfl
              refine one_ (i := 7) (N := some 7) #[true, true, true, true, true, true, true, true, false] rfl rfl (one_of HT_.out (by kernel_rfl)) (by decide) (fun K hK => ?_)
              refine box_step ?hg (N := 7) ?hd (cs := #[.int .i64 0, .slice none 0 0]) (t := 24) ?hr ?_; (case hd => rfl); (case hg => rfl); (case hr => first | (go_simp; done) | (go_simp; rfl))
              intro gb195 hg w15 hbox hb
              have n0_ := Aside0.mk (Kd.R_below (by (with_reducible repeat (first | apply Kd.R_alloc | apply Kd.R_drewN | apply Kd.R_drew)); exact HO194.out) hb)
              have n1_ := Aside0.mk (blk_below (g := gb187) (o := .cells #[.int .i64 a0_0, .slice A0_1 l0_1.length c0_1] 24 (0, 0)) (by (with_reducible repeat (first | refine blk_drewN ?_ _ | refine blk_drew ?_ | refine blk_alloc ?_ _)); exact BK187.out) hb)
              have n2_ := Aside0.mk (blk_below (g := gb188) (o := .cells #[.int .i64 0, .slice none 0 0] 24 (0, 0)) (by (with_reducible repeat (first | refine blk_drewN ?_ _ | refine blk_drew ?_ | refine blk_alloc ?_ _)); exact BK188.out) hb)
              have n3_ := Aside0.mk (below_step (by repeat (first | (with_reducible first | exact HB.out | apply below_alloc | apply pw_below_drewN | apply below_drew1 | refine below_set ?_ GE187.out | refine below_set ?_ GE188.out) | exact HB.out)) hb)
              have n4_ := Aside0.mk (hbox)
              have n5_ := Aside0.mk ((by rw [hg]; exact (below_size (by repeat (first | (with_reducible first | exact HB.out | apply below_alloc | apply pw_below_drewN | apply below_drew1 | refine below_set ?_ GE187.out | refine below_set ?_ GE188.out) | exact HB.out))) : w.heap.size ≤ gb195))
              have n6_ := Aside0.mk ((by rw [hg]; exact (below_size (by repeat (first | (with_reducible first | exact HB.out | apply below_alloc | apply pw_below_drewN | apply below_drew1 | refine below_set ?_ GE187.out | refine below_set ?_ GE188.out) | exact HB.out))) : w.heap.size ≤ gb195))
              have n7_ := Aside0.mk ((by rw [hg]; exact Nat.ne_of_lt (blk_lt (g := gb187) (o := .cells #[.int .i64 a0_0, .slice A0_1 l0_1.length c0_1] 24 (0, 0)) (by (with_reducible repeat (first | refine blk_drewN ?_ _ | refine blk_drew ?_ | refine blk_alloc ?_ _)); exact BK187.out)) : gb187 ≠ gb195))
              have n8_ := Aside0.mk ((by rw [hg]; exact Nat.ne_of_gt (blk_lt (g := gb187) (o := .cells #[.int .i64 a0_0, .slice A0_1 l0_1.length c0_1] 24 (0, 0)) (by (with_reducible repeat (first | refine blk_drewN ?_ _ | refine blk_drew ?_ | refine blk_alloc ?_ _)); exact BK187.out)) : gb195 ≠ gb187))
              have n9_ := Aside0.mk ((by rw [hg]; exact Nat.ne_of_lt (blk_lt (g := gb188) (o := .cells #[.int .i64 0, .slice none 0 0] 24 (0, 0)) (by (with_reducible repeat (first | refine blk_drewN ?_ _ | refine blk_drew ?_ | refine blk_alloc ?_ _)); exact BK188.out)) : gb188 ≠ gb195))
              have n10_ := Aside0.mk ((by rw [hg]; exact Nat.ne_of_gt (blk_lt (g := gb188) (o := .cells #[.int .i64 0, .slice none 0 0] 24 (0, 0)) (by (with_reducible repeat (first | refine blk_drewN ?_ _ | refine blk_drew ?_ | refine blk_alloc ?_ _)); exact BK188.out)) : gb195 ≠ gb188))
              clear HO194
              clear BK187
              clear BK188
              clear HB
              have HO194 := n0_
              have BK187 := n1_
              have BK188 := n2_
              have HB := n3_
              have BK195 := n4_
              have GW195 := n5_
              have GE195 := n6_
              have NB187_195 := n7_
              have NB195_187 := n8_
              have NB188_195 := n9_
              have NB195_188 := n10_
              clear n0_ n1_ n2_ n3_ n4_ n5_ n6_ n7_ n8_ n9_ n10_
              clear hb hbox hg
              refine hK.out _ _ ⟨(blk_cell BK187.out 0).trans rfl, (blk_cell BK187.out 1).trans rfl⟩ (fun hHeld => ?_)
              clear hK K
              refine norm_ (a' := ?_) ?_ ?_
              rotate_left
              · show Act.put _ (some 7) _ = _
                simp only [Act.put, List.setIfInBounds_toArray, List.set_cons_zero, List.set_cons_succ, i64_w, i32_w]
                rfl
              exact norm_ (by simp only [putAll, Act.put, List.setIfInBounds_toArray, List.set_cons_zero, List.set_cons_succ]) (hCont (v190, .slice Ao14 y192.length co14, gb195) _ ⟨hHeld, (by (with_reducible repeat (first | apply Kd.R_alloc | apply Kd.R_drewN | apply Kd.R_drew)); exact HO194.out), (by (with_reducible repeat (first | refine blk_drewN ?_ _ | refine blk_drew ?_ | refine blk_alloc ?_ _)); exact BK187.out), (by (with_reducible repeat (first | refine blk_drewN ?_ _ | refine blk_drew ?_ | refine blk_alloc ?_ _)); exact BK188.out), (by (with_reducible repeat (first | refine blk_drewN ?_ _ | refine blk_drew ?_ | refine blk_alloc ?_ _)); exact BK195.out), GW195.out, GE195.out, NB187_195.out, NB195_187.out, NB188_195.out, NB195_188.out, (by repeat (first | (with_reducible first | exact HB.out | apply below_alloc | apply pw_below_drewN | apply below_drew1 | refine below_set ?_ GE187.out | refine below_set ?_ GE188.out | refine below_set ?_ GE195.out) | exact HB.out))⟩)
            · skip
              refine box_step ?hg (N := 7) ?hd (cs := #[.int .i64 0, .slice none 0 0]) (t := 24) ?hr ?_; (case hd => rfl); (case hg => rfl); (case hr => first | (go_simp; done) | (go_simp; rfl))
              intro gb195 hg w13 hbox hb
              have n0_ := Aside0.mk (Kd.R_below (by (with_reducible repeat (first | apply Kd.R_alloc | apply Kd.R_drewN | apply Kd.R_drew)); exact HO191.out) hb)
              have n1_ := Aside0.mk (blk_below (g := gb187) (o := .cells #[.int .i64 a0_0, .slice A0_1 l0_1.length c0_1] 24 (0, 0)) (by (with_reducible repeat (first | refine blk_drewN ?_ _ | refine blk_drew ?_ | refine blk_alloc ?_ _)); exact BK187.out) hb)
              have n2_ := Aside0.mk (blk_below (g := gb188) (o := .cells #[.int .i64 0, .slice none 0 0] 24 (0, 0)) (by (with_reducible repeat (first | refine blk_drewN ?_ _ | refine blk_drew ?_ | refine blk_alloc ?_ _)); exact BK188.out) hb)
              have n3_ := Aside0.mk (below_step (by repeat (first | (with_reducible first | exact HB.out | apply below_alloc | apply pw_below_drewN | apply below_drew1 | refine below_set ?_ GE187.out | refine below_set ?_ GE188.out) | exact HB.out)) hb)
              have n4_ := Aside0.mk (hbox)
              have n5_ := Aside0.mk ((by rw [hg]; exact (below_size (by repeat (first | (with_reducible first | exact HB.out | apply below_alloc | apply pw_below_drewN | apply below_drew1 | refine below_set ?_ GE187.out | refine below_set ?_ GE188.out) | exact HB.out))) : w.heap.size ≤ gb195))
              have n6_ := Aside0.mk ((by rw [hg]; exact (below_size (by repeat (first | (with_reducible first | exact HB.out | apply below_alloc | apply pw_below_drewN | apply below_drew1 | refine below_set ?_ GE187.out | refine below_set ?_ GE188.out) | exact HB.out))) : w.heap.size ≤ gb195))
              have n7_ := Aside0.mk ((by rw [hg]; exact Nat.ne_of_lt (blk_lt (g := gb187) (o := .cells #[.int .i64 a0_0, .slice A0_1 l0_1.length c0_1] 24 (0, 0)) (by (with_reducible repeat (first | refine blk_drewN ?_ _ | refine blk_drew ?_ | refine blk_alloc ?_ _)); exact BK187.out)) : gb187 ≠ gb195))
              have n8_ := Aside0.mk ((by rw [hg]; exact Nat.ne_of_gt (blk_lt (g := gb187) (o := .cells #[.int .i64 a0_0, .slice A0_1 l0_1.length c0_1] 24 (0, 0)) (by (with_reducible repeat (first | refine blk_drewN ?_ _ | refine blk_drew ?_ | refine blk_alloc ?_ _)); exact BK187.out)) : gb195 ≠ gb187))
              have n9_ := Aside0.mk ((by rw [hg]; exact Nat.ne_of_lt (blk_lt (g := gb188) (o := .cells #[.int .i64 0, .slice none 0 0] 24 (0, 0)) (by (with_reducible repeat (first | refine blk_drewN ?_ _ | refine blk_drew ?_ | refine blk_alloc ?_ _)); exact BK188.out)) : gb188 ≠ gb195))
              have n10_ := Aside0.mk ((by rw [hg]; exact Nat.ne_of_gt (blk_lt (g := gb188) (o := .cells #[.int .i64 0, .slice none 0 0] 24 (0, 0)) (by (with_reducible repeat (first | refine blk_drewN ?_ _ | refine blk_drew ?_ | refine blk_alloc ?_ _)); exact BK188.out)) : gb195 ≠ gb188))
              clear HO191
              clear BK187
              clear BK188
              clear HB
              have HO191 := n0_
              have BK187 := n1_
              have BK188 := n2_
              have HB := n3_
              have BK195 := n4_
              have GW195 := n5_
              have GE195 := n6_
              have NB187_195 := n7_
              have NB195_187 := n8_
              have NB188_195 := n9_
              have NB195_188 := n10_
              clear n0_ n1_ n2_ n3_ n4_ n5_ n6_ n7_ n8_ n9_ n10_
              clear hb hbox hg
              refine hK.out _ _ ⟨(blk_cell BK187.out 0).trans rfl, (blk_cell BK187.out 1).trans rfl⟩ (fun hHeld => ?_)
              clear hK K
              refine norm_ (a' := ?_) ?_ ?_
              rotate_left
              · show Act.put _ (some 7) _ = _
                simp only [Act.put, List.setIfInBounds_toArray, List.set_cons_zero, List.set_cons_succ, i64_w, i32_w]
                rfl
              refine one_ (i := 5) (N := some 13) #[true, true, true, true, true, true, false, true, false] rfl rfl (one_of HT_.out (by kernel_rfl)) (by decide) (fun K hK => ?_)
              refine Kd.R_append_rows_step (Kd.int .u8) (w0 := w) w.heap.size (by rfl) (.tmp 10) (.tmp 12) 22 5 (.int .u8 0) 1 rfl Try.underlying22 info5 rfl (by decide) (by omega) v190 y189 l0_1 _ _ _ (fun _ => True) (fun _ => False) rfl rfl ?aO ?aR (fun _ _ h => h) (fun _ h => h.elim) ?aF ?aB ?aS ?aL ?_
              (case aR => repeat (first | exact (Kd.C_below HR0_1.out HB.out) | (with_reducible refine Kd.C_alloc ?_ _) | (with_reducible refine Kd.C_drewN ?_ _) | (with_reducible refine Kd.C_drew ?_)))
              (case aB => exact (by repeat (first | (with_reducible first | exact HB.out | apply below_alloc | apply pw_below_drewN | apply below_drew1 | refine below_set ?_ GE187.out | refine below_set ?_ GE188.out | refine below_set ?_ GE195.out) | exact HB.out)))
              (case aF => exact (fun _ _ => trivial))
              (case aO => exact (by (with_reducible repeat (first | apply Kd.R_alloc | apply Kd.R_drewN | apply Kd.R_drew)); exact HO191.out))
              (case aS => exact (below_size (by repeat (first | (with_reducible first | exact HB.out | apply below_alloc | apply pw_below_drewN | apply below_drew1 | refine below_set ?_ GE187.out | refine below_set ?_ GE188.out | refine below_set ?_ GE195.out) | exact HB.out))))
              (case aL => have := LMc4.out; omega)
              intro v193 w14 ho hb hg hat
              rw [← Ny192.out] at ho
              have n0_ := Aside0.mk (blk_grown (g := gb187) (o := .cells #[.int .i64 a0_0, .slice A0_1 l0_1.length c0_1] 24 (0, 0)) (by (with_reducible repeat (first | refine blk_drewN ?_ _ | refine blk_drew ?_ | refine blk_alloc ?_ _)); exact BK187.out) hg (Kd.R_ne HO191.out BK187.out (by decide)))
              have n1_ := Aside0.mk (blk_grown (g := gb188) (o := .cells #[.int .i64 0, .slice none 0 0] 24 (0, 0)) (by (with_reducible repeat (first | refine blk_drewN ?_ _ | refine blk_drew ?_ | refine blk_alloc ?_ _)); exact BK188.out) hg (Kd.R_ne HO191.out BK188.out (by decide)))
              have n2_ := Aside0.mk (blk_grown (g := gb195) (o := .cells #[.int .i64 0, .slice none 0 0] 24 (0, 0)) (by (with_reducible repeat (first | refine blk_drewN ?_ _ | refine blk_drew ?_ | refine blk_alloc ?_ _)); exact BK195.out) hg (Kd.R_ne HO191.out BK195.out (by decide)))
              have n3_ := Aside0.mk (hb)
              have n4_ := Aside0.mk (ho)
              clear BK187
              clear BK188
              clear BK195
              clear HB
              clear HO191
              have BK187 := n0_
              have BK188 := n1_
              have BK195 := n2_
              have HB := n3_
              have HO194 := n4_
              clear n0_ n1_ n2_ n3_ n4_
              clear ho hb hg hat
              obtain ⟨Ao15, co15, eo15⟩ := Kd.R_slice HO194.out
              (first | subst eo15 | (injection eo15 with f1_ f2_ f3_; have f4_ := f1_.symm; have f5_ := f3_.symm; clear f1_ f2_ f3_; subst f4_; subst f5_))
              refine hK.out _ _ ⟨(blk_cell BK187.out 0).trans rfl, (blk_cell BK187.out 1).trans rfl⟩ (fun hHeld => ?_)
              clear hK K
              refine norm_ (a' := ?_) ?_ ?_
              rotate_left
              · show Act.put _ (some 13) _ = _
                simp only [Act.put, List.setIfInBounds_toArray, List.set_cons_zero, List.set_cons_succ, i64_w, i32_w]
                rfl
              refine pure_ (i := 6) (N := some 14) (v := ?_) (a' := ?_) #[true, true, true, true, true, true, true, true, false] rfl rfl (any_of HT_.out (by kernel_rfl)) (fun _ _ _ h => h) (Or.inl ⟨by rfl, ?_⟩) ?_ ?_
              rotate_left
              · intro w'
                go_simp
                with_reducible rfl
              rotate_left
              · simp only [Act.put, List.setIfInBounds_toArray, List.set_cons_zero, List.set_cons_succ, i64_w, i32_w]
                rfl
              exact norm_ (by simp only [putAll, Act.put, List.setIfInBounds_toArray, List.set_cons_zero, List.set_cons_succ]) (hCont (v190, .slice Ao15 y192.length co15, gb195) _ ⟨hHeld, (by (with_reducible repeat (first | apply Kd.R_alloc | apply Kd.R_drewN | apply Kd.R_drew)); exact HO194.out), (by (with_reducible repeat (first | refine blk_drewN ?_ _ | refine blk_drew ?_ | refine blk_alloc ?_ _)); exact BK187.out), (by (with_reducible repeat (first | refine blk_drewN ?_ _ | refine blk_drew ?_ | refine blk_alloc ?_ _)); exact BK188.out), (by (with_reducible repeat (first | refine blk_drewN ?_ _ | refine blk_drew ?_ | refine blk_alloc ?_ _)); exact BK195.out), GW195.out, GE195.out, NB187_195.out, NB195_187.out, NB188_195.out, NB195_188.out, (by repeat (first | (with_reducible first | exact HB.out | apply below_alloc | apply pw_below_drewN | apply below_drew1 | refine below_set ?_ GE187.out | refine below_set ?_ GE188.out | refine below_set ?_ GE195.out) | exact HB.out))⟩)
          · skip
            refine box_step ?hg (N := 7) ?hd (cs := #[.int .i64 0, .slice none 0 0]) (t := 24) ?hr ?_; (case hd => rfl); (case hg => rfl); (case hr => first | (go_simp; done) | (go_simp; rfl))
            intro gb195 hg w11 hbox hb
            have n0_ := Aside0.mk (blk_below (g := gb187) (o := .cells #[.int .i64 a0_0, .slice A0_1 l0_1.length c0_1] 24 (0, 0)) (by (with_reducible repeat (first | refine blk_drewN ?_ _ | refine blk_drew ?_ | refine blk_alloc ?_ _)); exact BK187.out) hb)
            have n1_ := Aside0.mk (blk_below (g := gb188) (o := .cells #[.int .i64 0, .slice none 0 0] 24 (0, 0)) (by (with_reducible repeat (first | refine blk_drewN ?_ _ | refine blk_drew ?_ | refine blk_alloc ?_ _)); exact BK188.out) hb)
            have n2_ := Aside0.mk (below_step (by repeat (first | (with_reducible first | exact HB.out | apply below_alloc | apply pw_below_drewN | apply below_drew1 | refine below_set ?_ GE187.out | refine below_set ?_ GE188.out) | exact HB.out)) hb)
            have n3_ := Aside0.mk (hbox)
            have n4_ := Aside0.mk ((by rw [hg]; exact (below_size (by repeat (first | (with_reducible first | exact HB.out | apply below_alloc | apply pw_below_drewN | apply below_drew1 | refine below_set ?_ GE187.out | refine below_set ?_ GE188.out) | exact HB.out))) : w.heap.size ≤ gb195))
            have n5_ := Aside0.mk ((by rw [hg]; exact (below_size (by repeat (first | (with_reducible first | exact HB.out | apply below_alloc | apply pw_below_drewN | apply below_drew1 | refine below_set ?_ GE187.out | refine below_set ?_ GE188.out) | exact HB.out))) : w.heap.size ≤ gb195))
            have n6_ := Aside0.mk ((by rw [hg]; exact Nat.ne_of_lt (blk_lt (g := gb187) (o := .cells #[.int .i64 a0_0, .slice A0_1 l0_1.length c0_1] 24 (0, 0)) (by (with_reducible repeat (first | refine blk_drewN ?_ _ | refine blk_drew ?_ | refine blk_alloc ?_ _)); exact BK187.out)) : gb187 ≠ gb195))
            have n7_ := Aside0.mk ((by rw [hg]; exact Nat.ne_of_gt (blk_lt (g := gb187) (o := .cells #[.int .i64 a0_0, .slice A0_1 l0_1.length c0_1] 24 (0, 0)) (by (with_reducible repeat (first | refine blk_drewN ?_ _ | refine blk_drew ?_ | refine blk_alloc ?_ _)); exact BK187.out)) : gb195 ≠ gb187))
            have n8_ := Aside0.mk ((by rw [hg]; exact Nat.ne_of_lt (blk_lt (g := gb188) (o := .cells #[.int .i64 0, .slice none 0 0] 24 (0, 0)) (by (with_reducible repeat (first | refine blk_drewN ?_ _ | refine blk_drew ?_ | refine blk_alloc ?_ _)); exact BK188.out)) : gb188 ≠ gb195))
            have n9_ := Aside0.mk ((by rw [hg]; exact Nat.ne_of_gt (blk_lt (g := gb188) (o := .cells #[.int .i64 0, .slice none 0 0] 24 (0, 0)) (by (with_reducible repeat (first | refine blk_drewN ?_ _ | refine blk_drew ?_ | refine blk_alloc ?_ _)); exact BK188.out)) : gb195 ≠ gb188))
            clear BK187
            clear BK188
            clear HB
            have BK187 := n0_
            have BK188 := n1_
            have HB := n2_
            have BK195 := n3_
            have GW195 := n4_
            have GE195 := n5_
            have NB187_195 := n6_
            have NB195_187 := n7_
            have NB188_195 := n8_
            have NB195_188 := n9_
            clear n0_ n1_ n2_ n3_ n4_ n5_ n6_ n7_ n8_ n9_
            clear hb hbox hg
            refine hK.out _ _ ⟨(blk_cell BK187.out 0).trans rfl, (blk_cell BK187.out 1).trans rfl⟩ (fun hHeld => ?_)
            clear hK K
            refine norm_ (a' := ?_) ?_ ?_
            rotate_left
            · show Act.put _ (some 7) _ = _
              simp only [Act.put, List.setIfInBounds_toArray, List.set_cons_zero, List.set_cons_succ, i64_w, i32_w]
              rfl
            refine one_ (i := 2) (N := some 10) #[true, true, true, true, true, false, false, true, false] rfl rfl (one_of HT_.out (by kernel_rfl)) (by decide) (fun K hK => ?_)
            refine Kd.R_lit_step (Kd.int .u8) _ 5 ?hg (N := 10) ?hd (xs := ([] : List Int)) (inner := []) (ok := fun _ => True) (okp := fun _ => True) ?hr ?hp (fun _ hk => hk) trivial (Below.refl _ _) (Nat.le_refl _) (by simp) ?_; (case hd => rfl); (case hg => rfl); (case hr => first | (go_simp; done) | (go_simp; rfl)); (case hp => exact (Reps.none _ _))
            intro v190 w12 ho13 hb hg_ hnew_
            clear hg_ hnew_
            (first | rw [← Ny189.out] at ho13 | (simp only [Int.reduceToNat] at ho13; rw [← Ny189.out] at ho13))
            have n0_ := Aside0.mk (Kd.R_lower ho13 (below_size (by repeat (first | (with_reducible first | exact HB.out | apply below_alloc | apply pw_below_drewN | apply below_drew1 | refine below_set ?_ GE187.out | refine below_set ?_ GE188.out | refine below_set ?_ GE195.out) | exact HB.out))))
            have n1_ := Aside0.mk (blk_below (g := gb187) (o := .cells #[.int .i64 a0_0, .slice A0_1 l0_1.length c0_1] 24 (0, 0)) (by (with_reducible repeat (first | refine blk_drewN ?_ _ | refine blk_drew ?_ | refine blk_alloc ?_ _)); exact BK187.out) hb)
            have n2_ := Aside0.mk (blk_below (g := gb188) (o := .cells #[.int .i64 0, .slice none 0 0] 24 (0, 0)) (by (with_reducible repeat (first | refine blk_drewN ?_ _ | refine blk_drew ?_ | refine blk_alloc ?_ _)); exact BK188.out) hb)
            have n3_ := Aside0.mk (blk_below (g := gb195) (o := .cells #[.int .i64 0, .slice none 0 0] 24 (0, 0)) (by (with_reducible repeat (first | refine blk_drewN ?_ _ | refine blk_drew ?_ | refine blk_alloc ?_ _)); exact BK195.out) hb)
            have n4_ := Aside0.mk (below_step (by repeat (first | (with_reducible first | exact HB.out | apply below_alloc | apply pw_below_drewN | apply below_drew1 | refine below_set ?_ GE187.out | refine below_set ?_ GE188.out | refine below_set ?_ GE195.out) | exact HB.out)) hb)
            clear BK187
            clear BK188
            clear BK195
            clear HB
            have HO191 := n0_
            have BK187 := n1_
            have BK188 := n2_
            have BK195 := n3_
            have HB := n4_
            clear n0_ n1_ n2_ n3_ n4_
            clear hb ho13
            refine hK.out _ _ ⟨(blk_cell BK187.out 0).trans rfl, (blk_cell BK187.out 1).trans rfl⟩ (fun hHeld => ?_)
            clear hK K
            refine norm_ (a' := ?_) ?_ ?_
            rotate_left
            · show Act.put _ (some 10) _ = _
              simp only [Act.put, List.setIfInBounds_toArray, List.set_cons_zero, List.set_cons_succ, i64_w, i32_w]
              rfl
            refine one_ (i := 5) (N := some 13) #[true, true, true, true, true, true, false, true, false] rfl rfl (one_of HT_.out (by kernel_rfl)) (by decide) (fun K hK => ?_)
            refine Kd.R_append_rows_step (Kd.int .u8) (w0 := w) w.heap.size (by rfl) (.tmp 10) (.tmp 12) 22 5 (.int .u8 0) 1 rfl Try.underlying22 info5 rfl (by decide) (by omega) v190 y189 l0_1 _ _ _ (fun _ => True) (fun _ => False) rfl rfl ?aO ?aR (fun _ _ h => h) (fun _ h => h.elim) ?aF ?aB ?aS ?aL ?_
            (case aR => repeat (first | exact (Kd.C_below HR0_1.out HB.out) | (with_reducible refine Kd.C_alloc ?_ _) | (with_reducible refine Kd.C_drewN ?_ _) | (with_reducible refine Kd.C_drew ?_)))
            (case aB => exact (by repeat (first | (with_reducible first | exact HB.out | apply below_alloc | apply pw_below_drewN | apply below_drew1 | refine below_set ?_ GE187.out | refine below_set ?_ GE188.out | refine below_set ?_ GE195.out) | exact HB.out)))
            (case aF => exact (fun _ _ => trivial))
            (case aO => exact (by (with_reducible repeat (first | apply Kd.R_alloc | apply Kd.R_drewN | apply Kd.R_drew)); exact HO191.out))
            (case aS => exact (below_size (by repeat (first | (with_reducible first | exact HB.out | apply below_alloc | apply pw_below_drewN | apply below_drew1 | refine below_set ?_ GE187.out | refine below_set ?_ GE188.out | refine below_set ?_ GE195.out) | exact HB.out))))
            (case aL => have := LMc4.out; omega)
            intro v193 w14 ho hb hg hat
            rw [← Ny192.out] at ho
            have n0_ := Aside0.mk (blk_grown (g := gb187) (o := .cells #[.int .i64 a0_0, .slice A0_1 l0_1.length c0_1] 24 (0, 0)) (by (with_reducible repeat (first | refine blk_drewN ?_ _ | refine blk_drew ?_ | refine blk_alloc ?_ _)); exact BK187.out) hg (Kd.R_ne HO191.out BK187.out (by decide)))
            have n1_ := Aside0.mk (blk_grown (g := gb188) (o := .cells #[.int .i64 0, .slice none 0 0] 24 (0, 0)) (by (with_reducible repeat (first | refine blk_drewN ?_ _ | refine blk_drew ?_ | refine blk_alloc ?_ _)); exact BK188.out) hg (Kd.R_ne HO191.out BK188.out (by decide)))
            have n2_ := Aside0.mk (blk_grown (g := gb195) (o := .cells #[.int .i64 0, .slice none 0 0] 24 (0, 0)) (by (with_reducible repeat (first | refine blk_drewN ?_ _ | refine blk_drew ?_ | refine blk_alloc ?_ _)); exact BK195.out) hg (Kd.R_ne HO191.out BK195.out (by decide)))
            have n3_ := Aside0.mk (hb)
            have n4_ := Aside0.mk (ho)
            clear BK187
            clear BK188
            clear BK195
            clear HB
            clear HO191
            have BK187 := n0_
            have BK188 := n1_
            have BK195 := n2_
            have HB := n3_
            have HO194 := n4_
            clear n0_ n1_ n2_ n3_ n4_
            clear ho hb hg hat
            obtain ⟨Ao15, co15, eo15⟩ := Kd.R_slice HO194.out
            (first | subst eo15 | (injection eo15 with f1_ f2_ f3_; have f4_ := f1_.symm; have f5_ := f3_.symm; clear f1_ f2_ f3_; subst f4_; subst f5_))
            refine hK.out _ _ ⟨(blk_cell BK187.out 0).trans rfl, (blk_cell BK187.out 1).trans rfl⟩ (fun hHeld => ?_)
            clear hK K
            refine norm_ (a' := ?_) ?_ ?_
            rotate_left
            · show Act.put _ (some 13) _ = _
              simp only [Act.put, List.setIfInBounds_toArray, List.set_cons_zero, List.set_cons_succ, i64_w, i32_w]
              rfl
            refine pure_ (i := 6) (N := some 14) (v := ?_) (a' := ?_) #[true, true, true, true, true, true, true, true, false] rfl rfl (any_of HT_.out (by kernel_rfl)) (fun _ _ _ h => h) (Or.inl ⟨by rfl, ?_⟩) ?_ ?_
            rotate_left
            · intro w'
              go_simp
              with_reducible rfl
            rotate_left
            · simp only [Act.put, List.setIfInBounds_toArray, List.set_cons_zero, List.set_cons_succ, i64_w, i32_w]
              rfl
            exact norm_ (by simp only [putAll, Act.put, List.setIfInBounds_toArray, List.set_cons_zero, List.set_cons_succ]) (hCont (v190, .slice Ao15 y192.length co15, gb195) _ ⟨hHeld, (by (with_reducible repeat (first | apply Kd.R_alloc | apply Kd.R_drewN | apply Kd.R_drew)); exact HO194.out), (by (with_reducible repeat (first | refine blk_drewN ?_ _ | refine blk_drew ?_ | refine blk_alloc ?_ _)); exact BK187.out), (by (with_reducible repeat (first | refine blk_drewN ?_ _ | refine blk_drew ?_ | refine blk_alloc ?_ _)); exact BK188.out), (by (with_reducible repeat (first | refine blk_drewN ?_ _ | refine blk_drew ?_ | refine blk_alloc ?_ _)); exact BK195.out), GW195.out, GE195.out, NB187_195.out, NB195_187.out, NB188_195.out, NB195_188.out, (by repeat (first | (with_reducible first | exact HB.out | apply below_alloc | apply pw_below_drewN | apply below_drew1 | refine below_set ?_ GE187.out | refine below_set ?_ GE188.out | refine below_set ?_ GE195.out) | exact HB.out))⟩)
        rintro ⟨v190, v193, gb195⟩ w16 ⟨hS_, h0_, h1_, h2_, h3_, h4_, h5_, h6_, h7_, h8_, h9_, h10_⟩
        have n0_ : Aside0 (Kd.R (Kd.int .u8) 5 w16 w.heap.size (fun _ => True) v193 y192) := ⟨h0_⟩
        have n1_ : Aside0 (w16.heap[gb187]? = some (.cells #[.int .i64 a0_0, .slice A0_1 l0_1.length c0_1] 24 (0, 0))) := ⟨h1_⟩
        have n2_ : Aside0 (w16.heap[gb188]? = some (.cells #[.int .i64 0, .slice none 0 0] 24 (0, 0))) := ⟨h2_⟩
        have n3_ : Aside0 (w16.heap[gb195]? = some (.cells #[.int .i64 0, .slice none 0 0] 24 (0, 0))) := ⟨h3_⟩
        have n4_ : Aside0 (w.heap.size ≤ gb195) := ⟨h4_⟩
        have n5_ : Aside0 (w.heap.size ≤ gb195) := ⟨h5_⟩
        have n6_ : Aside0 (gb187 ≠ gb195) := ⟨h6_⟩
        have n7_ : Aside0 (gb195 ≠ gb187) := ⟨h7_⟩
        have n8_ : Aside0 (gb188 ≠ gb195) := ⟨h8_⟩
        have n9_ : Aside0 (gb195 ≠ gb188) := ⟨h9_⟩
        have n10_ : Aside0 (Below w.heap.size w w16) := ⟨h10_⟩
        clear BK187
        clear BK188
        clear HB
        clear h0_ h1_ h2_ h3_ h4_ h5_ h6_ h7_ h8_ h9_ h10_
        have HO194 := n0_
        have BK187 := n1_
        have BK188 := n2_
        have BK195 := n3_
        have GW195 := n4_
        have GE195 := n5_
        have NB187_195 := n6_
        have NB195_187 := n7_
        have NB188_195 := n8_
        have NB195_188 := n9_
        have HB := n10_
        clear n0_ n1_ n2_ n3_ n4_ n5_ n6_ n7_ n8_ n9_ n10_
        have hHeld : w16.cell? ⟨gb187, 0, none⟩ = some (.int .i64 a0_0) ∧ w16.cell? ⟨gb187, 1, none⟩ = some (.slice A0_1 l0_1.length c0_1) := hS_
        obtain ⟨Ao17, co17, eo17⟩ := Kd.R_slice HO194.out
        (first | subst eo17 | (injection eo17 with f1_ f2_ f3_; have f4_ := f1_.symm; have f5_ := f3_.symm; clear f1_ f2_ f3_; subst f4_; subst f5_))
        refine norm_ (a' := ?_) ?_ ?_
        rotate_left
        · simp only [putAll, Act.put, List.setIfInBounds_toArray, List.set_cons_zero, List.set_cons_succ]
          rfl
        refine one_ (i := 8) (N := none) #[true, true, true, true, true, true, true, true, true] rfl rfl (one_of HT_.out (by kernel_rfl)) (by decide) (fun K hK => ?_)
        have hs18 : w16.cell? ⟨gb195, 0, none⟩ = some (.int .i64 0) := (blk_cell BK195.out 0).trans rfl
        have hfs18 := blk_frozen BK195.out 0
        have hns18_0 := NB187_195.out
        have hns18_1 := NB188_195.out
        have hms18_0 := NB195_187.out
        have hms18_1 := NB195_188.out
        have hs19 : w16.cell? ⟨gb195, 1, none⟩ = some (.slice none 0 0) := (blk_cell BK195.out 1).trans rfl
        have hfs19 := blk_frozen BK195.out 1
        have hns19_0 := NB187_195.out
        have hns19_1 := NB188_195.out
        have hms19_0 := NB195_187.out
        have hms19_1 := NB195_188.out
        refine skip_ (w1 := ?_) (by rfl) rfl ?_ ?_
        rotate_left
        · go_simp
          rfl
        refine hK.out _ _ ⟨((cell_far (p := ⟨gb195, _, none⟩) NB187_195.out _).trans (((cell_far (p := ⟨gb195, _, none⟩) NB187_195.out _).trans (hHeld.1)))), ((cell_far (p := ⟨gb195, _, none⟩) NB187_195.out _).trans (((cell_far (p := ⟨gb195, _, none⟩) NB187_195.out _).trans (hHeld.2))))⟩ (fun hHeld => ?_)
        clear hK K
        refine done_ (done_of HT_.out (by kernel_rfl)) ?_
        have n0_ : Aside0 (Kd.R (Kd.int .u8) 5 ((w16.setCell ⟨gb195, 0, none⟩ (.int .i64 a0_0)).setCell ⟨gb195, 1, none⟩ (.slice Ao17 y192.length co17)) w.heap.size (fun _ => True) (.slice Ao17 y192.length co17) y192) := ⟨by (with_reducible repeat (first | apply Kd.R_alloc | apply Kd.R_drewN | apply Kd.R_drew)); exact Kd.R_mono (Kd.R_far (p := ⟨gb195, 1, none⟩) (Kd.R_far (p := ⟨gb195, 0, none⟩) (Kd.R_types HO194.out BK195.out (by decide)) (fun _ hk => hk.2) (.int .i64 a0_0)) (fun _ hk => hk.2) (.slice Ao17 y192.length co17)) (fun _ hk => trivial)⟩
        have n1_ : Aside0 (((w16.setCell ⟨gb195, 0, none⟩ (.int .i64 a0_0)).setCell ⟨gb195, 1, none⟩ (.slice Ao17 y192.length co17)).heap[gb187]? = some (.cells #[.int .i64 a0_0, .slice A0_1 l0_1.length c0_1] 24 (0, 0))) := ⟨by (with_reducible repeat (first | refine blk_drewN ?_ _ | refine blk_drew ?_ | refine blk_alloc ?_ _)); refine blk_far ?_ NB187_195.out _; (with_reducible repeat (first | refine blk_drewN ?_ _ | refine blk_drew ?_ | refine blk_alloc ?_ _)); refine blk_far ?_ NB187_195.out _; (with_reducible repeat (first | refine blk_drewN ?_ _ | refine blk_drew ?_ | refine blk_alloc ?_ _)); exact BK187.out⟩
        have n2_ : Aside0 (((w16.setCell ⟨gb195, 0, none⟩ (.int .i64 a0_0)).setCell ⟨gb195, 1, none⟩ (.slice Ao17 y192.length co17)).heap[gb188]? = some (.cells #[.int .i64 0, .slice none 0 0] 24 (0, 0))) := ⟨by (with_reducible repeat (first | refine blk_drewN ?_ _ | refine blk_drew ?_ | refine blk_alloc ?_ _)); refine blk_far ?_ NB188_195.out _; (with_reducible repeat (first | refine blk_drewN ?_ _ | refine blk_drew ?_ | refine blk_alloc ?_ _)); refine blk_far ?_ NB188_195.out _; (with_reducible repeat (first | refine blk_drewN ?_ _ | refine blk_drew ?_ | refine blk_alloc ?_ _)); exact BK188.out⟩
        have n3_ : Aside0 (((w16.setCell ⟨gb195, 0, none⟩ (.int .i64 a0_0)).setCell ⟨gb195, 1, none⟩ (.slice Ao17 y192.length co17)).heap[gb195]? = some (.cells #[.int .i64 a0_0, .slice Ao17 y192.length co17] 24 (0, 0))) := ⟨by (with_reducible repeat (first | refine blk_drewN ?_ _ | refine blk_drew ?_ | refine blk_alloc ?_ _)); refine blk_put (cs := #[.int .i64 a0_0, .slice none 0 0]) ?_ 1 _ rfl; (with_reducible repeat (first | refine blk_drewN ?_ _ | refine blk_drew ?_ | refine blk_alloc ?_ _)); refine blk_put (cs := #[.int .i64 0, .slice none 0 0]) ?_ 0 _ rfl; (with_reducible repeat (first | refine blk_drewN ?_ _ | refine blk_drew ?_ | refine blk_alloc ?_ _)); exact BK195.out⟩
        have n4_ : Aside0 (Below w.heap.size w ((w16.setCell ⟨gb195, 0, none⟩ (.int .i64 a0_0)).setCell ⟨gb195, 1, none⟩ (.slice Ao17 y192.length co17))) := ⟨by repeat (first | (with_reducible first | exact HB.out | apply below_alloc | apply pw_below_drewN | apply below_drew1 | refine below_set ?_ GE187.out | refine below_set ?_ GE188.out | refine below_set ?_ GE195.out) | exact HB.out)⟩
        (try clear HO194)
        (try clear BK187)
        (try clear BK188)
        (try clear BK195)
        (try clear HB)
        generalize ((w16.setCell ⟨gb195, 0, none⟩ (.int .i64 a0_0)).setCell ⟨gb195, 1, none⟩ (.slice Ao17 y192.length co17)) = w20 at n0_ n1_ n2_ n3_ n4_ ⊢
        have HO194 := n0_
        have BK187 := n1_
        have BK188 := n2_
        have BK195 := n3_
        have HB := n4_
        clear n0_ n1_ n2_ n3_ n4_
        have hnb21 := NB195_187.out
        have hnc21 := NB187_195.out
        have hnb22 := NB195_188.out
        have hnc22 := NB188_195.out
        have hcz23_0 : w20.cell? ⟨gb195, 0, none⟩ = some (.int .i64 a0_0) := (blk_cell BK195.out 0).trans rfl
        have hcz23_1 : w20.cell? ⟨gb195, 1, none⟩ = some (.slice Ao17 y192.length co17) := (blk_cell BK195.out 1).trans rfl
        have hfz23_0 := blk_frozen BK195.out 0
        have hfz23_1 := blk_frozen BK195.out 1
        have p7 : 0 ≤ (a1 : Int) := of_decide_eq_true (by first | (with_reducible assumption) | assumption)
        have q7 : (a1 : Int) < ((y192.length : Int) : Int) := of_decide_eq_true (by first | (with_reducible assumption) | assumption)
        obtain ⟨go7, co7, eo7, gb7, gl7, cl7, HG7⟩ := Kd.R_form HO194.out (by omega)
        (first | cases eo7 | (injection eo7 with ea_ en_ ec_; (first | subst ea_ | (injection ea_ with ea_; subst ea_)); subst ec_; clear en_))
        have GB7 := Aside0.mk gb7
        have GG7 := Aside0.mk HG7
        clear gb7 gl7 HG7
        obtain ⟨hx7_0, hf7_0⟩ := Kd.R_celln 0 HO194.out (a1 : Int) p7 q7
        replace p7 := eq_true p7
        replace q7 := eq_true q7
        obtain ⟨hy24_, hz24_⟩ := Kd.R_celln 0 HO194.out (a1 : Int) (of_decide_eq_true (by first | (with_reducible assumption) | assumption)) (of_decide_eq_true (by first | (with_reducible assumption) | assumption))
        have HP24 := Kd.R_putg HO194.out (a1 : Int) a2
        try go_wp2_with (first | ((with_reducible refine gate_store (t := 5) (p := 19) rfl ?_); refine store_event (t := 5) (p := 19) (v := ?vo_w25) (w1 := (w20.setCell ⟨go7, (a1 : Int).toNat, none⟩ (.int .u8 a2))) ?hg ?ho ?hn ?hr ?_; (case ho => rfl); (case hg => rfl); (case hn => rfl); (case hr => first | (go_simp; done) | (go_simp; rfl)); intro w25 hw; have hg : w20.grownBy w25 (some go7) := (by rw [hw]; exact HP24.2); have hp_ : Kd.R (Kd.int .u8) 5 w25 w.heap.size (fun _ => True) (.slice (some ⟨go7, 0, none⟩) y192.length co17) y196 := (by rw [hw, Ny196.out]; exact HP24.1); clear HP24; have n0_ := Aside0.mk (blk_grown (g := gb187) (o := .cells #[.int .i64 a0_0, .slice A0_1 l0_1.length c0_1] 24 (0, 0)) (by (with_reducible repeat (first | refine blk_drewN ?_ _ | refine blk_drew ?_ | refine blk_alloc ?_ _)); exact BK187.out) hg (Kd.R_ne HO194.out BK187.out (by decide))); have n1_ := Aside0.mk (blk_grown (g := gb188) (o := .cells #[.int .i64 0, .slice none 0 0] 24 (0, 0)) (by (with_reducible repeat (first | refine blk_drewN ?_ _ | refine blk_drew ?_ | refine blk_alloc ?_ _)); exact BK188.out) hg (Kd.R_ne HO194.out BK188.out (by decide))); have n2_ := Aside0.mk (hp_); have n3_ := Aside0.mk (blk_grown (g := gb195) (o := .cells #[.int .i64 a0_0, .slice (some ⟨go7, 0, none⟩) y192.length co17] 24 (0, 0)) (by (with_reducible repeat (first | refine blk_drewN ?_ _ | refine blk_drew ?_ | refine blk_alloc ?_ _)); exact BK195.out) hg (Kd.R_ne HO194.out BK195.out (by decide))); have n4_ := Aside0.mk ((by rw [hw]; exact below_set (HB.out) GB7.out : Below w.heap.size w w25)); clear BK187; clear BK188; clear HO194; clear BK195; clear HB; have BK187 := n0_; have BK188 := n1_; have HO194 := n2_; have BK195 := n3_; have HB := n4_; clear n0_ n1_ n2_ n3_ n4_; clear hg hw hp_; have hcz26_0 : w25.cell? ⟨gb195, 0, none⟩ = some (.int .i64 a0_0) := (blk_cell BK195.out 0).trans rfl; have hcz26_1 : w25.cell? ⟨gb195, 1, none⟩ = some (.slice (some ⟨go7, 0, none⟩) y192.length co17) := (blk_cell BK195.out 1).trans rfl; have hfz26_0 := blk_frozen BK195.out 0; have hfz26_1 := blk_frozen BK195.out 1; have hnb27 := NB188_187.out; have hnc27 := NB187_188.out; have hcz28_0 : w25.cell? ⟨gb188, 0, none⟩ = some (.int .i64 0) := (blk_cell BK188.out 0).trans rfl; have hcz28_1 : w25.cell? ⟨gb188, 1, none⟩ = some (.slice none 0 0) := (blk_cell BK188.out 1).trans rfl; have hfz28_0 := blk_frozen BK188.out 0; have hfz28_1 := blk_frozen BK188.out 1))
        refine bodyPost_ret (results_cell_row rfl _ _ gb188 24 #[.int .i64 a0_0, .slice (some ⟨go7, 0, none⟩) y192.length co17] (0, 0) _ rfl (by (with_reducible repeat (first | refine blk_drewN ?_ _ | refine blk_drew ?_ | refine blk_alloc ?_ _)); refine blk_put (cs := #[.int .i64 a0_0, .slice none 0 0]) ?_ 1 _ rfl; (with_reducible repeat (first | refine blk_drewN ?_ _ | refine blk_drew ?_ | refine blk_alloc ?_ _)); refine blk_put (cs := #[.int .i64 0, .slice none 0 0]) ?_ 0 _ rfl; (with_reducible repeat (first | refine blk_drewN ?_ _ | refine blk_drew ?_ | refine blk_alloc ?_ _)); exact BK188.out) Try.underlying24 rfl (by kernel_rfl)) rfl ?_
        exact ⟨_, by first | rfl | (simp [errW_none, errW_some] <;> rfl) | (simp [*, errW_none, errW_some] <;> rfl), by (with_reducible repeat (first | apply Kd.R_alloc | apply Kd.R_drewN | apply Kd.R_drew)); exact Kd.R_mono (Kd.R_far (p := ⟨gb188, 1, none⟩) (Kd.R_far (p := ⟨gb188, 0, none⟩) (Kd.R_types HO194.out BK188.out (by decide)) (fun _ hk => hk.2) (.int .i64 a0_0)) (fun _ hk => hk.2) (.slice (some ⟨go7, 0, none⟩) y192.length co17)) (fun _ hk => trivial), by repeat (first | (with_reducible first | exact HB.out | apply below_alloc | apply pw_below_drewN | apply below_drew1 | refine below_set ?_ GE187.out | refine below_set ?_ GE188.out | refine below_set ?_ GE195.out) | exact HB.out)⟩
      · rw [if_neg c6] at H
        exact absurd H (by simp)
    · rw [if_neg c5] at H
      exact absurd H (by simp)
  · rw [if_neg c4] at H
    exact absurd H (by simp)


end Go.Proofs.Ytdblbilgnfomaaa.PAll
