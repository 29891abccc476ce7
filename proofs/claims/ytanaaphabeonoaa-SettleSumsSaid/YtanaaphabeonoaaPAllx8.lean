-- Written by a program of this session (xprint.py, over the kit's print.py), with contracts proved by hand.
import Derived.Test.YtanaaphabeonoaaPAllx0
import Derived.Test.YtanaaphabeonoaaPAllx3
import Derived.Test.YtanaaphabeonoaaPAllx4
namespace Go.Proofs.Ytanaaphabeonoaa.PAll
open Go.RowKit Go.Proofs.Ytanaaphabeonoaa.Open Go.Proofs.YtanaaphabeonoaaW.PrintWords Go.Proofs.YtanaaphabeonoaaW.PrintLast Go.Proofs.YtanaaphabeonoaaW.PrintMore
attribute [local go_sem] max2_int min2_int max_two min_two max_three min_three max_four min_four   -- for this text's walks alone
set_option linter.unusedVariables false
set_option linter.unusedSimpArgs false

/-! ### chargeparklaw42_SettleSums: function 4 -/
mutual
def chargeparklaw42_SettleSums.l0 : Nat → List (S40) → Int → Bool → List Int → Int → Int → Option (Bool)
  | 0, _, _, _, _, _, _ => none
  | k + 1, x0, x1, x5, x6, x8, x9 => if x9 < (x6.length : Int) then (if 0 ≤ x9 then (chargeparklaw42_SettleSums.l0 k x0 x1 x5 x6 (wrap64 (x8 + (rd x6 x9))) (wrap64 (x9 + 1))) else (none)) else (chargeparklaw42_SettleSums.l1 k x0 x1 x5 x6 x8 ([] : List (S40)) 0)
def chargeparklaw42_SettleSums.l1 : Nat → List (S40) → Int → Bool → List Int → Int → List (S40) → Int → Option (Bool)
  | 0, _, _, _, _, _, _, _ => none
  | k + 1, x0, x1, x5, x6, x8, x10, x11 => if x11 < (x0.length : Int) then (if 0 ≤ x11 then (if ((rd_T40 x0 x11).f3) = ((rd_T40 x0 x11).f4) then (chargeparklaw42_SettleSums.l1 k x0 x1 x5 x6 x8 x10 (wrap64 (x11 + 1))) else (if x10.length < 1353245080339 then (chargeparklaw42_SettleSums.l1 k x0 x1 x5 x6 x8 (x10 ++ [(⟨(rd_T40 x0 x11).f0, (rd_T40 x0 x11).f1, (rd_T40 x0 x11).f2, (rd_T40 x0 x11).f3, (rd_T40 x0 x11).f4, (rd_T40 x0 x11).f5, (rd_T40 x0 x11).f6, (rd_T40 x0 x11).f7, (rd_T40 x0 x11).f8, (⟨(rd_T40 x0 x11).f9.f0, (rd_T40 x0 x11).f9.f1, (rd_T40 x0 x11).f9.f2, (rd_T40 x0 x11).f9.f3⟩ : S38)⟩ : S40)]) (wrap64 (x11 + 1))) else (none))) else (none)) else ((settle_Net.f x10 x1).bind fun bt325 => (if x5 = true then (if (x6.length : Int) = x1 then (if x8 = 0 then (if bt325.2 = 0 then ((chargeparkref42_Ints.f k x6 bt325.1).bind fun t329 => (some t329)) else (none)) else (none)) else (none)) else (none)))
end
def chargeparklaw42_SettleSums.f (k : Nat) (l0 : List (S40)) (a1 : Int) : Option (Bool) := (chargeparklaw42_head.f k).bind fun t313 => (if (l0.length : Int) > 64 then (some t313) else ((settle_Net.f l0 a1).bind fun bt314 => (if bt314.2 = 0 then (chargeparklaw42_SettleSums.l0 k l0 a1 t313 bt314.1 0 0) else (if t313 = true then (some ((bt314.1.length : Int) == 0)) else (none)))))
theorem chargeparklaw42_SettleSums.mono_l : ∀ k, (∀ y0 y1 y2 y3 y4 y5, LeO (chargeparklaw42_SettleSums.l0 k y0 y1 y2 y3 y4 y5) (chargeparklaw42_SettleSums.l0 (k + 1) y0 y1 y2 y3 y4 y5)) ∧ (∀ y0 y1 y2 y3 y4 y5 y6, LeO (chargeparklaw42_SettleSums.l1 k y0 y1 y2 y3 y4 y5 y6) (chargeparklaw42_SettleSums.l1 (k + 1) y0 y1 y2 y3 y4 y5 y6))
  | 0 => ⟨fun _ _ _ _ _ _ r h => by simp [chargeparklaw42_SettleSums.l0] at h, fun _ _ _ _ _ _ _ r h => by simp [chargeparklaw42_SettleSums.l1] at h⟩
  | k + 1 => by
    obtain ⟨ih0, ih1⟩ := chargeparklaw42_SettleSums.mono_l k
    refine ⟨?_, ?_⟩
    · intro y0 y1 y2 y3 y4 y5
      unfold chargeparklaw42_SettleSums.l0
      repeat' first
      | (with_reducible exact ih0 _ _ _ _ _ _)
      | (with_reducible exact ih1 _ _ _ _ _ _ _)
      | (with_reducible exact chargeparklaw42_head.mono _)
      | (with_reducible exact chargeparkref42_Ints.mono _ _ _)
      | (with_reducible exact LeO.refl _)
      | (with_reducible exact LeO.none _)
      | (with_reducible refine LeO.ite ?_ ?_)
      | (with_reducible refine LeO.bind ?_ (fun _ => ?_))
      | exact ih0 _ _ _ _ _ _
      | exact ih1 _ _ _ _ _ _ _
      | exact chargeparklaw42_head.mono _
      | exact chargeparkref42_Ints.mono _ _ _
      | exact LeO.none _
      | refine LeO.ite ?_ ?_
      | refine LeO.bind ?_ (fun _ => ?_)
    · intro y0 y1 y2 y3 y4 y5 y6
      unfold chargeparklaw42_SettleSums.l1
      repeat' first
      | (with_reducible exact ih0 _ _ _ _ _ _)
      | (with_reducible exact ih1 _ _ _ _ _ _ _)
      | (with_reducible exact chargeparklaw42_head.mono _)
      | (with_reducible exact chargeparkref42_Ints.mono _ _ _)
      | (with_reducible exact LeO.refl _)
      | (with_reducible exact LeO.none _)
      | (with_reducible refine LeO.ite ?_ ?_)
      | (with_reducible refine LeO.bind ?_ (fun _ => ?_))
      | exact ih0 _ _ _ _ _ _
      | exact ih1 _ _ _ _ _ _ _
      | exact chargeparklaw42_head.mono _
      | exact chargeparkref42_Ints.mono _ _ _
      | exact LeO.none _
      | refine LeO.ite ?_ ?_
      | refine LeO.bind ?_ (fun _ => ?_)
theorem chargeparklaw42_SettleSums.mono : ∀ a0 a1 k, LeO (chargeparklaw42_SettleSums.f k a0 a1) (chargeparklaw42_SettleSums.f (k + 1) a0 a1) := by
  intro a0 a1 k
  obtain ⟨ih0, ih1⟩ := chargeparklaw42_SettleSums.mono_l k
  unfold chargeparklaw42_SettleSums.f
  repeat' first
      | (with_reducible exact ih0 _ _ _ _ _ _)
      | (with_reducible exact ih1 _ _ _ _ _ _ _)
      | (with_reducible exact chargeparklaw42_head.mono _)
      | (with_reducible exact chargeparkref42_Ints.mono _ _ _)
      | (with_reducible exact LeO.refl _)
      | (with_reducible exact LeO.none _)
      | (with_reducible refine LeO.ite ?_ ?_)
      | (with_reducible refine LeO.bind ?_ (fun _ => ?_))
      | exact ih0 _ _ _ _ _ _
      | exact ih1 _ _ _ _ _ _ _
      | exact chargeparklaw42_head.mono _
      | exact chargeparkref42_Ints.mono _ _ _
      | exact LeO.none _
      | refine LeO.ite ?_ ?_
      | refine LeO.bind ?_ (fun _ => ?_)
set_option maxHeartbeats 8000000 in
set_option maxRecDepth 100000 in
theorem chargeparklaw42_SettleSums.calls (k : Nat) (A0 : Option Addr) (c0 : Nat) (l0 : List (S40)) (a1 : Int) (r : Bool) (w : World) (hr0 : Kd.C k40 w A0 l0.length l0) (hc0 : l0.length ≤ c0) (h : chargeparklaw42_SettleSums.f k l0 a1 = some r) :
    Calls Try.prog 4 #[.slice A0 l0.length c0, .int .i64 a1] w fun e w' => e = .returned (.bool r) ∧ Below w.heap.size w w' := by
  have hu40 := Try.underlying40
  have HR0 := Aside0.mk hr0
  have HC0 := Aside0.mk hc0
  clear hr0 hc0
  have HB := Aside0.mk (Below.refl w.heap.size w)
  have H : ((chargeparklaw42_head.f k).bind fun t313 => (if (l0.length : Int) > 64 then (some t313) else ((settle_Net.f l0 a1).bind fun bt314 => (if bt314.2 = 0 then (chargeparklaw42_SettleSums.l0 k l0 a1 t313 bt314.1 0 0) else (if t313 = true then (some ((bt314.1.length : Int) == 0)) else (none)))))) = some r := h
  clear h
  replace H := Option.bind_eq_some_iff.mp H
  obtain ⟨t313, A30, H⟩ := H
  replace H : (if (l0.length : Int) > 64 then (some t313) else ((settle_Net.f l0 a1).bind fun bt314 => (if bt314.2 = 0 then (chargeparklaw42_SettleSums.l0 k l0 a1 t313 bt314.1 0 0) else (if t313 = true then (some ((bt314.1.length : Int) == 0)) else (none))))) = some r := H
  have A3 := Aside0.mk A30
  clear A30
  by_cases c4 : (l0.length : Int) > 64
  · rw [if_pos c4] at H
    have c4b0 : decide (64 < (l0.length : Int)) = true := decide_eq_true c4
    have c4b1 : decide (64 < l0.length) = true := decide_eq_true (by omega)
    clear c4
    obtain rfl := Option.some.inj H
    go_enter Try.func4, Try.ntmps4
    go_wp2_with (first | (go_at_call 9; (with_reducible refine (chargeparklaw42_head.calls k  t313 _ A3.out).mono ?_); rintro e w5 ⟨rfl, hb⟩; have n0_ := Aside0.mk (below_step (by repeat (first | (with_reducible first | exact HB.out | apply below_alloc | apply pw_below_drewN | apply below_drew1) | exact HB.out)) hb); clear HB; have HB := n0_; clear n0_; (try clear hb); (try clear hb2); (try clear hk); (try clear hi)))
    repeat (go_quiet (first | (go_at_call 9; (with_reducible refine (chargeparklaw42_head.calls k  t313 _ A3.out).mono ?_); rintro e w5 ⟨rfl, hb⟩; have n0_ := Aside0.mk (below_step (by repeat (first | (with_reducible first | exact HB.out | apply below_alloc | apply pw_below_drewN | apply below_drew1) | exact HB.out)) hb); clear HB; have HB := n0_; clear n0_; (try clear hb); (try clear hb2); (try clear hk); (try clear hi))); try go_wp2_with (first | (go_at_call 9; (with_reducible refine (chargeparklaw42_head.calls k  t313 _ A3.out).mono ?_); rintro e w5 ⟨rfl, hb⟩; have n0_ := Aside0.mk (below_step (by repeat (first | (with_reducible first | exact HB.out | apply below_alloc | apply pw_below_drewN | apply below_drew1) | exact HB.out)) hb); clear HB; have HB := n0_; clear n0_; (try clear hb); (try clear hb2); (try clear hk); (try clear hi))))
    go_ret
    exact ⟨by first | rfl | (simp [errW_none, errW_some] <;> rfl) | (simp [*, errW_none, errW_some] <;> rfl), by repeat (first | (with_reducible first | exact HB.out | apply below_alloc | apply pw_below_drewN | apply below_drew1) | exact HB.out)⟩
  · rw [if_neg c4] at H
    have c4b0 : decide (64 < (l0.length : Int)) = false := decide_eq_false c4
    have c4b1 : decide (64 < l0.length) = false := decide_eq_false (by omega)
    clear c4
    replace H := Option.bind_eq_some_iff.mp H
    obtain ⟨⟨t314, t315⟩, A60, H⟩ := H
    replace H : (if t315 = 0 then (chargeparklaw42_SettleSums.l0 k l0 a1 t313 t314 0 0) else (if t313 = true then (some ((t314.length : Int) == 0)) else (none))) = some r := H
    have A6 := Aside0.mk A60
    clear A60
    by_cases c7 : t315 = 0
    · rw [if_pos c7] at H
      have c7b0 : (t315 == 0) = true := beq_iff_eq.mpr c7
      have c7b1 : (t315 != 0) = false := bne_eq_false_iff_eq.mpr c7
      clear c7
      have H' := Aside0.mk H
      clear H
      go_enter Try.func4, Try.ntmps4
      go_wp2_with (first | (go_at_call 9; (with_reducible refine (chargeparklaw42_head.calls k  t313 _ A3.out).mono ?_); rintro e w8 ⟨rfl, hb⟩; have n0_ := Aside0.mk (below_step (by repeat (first | (with_reducible first | exact HB.out | apply below_alloc | apply pw_below_drewN | apply below_drew1) | exact HB.out)) hb); clear HB; have HB := n0_; clear n0_; (try clear hb); (try clear hb2); (try clear hk); (try clear hi)) | (go_at_call 10; (with_reducible refine (settle_Net.calls _ _ l0 a1 t314 t315 _ ?side1 ?side2 A6.out).mono ?_); (case side1 => repeat (first | exact (Kd.C_below HR0.out HB.out) | (with_reducible refine Kd.C_alloc ?_ _) | (with_reducible refine Kd.C_drewN ?_ _) | (with_reducible refine Kd.C_drew ?_))); (case side2 => exact HC0.out); rintro e w9 ⟨v316, rfl, ho0, hb⟩; have n0_ := Aside0.mk (Kd.R_lower ho0 (below_size (by repeat (first | (with_reducible first | exact HB.out | apply below_alloc | apply pw_below_drewN | apply below_drew1) | exact HB.out)))); have n1_ := Aside0.mk (below_step (by repeat (first | (with_reducible first | exact HB.out | apply below_alloc | apply pw_below_drewN | apply below_drew1) | exact HB.out)) hb); clear HB; have HO317 := n0_; have HB := n1_; clear n0_ n1_; (try clear hb); (try clear hb2); (try clear hk); (try clear hi); (try clear ho0)))
      repeat (go_quiet (first | (go_at_call 9; (with_reducible refine (chargeparklaw42_head.calls k  t313 _ A3.out).mono ?_); rintro e w8 ⟨rfl, hb⟩; have n0_ := Aside0.mk (below_step (by repeat (first | (with_reducible first | exact HB.out | apply below_alloc | apply pw_below_drewN | apply below_drew1) | exact HB.out)) hb); clear HB; have HB := n0_; clear n0_; (try clear hb); (try clear hb2); (try clear hk); (try clear hi)) | (go_at_call 10; (with_reducible refine (settle_Net.calls _ _ l0 a1 t314 t315 _ ?side1 ?side2 A6.out).mono ?_); (case side1 => repeat (first | exact (Kd.C_below HR0.out HB.out) | (with_reducible refine Kd.C_alloc ?_ _) | (with_reducible refine Kd.C_drewN ?_ _) | (with_reducible refine Kd.C_drew ?_))); (case side2 => exact HC0.out); rintro e w9 ⟨v316, rfl, ho0, hb⟩; have n0_ := Aside0.mk (Kd.R_lower ho0 (below_size (by repeat (first | (with_reducible first | exact HB.out | apply below_alloc | apply pw_below_drewN | apply below_drew1) | exact HB.out)))); have n1_ := Aside0.mk (below_step (by repeat (first | (with_reducible first | exact HB.out | apply below_alloc | apply pw_below_drewN | apply below_drew1) | exact HB.out)) hb); clear HB; have HO317 := n0_; have HB := n1_; clear n0_ n1_; (try clear hb); (try clear hb2); (try clear hk); (try clear hi); (try clear ho0))); try go_wp2_with (first | (go_at_call 9; (with_reducible refine (chargeparklaw42_head.calls k  t313 _ A3.out).mono ?_); rintro e w8 ⟨rfl, hb⟩; have n0_ := Aside0.mk (below_step (by repeat (first | (with_reducible first | exact HB.out | apply below_alloc | apply pw_below_drewN | apply below_drew1) | exact HB.out)) hb); clear HB; have HB := n0_; clear n0_; (try clear hb); (try clear hb2); (try clear hk); (try clear hi)) | (go_at_call 10; (with_reducible refine (settle_Net.calls _ _ l0 a1 t314 t315 _ ?side1 ?side2 A6.out).mono ?_); (case side1 => repeat (first | exact (Kd.C_below HR0.out HB.out) | (with_reducible refine Kd.C_alloc ?_ _) | (with_reducible refine Kd.C_drewN ?_ _) | (with_reducible refine Kd.C_drew ?_))); (case side2 => exact HC0.out); rintro e w9 ⟨v316, rfl, ho0, hb⟩; have n0_ := Aside0.mk (Kd.R_lower ho0 (below_size (by repeat (first | (with_reducible first | exact HB.out | apply below_alloc | apply pw_below_drewN | apply below_drew1) | exact HB.out)))); have n1_ := Aside0.mk (below_step (by repeat (first | (with_reducible first | exact HB.out | apply below_alloc | apply pw_below_drewN | apply below_drew1) | exact HB.out)) hb); clear HB; have HO317 := n0_; have HB := n1_; clear n0_ n1_; (try clear hb); (try clear hb2); (try clear hk); (try clear hi); (try clear ho0))))
      go_loopg [8, 9] k (fun kq v8 v9 w' => ∃ (x8_1 : Int) (x9_1 : Int), v8 = .int .i64 x8_1 ∧ v9 = .int .i64 x9_1 ∧ Aside0 (chargeparklaw42_SettleSums.l0 kq l0 a1 t313 t314 x8_1 x9_1 = some r) ∧ Aside0 (kq ≤ k) ∧ Aside0 (Kd.R (Kd.int .i64) 3 w' w.heap.size (fun _ => True) v316 t314) ∧ Aside0 (Below w.heap.size w w'))
      case atStart => exact ⟨(0), (0), (by first | rfl | (simp; done) | (simp [*]; done)), (by first | rfl | (simp; done) | (simp [*]; done)), H', ⟨Nat.le_refl _⟩, ⟨by (with_reducible repeat (first | apply Kd.R_alloc | apply Kd.R_drewN | apply Kd.R_drew)); exact HO317.out⟩, ⟨by repeat (first | (with_reducible first | exact HB.out | apply below_alloc | apply pw_below_drewN | apply below_drew1) | exact HB.out)⟩⟩
      case round =>
        clear H'
        try clear p2
        try clear c4
        try clear c4b0
        try clear c4b1
        try clear c7
        try clear c7b0
        try clear c7b1
        obtain ⟨x8_1, x9_1, rfl, rfl, HA, HK1, HO_6, HB⟩ := hrel
        cases gk with
        | zero => exact absurd HA.out (by simp [chargeparklaw42_SettleSums.l0])
        | succ k1 =>
          have H := HA.out
          clear HA
          simp only [chargeparklaw42_SettleSums.l0] at H
          by_cases c10 : x9_1 < (t314.length : Int)
          · rw [if_pos c10] at H
            have c10b0 : decide (x9_1 < (t314.length : Int)) = true := decide_eq_true c10
            clear c10
            by_cases c11 : 0 ≤ x9_1
            · rw [if_pos c11] at H
              have c11b0 : decide (0 ≤ x9_1) = true := decide_eq_true c11
              clear c11
              have H' := Aside0.mk H
              clear H
              obtain ⟨Ao12, co12, eo12⟩ := Kd.R_slice HO_6.out
              subst eo12
              have p318 : 0 ≤ (x9_1 : Int) := of_decide_eq_true (by first | (with_reducible assumption) | assumption)
              have q318 : x9_1 < (t314.length : Int) := of_decide_eq_true (by first | (with_reducible assumption) | assumption)
              obtain ⟨ad318, e318, hx318_0⟩ := Kd.at_int (Kd.R_reads' HO_6.out).2.2 x9_1 p318 q318
              cases e318
              replace p318 := eq_true p318
              replace q318 := eq_true q318
              go_wp2
              repeat (go_quiet (fail); try go_wp2)
              go_roundg k1
              case measure => have := HK1.out; omega
              case rel => exact ⟨(wrap64 (x8_1 + (rd t314 x9_1))), (wrap64 (x9_1 + 1)), (by first | rfl | (simp; done) | (simp [*]; done)), (by first | rfl | (simp; done) | (simp [*]; done)), H', ⟨by have := HK1.out; omega⟩, ⟨by (with_reducible repeat (first | apply Kd.R_alloc | apply Kd.R_drewN | apply Kd.R_drew)); exact HO_6.out⟩, ⟨by repeat (first | (with_reducible first | exact HB.out | apply below_alloc | apply pw_below_drewN | apply below_drew1) | exact HB.out)⟩⟩
            · rw [if_neg c11] at H
              exact absurd H (by simp)
          · rw [if_neg c10] at H
            have c10b0 : decide (x9_1 < (t314.length : Int)) = false := decide_eq_false c10
            clear c10
            have H' := Aside0.mk H
            clear H
            obtain ⟨Ao13, co13, eo13⟩ := Kd.R_slice HO_6.out
            subst eo13
            go_wp2
            repeat (go_quiet (fail); try go_wp2)
            go_loopg [10, 11] k1 (fun kq v10 v11 w' => ∃ (x10_2 : List (S40)) (x11_2 : Int), v11 = .int .i64 x11_2 ∧ Aside0 (chargeparklaw42_SettleSums.l1 kq l0 a1 t313 t314 x8_1 x10_2 x11_2 = some r) ∧ Aside0 (kq ≤ k1) ∧ Aside0 (Kd.R (Kd.int .i64) 3 w' w.heap.size (fun _ => True) (.slice Ao13 t314.length co13) t314) ∧ Aside0 (Kd.R k40 40 w' w.heap.size (fun _ => True) v10 x10_2) ∧ Aside0 (Below w.heap.size w w'))
            case atStart => exact ⟨(([] : List (S40))), (0), (by first | rfl | (simp; done) | (simp [*]; done)), H', ⟨Nat.le_refl _⟩, ⟨by (with_reducible repeat (first | apply Kd.R_alloc | apply Kd.R_drewN | apply Kd.R_drew)); exact HO_6.out⟩, ⟨by first | exact Kd.R_nil _ _ _ _ _ | exact Kd.N_nil _ _ _ _ _ | exact Kd.V_nil _ _ _ _ _ | exact Kd.Q_nil _ _ _ _ _ | exact Kd.S_nil _ _ _ _ _⟩, ⟨by repeat (first | (with_reducible first | exact HB.out | apply below_alloc | apply pw_below_drewN | apply below_drew1) | exact HB.out)⟩⟩
            case round =>
              clear H'
              try clear c1
              try clear p2
              try clear p3
              try clear q3
              try clear hx3
              try clear c4
              try clear c4b0
              try clear c4b1
              try clear p6
              try clear c7
              try clear c7b0
              try clear c7b1
              try clear c10
              try clear c10b0
              try clear c11
              try clear c11b0
              try clear hx318_0
              try clear p2
              try clear p318
              try clear q318
              obtain ⟨x10_2, x11_2, rfl, HA, HK2, HO_6, HO_10, HB⟩ := hrel
              cases gk with
              | zero => exact absurd HA.out (by simp [chargeparklaw42_SettleSums.l1])
              | succ k2 =>
                have H := HA.out
                clear HA
                simp only [chargeparklaw42_SettleSums.l1] at H
                by_cases c14 : x11_2 < (l0.length : Int)
                · rw [if_pos c14] at H
                  have c14b0 : decide (x11_2 < (l0.length : Int)) = true := decide_eq_true c14
                  clear c14
                  by_cases c15 : 0 ≤ x11_2
                  · rw [if_pos c15] at H
                    have c15b0 : decide (0 ≤ x11_2) = true := decide_eq_true c15
                    clear c15
                    by_cases c16 : ((rd_T40 l0 x11_2).f3) = ((rd_T40 l0 x11_2).f4)
                    · rw [if_pos c16] at H
                      have c16b0 : (((rd_T40 l0 x11_2).f3) == ((rd_T40 l0 x11_2).f4)) = true := beq_iff_eq.mpr c16
                      have c16b1 : (((rd_T40 l0 x11_2).f3) != ((rd_T40 l0 x11_2).f4)) = false := bne_eq_false_iff_eq.mpr c16
                      clear c16
                      have H' := Aside0.mk H
                      clear H
                      have p319 : 0 ≤ (x11_2 : Int) := of_decide_eq_true (by first | (with_reducible assumption) | assumption)
                      have q319 : x11_2 < (l0.length : Int) := of_decide_eq_true (by first | (with_reducible assumption) | assumption)
                      obtain ⟨ad319, e319, hx319_0, hx319_1, hx319_2, hx319_3, hx319_4, hx319_5, hx319_6, hx319_7, hx319_8, hx319_9, hx319_10, hx319_11, hx319_12⟩ := at_T40 HR0.out x11_2 p319 q319
                      cases e319
                      replace hx319_0 := (HB.out.cell (World.block_lt_of_cell? w _ hx319_0)).trans hx319_0
                      replace hx319_1 := (HB.out.cell (World.block_lt_of_cell? w _ hx319_1)).trans hx319_1
                      replace hx319_2 := (HB.out.cell (World.block_lt_of_cell? w _ hx319_2)).trans hx319_2
                      replace hx319_3 := (HB.out.cell (World.block_lt_of_cell? w _ hx319_3)).trans hx319_3
                      replace hx319_4 := (HB.out.cell (World.block_lt_of_cell? w _ hx319_4)).trans hx319_4
                      replace hx319_5 := (HB.out.cell (World.block_lt_of_cell? w _ hx319_5)).trans hx319_5
                      replace hx319_6 := (HB.out.cell (World.block_lt_of_cell? w _ hx319_6)).trans hx319_6
                      replace hx319_7 := (HB.out.cell (World.block_lt_of_cell? w _ hx319_7)).trans hx319_7
                      replace hx319_8 := (HB.out.cell (World.block_lt_of_cell? w _ hx319_8)).trans hx319_8
                      replace hx319_9 := (HB.out.cell (World.block_lt_of_cell? w _ hx319_9)).trans hx319_9
                      replace hx319_10 := (HB.out.cell (World.block_lt_of_cell? w _ hx319_10)).trans hx319_10
                      replace hx319_11 := (HB.out.cell (World.block_lt_of_cell? w _ hx319_11)).trans hx319_11
                      replace hx319_12 := (HB.out.cell (World.block_lt_of_cell? w _ hx319_12)).trans hx319_12
                      replace p319 := eq_true p319
                      replace q319 := eq_true q319
                      have p320 : 0 ≤ (x11_2 : Int) := of_decide_eq_true (by first | (with_reducible assumption) | assumption)
                      have q320 : x11_2 < (l0.length : Int) := of_decide_eq_true (by first | (with_reducible assumption) | assumption)
                      obtain ⟨ad320, e320, hx320_0, hx320_1, hx320_2, hx320_3, hx320_4, hx320_5, hx320_6, hx320_7, hx320_8, hx320_9, hx320_10, hx320_11, hx320_12⟩ := at_T40 HR0.out x11_2 p320 q320
                      obtain rfl : ad319 = ad320 := (by injection e320)
                      replace hx320_0 := (HB.out.cell (World.block_lt_of_cell? w _ hx320_0)).trans hx320_0
                      replace hx320_1 := (HB.out.cell (World.block_lt_of_cell? w _ hx320_1)).trans hx320_1
                      replace hx320_2 := (HB.out.cell (World.block_lt_of_cell? w _ hx320_2)).trans hx320_2
                      replace hx320_3 := (HB.out.cell (World.block_lt_of_cell? w _ hx320_3)).trans hx320_3
                      replace hx320_4 := (HB.out.cell (World.block_lt_of_cell? w _ hx320_4)).trans hx320_4
                      replace hx320_5 := (HB.out.cell (World.block_lt_of_cell? w _ hx320_5)).trans hx320_5
                      replace hx320_6 := (HB.out.cell (World.block_lt_of_cell? w _ hx320_6)).trans hx320_6
                      replace hx320_7 := (HB.out.cell (World.block_lt_of_cell? w _ hx320_7)).trans hx320_7
                      replace hx320_8 := (HB.out.cell (World.block_lt_of_cell? w _ hx320_8)).trans hx320_8
                      replace hx320_9 := (HB.out.cell (World.block_lt_of_cell? w _ hx320_9)).trans hx320_9
                      replace hx320_10 := (HB.out.cell (World.block_lt_of_cell? w _ hx320_10)).trans hx320_10
                      replace hx320_11 := (HB.out.cell (World.block_lt_of_cell? w _ hx320_11)).trans hx320_11
                      replace hx320_12 := (HB.out.cell (World.block_lt_of_cell? w _ hx320_12)).trans hx320_12
                      replace p320 := eq_true p320
                      replace q320 := eq_true q320
                      go_wp2
                      repeat (go_quiet (fail); try go_wp2)
                      go_roundg k2
                      case measure => have := HK1.out; have := HK2.out; omega
                      case rel => exact ⟨(x10_2), (wrap64 (x11_2 + 1)), (by first | rfl | (simp; done) | (simp [*]; done)), H', ⟨by have := HK1.out; have := HK2.out; omega⟩, ⟨by (with_reducible repeat (first | apply Kd.R_alloc | apply Kd.R_drewN | apply Kd.R_drew)); exact HO_6.out⟩, ⟨by (with_reducible repeat (first | apply Kd.R_alloc | apply Kd.R_drewN | apply Kd.R_drew)); exact HO_10.out⟩, ⟨by repeat (first | (with_reducible first | exact HB.out | apply below_alloc | apply pw_below_drewN | apply below_drew1) | exact HB.out)⟩⟩
                    · rw [if_neg c16] at H
                      have c16b0 : (((rd_T40 l0 x11_2).f3) == ((rd_T40 l0 x11_2).f4)) = false := beq_eq_false_iff_ne.mpr c16
                      have c16b1 : (((rd_T40 l0 x11_2).f3) != ((rd_T40 l0 x11_2).f4)) = true := bne_iff_ne.mpr c16
                      by_cases c17 : x10_2.length < 1353245080339
                      · rw [if_pos c17] at H
                        have LMc17 := Aside0.mk c17
                        clear c17
                        obtain ⟨y322, hy322⟩ : ∃ y_ : List (S40), y_ = (x10_2 ++ [(⟨(rd_T40 l0 x11_2).f0, (rd_T40 l0 x11_2).f1, (rd_T40 l0 x11_2).f2, (rd_T40 l0 x11_2).f3, (rd_T40 l0 x11_2).f4, (rd_T40 l0 x11_2).f5, (rd_T40 l0 x11_2).f6, (rd_T40 l0 x11_2).f7, (rd_T40 l0 x11_2).f8, (⟨(rd_T40 l0 x11_2).f9.f0, (rd_T40 l0 x11_2).f9.f1, (rd_T40 l0 x11_2).f9.f2, (rd_T40 l0 x11_2).f9.f3⟩ : S38)⟩ : S40)]) := ⟨_, rfl⟩
                        replace H : (chargeparklaw42_SettleSums.l1 k2 l0 a1 t313 t314 x8_1 y322 (wrap64 (x11_2 + 1))) = some r := by first | (rw [hy322]; with_reducible exact H) | (have H2_ := (Option.bind_some _ _).symm.trans H; rw [hy322]; with_reducible exact H2_) | (have H2_ := (Option.bind_some _ _).symm.trans H; with_reducible exact H2_) | with_reducible exact H | (rw [hy322]; exact H) | exact H
                        have Ny322 := Aside0.mk hy322
                        clear hy322
                        have H' := Aside0.mk H
                        clear H
                        have p319 : 0 ≤ (x11_2 : Int) := of_decide_eq_true (by first | (with_reducible assumption) | assumption)
                        have q319 : x11_2 < (l0.length : Int) := of_decide_eq_true (by first | (with_reducible assumption) | assumption)
                        obtain ⟨ad319, e319, hx319_0, hx319_1, hx319_2, hx319_3, hx319_4, hx319_5, hx319_6, hx319_7, hx319_8, hx319_9, hx319_10, hx319_11, hx319_12⟩ := at_T40 HR0.out x11_2 p319 q319
                        cases e319
                        replace hx319_0 := (HB.out.cell (World.block_lt_of_cell? w _ hx319_0)).trans hx319_0
                        replace hx319_1 := (HB.out.cell (World.block_lt_of_cell? w _ hx319_1)).trans hx319_1
                        replace hx319_2 := (HB.out.cell (World.block_lt_of_cell? w _ hx319_2)).trans hx319_2
                        replace hx319_3 := (HB.out.cell (World.block_lt_of_cell? w _ hx319_3)).trans hx319_3
                        replace hx319_4 := (HB.out.cell (World.block_lt_of_cell? w _ hx319_4)).trans hx319_4
                        replace hx319_5 := (HB.out.cell (World.block_lt_of_cell? w _ hx319_5)).trans hx319_5
                        replace hx319_6 := (HB.out.cell (World.block_lt_of_cell? w _ hx319_6)).trans hx319_6
                        replace hx319_7 := (HB.out.cell (World.block_lt_of_cell? w _ hx319_7)).trans hx319_7
                        replace hx319_8 := (HB.out.cell (World.block_lt_of_cell? w _ hx319_8)).trans hx319_8
                        replace hx319_9 := (HB.out.cell (World.block_lt_of_cell? w _ hx319_9)).trans hx319_9
                        replace hx319_10 := (HB.out.cell (World.block_lt_of_cell? w _ hx319_10)).trans hx319_10
                        replace hx319_11 := (HB.out.cell (World.block_lt_of_cell? w _ hx319_11)).trans hx319_11
                        replace hx319_12 := (HB.out.cell (World.block_lt_of_cell? w _ hx319_12)).trans hx319_12
                        replace p319 := eq_true p319
                        replace q319 := eq_true q319
                        have p320 : 0 ≤ (x11_2 : Int) := of_decide_eq_true (by first | (with_reducible assumption) | assumption)
                        have q320 : x11_2 < (l0.length : Int) := of_decide_eq_true (by first | (with_reducible assumption) | assumption)
                        obtain ⟨ad320, e320, hx320_0, hx320_1, hx320_2, hx320_3, hx320_4, hx320_5, hx320_6, hx320_7, hx320_8, hx320_9, hx320_10, hx320_11, hx320_12⟩ := at_T40 HR0.out x11_2 p320 q320
                        obtain rfl : ad319 = ad320 := (by injection e320)
                        replace hx320_0 := (HB.out.cell (World.block_lt_of_cell? w _ hx320_0)).trans hx320_0
                        replace hx320_1 := (HB.out.cell (World.block_lt_of_cell? w _ hx320_1)).trans hx320_1
                        replace hx320_2 := (HB.out.cell (World.block_lt_of_cell? w _ hx320_2)).trans hx320_2
                        replace hx320_3 := (HB.out.cell (World.block_lt_of_cell? w _ hx320_3)).trans hx320_3
                        replace hx320_4 := (HB.out.cell (World.block_lt_of_cell? w _ hx320_4)).trans hx320_4
                        replace hx320_5 := (HB.out.cell (World.block_lt_of_cell? w _ hx320_5)).trans hx320_5
                        replace hx320_6 := (HB.out.cell (World.block_lt_of_cell? w _ hx320_6)).trans hx320_6
                        replace hx320_7 := (HB.out.cell (World.block_lt_of_cell? w _ hx320_7)).trans hx320_7
                        replace hx320_8 := (HB.out.cell (World.block_lt_of_cell? w _ hx320_8)).trans hx320_8
                        replace hx320_9 := (HB.out.cell (World.block_lt_of_cell? w _ hx320_9)).trans hx320_9
                        replace hx320_10 := (HB.out.cell (World.block_lt_of_cell? w _ hx320_10)).trans hx320_10
                        replace hx320_11 := (HB.out.cell (World.block_lt_of_cell? w _ hx320_11)).trans hx320_11
                        replace hx320_12 := (HB.out.cell (World.block_lt_of_cell? w _ hx320_12)).trans hx320_12
                        replace p320 := eq_true p320
                        replace q320 := eq_true q320
                        have p321 : 0 ≤ (x11_2 : Int) := of_decide_eq_true (by first | (with_reducible assumption) | assumption)
                        have q321 : x11_2 < (l0.length : Int) := of_decide_eq_true (by first | (with_reducible assumption) | assumption)
                        obtain ⟨ad321, e321, hx321_0, hx321_1, hx321_2, hx321_3, hx321_4, hx321_5, hx321_6, hx321_7, hx321_8, hx321_9, hx321_10, hx321_11, hx321_12⟩ := at_T40 HR0.out x11_2 p321 q321
                        obtain rfl : ad319 = ad321 := (by injection e321)
                        replace hx321_0 := (HB.out.cell (World.block_lt_of_cell? w _ hx321_0)).trans hx321_0
                        replace hx321_1 := (HB.out.cell (World.block_lt_of_cell? w _ hx321_1)).trans hx321_1
                        replace hx321_2 := (HB.out.cell (World.block_lt_of_cell? w _ hx321_2)).trans hx321_2
                        replace hx321_3 := (HB.out.cell (World.block_lt_of_cell? w _ hx321_3)).trans hx321_3
                        replace hx321_4 := (HB.out.cell (World.block_lt_of_cell? w _ hx321_4)).trans hx321_4
                        replace hx321_5 := (HB.out.cell (World.block_lt_of_cell? w _ hx321_5)).trans hx321_5
                        replace hx321_6 := (HB.out.cell (World.block_lt_of_cell? w _ hx321_6)).trans hx321_6
                        replace hx321_7 := (HB.out.cell (World.block_lt_of_cell? w _ hx321_7)).trans hx321_7
                        replace hx321_8 := (HB.out.cell (World.block_lt_of_cell? w _ hx321_8)).trans hx321_8
                        replace hx321_9 := (HB.out.cell (World.block_lt_of_cell? w _ hx321_9)).trans hx321_9
                        replace hx321_10 := (HB.out.cell (World.block_lt_of_cell? w _ hx321_10)).trans hx321_10
                        replace hx321_11 := (HB.out.cell (World.block_lt_of_cell? w _ hx321_11)).trans hx321_11
                        replace hx321_12 := (HB.out.cell (World.block_lt_of_cell? w _ hx321_12)).trans hx321_12
                        replace p321 := eq_true p321
                        replace q321 := eq_true q321
                        go_wp2_with (first | ((with_reducible refine gate_builtin (b := .append) (xs := #[.tmp 62, .tmp 67]) rfl ?_); (try (refine gate_guard (by rfl) ?_; dsimp only)); at_builtin; refine Kd.R_append k40 (w0 := w) w.heap.size rfl (.tmp 62) (.tmp 67) 22 40 (.agg #[(.int .i64 0), (.int .i64 0), (.int .i64 0), (.int .i64 0), (.int .i64 0), (.int .i64 0), (.int .i64 0), (.int .i64 0), (.int .i64 0), (.int .u64 0), (.int .u64 0), (.int .u64 0), (.int .u64 0)]) 104 rfl Try.underlying22 info40 rfl (by decide) (by omega) u10 x10_2 (⟨(rd_T40 l0 x11_2).f0, (rd_T40 l0 x11_2).f1, (rd_T40 l0 x11_2).f2, (rd_T40 l0 x11_2).f3, (rd_T40 l0 x11_2).f4, (rd_T40 l0 x11_2).f5, (rd_T40 l0 x11_2).f6, (rd_T40 l0 x11_2).f7, (rd_T40 l0 x11_2).f8, (⟨(rd_T40 l0 x11_2).f9.f0, (rd_T40 l0 x11_2).f9.f1, (rd_T40 l0 x11_2).f9.f2, (rd_T40 l0 x11_2).f9.f3⟩ : S38)⟩ : S40) [.int .i64 ((rd_T40 l0 x11_2).f0), .int .i64 ((rd_T40 l0 x11_2).f1), .int .i64 ((rd_T40 l0 x11_2).f2), .int .i64 ((rd_T40 l0 x11_2).f3), .int .i64 ((rd_T40 l0 x11_2).f4), .int .i64 ((rd_T40 l0 x11_2).f5), .int .i64 ((rd_T40 l0 x11_2).f6), .int .i64 ((rd_T40 l0 x11_2).f7), .int .i64 ((rd_T40 l0 x11_2).f8), .int .u64 ((rd_T40 l0 x11_2).f9.f0), .int .u64 ((rd_T40 l0 x11_2).f9.f1), .int .u64 ((rd_T40 l0 x11_2).f9.f2), .int .u64 ((rd_T40 l0 x11_2).f9.f3)] (fun _ => True) (fun _ => False) rfl rfl ?aP (fun _ hk => hk.elim) ?aF ?aO ?aB ?aS ?aL ?_; (case aP => exact k40_mkM _ _ _ (⟨(rd_T40 l0 x11_2).f0, (rd_T40 l0 x11_2).f1, (rd_T40 l0 x11_2).f2, (rd_T40 l0 x11_2).f3, (rd_T40 l0 x11_2).f4, (rd_T40 l0 x11_2).f5, (rd_T40 l0 x11_2).f6, (rd_T40 l0 x11_2).f7, (rd_T40 l0 x11_2).f8, (⟨(rd_T40 l0 x11_2).f9.f0, (rd_T40 l0 x11_2).f9.f1, (rd_T40 l0 x11_2).f9.f2, (rd_T40 l0 x11_2).f9.f3⟩ : S38)⟩ : S40)); (case aB => exact (by repeat (first | (with_reducible first | exact HB.out | apply below_alloc | apply pw_below_drewN | apply below_drew1) | exact HB.out))); (case aF => exact (fun _ _ => trivial)); (case aO => exact (by (with_reducible repeat (first | apply Kd.R_alloc | apply Kd.R_drewN | apply Kd.R_drew)); exact HO_10.out)); (case aS => exact (below_size (by repeat (first | (with_reducible first | exact HB.out | apply below_alloc | apply pw_below_drewN | apply below_drew1) | exact HB.out)))); (case aL => have := LMc17.out; omega); intro v323 w18 ho hb hg hat; rw [← Ny322.out] at ho; have n0_ := Aside0.mk (Kd.R_over' (by (with_reducible repeat (first | apply Kd.R_alloc | apply Kd.R_drewN | apply Kd.R_drew)); exact HO_6.out) (Kd.R_typed (by (with_reducible repeat (first | apply Kd.R_alloc | apply Kd.R_drewN | apply Kd.R_drew)); exact HO_10.out)) (by decide) hg); have n1_ := Aside0.mk (hb); have n2_ := Aside0.mk (ho); clear HO_6; clear HB; clear HO_10; have HO_6 := n0_; have HB := n1_; have HO324 := n2_; clear n0_ n1_ n2_; clear ho hb hg hat))
                        repeat (go_quiet (first | ((with_reducible refine gate_builtin (b := .append) (xs := #[.tmp 62, .tmp 67]) rfl ?_); (try (refine gate_guard (by rfl) ?_; dsimp only)); at_builtin; refine Kd.R_append k40 (w0 := w) w.heap.size rfl (.tmp 62) (.tmp 67) 22 40 (.agg #[(.int .i64 0), (.int .i64 0), (.int .i64 0), (.int .i64 0), (.int .i64 0), (.int .i64 0), (.int .i64 0), (.int .i64 0), (.int .i64 0), (.int .u64 0), (.int .u64 0), (.int .u64 0), (.int .u64 0)]) 104 rfl Try.underlying22 info40 rfl (by decide) (by omega) u10 x10_2 (⟨(rd_T40 l0 x11_2).f0, (rd_T40 l0 x11_2).f1, (rd_T40 l0 x11_2).f2, (rd_T40 l0 x11_2).f3, (rd_T40 l0 x11_2).f4, (rd_T40 l0 x11_2).f5, (rd_T40 l0 x11_2).f6, (rd_T40 l0 x11_2).f7, (rd_T40 l0 x11_2).f8, (⟨(rd_T40 l0 x11_2).f9.f0, (rd_T40 l0 x11_2).f9.f1, (rd_T40 l0 x11_2).f9.f2, (rd_T40 l0 x11_2).f9.f3⟩ : S38)⟩ : S40) [.int .i64 ((rd_T40 l0 x11_2).f0), .int .i64 ((rd_T40 l0 x11_2).f1), .int .i64 ((rd_T40 l0 x11_2).f2), .int .i64 ((rd_T40 l0 x11_2).f3), .int .i64 ((rd_T40 l0 x11_2).f4), .int .i64 ((rd_T40 l0 x11_2).f5), .int .i64 ((rd_T40 l0 x11_2).f6), .int .i64 ((rd_T40 l0 x11_2).f7), .int .i64 ((rd_T40 l0 x11_2).f8), .int .u64 ((rd_T40 l0 x11_2).f9.f0), .int .u64 ((rd_T40 l0 x11_2).f9.f1), .int .u64 ((rd_T40 l0 x11_2).f9.f2), .int .u64 ((rd_T40 l0 x11_2).f9.f3)] (fun _ => True) (fun _ => False) rfl rfl ?aP (fun _ hk => hk.elim) ?aF ?aO ?aB ?aS ?aL ?_; (case aP => exact k40_mkM _ _ _ (⟨(rd_T40 l0 x11_2).f0, (rd_T40 l0 x11_2).f1, (rd_T40 l0 x11_2).f2, (rd_T40 l0 x11_2).f3, (rd_T40 l0 x11_2).f4, (rd_T40 l0 x11_2).f5, (rd_T40 l0 x11_2).f6, (rd_T40 l0 x11_2).f7, (rd_T40 l0 x11_2).f8, (⟨(rd_T40 l0 x11_2).f9.f0, (rd_T40 l0 x11_2).f9.f1, (rd_T40 l0 x11_2).f9.f2, (rd_T40 l0 x11_2).f9.f3⟩ : S38)⟩ : S40)); (case aB => exact (by repeat (first | (with_reducible first | exact HB.out | apply below_alloc | apply pw_below_drewN | apply below_drew1) | exact HB.out))); (case aF => exact (fun _ _ => trivial)); (case aO => exact (by (with_reducible repeat (first | apply Kd.R_alloc | apply Kd.R_drewN | apply Kd.R_drew)); exact HO_10.out)); (case aS => exact (below_size (by repeat (first | (with_reducible first | exact HB.out | apply below_alloc | apply pw_below_drewN | apply below_drew1) | exact HB.out)))); (case aL => have := LMc17.out; omega); intro v323 w18 ho hb hg hat; rw [← Ny322.out] at ho; have n0_ := Aside0.mk (Kd.R_over' (by (with_reducible repeat (first | apply Kd.R_alloc | apply Kd.R_drewN | apply Kd.R_drew)); exact HO_6.out) (Kd.R_typed (by (with_reducible repeat (first | apply Kd.R_alloc | apply Kd.R_drewN | apply Kd.R_drew)); exact HO_10.out)) (by decide) hg); have n1_ := Aside0.mk (hb); have n2_ := Aside0.mk (ho); clear HO_6; clear HB; clear HO_10; have HO_6 := n0_; have HB := n1_; have HO324 := n2_; clear n0_ n1_ n2_; clear ho hb hg hat)); try go_wp2_with (first | ((with_reducible refine gate_builtin (b := .append) (xs := #[.tmp 62, .tmp 67]) rfl ?_); (try (refine gate_guard (by rfl) ?_; dsimp only)); at_builtin; refine Kd.R_append k40 (w0 := w) w.heap.size rfl (.tmp 62) (.tmp 67) 22 40 (.agg #[(.int .i64 0), (.int .i64 0), (.int .i64 0), (.int .i64 0), (.int .i64 0), (.int .i64 0), (.int .i64 0), (.int .i64 0), (.int .i64 0), (.int .u64 0), (.int .u64 0), (.int .u64 0), (.int .u64 0)]) 104 rfl Try.underlying22 info40 rfl (by decide) (by omega) u10 x10_2 (⟨(rd_T40 l0 x11_2).f0, (rd_T40 l0 x11_2).f1, (rd_T40 l0 x11_2).f2, (rd_T40 l0 x11_2).f3, (rd_T40 l0 x11_2).f4, (rd_T40 l0 x11_2).f5, (rd_T40 l0 x11_2).f6, (rd_T40 l0 x11_2).f7, (rd_T40 l0 x11_2).f8, (⟨(rd_T40 l0 x11_2).f9.f0, (rd_T40 l0 x11_2).f9.f1, (rd_T40 l0 x11_2).f9.f2, (rd_T40 l0 x11_2).f9.f3⟩ : S38)⟩ : S40) [.int .i64 ((rd_T40 l0 x11_2).f0), .int .i64 ((rd_T40 l0 x11_2).f1), .int .i64 ((rd_T40 l0 x11_2).f2), .int .i64 ((rd_T40 l0 x11_2).f3), .int .i64 ((rd_T40 l0 x11_2).f4), .int .i64 ((rd_T40 l0 x11_2).f5), .int .i64 ((rd_T40 l0 x11_2).f6), .int .i64 ((rd_T40 l0 x11_2).f7), .int .i64 ((rd_T40 l0 x11_2).f8), .int .u64 ((rd_T40 l0 x11_2).f9.f0), .int .u64 ((rd_T40 l0 x11_2).f9.f1), .int .u64 ((rd_T40 l0 x11_2).f9.f2), .int .u64 ((rd_T40 l0 x11_2).f9.f3)] (fun _ => True) (fun _ => False) rfl rfl ?aP (fun _ hk => hk.elim) ?aF ?aO ?aB ?aS ?aL ?_; (case aP => exact k40_mkM _ _ _ (⟨(rd_T40 l0 x11_2).f0, (rd_T40 l0 x11_2).f1, (rd_T40 l0 x11_2).f2, (rd_T40 l0 x11_2).f3, (rd_T40 l0 x11_2).f4, (rd_T40 l0 x11_2).f5, (rd_T40 l0 x11_2).f6, (rd_T40 l0 x11_2).f7, (rd_T40 l0 x11_2).f8, (⟨(rd_T40 l0 x11_2).f9.f0, (rd_T40 l0 x11_2).f9.f1, (rd_T40 l0 x11_2).f9.f2, (rd_T40 l0 x11_2).f9.f3⟩ : S38)⟩ : S40)); (case aB => exact (by repeat (first | (with_reducible first | exact HB.out | apply below_alloc | apply pw_below_drewN | apply below_drew1) | exact HB.out))); (case aF => exact (fun _ _ => trivial)); (case aO => exact (by (with_reducible repeat (first | apply Kd.R_alloc | apply Kd.R_drewN | apply Kd.R_drew)); exact HO_10.out)); (case aS => exact (below_size (by repeat (first | (with_reducible first | exact HB.out | apply below_alloc | apply pw_below_drewN | apply below_drew1) | exact HB.out)))); (case aL => have := LMc17.out; omega); intro v323 w18 ho hb hg hat; rw [← Ny322.out] at ho; have n0_ := Aside0.mk (Kd.R_over' (by (with_reducible repeat (first | apply Kd.R_alloc | apply Kd.R_drewN | apply Kd.R_drew)); exact HO_6.out) (Kd.R_typed (by (with_reducible repeat (first | apply Kd.R_alloc | apply Kd.R_drewN | apply Kd.R_drew)); exact HO_10.out)) (by decide) hg); have n1_ := Aside0.mk (hb); have n2_ := Aside0.mk (ho); clear HO_6; clear HB; clear HO_10; have HO_6 := n0_; have HB := n1_; have HO324 := n2_; clear n0_ n1_ n2_; clear ho hb hg hat)))
                        go_roundg k2
                        case measure => have := HK1.out; have := HK2.out; omega
                        case rel => exact ⟨(y322), (wrap64 (x11_2 + 1)), (by first | rfl | (simp; done) | (simp [*]; done)), H', ⟨by have := HK1.out; have := HK2.out; omega⟩, ⟨by (with_reducible repeat (first | apply Kd.R_alloc | apply Kd.R_drewN | apply Kd.R_drew)); exact HO_6.out⟩, ⟨by (with_reducible repeat (first | apply Kd.R_alloc | apply Kd.R_drewN | apply Kd.R_drew)); exact HO324.out⟩, ⟨by repeat (first | (with_reducible first | exact HB.out | apply below_alloc | apply pw_below_drewN | apply below_drew1) | exact HB.out)⟩⟩
                      · rw [if_neg c17] at H
                        exact absurd H (by simp)
                  · rw [if_neg c15] at H
                    exact absurd H (by simp)
                · rw [if_neg c14] at H
                  have c14b0 : decide (x11_2 < (l0.length : Int)) = false := decide_eq_false c14
                  clear c14
                  replace H := Option.bind_eq_some_iff.mp H
                  obtain ⟨⟨t325, t326⟩, A190, H⟩ := H
                  replace H : (if t313 = true then (if (t314.length : Int) = a1 then (if x8_1 = 0 then (if t326 = 0 then ((chargeparkref42_Ints.f k2 t314 t325).bind fun t329 => (some t329)) else (none)) else (none)) else (none)) else (none)) = some r := H
                  have A19 := Aside0.mk A190
                  clear A190
                  by_cases c20 : t313 = true
                  · subst c20
                    have H1 : (if (t314.length : Int) = a1 then (if x8_1 = 0 then (if t326 = 0 then ((chargeparkref42_Ints.f k2 t314 t325).bind fun t329 => (some t329)) else (none)) else (none)) else (none)) = some r := by rw [if_pos rfl] at H; exact H
                    clear H
                    have H := H1
                    clear H1
                    by_cases c21 : (t314.length : Int) = a1
                    · rw [if_pos c21] at H
                      have c21b0 : ((t314.length : Int) == a1) = true := beq_iff_eq.mpr c21
                      have c21b1 : ((t314.length : Int) != a1) = false := bne_eq_false_iff_eq.mpr c21
                      clear c21
                      by_cases c22 : x8_1 = 0
                      · rw [if_pos c22] at H
                        have c22b0 : (x8_1 == 0) = true := beq_iff_eq.mpr c22
                        have c22b1 : (x8_1 != 0) = false := bne_eq_false_iff_eq.mpr c22
                        clear c22
                        by_cases c23 : t326 = 0
                        · rw [if_pos c23] at H
                          have c23b0 : (t326 == 0) = true := beq_iff_eq.mpr c23
                          have c23b1 : (t326 != 0) = false := bne_eq_false_iff_eq.mpr c23
                          clear c23
                          replace H := Option.bind_eq_some_iff.mp H
                          obtain ⟨t329, A240, H⟩ := H
                          replace H : (some t329) = some r := H
                          have A24 := Aside0.mk A240
                          clear A240
                          obtain rfl := Option.some.inj H
                          obtain ⟨Ao25, co25, eo25⟩ := Kd.R_slice HO_10.out
                          subst eo25
                          go_wp2_with (first | (go_at_call 10; (with_reducible refine (settle_Net.calls _ _ x10_2 a1 t325 t326 _ ?side1 ?side2 A19.out).mono ?_); (case side1 => repeat (first | exact (Kd.R_reads' HO_10.out).2.2 | (with_reducible refine Kd.C_alloc ?_ _) | (with_reducible refine Kd.C_drewN ?_ _) | (with_reducible refine Kd.C_drew ?_))); (case side2 => exact (Kd.R_reads' HO_10.out).2.1); rintro e w26 ⟨v327, rfl, ho0, hb⟩; have n0_ := Aside0.mk (Kd.R_elder' (by (with_reducible repeat (first | apply Kd.R_alloc | apply Kd.R_drewN | apply Kd.R_drew)); exact HO_6.out) (Kd.R_base ho0) hb); have n1_ := Aside0.mk (Kd.R_below (by (with_reducible repeat (first | apply Kd.R_alloc | apply Kd.R_drewN | apply Kd.R_drew)); exact HO_10.out) hb); have n2_ := Aside0.mk (Kd.R_lower (Kd.R_new' ho0 (Kd.R_lt (by (with_reducible repeat (first | apply Kd.R_alloc | apply Kd.R_drewN | apply Kd.R_drew)); exact HO_6.out))) (below_size (by repeat (first | (with_reducible first | exact HB.out | apply below_alloc | apply pw_below_drewN | apply below_drew1) | exact HB.out)))); have n3_ := Aside0.mk (below_step (by repeat (first | (with_reducible first | exact HB.out | apply below_alloc | apply pw_below_drewN | apply below_drew1) | exact HB.out)) hb); clear HO_6; clear HO_10; clear HB; have HO_6 := n0_; have HO_10 := n1_; have HO328 := n2_; have HB := n3_; clear n0_ n1_ n2_ n3_; (try clear hb); (try clear hb2); (try clear hk); (try clear hi); (try clear ho0); obtain ⟨Ao27, co27, eo27⟩ := Kd.R_slice HO328.out; subst eo27) | (go_at_call 16; (with_reducible refine (chargeparkref42_Ints.calls k2 _ _ t314 _ _ t325 t329 _ ?side1 ?side2 ?side3 ?side4 A24.out).mono ?_); (case side1 => repeat (first | exact (Kd.R_reads' HO_6.out).2.2 | (with_reducible refine Kd.C_alloc ?_ _) | (with_reducible refine Kd.C_drewN ?_ _) | (with_reducible refine Kd.C_drew ?_))); (case side2 => exact (Kd.R_reads' HO_6.out).2.1); (case side3 => repeat (first | exact (Kd.R_reads' HO328.out).2.2 | (with_reducible refine Kd.C_alloc ?_ _) | (with_reducible refine Kd.C_drewN ?_ _) | (with_reducible refine Kd.C_drew ?_))); (case side4 => exact (Kd.R_reads' HO328.out).2.1); rintro e w' ⟨rfl, ⟨nd, rfl⟩⟩; (try first | exact ⟨rfl, _, World.drewN_drewN _ _ _⟩ | exact ⟨rfl, _, Eq.trans (World.drewN_drewN _ _ _) (congrArg (World.drewN _) (Nat.add_assoc _ _ _))⟩)))
                          repeat (go_quiet (first | (go_at_call 10; (with_reducible refine (settle_Net.calls _ _ x10_2 a1 t325 t326 _ ?side1 ?side2 A19.out).mono ?_); (case side1 => repeat (first | exact (Kd.R_reads' HO_10.out).2.2 | (with_reducible refine Kd.C_alloc ?_ _) | (with_reducible refine Kd.C_drewN ?_ _) | (with_reducible refine Kd.C_drew ?_))); (case side2 => exact (Kd.R_reads' HO_10.out).2.1); rintro e w26 ⟨v327, rfl, ho0, hb⟩; have n0_ := Aside0.mk (Kd.R_elder' (by (with_reducible repeat (first | apply Kd.R_alloc | apply Kd.R_drewN | apply Kd.R_drew)); exact HO_6.out) (Kd.R_base ho0) hb); have n1_ := Aside0.mk (Kd.R_below (by (with_reducible repeat (first | apply Kd.R_alloc | apply Kd.R_drewN | apply Kd.R_drew)); exact HO_10.out) hb); have n2_ := Aside0.mk (Kd.R_lower (Kd.R_new' ho0 (Kd.R_lt (by (with_reducible repeat (first | apply Kd.R_alloc | apply Kd.R_drewN | apply Kd.R_drew)); exact HO_6.out))) (below_size (by repeat (first | (with_reducible first | exact HB.out | apply below_alloc | apply pw_below_drewN | apply below_drew1) | exact HB.out)))); have n3_ := Aside0.mk (below_step (by repeat (first | (with_reducible first | exact HB.out | apply below_alloc | apply pw_below_drewN | apply below_drew1) | exact HB.out)) hb); clear HO_6; clear HO_10; clear HB; have HO_6 := n0_; have HO_10 := n1_; have HO328 := n2_; have HB := n3_; clear n0_ n1_ n2_ n3_; (try clear hb); (try clear hb2); (try clear hk); (try clear hi); (try clear ho0); obtain ⟨Ao27, co27, eo27⟩ := Kd.R_slice HO328.out; subst eo27) | (go_at_call 16; (with_reducible refine (chargeparkref42_Ints.calls k2 _ _ t314 _ _ t325 t329 _ ?side1 ?side2 ?side3 ?side4 A24.out).mono ?_); (case side1 => repeat (first | exact (Kd.R_reads' HO_6.out).2.2 | (with_reducible refine Kd.C_alloc ?_ _) | (with_reducible refine Kd.C_drewN ?_ _) | (with_reducible refine Kd.C_drew ?_))); (case side2 => exact (Kd.R_reads' HO_6.out).2.1); (case side3 => repeat (first | exact (Kd.R_reads' HO328.out).2.2 | (with_reducible refine Kd.C_alloc ?_ _) | (with_reducible refine Kd.C_drewN ?_ _) | (with_reducible refine Kd.C_drew ?_))); (case side4 => exact (Kd.R_reads' HO328.out).2.1); rintro e w' ⟨rfl, ⟨nd, rfl⟩⟩; (try first | exact ⟨rfl, _, World.drewN_drewN _ _ _⟩ | exact ⟨rfl, _, Eq.trans (World.drewN_drewN _ _ _) (congrArg (World.drewN _) (Nat.add_assoc _ _ _))⟩))); try go_wp2_with (first | (go_at_call 10; (with_reducible refine (settle_Net.calls _ _ x10_2 a1 t325 t326 _ ?side1 ?side2 A19.out).mono ?_); (case side1 => repeat (first | exact (Kd.R_reads' HO_10.out).2.2 | (with_reducible refine Kd.C_alloc ?_ _) | (with_reducible refine Kd.C_drewN ?_ _) | (with_reducible refine Kd.C_drew ?_))); (case side2 => exact (Kd.R_reads' HO_10.out).2.1); rintro e w26 ⟨v327, rfl, ho0, hb⟩; have n0_ := Aside0.mk (Kd.R_elder' (by (with_reducible repeat (first | apply Kd.R_alloc | apply Kd.R_drewN | apply Kd.R_drew)); exact HO_6.out) (Kd.R_base ho0) hb); have n1_ := Aside0.mk (Kd.R_below (by (with_reducible repeat (first | apply Kd.R_alloc | apply Kd.R_drewN | apply Kd.R_drew)); exact HO_10.out) hb); have n2_ := Aside0.mk (Kd.R_lower (Kd.R_new' ho0 (Kd.R_lt (by (with_reducible repeat (first | apply Kd.R_alloc | apply Kd.R_drewN | apply Kd.R_drew)); exact HO_6.out))) (below_size (by repeat (first | (with_reducible first | exact HB.out | apply below_alloc | apply pw_below_drewN | apply below_drew1) | exact HB.out)))); have n3_ := Aside0.mk (below_step (by repeat (first | (with_reducible first | exact HB.out | apply below_alloc | apply pw_below_drewN | apply below_drew1) | exact HB.out)) hb); clear HO_6; clear HO_10; clear HB; have HO_6 := n0_; have HO_10 := n1_; have HO328 := n2_; have HB := n3_; clear n0_ n1_ n2_ n3_; (try clear hb); (try clear hb2); (try clear hk); (try clear hi); (try clear ho0); obtain ⟨Ao27, co27, eo27⟩ := Kd.R_slice HO328.out; subst eo27) | (go_at_call 16; (with_reducible refine (chargeparkref42_Ints.calls k2 _ _ t314 _ _ t325 t329 _ ?side1 ?side2 ?side3 ?side4 A24.out).mono ?_); (case side1 => repeat (first | exact (Kd.R_reads' HO_6.out).2.2 | (with_reducible refine Kd.C_alloc ?_ _) | (with_reducible refine Kd.C_drewN ?_ _) | (with_reducible refine Kd.C_drew ?_))); (case side2 => exact (Kd.R_reads' HO_6.out).2.1); (case side3 => repeat (first | exact (Kd.R_reads' HO328.out).2.2 | (with_reducible refine Kd.C_alloc ?_ _) | (with_reducible refine Kd.C_drewN ?_ _) | (with_reducible refine Kd.C_drew ?_))); (case side4 => exact (Kd.R_reads' HO328.out).2.1); rintro e w' ⟨rfl, ⟨nd, rfl⟩⟩; (try first | exact ⟨rfl, _, World.drewN_drewN _ _ _⟩ | exact ⟨rfl, _, Eq.trans (World.drewN_drewN _ _ _) (congrArg (World.drewN _) (Nat.add_assoc _ _ _))⟩))))
                          go_ret
                          exact ⟨by first | rfl | (simp [errW_none, errW_some] <;> rfl) | (simp [*, errW_none, errW_some] <;> rfl), by repeat (first | (with_reducible first | exact HB.out | apply below_alloc | apply pw_below_drewN | apply below_drew1) | exact HB.out)⟩
                        · rw [if_neg c23] at H
                          exact absurd H (by simp)
                      · rw [if_neg c22] at H
                        exact absurd H (by simp)
                    · rw [if_neg c21] at H
                      exact absurd H (by simp)
                  · replace c20 := Bool.eq_false_iff.mpr c20
                    subst c20
                    have H1 : (none) = some r := by rw [if_neg (show ¬ (false = true) by decide)] at H; exact H
                    clear H
                    have H := H1
                    clear H1
                    exact absurd H (by simp)
    · rw [if_neg c7] at H
      have c7b0 : (t315 == 0) = false := beq_eq_false_iff_ne.mpr c7
      have c7b1 : (t315 != 0) = true := bne_iff_ne.mpr c7
      by_cases c28 : t313 = true
      · subst c28
        have H1 : (some ((t314.length : Int) == 0)) = some r := by rw [if_pos rfl] at H; exact H
        clear H
        have H := H1
        clear H1
        obtain rfl := Option.some.inj H
        go_enter Try.func4, Try.ntmps4
        go_wp2_with (first | (go_at_call 9; (with_reducible refine (chargeparklaw42_head.calls k  true _ A3.out).mono ?_); rintro e w29 ⟨rfl, hb⟩; have n0_ := Aside0.mk (below_step (by repeat (first | (with_reducible first | exact HB.out | apply below_alloc | apply pw_below_drewN | apply below_drew1) | exact HB.out)) hb); clear HB; have HB := n0_; clear n0_; (try clear hb); (try clear hb2); (try clear hk); (try clear hi)) | (go_at_call 10; (with_reducible refine (settle_Net.calls _ _ l0 a1 t314 t315 _ ?side1 ?side2 A6.out).mono ?_); (case side1 => repeat (first | exact (Kd.C_below HR0.out HB.out) | (with_reducible refine Kd.C_alloc ?_ _) | (with_reducible refine Kd.C_drewN ?_ _) | (with_reducible refine Kd.C_drew ?_))); (case side2 => exact HC0.out); rintro e w30 ⟨v316, rfl, ho0, hb⟩; have n0_ := Aside0.mk (Kd.R_lower ho0 (below_size (by repeat (first | (with_reducible first | exact HB.out | apply below_alloc | apply pw_below_drewN | apply below_drew1) | exact HB.out)))); have n1_ := Aside0.mk (below_step (by repeat (first | (with_reducible first | exact HB.out | apply below_alloc | apply pw_below_drewN | apply below_drew1) | exact HB.out)) hb); clear HB; have HO317 := n0_; have HB := n1_; clear n0_ n1_; (try clear hb); (try clear hb2); (try clear hk); (try clear hi); (try clear ho0); obtain ⟨Ao31, co31, eo31⟩ := Kd.R_slice HO317.out; subst eo31))
        repeat (go_quiet (first | (go_at_call 9; (with_reducible refine (chargeparklaw42_head.calls k  true _ A3.out).mono ?_); rintro e w29 ⟨rfl, hb⟩; have n0_ := Aside0.mk (below_step (by repeat (first | (with_reducible first | exact HB.out | apply below_alloc | apply pw_below_drewN | apply below_drew1) | exact HB.out)) hb); clear HB; have HB := n0_; clear n0_; (try clear hb); (try clear hb2); (try clear hk); (try clear hi)) | (go_at_call 10; (with_reducible refine (settle_Net.calls _ _ l0 a1 t314 t315 _ ?side1 ?side2 A6.out).mono ?_); (case side1 => repeat (first | exact (Kd.C_below HR0.out HB.out) | (with_reducible refine Kd.C_alloc ?_ _) | (with_reducible refine Kd.C_drewN ?_ _) | (with_reducible refine Kd.C_drew ?_))); (case side2 => exact HC0.out); rintro e w30 ⟨v316, rfl, ho0, hb⟩; have n0_ := Aside0.mk (Kd.R_lower ho0 (below_size (by repeat (first | (with_reducible first | exact HB.out | apply below_alloc | apply pw_below_drewN | apply below_drew1) | exact HB.out)))); have n1_ := Aside0.mk (below_step (by repeat (first | (with_reducible first | exact HB.out | apply below_alloc | apply pw_below_drewN | apply below_drew1) | exact HB.out)) hb); clear HB; have HO317 := n0_; have HB := n1_; clear n0_ n1_; (try clear hb); (try clear hb2); (try clear hk); (try clear hi); (try clear ho0); obtain ⟨Ao31, co31, eo31⟩ := Kd.R_slice HO317.out; subst eo31)); try go_wp2_with (first | (go_at_call 9; (with_reducible refine (chargeparklaw42_head.calls k  true _ A3.out).mono ?_); rintro e w29 ⟨rfl, hb⟩; have n0_ := Aside0.mk (below_step (by repeat (first | (with_reducible first | exact HB.out | apply below_alloc | apply pw_below_drewN | apply below_drew1) | exact HB.out)) hb); clear HB; have HB := n0_; clear n0_; (try clear hb); (try clear hb2); (try clear hk); (try clear hi)) | (go_at_call 10; (with_reducible refine (settle_Net.calls _ _ l0 a1 t314 t315 _ ?side1 ?side2 A6.out).mono ?_); (case side1 => repeat (first | exact (Kd.C_below HR0.out HB.out) | (with_reducible refine Kd.C_alloc ?_ _) | (with_reducible refine Kd.C_drewN ?_ _) | (with_reducible refine Kd.C_drew ?_))); (case side2 => exact HC0.out); rintro e w30 ⟨v316, rfl, ho0, hb⟩; have n0_ := Aside0.mk (Kd.R_lower ho0 (below_size (by repeat (first | (with_reducible first | exact HB.out | apply below_alloc | apply pw_below_drewN | apply below_drew1) | exact HB.out)))); have n1_ := Aside0.mk (below_step (by repeat (first | (with_reducible first | exact HB.out | apply below_alloc | apply pw_below_drewN | apply below_drew1) | exact HB.out)) hb); clear HB; have HO317 := n0_; have HB := n1_; clear n0_ n1_; (try clear hb); (try clear hb2); (try clear hk); (try clear hi); (try clear ho0); obtain ⟨Ao31, co31, eo31⟩ := Kd.R_slice HO317.out; subst eo31)))
        go_ret
        exact ⟨by first | rfl | (simp [errW_none, errW_some] <;> rfl) | (simp [*, errW_none, errW_some] <;> rfl), by repeat (first | (with_reducible first | exact HB.out | apply below_alloc | apply pw_below_drewN | apply below_drew1) | exact HB.out)⟩
      · replace c28 := Bool.eq_false_iff.mpr c28
        subst c28
        have H1 : (none) = some r := by rw [if_neg (show ¬ (false = true) by decide)] at H; exact H
        clear H
        have H := H1
        clear H1
        exact absurd H (by simp)

/-- THE ONE PURE STATEMENT of chargeparklaw42_SettleSums: yours. -/
def chargeparklaw42_SettleSums.Pure : Prop := ∀ (l0 : List (S40)) (a1 : Int), l0.length ≤ maxLen → (∀ y ∈ l0, ok40 y) → (Lit.int .i64 a1).wf = true → ∃ k, chargeparklaw42_SettleSums.f k l0 a1 = some true
theorem chargeparklaw42_SettleSums.walk (P : chargeparklaw42_SettleSums.Pure) (A0 : Option Addr) (c0 : Nat) (l0 : List (S40)) (a1 : Int) (w : World) (hC0 : Kd.C k40 w A0 l0.length l0) (hc0 : l0.length ≤ c0) (hm0 : l0.length ≤ maxLen) (ho0 : ∀ y ∈ l0, ok40 y) (w1 : (Lit.int .i64 a1).wf = true) :
    Calls Try.prog 4 #[.slice A0 l0.length c0, .int .i64 a1] w fun e w' => e = .returned (.bool true) ∧ Below w.heap.size w w' := by
  obtain ⟨k, h⟩ := P l0 a1 hm0 ho0 w1
  refine (chargeparklaw42_SettleSums.calls k _ _ l0 a1 true w hC0 hc0 h).mono ?_
  rintro e w' ⟨rfl, hd⟩
  exact ⟨rfl, hd⟩


end Go.Proofs.Ytanaaphabeonoaa.PAll
