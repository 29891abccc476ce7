-- Written by a program of this session (xprint.py, over the kit's print.py), with contracts proved by hand.
import Derived.Test.YtanaaphabeonoaaPAllx0
import Derived.Test.YtanaaphabeonoaaPAllx3
import Derived.Test.YtanaaphabeonoaaPAllx4
import Derived.Test.YtanaaphabeonoaaPAllx5
namespace Go.Proofs.Ytanaaphabeonoaa.PAll
open Go.RowKit Go.Proofs.Ytanaaphabeonoaa.Open Go.Proofs.YtanaaphabeonoaaW.PrintWords Go.Proofs.YtanaaphabeonoaaW.PrintLast Go.Proofs.YtanaaphabeonoaaW.PrintMore
attribute [local go_sem] max2_int min2_int max_two min_two max_three min_three max_four min_four   -- for this text's walks alone
set_option linter.unusedVariables false
set_option linter.unusedSimpArgs false

/-! ### chargeparklaw42_SettlePayments: function 6 -/
mutual
def chargeparklaw42_SettlePayments.l0 : Nat → List Int → Bool → List (S44) → Int → List Int → Int → Int → Option (Bool)
  | 0, _, _, _, _, _, _, _ => none
  | k + 1, x0, x3, x5, x6, x7, x8, x9 => if x9 < (x5.length : Int) then (if 0 ≤ x9 then (if ((rd_T44 x5 x9).f0) < 0 then (none) else (if ((rd_T44 x5 x9).f0) ≥ (x0.length : Int) then (none) else (if ((rd_T44 x5 x9).f1) < 0 then (none) else (if ((rd_T44 x5 x9).f1) ≥ (x0.length : Int) then (none) else (if ((rd_T44 x5 x9).f2) ≤ 0 then (none) else (if 0 ≤ ((rd_T44 x5 x9).f0) then (if ((rd_T44 x5 x9).f0) < (x0.length : Int) then (if (rd x0 ((rd_T44 x5 x9).f0)) ≥ 0 then (none) else (if 0 ≤ ((rd_T44 x5 x9).f1) then (if ((rd_T44 x5 x9).f1) < (x0.length : Int) then (if (rd x0 ((rd_T44 x5 x9).f1)) ≤ 0 then (none) else (if ((rd_T44 x5 x9).f0) < (x7.length : Int) then ((some (x7.set (((rd_T44 x5 x9).f0) : Int).toNat (wrap64 ((rd x7 ((rd_T44 x5 x9).f0)) + ((rd_T44 x5 x9).f2))) : List Int)).bind fun y394 => (if ((rd_T44 x5 x9).f1) < (x7.length : Int) then (chargeparklaw42_SettlePayments.l0 k x0 x3 x5 x6 (y394.set (((rd_T44 x5 x9).f1) : Int).toNat (wrap64 ((rd y394 ((rd_T44 x5 x9).f1)) - ((rd_T44 x5 x9).f2)))) (wrap64 (x8 + ((rd_T44 x5 x9).f2))) (wrap64 (x9 + 1))) else (none))) else (none))) else (none)) else (none))) else (none)) else (none))))))) else (none)) else (chargeparklaw42_SettlePayments.l1 k x0 x3 x5 x6 x7 x8 0 0)
def chargeparklaw42_SettlePayments.l1 : Nat → List Int → Bool → List (S44) → Int → List Int → Int → Int → Int → Option (Bool)
  | 0, _, _, _, _, _, _, _, _ => none
  | k + 1, x0, x3, x5, x6, x7, x8, x13, x14 => if x14 < (x0.length : Int) then (if x3 = true then (if 0 ≤ x14 then (if x14 < (x7.length : Int) then (chargeparklaw42_SettlePayments.l1 k x0 ((rd x7 x14) == 0) x5 x6 x7 x8 (wrap64 (x13 + (mx 0 (wrap64 (-(rd x0 x14)))))) (wrap64 (x14 + 1))) else (none)) else (none)) else (if 0 ≤ x14 then (chargeparklaw42_SettlePayments.l1 k x0 false x5 x6 x7 x8 (wrap64 (x13 + (mx 0 (wrap64 (-(rd x0 x14)))))) (wrap64 (x14 + 1))) else (none))) else (if x3 = true then (if x6 = 0 then (if (x5.length : Int) < (x0.length : Int) then (some (x8 == x13)) else (none)) else (none)) else (none))
end
def chargeparklaw42_SettlePayments.f (k : Nat) (l0 : List Int) : Option (Bool) := (chargeparklaw42_head.f k).bind fun t376 => ((chargeparkref42_Balances.f k l0).bind fun t377 => (if t377 = true then ((settle_Payments.f k l0).bind fun bt378 => (if 0 ≤ (l0.length : Int) then (if ((l0.length : Int) : Int).toNat ≤ 35184372088832 then ((some (([] : List Int) : List Int)).bind fun y382 => (if y382.length + l0.length < 17592186044416 then (chargeparklaw42_SettlePayments.l0 k l0 t376 bt378.1 bt378.2 (y382 ++ l0) 0 0) else (none))) else (none)) else (none))) else (some t376)))
theorem chargeparklaw42_SettlePayments.mono_l : ∀ k, (∀ y0 y1 y2 y3 y4 y5 y6, LeO (chargeparklaw42_SettlePayments.l0 k y0 y1 y2 y3 y4 y5 y6) (chargeparklaw42_SettlePayments.l0 (k + 1) y0 y1 y2 y3 y4 y5 y6)) ∧ (∀ y0 y1 y2 y3 y4 y5 y6 y7, LeO (chargeparklaw42_SettlePayments.l1 k y0 y1 y2 y3 y4 y5 y6 y7) (chargeparklaw42_SettlePayments.l1 (k + 1) y0 y1 y2 y3 y4 y5 y6 y7))
  | 0 => ⟨fun _ _ _ _ _ _ _ r h => by simp [chargeparklaw42_SettlePayments.l0] at h, fun _ _ _ _ _ _ _ _ r h => by simp [chargeparklaw42_SettlePayments.l1] at h⟩
  | k + 1 => by
    obtain ⟨ih0, ih1⟩ := chargeparklaw42_SettlePayments.mono_l k
    refine ⟨?_, ?_⟩
    · intro y0 y1 y2 y3 y4 y5 y6
      unfold chargeparklaw42_SettlePayments.l0
      repeat' first
      | (with_reducible exact ih0 _ _ _ _ _ _ _)
      | (with_reducible exact ih1 _ _ _ _ _ _ _ _)
      | (with_reducible exact chargeparklaw42_head.mono _)
      | (with_reducible exact chargeparkref42_Balances.mono _ _)
      | (with_reducible exact settle_Payments.mono _ _)
      | (with_reducible exact LeO.refl _)
      | (with_reducible exact LeO.none _)
      | (with_reducible refine LeO.ite ?_ ?_)
      | (with_reducible refine LeO.bind ?_ (fun _ => ?_))
      | exact ih0 _ _ _ _ _ _ _
      | exact ih1 _ _ _ _ _ _ _ _
      | exact chargeparklaw42_head.mono _
      | exact chargeparkref42_Balances.mono _ _
      | exact settle_Payments.mono _ _
      | exact LeO.none _
      | refine LeO.ite ?_ ?_
      | refine LeO.bind ?_ (fun _ => ?_)
    · intro y0 y1 y2 y3 y4 y5 y6 y7
      unfold chargeparklaw42_SettlePayments.l1
      repeat' first
      | (with_reducible exact ih0 _ _ _ _ _ _ _)
      | (with_reducible exact ih1 _ _ _ _ _ _ _ _)
      | (with_reducible exact chargeparklaw42_head.mono _)
      | (with_reducible exact chargeparkref42_Balances.mono _ _)
      | (with_reducible exact settle_Payments.mono _ _)
      | (with_reducible exact LeO.refl _)
      | (with_reducible exact LeO.none _)
      | (with_reducible refine LeO.ite ?_ ?_)
      | (with_reducible refine LeO.bind ?_ (fun _ => ?_))
      | exact ih0 _ _ _ _ _ _ _
      | exact ih1 _ _ _ _ _ _ _ _
      | exact chargeparklaw42_head.mono _
      | exact chargeparkref42_Balances.mono _ _
      | exact settle_Payments.mono _ _
      | exact LeO.none _
      | refine LeO.ite ?_ ?_
      | refine LeO.bind ?_ (fun _ => ?_)
theorem chargeparklaw42_SettlePayments.mono : ∀ a0 k, LeO (chargeparklaw42_SettlePayments.f k a0) (chargeparklaw42_SettlePayments.f (k + 1) a0) := by
  intro a0 k
  obtain ⟨ih0, ih1⟩ := chargeparklaw42_SettlePayments.mono_l k
  unfold chargeparklaw42_SettlePayments.f
  repeat' first
      | (with_reducible exact ih0 _ _ _ _ _ _ _)
      | (with_reducible exact ih1 _ _ _ _ _ _ _ _)
      | (with_reducible exact chargeparklaw42_head.mono _)
      | (with_reducible exact chargeparkref42_Balances.mono _ _)
      | (with_reducible exact settle_Payments.mono _ _)
      | (with_reducible exact LeO.refl _)
      | (with_reducible exact LeO.none _)
      | (with_reducible refine LeO.ite ?_ ?_)
      | (with_reducible refine LeO.bind ?_ (fun _ => ?_))
      | exact ih0 _ _ _ _ _ _ _
      | exact ih1 _ _ _ _ _ _ _ _
      | exact chargeparklaw42_head.mono _
      | exact chargeparkref42_Balances.mono _ _
      | exact settle_Payments.mono _ _
      | exact LeO.none _
      | refine LeO.ite ?_ ?_
      | refine LeO.bind ?_ (fun _ => ?_)
set_option maxHeartbeats 8000000 in
set_option maxRecDepth 100000 in
theorem chargeparklaw42_SettlePayments.calls (k : Nat) (A0 : Option Addr) (c0 : Nat) (l0 : List Int) (r : Bool) (w : World) (hr0 : Kd.C (Kd.int .i64) w A0 l0.length l0) (hc0 : l0.length ≤ c0) (h : chargeparklaw42_SettlePayments.f k l0 = some r) :
    Calls Try.prog 6 #[.slice A0 l0.length c0] w fun e w' => e = .returned (.bool r) ∧ Below w.heap.size w w' := by
  have HR0 := Aside0.mk hr0
  have HC0 := Aside0.mk hc0
  clear hr0 hc0
  have HB := Aside0.mk (Below.refl w.heap.size w)
  have H : ((chargeparklaw42_head.f k).bind fun t376 => ((chargeparkref42_Balances.f k l0).bind fun t377 => (if t377 = true then ((settle_Payments.f k l0).bind fun bt378 => (if 0 ≤ (l0.length : Int) then (if ((l0.length : Int) : Int).toNat ≤ 35184372088832 then ((some (([] : List Int) : List Int)).bind fun y382 => (if y382.length + l0.length < 17592186044416 then (chargeparklaw42_SettlePayments.l0 k l0 t376 bt378.1 bt378.2 (y382 ++ l0) 0 0) else (none))) else (none)) else (none))) else (some t376)))) = some r := h
  clear h
  replace H := Option.bind_eq_some_iff.mp H
  obtain ⟨t376, A20, H⟩ := H
  replace H : ((chargeparkref42_Balances.f k l0).bind fun t377 => (if t377 = true then ((settle_Payments.f k l0).bind fun bt378 => (if 0 ≤ (l0.length : Int) then (if ((l0.length : Int) : Int).toNat ≤ 35184372088832 then ((some (([] : List Int) : List Int)).bind fun y382 => (if y382.length + l0.length < 17592186044416 then (chargeparklaw42_SettlePayments.l0 k l0 t376 bt378.1 bt378.2 (y382 ++ l0) 0 0) else (none))) else (none)) else (none))) else (some t376))) = some r := H
  have A2 := Aside0.mk A20
  clear A20
  replace H := Option.bind_eq_some_iff.mp H
  obtain ⟨t377, A30, H⟩ := H
  replace H : (if t377 = true then ((settle_Payments.f k l0).bind fun bt378 => (if 0 ≤ (l0.length : Int) then (if ((l0.length : Int) : Int).toNat ≤ 35184372088832 then ((some (([] : List Int) : List Int)).bind fun y382 => (if y382.length + l0.length < 17592186044416 then (chargeparklaw42_SettlePayments.l0 k l0 t376 bt378.1 bt378.2 (y382 ++ l0) 0 0) else (none))) else (none)) else (none))) else (some t376)) = some r := H
  have A3 := Aside0.mk A30
  clear A30
  by_cases c4 : t377 = true
  · subst c4
    have H1 : ((settle_Payments.f k l0).bind fun bt378 => (if 0 ≤ (l0.length : Int) then (if ((l0.length : Int) : Int).toNat ≤ 35184372088832 then ((some (([] : List Int) : List Int)).bind fun y382 => (if y382.length + l0.length < 17592186044416 then (chargeparklaw42_SettlePayments.l0 k l0 t376 bt378.1 bt378.2 (y382 ++ l0) 0 0) else (none))) else (none)) else (none))) = some r := by rw [if_pos rfl] at H; exact H
    clear H
    have H := H1
    clear H1
    replace H := Option.bind_eq_some_iff.mp H
    obtain ⟨⟨t378, t379⟩, A50, H⟩ := H
    replace H : (if 0 ≤ (l0.length : Int) then (if ((l0.length : Int) : Int).toNat ≤ 35184372088832 then ((some (([] : List Int) : List Int)).bind fun y382 => (if y382.length + l0.length < 17592186044416 then (chargeparklaw42_SettlePayments.l0 k l0 t376 t378 t379 (y382 ++ l0) 0 0) else (none))) else (none)) else (none)) = some r := H
    have A5 := Aside0.mk A50
    clear A50
    by_cases c6 : 0 ≤ (l0.length : Int)
    · rw [if_pos c6] at H
      have c6b0 := eq_true c6
      have c6b1 : decide (0 ≤ (l0.length : Int)) = true := decide_eq_true c6
      clear c6
      by_cases c7 : ((l0.length : Int) : Int).toNat ≤ 35184372088832
      · rw [if_pos c7] at H
        have c7b0 := eq_true c7
        have c7b1 : decide (((l0.length : Int) : Int).toNat ≤ 35184372088832) = true := decide_eq_true c7
        clear c7
        obtain ⟨y382, hy382⟩ : ∃ y_ : List Int, y_ = (([] : List Int)) := ⟨_, rfl⟩
        replace H : (if y382.length + l0.length < 17592186044416 then (chargeparklaw42_SettlePayments.l0 k l0 t376 t378 t379 (y382 ++ l0) 0 0) else (none)) = some r := by first | (rw [hy382]; with_reducible exact H) | (have H2_ := (Option.bind_some _ _).symm.trans H; rw [hy382]; with_reducible exact H2_) | (have H2_ := (Option.bind_some _ _).symm.trans H; with_reducible exact H2_) | with_reducible exact H | (rw [hy382]; exact H) | exact H
        have Ny382 := Aside0.mk hy382
        clear hy382
        by_cases c8 : y382.length + l0.length < 17592186044416
        · rw [if_pos c8] at H
          have LMc8 := Aside0.mk c8
          clear c8
          obtain ⟨y385, hy385⟩ : ∃ y_ : List Int, y_ = (y382 ++ l0) := ⟨_, rfl⟩
          replace H : (chargeparklaw42_SettlePayments.l0 k l0 t376 t378 t379 y385 0 0) = some r := by first | (rw [hy385]; with_reducible exact H) | (have H2_ := (Option.bind_some _ _).symm.trans H; rw [hy385]; with_reducible exact H2_) | (have H2_ := (Option.bind_some _ _).symm.trans H; with_reducible exact H2_) | with_reducible exact H | (rw [hy385]; exact H) | exact H
          have Ny385 := Aside0.mk hy385
          clear hy385
          have H' := Aside0.mk H
          clear H
          go_enter Try.func6, Try.ntmps6
          go_wp2_with (first | (go_at_call 9; (with_reducible refine (chargeparklaw42_head.calls k  t376 _ A2.out).mono ?_); rintro e w9 ⟨rfl, hb⟩; have n0_ := Aside0.mk (below_step (by repeat (first | (with_reducible first | exact HB.out | apply below_alloc | apply pw_below_drewN | apply below_drew1) | exact HB.out)) hb); clear HB; have HB := n0_; clear n0_; (try clear hb); (try clear hb2); (try clear hk); (try clear hi)) | (go_at_call 18; (with_reducible refine (chargeparkref42_Balances.calls k _ _ l0 true _ ?side1 ?side2 A3.out).mono ?_); (case side1 => repeat (first | exact (Kd.C_below HR0.out HB.out) | (with_reducible refine Kd.C_alloc ?_ _) | (with_reducible refine Kd.C_drewN ?_ _) | (with_reducible refine Kd.C_drew ?_))); (case side2 => exact HC0.out); rintro e w' ⟨rfl, ⟨nd, rfl⟩⟩; (try first | exact ⟨rfl, _, World.drewN_drewN _ _ _⟩ | exact ⟨rfl, _, Eq.trans (World.drewN_drewN _ _ _) (congrArg (World.drewN _) (Nat.add_assoc _ _ _))⟩)) | (go_at_call 12; (with_reducible refine (settle_Payments.calls k _ _ l0 t378 t379 _ ?side1 ?side2 A5.out).mono ?_); (case side1 => repeat (first | exact (Kd.C_below HR0.out (by repeat (first | (with_reducible first | exact HB.out | apply below_alloc | apply pw_below_drewN | apply below_drew1) | exact HB.out))) | (with_reducible refine Kd.C_alloc ?_ _) | (with_reducible refine Kd.C_drewN ?_ _) | (with_reducible refine Kd.C_drew ?_))); (case side2 => exact HC0.out); rintro e w10 ⟨v380, rfl, ho0, hb⟩; have n0_ := Aside0.mk (Kd.R_lower ho0 (below_size (by repeat (first | (with_reducible first | exact HB.out | apply below_alloc | apply pw_below_drewN | apply below_drew1) | exact HB.out)))); have n1_ := Aside0.mk (below_step (by repeat (first | (with_reducible first | exact HB.out | apply below_alloc | apply pw_below_drewN | apply below_drew1) | exact HB.out)) hb); clear HB; have HO381 := n0_; have HB := n1_; clear n0_ n1_; (try clear hb); (try clear hb2); (try clear hk); (try clear hi); (try clear ho0)) | ((with_reducible refine gate_dst (N := 28) rfl ?_); (try (refine gate_guard (by rfl) ?_; dsimp only)); refine R_make0 (Kd.int .i64) _ 3 rfl (N := 28) rfl 23 _ _ rfl (l0.length : Int) rfl rfl Try.underlying23 (.int .i64 0) 8 info3 rfl (by decide) (by omega) 0 (ok := fun _ => True) (okp := fun _ => True) rfl (fun _ hk => hk) trivial (of_decide_eq_true (by first | (with_reducible assumption) | assumption)) (Nat.le_trans (Nat.mul_le_mul_right _ (of_decide_eq_true (by first | (with_reducible assumption) | assumption) : (l0.length : Int).toNat ≤ 35184372088832)) (by omega)) (Below.refl _ _) (Nat.le_refl _) ?_; intro v383 w11 ho12 hb hg_ hnew_; clear hg_ hnew_; (first | rw [← Ny382.out] at ho12 | (simp only [Int.reduceToNat] at ho12; rw [← Ny382.out] at ho12)); have n0_ := Aside0.mk (Kd.R_below (by (with_reducible repeat (first | apply Kd.R_alloc | apply Kd.R_drewN | apply Kd.R_drew)); exact HO381.out) hb); have n1_ := Aside0.mk (Kd.R_lower ho12 (below_size (by repeat (first | (with_reducible first | exact HB.out | apply below_alloc | apply pw_below_drewN | apply below_drew1) | exact HB.out)))); have n2_ := Aside0.mk (below_step (by repeat (first | (with_reducible first | exact HB.out | apply below_alloc | apply pw_below_drewN | apply below_drew1) | exact HB.out)) hb); clear HO381; clear HB; have HO381 := n0_; have HO384 := n1_; have HB := n2_; clear n0_ n1_ n2_; clear hb ho12) | ((with_reducible refine gate_builtin (b := .append) (xs := #[.tmp 28, .tmp 29]) rfl ?_); (try (refine gate_guard (by rfl) ?_; dsimp only)); at_builtin; refine Kd.R_append_rows (Kd.int .i64) (w0 := w) w.heap.size rfl (.tmp 28) (.tmp 29) 23 3 (.int .i64 0) 8 rfl Try.underlying23 info3 rfl (by decide) (by omega) v383 y382 l0 _ _ _ (fun _ => True) (fun _ => False) rfl rfl ?aO ?aR (fun _ _ h => h) (fun _ h => h.elim) ?aF ?aB ?aS ?aL ?_; (case aR => repeat (first | exact (Kd.C_below HR0.out HB.out) | (with_reducible refine Kd.C_alloc ?_ _) | (with_reducible refine Kd.C_drewN ?_ _) | (with_reducible refine Kd.C_drew ?_))); (case aB => exact (by repeat (first | (with_reducible first | exact HB.out | apply below_alloc | apply pw_below_drewN | apply below_drew1) | exact HB.out))); (case aF => exact (fun _ _ => trivial)); (case aO => exact (by (with_reducible repeat (first | apply Kd.R_alloc | apply Kd.R_drewN | apply Kd.R_drew)); exact HO384.out)); (case aS => exact (below_size (by repeat (first | (with_reducible first | exact HB.out | apply below_alloc | apply pw_below_drewN | apply below_drew1) | exact HB.out)))); (case aL => have := LMc8.out; omega); intro v386 w13 ho hb hg hat; rw [← Ny385.out] at ho; have n0_ := Aside0.mk (Kd.R_over' (by (with_reducible repeat (first | apply Kd.R_alloc | apply Kd.R_drewN | apply Kd.R_drew)); exact HO381.out) (Kd.R_typed (by (with_reducible repeat (first | apply Kd.R_alloc | apply Kd.R_drewN | apply Kd.R_drew)); exact HO384.out)) (by decide) hg); have n1_ := Aside0.mk (hb); have n2_ := Aside0.mk (ho); clear HO381; clear HB; clear HO384; have HO381 := n0_; have HB := n1_; have HO387 := n2_; clear n0_ n1_ n2_; clear ho hb hg hat))
          repeat (go_quiet (first | (go_at_call 9; (with_reducible refine (chargeparklaw42_head.calls k  t376 _ A2.out).mono ?_); rintro e w9 ⟨rfl, hb⟩; have n0_ := Aside0.mk (below_step (by repeat (first | (with_reducible first | exact HB.out | apply below_alloc | apply pw_below_drewN | apply below_drew1) | exact HB.out)) hb); clear HB; have HB := n0_; clear n0_; (try clear hb); (try clear hb2); (try clear hk); (try clear hi)) | (go_at_call 18; (with_reducible refine (chargeparkref42_Balances.calls k _ _ l0 true _ ?side1 ?side2 A3.out).mono ?_); (case side1 => repeat (first | exact (Kd.C_below HR0.out HB.out) | (with_reducible refine Kd.C_alloc ?_ _) | (with_reducible refine Kd.C_drewN ?_ _) | (with_reducible refine Kd.C_drew ?_))); (case side2 => exact HC0.out); rintro e w' ⟨rfl, ⟨nd, rfl⟩⟩; (try first | exact ⟨rfl, _, World.drewN_drewN _ _ _⟩ | exact ⟨rfl, _, Eq.trans (World.drewN_drewN _ _ _) (congrArg (World.drewN _) (Nat.add_assoc _ _ _))⟩)) | (go_at_call 12; (with_reducible refine (settle_Payments.calls k _ _ l0 t378 t379 _ ?side1 ?side2 A5.out).mono ?_); (case side1 => repeat (first | exact (Kd.C_below HR0.out (by repeat (first | (with_reducible first | exact HB.out | apply below_alloc | apply pw_below_drewN | apply below_drew1) | exact HB.out))) | (with_reducible refine Kd.C_alloc ?_ _) | (with_reducible refine Kd.C_drewN ?_ _) | (with_reducible refine Kd.C_drew ?_))); (case side2 => exact HC0.out); rintro e w10 ⟨v380, rfl, ho0, hb⟩; have n0_ := Aside0.mk (Kd.R_lower ho0 (below_size (by repeat (first | (with_reducible first | exact HB.out | apply below_alloc | apply pw_below_drewN | apply below_drew1) | exact HB.out)))); have n1_ := Aside0.mk (below_step (by repeat (first | (with_reducible first | exact HB.out | apply below_alloc | apply pw_below_drewN | apply below_drew1) | exact HB.out)) hb); clear HB; have HO381 := n0_; have HB := n1_; clear n0_ n1_; (try clear hb); (try clear hb2); (try clear hk); (try clear hi); (try clear ho0)) | ((with_reducible refine gate_dst (N := 28) rfl ?_); (try (refine gate_guard (by rfl) ?_; dsimp only)); refine R_make0 (Kd.int .i64) _ 3 rfl (N := 28) rfl 23 _ _ rfl (l0.length : Int) rfl rfl Try.underlying23 (.int .i64 0) 8 info3 rfl (by decide) (by omega) 0 (ok := fun _ => True) (okp := fun _ => True) rfl (fun _ hk => hk) trivial (of_decide_eq_true (by first | (with_reducible assumption) | assumption)) (Nat.le_trans (Nat.mul_le_mul_right _ (of_decide_eq_true (by first | (with_reducible assumption) | assumption) : (l0.length : Int).toNat ≤ 35184372088832)) (by omega)) (Below.refl _ _) (Nat.le_refl _) ?_; intro v383 w11 ho12 hb hg_ hnew_; clear hg_ hnew_; (first | rw [← Ny382.out] at ho12 | (simp only [Int.reduceToNat] at ho12; rw [← Ny382.out] at ho12)); have n0_ := Aside0.mk (Kd.R_below (by (with_reducible repeat (first | apply Kd.R_alloc | apply Kd.R_drewN | apply Kd.R_drew)); exact HO381.out) hb); have n1_ := Aside0.mk (Kd.R_lower ho12 (below_size (by repeat (first | (with_reducible first | exact HB.out | apply below_alloc | apply pw_below_drewN | apply below_drew1) | exact HB.out)))); have n2_ := Aside0.mk (below_step (by repeat (first | (with_reducible first | exact HB.out | apply below_alloc | apply pw_below_drewN | apply below_drew1) | exact HB.out)) hb); clear HO381; clear HB; have HO381 := n0_; have HO384 := n1_; have HB := n2_; clear n0_ n1_ n2_; clear hb ho12) | ((with_reducible refine gate_builtin (b := .append) (xs := #[.tmp 28, .tmp 29]) rfl ?_); (try (refine gate_guard (by rfl) ?_; dsimp only)); at_builtin; refine Kd.R_append_rows (Kd.int .i64) (w0 := w) w.heap.size rfl (.tmp 28) (.tmp 29) 23 3 (.int .i64 0) 8 rfl Try.underlying23 info3 rfl (by decide) (by omega) v383 y382 l0 _ _ _ (fun _ => True) (fun _ => False) rfl rfl ?aO ?aR (fun _ _ h => h) (fun _ h => h.elim) ?aF ?aB ?aS ?aL ?_; (case aR => repeat (first | exact (Kd.C_below HR0.out HB.out) | (with_reducible refine Kd.C_alloc ?_ _) | (with_reducible refine Kd.C_drewN ?_ _) | (with_reducible refine Kd.C_drew ?_))); (case aB => exact (by repeat (first | (with_reducible first | exact HB.out | apply below_alloc | apply pw_below_drewN | apply below_drew1) | exact HB.out))); (case aF => exact (fun _ _ => trivial)); (case aO => exact (by (with_reducible repeat (first | apply Kd.R_alloc | apply Kd.R_drewN | apply Kd.R_drew)); exact HO384.out)); (case aS => exact (below_size (by repeat (first | (with_reducible first | exact HB.out | apply below_alloc | apply pw_below_drewN | apply below_drew1) | exact HB.out)))); (case aL => have := LMc8.out; omega); intro v386 w13 ho hb hg hat; rw [← Ny385.out] at ho; have n0_ := Aside0.mk (Kd.R_over' (by (with_reducible repeat (first | apply Kd.R_alloc | apply Kd.R_drewN | apply Kd.R_drew)); exact HO381.out) (Kd.R_typed (by (with_reducible repeat (first | apply Kd.R_alloc | apply Kd.R_drewN | apply Kd.R_drew)); exact HO384.out)) (by decide) hg); have n1_ := Aside0.mk (hb); have n2_ := Aside0.mk (ho); clear HO381; clear HB; clear HO384; have HO381 := n0_; have HB := n1_; have HO387 := n2_; clear n0_ n1_ n2_; clear ho hb hg hat)); try go_wp2_with (first | (go_at_call 9; (with_reducible refine (chargeparklaw42_head.calls k  t376 _ A2.out).mono ?_); rintro e w9 ⟨rfl, hb⟩; have n0_ := Aside0.mk (below_step (by repeat (first | (with_reducible first | exact HB.out | apply below_alloc | apply pw_below_drewN | apply below_drew1) | exact HB.out)) hb); clear HB; have HB := n0_; clear n0_; (try clear hb); (try clear hb2); (try clear hk); (try clear hi)) | (go_at_call 18; (with_reducible refine (chargeparkref42_Balances.calls k _ _ l0 true _ ?side1 ?side2 A3.out).mono ?_); (case side1 => repeat (first | exact (Kd.C_below HR0.out HB.out) | (with_reducible refine Kd.C_alloc ?_ _) | (with_reducible refine Kd.C_drewN ?_ _) | (with_reducible refine Kd.C_drew ?_))); (case side2 => exact HC0.out); rintro e w' ⟨rfl, ⟨nd, rfl⟩⟩; (try first | exact ⟨rfl, _, World.drewN_drewN _ _ _⟩ | exact ⟨rfl, _, Eq.trans (World.drewN_drewN _ _ _) (congrArg (World.drewN _) (Nat.add_assoc _ _ _))⟩)) | (go_at_call 12; (with_reducible refine (settle_Payments.calls k _ _ l0 t378 t379 _ ?side1 ?side2 A5.out).mono ?_); (case side1 => repeat (first | exact (Kd.C_below HR0.out (by repeat (first | (with_reducible first | exact HB.out | apply below_alloc | apply pw_below_drewN | apply below_drew1) | exact HB.out))) | (with_reducible refine Kd.C_alloc ?_ _) | (with_reducible refine Kd.C_drewN ?_ _) | (with_reducible refine Kd.C_drew ?_))); (case side2 => exact HC0.out); rintro e w10 ⟨v380, rfl, ho0, hb⟩; have n0_ := Aside0.mk (Kd.R_lower ho0 (below_size (by repeat (first | (with_reducible first | exact HB.out | apply below_alloc | apply pw_below_drewN | apply below_drew1) | exact HB.out)))); have n1_ := Aside0.mk (below_step (by repeat (first | (with_reducible first | exact HB.out | apply below_alloc | apply pw_below_drewN | apply below_drew1) | exact HB.out)) hb); clear HB; have HO381 := n0_; have HB := n1_; clear n0_ n1_; (try clear hb); (try clear hb2); (try clear hk); (try clear hi); (try clear ho0)) | ((with_reducible refine gate_dst (N := 28) rfl ?_); (try (refine gate_guard (by rfl) ?_; dsimp only)); refine R_make0 (Kd.int .i64) _ 3 rfl (N := 28) rfl 23 _ _ rfl (l0.length : Int) rfl rfl Try.underlying23 (.int .i64 0) 8 info3 rfl (by decide) (by omega) 0 (ok := fun _ => True) (okp := fun _ => True) rfl (fun _ hk => hk) trivial (of_decide_eq_true (by first | (with_reducible assumption) | assumption)) (Nat.le_trans (Nat.mul_le_mul_right _ (of_decide_eq_true (by first | (with_reducible assumption) | assumption) : (l0.length : Int).toNat ≤ 35184372088832)) (by omega)) (Below.refl _ _) (Nat.le_refl _) ?_; intro v383 w11 ho12 hb hg_ hnew_; clear hg_ hnew_; (first | rw [← Ny382.out] at ho12 | (simp only [Int.reduceToNat] at ho12; rw [← Ny382.out] at ho12)); have n0_ := Aside0.mk (Kd.R_below (by (with_reducible repeat (first | apply Kd.R_alloc | apply Kd.R_drewN | apply Kd.R_drew)); exact HO381.out) hb); have n1_ := Aside0.mk (Kd.R_lower ho12 (below_size (by repeat (first | (with_reducible first | exact HB.out | apply below_alloc | apply pw_below_drewN | apply below_drew1) | exact HB.out)))); have n2_ := Aside0.mk (below_step (by repeat (first | (with_reducible first | exact HB.out | apply below_alloc | apply pw_below_drewN | apply below_drew1) | exact HB.out)) hb); clear HO381; clear HB; have HO381 := n0_; have HO384 := n1_; have HB := n2_; clear n0_ n1_ n2_; clear hb ho12) | ((with_reducible refine gate_builtin (b := .append) (xs := #[.tmp 28, .tmp 29]) rfl ?_); (try (refine gate_guard (by rfl) ?_; dsimp only)); at_builtin; refine Kd.R_append_rows (Kd.int .i64) (w0 := w) w.heap.size rfl (.tmp 28) (.tmp 29) 23 3 (.int .i64 0) 8 rfl Try.underlying23 info3 rfl (by decide) (by omega) v383 y382 l0 _ _ _ (fun _ => True) (fun _ => False) rfl rfl ?aO ?aR (fun _ _ h => h) (fun _ h => h.elim) ?aF ?aB ?aS ?aL ?_; (case aR => repeat (first | exact (Kd.C_below HR0.out HB.out) | (with_reducible refine Kd.C_alloc ?_ _) | (with_reducible refine Kd.C_drewN ?_ _) | (with_reducible refine Kd.C_drew ?_))); (case aB => exact (by repeat (first | (with_reducible first | exact HB.out | apply below_alloc | apply pw_below_drewN | apply below_drew1) | exact HB.out))); (case aF => exact (fun _ _ => trivial)); (case aO => exact (by (with_reducible repeat (first | apply Kd.R_alloc | apply Kd.R_drewN | apply Kd.R_drew)); exact HO384.out)); (case aS => exact (below_size (by repeat (first | (with_reducible first | exact HB.out | apply below_alloc | apply pw_below_drewN | apply below_drew1) | exact HB.out)))); (case aL => have := LMc8.out; omega); intro v386 w13 ho hb hg hat; rw [← Ny385.out] at ho; have n0_ := Aside0.mk (Kd.R_over' (by (with_reducible repeat (first | apply Kd.R_alloc | apply Kd.R_drewN | apply Kd.R_drew)); exact HO381.out) (Kd.R_typed (by (with_reducible repeat (first | apply Kd.R_alloc | apply Kd.R_drewN | apply Kd.R_drew)); exact HO384.out)) (by decide) hg); have n1_ := Aside0.mk (hb); have n2_ := Aside0.mk (ho); clear HO381; clear HB; clear HO384; have HO381 := n0_; have HB := n1_; have HO387 := n2_; clear n0_ n1_ n2_; clear ho hb hg hat)))
          go_loopg [8, 9] k (fun kq v8 v9 w' => ∃ (x7_1 : List Int) (x8_1 : Int) (x9_1 : Int), v8 = .int .i64 x8_1 ∧ v9 = .int .i64 x9_1 ∧ Aside0 (chargeparklaw42_SettlePayments.l0 kq l0 t376 t378 t379 x7_1 x8_1 x9_1 = some r) ∧ Aside0 (kq ≤ k) ∧ Aside0 (Kd.R k44 44 w' w.heap.size (fun _ => True) v380 t378) ∧ Aside0 (Kd.R (Kd.int .i64) 3 w' w.heap.size (fun _ => True) v386 x7_1) ∧ Aside0 (Below w.heap.size w w'))
          case atStart => exact ⟨(y385), (0), (0), (by first | rfl | (simp; done) | (simp [*]; done)), (by first | rfl | (simp; done) | (simp [*]; done)), H', ⟨Nat.le_refl _⟩, ⟨by (with_reducible repeat (first | apply Kd.R_alloc | apply Kd.R_drewN | apply Kd.R_drew)); exact HO381.out⟩, ⟨by (with_reducible repeat (first | apply Kd.R_alloc | apply Kd.R_drewN | apply Kd.R_drew)); exact HO387.out⟩, ⟨by repeat (first | (with_reducible first | exact HB.out | apply below_alloc | apply pw_below_drewN | apply below_drew1) | exact HB.out)⟩⟩
          case round =>
            clear H'
            try clear p2
            try clear c4
            try clear c6
            try clear c6b0
            try clear c6b1
            try clear c7
            try clear c7b0
            try clear c7b1
            try clear c8
            obtain ⟨x7_1, x8_1, x9_1, rfl, rfl, HA, HK1, HO_5, HO_7, HB⟩ := hrel
            cases gk with
            | zero => exact absurd HA.out (by simp [chargeparklaw42_SettlePayments.l0])
            | succ k1 =>
              have H := HA.out
              clear HA
              simp only [chargeparklaw42_SettlePayments.l0] at H
              by_cases c14 : x9_1 < (t378.length : Int)
              · rw [if_pos c14] at H
                have c14b0 : decide (x9_1 < (t378.length : Int)) = true := decide_eq_true c14
                clear c14
                by_cases c15 : 0 ≤ x9_1
                · rw [if_pos c15] at H
                  have c15b0 : decide (0 ≤ x9_1) = true := decide_eq_true c15
                  clear c15
                  by_cases c16 : ((rd_T44 t378 x9_1).f0) < 0
                  · rw [if_pos c16] at H
                    exact absurd H (by simp)
                  · rw [if_neg c16] at H
                    have c16b0 : decide (((rd_T44 t378 x9_1).f0) < 0) = false := decide_eq_false c16
                    clear c16
                    by_cases c17 : ((rd_T44 t378 x9_1).f0) ≥ (l0.length : Int)
                    · rw [if_pos c17] at H
                      exact absurd H (by simp)
                    · rw [if_neg c17] at H
                      have c17b0 : decide ((l0.length : Int) ≤ ((rd_T44 t378 x9_1).f0)) = false := decide_eq_false c17
                      clear c17
                      by_cases c18 : ((rd_T44 t378 x9_1).f1) < 0
                      · rw [if_pos c18] at H
                        exact absurd H (by simp)
                      · rw [if_neg c18] at H
                        have c18b0 : decide (((rd_T44 t378 x9_1).f1) < 0) = false := decide_eq_false c18
                        clear c18
                        by_cases c19 : ((rd_T44 t378 x9_1).f1) ≥ (l0.length : Int)
                        · rw [if_pos c19] at H
                          exact absurd H (by simp)
                        · rw [if_neg c19] at H
                          have c19b0 : decide ((l0.length : Int) ≤ ((rd_T44 t378 x9_1).f1)) = false := decide_eq_false c19
                          clear c19
                          by_cases c20 : ((rd_T44 t378 x9_1).f2) ≤ 0
                          · rw [if_pos c20] at H
                            exact absurd H (by simp)
                          · rw [if_neg c20] at H
                            have c20b0 : decide (((rd_T44 t378 x9_1).f2) ≤ 0) = false := decide_eq_false c20
                            clear c20
                            by_cases c21 : 0 ≤ ((rd_T44 t378 x9_1).f0)
                            · rw [if_pos c21] at H
                              have c21b0 : decide (0 ≤ ((rd_T44 t378 x9_1).f0)) = true := decide_eq_true c21
                              clear c21
                              by_cases c22 : ((rd_T44 t378 x9_1).f0) < (l0.length : Int)
                              · rw [if_pos c22] at H
                                have c22b0 : decide (((rd_T44 t378 x9_1).f0) < (l0.length : Int)) = true := decide_eq_true c22
                                clear c22
                                by_cases c23 : (rd l0 ((rd_T44 t378 x9_1).f0)) ≥ 0
                                · rw [if_pos c23] at H
                                  exact absurd H (by simp)
                                · rw [if_neg c23] at H
                                  have c23b0 : decide (0 ≤ (rd l0 ((rd_T44 t378 x9_1).f0))) = false := decide_eq_false c23
                                  clear c23
                                  by_cases c24 : 0 ≤ ((rd_T44 t378 x9_1).f1)
                                  · rw [if_pos c24] at H
                                    have c24b0 : decide (0 ≤ ((rd_T44 t378 x9_1).f1)) = true := decide_eq_true c24
                                    clear c24
                                    by_cases c25 : ((rd_T44 t378 x9_1).f1) < (l0.length : Int)
                                    · rw [if_pos c25] at H
                                      have c25b0 : decide (((rd_T44 t378 x9_1).f1) < (l0.length : Int)) = true := decide_eq_true c25
                                      clear c25
                                      by_cases c26 : (rd l0 ((rd_T44 t378 x9_1).f1)) ≤ 0
                                      · rw [if_pos c26] at H
                                        exact absurd H (by simp)
                                      · rw [if_neg c26] at H
                                        have c26b0 : decide ((rd l0 ((rd_T44 t378 x9_1).f1)) ≤ 0) = false := decide_eq_false c26
                                        clear c26
                                        by_cases c27 : ((rd_T44 t378 x9_1).f0) < (x7_1.length : Int)
                                        · rw [if_pos c27] at H
                                          have c27b0 : decide (((rd_T44 t378 x9_1).f0) < (x7_1.length : Int)) = true := decide_eq_true c27
                                          clear c27
                                          obtain ⟨y394, hy394⟩ : ∃ y_ : List Int, y_ = (x7_1.set (((rd_T44 t378 x9_1).f0) : Int).toNat (wrap64 ((rd x7_1 ((rd_T44 t378 x9_1).f0)) + ((rd_T44 t378 x9_1).f2)))) := ⟨_, rfl⟩
                                          replace H : (if ((rd_T44 t378 x9_1).f1) < (x7_1.length : Int) then (chargeparklaw42_SettlePayments.l0 k1 l0 t376 t378 t379 (y394.set (((rd_T44 t378 x9_1).f1) : Int).toNat (wrap64 ((rd y394 ((rd_T44 t378 x9_1).f1)) - ((rd_T44 t378 x9_1).f2)))) (wrap64 (x8_1 + ((rd_T44 t378 x9_1).f2))) (wrap64 (x9_1 + 1))) else (none)) = some r := by first | (rw [hy394]; with_reducible exact H) | (have H2_ := (Option.bind_some _ _).symm.trans H; rw [hy394]; with_reducible exact H2_) | (have H2_ := (Option.bind_some _ _).symm.trans H; with_reducible exact H2_) | with_reducible exact H | (rw [hy394]; exact H) | exact H
                                          have Ny394 := Aside0.mk hy394
                                          clear hy394
                                          by_cases c29 : ((rd_T44 t378 x9_1).f1) < (x7_1.length : Int)
                                          · rw [if_pos c29] at H
                                            have c29b0 : decide (((rd_T44 t378 x9_1).f1) < (x7_1.length : Int)) = true := decide_eq_true c29
                                            clear c29
                                            obtain ⟨y396, hy396⟩ : ∃ y_ : List Int, y_ = (y394.set (((rd_T44 t378 x9_1).f1) : Int).toNat (wrap64 ((rd y394 ((rd_T44 t378 x9_1).f1)) - ((rd_T44 t378 x9_1).f2)))) := ⟨_, rfl⟩
                                            replace H : (chargeparklaw42_SettlePayments.l0 k1 l0 t376 t378 t379 y396 (wrap64 (x8_1 + ((rd_T44 t378 x9_1).f2))) (wrap64 (x9_1 + 1))) = some r := by first | (rw [hy396]; with_reducible exact H) | (have H2_ := (Option.bind_some _ _).symm.trans H; rw [hy396]; with_reducible exact H2_) | (have H2_ := (Option.bind_some _ _).symm.trans H; with_reducible exact H2_) | with_reducible exact H | (rw [hy396]; exact H) | exact H
                                            have Ny396 := Aside0.mk hy396
                                            clear hy396
                                            have H' := Aside0.mk H
                                            clear H
                                            obtain ⟨Ao31, co31, eo31⟩ := Kd.R_slice HO_5.out
                                            subst eo31
                                            have p388 : 0 ≤ (x9_1 : Int) := of_decide_eq_true (by first | (with_reducible assumption) | assumption)
                                            have q388 : x9_1 < (t378.length : Int) := of_decide_eq_true (by first | (with_reducible assumption) | assumption)
                                            obtain ⟨ad388, e388, hx388_0, hx388_1, hx388_2⟩ := at_T44 (Kd.R_reads' HO_5.out).2.2 x9_1 p388 q388
                                            cases e388
                                            replace p388 := eq_true p388
                                            replace q388 := eq_true q388
                                            have p389 : 0 ≤ (x9_1 : Int) := of_decide_eq_true (by first | (with_reducible assumption) | assumption)
                                            have q389 : x9_1 < (t378.length : Int) := of_decide_eq_true (by first | (with_reducible assumption) | assumption)
                                            obtain ⟨ad389, e389, hx389_0, hx389_1, hx389_2⟩ := at_T44 (Kd.R_reads' HO_5.out).2.2 x9_1 p389 q389
                                            obtain rfl : ad388 = ad389 := (by injection e389)
                                            replace p389 := eq_true p389
                                            replace q389 := eq_true q389
                                            have p390 : 0 ≤ (x9_1 : Int) := of_decide_eq_true (by first | (with_reducible assumption) | assumption)
                                            have q390 : x9_1 < (t378.length : Int) := of_decide_eq_true (by first | (with_reducible assumption) | assumption)
                                            obtain ⟨ad390, e390, hx390_0, hx390_1, hx390_2⟩ := at_T44 (Kd.R_reads' HO_5.out).2.2 x9_1 p390 q390
                                            obtain rfl : ad388 = ad390 := (by injection e390)
                                            replace p390 := eq_true p390
                                            replace q390 := eq_true q390
                                            have p391 : 0 ≤ (((rd_T44 t378 x9_1).f0) : Int) := of_decide_eq_true (by first | (with_reducible assumption) | assumption)
                                            have q391 : ((rd_T44 t378 x9_1).f0) < (l0.length : Int) := of_decide_eq_true (by first | (with_reducible assumption) | assumption)
                                            obtain ⟨ad391, e391, hx391_0⟩ := Kd.at_int HR0.out ((rd_T44 t378 x9_1).f0) p391 q391
                                            cases e391
                                            replace hx391_0 := (HB.out.cell (World.block_lt_of_cell? w _ hx391_0)).trans hx391_0
                                            replace p391 := eq_true p391
                                            replace q391 := eq_true q391
                                            have p392 : 0 ≤ (((rd_T44 t378 x9_1).f1) : Int) := of_decide_eq_true (by first | (with_reducible assumption) | assumption)
                                            have q392 : ((rd_T44 t378 x9_1).f1) < (l0.length : Int) := of_decide_eq_true (by first | (with_reducible assumption) | assumption)
                                            obtain ⟨ad392, e392, hx392_0⟩ := Kd.at_int HR0.out ((rd_T44 t378 x9_1).f1) p392 q392
                                            obtain rfl : ad391 = ad392 := (by injection e392)
                                            replace hx392_0 := (HB.out.cell (World.block_lt_of_cell? w _ hx392_0)).trans hx392_0
                                            replace p392 := eq_true p392
                                            replace q392 := eq_true q392
                                            obtain ⟨Ao32, co32, eo32⟩ := Kd.R_slice HO_7.out
                                            subst eo32
                                            have p393 : 0 ≤ (((rd_T44 t378 x9_1).f0) : Int) := of_decide_eq_true (by first | (with_reducible assumption) | assumption)
                                            have q393 : ((rd_T44 t378 x9_1).f0) < (x7_1.length : Int) := of_decide_eq_true (by first | (with_reducible assumption) | assumption)
                                            obtain ⟨ad393, e393, hx393_0⟩ := Kd.at_int (Kd.R_reads' HO_7.out).2.2 ((rd_T44 t378 x9_1).f0) p393 q393
                                            cases e393
                                            replace p393 := eq_true p393
                                            replace q393 := eq_true q393
                                            have p28 : 0 ≤ (((rd_T44 t378 x9_1).f0) : Int) := of_decide_eq_true (by first | (with_reducible assumption) | assumption)
                                            have q28 : (((rd_T44 t378 x9_1).f0) : Int) < ((x7_1.length : Int) : Int) := of_decide_eq_true (by first | (with_reducible assumption) | assumption)
                                            obtain ⟨go28, co28, eo28, gb28, gl28, cl28, HG28⟩ := Kd.R_form HO_7.out (by omega)
                                            (first | cases eo28 | (injection eo28 with ea_ en_ ec_; (first | subst ea_ | (injection ea_ with ea_; subst ea_)); subst ec_; clear en_))
                                            have GB28 := Aside0.mk gb28
                                            have GG28 := Aside0.mk HG28
                                            clear gb28 gl28 HG28
                                            (first | simp only [add_plain] at hx393_0 | skip)
                                            obtain ⟨hx28_0, hf28_0⟩ := Kd.R_celln 0 HO_7.out (((rd_T44 t378 x9_1).f0) : Int) p28 q28
                                            replace p28 := eq_true p28
                                            replace q28 := eq_true q28
                                            have HP33 := Kd.R_putg HO_7.out (((rd_T44 t378 x9_1).f0) : Int) (wrap64 ((rd x7_1 ((rd_T44 t378 x9_1).f0)) + ((rd_T44 t378 x9_1).f2)))
                                            go_wp2_with (first | ((with_reducible refine gate_store (t := 3) (p := 94) rfl ?_); (try (rw [drewN_self wr]; generalize hq_ : World.drewN wr _ = wr; have n0_ := Aside0.mk (Kd.R_at hq_ HO_5.out); have n1_ := Aside0.mk (Kd.R_at hq_ HO_7.out); have n2_ := Aside0.mk (below_at hq_ HB.out); clear hq_ HO_5 HO_7 HB; have HO_5 := n0_; have HO_7 := n1_; have HB := n2_; clear n0_ n1_ n2_; (try obtain ⟨hx28_0, hf28_0⟩ := Kd.R_celln 0 HO_7.out (((rd_T44 t378 x9_1).f0) : Int) (of_eq_true p28) (of_eq_true q28)); (try (have HP33 := Kd.R_putg HO_7.out (((rd_T44 t378 x9_1).f0) : Int) (wrap64 ((rd x7_1 ((rd_T44 t378 x9_1).f0)) + ((rd_T44 t378 x9_1).f2))))))); refine store_event (t := 3) (p := 94) (v := ?vo_w34) (w1 := (wr.setCell ⟨go28, (((rd_T44 t378 x9_1).f0) : Int).toNat, none⟩ (.int .i64 (wrap64 ((rd x7_1 ((rd_T44 t378 x9_1).f0)) + ((rd_T44 t378 x9_1).f2)))))) ?hg ?ho ?hn ?hr ?_; (case ho => rfl); (case hg => rfl); (case hn => rfl); (case hr => first | (go_simp; done) | (go_simp; rfl)); intro w34 hw; have hg : wr.grownBy w34 (some go28) := (by rw [hw]; exact HP33.2); have hp_ : Kd.R (Kd.int .i64) 3 w34 w.heap.size (fun _ => True) (.slice (some ⟨go28, 0, none⟩) x7_1.length co32) y394 := (by rw [hw, Ny394.out]; exact HP33.1); clear HP33; have n0_ := Aside0.mk (Kd.R_over' (v := (.slice (some ⟨go28, 0, none⟩) x7_1.length co32)) (by (with_reducible repeat (first | apply Kd.R_alloc | apply Kd.R_drewN | apply Kd.R_drew)); exact HO_5.out) (Kd.R_typed HO_7.out) (by decide) hg); have n1_ := Aside0.mk (hp_); have n2_ := Aside0.mk ((by rw [hw]; exact below_set (HB.out) GB28.out : Below w.heap.size w w34)); clear HO_5; clear HO_7; clear HB; have HO_5 := n0_; have HO_7 := n1_; have HB := n2_; clear n0_ n1_ n2_; clear hg hw hp_; have p395 : 0 ≤ (((rd_T44 t378 x9_1).f1) : Int) := of_decide_eq_true (by first | (with_reducible assumption) | assumption); have q395 : ((rd_T44 t378 x9_1).f1) < (y394.length : Int) := (by have h_ : (((rd_T44 t378 x9_1).f1) : Int) < ((x7_1.length : Int) : Int) := of_decide_eq_true (by first | (with_reducible assumption) | assumption); first | (have e_ := (Kd.R_reads' HO_7.out).1; omega) | simpa only [Ny394.out, List.length_set] using h_); have ql395 : ((((rd_T44 t378 x9_1).f1) : Int) < ((x7_1.length : Int) : Int)) = True := eq_true (of_decide_eq_true (by first | (with_reducible assumption) | assumption)); obtain ⟨ad395, e395, hx395_0⟩ := Kd.at_int (Kd.R_reads' HO_7.out).2.2 ((rd_T44 t378 x9_1).f1) p395 q395; obtain rfl : (⟨go28, 0, none⟩ : Addr) = ad395 := (by injection e395); (first | simp only [add_plain] at hx395_0 | simp only [add_at] at hx395_0 | simp only [Addr.add, Nat.zero_add] at hx395_0 | skip); replace p395 := eq_true p395; replace q395 := eq_true q395; have p30 : 0 ≤ (((rd_T44 t378 x9_1).f1) : Int) := of_decide_eq_true (by first | (with_reducible assumption) | assumption); have q30 : (((rd_T44 t378 x9_1).f1) : Int) < ((x7_1.length : Int) : Int) := of_decide_eq_true (by first | (with_reducible assumption) | assumption); obtain ⟨hx30_0, hf30_0⟩ := Kd.R_celln 0 HO_7.out (((rd_T44 t378 x9_1).f1) : Int) p30 q30; replace p30 := eq_true p30; replace q30 := eq_true q30; obtain ⟨hy35_, hz35_⟩ := Kd.R_celln 0 HO_7.out (((rd_T44 t378 x9_1).f1) : Int) (of_decide_eq_true (by first | (with_reducible assumption) | assumption)) (of_decide_eq_true (by first | (with_reducible assumption) | assumption)); have HP35 := Kd.R_putg HO_7.out (((rd_T44 t378 x9_1).f1) : Int) (wrap64 ((rd y394 ((rd_T44 t378 x9_1).f1)) - ((rd_T44 t378 x9_1).f2)))) | ((with_reducible refine gate_store (t := 3) (p := 101) rfl ?_); (try (rw [drewN_self w34]; generalize hq_ : World.drewN w34 _ = w34; have n0_ := Aside0.mk (Kd.R_at hq_ HO_5.out); have n1_ := Aside0.mk (Kd.R_at hq_ HO_7.out); have n2_ := Aside0.mk (below_at hq_ HB.out); clear hq_ HO_5 HO_7 HB; have HO_5 := n0_; have HO_7 := n1_; have HB := n2_; clear n0_ n1_ n2_; (try (obtain ⟨hy35_, hz35_⟩ := Kd.R_celln 0 HO_7.out (((rd_T44 t378 x9_1).f1) : Int) (of_decide_eq_true (by first | (with_reducible assumption) | assumption)) (of_decide_eq_true (by first | (with_reducible assumption) | assumption)))); (try (have HP35 := Kd.R_putg HO_7.out (((rd_T44 t378 x9_1).f1) : Int) (wrap64 ((rd y394 ((rd_T44 t378 x9_1).f1)) - ((rd_T44 t378 x9_1).f2))))))); refine store_event (t := 3) (p := 101) (v := ?vo_w36) (w1 := (w34.setCell ⟨go28, (((rd_T44 t378 x9_1).f1) : Int).toNat, none⟩ (.int .i64 (wrap64 ((rd y394 ((rd_T44 t378 x9_1).f1)) - ((rd_T44 t378 x9_1).f2)))))) ?hg ?ho ?hn ?hr ?_; (case ho => rfl); (case hg => rfl); (case hn => rfl); (case hr => first | (go_simp; done) | (go_simp; rfl)); intro w36 hw; have hg : w34.grownBy w36 (some go28) := (by rw [hw]; exact HP35.2); have hp_ : Kd.R (Kd.int .i64) 3 w36 w.heap.size (fun _ => True) (.slice (some ⟨go28, 0, none⟩) x7_1.length co32) y396 := (by rw [hw, Ny396.out]; exact HP35.1); clear HP35; have n0_ := Aside0.mk (Kd.R_over' (v := (.slice (some ⟨go28, 0, none⟩) x7_1.length co32)) (by (with_reducible repeat (first | apply Kd.R_alloc | apply Kd.R_drewN | apply Kd.R_drew)); exact HO_5.out) (Kd.R_typed HO_7.out) (by decide) hg); have n1_ := Aside0.mk (hp_); have n2_ := Aside0.mk ((by rw [hw]; exact below_set (HB.out) GB28.out : Below w.heap.size w w36)); clear HO_5; clear HO_7; clear HB; have HO_5 := n0_; have HO_7 := n1_; have HB := n2_; clear n0_ n1_ n2_; clear hg hw hp_))
                                            repeat (go_quiet (first | ((with_reducible refine gate_store (t := 3) (p := 94) rfl ?_); (try (rw [drewN_self wr]; generalize hq_ : World.drewN wr _ = wr; have n0_ := Aside0.mk (Kd.R_at hq_ HO_5.out); have n1_ := Aside0.mk (Kd.R_at hq_ HO_7.out); have n2_ := Aside0.mk (below_at hq_ HB.out); clear hq_ HO_5 HO_7 HB; have HO_5 := n0_; have HO_7 := n1_; have HB := n2_; clear n0_ n1_ n2_; (try obtain ⟨hx28_0, hf28_0⟩ := Kd.R_celln 0 HO_7.out (((rd_T44 t378 x9_1).f0) : Int) (of_eq_true p28) (of_eq_true q28)); (try (have HP33 := Kd.R_putg HO_7.out (((rd_T44 t378 x9_1).f0) : Int) (wrap64 ((rd x7_1 ((rd_T44 t378 x9_1).f0)) + ((rd_T44 t378 x9_1).f2))))))); refine store_event (t := 3) (p := 94) (v := ?vo_w34) (w1 := (wr.setCell ⟨go28, (((rd_T44 t378 x9_1).f0) : Int).toNat, none⟩ (.int .i64 (wrap64 ((rd x7_1 ((rd_T44 t378 x9_1).f0)) + ((rd_T44 t378 x9_1).f2)))))) ?hg ?ho ?hn ?hr ?_; (case ho => rfl); (case hg => rfl); (case hn => rfl); (case hr => first | (go_simp; done) | (go_simp; rfl)); intro w34 hw; have hg : wr.grownBy w34 (some go28) := (by rw [hw]; exact HP33.2); have hp_ : Kd.R (Kd.int .i64) 3 w34 w.heap.size (fun _ => True) (.slice (some ⟨go28, 0, none⟩) x7_1.length co32) y394 := (by rw [hw, Ny394.out]; exact HP33.1); clear HP33; have n0_ := Aside0.mk (Kd.R_over' (v := (.slice (some ⟨go28, 0, none⟩) x7_1.length co32)) (by (with_reducible repeat (first | apply Kd.R_alloc | apply Kd.R_drewN | apply Kd.R_drew)); exact HO_5.out) (Kd.R_typed HO_7.out) (by decide) hg); have n1_ := Aside0.mk (hp_); have n2_ := Aside0.mk ((by rw [hw]; exact below_set (HB.out) GB28.out : Below w.heap.size w w34)); clear HO_5; clear HO_7; clear HB; have HO_5 := n0_; have HO_7 := n1_; have HB := n2_; clear n0_ n1_ n2_; clear hg hw hp_; have p395 : 0 ≤ (((rd_T44 t378 x9_1).f1) : Int) := of_decide_eq_true (by first | (with_reducible assumption) | assumption); have q395 : ((rd_T44 t378 x9_1).f1) < (y394.length : Int) := (by have h_ : (((rd_T44 t378 x9_1).f1) : Int) < ((x7_1.length : Int) : Int) := of_decide_eq_true (by first | (with_reducible assumption) | assumption); first | (have e_ := (Kd.R_reads' HO_7.out).1; omega) | simpa only [Ny394.out, List.length_set] using h_); have ql395 : ((((rd_T44 t378 x9_1).f1) : Int) < ((x7_1.length : Int) : Int)) = True := eq_true (of_decide_eq_true (by first | (with_reducible assumption) | assumption)); obtain ⟨ad395, e395, hx395_0⟩ := Kd.at_int (Kd.R_reads' HO_7.out).2.2 ((rd_T44 t378 x9_1).f1) p395 q395; obtain rfl : (⟨go28, 0, none⟩ : Addr) = ad395 := (by injection e395); (first | simp only [add_plain] at hx395_0 | simp only [add_at] at hx395_0 | simp only [Addr.add, Nat.zero_add] at hx395_0 | skip); replace p395 := eq_true p395; replace q395 := eq_true q395; have p30 : 0 ≤ (((rd_T44 t378 x9_1).f1) : Int) := of_decide_eq_true (by first | (with_reducible assumption) | assumption); have q30 : (((rd_T44 t378 x9_1).f1) : Int) < ((x7_1.length : Int) : Int) := of_decide_eq_true (by first | (with_reducible assumption) | assumption); obtain ⟨hx30_0, hf30_0⟩ := Kd.R_celln 0 HO_7.out (((rd_T44 t378 x9_1).f1) : Int) p30 q30; replace p30 := eq_true p30; replace q30 := eq_true q30; obtain ⟨hy35_, hz35_⟩ := Kd.R_celln 0 HO_7.out (((rd_T44 t378 x9_1).f1) : Int) (of_decide_eq_true (by first | (with_reducible assumption) | assumption)) (of_decide_eq_true (by first | (with_reducible assumption) | assumption)); have HP35 := Kd.R_putg HO_7.out (((rd_T44 t378 x9_1).f1) : Int) (wrap64 ((rd y394 ((rd_T44 t378 x9_1).f1)) - ((rd_T44 t378 x9_1).f2)))) | ((with_reducible refine gate_store (t := 3) (p := 101) rfl ?_); (try (rw [drewN_self w34]; generalize hq_ : World.drewN w34 _ = w34; have n0_ := Aside0.mk (Kd.R_at hq_ HO_5.out); have n1_ := Aside0.mk (Kd.R_at hq_ HO_7.out); have n2_ := Aside0.mk (below_at hq_ HB.out); clear hq_ HO_5 HO_7 HB; have HO_5 := n0_; have HO_7 := n1_; have HB := n2_; clear n0_ n1_ n2_; (try (obtain ⟨hy35_, hz35_⟩ := Kd.R_celln 0 HO_7.out (((rd_T44 t378 x9_1).f1) : Int) (of_decide_eq_true (by first | (with_reducible assumption) | assumption)) (of_decide_eq_true (by first | (with_reducible assumption) | assumption)))); (try (have HP35 := Kd.R_putg HO_7.out (((rd_T44 t378 x9_1).f1) : Int) (wrap64 ((rd y394 ((rd_T44 t378 x9_1).f1)) - ((rd_T44 t378 x9_1).f2))))))); refine store_event (t := 3) (p := 101) (v := ?vo_w36) (w1 := (w34.setCell ⟨go28, (((rd_T44 t378 x9_1).f1) : Int).toNat, none⟩ (.int .i64 (wrap64 ((rd y394 ((rd_T44 t378 x9_1).f1)) - ((rd_T44 t378 x9_1).f2)))))) ?hg ?ho ?hn ?hr ?_; (case ho => rfl); (case hg => rfl); (case hn => rfl); (case hr => first | (go_simp; done) | (go_simp; rfl)); intro w36 hw; have hg : w34.grownBy w36 (some go28) := (by rw [hw]; exact HP35.2); have hp_ : Kd.R (Kd.int .i64) 3 w36 w.heap.size (fun _ => True) (.slice (some ⟨go28, 0, none⟩) x7_1.length co32) y396 := (by rw [hw, Ny396.out]; exact HP35.1); clear HP35; have n0_ := Aside0.mk (Kd.R_over' (v := (.slice (some ⟨go28, 0, none⟩) x7_1.length co32)) (by (with_reducible repeat (first | apply Kd.R_alloc | apply Kd.R_drewN | apply Kd.R_drew)); exact HO_5.out) (Kd.R_typed HO_7.out) (by decide) hg); have n1_ := Aside0.mk (hp_); have n2_ := Aside0.mk ((by rw [hw]; exact below_set (HB.out) GB28.out : Below w.heap.size w w36)); clear HO_5; clear HO_7; clear HB; have HO_5 := n0_; have HO_7 := n1_; have HB := n2_; clear n0_ n1_ n2_; clear hg hw hp_)); try go_wp2_with (first | ((with_reducible refine gate_store (t := 3) (p := 94) rfl ?_); (try (rw [drewN_self wr]; generalize hq_ : World.drewN wr _ = wr; have n0_ := Aside0.mk (Kd.R_at hq_ HO_5.out); have n1_ := Aside0.mk (Kd.R_at hq_ HO_7.out); have n2_ := Aside0.mk (below_at hq_ HB.out); clear hq_ HO_5 HO_7 HB; have HO_5 := n0_; have HO_7 := n1_; have HB := n2_; clear n0_ n1_ n2_; (try obtain ⟨hx28_0, hf28_0⟩ := Kd.R_celln 0 HO_7.out (((rd_T44 t378 x9_1).f0) : Int) (of_eq_true p28) (of_eq_true q28)); (try (have HP33 := Kd.R_putg HO_7.out (((rd_T44 t378 x9_1).f0) : Int) (wrap64 ((rd x7_1 ((rd_T44 t378 x9_1).f0)) + ((rd_T44 t378 x9_1).f2))))))); refine store_event (t := 3) (p := 94) (v := ?vo_w34) (w1 := (wr.setCell ⟨go28, (((rd_T44 t378 x9_1).f0) : Int).toNat, none⟩ (.int .i64 (wrap64 ((rd x7_1 ((rd_T44 t378 x9_1).f0)) + ((rd_T44 t378 x9_1).f2)))))) ?hg ?ho ?hn ?hr ?_; (case ho => rfl); (case hg => rfl); (case hn => rfl); (case hr => first | (go_simp; done) | (go_simp; rfl)); intro w34 hw; have hg : wr.grownBy w34 (some go28) := (by rw [hw]; exact HP33.2); have hp_ : Kd.R (Kd.int .i64) 3 w34 w.heap.size (fun _ => True) (.slice (some ⟨go28, 0, none⟩) x7_1.length co32) y394 := (by rw [hw, Ny394.out]; exact HP33.1); clear HP33; have n0_ := Aside0.mk (Kd.R_over' (v := (.slice (some ⟨go28, 0, none⟩) x7_1.length co32)) (by (with_reducible repeat (first | apply Kd.R_alloc | apply Kd.R_drewN | apply Kd.R_drew)); exact HO_5.out) (Kd.R_typed HO_7.out) (by decide) hg); have n1_ := Aside0.mk (hp_); have n2_ := Aside0.mk ((by rw [hw]; exact below_set (HB.out) GB28.out : Below w.heap.size w w34)); clear HO_5; clear HO_7; clear HB; have HO_5 := n0_; have HO_7 := n1_; have HB := n2_; clear n0_ n1_ n2_; clear hg hw hp_; have p395 : 0 ≤ (((rd_T44 t378 x9_1).f1) : Int) := of_decide_eq_true (by first | (with_reducible assumption) | assumption); have q395 : ((rd_T44 t378 x9_1).f1) < (y394.length : Int) := (by have h_ : (((rd_T44 t378 x9_1).f1) : Int) < ((x7_1.length : Int) : Int) := of_decide_eq_true (by first | (with_reducible assumption) | assumption); first | (have e_ := (Kd.R_reads' HO_7.out).1; omega) | simpa only [Ny394.out, List.length_set] using h_); have ql395 : ((((rd_T44 t378 x9_1).f1) : Int) < ((x7_1.length : Int) : Int)) = True := eq_true (of_decide_eq_true (by first | (with_reducible assumption) | assumption)); obtain ⟨ad395, e395, hx395_0⟩ := Kd.at_int (Kd.R_reads' HO_7.out).2.2 ((rd_T44 t378 x9_1).f1) p395 q395; obtain rfl : (⟨go28, 0, none⟩ : Addr) = ad395 := (by injection e395); (first | simp only [add_plain] at hx395_0 | simp only [add_at] at hx395_0 | simp only [Addr.add, Nat.zero_add] at hx395_0 | skip); replace p395 := eq_true p395; replace q395 := eq_true q395; have p30 : 0 ≤ (((rd_T44 t378 x9_1).f1) : Int) := of_decide_eq_true (by first | (with_reducible assumption) | assumption); have q30 : (((rd_T44 t378 x9_1).f1) : Int) < ((x7_1.length : Int) : Int) := of_decide_eq_true (by first | (with_reducible assumption) | assumption); obtain ⟨hx30_0, hf30_0⟩ := Kd.R_celln 0 HO_7.out (((rd_T44 t378 x9_1).f1) : Int) p30 q30; replace p30 := eq_true p30; replace q30 := eq_true q30; obtain ⟨hy35_, hz35_⟩ := Kd.R_celln 0 HO_7.out (((rd_T44 t378 x9_1).f1) : Int) (of_decide_eq_true (by first | (with_reducible assumption) | assumption)) (of_decide_eq_true (by first | (with_reducible assumption) | assumption)); have HP35 := Kd.R_putg HO_7.out (((rd_T44 t378 x9_1).f1) : Int) (wrap64 ((rd y394 ((rd_T44 t378 x9_1).f1)) - ((rd_T44 t378 x9_1).f2)))) | ((with_reducible refine gate_store (t := 3) (p := 101) rfl ?_); (try (rw [drewN_self w34]; generalize hq_ : World.drewN w34 _ = w34; have n0_ := Aside0.mk (Kd.R_at hq_ HO_5.out); have n1_ := Aside0.mk (Kd.R_at hq_ HO_7.out); have n2_ := Aside0.mk (below_at hq_ HB.out); clear hq_ HO_5 HO_7 HB; have HO_5 := n0_; have HO_7 := n1_; have HB := n2_; clear n0_ n1_ n2_; (try (obtain ⟨hy35_, hz35_⟩ := Kd.R_celln 0 HO_7.out (((rd_T44 t378 x9_1).f1) : Int) (of_decide_eq_true (by first | (with_reducible assumption) | assumption)) (of_decide_eq_true (by first | (with_reducible assumption) | assumption)))); (try (have HP35 := Kd.R_putg HO_7.out (((rd_T44 t378 x9_1).f1) : Int) (wrap64 ((rd y394 ((rd_T44 t378 x9_1).f1)) - ((rd_T44 t378 x9_1).f2))))))); refine store_event (t := 3) (p := 101) (v := ?vo_w36) (w1 := (w34.setCell ⟨go28, (((rd_T44 t378 x9_1).f1) : Int).toNat, none⟩ (.int .i64 (wrap64 ((rd y394 ((rd_T44 t378 x9_1).f1)) - ((rd_T44 t378 x9_1).f2)))))) ?hg ?ho ?hn ?hr ?_; (case ho => rfl); (case hg => rfl); (case hn => rfl); (case hr => first | (go_simp; done) | (go_simp; rfl)); intro w36 hw; have hg : w34.grownBy w36 (some go28) := (by rw [hw]; exact HP35.2); have hp_ : Kd.R (Kd.int .i64) 3 w36 w.heap.size (fun _ => True) (.slice (some ⟨go28, 0, none⟩) x7_1.length co32) y396 := (by rw [hw, Ny396.out]; exact HP35.1); clear HP35; have n0_ := Aside0.mk (Kd.R_over' (v := (.slice (some ⟨go28, 0, none⟩) x7_1.length co32)) (by (with_reducible repeat (first | apply Kd.R_alloc | apply Kd.R_drewN | apply Kd.R_drew)); exact HO_5.out) (Kd.R_typed HO_7.out) (by decide) hg); have n1_ := Aside0.mk (hp_); have n2_ := Aside0.mk ((by rw [hw]; exact below_set (HB.out) GB28.out : Below w.heap.size w w36)); clear HO_5; clear HO_7; clear HB; have HO_5 := n0_; have HO_7 := n1_; have HB := n2_; clear n0_ n1_ n2_; clear hg hw hp_)))
                                            go_roundg k1
                                            case measure => have := HK1.out; omega
                                            case rel => exact ⟨(y396), (wrap64 (x8_1 + ((rd_T44 t378 x9_1).f2))), (wrap64 (x9_1 + 1)), (by first | rfl | (simp; done) | (simp [*]; done)), (by first | rfl | (simp; done) | (simp [*]; done)), H', ⟨by have := HK1.out; omega⟩, ⟨by (with_reducible repeat (first | apply Kd.R_alloc | apply Kd.R_drewN | apply Kd.R_drew)); exact HO_5.out⟩, ⟨by (with_reducible repeat (first | apply Kd.R_alloc | apply Kd.R_drewN | apply Kd.R_drew)); exact HO_7.out⟩, ⟨by repeat (first | (with_reducible first | exact HB.out | apply below_alloc | apply pw_below_drewN | apply below_drew1) | exact HB.out)⟩⟩
                                          · rw [if_neg c29] at H
                                            exact absurd H (by simp)
                                        · rw [if_neg c27] at H
                                          exact absurd H (by simp)
                                    · rw [if_neg c25] at H
                                      exact absurd H (by simp)
                                  · rw [if_neg c24] at H
                                    exact absurd H (by simp)
                              · rw [if_neg c22] at H
                                exact absurd H (by simp)
                            · rw [if_neg c21] at H
                              exact absurd H (by simp)
                · rw [if_neg c15] at H
                  exact absurd H (by simp)
              · rw [if_neg c14] at H
                have c14b0 : decide (x9_1 < (t378.length : Int)) = false := decide_eq_false c14
                clear c14
                have H' := Aside0.mk H
                clear H
                obtain ⟨Ao37, co37, eo37⟩ := Kd.R_slice HO_5.out
                subst eo37
                go_wp2
                repeat (go_quiet (fail); try go_wp2)
                go_loopg [3, 13, 14] k1 (fun kq v3 v13 v14 w' => ∃ (x3_2 : Bool) (x13_2 : Int) (x14_2 : Int), v3 = .bool x3_2 ∧ v13 = .int .i64 x13_2 ∧ v14 = .int .i64 x14_2 ∧ Aside0 (chargeparklaw42_SettlePayments.l1 kq l0 x3_2 t378 t379 x7_1 x8_1 x13_2 x14_2 = some r) ∧ Aside0 (kq ≤ k1) ∧ Aside0 (Kd.R k44 44 w' w.heap.size (fun _ => True) (.slice Ao37 t378.length co37) t378) ∧ Aside0 (Kd.R (Kd.int .i64) 3 w' w.heap.size (fun _ => True) v386 x7_1) ∧ Aside0 (Below w.heap.size w w'))
                case atStart => exact ⟨(t376), (0), (0), (by first | rfl | (simp; done) | (simp [*]; done)), (by first | rfl | (simp; done) | (simp [*]; done)), (by first | rfl | (simp; done) | (simp [*]; done)), H', ⟨Nat.le_refl _⟩, ⟨by (with_reducible repeat (first | apply Kd.R_alloc | apply Kd.R_drewN | apply Kd.R_drew)); exact HO_5.out⟩, ⟨by (with_reducible repeat (first | apply Kd.R_alloc | apply Kd.R_drewN | apply Kd.R_drew)); exact HO_7.out⟩, ⟨by repeat (first | (with_reducible first | exact HB.out | apply below_alloc | apply pw_below_drewN | apply below_drew1) | exact HB.out)⟩⟩
                case round =>
                  clear H'
                  try clear c1
                  try clear c2
                  try clear p2
                  try clear q2
                  try clear hx2
                  try clear hf2
                  try clear p3
                  try clear q3
                  try clear hx3
                  try clear hf3
                  try clear c4
                  try clear c6
                  try clear c6b0
                  try clear c6b1
                  try clear p6
                  try clear c7
                  try clear c7b0
                  try clear c7b1
                  try clear c8
                  try clear c14
                  try clear c14b0
                  try clear c15
                  try clear c15b0
                  try clear c16
                  try clear c16b0
                  try clear c17
                  try clear c17b0
                  try clear c18
                  try clear c18b0
                  try clear c19
                  try clear c19b0
                  try clear c20
                  try clear c20b0
                  try clear c21
                  try clear c21b0
                  try clear c22
                  try clear c22b0
                  try clear c23
                  try clear c23b0
                  try clear c24
                  try clear c24b0
                  try clear c25
                  try clear c25b0
                  try clear c26
                  try clear c26b0
                  try clear c27
                  try clear c27b0
                  try clear p28
                  try clear q28
                  try clear hx28
                  try clear hf28
                  try clear c29
                  try clear c29b0
                  try clear p30
                  try clear q30
                  try clear hx30
                  try clear hf30
                  try clear hx28_0
                  try clear hx30_0
                  try clear hx388_0
                  try clear hx388_1
                  try clear hx388_2
                  try clear hx389_0
                  try clear hx389_1
                  try clear hx389_2
                  try clear hx390_0
                  try clear hx390_1
                  try clear hx390_2
                  try clear hx391_0
                  try clear hx392_0
                  try clear hx393_0
                  try clear hx395_0
                  try clear p2
                  try clear p28
                  try clear p30
                  try clear p388
                  try clear p389
                  try clear p390
                  try clear p391
                  try clear p392
                  try clear p393
                  try clear p395
                  try clear q28
                  try clear q30
                  try clear q388
                  try clear q389
                  try clear q390
                  try clear q391
                  try clear q392
                  try clear q393
                  try clear q395
                  obtain ⟨x3_2, x13_2, x14_2, rfl, rfl, rfl, HA, HK2, HO_5, HO_7, HB⟩ := hrel
                  cases gk with
                  | zero => exact absurd HA.out (by simp [chargeparklaw42_SettlePayments.l1])
                  | succ k2 =>
                    have H := HA.out
                    clear HA
                    simp only [chargeparklaw42_SettlePayments.l1] at H
                    by_cases c38 : x14_2 < (l0.length : Int)
                    · rw [if_pos c38] at H
                      have c38b0 : decide (x14_2 < (l0.length : Int)) = true := decide_eq_true c38
                      clear c38
                      by_cases c39 : x3_2 = true
                      · subst c39
                        have H1 : (if 0 ≤ x14_2 then (if x14_2 < (x7_1.length : Int) then (chargeparklaw42_SettlePayments.l1 k2 l0 ((rd x7_1 x14_2) == 0) t378 t379 x7_1 x8_1 (wrap64 (x13_2 + (mx 0 (wrap64 (-(rd l0 x14_2)))))) (wrap64 (x14_2 + 1))) else (none)) else (none)) = some r := by rw [if_pos rfl] at H; exact H
                        clear H
                        have H := H1
                        clear H1
                        by_cases c40 : 0 ≤ x14_2
                        · rw [if_pos c40] at H
                          have c40b0 : decide (0 ≤ x14_2) = true := decide_eq_true c40
                          clear c40
                          by_cases c41 : x14_2 < (x7_1.length : Int)
                          · rw [if_pos c41] at H
                            have c41b0 : decide (x14_2 < (x7_1.length : Int)) = true := decide_eq_true c41
                            clear c41
                            obtain ⟨ji42, hji42⟩ : ∃ j_ : Int, (mx 0 (wrap64 (-(rd l0 x14_2)))) = j_ := ⟨_, rfl⟩
                            replace H : (chargeparklaw42_SettlePayments.l1 k2 l0 ((rd x7_1 x14_2) == 0) t378 t379 x7_1 x8_1 (wrap64 (x13_2 + (ji42))) (wrap64 (x14_2 + 1))) = some r := by first | (rw [hji42] at H; exact H) | (simp only [hji42] at H ⊢; exact H)
                            have hji42_ : (if 0 < (wrap64 (-(rd l0 x14_2))) then (wrap64 (-(rd l0 x14_2))) else 0) = ji42 := hji42
                            have H' := Aside0.mk H
                            clear H
                            obtain ⟨Ao43, co43, eo43⟩ := Kd.R_slice HO_7.out
                            subst eo43
                            have p397 : 0 ≤ (x14_2 : Int) := of_decide_eq_true (by first | (with_reducible assumption) | assumption)
                            have q397 : x14_2 < (x7_1.length : Int) := of_decide_eq_true (by first | (with_reducible assumption) | assumption)
                            obtain ⟨ad397, e397, hx397_0⟩ := Kd.at_int (Kd.R_reads' HO_7.out).2.2 x14_2 p397 q397
                            cases e397
                            replace p397 := eq_true p397
                            replace q397 := eq_true q397
                            have p398 : 0 ≤ (x14_2 : Int) := of_decide_eq_true (by first | (with_reducible assumption) | assumption)
                            have q398 : x14_2 < (l0.length : Int) := of_decide_eq_true (by first | (with_reducible assumption) | assumption)
                            obtain ⟨ad398, e398, hx398_0⟩ := Kd.at_int HR0.out x14_2 p398 q398
                            cases e398
                            replace hx398_0 := (HB.out.cell (World.block_lt_of_cell? w _ hx398_0)).trans hx398_0
                            replace p398 := eq_true p398
                            replace q398 := eq_true q398
                            go_wp2
                            repeat (go_quiet (fail); try go_wp2)
                            go_roundg k2
                            case measure => have := HK1.out; have := HK2.out; omega
                            case rel => exact ⟨(((rd x7_1 x14_2) == 0)), (wrap64 (x13_2 + (ji42))), (wrap64 (x14_2 + 1)), (by first | rfl | (simp; done) | (simp [*]; done)), (by first | rfl | (simp; done) | (simp only [← hji42] <;> (first | rfl | simp)) | (simp [*]; done)), (by first | rfl | (simp; done) | (simp [*]; done)), H', ⟨by have := HK1.out; have := HK2.out; omega⟩, ⟨by (with_reducible repeat (first | apply Kd.R_alloc | apply Kd.R_drewN | apply Kd.R_drew)); exact HO_5.out⟩, ⟨by (with_reducible repeat (first | apply Kd.R_alloc | apply Kd.R_drewN | apply Kd.R_drew)); exact HO_7.out⟩, ⟨by repeat (first | (with_reducible first | exact HB.out | apply below_alloc | apply pw_below_drewN | apply below_drew1) | exact HB.out)⟩⟩
                          · rw [if_neg c41] at H
                            exact absurd H (by simp)
                        · rw [if_neg c40] at H
                          exact absurd H (by simp)
                      · replace c39 := Bool.eq_false_iff.mpr c39
                        subst c39
                        have H1 : (if 0 ≤ x14_2 then (chargeparklaw42_SettlePayments.l1 k2 l0 false t378 t379 x7_1 x8_1 (wrap64 (x13_2 + (mx 0 (wrap64 (-(rd l0 x14_2)))))) (wrap64 (x14_2 + 1))) else (none)) = some r := by rw [if_neg (show ¬ (false = true) by decide)] at H; exact H
                        clear H
                        have H := H1
                        clear H1
                        by_cases c44 : 0 ≤ x14_2
                        · rw [if_pos c44] at H
                          have c44b0 : decide (0 ≤ x14_2) = true := decide_eq_true c44
                          clear c44
                          obtain ⟨ji45, hji45⟩ : ∃ j_ : Int, (mx 0 (wrap64 (-(rd l0 x14_2)))) = j_ := ⟨_, rfl⟩
                          replace H : (chargeparklaw42_SettlePayments.l1 k2 l0 false t378 t379 x7_1 x8_1 (wrap64 (x13_2 + (ji45))) (wrap64 (x14_2 + 1))) = some r := by first | (rw [hji45] at H; exact H) | (simp only [hji45] at H ⊢; exact H)
                          have hji45_ : (if 0 < (wrap64 (-(rd l0 x14_2))) then (wrap64 (-(rd l0 x14_2))) else 0) = ji45 := hji45
                          have H' := Aside0.mk H
                          clear H
                          have p399 : 0 ≤ (x14_2 : Int) := of_decide_eq_true (by first | (with_reducible assumption) | assumption)
                          have q399 : x14_2 < (l0.length : Int) := of_decide_eq_true (by first | (with_reducible assumption) | assumption)
                          obtain ⟨ad399, e399, hx399_0⟩ := Kd.at_int HR0.out x14_2 p399 q399
                          cases e399
                          replace hx399_0 := (HB.out.cell (World.block_lt_of_cell? w _ hx399_0)).trans hx399_0
                          replace p399 := eq_true p399
                          replace q399 := eq_true q399
                          go_wp2
                          repeat (go_quiet (fail); try go_wp2)
                          go_roundg k2
                          case measure => have := HK1.out; have := HK2.out; omega
                          case rel => exact ⟨(false), (wrap64 (x13_2 + (ji45))), (wrap64 (x14_2 + 1)), (by first | rfl | (simp; done) | (simp [*]; done)), (by first | rfl | (simp; done) | (simp only [← hji45] <;> (first | rfl | simp)) | (simp [*]; done)), (by first | rfl | (simp; done) | (simp [*]; done)), H', ⟨by have := HK1.out; have := HK2.out; omega⟩, ⟨by (with_reducible repeat (first | apply Kd.R_alloc | apply Kd.R_drewN | apply Kd.R_drew)); exact HO_5.out⟩, ⟨by (with_reducible repeat (first | apply Kd.R_alloc | apply Kd.R_drewN | apply Kd.R_drew)); exact HO_7.out⟩, ⟨by repeat (first | (with_reducible first | exact HB.out | apply below_alloc | apply pw_below_drewN | apply below_drew1) | exact HB.out)⟩⟩
                        · rw [if_neg c44] at H
                          exact absurd H (by simp)
                    · rw [if_neg c38] at H
                      have c38b0 : decide (x14_2 < (l0.length : Int)) = false := decide_eq_false c38
                      clear c38
                      by_cases c46 : x3_2 = true
                      · subst c46
                        have H1 : (if t379 = 0 then (if (t378.length : Int) < (l0.length : Int) then (some (x8_1 == x13_2)) else (none)) else (none)) = some r := by rw [if_pos rfl] at H; exact H
                        clear H
                        have H := H1
                        clear H1
                        by_cases c47 : t379 = 0
                        · rw [if_pos c47] at H
                          have c47b0 : (t379 == 0) = true := beq_iff_eq.mpr c47
                          have c47b1 : (t379 != 0) = false := bne_eq_false_iff_eq.mpr c47
                          clear c47
                          by_cases c48 : (t378.length : Int) < (l0.length : Int)
                          · rw [if_pos c48] at H
                            have c48b0 : decide ((t378.length : Int) < (l0.length : Int)) = true := decide_eq_true c48
                            have c48b1 : decide (t378.length < l0.length) = true := decide_eq_true (Int.ofNat_lt.mp c48)
                            clear c48
                            obtain rfl := Option.some.inj H
                            go_wp2
                            repeat (go_quiet (fail); try go_wp2)
                            go_ret
                            exact ⟨by first | rfl | (simp [errW_none, errW_some] <;> rfl) | (simp [*, errW_none, errW_some] <;> rfl), by repeat (first | (with_reducible first | exact HB.out | apply below_alloc | apply pw_below_drewN | apply below_drew1) | exact HB.out)⟩
                          · rw [if_neg c48] at H
                            exact absurd H (by simp)
                        · rw [if_neg c47] at H
                          exact absurd H (by simp)
                      · replace c46 := Bool.eq_false_iff.mpr c46
                        subst c46
                        have H1 : (none) = some r := by rw [if_neg (show ¬ (false = true) by decide)] at H; exact H
                        clear H
                        have H := H1
                        clear H1
                        exact absurd H (by simp)
        · rw [if_neg c8] at H
          exact absurd H (by simp)
      · rw [if_neg c7] at H
        exact absurd H (by simp)
    · rw [if_neg c6] at H
      exact absurd H (by simp)
  · replace c4 := Bool.eq_false_iff.mpr c4
    subst c4
    have H1 : (some t376) = some r := by rw [if_neg (show ¬ (false = true) by decide)] at H; exact H
    clear H
    have H := H1
    clear H1
    obtain rfl := Option.some.inj H
    go_enter Try.func6, Try.ntmps6
    go_wp2_with (first | (go_at_call 9; (with_reducible refine (chargeparklaw42_head.calls k  t376 _ A2.out).mono ?_); rintro e w49 ⟨rfl, hb⟩; have n0_ := Aside0.mk (below_step (by repeat (first | (with_reducible first | exact HB.out | apply below_alloc | apply pw_below_drewN | apply below_drew1) | exact HB.out)) hb); clear HB; have HB := n0_; clear n0_; (try clear hb); (try clear hb2); (try clear hk); (try clear hi)) | (go_at_call 18; (with_reducible refine (chargeparkref42_Balances.calls k _ _ l0 false _ ?side1 ?side2 A3.out).mono ?_); (case side1 => repeat (first | exact (Kd.C_below HR0.out HB.out) | (with_reducible refine Kd.C_alloc ?_ _) | (with_reducible refine Kd.C_drewN ?_ _) | (with_reducible refine Kd.C_drew ?_))); (case side2 => exact HC0.out); rintro e w' ⟨rfl, ⟨nd, rfl⟩⟩; (try first | exact ⟨rfl, _, World.drewN_drewN _ _ _⟩ | exact ⟨rfl, _, Eq.trans (World.drewN_drewN _ _ _) (congrArg (World.drewN _) (Nat.add_assoc _ _ _))⟩)))
    repeat (go_quiet (first | (go_at_call 9; (with_reducible refine (chargeparklaw42_head.calls k  t376 _ A2.out).mono ?_); rintro e w49 ⟨rfl, hb⟩; have n0_ := Aside0.mk (below_step (by repeat (first | (with_reducible first | exact HB.out | apply below_alloc | apply pw_below_drewN | apply below_drew1) | exact HB.out)) hb); clear HB; have HB := n0_; clear n0_; (try clear hb); (try clear hb2); (try clear hk); (try clear hi)) | (go_at_call 18; (with_reducible refine (chargeparkref42_Balances.calls k _ _ l0 false _ ?side1 ?side2 A3.out).mono ?_); (case side1 => repeat (first | exact (Kd.C_below HR0.out HB.out) | (with_reducible refine Kd.C_alloc ?_ _) | (with_reducible refine Kd.C_drewN ?_ _) | (with_reducible refine Kd.C_drew ?_))); (case side2 => exact HC0.out); rintro e w' ⟨rfl, ⟨nd, rfl⟩⟩; (try first | exact ⟨rfl, _, World.drewN_drewN _ _ _⟩ | exact ⟨rfl, _, Eq.trans (World.drewN_drewN _ _ _) (congrArg (World.drewN _) (Nat.add_assoc _ _ _))⟩))); try go_wp2_with (first | (go_at_call 9; (with_reducible refine (chargeparklaw42_head.calls k  t376 _ A2.out).mono ?_); rintro e w49 ⟨rfl, hb⟩; have n0_ := Aside0.mk (below_step (by repeat (first | (with_reducible first | exact HB.out | apply below_alloc | apply pw_below_drewN | apply below_drew1) | exact HB.out)) hb); clear HB; have HB := n0_; clear n0_; (try clear hb); (try clear hb2); (try clear hk); (try clear hi)) | (go_at_call 18; (with_reducible refine (chargeparkref42_Balances.calls k _ _ l0 false _ ?side1 ?side2 A3.out).mono ?_); (case side1 => repeat (first | exact (Kd.C_below HR0.out HB.out) | (with_reducible refine Kd.C_alloc ?_ _) | (with_reducible refine Kd.C_drewN ?_ _) | (with_reducible refine Kd.C_drew ?_))); (case side2 => exact HC0.out); rintro e w' ⟨rfl, ⟨nd, rfl⟩⟩; (try first | exact ⟨rfl, _, World.drewN_drewN _ _ _⟩ | exact ⟨rfl, _, Eq.trans (World.drewN_drewN _ _ _) (congrArg (World.drewN _) (Nat.add_assoc _ _ _))⟩))))
    go_ret
    exact ⟨by first | rfl | (simp [errW_none, errW_some] <;> rfl) | (simp [*, errW_none, errW_some] <;> rfl), by repeat (first | (with_reducible first | exact HB.out | apply below_alloc | apply pw_below_drewN | apply below_drew1) | exact HB.out)⟩

/-- THE ONE PURE STATEMENT of chargeparklaw42_SettlePayments: yours. -/
def chargeparklaw42_SettlePayments.Pure : Prop := ∀ (l0 : List Int), l0.length ≤ maxLen → l0.length * 8 ≤ 140737488351232 → (∀ x ∈ l0, (Lit.int .i64 x).wf = true) → ∃ k, chargeparklaw42_SettlePayments.f k l0 = some true
theorem chargeparklaw42_SettlePayments.walk (P : chargeparklaw42_SettlePayments.Pure) (a0 : Option Addr) (len0 cap0 : Nat) (z0 : List Int) (w : World) (w0 : (a0 = none ∧ len0 = 0 ∧ cap0 = 0 ∧ z0 = []) ∨ ∃ x, a0 = some x ∧ len0 ≤ cap0 ∧ cap0 ≤ maxLen ∧ z0.length = cap0 ∧ (∀ i, i < z0.length → w.cell? (x.add i) = some (.int .i64 (z0.getD i 0))) ∧ ∀ n ∈ z0, (Lit.int .i64 n).wf = true) (y0 : len0 * 8 ≤ 140737488351232) :
    Calls Try.prog 6 #[.slice a0 len0 cap0] w fun e w' => e = .returned (.bool true) ∧ Below w.heap.size w w' := by
  obtain ⟨l0, rfl, hr0, hm0, hw0, hc0⟩ := ReadsInt.ofRowC w0
  obtain ⟨k, h⟩ := P l0 hm0 y0 hw0
  refine (chargeparklaw42_SettlePayments.calls k _ _ l0 true w (Kd.C_of_reads (d := (0 : Int)) (h1 := fun _ => rfl) hr0) hc0 h).mono ?_
  rintro e w' ⟨rfl, hd⟩
  exact ⟨rfl, hd⟩


end Go.Proofs.Ytanaaphabeonoaa.PAll
