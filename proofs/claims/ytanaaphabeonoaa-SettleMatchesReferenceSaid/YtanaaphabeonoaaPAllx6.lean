-- Written by a program of this session (xprint.py, over the kit's print.py), with contracts proved by hand.
import Derived.Test.YtanaaphabeonoaaPAllx0
import Derived.Test.YtanaaphabeonoaaPAllx5
namespace Go.Proofs.Ytanaaphabeonoaa.PAll
open Go.RowKit Go.Proofs.Ytanaaphabeonoaa.Open Go.Proofs.YtanaaphabeonoaaW.PrintWords Go.Proofs.YtanaaphabeonoaaW.PrintLast Go.Proofs.YtanaaphabeonoaaW.PrintMore
attribute [local go_sem] max2_int min2_int max_two min_two max_three min_three max_four min_four   -- for this text's walks alone
set_option linter.unusedVariables false
set_option linter.unusedSimpArgs false

/-! ### chargeparkref42_Payments: function 13 -/
mutual
def chargeparkref42_Payments.l0 : Nat → List Int → List (S44) → Option ((List (S44)) × Int)
  | 0, _, _ => none
  | k + 1, x5, x6 => if (x6.length : Int) < 8 then (chargeparkref42_Payments.l1 k x5 x6 0 0 1) else (some (x6, 0))
def chargeparkref42_Payments.l1 : Nat → List Int → List (S44) → Int → Int → Int → Option ((List (S44)) × Int)
  | 0, _, _, _, _, _ => none
  | k + 1, x5, x6, x7, x8, x9 => if x9 < (x5.length : Int) then (if 0 ≤ x9 then (if 0 ≤ x7 then (if x7 < (x5.length : Int) then (if (rd x5 x9) < (rd x5 x7) then (if 0 ≤ x8 then (if x8 < (x5.length : Int) then (if (rd x5 x9) > (rd x5 x8) then (chargeparkref42_Payments.l1 k x5 x6 x9 x9 (wrap64 (x9 + 1))) else (chargeparkref42_Payments.l1 k x5 x6 x9 x8 (wrap64 (x9 + 1)))) else (none)) else (none)) else (if 0 ≤ x8 then (if x8 < (x5.length : Int) then (if (rd x5 x9) > (rd x5 x8) then (chargeparkref42_Payments.l1 k x5 x6 x7 x9 (wrap64 (x9 + 1))) else (chargeparkref42_Payments.l1 k x5 x6 x7 x8 (wrap64 (x9 + 1)))) else (none)) else (none))) else (none)) else (none)) else (none)) else (if 0 ≤ x8 then (if x8 < (x5.length : Int) then (if (rd x5 x8) = 0 then (some (x6, 0)) else (if 0 ≤ x7 then (if x7 < (x5.length : Int) then (if (wrap64 (-(rd x5 x7))) < (rd x5 x8) then ((some (x5.set (x7 : Int).toNat (wrap64 ((rd x5 x7) + (wrap64 (-(rd x5 x7))))) : List Int)).bind fun y273 => (if x6.length < 5864062014805 then (chargeparkref42_Payments.l0 k (y273.set (x8 : Int).toNat (wrap64 ((rd y273 x8) - (wrap64 (-(rd x5 x7)))))) (x6 ++ [(⟨x7, x8, wrap64 (-(rd x5 x7))⟩ : S44)])) else (none))) else ((some (x5.set (x7 : Int).toNat (wrap64 ((rd x5 x7) + (rd x5 x8))) : List Int)).bind fun y280 => (if x6.length < 5864062014805 then (chargeparkref42_Payments.l0 k (y280.set (x8 : Int).toNat (wrap64 ((rd y280 x8) - (rd x5 x8)))) (x6 ++ [(⟨x7, x8, rd x5 x8⟩ : S44)])) else (none)))) else (none)) else (none))) else (none)) else (none))
end
def chargeparkref42_Payments.f (k : Nat) (l0 : List Int) : Option ((List (S44)) × Int) := (chargeparkref42_Balances.f k l0).bind fun t258 => (if t258 = true then (if ([] : List Int).length + l0.length < 17592186044416 then (chargeparkref42_Payments.l0 k (([] : List Int) ++ l0) ([] : List (S44))) else (none)) else (some (([] : List (S44)), 1)))
theorem chargeparkref42_Payments.mono_l : ∀ k, (∀ y0 y1, LeO (chargeparkref42_Payments.l0 k y0 y1) (chargeparkref42_Payments.l0 (k + 1) y0 y1)) ∧ (∀ y0 y1 y2 y3 y4, LeO (chargeparkref42_Payments.l1 k y0 y1 y2 y3 y4) (chargeparkref42_Payments.l1 (k + 1) y0 y1 y2 y3 y4))
  | 0 => ⟨fun _ _ r h => by simp [chargeparkref42_Payments.l0] at h, fun _ _ _ _ _ r h => by simp [chargeparkref42_Payments.l1] at h⟩
  | k + 1 => by
    obtain ⟨ih0, ih1⟩ := chargeparkref42_Payments.mono_l k
    refine ⟨?_, ?_⟩
    · intro y0 y1
      unfold chargeparkref42_Payments.l0
      repeat' first
      | (with_reducible exact ih0 _ _)
      | (with_reducible exact ih1 _ _ _ _ _)
      | (with_reducible exact chargeparkref42_Balances.mono _ _)
      | (with_reducible exact LeO.refl _)
      | (with_reducible exact LeO.none _)
      | (with_reducible refine LeO.ite ?_ ?_)
      | (with_reducible refine LeO.bind ?_ (fun _ => ?_))
      | exact ih0 _ _
      | exact ih1 _ _ _ _ _
      | exact chargeparkref42_Balances.mono _ _
      | exact LeO.none _
      | refine LeO.ite ?_ ?_
      | refine LeO.bind ?_ (fun _ => ?_)
    · intro y0 y1 y2 y3 y4
      unfold chargeparkref42_Payments.l1
      repeat' first
      | (with_reducible exact ih0 _ _)
      | (with_reducible exact ih1 _ _ _ _ _)
      | (with_reducible exact chargeparkref42_Balances.mono _ _)
      | (with_reducible exact LeO.refl _)
      | (with_reducible exact LeO.none _)
      | (with_reducible refine LeO.ite ?_ ?_)
      | (with_reducible refine LeO.bind ?_ (fun _ => ?_))
      | exact ih0 _ _
      | exact ih1 _ _ _ _ _
      | exact chargeparkref42_Balances.mono _ _
      | exact LeO.none _
      | refine LeO.ite ?_ ?_
      | refine LeO.bind ?_ (fun _ => ?_)
theorem chargeparkref42_Payments.mono : ∀ a0 k, LeO (chargeparkref42_Payments.f k a0) (chargeparkref42_Payments.f (k + 1) a0) := by
  intro a0 k
  obtain ⟨ih0, ih1⟩ := chargeparkref42_Payments.mono_l k
  unfold chargeparkref42_Payments.f
  repeat' first
      | (with_reducible exact ih0 _ _)
      | (with_reducible exact ih1 _ _ _ _ _)
      | (with_reducible exact chargeparkref42_Balances.mono _ _)
      | (with_reducible exact LeO.refl _)
      | (with_reducible exact LeO.none _)
      | (with_reducible refine LeO.ite ?_ ?_)
      | (with_reducible refine LeO.bind ?_ (fun _ => ?_))
      | exact ih0 _ _
      | exact ih1 _ _ _ _ _
      | exact chargeparkref42_Balances.mono _ _
      | exact LeO.none _
      | refine LeO.ite ?_ ?_
      | refine LeO.bind ?_ (fun _ => ?_)
set_option maxHeartbeats 8000000 in
set_option maxRecDepth 100000 in
theorem chargeparkref42_Payments.calls (k : Nat) (A0 : Option Addr) (c0 : Nat) (l0 : List Int) (r1 : List (S44)) (r2 : Int) (w : World) (hr0 : Kd.C (Kd.int .i64) w A0 l0.length l0) (hc0 : l0.length ≤ c0) (h : chargeparkref42_Payments.f k l0 = some (r1, r2)) :
    Calls Try.prog 13 #[.slice A0 l0.length c0] w fun e w' => ∃ v0_ : Value, e = .returned (.tuple #[v0_, .int .i64 r2]) ∧ Kd.R k44 44 w' w.heap.size (fun _ => True) v0_ r1 ∧ Below w.heap.size w w' := by
  have hu44 := Try.underlying44
  have HR0 := Aside0.mk hr0
  have HC0 := Aside0.mk hc0
  clear hr0 hc0
  have HB := Aside0.mk (Below.refl w.heap.size w)
  have H : ((chargeparkref42_Balances.f k l0).bind fun t258 => (if t258 = true then (if ([] : List Int).length + l0.length < 17592186044416 then (chargeparkref42_Payments.l0 k (([] : List Int) ++ l0) ([] : List (S44))) else (none)) else (some (([] : List (S44)), 1)))) = some (r1, r2) := h
  clear h
  replace H := Option.bind_eq_some_iff.mp H
  obtain ⟨t258, A20, H⟩ := H
  replace H : (if t258 = true then (if ([] : List Int).length + l0.length < 17592186044416 then (chargeparkref42_Payments.l0 k (([] : List Int) ++ l0) ([] : List (S44))) else (none)) else (some (([] : List (S44)), 1))) = some (r1, r2) := H
  have A2 := Aside0.mk A20
  clear A20
  by_cases c3 : t258 = true
  · subst c3
    have H1 : (if ([] : List Int).length + l0.length < 17592186044416 then (chargeparkref42_Payments.l0 k (([] : List Int) ++ l0) ([] : List (S44))) else (none)) = some (r1, r2) := by rw [if_pos rfl] at H; exact H
    clear H
    have H := H1
    clear H1
    by_cases c4 : ([] : List Int).length + l0.length < 17592186044416
    · rw [if_pos c4] at H
      have LMc4 := Aside0.mk c4
      clear c4
      obtain ⟨y259, hy259⟩ : ∃ y_ : List Int, y_ = (([] : List Int) ++ l0) := ⟨_, rfl⟩
      replace H : (chargeparkref42_Payments.l0 k y259 ([] : List (S44))) = some (r1, r2) := by first | (rw [hy259]; with_reducible exact H) | (have H2_ := (Option.bind_some _ _).symm.trans H; rw [hy259]; with_reducible exact H2_) | (have H2_ := (Option.bind_some _ _).symm.trans H; with_reducible exact H2_) | with_reducible exact H | (rw [hy259]; exact H) | exact H
      have Ny259 := Aside0.mk hy259
      clear hy259
      have H' := Aside0.mk H
      clear H
      go_enter Try.func13, Try.ntmps13
      go_wp2_with (first | (go_at_call 18; (with_reducible refine (chargeparkref42_Balances.calls k _ _ l0 true _ ?side1 ?side2 A2.out).mono ?_); (case side1 => repeat (first | exact HR0.out | (with_reducible refine Kd.C_alloc ?_ _) | (with_reducible refine Kd.C_drewN ?_ _) | (with_reducible refine Kd.C_drew ?_))); (case side2 => exact HC0.out); rintro e w' ⟨rfl, ⟨nd, rfl⟩⟩; (try first | exact ⟨rfl, _, World.drewN_drewN _ _ _⟩ | exact ⟨rfl, _, Eq.trans (World.drewN_drewN _ _ _) (congrArg (World.drewN _) (Nat.add_assoc _ _ _))⟩)) | ((with_reducible refine gate_builtin (b := .append) (xs := #[.tmp 15, .tmp 16]) rfl ?_); at_builtin; refine Kd.R_append_rows (Kd.int .i64) (w0 := w) w.heap.size rfl (.tmp 15) (.tmp 16) 23 3 (.int .i64 0) 8 rfl Try.underlying23 info3 rfl (by decide) (by omega) (.slice none 0 0) ([] : List Int) l0 _ _ _ (fun _ => True) (fun _ => False) rfl rfl ?aO ?aR (fun _ _ h => h) (fun _ h => h.elim) ?aF ?aB ?aS ?aL ?_; (case aR => repeat (first | exact HR0.out | (with_reducible refine Kd.C_alloc ?_ _) | (with_reducible refine Kd.C_drewN ?_ _) | (with_reducible refine Kd.C_drew ?_))); (case aB => exact (by repeat (first | (with_reducible first | exact HB.out | apply below_alloc | apply pw_below_drewN | apply below_drew1) | exact HB.out))); (case aF => exact (fun _ _ => trivial)); (case aO => exact ((Kd.R_nil _ _ _ _ (fun _ => True)))); (case aS => exact (below_size (by repeat (first | (with_reducible first | exact HB.out | apply below_alloc | apply pw_below_drewN | apply below_drew1) | exact HB.out)))); (case aL => have := LMc4.out; omega); intro v260 w5 ho hb hg hat; rw [← Ny259.out] at ho; have n0_ := Aside0.mk (hb); have n1_ := Aside0.mk (ho); clear HB; have HB := n0_; have HO261 := n1_; clear n0_ n1_; clear ho hb hg hat))
      repeat (go_quiet (first | (go_at_call 18; (with_reducible refine (chargeparkref42_Balances.calls k _ _ l0 true _ ?side1 ?side2 A2.out).mono ?_); (case side1 => repeat (first | exact HR0.out | (with_reducible refine Kd.C_alloc ?_ _) | (with_reducible refine Kd.C_drewN ?_ _) | (with_reducible refine Kd.C_drew ?_))); (case side2 => exact HC0.out); rintro e w' ⟨rfl, ⟨nd, rfl⟩⟩; (try first | exact ⟨rfl, _, World.drewN_drewN _ _ _⟩ | exact ⟨rfl, _, Eq.trans (World.drewN_drewN _ _ _) (congrArg (World.drewN _) (Nat.add_assoc _ _ _))⟩)) | ((with_reducible refine gate_builtin (b := .append) (xs := #[.tmp 15, .tmp 16]) rfl ?_); at_builtin; refine Kd.R_append_rows (Kd.int .i64) (w0 := w) w.heap.size rfl (.tmp 15) (.tmp 16) 23 3 (.int .i64 0) 8 rfl Try.underlying23 info3 rfl (by decide) (by omega) (.slice none 0 0) ([] : List Int) l0 _ _ _ (fun _ => True) (fun _ => False) rfl rfl ?aO ?aR (fun _ _ h => h) (fun _ h => h.elim) ?aF ?aB ?aS ?aL ?_; (case aR => repeat (first | exact HR0.out | (with_reducible refine Kd.C_alloc ?_ _) | (with_reducible refine Kd.C_drewN ?_ _) | (with_reducible refine Kd.C_drew ?_))); (case aB => exact (by repeat (first | (with_reducible first | exact HB.out | apply below_alloc | apply pw_below_drewN | apply below_drew1) | exact HB.out))); (case aF => exact (fun _ _ => trivial)); (case aO => exact ((Kd.R_nil _ _ _ _ (fun _ => True)))); (case aS => exact (below_size (by repeat (first | (with_reducible first | exact HB.out | apply below_alloc | apply pw_below_drewN | apply below_drew1) | exact HB.out)))); (case aL => have := LMc4.out; omega); intro v260 w5 ho hb hg hat; rw [← Ny259.out] at ho; have n0_ := Aside0.mk (hb); have n1_ := Aside0.mk (ho); clear HB; have HB := n0_; have HO261 := n1_; clear n0_ n1_; clear ho hb hg hat)); try go_wp2_with (first | (go_at_call 18; (with_reducible refine (chargeparkref42_Balances.calls k _ _ l0 true _ ?side1 ?side2 A2.out).mono ?_); (case side1 => repeat (first | exact HR0.out | (with_reducible refine Kd.C_alloc ?_ _) | (with_reducible refine Kd.C_drewN ?_ _) | (with_reducible refine Kd.C_drew ?_))); (case side2 => exact HC0.out); rintro e w' ⟨rfl, ⟨nd, rfl⟩⟩; (try first | exact ⟨rfl, _, World.drewN_drewN _ _ _⟩ | exact ⟨rfl, _, Eq.trans (World.drewN_drewN _ _ _) (congrArg (World.drewN _) (Nat.add_assoc _ _ _))⟩)) | ((with_reducible refine gate_builtin (b := .append) (xs := #[.tmp 15, .tmp 16]) rfl ?_); at_builtin; refine Kd.R_append_rows (Kd.int .i64) (w0 := w) w.heap.size rfl (.tmp 15) (.tmp 16) 23 3 (.int .i64 0) 8 rfl Try.underlying23 info3 rfl (by decide) (by omega) (.slice none 0 0) ([] : List Int) l0 _ _ _ (fun _ => True) (fun _ => False) rfl rfl ?aO ?aR (fun _ _ h => h) (fun _ h => h.elim) ?aF ?aB ?aS ?aL ?_; (case aR => repeat (first | exact HR0.out | (with_reducible refine Kd.C_alloc ?_ _) | (with_reducible refine Kd.C_drewN ?_ _) | (with_reducible refine Kd.C_drew ?_))); (case aB => exact (by repeat (first | (with_reducible first | exact HB.out | apply below_alloc | apply pw_below_drewN | apply below_drew1) | exact HB.out))); (case aF => exact (fun _ _ => trivial)); (case aO => exact ((Kd.R_nil _ _ _ _ (fun _ => True)))); (case aS => exact (below_size (by repeat (first | (with_reducible first | exact HB.out | apply below_alloc | apply pw_below_drewN | apply below_drew1) | exact HB.out)))); (case aL => have := LMc4.out; omega); intro v260 w5 ho hb hg hat; rw [← Ny259.out] at ho; have n0_ := Aside0.mk (hb); have n1_ := Aside0.mk (ho); clear HB; have HB := n0_; have HO261 := n1_; clear n0_ n1_; clear ho hb hg hat)))
      go_loopg [6] k (fun kq v6 w' => ∃ (x5_1 : List Int) (x6_1 : List (S44)), Aside0 (chargeparkref42_Payments.l0 kq x5_1 x6_1 = some (r1, r2)) ∧ Aside0 (kq ≤ k) ∧ Aside0 (Kd.R (Kd.int .i64) 3 w' w.heap.size (fun _ => True) v260 x5_1) ∧ Aside0 (Kd.R k44 44 w' w.heap.size (fun _ => True) v6 x6_1) ∧ Aside0 (Below w.heap.size w w'))
      case atStart => exact ⟨(y259), (([] : List (S44))), H', ⟨Nat.le_refl _⟩, ⟨by (with_reducible repeat (first | apply Kd.R_alloc | apply Kd.R_drewN | apply Kd.R_drew)); exact HO261.out⟩, ⟨by first | exact Kd.R_nil _ _ _ _ _ | exact Kd.N_nil _ _ _ _ _ | exact Kd.V_nil _ _ _ _ _ | exact Kd.Q_nil _ _ _ _ _ | exact Kd.S_nil _ _ _ _ _⟩, ⟨by repeat (first | (with_reducible first | exact HB.out | apply below_alloc | apply pw_below_drewN | apply below_drew1) | exact HB.out)⟩⟩
      case round =>
        clear H'
        try clear c1
        try clear p2
        try clear c3
        try clear c4
        obtain ⟨x5_1, x6_1, HA, HK1, HO_5, HO_6, HB⟩ := hrel
        cases gk with
        | zero => exact absurd HA.out (by simp [chargeparkref42_Payments.l0])
        | succ k1 =>
          have H := HA.out
          clear HA
          simp only [chargeparkref42_Payments.l0] at H
          by_cases c6 : (x6_1.length : Int) < 8
          · rw [if_pos c6] at H
            have c6b0 : decide ((x6_1.length : Int) < 8) = true := decide_eq_true c6
            have c6b1 : decide (x6_1.length < 8) = true := decide_eq_true (by omega)
            clear c6
            have H' := Aside0.mk H
            clear H
            obtain ⟨Ao7, co7, eo7⟩ := Kd.R_slice HO_6.out
            subst eo7
            go_wp2
            repeat (go_quiet (fail); try go_wp2)
            go_loopg [7, 8, 9] k1 (fun kq v7 v8 v9 w' => ∃ (x7_2 : Int) (x8_2 : Int) (x9_2 : Int), v7 = .int .i64 x7_2 ∧ v8 = .int .i64 x8_2 ∧ v9 = .int .i64 x9_2 ∧ Aside0 (chargeparkref42_Payments.l1 kq x5_1 x6_1 x7_2 x8_2 x9_2 = some (r1, r2)) ∧ Aside0 (kq ≤ k1) ∧ Aside0 (Kd.R (Kd.int .i64) 3 w' w.heap.size (fun _ => True) v260 x5_1) ∧ Aside0 (Kd.R k44 44 w' w.heap.size (fun _ => True) (.slice Ao7 x6_1.length co7) x6_1) ∧ Aside0 (Below w.heap.size w w'))
            case atStart => exact ⟨(0), (0), (1), (by first | rfl | (simp; done) | (simp [*]; done)), (by first | rfl | (simp; done) | (simp [*]; done)), (by first | rfl | (simp; done) | (simp [*]; done)), H', ⟨Nat.le_refl _⟩, ⟨by (with_reducible repeat (first | apply Kd.R_alloc | apply Kd.R_drewN | apply Kd.R_drew)); exact HO_5.out⟩, ⟨by (with_reducible repeat (first | apply Kd.R_alloc | apply Kd.R_drewN | apply Kd.R_drew)); exact HO_6.out⟩, ⟨by repeat (first | (with_reducible first | exact HB.out | apply below_alloc | apply pw_below_drewN | apply below_drew1) | exact HB.out)⟩⟩
            case round =>
              clear H'
              try clear c1
              try clear p2
              try clear c3
              try clear c4
              try clear c6
              try clear c6b0
              try clear c6b1
              try clear p2
              obtain ⟨x7_2, x8_2, x9_2, rfl, rfl, rfl, HA, HK2, HO_5, HO_6, HB⟩ := hrel
              cases gk with
              | zero => exact absurd HA.out (by simp [chargeparkref42_Payments.l1])
              | succ k2 =>
                have H := HA.out
                clear HA
                simp only [chargeparkref42_Payments.l1] at H
                by_cases c8 : x9_2 < (x5_1.length : Int)
                · rw [if_pos c8] at H
                  have c8b0 : decide (x9_2 < (x5_1.length : Int)) = true := decide_eq_true c8
                  clear c8
                  by_cases c9 : 0 ≤ x9_2
                  · rw [if_pos c9] at H
                    have c9b0 : decide (0 ≤ x9_2) = true := decide_eq_true c9
                    clear c9
                    by_cases c10 : 0 ≤ x7_2
                    · rw [if_pos c10] at H
                      have c10b0 : decide (0 ≤ x7_2) = true := decide_eq_true c10
                      clear c10
                      by_cases c11 : x7_2 < (x5_1.length : Int)
                      · rw [if_pos c11] at H
                        have c11b0 : decide (x7_2 < (x5_1.length : Int)) = true := decide_eq_true c11
                        clear c11
                        by_cases c12 : (rd x5_1 x9_2) < (rd x5_1 x7_2)
                        · rw [if_pos c12] at H
                          have c12b0 : decide ((rd x5_1 x9_2) < (rd x5_1 x7_2)) = true := decide_eq_true c12
                          clear c12
                          by_cases c13 : 0 ≤ x8_2
                          · rw [if_pos c13] at H
                            have c13b0 : decide (0 ≤ x8_2) = true := decide_eq_true c13
                            clear c13
                            by_cases c14 : x8_2 < (x5_1.length : Int)
                            · rw [if_pos c14] at H
                              have c14b0 : decide (x8_2 < (x5_1.length : Int)) = true := decide_eq_true c14
                              clear c14
                              by_cases c15 : (rd x5_1 x9_2) > (rd x5_1 x8_2)
                              · rw [if_pos c15] at H
                                have c15b0 : decide ((rd x5_1 x8_2) < (rd x5_1 x9_2)) = true := decide_eq_true c15
                                clear c15
                                have H' := Aside0.mk H
                                clear H
                                obtain ⟨Ao16, co16, eo16⟩ := Kd.R_slice HO_5.out
                                subst eo16
                                have p262 : 0 ≤ (x9_2 : Int) := of_decide_eq_true (by first | (with_reducible assumption) | assumption)
                                have q262 : x9_2 < (x5_1.length : Int) := of_decide_eq_true (by first | (with_reducible assumption) | assumption)
                                obtain ⟨ad262, e262, hx262_0⟩ := Kd.at_int (Kd.R_reads' HO_5.out).2.2 x9_2 p262 q262
                                cases e262
                                replace p262 := eq_true p262
                                replace q262 := eq_true q262
                                have p263 : 0 ≤ (x7_2 : Int) := of_decide_eq_true (by first | (with_reducible assumption) | assumption)
                                have q263 : x7_2 < (x5_1.length : Int) := of_decide_eq_true (by first | (with_reducible assumption) | assumption)
                                obtain ⟨ad263, e263, hx263_0⟩ := Kd.at_int (Kd.R_reads' HO_5.out).2.2 x7_2 p263 q263
                                obtain rfl : ad262 = ad263 := (by injection e263)
                                replace p263 := eq_true p263
                                replace q263 := eq_true q263
                                have p264 : 0 ≤ (x9_2 : Int) := of_decide_eq_true (by first | (with_reducible assumption) | assumption)
                                have q264 : x9_2 < (x5_1.length : Int) := of_decide_eq_true (by first | (with_reducible assumption) | assumption)
                                obtain ⟨ad264, e264, hx264_0⟩ := Kd.at_int (Kd.R_reads' HO_5.out).2.2 x9_2 p264 q264
                                obtain rfl : ad262 = ad264 := (by injection e264)
                                replace p264 := eq_true p264
                                replace q264 := eq_true q264
                                have p265 : 0 ≤ (x8_2 : Int) := of_decide_eq_true (by first | (with_reducible assumption) | assumption)
                                have q265 : x8_2 < (x5_1.length : Int) := of_decide_eq_true (by first | (with_reducible assumption) | assumption)
                                obtain ⟨ad265, e265, hx265_0⟩ := Kd.at_int (Kd.R_reads' HO_5.out).2.2 x8_2 p265 q265
                                obtain rfl : ad262 = ad265 := (by injection e265)
                                replace p265 := eq_true p265
                                replace q265 := eq_true q265
                                go_wp2
                                repeat (go_quiet (fail); try go_wp2)
                                go_roundg k2
                                case measure => have := HK1.out; have := HK2.out; omega
                                case rel => exact ⟨(x9_2), (x9_2), (wrap64 (x9_2 + 1)), (by first | rfl | (simp; done) | (simp [*]; done)), (by first | rfl | (simp; done) | (simp [*]; done)), (by first | rfl | (simp; done) | (simp [*]; done)), H', ⟨by have := HK1.out; have := HK2.out; omega⟩, ⟨by (with_reducible repeat (first | apply Kd.R_alloc | apply Kd.R_drewN | apply Kd.R_drew)); exact HO_5.out⟩, ⟨by (with_reducible repeat (first | apply Kd.R_alloc | apply Kd.R_drewN | apply Kd.R_drew)); exact HO_6.out⟩, ⟨by repeat (first | (with_reducible first | exact HB.out | apply below_alloc | apply pw_below_drewN | apply below_drew1) | exact HB.out)⟩⟩
                              · rw [if_neg c15] at H
                                have c15b0 : decide ((rd x5_1 x8_2) < (rd x5_1 x9_2)) = false := decide_eq_false c15
                                clear c15
                                have H' := Aside0.mk H
                                clear H
                                obtain ⟨Ao17, co17, eo17⟩ := Kd.R_slice HO_5.out
                                subst eo17
                                have p262 : 0 ≤ (x9_2 : Int) := of_decide_eq_true (by first | (with_reducible assumption) | assumption)
                                have q262 : x9_2 < (x5_1.length : Int) := of_decide_eq_true (by first | (with_reducible assumption) | assumption)
                                obtain ⟨ad262, e262, hx262_0⟩ := Kd.at_int (Kd.R_reads' HO_5.out).2.2 x9_2 p262 q262
                                cases e262
                                replace p262 := eq_true p262
                                replace q262 := eq_true q262
                                have p263 : 0 ≤ (x7_2 : Int) := of_decide_eq_true (by first | (with_reducible assumption) | assumption)
                                have q263 : x7_2 < (x5_1.length : Int) := of_decide_eq_true (by first | (with_reducible assumption) | assumption)
                                obtain ⟨ad263, e263, hx263_0⟩ := Kd.at_int (Kd.R_reads' HO_5.out).2.2 x7_2 p263 q263
                                obtain rfl : ad262 = ad263 := (by injection e263)
                                replace p263 := eq_true p263
                                replace q263 := eq_true q263
                                have p264 : 0 ≤ (x9_2 : Int) := of_decide_eq_true (by first | (with_reducible assumption) | assumption)
                                have q264 : x9_2 < (x5_1.length : Int) := of_decide_eq_true (by first | (with_reducible assumption) | assumption)
                                obtain ⟨ad264, e264, hx264_0⟩ := Kd.at_int (Kd.R_reads' HO_5.out).2.2 x9_2 p264 q264
                                obtain rfl : ad262 = ad264 := (by injection e264)
                                replace p264 := eq_true p264
                                replace q264 := eq_true q264
                                have p265 : 0 ≤ (x8_2 : Int) := of_decide_eq_true (by first | (with_reducible assumption) | assumption)
                                have q265 : x8_2 < (x5_1.length : Int) := of_decide_eq_true (by first | (with_reducible assumption) | assumption)
                                obtain ⟨ad265, e265, hx265_0⟩ := Kd.at_int (Kd.R_reads' HO_5.out).2.2 x8_2 p265 q265
                                obtain rfl : ad262 = ad265 := (by injection e265)
                                replace p265 := eq_true p265
                                replace q265 := eq_true q265
                                go_wp2
                                repeat (go_quiet (fail); try go_wp2)
                                go_roundg k2
                                case measure => have := HK1.out; have := HK2.out; omega
                                case rel => exact ⟨(x9_2), (x8_2), (wrap64 (x9_2 + 1)), (by first | rfl | (simp; done) | (simp [*]; done)), (by first | rfl | (simp; done) | (simp [*]; done)), (by first | rfl | (simp; done) | (simp [*]; done)), H', ⟨by have := HK1.out; have := HK2.out; omega⟩, ⟨by (with_reducible repeat (first | apply Kd.R_alloc | apply Kd.R_drewN | apply Kd.R_drew)); exact HO_5.out⟩, ⟨by (with_reducible repeat (first | apply Kd.R_alloc | apply Kd.R_drewN | apply Kd.R_drew)); exact HO_6.out⟩, ⟨by repeat (first | (with_reducible first | exact HB.out | apply below_alloc | apply pw_below_drewN | apply below_drew1) | exact HB.out)⟩⟩
                            · rw [if_neg c14] at H
                              exact absurd H (by simp)
                          · rw [if_neg c13] at H
                            exact absurd H (by simp)
                        · rw [if_neg c12] at H
                          have c12b0 : decide ((rd x5_1 x9_2) < (rd x5_1 x7_2)) = false := decide_eq_false c12
                          clear c12
                          by_cases c18 : 0 ≤ x8_2
                          · rw [if_pos c18] at H
                            have c18b0 : decide (0 ≤ x8_2) = true := decide_eq_true c18
                            clear c18
                            by_cases c19 : x8_2 < (x5_1.length : Int)
                            · rw [if_pos c19] at H
                              have c19b0 : decide (x8_2 < (x5_1.length : Int)) = true := decide_eq_true c19
                              clear c19
                              by_cases c20 : (rd x5_1 x9_2) > (rd x5_1 x8_2)
                              · rw [if_pos c20] at H
                                have c20b0 : decide ((rd x5_1 x8_2) < (rd x5_1 x9_2)) = true := decide_eq_true c20
                                clear c20
                                have H' := Aside0.mk H
                                clear H
                                obtain ⟨Ao21, co21, eo21⟩ := Kd.R_slice HO_5.out
                                subst eo21
                                have p262 : 0 ≤ (x9_2 : Int) := of_decide_eq_true (by first | (with_reducible assumption) | assumption)
                                have q262 : x9_2 < (x5_1.length : Int) := of_decide_eq_true (by first | (with_reducible assumption) | assumption)
                                obtain ⟨ad262, e262, hx262_0⟩ := Kd.at_int (Kd.R_reads' HO_5.out).2.2 x9_2 p262 q262
                                cases e262
                                replace p262 := eq_true p262
                                replace q262 := eq_true q262
                                have p263 : 0 ≤ (x7_2 : Int) := of_decide_eq_true (by first | (with_reducible assumption) | assumption)
                                have q263 : x7_2 < (x5_1.length : Int) := of_decide_eq_true (by first | (with_reducible assumption) | assumption)
                                obtain ⟨ad263, e263, hx263_0⟩ := Kd.at_int (Kd.R_reads' HO_5.out).2.2 x7_2 p263 q263
                                obtain rfl : ad262 = ad263 := (by injection e263)
                                replace p263 := eq_true p263
                                replace q263 := eq_true q263
                                have p266 : 0 ≤ (x9_2 : Int) := of_decide_eq_true (by first | (with_reducible assumption) | assumption)
                                have q266 : x9_2 < (x5_1.length : Int) := of_decide_eq_true (by first | (with_reducible assumption) | assumption)
                                obtain ⟨ad266, e266, hx266_0⟩ := Kd.at_int (Kd.R_reads' HO_5.out).2.2 x9_2 p266 q266
                                obtain rfl : ad262 = ad266 := (by injection e266)
                                replace p266 := eq_true p266
                                replace q266 := eq_true q266
                                have p267 : 0 ≤ (x8_2 : Int) := of_decide_eq_true (by first | (with_reducible assumption) | assumption)
                                have q267 : x8_2 < (x5_1.length : Int) := of_decide_eq_true (by first | (with_reducible assumption) | assumption)
                                obtain ⟨ad267, e267, hx267_0⟩ := Kd.at_int (Kd.R_reads' HO_5.out).2.2 x8_2 p267 q267
                                obtain rfl : ad262 = ad267 := (by injection e267)
                                replace p267 := eq_true p267
                                replace q267 := eq_true q267
                                go_wp2
                                repeat (go_quiet (fail); try go_wp2)
                                go_roundg k2
                                case measure => have := HK1.out; have := HK2.out; omega
                                case rel => exact ⟨(x7_2), (x9_2), (wrap64 (x9_2 + 1)), (by first | rfl | (simp; done) | (simp [*]; done)), (by first | rfl | (simp; done) | (simp [*]; done)), (by first | rfl | (simp; done) | (simp [*]; done)), H', ⟨by have := HK1.out; have := HK2.out; omega⟩, ⟨by (with_reducible repeat (first | apply Kd.R_alloc | apply Kd.R_drewN | apply Kd.R_drew)); exact HO_5.out⟩, ⟨by (with_reducible repeat (first | apply Kd.R_alloc | apply Kd.R_drewN | apply Kd.R_drew)); exact HO_6.out⟩, ⟨by repeat (first | (with_reducible first | exact HB.out | apply below_alloc | apply pw_below_drewN | apply below_drew1) | exact HB.out)⟩⟩
                              · rw [if_neg c20] at H
                                have c20b0 : decide ((rd x5_1 x8_2) < (rd x5_1 x9_2)) = false := decide_eq_false c20
                                clear c20
                                have H' := Aside0.mk H
                                clear H
                                obtain ⟨Ao22, co22, eo22⟩ := Kd.R_slice HO_5.out
                                subst eo22
                                have p262 : 0 ≤ (x9_2 : Int) := of_decide_eq_true (by first | (with_reducible assumption) | assumption)
                                have q262 : x9_2 < (x5_1.length : Int) := of_decide_eq_true (by first | (with_reducible assumption) | assumption)
                                obtain ⟨ad262, e262, hx262_0⟩ := Kd.at_int (Kd.R_reads' HO_5.out).2.2 x9_2 p262 q262
                                cases e262
                                replace p262 := eq_true p262
                                replace q262 := eq_true q262
                                have p263 : 0 ≤ (x7_2 : Int) := of_decide_eq_true (by first | (with_reducible assumption) | assumption)
                                have q263 : x7_2 < (x5_1.length : Int) := of_decide_eq_true (by first | (with_reducible assumption) | assumption)
                                obtain ⟨ad263, e263, hx263_0⟩ := Kd.at_int (Kd.R_reads' HO_5.out).2.2 x7_2 p263 q263
                                obtain rfl : ad262 = ad263 := (by injection e263)
                                replace p263 := eq_true p263
                                replace q263 := eq_true q263
                                have p266 : 0 ≤ (x9_2 : Int) := of_decide_eq_true (by first | (with_reducible assumption) | assumption)
                                have q266 : x9_2 < (x5_1.length : Int) := of_decide_eq_true (by first | (with_reducible assumption) | assumption)
                                obtain ⟨ad266, e266, hx266_0⟩ := Kd.at_int (Kd.R_reads' HO_5.out).2.2 x9_2 p266 q266
                                obtain rfl : ad262 = ad266 := (by injection e266)
                                replace p266 := eq_true p266
                                replace q266 := eq_true q266
                                have p267 : 0 ≤ (x8_2 : Int) := of_decide_eq_true (by first | (with_reducible assumption) | assumption)
                                have q267 : x8_2 < (x5_1.length : Int) := of_decide_eq_true (by first | (with_reducible assumption) | assumption)
                                obtain ⟨ad267, e267, hx267_0⟩ := Kd.at_int (Kd.R_reads' HO_5.out).2.2 x8_2 p267 q267
                                obtain rfl : ad262 = ad267 := (by injection e267)
                                replace p267 := eq_true p267
                                replace q267 := eq_true q267
                                go_wp2
                                repeat (go_quiet (fail); try go_wp2)
                                go_roundg k2
                                case measure => have := HK1.out; have := HK2.out; omega
                                case rel => exact ⟨(x7_2), (x8_2), (wrap64 (x9_2 + 1)), (by first | rfl | (simp; done) | (simp [*]; done)), (by first | rfl | (simp; done) | (simp [*]; done)), (by first | rfl | (simp; done) | (simp [*]; done)), H', ⟨by have := HK1.out; have := HK2.out; omega⟩, ⟨by (with_reducible repeat (first | apply Kd.R_alloc | apply Kd.R_drewN | apply Kd.R_drew)); exact HO_5.out⟩, ⟨by (with_reducible repeat (first | apply Kd.R_alloc | apply Kd.R_drewN | apply Kd.R_drew)); exact HO_6.out⟩, ⟨by repeat (first | (with_reducible first | exact HB.out | apply below_alloc | apply pw_below_drewN | apply below_drew1) | exact HB.out)⟩⟩
                            · rw [if_neg c19] at H
                              exact absurd H (by simp)
                          · rw [if_neg c18] at H
                            exact absurd H (by simp)
                      · rw [if_neg c11] at H
                        exact absurd H (by simp)
                    · rw [if_neg c10] at H
                      exact absurd H (by simp)
                  · rw [if_neg c9] at H
                    exact absurd H (by simp)
                · rw [if_neg c8] at H
                  have c8b0 : decide (x9_2 < (x5_1.length : Int)) = false := decide_eq_false c8
                  clear c8
                  by_cases c23 : 0 ≤ x8_2
                  · rw [if_pos c23] at H
                    have c23b0 : decide (0 ≤ x8_2) = true := decide_eq_true c23
                    clear c23
                    by_cases c24 : x8_2 < (x5_1.length : Int)
                    · rw [if_pos c24] at H
                      have c24b0 : decide (x8_2 < (x5_1.length : Int)) = true := decide_eq_true c24
                      clear c24
                      by_cases c25 : (rd x5_1 x8_2) = 0
                      · rw [if_pos c25] at H
                        have c25b0 : ((rd x5_1 x8_2) == 0) = true := beq_iff_eq.mpr c25
                        have c25b1 : ((rd x5_1 x8_2) != 0) = false := bne_eq_false_iff_eq.mpr c25
                        clear c25
                        simp only [Option.some.injEq, Prod.mk.injEq] at H
                        obtain ⟨rfl, rfl⟩ := H
                        obtain ⟨Ao26, co26, eo26⟩ := Kd.R_slice HO_5.out
                        subst eo26
                        have p268 : 0 ≤ (x8_2 : Int) := of_decide_eq_true (by first | (with_reducible assumption) | assumption)
                        have q268 : x8_2 < (x5_1.length : Int) := of_decide_eq_true (by first | (with_reducible assumption) | assumption)
                        obtain ⟨ad268, e268, hx268_0⟩ := Kd.at_int (Kd.R_reads' HO_5.out).2.2 x8_2 p268 q268
                        cases e268
                        replace p268 := eq_true p268
                        replace q268 := eq_true q268
                        go_wp2
                        repeat (go_quiet (fail); try go_wp2)
                        go_ret2
                        exact ⟨_, by first | rfl | (simp [errW_none, errW_some] <;> rfl) | (simp [*, errW_none, errW_some] <;> rfl), by (with_reducible repeat (first | apply Kd.R_alloc | apply Kd.R_drewN | apply Kd.R_drew)); exact HO_6.out, by repeat (first | (with_reducible first | exact HB.out | apply below_alloc | apply pw_below_drewN | apply below_drew1) | exact HB.out)⟩
                      · rw [if_neg c25] at H
                        have c25b0 : ((rd x5_1 x8_2) == 0) = false := beq_eq_false_iff_ne.mpr c25
                        have c25b1 : ((rd x5_1 x8_2) != 0) = true := bne_iff_ne.mpr c25
                        by_cases c27 : 0 ≤ x7_2
                        · rw [if_pos c27] at H
                          have c27b0 : decide (0 ≤ x7_2) = true := decide_eq_true c27
                          clear c27
                          by_cases c28 : x7_2 < (x5_1.length : Int)
                          · rw [if_pos c28] at H
                            have c28b0 : decide (x7_2 < (x5_1.length : Int)) = true := decide_eq_true c28
                            clear c28
                            by_cases c29 : (wrap64 (-(rd x5_1 x7_2))) < (rd x5_1 x8_2)
                            · rw [if_pos c29] at H
                              have c29b0 : decide ((wrap64 (-(rd x5_1 x7_2))) < (rd x5_1 x8_2)) = true := decide_eq_true c29
                              clear c29
                              obtain ⟨y273, hy273⟩ : ∃ y_ : List Int, y_ = (x5_1.set (x7_2 : Int).toNat (wrap64 ((rd x5_1 x7_2) + (wrap64 (-(rd x5_1 x7_2)))))) := ⟨_, rfl⟩
                              replace H : (if x6_1.length < 5864062014805 then (chargeparkref42_Payments.l0 k2 (y273.set (x8_2 : Int).toNat (wrap64 ((rd y273 x8_2) - (wrap64 (-(rd x5_1 x7_2)))))) (x6_1 ++ [(⟨x7_2, x8_2, wrap64 (-(rd x5_1 x7_2))⟩ : S44)])) else (none)) = some (r1, r2) := by first | (rw [hy273]; with_reducible exact H) | (have H2_ := (Option.bind_some _ _).symm.trans H; rw [hy273]; with_reducible exact H2_) | (have H2_ := (Option.bind_some _ _).symm.trans H; with_reducible exact H2_) | with_reducible exact H | (rw [hy273]; exact H) | exact H
                              have Ny273 := Aside0.mk hy273
                              clear hy273
                              obtain ⟨y275, hy275⟩ : ∃ y_ : List Int, y_ = (y273.set (x8_2 : Int).toNat (wrap64 ((rd y273 x8_2) - (wrap64 (-(rd x5_1 x7_2)))))) := ⟨_, rfl⟩
                              replace H : (if x6_1.length < 5864062014805 then (chargeparkref42_Payments.l0 k2 y275 (x6_1 ++ [(⟨x7_2, x8_2, wrap64 (-(rd x5_1 x7_2))⟩ : S44)])) else (none)) = some (r1, r2) := by first | (rw [hy275]; with_reducible exact H) | (have H2_ := (Option.bind_some _ _).symm.trans H; rw [hy275]; with_reducible exact H2_) | (have H2_ := (Option.bind_some _ _).symm.trans H; with_reducible exact H2_) | with_reducible exact H | (rw [hy275]; exact H) | exact H
                              have Ny275 := Aside0.mk hy275
                              clear hy275
                              by_cases c32 : x6_1.length < 5864062014805
                              · rw [if_pos c32] at H
                                have LMc32 := Aside0.mk c32
                                clear c32
                                obtain ⟨y276, hy276⟩ : ∃ y_ : List (S44), y_ = (x6_1 ++ [(⟨x7_2, x8_2, wrap64 (-(rd x5_1 x7_2))⟩ : S44)]) := ⟨_, rfl⟩
                                replace H : (chargeparkref42_Payments.l0 k2 y275 y276) = some (r1, r2) := by first | (rw [hy276]; with_reducible exact H) | (have H2_ := (Option.bind_some _ _).symm.trans H; rw [hy276]; with_reducible exact H2_) | (have H2_ := (Option.bind_some _ _).symm.trans H; with_reducible exact H2_) | with_reducible exact H | (rw [hy276]; exact H) | exact H
                                have Ny276 := Aside0.mk hy276
                                clear hy276
                                have H' := Aside0.mk H
                                clear H
                                obtain ⟨Ao33, co33, eo33⟩ := Kd.R_slice HO_5.out
                                subst eo33
                                have p268 : 0 ≤ (x8_2 : Int) := of_decide_eq_true (by first | (with_reducible assumption) | assumption)
                                have q268 : x8_2 < (x5_1.length : Int) := of_decide_eq_true (by first | (with_reducible assumption) | assumption)
                                obtain ⟨ad268, e268, hx268_0⟩ := Kd.at_int (Kd.R_reads' HO_5.out).2.2 x8_2 p268 q268
                                cases e268
                                replace p268 := eq_true p268
                                replace q268 := eq_true q268
                                have p269 : 0 ≤ (x8_2 : Int) := of_decide_eq_true (by first | (with_reducible assumption) | assumption)
                                have q269 : x8_2 < (x5_1.length : Int) := of_decide_eq_true (by first | (with_reducible assumption) | assumption)
                                obtain ⟨ad269, e269, hx269_0⟩ := Kd.at_int (Kd.R_reads' HO_5.out).2.2 x8_2 p269 q269
                                obtain rfl : ad268 = ad269 := (by injection e269)
                                replace p269 := eq_true p269
                                replace q269 := eq_true q269
                                have p270 : 0 ≤ (x7_2 : Int) := of_decide_eq_true (by first | (with_reducible assumption) | assumption)
                                have q270 : x7_2 < (x5_1.length : Int) := of_decide_eq_true (by first | (with_reducible assumption) | assumption)
                                obtain ⟨ad270, e270, hx270_0⟩ := Kd.at_int (Kd.R_reads' HO_5.out).2.2 x7_2 p270 q270
                                obtain rfl : ad268 = ad270 := (by injection e270)
                                replace p270 := eq_true p270
                                replace q270 := eq_true q270
                                have p271 : 0 ≤ (x7_2 : Int) := of_decide_eq_true (by first | (with_reducible assumption) | assumption)
                                have q271 : x7_2 < (x5_1.length : Int) := of_decide_eq_true (by first | (with_reducible assumption) | assumption)
                                obtain ⟨ad271, e271, hx271_0⟩ := Kd.at_int (Kd.R_reads' HO_5.out).2.2 x7_2 p271 q271
                                obtain rfl : ad268 = ad271 := (by injection e271)
                                replace p271 := eq_true p271
                                replace q271 := eq_true q271
                                have p272 : 0 ≤ (x7_2 : Int) := of_decide_eq_true (by first | (with_reducible assumption) | assumption)
                                have q272 : x7_2 < (x5_1.length : Int) := of_decide_eq_true (by first | (with_reducible assumption) | assumption)
                                obtain ⟨ad272, e272, hx272_0⟩ := Kd.at_int (Kd.R_reads' HO_5.out).2.2 x7_2 p272 q272
                                obtain rfl : ad268 = ad272 := (by injection e272)
                                replace p272 := eq_true p272
                                replace q272 := eq_true q272
                                have p30 : 0 ≤ (x7_2 : Int) := of_decide_eq_true (by first | (with_reducible assumption) | assumption)
                                have q30 : (x7_2 : Int) < ((x5_1.length : Int) : Int) := of_decide_eq_true (by first | (with_reducible assumption) | assumption)
                                obtain ⟨go30, co30, eo30, gb30, gl30, cl30, HG30⟩ := Kd.R_form HO_5.out (by omega)
                                (first | cases eo30 | (injection eo30 with ea_ en_ ec_; (first | subst ea_ | (injection ea_ with ea_; subst ea_)); subst ec_; clear en_))
                                have GB30 := Aside0.mk gb30
                                have GG30 := Aside0.mk HG30
                                clear gb30 gl30 HG30
                                (first | simp only [add_plain] at hx268_0 | skip)
                                (first | simp only [add_plain] at hx269_0 | skip)
                                (first | simp only [add_plain] at hx270_0 | skip)
                                (first | simp only [add_plain] at hx271_0 | skip)
                                (first | simp only [add_plain] at hx272_0 | skip)
                                obtain ⟨hx30_0, hf30_0⟩ := Kd.R_celln 0 HO_5.out (x7_2 : Int) p30 q30
                                replace p30 := eq_true p30
                                replace q30 := eq_true q30
                                have HP34 := Kd.R_putg HO_5.out (x7_2 : Int) (wrap64 ((rd x5_1 x7_2) + (wrap64 (-(rd x5_1 x7_2)))))
                                go_wp2_with (first | ((with_reducible refine gate_store (t := 3) (p := 77) rfl ?_); (try (rw [drewN_self wr]; generalize hq_ : World.drewN wr _ = wr; have n0_ := Aside0.mk (Kd.R_at hq_ HO_5.out); have n1_ := Aside0.mk (Kd.R_at hq_ HO_6.out); have n2_ := Aside0.mk (below_at hq_ HB.out); clear hq_ HO_5 HO_6 HB; have HO_5 := n0_; have HO_6 := n1_; have HB := n2_; clear n0_ n1_ n2_; (try obtain ⟨hx30_0, hf30_0⟩ := Kd.R_celln 0 HO_5.out (x7_2 : Int) (of_eq_true p30) (of_eq_true q30)); (try (have HP34 := Kd.R_putg HO_5.out (x7_2 : Int) (wrap64 ((rd x5_1 x7_2) + (wrap64 (-(rd x5_1 x7_2))))))))); refine store_event (t := 3) (p := 77) (v := ?vo_w35) (w1 := (wr.setCell ⟨go30, (x7_2 : Int).toNat, none⟩ (.int .i64 (wrap64 ((rd x5_1 x7_2) + (wrap64 (-(rd x5_1 x7_2)))))))) ?hg ?ho ?hn ?hr ?_; (case ho => rfl); (case hg => rfl); (case hn => rfl); (case hr => first | (go_simp; done) | (go_simp; rfl)); intro w35 hw; have hg : wr.grownBy w35 (some go30) := (by rw [hw]; exact HP34.2); have hp_ : Kd.R (Kd.int .i64) 3 w35 w.heap.size (fun _ => True) (.slice (some ⟨go30, 0, none⟩) x5_1.length co33) y273 := (by rw [hw, Ny273.out]; exact HP34.1); clear HP34; have n0_ := Aside0.mk (hp_); have n1_ := Aside0.mk (Kd.R_over' (v := (.slice (some ⟨go30, 0, none⟩) x5_1.length co33)) (by (with_reducible repeat (first | apply Kd.R_alloc | apply Kd.R_drewN | apply Kd.R_drew)); exact HO_6.out) (Kd.R_typed HO_5.out) (by decide) hg); have n2_ := Aside0.mk ((by rw [hw]; exact below_set (HB.out) GB30.out : Below w.heap.size w w35)); clear HO_5; clear HO_6; clear HB; have HO_5 := n0_; have HO_6 := n1_; have HB := n2_; clear n0_ n1_ n2_; clear hg hw hp_; have p274 : 0 ≤ (x8_2 : Int) := of_decide_eq_true (by first | (with_reducible assumption) | assumption); have q274 : x8_2 < (y273.length : Int) := (by have h_ : (x8_2 : Int) < ((x5_1.length : Int) : Int) := of_decide_eq_true (by first | (with_reducible assumption) | assumption); first | (have e_ := (Kd.R_reads' HO_5.out).1; omega) | simpa only [Ny273.out, List.length_set] using h_); have ql274 : ((x8_2 : Int) < ((x5_1.length : Int) : Int)) = True := eq_true (of_decide_eq_true (by first | (with_reducible assumption) | assumption)); obtain ⟨ad274, e274, hx274_0⟩ := Kd.at_int (Kd.R_reads' HO_5.out).2.2 x8_2 p274 q274; obtain rfl : (⟨go30, 0, none⟩ : Addr) = ad274 := (by injection e274); (first | simp only [add_plain] at hx274_0 | simp only [add_at] at hx274_0 | simp only [Addr.add, Nat.zero_add] at hx274_0 | skip); replace p274 := eq_true p274; replace q274 := eq_true q274; have p31 : 0 ≤ (x8_2 : Int) := of_decide_eq_true (by first | (with_reducible assumption) | assumption); have q31 : (x8_2 : Int) < ((x5_1.length : Int) : Int) := of_decide_eq_true (by first | (with_reducible assumption) | assumption); obtain ⟨hx31_0, hf31_0⟩ := Kd.R_celln 0 HO_5.out (x8_2 : Int) p31 q31; replace p31 := eq_true p31; replace q31 := eq_true q31; obtain ⟨hy36_, hz36_⟩ := Kd.R_celln 0 HO_5.out (x8_2 : Int) (of_decide_eq_true (by first | (with_reducible assumption) | assumption)) (of_decide_eq_true (by first | (with_reducible assumption) | assumption)); have HP36 := Kd.R_putg HO_5.out (x8_2 : Int) (wrap64 ((rd y273 x8_2) - (wrap64 (-(rd x5_1 x7_2)))))) | ((with_reducible refine gate_store (t := 3) (p := 86) rfl ?_); (try (rw [drewN_self w35]; generalize hq_ : World.drewN w35 _ = w35; have n0_ := Aside0.mk (Kd.R_at hq_ HO_5.out); have n1_ := Aside0.mk (Kd.R_at hq_ HO_6.out); have n2_ := Aside0.mk (below_at hq_ HB.out); clear hq_ HO_5 HO_6 HB; have HO_5 := n0_; have HO_6 := n1_; have HB := n2_; clear n0_ n1_ n2_; (try (obtain ⟨hy36_, hz36_⟩ := Kd.R_celln 0 HO_5.out (x8_2 : Int) (of_decide_eq_true (by first | (with_reducible assumption) | assumption)) (of_decide_eq_true (by first | (with_reducible assumption) | assumption)))); (try (have HP36 := Kd.R_putg HO_5.out (x8_2 : Int) (wrap64 ((rd y273 x8_2) - (wrap64 (-(rd x5_1 x7_2))))))))); refine store_event (t := 3) (p := 86) (v := ?vo_w37) (w1 := (w35.setCell ⟨go30, (x8_2 : Int).toNat, none⟩ (.int .i64 (wrap64 ((rd y273 x8_2) - (wrap64 (-(rd x5_1 x7_2)))))))) ?hg ?ho ?hn ?hr ?_; (case ho => rfl); (case hg => rfl); (case hn => rfl); (case hr => first | (go_simp; done) | (go_simp; rfl)); intro w37 hw; have hg : w35.grownBy w37 (some go30) := (by rw [hw]; exact HP36.2); have hp_ : Kd.R (Kd.int .i64) 3 w37 w.heap.size (fun _ => True) (.slice (some ⟨go30, 0, none⟩) x5_1.length co33) y275 := (by rw [hw, Ny275.out]; exact HP36.1); clear HP36; have n0_ := Aside0.mk (hp_); have n1_ := Aside0.mk (Kd.R_over' (v := (.slice (some ⟨go30, 0, none⟩) x5_1.length co33)) (by (with_reducible repeat (first | apply Kd.R_alloc | apply Kd.R_drewN | apply Kd.R_drew)); exact HO_6.out) (Kd.R_typed HO_5.out) (by decide) hg); have n2_ := Aside0.mk ((by rw [hw]; exact below_set (HB.out) GB30.out : Below w.heap.size w w37)); clear HO_5; clear HO_6; clear HB; have HO_5 := n0_; have HO_6 := n1_; have HB := n2_; clear n0_ n1_ n2_; clear hg hw hp_) | ((with_reducible refine gate_builtin (b := .append) (xs := #[.tmp 87, .tmp 92]) rfl ?_); at_builtin; refine Kd.R_append k44 (w0 := w) w.heap.size rfl (.tmp 87) (.tmp 92) 29 44 (.agg #[(.int .i64 0), (.int .i64 0), (.int .i64 0)]) 24 rfl Try.underlying29 info44 rfl (by decide) (by omega) (.slice Ao7 x6_1.length co7) x6_1 (⟨x7_2, x8_2, wrap64 (-(rd x5_1 x7_2))⟩ : S44) [.int .i64 x7_2, .int .i64 x8_2, .int .i64 (wrap64 (-(rd x5_1 x7_2)))] (fun _ => True) (fun _ => False) rfl rfl ?aP (fun _ hk => hk.elim) ?aF ?aO ?aB ?aS ?aL ?_; (case aP => exact k44_mkM _ _ _ (⟨x7_2, x8_2, wrap64 (-(rd x5_1 x7_2))⟩ : S44)); (case aB => exact (by repeat (first | (with_reducible first | exact HB.out | apply below_alloc | apply pw_below_drewN | apply below_drew1) | exact HB.out))); (case aF => exact (fun _ _ => trivial)); (case aO => exact (by (with_reducible repeat (first | apply Kd.R_alloc | apply Kd.R_drewN | apply Kd.R_drew)); exact HO_6.out)); (case aS => exact (below_size (by repeat (first | (with_reducible first | exact HB.out | apply below_alloc | apply pw_below_drewN | apply below_drew1) | exact HB.out)))); (case aL => have := LMc32.out; omega); intro v277 w38 ho hb hg hat; rw [← Ny276.out] at ho; have n0_ := Aside0.mk (Kd.R_over' (by (with_reducible repeat (first | apply Kd.R_alloc | apply Kd.R_drewN | apply Kd.R_drew)); exact HO_5.out) (Kd.R_typed (by (with_reducible repeat (first | apply Kd.R_alloc | apply Kd.R_drewN | apply Kd.R_drew)); exact HO_6.out)) (by decide) hg); have n1_ := Aside0.mk (hb); have n2_ := Aside0.mk (ho); clear HO_5; clear HB; clear HO_6; have HO_5 := n0_; have HB := n1_; have HO278 := n2_; clear n0_ n1_ n2_; clear ho hb hg hat))
                                repeat (go_quiet (first | ((with_reducible refine gate_store (t := 3) (p := 77) rfl ?_); (try (rw [drewN_self wr]; generalize hq_ : World.drewN wr _ = wr; have n0_ := Aside0.mk (Kd.R_at hq_ HO_5.out); have n1_ := Aside0.mk (Kd.R_at hq_ HO_6.out); have n2_ := Aside0.mk (below_at hq_ HB.out); clear hq_ HO_5 HO_6 HB; have HO_5 := n0_; have HO_6 := n1_; have HB := n2_; clear n0_ n1_ n2_; (try obtain ⟨hx30_0, hf30_0⟩ := Kd.R_celln 0 HO_5.out (x7_2 : Int) (of_eq_true p30) (of_eq_true q30)); (try (have HP34 := Kd.R_putg HO_5.out (x7_2 : Int) (wrap64 ((rd x5_1 x7_2) + (wrap64 (-(rd x5_1 x7_2))))))))); refine store_event (t := 3) (p := 77) (v := ?vo_w35) (w1 := (wr.setCell ⟨go30, (x7_2 : Int).toNat, none⟩ (.int .i64 (wrap64 ((rd x5_1 x7_2) + (wrap64 (-(rd x5_1 x7_2)))))))) ?hg ?ho ?hn ?hr ?_; (case ho => rfl); (case hg => rfl); (case hn => rfl); (case hr => first | (go_simp; done) | (go_simp; rfl)); intro w35 hw; have hg : wr.grownBy w35 (some go30) := (by rw [hw]; exact HP34.2); have hp_ : Kd.R (Kd.int .i64) 3 w35 w.heap.size (fun _ => True) (.slice (some ⟨go30, 0, none⟩) x5_1.length co33) y273 := (by rw [hw, Ny273.out]; exact HP34.1); clear HP34; have n0_ := Aside0.mk (hp_); have n1_ := Aside0.mk (Kd.R_over' (v := (.slice (some ⟨go30, 0, none⟩) x5_1.length co33)) (by (with_reducible repeat (first | apply Kd.R_alloc | apply Kd.R_drewN | apply Kd.R_drew)); exact HO_6.out) (Kd.R_typed HO_5.out) (by decide) hg); have n2_ := Aside0.mk ((by rw [hw]; exact below_set (HB.out) GB30.out : Below w.heap.size w w35)); clear HO_5; clear HO_6; clear HB; have HO_5 := n0_; have HO_6 := n1_; have HB := n2_; clear n0_ n1_ n2_; clear hg hw hp_; have p274 : 0 ≤ (x8_2 : Int) := of_decide_eq_true (by first | (with_reducible assumption) | assumption); have q274 : x8_2 < (y273.length : Int) := (by have h_ : (x8_2 : Int) < ((x5_1.length : Int) : Int) := of_decide_eq_true (by first | (with_reducible assumption) | assumption); first | (have e_ := (Kd.R_reads' HO_5.out).1; omega) | simpa only [Ny273.out, List.length_set] using h_); have ql274 : ((x8_2 : Int) < ((x5_1.length : Int) : Int)) = True := eq_true (of_decide_eq_true (by first | (with_reducible assumption) | assumption)); obtain ⟨ad274, e274, hx274_0⟩ := Kd.at_int (Kd.R_reads' HO_5.out).2.2 x8_2 p274 q274; obtain rfl : (⟨go30, 0, none⟩ : Addr) = ad274 := (by injection e274); (first | simp only [add_plain] at hx274_0 | simp only [add_at] at hx274_0 | simp only [Addr.add, Nat.zero_add] at hx274_0 | skip); replace p274 := eq_true p274; replace q274 := eq_true q274; have p31 : 0 ≤ (x8_2 : Int) := of_decide_eq_true (by first | (with_reducible assumption) | assumption); have q31 : (x8_2 : Int) < ((x5_1.length : Int) : Int) := of_decide_eq_true (by first | (with_reducible assumption) | assumption); obtain ⟨hx31_0, hf31_0⟩ := Kd.R_celln 0 HO_5.out (x8_2 : Int) p31 q31; replace p31 := eq_true p31; replace q31 := eq_true q31; obtain ⟨hy36_, hz36_⟩ := Kd.R_celln 0 HO_5.out (x8_2 : Int) (of_decide_eq_true (by first | (with_reducible assumption) | assumption)) (of_decide_eq_true (by first | (with_reducible assumption) | assumption)); have HP36 := Kd.R_putg HO_5.out (x8_2 : Int) (wrap64 ((rd y273 x8_2) - (wrap64 (-(rd x5_1 x7_2)))))) | ((with_reducible refine gate_store (t := 3) (p := 86) rfl ?_); (try (rw [drewN_self w35]; generalize hq_ : World.drewN w35 _ = w35; have n0_ := Aside0.mk (Kd.R_at hq_ HO_5.out); have n1_ := Aside0.mk (Kd.R_at hq_ HO_6.out); have n2_ := Aside0.mk (below_at hq_ HB.out); clear hq_ HO_5 HO_6 HB; have HO_5 := n0_; have HO_6 := n1_; have HB := n2_; clear n0_ n1_ n2_; (try (obtain ⟨hy36_, hz36_⟩ := Kd.R_celln 0 HO_5.out (x8_2 : Int) (of_decide_eq_true (by first | (with_reducible assumption) | assumption)) (of_decide_eq_true (by first | (with_reducible assumption) | assumption)))); (try (have HP36 := Kd.R_putg HO_5.out (x8_2 : Int) (wrap64 ((rd y273 x8_2) - (wrap64 (-(rd x5_1 x7_2))))))))); refine store_event (t := 3) (p := 86) (v := ?vo_w37) (w1 := (w35.setCell ⟨go30, (x8_2 : Int).toNat, none⟩ (.int .i64 (wrap64 ((rd y273 x8_2) - (wrap64 (-(rd x5_1 x7_2)))))))) ?hg ?ho ?hn ?hr ?_; (case ho => rfl); (case hg => rfl); (case hn => rfl); (case hr => first | (go_simp; done) | (go_simp; rfl)); intro w37 hw; have hg : w35.grownBy w37 (some go30) := (by rw [hw]; exact HP36.2); have hp_ : Kd.R (Kd.int .i64) 3 w37 w.heap.size (fun _ => True) (.slice (some ⟨go30, 0, none⟩) x5_1.length co33) y275 := (by rw [hw, Ny275.out]; exact HP36.1); clear HP36; have n0_ := Aside0.mk (hp_); have n1_ := Aside0.mk (Kd.R_over' (v := (.slice (some ⟨go30, 0, none⟩) x5_1.length co33)) (by (with_reducible repeat (first | apply Kd.R_alloc | apply Kd.R_drewN | apply Kd.R_drew)); exact HO_6.out) (Kd.R_typed HO_5.out) (by decide) hg); have n2_ := Aside0.mk ((by rw [hw]; exact below_set (HB.out) GB30.out : Below w.heap.size w w37)); clear HO_5; clear HO_6; clear HB; have HO_5 := n0_; have HO_6 := n1_; have HB := n2_; clear n0_ n1_ n2_; clear hg hw hp_) | ((with_reducible refine gate_builtin (b := .append) (xs := #[.tmp 87, .tmp 92]) rfl ?_); at_builtin; refine Kd.R_append k44 (w0 := w) w.heap.size rfl (.tmp 87) (.tmp 92) 29 44 (.agg #[(.int .i64 0), (.int .i64 0), (.int .i64 0)]) 24 rfl Try.underlying29 info44 rfl (by decide) (by omega) (.slice Ao7 x6_1.length co7) x6_1 (⟨x7_2, x8_2, wrap64 (-(rd x5_1 x7_2))⟩ : S44) [.int .i64 x7_2, .int .i64 x8_2, .int .i64 (wrap64 (-(rd x5_1 x7_2)))] (fun _ => True) (fun _ => False) rfl rfl ?aP (fun _ hk => hk.elim) ?aF ?aO ?aB ?aS ?aL ?_; (case aP => exact k44_mkM _ _ _ (⟨x7_2, x8_2, wrap64 (-(rd x5_1 x7_2))⟩ : S44)); (case aB => exact (by repeat (first | (with_reducible first | exact HB.out | apply below_alloc | apply pw_below_drewN | apply below_drew1) | exact HB.out))); (case aF => exact (fun _ _ => trivial)); (case aO => exact (by (with_reducible repeat (first | apply Kd.R_alloc | apply Kd.R_drewN | apply Kd.R_drew)); exact HO_6.out)); (case aS => exact (below_size (by repeat (first | (with_reducible first | exact HB.out | apply below_alloc | apply pw_below_drewN | apply below_drew1) | exact HB.out)))); (case aL => have := LMc32.out; omega); intro v277 w38 ho hb hg hat; rw [← Ny276.out] at ho; have n0_ := Aside0.mk (Kd.R_over' (by (with_reducible repeat (first | apply Kd.R_alloc | apply Kd.R_drewN | apply Kd.R_drew)); exact HO_5.out) (Kd.R_typed (by (with_reducible repeat (first | apply Kd.R_alloc | apply Kd.R_drewN | apply Kd.R_drew)); exact HO_6.out)) (by decide) hg); have n1_ := Aside0.mk (hb); have n2_ := Aside0.mk (ho); clear HO_5; clear HB; clear HO_6; have HO_5 := n0_; have HB := n1_; have HO278 := n2_; clear n0_ n1_ n2_; clear ho hb hg hat)); try go_wp2_with (first | ((with_reducible refine gate_store (t := 3) (p := 77) rfl ?_); (try (rw [drewN_self wr]; generalize hq_ : World.drewN wr _ = wr; have n0_ := Aside0.mk (Kd.R_at hq_ HO_5.out); have n1_ := Aside0.mk (Kd.R_at hq_ HO_6.out); have n2_ := Aside0.mk (below_at hq_ HB.out); clear hq_ HO_5 HO_6 HB; have HO_5 := n0_; have HO_6 := n1_; have HB := n2_; clear n0_ n1_ n2_; (try obtain ⟨hx30_0, hf30_0⟩ := Kd.R_celln 0 HO_5.out (x7_2 : Int) (of_eq_true p30) (of_eq_true q30)); (try (have HP34 := Kd.R_putg HO_5.out (x7_2 : Int) (wrap64 ((rd x5_1 x7_2) + (wrap64 (-(rd x5_1 x7_2))))))))); refine store_event (t := 3) (p := 77) (v := ?vo_w35) (w1 := (wr.setCell ⟨go30, (x7_2 : Int).toNat, none⟩ (.int .i64 (wrap64 ((rd x5_1 x7_2) + (wrap64 (-(rd x5_1 x7_2)))))))) ?hg ?ho ?hn ?hr ?_; (case ho => rfl); (case hg => rfl); (case hn => rfl); (case hr => first | (go_simp; done) | (go_simp; rfl)); intro w35 hw; have hg : wr.grownBy w35 (some go30) := (by rw [hw]; exact HP34.2); have hp_ : Kd.R (Kd.int .i64) 3 w35 w.heap.size (fun _ => True) (.slice (some ⟨go30, 0, none⟩) x5_1.length co33) y273 := (by rw [hw, Ny273.out]; exact HP34.1); clear HP34; have n0_ := Aside0.mk (hp_); have n1_ := Aside0.mk (Kd.R_over' (v := (.slice (some ⟨go30, 0, none⟩) x5_1.length co33)) (by (with_reducible repeat (first | apply Kd.R_alloc | apply Kd.R_drewN | apply Kd.R_drew)); exact HO_6.out) (Kd.R_typed HO_5.out) (by decide) hg); have n2_ := Aside0.mk ((by rw [hw]; exact below_set (HB.out) GB30.out : Below w.heap.size w w35)); clear HO_5; clear HO_6; clear HB; have HO_5 := n0_; have HO_6 := n1_; have HB := n2_; clear n0_ n1_ n2_; clear hg hw hp_; have p274 : 0 ≤ (x8_2 : Int) := of_decide_eq_true (by first | (with_reducible assumption) | assumption); have q274 : x8_2 < (y273.length : Int) := (by have h_ : (x8_2 : Int) < ((x5_1.length : Int) : Int) := of_decide_eq_true (by first | (with_reducible assumption) | assumption); first | (have e_ := (Kd.R_reads' HO_5.out).1; omega) | simpa only [Ny273.out, List.length_set] using h_); have ql274 : ((x8_2 : Int) < ((x5_1.length : Int) : Int)) = True := eq_true (of_decide_eq_true (by first | (with_reducible assumption) | assumption)); obtain ⟨ad274, e274, hx274_0⟩ := Kd.at_int (Kd.R_reads' HO_5.out).2.2 x8_2 p274 q274; obtain rfl : (⟨go30, 0, none⟩ : Addr) = ad274 := (by injection e274); (first | simp only [add_plain] at hx274_0 | simp only [add_at] at hx274_0 | simp only [Addr.add, Nat.zero_add] at hx274_0 | skip); replace p274 := eq_true p274; replace q274 := eq_true q274; have p31 : 0 ≤ (x8_2 : Int) := of_decide_eq_true (by first | (with_reducible assumption) | assumption); have q31 : (x8_2 : Int) < ((x5_1.length : Int) : Int) := of_decide_eq_true (by first | (with_reducible assumption) | assumption); obtain ⟨hx31_0, hf31_0⟩ := Kd.R_celln 0 HO_5.out (x8_2 : Int) p31 q31; replace p31 := eq_true p31; replace q31 := eq_true q31; obtain ⟨hy36_, hz36_⟩ := Kd.R_celln 0 HO_5.out (x8_2 : Int) (of_decide_eq_true (by first | (with_reducible assumption) | assumption)) (of_decide_eq_true (by first | (with_reducible assumption) | assumption)); have HP36 := Kd.R_putg HO_5.out (x8_2 : Int) (wrap64 ((rd y273 x8_2) - (wrap64 (-(rd x5_1 x7_2)))))) | ((with_reducible refine gate_store (t := 3) (p := 86) rfl ?_); (try (rw [drewN_self w35]; generalize hq_ : World.drewN w35 _ = w35; have n0_ := Aside0.mk (Kd.R_at hq_ HO_5.out); have n1_ := Aside0.mk (Kd.R_at hq_ HO_6.out); have n2_ := Aside0.mk (below_at hq_ HB.out); clear hq_ HO_5 HO_6 HB; have HO_5 := n0_; have HO_6 := n1_; have HB := n2_; clear n0_ n1_ n2_; (try (obtain ⟨hy36_, hz36_⟩ := Kd.R_celln 0 HO_5.out (x8_2 : Int) (of_decide_eq_true (by first | (with_reducible assumption) | assumption)) (of_decide_eq_true (by first | (with_reducible assumption) | assumption)))); (try (have HP36 := Kd.R_putg HO_5.out (x8_2 : Int) (wrap64 ((rd y273 x8_2) - (wrap64 (-(rd x5_1 x7_2))))))))); refine store_event (t := 3) (p := 86) (v := ?vo_w37) (w1 := (w35.setCell ⟨go30, (x8_2 : Int).toNat, none⟩ (.int .i64 (wrap64 ((rd y273 x8_2) - (wrap64 (-(rd x5_1 x7_2)))))))) ?hg ?ho ?hn ?hr ?_; (case ho => rfl); (case hg => rfl); (case hn => rfl); (case hr => first | (go_simp; done) | (go_simp; rfl)); intro w37 hw; have hg : w35.grownBy w37 (some go30) := (by rw [hw]; exact HP36.2); have hp_ : Kd.R (Kd.int .i64) 3 w37 w.heap.size (fun _ => True) (.slice (some ⟨go30, 0, none⟩) x5_1.length co33) y275 := (by rw [hw, Ny275.out]; exact HP36.1); clear HP36; have n0_ := Aside0.mk (hp_); have n1_ := Aside0.mk (Kd.R_over' (v := (.slice (some ⟨go30, 0, none⟩) x5_1.length co33)) (by (with_reducible repeat (first | apply Kd.R_alloc | apply Kd.R_drewN | apply Kd.R_drew)); exact HO_6.out) (Kd.R_typed HO_5.out) (by decide) hg); have n2_ := Aside0.mk ((by rw [hw]; exact below_set (HB.out) GB30.out : Below w.heap.size w w37)); clear HO_5; clear HO_6; clear HB; have HO_5 := n0_; have HO_6 := n1_; have HB := n2_; clear n0_ n1_ n2_; clear hg hw hp_) | ((with_reducible refine gate_builtin (b := .append) (xs := #[.tmp 87, .tmp 92]) rfl ?_); at_builtin; refine Kd.R_append k44 (w0 := w) w.heap.size rfl (.tmp 87) (.tmp 92) 29 44 (.agg #[(.int .i64 0), (.int .i64 0), (.int .i64 0)]) 24 rfl Try.underlying29 info44 rfl (by decide) (by omega) (.slice Ao7 x6_1.length co7) x6_1 (⟨x7_2, x8_2, wrap64 (-(rd x5_1 x7_2))⟩ : S44) [.int .i64 x7_2, .int .i64 x8_2, .int .i64 (wrap64 (-(rd x5_1 x7_2)))] (fun _ => True) (fun _ => False) rfl rfl ?aP (fun _ hk => hk.elim) ?aF ?aO ?aB ?aS ?aL ?_; (case aP => exact k44_mkM _ _ _ (⟨x7_2, x8_2, wrap64 (-(rd x5_1 x7_2))⟩ : S44)); (case aB => exact (by repeat (first | (with_reducible first | exact HB.out | apply below_alloc | apply pw_below_drewN | apply below_drew1) | exact HB.out))); (case aF => exact (fun _ _ => trivial)); (case aO => exact (by (with_reducible repeat (first | apply Kd.R_alloc | apply Kd.R_drewN | apply Kd.R_drew)); exact HO_6.out)); (case aS => exact (below_size (by repeat (first | (with_reducible first | exact HB.out | apply below_alloc | apply pw_below_drewN | apply below_drew1) | exact HB.out)))); (case aL => have := LMc32.out; omega); intro v277 w38 ho hb hg hat; rw [← Ny276.out] at ho; have n0_ := Aside0.mk (Kd.R_over' (by (with_reducible repeat (first | apply Kd.R_alloc | apply Kd.R_drewN | apply Kd.R_drew)); exact HO_5.out) (Kd.R_typed (by (with_reducible repeat (first | apply Kd.R_alloc | apply Kd.R_drewN | apply Kd.R_drew)); exact HO_6.out)) (by decide) hg); have n1_ := Aside0.mk (hb); have n2_ := Aside0.mk (ho); clear HO_5; clear HB; clear HO_6; have HO_5 := n0_; have HB := n1_; have HO278 := n2_; clear n0_ n1_ n2_; clear ho hb hg hat)))
                                go_roundg k2
                                case measure => have := HK1.out; have := HK2.out; omega
                                case rel => exact ⟨(y275), (y276), H', ⟨by have := HK1.out; have := HK2.out; omega⟩, ⟨by (with_reducible repeat (first | apply Kd.R_alloc | apply Kd.R_drewN | apply Kd.R_drew)); exact HO_5.out⟩, ⟨by (with_reducible repeat (first | apply Kd.R_alloc | apply Kd.R_drewN | apply Kd.R_drew)); exact HO278.out⟩, ⟨by repeat (first | (with_reducible first | exact HB.out | apply below_alloc | apply pw_below_drewN | apply below_drew1) | exact HB.out)⟩⟩
                              · rw [if_neg c32] at H
                                exact absurd H (by simp)
                            · rw [if_neg c29] at H
                              have c29b0 : decide ((wrap64 (-(rd x5_1 x7_2))) < (rd x5_1 x8_2)) = false := decide_eq_false c29
                              clear c29
                              obtain ⟨y280, hy280⟩ : ∃ y_ : List Int, y_ = (x5_1.set (x7_2 : Int).toNat (wrap64 ((rd x5_1 x7_2) + (rd x5_1 x8_2)))) := ⟨_, rfl⟩
                              replace H : (if x6_1.length < 5864062014805 then (chargeparkref42_Payments.l0 k2 (y280.set (x8_2 : Int).toNat (wrap64 ((rd y280 x8_2) - (rd x5_1 x8_2)))) (x6_1 ++ [(⟨x7_2, x8_2, rd x5_1 x8_2⟩ : S44)])) else (none)) = some (r1, r2) := by first | (rw [hy280]; with_reducible exact H) | (have H2_ := (Option.bind_some _ _).symm.trans H; rw [hy280]; with_reducible exact H2_) | (have H2_ := (Option.bind_some _ _).symm.trans H; with_reducible exact H2_) | with_reducible exact H | (rw [hy280]; exact H) | exact H
                              have Ny280 := Aside0.mk hy280
                              clear hy280
                              obtain ⟨y282, hy282⟩ : ∃ y_ : List Int, y_ = (y280.set (x8_2 : Int).toNat (wrap64 ((rd y280 x8_2) - (rd x5_1 x8_2)))) := ⟨_, rfl⟩
                              replace H : (if x6_1.length < 5864062014805 then (chargeparkref42_Payments.l0 k2 y282 (x6_1 ++ [(⟨x7_2, x8_2, rd x5_1 x8_2⟩ : S44)])) else (none)) = some (r1, r2) := by first | (rw [hy282]; with_reducible exact H) | (have H2_ := (Option.bind_some _ _).symm.trans H; rw [hy282]; with_reducible exact H2_) | (have H2_ := (Option.bind_some _ _).symm.trans H; with_reducible exact H2_) | with_reducible exact H | (rw [hy282]; exact H) | exact H
                              have Ny282 := Aside0.mk hy282
                              clear hy282
                              by_cases c41 : x6_1.length < 5864062014805
                              · rw [if_pos c41] at H
                                have LMc41 := Aside0.mk c41
                                clear c41
                                obtain ⟨y283, hy283⟩ : ∃ y_ : List (S44), y_ = (x6_1 ++ [(⟨x7_2, x8_2, rd x5_1 x8_2⟩ : S44)]) := ⟨_, rfl⟩
                                replace H : (chargeparkref42_Payments.l0 k2 y282 y283) = some (r1, r2) := by first | (rw [hy283]; with_reducible exact H) | (have H2_ := (Option.bind_some _ _).symm.trans H; rw [hy283]; with_reducible exact H2_) | (have H2_ := (Option.bind_some _ _).symm.trans H; with_reducible exact H2_) | with_reducible exact H | (rw [hy283]; exact H) | exact H
                                have Ny283 := Aside0.mk hy283
                                clear hy283
                                have H' := Aside0.mk H
                                clear H
                                obtain ⟨Ao42, co42, eo42⟩ := Kd.R_slice HO_5.out
                                subst eo42
                                have p268 : 0 ≤ (x8_2 : Int) := of_decide_eq_true (by first | (with_reducible assumption) | assumption)
                                have q268 : x8_2 < (x5_1.length : Int) := of_decide_eq_true (by first | (with_reducible assumption) | assumption)
                                obtain ⟨ad268, e268, hx268_0⟩ := Kd.at_int (Kd.R_reads' HO_5.out).2.2 x8_2 p268 q268
                                cases e268
                                replace p268 := eq_true p268
                                replace q268 := eq_true q268
                                have p269 : 0 ≤ (x8_2 : Int) := of_decide_eq_true (by first | (with_reducible assumption) | assumption)
                                have q269 : x8_2 < (x5_1.length : Int) := of_decide_eq_true (by first | (with_reducible assumption) | assumption)
                                obtain ⟨ad269, e269, hx269_0⟩ := Kd.at_int (Kd.R_reads' HO_5.out).2.2 x8_2 p269 q269
                                obtain rfl : ad268 = ad269 := (by injection e269)
                                replace p269 := eq_true p269
                                replace q269 := eq_true q269
                                have p270 : 0 ≤ (x7_2 : Int) := of_decide_eq_true (by first | (with_reducible assumption) | assumption)
                                have q270 : x7_2 < (x5_1.length : Int) := of_decide_eq_true (by first | (with_reducible assumption) | assumption)
                                obtain ⟨ad270, e270, hx270_0⟩ := Kd.at_int (Kd.R_reads' HO_5.out).2.2 x7_2 p270 q270
                                obtain rfl : ad268 = ad270 := (by injection e270)
                                replace p270 := eq_true p270
                                replace q270 := eq_true q270
                                have p279 : 0 ≤ (x7_2 : Int) := of_decide_eq_true (by first | (with_reducible assumption) | assumption)
                                have q279 : x7_2 < (x5_1.length : Int) := of_decide_eq_true (by first | (with_reducible assumption) | assumption)
                                obtain ⟨ad279, e279, hx279_0⟩ := Kd.at_int (Kd.R_reads' HO_5.out).2.2 x7_2 p279 q279
                                obtain rfl : ad268 = ad279 := (by injection e279)
                                replace p279 := eq_true p279
                                replace q279 := eq_true q279
                                have p39 : 0 ≤ (x7_2 : Int) := of_decide_eq_true (by first | (with_reducible assumption) | assumption)
                                have q39 : (x7_2 : Int) < ((x5_1.length : Int) : Int) := of_decide_eq_true (by first | (with_reducible assumption) | assumption)
                                obtain ⟨go39, co39, eo39, gb39, gl39, cl39, HG39⟩ := Kd.R_form HO_5.out (by omega)
                                (first | cases eo39 | (injection eo39 with ea_ en_ ec_; (first | subst ea_ | (injection ea_ with ea_; subst ea_)); subst ec_; clear en_))
                                have GB39 := Aside0.mk gb39
                                have GG39 := Aside0.mk HG39
                                clear gb39 gl39 HG39
                                (first | simp only [add_plain] at hx268_0 | skip)
                                (first | simp only [add_plain] at hx269_0 | skip)
                                (first | simp only [add_plain] at hx270_0 | skip)
                                (first | simp only [add_plain] at hx279_0 | skip)
                                obtain ⟨hx39_0, hf39_0⟩ := Kd.R_celln 0 HO_5.out (x7_2 : Int) p39 q39
                                replace p39 := eq_true p39
                                replace q39 := eq_true q39
                                have HP43 := Kd.R_putg HO_5.out (x7_2 : Int) (wrap64 ((rd x5_1 x7_2) + (rd x5_1 x8_2)))
                                go_wp2_with (first | ((with_reducible refine gate_store (t := 3) (p := 77) rfl ?_); (try (rw [drewN_self wr]; generalize hq_ : World.drewN wr _ = wr; have n0_ := Aside0.mk (Kd.R_at hq_ HO_5.out); have n1_ := Aside0.mk (Kd.R_at hq_ HO_6.out); have n2_ := Aside0.mk (below_at hq_ HB.out); clear hq_ HO_5 HO_6 HB; have HO_5 := n0_; have HO_6 := n1_; have HB := n2_; clear n0_ n1_ n2_; (try obtain ⟨hx39_0, hf39_0⟩ := Kd.R_celln 0 HO_5.out (x7_2 : Int) (of_eq_true p39) (of_eq_true q39)); (try (have HP43 := Kd.R_putg HO_5.out (x7_2 : Int) (wrap64 ((rd x5_1 x7_2) + (rd x5_1 x8_2))))))); refine store_event (t := 3) (p := 77) (v := ?vo_w44) (w1 := (wr.setCell ⟨go39, (x7_2 : Int).toNat, none⟩ (.int .i64 (wrap64 ((rd x5_1 x7_2) + (rd x5_1 x8_2)))))) ?hg ?ho ?hn ?hr ?_; (case ho => rfl); (case hg => rfl); (case hn => rfl); (case hr => first | (go_simp; done) | (go_simp; rfl)); intro w44 hw; have hg : wr.grownBy w44 (some go39) := (by rw [hw]; exact HP43.2); have hp_ : Kd.R (Kd.int .i64) 3 w44 w.heap.size (fun _ => True) (.slice (some ⟨go39, 0, none⟩) x5_1.length co42) y280 := (by rw [hw, Ny280.out]; exact HP43.1); clear HP43; have n0_ := Aside0.mk (hp_); have n1_ := Aside0.mk (Kd.R_over' (v := (.slice (some ⟨go39, 0, none⟩) x5_1.length co42)) (by (with_reducible repeat (first | apply Kd.R_alloc | apply Kd.R_drewN | apply Kd.R_drew)); exact HO_6.out) (Kd.R_typed HO_5.out) (by decide) hg); have n2_ := Aside0.mk ((by rw [hw]; exact below_set (HB.out) GB39.out : Below w.heap.size w w44)); clear HO_5; clear HO_6; clear HB; have HO_5 := n0_; have HO_6 := n1_; have HB := n2_; clear n0_ n1_ n2_; clear hg hw hp_; have p281 : 0 ≤ (x8_2 : Int) := of_decide_eq_true (by first | (with_reducible assumption) | assumption); have q281 : x8_2 < (y280.length : Int) := (by have h_ : (x8_2 : Int) < ((x5_1.length : Int) : Int) := of_decide_eq_true (by first | (with_reducible assumption) | assumption); first | (have e_ := (Kd.R_reads' HO_5.out).1; omega) | simpa only [Ny280.out, List.length_set] using h_); have ql281 : ((x8_2 : Int) < ((x5_1.length : Int) : Int)) = True := eq_true (of_decide_eq_true (by first | (with_reducible assumption) | assumption)); obtain ⟨ad281, e281, hx281_0⟩ := Kd.at_int (Kd.R_reads' HO_5.out).2.2 x8_2 p281 q281; obtain rfl : (⟨go39, 0, none⟩ : Addr) = ad281 := (by injection e281); (first | simp only [add_plain] at hx281_0 | simp only [add_at] at hx281_0 | simp only [Addr.add, Nat.zero_add] at hx281_0 | skip); replace p281 := eq_true p281; replace q281 := eq_true q281; have p40 : 0 ≤ (x8_2 : Int) := of_decide_eq_true (by first | (with_reducible assumption) | assumption); have q40 : (x8_2 : Int) < ((x5_1.length : Int) : Int) := of_decide_eq_true (by first | (with_reducible assumption) | assumption); obtain ⟨hx40_0, hf40_0⟩ := Kd.R_celln 0 HO_5.out (x8_2 : Int) p40 q40; replace p40 := eq_true p40; replace q40 := eq_true q40; obtain ⟨hy45_, hz45_⟩ := Kd.R_celln 0 HO_5.out (x8_2 : Int) (of_decide_eq_true (by first | (with_reducible assumption) | assumption)) (of_decide_eq_true (by first | (with_reducible assumption) | assumption)); have HP45 := Kd.R_putg HO_5.out (x8_2 : Int) (wrap64 ((rd y280 x8_2) - (rd x5_1 x8_2)))) | ((with_reducible refine gate_store (t := 3) (p := 86) rfl ?_); (try (rw [drewN_self w44]; generalize hq_ : World.drewN w44 _ = w44; have n0_ := Aside0.mk (Kd.R_at hq_ HO_5.out); have n1_ := Aside0.mk (Kd.R_at hq_ HO_6.out); have n2_ := Aside0.mk (below_at hq_ HB.out); clear hq_ HO_5 HO_6 HB; have HO_5 := n0_; have HO_6 := n1_; have HB := n2_; clear n0_ n1_ n2_; (try (obtain ⟨hy45_, hz45_⟩ := Kd.R_celln 0 HO_5.out (x8_2 : Int) (of_decide_eq_true (by first | (with_reducible assumption) | assumption)) (of_decide_eq_true (by first | (with_reducible assumption) | assumption)))); (try (have HP45 := Kd.R_putg HO_5.out (x8_2 : Int) (wrap64 ((rd y280 x8_2) - (rd x5_1 x8_2))))))); refine store_event (t := 3) (p := 86) (v := ?vo_w46) (w1 := (w44.setCell ⟨go39, (x8_2 : Int).toNat, none⟩ (.int .i64 (wrap64 ((rd y280 x8_2) - (rd x5_1 x8_2)))))) ?hg ?ho ?hn ?hr ?_; (case ho => rfl); (case hg => rfl); (case hn => rfl); (case hr => first | (go_simp; done) | (go_simp; rfl)); intro w46 hw; have hg : w44.grownBy w46 (some go39) := (by rw [hw]; exact HP45.2); have hp_ : Kd.R (Kd.int .i64) 3 w46 w.heap.size (fun _ => True) (.slice (some ⟨go39, 0, none⟩) x5_1.length co42) y282 := (by rw [hw, Ny282.out]; exact HP45.1); clear HP45; have n0_ := Aside0.mk (hp_); have n1_ := Aside0.mk (Kd.R_over' (v := (.slice (some ⟨go39, 0, none⟩) x5_1.length co42)) (by (with_reducible repeat (first | apply Kd.R_alloc | apply Kd.R_drewN | apply Kd.R_drew)); exact HO_6.out) (Kd.R_typed HO_5.out) (by decide) hg); have n2_ := Aside0.mk ((by rw [hw]; exact below_set (HB.out) GB39.out : Below w.heap.size w w46)); clear HO_5; clear HO_6; clear HB; have HO_5 := n0_; have HO_6 := n1_; have HB := n2_; clear n0_ n1_ n2_; clear hg hw hp_) | ((with_reducible refine gate_builtin (b := .append) (xs := #[.tmp 87, .tmp 92]) rfl ?_); at_builtin; refine Kd.R_append k44 (w0 := w) w.heap.size rfl (.tmp 87) (.tmp 92) 29 44 (.agg #[(.int .i64 0), (.int .i64 0), (.int .i64 0)]) 24 rfl Try.underlying29 info44 rfl (by decide) (by omega) (.slice Ao7 x6_1.length co7) x6_1 (⟨x7_2, x8_2, rd x5_1 x8_2⟩ : S44) [.int .i64 x7_2, .int .i64 x8_2, .int .i64 (rd x5_1 x8_2)] (fun _ => True) (fun _ => False) rfl rfl ?aP (fun _ hk => hk.elim) ?aF ?aO ?aB ?aS ?aL ?_; (case aP => exact k44_mkM _ _ _ (⟨x7_2, x8_2, rd x5_1 x8_2⟩ : S44)); (case aB => exact (by repeat (first | (with_reducible first | exact HB.out | apply below_alloc | apply pw_below_drewN | apply below_drew1) | exact HB.out))); (case aF => exact (fun _ _ => trivial)); (case aO => exact (by (with_reducible repeat (first | apply Kd.R_alloc | apply Kd.R_drewN | apply Kd.R_drew)); exact HO_6.out)); (case aS => exact (below_size (by repeat (first | (with_reducible first | exact HB.out | apply below_alloc | apply pw_below_drewN | apply below_drew1) | exact HB.out)))); (case aL => have := LMc41.out; omega); intro v284 w47 ho hb hg hat; rw [← Ny283.out] at ho; have n0_ := Aside0.mk (Kd.R_over' (by (with_reducible repeat (first | apply Kd.R_alloc | apply Kd.R_drewN | apply Kd.R_drew)); exact HO_5.out) (Kd.R_typed (by (with_reducible repeat (first | apply Kd.R_alloc | apply Kd.R_drewN | apply Kd.R_drew)); exact HO_6.out)) (by decide) hg); have n1_ := Aside0.mk (hb); have n2_ := Aside0.mk (ho); clear HO_5; clear HB; clear HO_6; have HO_5 := n0_; have HB := n1_; have HO285 := n2_; clear n0_ n1_ n2_; clear ho hb hg hat))
                                repeat (go_quiet (first | ((with_reducible refine gate_store (t := 3) (p := 77) rfl ?_); (try (rw [drewN_self wr]; generalize hq_ : World.drewN wr _ = wr; have n0_ := Aside0.mk (Kd.R_at hq_ HO_5.out); have n1_ := Aside0.mk (Kd.R_at hq_ HO_6.out); have n2_ := Aside0.mk (below_at hq_ HB.out); clear hq_ HO_5 HO_6 HB; have HO_5 := n0_; have HO_6 := n1_; have HB := n2_; clear n0_ n1_ n2_; (try obtain ⟨hx39_0, hf39_0⟩ := Kd.R_celln 0 HO_5.out (x7_2 : Int) (of_eq_true p39) (of_eq_true q39)); (try (have HP43 := Kd.R_putg HO_5.out (x7_2 : Int) (wrap64 ((rd x5_1 x7_2) + (rd x5_1 x8_2))))))); refine store_event (t := 3) (p := 77) (v := ?vo_w44) (w1 := (wr.setCell ⟨go39, (x7_2 : Int).toNat, none⟩ (.int .i64 (wrap64 ((rd x5_1 x7_2) + (rd x5_1 x8_2)))))) ?hg ?ho ?hn ?hr ?_; (case ho => rfl); (case hg => rfl); (case hn => rfl); (case hr => first | (go_simp; done) | (go_simp; rfl)); intro w44 hw; have hg : wr.grownBy w44 (some go39) := (by rw [hw]; exact HP43.2); have hp_ : Kd.R (Kd.int .i64) 3 w44 w.heap.size (fun _ => True) (.slice (some ⟨go39, 0, none⟩) x5_1.length co42) y280 := (by rw [hw, Ny280.out]; exact HP43.1); clear HP43; have n0_ := Aside0.mk (hp_); have n1_ := Aside0.mk (Kd.R_over' (v := (.slice (some ⟨go39, 0, none⟩) x5_1.length co42)) (by (with_reducible repeat (first | apply Kd.R_alloc | apply Kd.R_drewN | apply Kd.R_drew)); exact HO_6.out) (Kd.R_typed HO_5.out) (by decide) hg); have n2_ := Aside0.mk ((by rw [hw]; exact below_set (HB.out) GB39.out : Below w.heap.size w w44)); clear HO_5; clear HO_6; clear HB; have HO_5 := n0_; have HO_6 := n1_; have HB := n2_; clear n0_ n1_ n2_; clear hg hw hp_; have p281 : 0 ≤ (x8_2 : Int) := of_decide_eq_true (by first | (with_reducible assumption) | assumption); have q281 : x8_2 < (y280.length : Int) := (by have h_ : (x8_2 : Int) < ((x5_1.length : Int) : Int) := of_decide_eq_true (by first | (with_reducible assumption) | assumption); first | (have e_ := (Kd.R_reads' HO_5.out).1; omega) | simpa only [Ny280.out, List.length_set] using h_); have ql281 : ((x8_2 : Int) < ((x5_1.length : Int) : Int)) = True := eq_true (of_decide_eq_true (by first | (with_reducible assumption) | assumption)); obtain ⟨ad281, e281, hx281_0⟩ := Kd.at_int (Kd.R_reads' HO_5.out).2.2 x8_2 p281 q281; obtain rfl : (⟨go39, 0, none⟩ : Addr) = ad281 := (by injection e281); (first | simp only [add_plain] at hx281_0 | simp only [add_at] at hx281_0 | simp only [Addr.add, Nat.zero_add] at hx281_0 | skip); replace p281 := eq_true p281; replace q281 := eq_true q281; have p40 : 0 ≤ (x8_2 : Int) := of_decide_eq_true (by first | (with_reducible assumption) | assumption); have q40 : (x8_2 : Int) < ((x5_1.length : Int) : Int) := of_decide_eq_true (by first | (with_reducible assumption) | assumption); obtain ⟨hx40_0, hf40_0⟩ := Kd.R_celln 0 HO_5.out (x8_2 : Int) p40 q40; replace p40 := eq_true p40; replace q40 := eq_true q40; obtain ⟨hy45_, hz45_⟩ := Kd.R_celln 0 HO_5.out (x8_2 : Int) (of_decide_eq_true (by first | (with_reducible assumption) | assumption)) (of_decide_eq_true (by first | (with_reducible assumption) | assumption)); have HP45 := Kd.R_putg HO_5.out (x8_2 : Int) (wrap64 ((rd y280 x8_2) - (rd x5_1 x8_2)))) | ((with_reducible refine gate_store (t := 3) (p := 86) rfl ?_); (try (rw [drewN_self w44]; generalize hq_ : World.drewN w44 _ = w44; have n0_ := Aside0.mk (Kd.R_at hq_ HO_5.out); have n1_ := Aside0.mk (Kd.R_at hq_ HO_6.out); have n2_ := Aside0.mk (below_at hq_ HB.out); clear hq_ HO_5 HO_6 HB; have HO_5 := n0_; have HO_6 := n1_; have HB := n2_; clear n0_ n1_ n2_; (try (obtain ⟨hy45_, hz45_⟩ := Kd.R_celln 0 HO_5.out (x8_2 : Int) (of_decide_eq_true (by first | (with_reducible assumption) | assumption)) (of_decide_eq_true (by first | (with_reducible assumption) | assumption)))); (try (have HP45 := Kd.R_putg HO_5.out (x8_2 : Int) (wrap64 ((rd y280 x8_2) - (rd x5_1 x8_2))))))); refine store_event (t := 3) (p := 86) (v := ?vo_w46) (w1 := (w44.setCell ⟨go39, (x8_2 : Int).toNat, none⟩ (.int .i64 (wrap64 ((rd y280 x8_2) - (rd x5_1 x8_2)))))) ?hg ?ho ?hn ?hr ?_; (case ho => rfl); (case hg => rfl); (case hn => rfl); (case hr => first | (go_simp; done) | (go_simp; rfl)); intro w46 hw; have hg : w44.grownBy w46 (some go39) := (by rw [hw]; exact HP45.2); have hp_ : Kd.R (Kd.int .i64) 3 w46 w.heap.size (fun _ => True) (.slice (some ⟨go39, 0, none⟩) x5_1.length co42) y282 := (by rw [hw, Ny282.out]; exact HP45.1); clear HP45; have n0_ := Aside0.mk (hp_); have n1_ := Aside0.mk (Kd.R_over' (v := (.slice (some ⟨go39, 0, none⟩) x5_1.length co42)) (by (with_reducible repeat (first | apply Kd.R_alloc | apply Kd.R_drewN | apply Kd.R_drew)); exact HO_6.out) (Kd.R_typed HO_5.out) (by decide) hg); have n2_ := Aside0.mk ((by rw [hw]; exact below_set (HB.out) GB39.out : Below w.heap.size w w46)); clear HO_5; clear HO_6; clear HB; have HO_5 := n0_; have HO_6 := n1_; have HB := n2_; clear n0_ n1_ n2_; clear hg hw hp_) | ((with_reducible refine gate_builtin (b := .append) (xs := #[.tmp 87, .tmp 92]) rfl ?_); at_builtin; refine Kd.R_append k44 (w0 := w) w.heap.size rfl (.tmp 87) (.tmp 92) 29 44 (.agg #[(.int .i64 0), (.int .i64 0), (.int .i64 0)]) 24 rfl Try.underlying29 info44 rfl (by decide) (by omega) (.slice Ao7 x6_1.length co7) x6_1 (⟨x7_2, x8_2, rd x5_1 x8_2⟩ : S44) [.int .i64 x7_2, .int .i64 x8_2, .int .i64 (rd x5_1 x8_2)] (fun _ => True) (fun _ => False) rfl rfl ?aP (fun _ hk => hk.elim) ?aF ?aO ?aB ?aS ?aL ?_; (case aP => exact k44_mkM _ _ _ (⟨x7_2, x8_2, rd x5_1 x8_2⟩ : S44)); (case aB => exact (by repeat (first | (with_reducible first | exact HB.out | apply below_alloc | apply pw_below_drewN | apply below_drew1) | exact HB.out))); (case aF => exact (fun _ _ => trivial)); (case aO => exact (by (with_reducible repeat (first | apply Kd.R_alloc | apply Kd.R_drewN | apply Kd.R_drew)); exact HO_6.out)); (case aS => exact (below_size (by repeat (first | (with_reducible first | exact HB.out | apply below_alloc | apply pw_below_drewN | apply below_drew1) | exact HB.out)))); (case aL => have := LMc41.out; omega); intro v284 w47 ho hb hg hat; rw [← Ny283.out] at ho; have n0_ := Aside0.mk (Kd.R_over' (by (with_reducible repeat (first | apply Kd.R_alloc | apply Kd.R_drewN | apply Kd.R_drew)); exact HO_5.out) (Kd.R_typed (by (with_reducible repeat (first | apply Kd.R_alloc | apply Kd.R_drewN | apply Kd.R_drew)); exact HO_6.out)) (by decide) hg); have n1_ := Aside0.mk (hb); have n2_ := Aside0.mk (ho); clear HO_5; clear HB; clear HO_6; have HO_5 := n0_; have HB := n1_; have HO285 := n2_; clear n0_ n1_ n2_; clear ho hb hg hat)); try go_wp2_with (first | ((with_reducible refine gate_store (t := 3) (p := 77) rfl ?_); (try (rw [drewN_self wr]; generalize hq_ : World.drewN wr _ = wr; have n0_ := Aside0.mk (Kd.R_at hq_ HO_5.out); have n1_ := Aside0.mk (Kd.R_at hq_ HO_6.out); have n2_ := Aside0.mk (below_at hq_ HB.out); clear hq_ HO_5 HO_6 HB; have HO_5 := n0_; have HO_6 := n1_; have HB := n2_; clear n0_ n1_ n2_; (try obtain ⟨hx39_0, hf39_0⟩ := Kd.R_celln 0 HO_5.out (x7_2 : Int) (of_eq_true p39) (of_eq_true q39)); (try (have HP43 := Kd.R_putg HO_5.out (x7_2 : Int) (wrap64 ((rd x5_1 x7_2) + (rd x5_1 x8_2))))))); refine store_event (t := 3) (p := 77) (v := ?vo_w44) (w1 := (wr.setCell ⟨go39, (x7_2 : Int).toNat, none⟩ (.int .i64 (wrap64 ((rd x5_1 x7_2) + (rd x5_1 x8_2)))))) ?hg ?ho ?hn ?hr ?_; (case ho => rfl); (case hg => rfl); (case hn => rfl); (case hr => first | (go_simp; done) | (go_simp; rfl)); intro w44 hw; have hg : wr.grownBy w44 (some go39) := (by rw [hw]; exact HP43.2); have hp_ : Kd.R (Kd.int .i64) 3 w44 w.heap.size (fun _ => True) (.slice (some ⟨go39, 0, none⟩) x5_1.length co42) y280 := (by rw [hw, Ny280.out]; exact HP43.1); clear HP43; have n0_ := Aside0.mk (hp_); have n1_ := Aside0.mk (Kd.R_over' (v := (.slice (some ⟨go39, 0, none⟩) x5_1.length co42)) (by (with_reducible repeat (first | apply Kd.R_alloc | apply Kd.R_drewN | apply Kd.R_drew)); exact HO_6.out) (Kd.R_typed HO_5.out) (by decide) hg); have n2_ := Aside0.mk ((by rw [hw]; exact below_set (HB.out) GB39.out : Below w.heap.size w w44)); clear HO_5; clear HO_6; clear HB; have HO_5 := n0_; have HO_6 := n1_; have HB := n2_; clear n0_ n1_ n2_; clear hg hw hp_; have p281 : 0 ≤ (x8_2 : Int) := of_decide_eq_true (by first | (with_reducible assumption) | assumption); have q281 : x8_2 < (y280.length : Int) := (by have h_ : (x8_2 : Int) < ((x5_1.length : Int) : Int) := of_decide_eq_true (by first | (with_reducible assumption) | assumption); first | (have e_ := (Kd.R_reads' HO_5.out).1; omega) | simpa only [Ny280.out, List.length_set] using h_); have ql281 : ((x8_2 : Int) < ((x5_1.length : Int) : Int)) = True := eq_true (of_decide_eq_true (by first | (with_reducible assumption) | assumption)); obtain ⟨ad281, e281, hx281_0⟩ := Kd.at_int (Kd.R_reads' HO_5.out).2.2 x8_2 p281 q281; obtain rfl : (⟨go39, 0, none⟩ : Addr) = ad281 := (by injection e281); (first | simp only [add_plain] at hx281_0 | simp only [add_at] at hx281_0 | simp only [Addr.add, Nat.zero_add] at hx281_0 | skip); replace p281 := eq_true p281; replace q281 := eq_true q281; have p40 : 0 ≤ (x8_2 : Int) := of_decide_eq_true (by first | (with_reducible assumption) | assumption); have q40 : (x8_2 : Int) < ((x5_1.length : Int) : Int) := of_decide_eq_true (by first | (with_reducible assumption) | assumption); obtain ⟨hx40_0, hf40_0⟩ := Kd.R_celln 0 HO_5.out (x8_2 : Int) p40 q40; replace p40 := eq_true p40; replace q40 := eq_true q40; obtain ⟨hy45_, hz45_⟩ := Kd.R_celln 0 HO_5.out (x8_2 : Int) (of_decide_eq_true (by first | (with_reducible assumption) | assumption)) (of_decide_eq_true (by first | (with_reducible assumption) | assumption)); have HP45 := Kd.R_putg HO_5.out (x8_2 : Int) (wrap64 ((rd y280 x8_2) - (rd x5_1 x8_2)))) | ((with_reducible refine gate_store (t := 3) (p := 86) rfl ?_); (try (rw [drewN_self w44]; generalize hq_ : World.drewN w44 _ = w44; have n0_ := Aside0.mk (Kd.R_at hq_ HO_5.out); have n1_ := Aside0.mk (Kd.R_at hq_ HO_6.out); have n2_ := Aside0.mk (below_at hq_ HB.out); clear hq_ HO_5 HO_6 HB; have HO_5 := n0_; have HO_6 := n1_; have HB := n2_; clear n0_ n1_ n2_; (try (obtain ⟨hy45_, hz45_⟩ := Kd.R_celln 0 HO_5.out (x8_2 : Int) (of_decide_eq_true (by first | (with_reducible assumption) | assumption)) (of_decide_eq_true (by first | (with_reducible assumption) | assumption)))); (try (have HP45 := Kd.R_putg HO_5.out (x8_2 : Int) (wrap64 ((rd y280 x8_2) - (rd x5_1 x8_2))))))); refine store_event (t := 3) (p := 86) (v := ?vo_w46) (w1 := (w44.setCell ⟨go39, (x8_2 : Int).toNat, none⟩ (.int .i64 (wrap64 ((rd y280 x8_2) - (rd x5_1 x8_2)))))) ?hg ?ho ?hn ?hr ?_; (case ho => rfl); (case hg => rfl); (case hn => rfl); (case hr => first | (go_simp; done) | (go_simp; rfl)); intro w46 hw; have hg : w44.grownBy w46 (some go39) := (by rw [hw]; exact HP45.2); have hp_ : Kd.R (Kd.int .i64) 3 w46 w.heap.size (fun _ => True) (.slice (some ⟨go39, 0, none⟩) x5_1.length co42) y282 := (by rw [hw, Ny282.out]; exact HP45.1); clear HP45; have n0_ := Aside0.mk (hp_); have n1_ := Aside0.mk (Kd.R_over' (v := (.slice (some ⟨go39, 0, none⟩) x5_1.length co42)) (by (with_reducible repeat (first | apply Kd.R_alloc | apply Kd.R_drewN | apply Kd.R_drew)); exact HO_6.out) (Kd.R_typed HO_5.out) (by decide) hg); have n2_ := Aside0.mk ((by rw [hw]; exact below_set (HB.out) GB39.out : Below w.heap.size w w46)); clear HO_5; clear HO_6; clear HB; have HO_5 := n0_; have HO_6 := n1_; have HB := n2_; clear n0_ n1_ n2_; clear hg hw hp_) | ((with_reducible refine gate_builtin (b := .append) (xs := #[.tmp 87, .tmp 92]) rfl ?_); at_builtin; refine Kd.R_append k44 (w0 := w) w.heap.size rfl (.tmp 87) (.tmp 92) 29 44 (.agg #[(.int .i64 0), (.int .i64 0), (.int .i64 0)]) 24 rfl Try.underlying29 info44 rfl (by decide) (by omega) (.slice Ao7 x6_1.length co7) x6_1 (⟨x7_2, x8_2, rd x5_1 x8_2⟩ : S44) [.int .i64 x7_2, .int .i64 x8_2, .int .i64 (rd x5_1 x8_2)] (fun _ => True) (fun _ => False) rfl rfl ?aP (fun _ hk => hk.elim) ?aF ?aO ?aB ?aS ?aL ?_; (case aP => exact k44_mkM _ _ _ (⟨x7_2, x8_2, rd x5_1 x8_2⟩ : S44)); (case aB => exact (by repeat (first | (with_reducible first | exact HB.out | apply below_alloc | apply pw_below_drewN | apply below_drew1) | exact HB.out))); (case aF => exact (fun _ _ => trivial)); (case aO => exact (by (with_reducible repeat (first | apply Kd.R_alloc | apply Kd.R_drewN | apply Kd.R_drew)); exact HO_6.out)); (case aS => exact (below_size (by repeat (first | (with_reducible first | exact HB.out | apply below_alloc | apply pw_below_drewN | apply below_drew1) | exact HB.out)))); (case aL => have := LMc41.out; omega); intro v284 w47 ho hb hg hat; rw [← Ny283.out] at ho; have n0_ := Aside0.mk (Kd.R_over' (by (with_reducible repeat (first | apply Kd.R_alloc | apply Kd.R_drewN | apply Kd.R_drew)); exact HO_5.out) (Kd.R_typed (by (with_reducible repeat (first | apply Kd.R_alloc | apply Kd.R_drewN | apply Kd.R_drew)); exact HO_6.out)) (by decide) hg); have n1_ := Aside0.mk (hb); have n2_ := Aside0.mk (ho); clear HO_5; clear HB; clear HO_6; have HO_5 := n0_; have HB := n1_; have HO285 := n2_; clear n0_ n1_ n2_; clear ho hb hg hat)))
                                go_roundg k2
                                case measure => have := HK1.out; have := HK2.out; omega
                                case rel => exact ⟨(y282), (y283), H', ⟨by have := HK1.out; have := HK2.out; omega⟩, ⟨by (with_reducible repeat (first | apply Kd.R_alloc | apply Kd.R_drewN | apply Kd.R_drew)); exact HO_5.out⟩, ⟨by (with_reducible repeat (first | apply Kd.R_alloc | apply Kd.R_drewN | apply Kd.R_drew)); exact HO285.out⟩, ⟨by repeat (first | (with_reducible first | exact HB.out | apply below_alloc | apply pw_below_drewN | apply below_drew1) | exact HB.out)⟩⟩
                              · rw [if_neg c41] at H
                                exact absurd H (by simp)
                          · rw [if_neg c28] at H
                            exact absurd H (by simp)
                        · rw [if_neg c27] at H
                          exact absurd H (by simp)
                    · rw [if_neg c24] at H
                      exact absurd H (by simp)
                  · rw [if_neg c23] at H
                    exact absurd H (by simp)
          · rw [if_neg c6] at H
            have c6b0 : decide ((x6_1.length : Int) < 8) = false := decide_eq_false c6
            have c6b1 : decide (x6_1.length < 8) = false := decide_eq_false (by omega)
            clear c6
            simp only [Option.some.injEq, Prod.mk.injEq] at H
            obtain ⟨rfl, rfl⟩ := H
            obtain ⟨Ao48, co48, eo48⟩ := Kd.R_slice HO_6.out
            subst eo48
            go_wp2
            repeat (go_quiet (fail); try go_wp2)
            go_ret2
            exact ⟨_, by first | rfl | (simp [errW_none, errW_some] <;> rfl) | (simp [*, errW_none, errW_some] <;> rfl), by (with_reducible repeat (first | apply Kd.R_alloc | apply Kd.R_drewN | apply Kd.R_drew)); exact HO_6.out, by repeat (first | (with_reducible first | exact HB.out | apply below_alloc | apply pw_below_drewN | apply below_drew1) | exact HB.out)⟩
    · rw [if_neg c4] at H
      exact absurd H (by simp)
  · replace c3 := Bool.eq_false_iff.mpr c3
    subst c3
    have H1 : (some (([] : List (S44)), 1)) = some (r1, r2) := by rw [if_neg (show ¬ (false = true) by decide)] at H; exact H
    clear H
    have H := H1
    clear H1
    simp only [Option.some.injEq, Prod.mk.injEq] at H
    obtain ⟨rfl, rfl⟩ := H
    go_enter Try.func13, Try.ntmps13
    go_wp2_with (first | (go_at_call 18; (with_reducible refine (chargeparkref42_Balances.calls k _ _ l0 false _ ?side1 ?side2 A2.out).mono ?_); (case side1 => repeat (first | exact HR0.out | (with_reducible refine Kd.C_alloc ?_ _) | (with_reducible refine Kd.C_drewN ?_ _) | (with_reducible refine Kd.C_drew ?_))); (case side2 => exact HC0.out); rintro e w' ⟨rfl, ⟨nd, rfl⟩⟩; (try first | exact ⟨rfl, _, World.drewN_drewN _ _ _⟩ | exact ⟨rfl, _, Eq.trans (World.drewN_drewN _ _ _) (congrArg (World.drewN _) (Nat.add_assoc _ _ _))⟩)))
    repeat (go_quiet (first | (go_at_call 18; (with_reducible refine (chargeparkref42_Balances.calls k _ _ l0 false _ ?side1 ?side2 A2.out).mono ?_); (case side1 => repeat (first | exact HR0.out | (with_reducible refine Kd.C_alloc ?_ _) | (with_reducible refine Kd.C_drewN ?_ _) | (with_reducible refine Kd.C_drew ?_))); (case side2 => exact HC0.out); rintro e w' ⟨rfl, ⟨nd, rfl⟩⟩; (try first | exact ⟨rfl, _, World.drewN_drewN _ _ _⟩ | exact ⟨rfl, _, Eq.trans (World.drewN_drewN _ _ _) (congrArg (World.drewN _) (Nat.add_assoc _ _ _))⟩))); try go_wp2_with (first | (go_at_call 18; (with_reducible refine (chargeparkref42_Balances.calls k _ _ l0 false _ ?side1 ?side2 A2.out).mono ?_); (case side1 => repeat (first | exact HR0.out | (with_reducible refine Kd.C_alloc ?_ _) | (with_reducible refine Kd.C_drewN ?_ _) | (with_reducible refine Kd.C_drew ?_))); (case side2 => exact HC0.out); rintro e w' ⟨rfl, ⟨nd, rfl⟩⟩; (try first | exact ⟨rfl, _, World.drewN_drewN _ _ _⟩ | exact ⟨rfl, _, Eq.trans (World.drewN_drewN _ _ _) (congrArg (World.drewN _) (Nat.add_assoc _ _ _))⟩))))
    go_ret2
    exact ⟨_, by first | rfl | (simp [errW_none, errW_some] <;> rfl) | (simp [*, errW_none, errW_some] <;> rfl), by first | exact Kd.R_nil _ _ _ _ _ | exact Kd.N_nil _ _ _ _ _ | exact Kd.V_nil _ _ _ _ _ | exact Kd.Q_nil _ _ _ _ _ | exact Kd.S_nil _ _ _ _ _, by repeat (first | (with_reducible first | exact HB.out | apply below_alloc | apply pw_below_drewN | apply below_drew1) | exact HB.out)⟩


end Go.Proofs.Ytanaaphabeonoaa.PAll
