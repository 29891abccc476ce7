-- Written by a program of this session (xprint.py, over the kit's print.py), with contracts proved by hand.
import Derived.Test.YtanaaphabeonoaaPAllx0
import Derived.Test.YtanaaphabeonoaaPAllx3
import Derived.Test.YtanaaphabeonoaaPAllx4
namespace Go.Proofs.Ytanaaphabeonoaa.PAll
open Go.RowKit Go.Proofs.Ytanaaphabeonoaa.Open Go.Proofs.YtanaaphabeonoaaW.PrintWords Go.Proofs.YtanaaphabeonoaaW.PrintLast Go.Proofs.YtanaaphabeonoaaW.PrintMore
attribute [local go_sem] max2_int min2_int max_two min_two max_three min_three max_four min_four   -- for this text's walks alone
set_option linter.unusedVariables false
set_option linter.unusedSimpArgs false

-- NOT PRINTED: function 6 (chargeparklaw42_SettlePayments)

/-! ### chargeparklaw42_SettleTwice: function 7 -/
mutual
def chargeparklaw42_SettleTwice.j0 : Nat → List (S40) → Int → Int → Int → Int → Bool → Bool → Option (Bool)
  | 0, _, _, _, _, _, _, _ => none
  | k + 1, x0, x1, x2, x3, x4, x11, x34 => if x34 = true then (some x11) else ((settle_Net.f x0 x1).bind fun bt390 => (if (x0.length : Int) = 0 then (none) else (if 0 ≤ (Int.tmod x2 (x0.length : Int)) then (if (Int.tmod x2 (x0.length : Int)) < (x0.length : Int) then ((chargeparklaw42_record.f ((rd_T40 x0 (Int.tmod x2 (x0.length : Int))).f0) x3 ((rd_T40 x0 (Int.tmod x2 (x0.length : Int))).f4) x4).bind fun bt396 => ((chargeparkref42_Settles.f bt396.1 bt396.2.1 bt396.2.2.1 bt396.2.2.2.1 bt396.2.2.2.2.1 bt396.2.2.2.2.2.1 bt396.2.2.2.2.2.2.1 bt396.2.2.2.2.2.2.2.1 bt396.2.2.2.2.2.2.2.2.1 bt396.2.2.2.2.2.2.2.2.2.1 bt396.2.2.2.2.2.2.2.2.2.2.1 bt396.2.2.2.2.2.2.2.2.2.2.2.1 bt396.2.2.2.2.2.2.2.2.2.2.2.2 x1).bind fun t410 => (if bt390.2 = 0 then (chargeparklaw42_SettleTwice.j1 k x0 x1 x11 bt390.1 (!t410) bt396.1 bt396.2.1 bt396.2.2.1 bt396.2.2.2.1 bt396.2.2.2.2.1 bt396.2.2.2.2.2.1 bt396.2.2.2.2.2.2.1 bt396.2.2.2.2.2.2.2.1 bt396.2.2.2.2.2.2.2.2.1 bt396.2.2.2.2.2.2.2.2.2.1 bt396.2.2.2.2.2.2.2.2.2.2.1 bt396.2.2.2.2.2.2.2.2.2.2.2.1 bt396.2.2.2.2.2.2.2.2.2.2.2.2) else (chargeparklaw42_SettleTwice.j1 k x0 x1 x11 bt390.1 true bt396.1 bt396.2.1 bt396.2.2.1 bt396.2.2.2.1 bt396.2.2.2.2.1 bt396.2.2.2.2.2.1 bt396.2.2.2.2.2.2.1 bt396.2.2.2.2.2.2.2.1 bt396.2.2.2.2.2.2.2.2.1 bt396.2.2.2.2.2.2.2.2.2.1 bt396.2.2.2.2.2.2.2.2.2.2.1 bt396.2.2.2.2.2.2.2.2.2.2.2.1 bt396.2.2.2.2.2.2.2.2.2.2.2.2)))) else (none)) else (none))))
def chargeparklaw42_SettleTwice.j1 : Nat → List (S40) → Int → Bool → List Int → Bool → Int → Int → Int → Int → Int → Int → Int → Int → Int → Int → Int → Int → Int → Option (Bool)
  | 0, _, _, _, _, _, _, _, _, _, _, _, _, _, _, _, _, _, _ => none
  | k + 1, x0, x1, x11, x12, x64, x410000, x410001, x410002, x410003, x410004, x410005, x410006, x410007, x410008, x410009, x410010, x410011, x410012 => if x64 = true then (some x11) else (if 64 ≤ 2706490160679 then ((some (([] : List (S40)) : List (S40))).bind fun y411 => (if y411.length + x0.length < 1353245080339 then ((some (y411 ++ x0 : List (S40))).bind fun y414 => ((some (([(⟨x410000, x410001, x410002, x410003, x410004, x410005, x410006, x410007, x410008, (⟨x410009, x410010, x410011, x410012⟩ : S38)⟩ : S40)] : List (S40)) : List (S40))).bind fun y417 => (if y414.length + y417.length < 1353245080339 then ((some (y414 ++ y417 : List (S40))).bind fun y420 => ((settle_Net.f y420 x1).bind fun bt423 => (if 0 ≤ (x0.length : Int) then (if (x0.length : Int) ≤ (y420.length : Int) then ((settle_Net.f (y420.take ((x0.length : Int) : Int).toNat) x1).bind fun bt431 => (if x11 = true then (if bt423.2 = 5 then (if (bt423.1.length : Int) = 0 then (if bt431.2 = 0 then ((chargeparkref42_Ints.f k x12 bt431.1).bind fun t435 => (some t435)) else (none)) else (none)) else (none)) else (none))) else (none)) else (none)))) else (none)))) else (none))) else (none))
end
def chargeparklaw42_SettleTwice.f (k : Nat) (l0 : List (S40)) (a1 : Int) (a2 : Int) (a3 : Int) (a4 : Int) : Option (Bool) := (chargeparklaw42_head.f k).bind fun t389 => (if (l0.length : Int) = 0 then (chargeparklaw42_SettleTwice.j0 k l0 a1 a2 a3 a4 t389 true) else (if (l0.length : Int) > 63 then (chargeparklaw42_SettleTwice.j0 k l0 a1 a2 a3 a4 t389 true) else (chargeparklaw42_SettleTwice.j0 k l0 a1 a2 a3 a4 t389 (decide (a2 < 0)))))
theorem chargeparklaw42_SettleTwice.mono_l : ∀ k, (∀ y0 y1 y2 y3 y4 y5 y6, LeO (chargeparklaw42_SettleTwice.j0 k y0 y1 y2 y3 y4 y5 y6) (chargeparklaw42_SettleTwice.j0 (k + 1) y0 y1 y2 y3 y4 y5 y6)) ∧ (∀ y0 y1 y2 y3 y4 y5 y6 y7 y8 y9 y10 y11 y12 y13 y14 y15 y16 y17, LeO (chargeparklaw42_SettleTwice.j1 k y0 y1 y2 y3 y4 y5 y6 y7 y8 y9 y10 y11 y12 y13 y14 y15 y16 y17) (chargeparklaw42_SettleTwice.j1 (k + 1) y0 y1 y2 y3 y4 y5 y6 y7 y8 y9 y10 y11 y12 y13 y14 y15 y16 y17))
  | 0 => ⟨fun _ _ _ _ _ _ _ r h => by simp [chargeparklaw42_SettleTwice.j0] at h, fun _ _ _ _ _ _ _ _ _ _ _ _ _ _ _ _ _ _ r h => by simp [chargeparklaw42_SettleTwice.j1] at h⟩
  | k + 1 => by
    obtain ⟨ih0, ih1⟩ := chargeparklaw42_SettleTwice.mono_l k
    refine ⟨?_, ?_⟩
    · intro y0 y1 y2 y3 y4 y5 y6
      unfold chargeparklaw42_SettleTwice.j0
      repeat' first
      | (with_reducible exact ih0 _ _ _ _ _ _ _)
      | (with_reducible exact ih1 _ _ _ _ _ _ _ _ _ _ _ _ _ _ _ _ _ _)
      | (with_reducible exact chargeparklaw42_head.mono _)
      | (with_reducible exact chargeparkref42_Ints.mono _ _ _)
      | (with_reducible exact LeO.refl _)
      | (with_reducible exact LeO.none _)
      | (with_reducible refine LeO.ite ?_ ?_)
      | (with_reducible refine LeO.bind ?_ (fun _ => ?_))
      | exact ih0 _ _ _ _ _ _ _
      | exact ih1 _ _ _ _ _ _ _ _ _ _ _ _ _ _ _ _ _ _
      | exact chargeparklaw42_head.mono _
      | exact chargeparkref42_Ints.mono _ _ _
      | exact LeO.none _
      | refine LeO.ite ?_ ?_
      | refine LeO.bind ?_ (fun _ => ?_)
    · intro y0 y1 y2 y3 y4 y5 y6 y7 y8 y9 y10 y11 y12 y13 y14 y15 y16 y17
      unfold chargeparklaw42_SettleTwice.j1
      repeat' first
      | (with_reducible exact ih0 _ _ _ _ _ _ _)
      | (with_reducible exact ih1 _ _ _ _ _ _ _ _ _ _ _ _ _ _ _ _ _ _)
      | (with_reducible exact chargeparklaw42_head.mono _)
      | (with_reducible exact chargeparkref42_Ints.mono _ _ _)
      | (with_reducible exact LeO.refl _)
      | (with_reducible exact LeO.none _)
      | (with_reducible refine LeO.ite ?_ ?_)
      | (with_reducible refine LeO.bind ?_ (fun _ => ?_))
      | exact ih0 _ _ _ _ _ _ _
      | exact ih1 _ _ _ _ _ _ _ _ _ _ _ _ _ _ _ _ _ _
      | exact chargeparklaw42_head.mono _
      | exact chargeparkref42_Ints.mono _ _ _
      | exact LeO.none _
      | refine LeO.ite ?_ ?_
      | refine LeO.bind ?_ (fun _ => ?_)
theorem chargeparklaw42_SettleTwice.mono : ∀ a0 a1 a2 a3 a4 k, LeO (chargeparklaw42_SettleTwice.f k a0 a1 a2 a3 a4) (chargeparklaw42_SettleTwice.f (k + 1) a0 a1 a2 a3 a4) := by
  intro a0 a1 a2 a3 a4 k
  obtain ⟨ih0, ih1⟩ := chargeparklaw42_SettleTwice.mono_l k
  unfold chargeparklaw42_SettleTwice.f
  repeat' first
      | (with_reducible exact ih0 _ _ _ _ _ _ _)
      | (with_reducible exact ih1 _ _ _ _ _ _ _ _ _ _ _ _ _ _ _ _ _ _)
      | (with_reducible exact chargeparklaw42_head.mono _)
      | (with_reducible exact chargeparkref42_Ints.mono _ _ _)
      | (with_reducible exact LeO.refl _)
      | (with_reducible exact LeO.none _)
      | (with_reducible refine LeO.ite ?_ ?_)
      | (with_reducible refine LeO.bind ?_ (fun _ => ?_))
      | exact ih0 _ _ _ _ _ _ _
      | exact ih1 _ _ _ _ _ _ _ _ _ _ _ _ _ _ _ _ _ _
      | exact chargeparklaw42_head.mono _
      | exact chargeparkref42_Ints.mono _ _ _
      | exact LeO.none _
      | refine LeO.ite ?_ ?_
      | refine LeO.bind ?_ (fun _ => ?_)
set_option maxHeartbeats 8000000 in
set_option maxRecDepth 100000 in
theorem chargeparklaw42_SettleTwice.calls (k : Nat) (A0 : Option Addr) (c0 : Nat) (l0 : List (S40)) (a1 : Int) (a2 : Int) (a3 : Int) (a4 : Int) (r : Bool) (w : World) (hr0 : Kd.C k40 w A0 l0.length l0) (hc0 : l0.length ≤ c0) (h : chargeparklaw42_SettleTwice.f k l0 a1 a2 a3 a4 = some r) :
    Calls Try.prog 7 #[.slice A0 l0.length c0, .int .i64 a1, .int .i64 a2, .int .i64 a3, .int .i64 a4] w fun e w' => e = .returned (.bool r) ∧ Below w.heap.size w w' := by
  have hu40 := Try.underlying40
  have HR0 := Aside0.mk hr0
  have HC0 := Aside0.mk hc0
  clear hr0 hc0
  have HB := Aside0.mk (Below.refl w.heap.size w)
  have H : ((chargeparklaw42_head.f k).bind fun t389 => (if (l0.length : Int) = 0 then (chargeparklaw42_SettleTwice.j0 k l0 a1 a2 a3 a4 t389 true) else (if (l0.length : Int) > 63 then (chargeparklaw42_SettleTwice.j0 k l0 a1 a2 a3 a4 t389 true) else (chargeparklaw42_SettleTwice.j0 k l0 a1 a2 a3 a4 t389 (decide (a2 < 0)))))) = some r := h
  clear h
  replace H := Option.bind_eq_some_iff.mp H
  obtain ⟨t389, A60, H⟩ := H
  replace H : (if (l0.length : Int) = 0 then (chargeparklaw42_SettleTwice.j0 k l0 a1 a2 a3 a4 t389 true) else (if (l0.length : Int) > 63 then (chargeparklaw42_SettleTwice.j0 k l0 a1 a2 a3 a4 t389 true) else (chargeparklaw42_SettleTwice.j0 k l0 a1 a2 a3 a4 t389 (decide (a2 < 0))))) = some r := H
  have A6 := Aside0.mk A60
  clear A60
  have HC7 := Aside0.mk H
  clear H
  go_enter Try.func7, Try.ntmps7
  go_upto_region 2 with (first | ((with_reducible refine gate_callee (f := 9) rfl ?_); refine goesL_ (some 22) rfl rfl Try.func9 (by kernel_rfl) rfl #[] rfl (by (try simp only [List.map_toArray, List.map_cons, List.map_nil]); first | done | rfl | (simp only [List.length_drop, List.length_take]; rfl)) ?_; (with_reducible refine (chargeparklaw42_head.calls k  t389 _ A6.out).mono ?_); rintro e w8 ⟨rfl, hb⟩; refine ⟨_, rfl, ?_⟩; have n0_ := Aside0.mk (below_step (by repeat (first | (with_reducible first | exact HB.out | apply below_alloc | apply pw_below_drewN | apply below_drew1) | exact HB.out)) hb); clear HB; have HB := n0_; clear n0_; (try clear hb); (try clear hb2); (try clear hk); (try clear hi)))
  (try simp only [Act.put, List.setIfInBounds_toArray, List.set_cons_zero, List.set_cons_succ])
  go_cut [34] (fun v34 wc => ∃ (kq : Nat) (x34_6 : Bool), v34 = .bool x34_6 ∧ Aside0 (chargeparklaw42_SettleTwice.j0 kq l0 a1 a2 a3 a4 t389 x34_6 = some r) ∧ Aside0 (kq ≤ k) ∧ Aside0 (Below w.heap.size w wc))
  case first =>
    have H := HC7.out
    clear HC7
    by_cases c9 : (l0.length : Int) = 0
    · rw [if_pos c9] at H
      have c9b0 : ((l0.length : Int) == 0) = true := beq_iff_eq.mpr c9
      have c9b1 : ((l0.length : Int) != 0) = false := bne_eq_false_iff_eq.mpr c9
      clear c9
      (first | rw [c9b0] | (simp only [i64_w, i32_w]; rw [c9b0]) | skip)
      have H' := Aside0.mk H
      clear H
      go_wp2
      go_meet
      case rel => exact ⟨_, (true), (by first | rfl | (simp; done) | (simp [*]; done)), H', ⟨by first | omega | exact Nat.le_refl _⟩, ⟨by repeat (first | (with_reducible first | exact HB.out | apply below_alloc | apply pw_below_drewN | apply below_drew1) | exact HB.out)⟩⟩
    · rw [if_neg c9] at H
      have c9b0 : ((l0.length : Int) == 0) = false := beq_eq_false_iff_ne.mpr c9
      have c9b1 : ((l0.length : Int) != 0) = true := bne_iff_ne.mpr c9
      have c9b2 : ¬ (l0 = []) := fun h_ => c9 (by rw [h_]; rfl)
      (first | rw [c9b0] | (simp only [i64_w, i32_w]; rw [c9b0]) | skip)
      by_cases c10 : (l0.length : Int) > 63
      · rw [if_pos c10] at H
        have c10b0 : decide (63 < (l0.length : Int)) = true := decide_eq_true c10
        have c10b1 : decide (63 < l0.length) = true := decide_eq_true (by omega)
        clear c10
        have H' := Aside0.mk H
        clear H
        go_wp2
        go_meet
        case rel => exact ⟨_, (true), (by first | rfl | (simp; done) | (simp [*]; done)), H', ⟨by first | omega | exact Nat.le_refl _⟩, ⟨by repeat (first | (with_reducible first | exact HB.out | apply below_alloc | apply pw_below_drewN | apply below_drew1) | exact HB.out)⟩⟩
      · rw [if_neg c10] at H
        have c10b0 : decide (63 < (l0.length : Int)) = false := decide_eq_false c10
        have c10b1 : decide (63 < l0.length) = false := decide_eq_false (by omega)
        clear c10
        have H' := Aside0.mk H
        clear H
        go_wp2
        go_meet
        case rel => exact ⟨_, (decide (a2 < 0)), (by first | rfl | (simp; done) | (simp [*]; done)), H', ⟨by first | omega | exact Nat.le_refl _⟩, ⟨by repeat (first | (with_reducible first | exact HB.out | apply below_alloc | apply pw_below_drewN | apply below_drew1) | exact HB.out)⟩⟩
  case rest =>
    clear HC7
    try clear c1
    try clear p2
    try clear c7
    try clear c9
    try clear c9b0
    try clear c9b1
    try clear c9b2
    try clear c10
    try clear c10b0
    try clear c10b1
    obtain ⟨kq, x34_6, rfl, HA, HJ6, HB⟩ := hcut
    cases kq with
    | zero => exact absurd HA.out (by simp [chargeparklaw42_SettleTwice.j0])
    | succ kj6 =>
      have H := HA.out
      clear HA
      simp only [chargeparklaw42_SettleTwice.j0] at H
      by_cases c11 : x34_6 = true
      · subst c11
        have H1 : (some t389) = some r := by rw [if_pos rfl] at H; exact H
        clear H
        have H := H1
        clear H1
        obtain rfl := Option.some.inj H
        go_wp2
        go_ret
        exact ⟨by first | rfl | (simp [errW_none, errW_some] <;> rfl) | (simp [*, errW_none, errW_some] <;> rfl), by repeat (first | (with_reducible first | exact HB.out | apply below_alloc | apply pw_below_drewN | apply below_drew1) | exact HB.out)⟩
      · replace c11 := Bool.eq_false_iff.mpr c11
        subst c11
        have H1 : ((settle_Net.f l0 a1).bind fun bt390 => (if (l0.length : Int) = 0 then (none) else (if 0 ≤ (Int.tmod a2 (l0.length : Int)) then (if (Int.tmod a2 (l0.length : Int)) < (l0.length : Int) then ((chargeparklaw42_record.f ((rd_T40 l0 (Int.tmod a2 (l0.length : Int))).f0) a3 ((rd_T40 l0 (Int.tmod a2 (l0.length : Int))).f4) a4).bind fun bt396 => ((chargeparkref42_Settles.f bt396.1 bt396.2.1 bt396.2.2.1 bt396.2.2.2.1 bt396.2.2.2.2.1 bt396.2.2.2.2.2.1 bt396.2.2.2.2.2.2.1 bt396.2.2.2.2.2.2.2.1 bt396.2.2.2.2.2.2.2.2.1 bt396.2.2.2.2.2.2.2.2.2.1 bt396.2.2.2.2.2.2.2.2.2.2.1 bt396.2.2.2.2.2.2.2.2.2.2.2.1 bt396.2.2.2.2.2.2.2.2.2.2.2.2 a1).bind fun t410 => (if bt390.2 = 0 then (chargeparklaw42_SettleTwice.j1 kj6 l0 a1 t389 bt390.1 (!t410) bt396.1 bt396.2.1 bt396.2.2.1 bt396.2.2.2.1 bt396.2.2.2.2.1 bt396.2.2.2.2.2.1 bt396.2.2.2.2.2.2.1 bt396.2.2.2.2.2.2.2.1 bt396.2.2.2.2.2.2.2.2.1 bt396.2.2.2.2.2.2.2.2.2.1 bt396.2.2.2.2.2.2.2.2.2.2.1 bt396.2.2.2.2.2.2.2.2.2.2.2.1 bt396.2.2.2.2.2.2.2.2.2.2.2.2) else (chargeparklaw42_SettleTwice.j1 kj6 l0 a1 t389 bt390.1 true bt396.1 bt396.2.1 bt396.2.2.1 bt396.2.2.2.1 bt396.2.2.2.2.1 bt396.2.2.2.2.2.1 bt396.2.2.2.2.2.2.1 bt396.2.2.2.2.2.2.2.1 bt396.2.2.2.2.2.2.2.2.1 bt396.2.2.2.2.2.2.2.2.2.1 bt396.2.2.2.2.2.2.2.2.2.2.1 bt396.2.2.2.2.2.2.2.2.2.2.2.1 bt396.2.2.2.2.2.2.2.2.2.2.2.2)))) else (none)) else (none)))) = some r := by rw [if_neg (show ¬ (false = true) by decide)] at H; exact H
        clear H
        have H := H1
        clear H1
        replace H := Option.bind_eq_some_iff.mp H
        obtain ⟨⟨t390, t391⟩, A120, H⟩ := H
        replace H : (if (l0.length : Int) = 0 then (none) else (if 0 ≤ (Int.tmod a2 (l0.length : Int)) then (if (Int.tmod a2 (l0.length : Int)) < (l0.length : Int) then ((chargeparklaw42_record.f ((rd_T40 l0 (Int.tmod a2 (l0.length : Int))).f0) a3 ((rd_T40 l0 (Int.tmod a2 (l0.length : Int))).f4) a4).bind fun bt396 => ((chargeparkref42_Settles.f bt396.1 bt396.2.1 bt396.2.2.1 bt396.2.2.2.1 bt396.2.2.2.2.1 bt396.2.2.2.2.2.1 bt396.2.2.2.2.2.2.1 bt396.2.2.2.2.2.2.2.1 bt396.2.2.2.2.2.2.2.2.1 bt396.2.2.2.2.2.2.2.2.2.1 bt396.2.2.2.2.2.2.2.2.2.2.1 bt396.2.2.2.2.2.2.2.2.2.2.2.1 bt396.2.2.2.2.2.2.2.2.2.2.2.2 a1).bind fun t410 => (if t391 = 0 then (chargeparklaw42_SettleTwice.j1 kj6 l0 a1 t389 t390 (!t410) bt396.1 bt396.2.1 bt396.2.2.1 bt396.2.2.2.1 bt396.2.2.2.2.1 bt396.2.2.2.2.2.1 bt396.2.2.2.2.2.2.1 bt396.2.2.2.2.2.2.2.1 bt396.2.2.2.2.2.2.2.2.1 bt396.2.2.2.2.2.2.2.2.2.1 bt396.2.2.2.2.2.2.2.2.2.2.1 bt396.2.2.2.2.2.2.2.2.2.2.2.1 bt396.2.2.2.2.2.2.2.2.2.2.2.2) else (chargeparklaw42_SettleTwice.j1 kj6 l0 a1 t389 t390 true bt396.1 bt396.2.1 bt396.2.2.1 bt396.2.2.2.1 bt396.2.2.2.2.1 bt396.2.2.2.2.2.1 bt396.2.2.2.2.2.2.1 bt396.2.2.2.2.2.2.2.1 bt396.2.2.2.2.2.2.2.2.1 bt396.2.2.2.2.2.2.2.2.2.1 bt396.2.2.2.2.2.2.2.2.2.2.1 bt396.2.2.2.2.2.2.2.2.2.2.2.1 bt396.2.2.2.2.2.2.2.2.2.2.2.2)))) else (none)) else (none))) = some r := H
        have A12 := Aside0.mk A120
        clear A120
        by_cases c13 : (l0.length : Int) = 0
        · rw [if_pos c13] at H
          exact absurd H (by simp)
        · rw [if_neg c13] at H
          have c13b0 : ((l0.length : Int) == 0) = false := beq_eq_false_iff_ne.mpr c13
          have c13b1 : ((l0.length : Int) != 0) = true := bne_iff_ne.mpr c13
          have c13b2 : ¬ (l0 = []) := fun h_ => c13 (by rw [h_]; rfl)
          obtain ⟨ji14, hji14⟩ : ∃ j_ : Int, (Int.tmod a2 (l0.length : Int)) = j_ := ⟨_, rfl⟩
          replace H : (if 0 ≤ (ji14) then (if (ji14) < (l0.length : Int) then ((chargeparklaw42_record.f ((rd_T40 l0 (ji14)).f0) a3 ((rd_T40 l0 (ji14)).f4) a4).bind fun bt396 => ((chargeparkref42_Settles.f bt396.1 bt396.2.1 bt396.2.2.1 bt396.2.2.2.1 bt396.2.2.2.2.1 bt396.2.2.2.2.2.1 bt396.2.2.2.2.2.2.1 bt396.2.2.2.2.2.2.2.1 bt396.2.2.2.2.2.2.2.2.1 bt396.2.2.2.2.2.2.2.2.2.1 bt396.2.2.2.2.2.2.2.2.2.2.1 bt396.2.2.2.2.2.2.2.2.2.2.2.1 bt396.2.2.2.2.2.2.2.2.2.2.2.2 a1).bind fun t410 => (if t391 = 0 then (chargeparklaw42_SettleTwice.j1 kj6 l0 a1 t389 t390 (!t410) bt396.1 bt396.2.1 bt396.2.2.1 bt396.2.2.2.1 bt396.2.2.2.2.1 bt396.2.2.2.2.2.1 bt396.2.2.2.2.2.2.1 bt396.2.2.2.2.2.2.2.1 bt396.2.2.2.2.2.2.2.2.1 bt396.2.2.2.2.2.2.2.2.2.1 bt396.2.2.2.2.2.2.2.2.2.2.1 bt396.2.2.2.2.2.2.2.2.2.2.2.1 bt396.2.2.2.2.2.2.2.2.2.2.2.2) else (chargeparklaw42_SettleTwice.j1 kj6 l0 a1 t389 t390 true bt396.1 bt396.2.1 bt396.2.2.1 bt396.2.2.2.1 bt396.2.2.2.2.1 bt396.2.2.2.2.2.1 bt396.2.2.2.2.2.2.1 bt396.2.2.2.2.2.2.2.1 bt396.2.2.2.2.2.2.2.2.1 bt396.2.2.2.2.2.2.2.2.2.1 bt396.2.2.2.2.2.2.2.2.2.2.1 bt396.2.2.2.2.2.2.2.2.2.2.2.1 bt396.2.2.2.2.2.2.2.2.2.2.2.2)))) else (none)) else (none)) = some r := by first | (rw [hji14] at H; exact H) | (simp only [hji14] at H ⊢; exact H)
          (try rw [hji14] at A12)
          by_cases c15 : 0 ≤ (ji14)
          · rw [if_pos c15] at H
            have c15b0 : decide (0 ≤ (ji14)) = true := decide_eq_true c15
            clear c15
            by_cases c16 : (ji14) < (l0.length : Int)
            · rw [if_pos c16] at H
              have c16b0 : decide ((ji14) < (l0.length : Int)) = true := decide_eq_true c16
              clear c16
              replace H := Option.bind_eq_some_iff.mp H
              obtain ⟨⟨t396, t397, t398, t399, t400, t401, t402, t403, t404, t405, t406, t407, t408⟩, A170, H⟩ := H
              replace H : ((chargeparkref42_Settles.f t396 t397 t398 t399 t400 t401 t402 t403 t404 t405 t406 t407 t408 a1).bind fun t410 => (if t391 = 0 then (chargeparklaw42_SettleTwice.j1 kj6 l0 a1 t389 t390 (!t410) t396 t397 t398 t399 t400 t401 t402 t403 t404 t405 t406 t407 t408) else (chargeparklaw42_SettleTwice.j1 kj6 l0 a1 t389 t390 true t396 t397 t398 t399 t400 t401 t402 t403 t404 t405 t406 t407 t408))) = some r := H
              have A17 := Aside0.mk A170
              clear A170
              replace H := Option.bind_eq_some_iff.mp H
              obtain ⟨t410, A180, H⟩ := H
              replace H : (if t391 = 0 then (chargeparklaw42_SettleTwice.j1 kj6 l0 a1 t389 t390 (!t410) t396 t397 t398 t399 t400 t401 t402 t403 t404 t405 t406 t407 t408) else (chargeparklaw42_SettleTwice.j1 kj6 l0 a1 t389 t390 true t396 t397 t398 t399 t400 t401 t402 t403 t404 t405 t406 t407 t408)) = some r := H
              have A18 := Aside0.mk A180
              clear A180
              have HC19 := Aside0.mk H
              clear H
              go_upto_region 8 with (first | ((with_reducible refine gate_callee (f := 10) rfl ?_); refine goesL_ (some 39) rfl rfl Try.func10 (by kernel_rfl) rfl #[.slice A0 l0.length c0, .int .i64 a1] rfl (by (try simp only [List.map_toArray, List.map_cons, List.map_nil]); first | done | rfl | (simp only [List.length_drop, List.length_take]; rfl)) ?_; (with_reducible refine (settle_Net.calls _ _ l0 a1 t390 t391 _ ?side1 ?side2 A12.out).mono ?_); (case side1 => repeat (first | exact (Kd.C_below HR0.out HB.out) | (with_reducible refine Kd.C_alloc ?_ _) | (with_reducible refine Kd.C_drewN ?_ _) | (with_reducible refine Kd.C_drew ?_))); (case side2 => exact HC0.out); rintro e w20 ⟨v392, rfl, ho0, hb⟩; refine ⟨_, rfl, ?_⟩; have n0_ := Aside0.mk (Kd.R_lower ho0 (below_size (by repeat (first | (with_reducible first | exact HB.out | apply below_alloc | apply pw_below_drewN | apply below_drew1) | exact HB.out)))); have n1_ := Aside0.mk (below_step (by repeat (first | (with_reducible first | exact HB.out | apply below_alloc | apply pw_below_drewN | apply below_drew1) | exact HB.out)) hb); clear HB; have HO393 := n0_; have HB := n1_; clear n0_ n1_; (try clear hb); (try clear hb2); (try clear hk); (try clear hi); (try clear ho0); have p394 : 0 ≤ ((ji14) : Int) := of_decide_eq_true (by first | (with_reducible assumption) | assumption); have q394 : (ji14) < (l0.length : Int) := of_decide_eq_true (by first | (with_reducible assumption) | assumption); obtain ⟨ad394, e394, hx394_0, hx394_1, hx394_2, hx394_3, hx394_4, hx394_5, hx394_6, hx394_7, hx394_8, hx394_9, hx394_10, hx394_11, hx394_12⟩ := at_T40 HR0.out (ji14) p394 q394; cases e394; replace hx394_0 := (HB.out.cell (World.block_lt_of_cell? w _ hx394_0)).trans hx394_0; replace hx394_1 := (HB.out.cell (World.block_lt_of_cell? w _ hx394_1)).trans hx394_1; replace hx394_2 := (HB.out.cell (World.block_lt_of_cell? w _ hx394_2)).trans hx394_2; replace hx394_3 := (HB.out.cell (World.block_lt_of_cell? w _ hx394_3)).trans hx394_3; replace hx394_4 := (HB.out.cell (World.block_lt_of_cell? w _ hx394_4)).trans hx394_4; replace hx394_5 := (HB.out.cell (World.block_lt_of_cell? w _ hx394_5)).trans hx394_5; replace hx394_6 := (HB.out.cell (World.block_lt_of_cell? w _ hx394_6)).trans hx394_6; replace hx394_7 := (HB.out.cell (World.block_lt_of_cell? w _ hx394_7)).trans hx394_7; replace hx394_8 := (HB.out.cell (World.block_lt_of_cell? w _ hx394_8)).trans hx394_8; replace hx394_9 := (HB.out.cell (World.block_lt_of_cell? w _ hx394_9)).trans hx394_9; replace hx394_10 := (HB.out.cell (World.block_lt_of_cell? w _ hx394_10)).trans hx394_10; replace hx394_11 := (HB.out.cell (World.block_lt_of_cell? w _ hx394_11)).trans hx394_11; replace hx394_12 := (HB.out.cell (World.block_lt_of_cell? w _ hx394_12)).trans hx394_12; replace p394 := eq_true p394; replace q394 := eq_true q394) | ((with_reducible refine gate_dst (N := 14) rfl ?_); (try (refine gate_guard (by rfl) ?_; dsimp only)); refine box_event ?hg (N := 14) ?hd (cs := #[.int .i64 0, .int .i64 0, .int .i64 0, .int .i64 0, .int .i64 0, .int .i64 0, .int .i64 0, .int .i64 0, .int .i64 0, .int .u64 0, .int .u64 0, .int .u64 0, .int .u64 0]) (t := 40) ?hr ?_; (case hd => rfl); (case hg => rfl); (case hr => first | (go_simp; done) | (go_simp; rfl)); intro gb395 hg w21 hbox hb; have n0_ := Aside0.mk (Kd.R_below (by (with_reducible repeat (first | apply Kd.R_alloc | apply Kd.R_drewN | apply Kd.R_drew)); exact HO393.out) hb); have n1_ := Aside0.mk (below_step (by repeat (first | (with_reducible first | exact HB.out | apply below_alloc | apply pw_below_drewN | apply below_drew1) | exact HB.out)) hb); have n2_ := Aside0.mk (hbox); have n3_ := Aside0.mk ((by rw [hg]; exact (below_size (by repeat (first | (with_reducible first | exact HB.out | apply below_alloc | apply pw_below_drewN | apply below_drew1) | exact HB.out))) : w.heap.size ≤ gb395)); have n4_ := Aside0.mk ((by rw [hg]; exact (below_size (by repeat (first | (with_reducible first | exact HB.out | apply below_alloc | apply pw_below_drewN | apply below_drew1) | exact HB.out))) : w.heap.size ≤ gb395)); clear HO393; clear HB; have HO393 := n0_; have HB := n1_; have BK395 := n2_; have GW395 := n3_; have GE395 := n4_; clear n0_ n1_ n2_ n3_ n4_; clear hb hbox hg; have hcz22_0 : w21.cell? ⟨gb395, 0, none⟩ = some (.int .i64 0) := (blk_cell BK395.out 0).trans rfl; have hcz22_1 : w21.cell? ⟨gb395, 1, none⟩ = some (.int .i64 0) := (blk_cell BK395.out 1).trans rfl; have hcz22_2 : w21.cell? ⟨gb395, 2, none⟩ = some (.int .i64 0) := (blk_cell BK395.out 2).trans rfl; have hcz22_3 : w21.cell? ⟨gb395, 3, none⟩ = some (.int .i64 0) := (blk_cell BK395.out 3).trans rfl; have hcz22_4 : w21.cell? ⟨gb395, 4, none⟩ = some (.int .i64 0) := (blk_cell BK395.out 4).trans rfl; have hcz22_5 : w21.cell? ⟨gb395, 5, none⟩ = some (.int .i64 0) := (blk_cell BK395.out 5).trans rfl; have hcz22_6 : w21.cell? ⟨gb395, 6, none⟩ = some (.int .i64 0) := (blk_cell BK395.out 6).trans rfl; have hcz22_7 : w21.cell? ⟨gb395, 7, none⟩ = some (.int .i64 0) := (blk_cell BK395.out 7).trans rfl; have hcz22_8 : w21.cell? ⟨gb395, 8, none⟩ = some (.int .i64 0) := (blk_cell BK395.out 8).trans rfl; have hcz22_9 : w21.cell? ⟨gb395, 9, none⟩ = some (.int .u64 0) := (blk_cell BK395.out 9).trans rfl; have hcz22_10 : w21.cell? ⟨gb395, 10, none⟩ = some (.int .u64 0) := (blk_cell BK395.out 10).trans rfl; have hcz22_11 : w21.cell? ⟨gb395, 11, none⟩ = some (.int .u64 0) := (blk_cell BK395.out 11).trans rfl; have hcz22_12 : w21.cell? ⟨gb395, 12, none⟩ = some (.int .u64 0) := (blk_cell BK395.out 12).trans rfl; have hfz22_0 := blk_frozen BK395.out 0; have hfz22_1 := blk_frozen BK395.out 1; have hfz22_2 := blk_frozen BK395.out 2; have hfz22_3 := blk_frozen BK395.out 3; have hfz22_4 := blk_frozen BK395.out 4; have hfz22_5 := blk_frozen BK395.out 5; have hfz22_6 := blk_frozen BK395.out 6; have hfz22_7 := blk_frozen BK395.out 7; have hfz22_8 := blk_frozen BK395.out 8; have hfz22_9 := blk_frozen BK395.out 9; have hfz22_10 := blk_frozen BK395.out 10; have hfz22_11 := blk_frozen BK395.out 11; have hfz22_12 := blk_frozen BK395.out 12) | ((with_reducible refine gate_callee (f := 19) rfl ?_); refine goesL_ (some 55) rfl rfl Try.func19 (by kernel_rfl) rfl #[.int .i64 ((rd_T40 l0 (ji14)).f0), .int .i64 a3, .int .i64 ((rd_T40 l0 (ji14)).f4), .int .i64 a4] rfl (by (try simp only [List.map_toArray, List.map_cons, List.map_nil]); first | done | (simp only [hji14]; rfl) | rfl | (simp only [List.length_drop, List.length_take]; rfl)) ?_; (with_reducible refine (chargeparklaw42_record.calls ((rd_T40 l0 (ji14)).f0) a3 ((rd_T40 l0 (ji14)).f4) a4 t396 t397 t398 t399 t400 t401 t402 t403 t404 t405 t406 t407 t408 _ A17.out).mono ?_); rintro e w23 ⟨rfl, hb⟩; refine ⟨_, rfl, ?_⟩; have n0_ := Aside0.mk (Kd.R_below (by (with_reducible repeat (first | apply Kd.R_alloc | apply Kd.R_drewN | apply Kd.R_drew)); exact (Kd.R_mono (Kd.R_far (p := ⟨gb395, 12, none⟩) (Kd.R_far (p := ⟨gb395, 11, none⟩) (Kd.R_far (p := ⟨gb395, 10, none⟩) (Kd.R_far (p := ⟨gb395, 9, none⟩) (Kd.R_far (p := ⟨gb395, 8, none⟩) (Kd.R_far (p := ⟨gb395, 7, none⟩) (Kd.R_far (p := ⟨gb395, 6, none⟩) (Kd.R_far (p := ⟨gb395, 5, none⟩) (Kd.R_far (p := ⟨gb395, 4, none⟩) (Kd.R_far (p := ⟨gb395, 3, none⟩) (Kd.R_far (p := ⟨gb395, 2, none⟩) (Kd.R_far (p := ⟨gb395, 1, none⟩) (Kd.R_far (p := ⟨gb395, 0, none⟩) (Kd.R_types HO393.out BK395.out (by decide)) (fun _ hk => hk.2) (.int .i64 ((rd_T40 l0 (ji14)).f0))) (fun _ hk => hk.2) (.int .i64 ((rd_T40 l0 (ji14)).f1))) (fun _ hk => hk.2) (.int .i64 ((rd_T40 l0 (ji14)).f2))) (fun _ hk => hk.2) (.int .i64 ((rd_T40 l0 (ji14)).f3))) (fun _ hk => hk.2) (.int .i64 ((rd_T40 l0 (ji14)).f4))) (fun _ hk => hk.2) (.int .i64 ((rd_T40 l0 (ji14)).f5))) (fun _ hk => hk.2) (.int .i64 ((rd_T40 l0 (ji14)).f6))) (fun _ hk => hk.2) (.int .i64 ((rd_T40 l0 (ji14)).f7))) (fun _ hk => hk.2) (.int .i64 ((rd_T40 l0 (ji14)).f8))) (fun _ hk => hk.2) (.int .u64 ((rd_T40 l0 (ji14)).f9.f0))) (fun _ hk => hk.2) (.int .u64 ((rd_T40 l0 (ji14)).f9.f1))) (fun _ hk => hk.2) (.int .u64 ((rd_T40 l0 (ji14)).f9.f2))) (fun _ hk => hk.2) (.int .u64 ((rd_T40 l0 (ji14)).f9.f3))) (fun _ h_ => h_.1))) hb); have n1_ := Aside0.mk (blk_below (g := gb395) (o := .cells #[.int .i64 ((rd_T40 l0 (ji14)).f0), .int .i64 ((rd_T40 l0 (ji14)).f1), .int .i64 ((rd_T40 l0 (ji14)).f2), .int .i64 ((rd_T40 l0 (ji14)).f3), .int .i64 ((rd_T40 l0 (ji14)).f4), .int .i64 ((rd_T40 l0 (ji14)).f5), .int .i64 ((rd_T40 l0 (ji14)).f6), .int .i64 ((rd_T40 l0 (ji14)).f7), .int .i64 ((rd_T40 l0 (ji14)).f8), .int .u64 ((rd_T40 l0 (ji14)).f9.f0), .int .u64 ((rd_T40 l0 (ji14)).f9.f1), .int .u64 ((rd_T40 l0 (ji14)).f9.f2), .int .u64 ((rd_T40 l0 (ji14)).f9.f3)] 40 (0, 0)) (by (with_reducible repeat (first | refine blk_drewN ?_ _ | refine blk_drew ?_ | refine blk_alloc ?_ _)); refine blk_put (cs := #[.int .i64 ((rd_T40 l0 (ji14)).f0), .int .i64 ((rd_T40 l0 (ji14)).f1), .int .i64 ((rd_T40 l0 (ji14)).f2), .int .i64 ((rd_T40 l0 (ji14)).f3), .int .i64 ((rd_T40 l0 (ji14)).f4), .int .i64 ((rd_T40 l0 (ji14)).f5), .int .i64 ((rd_T40 l0 (ji14)).f6), .int .i64 ((rd_T40 l0 (ji14)).f7), .int .i64 ((rd_T40 l0 (ji14)).f8), .int .u64 ((rd_T40 l0 (ji14)).f9.f0), .int .u64 ((rd_T40 l0 (ji14)).f9.f1), .int .u64 ((rd_T40 l0 (ji14)).f9.f2), .int .u64 0]) ?_ 12 _ rfl; (with_reducible repeat (first | refine blk_drewN ?_ _ | refine blk_drew ?_ | refine blk_alloc ?_ _)); refine blk_put (cs := #[.int .i64 ((rd_T40 l0 (ji14)).f0), .int .i64 ((rd_T40 l0 (ji14)).f1), .int .i64 ((rd_T40 l0 (ji14)).f2), .int .i64 ((rd_T40 l0 (ji14)).f3), .int .i64 ((rd_T40 l0 (ji14)).f4), .int .i64 ((rd_T40 l0 (ji14)).f5), .int .i64 ((rd_T40 l0 (ji14)).f6), .int .i64 ((rd_T40 l0 (ji14)).f7), .int .i64 ((rd_T40 l0 (ji14)).f8), .int .u64 ((rd_T40 l0 (ji14)).f9.f0), .int .u64 ((rd_T40 l0 (ji14)).f9.f1), .int .u64 0, .int .u64 0]) ?_ 11 _ rfl; (with_reducible repeat (first | refine blk_drewN ?_ _ | refine blk_drew ?_ | refine blk_alloc ?_ _)); refine blk_put (cs := #[.int .i64 ((rd_T40 l0 (ji14)).f0), .int .i64 ((rd_T40 l0 (ji14)).f1), .int .i64 ((rd_T40 l0 (ji14)).f2), .int .i64 ((rd_T40 l0 (ji14)).f3), .int .i64 ((rd_T40 l0 (ji14)).f4), .int .i64 ((rd_T40 l0 (ji14)).f5), .int .i64 ((rd_T40 l0 (ji14)).f6), .int .i64 ((rd_T40 l0 (ji14)).f7), .int .i64 ((rd_T40 l0 (ji14)).f8), .int .u64 ((rd_T40 l0 (ji14)).f9.f0), .int .u64 0, .int .u64 0, .int .u64 0]) ?_ 10 _ rfl; (with_reducible repeat (first | refine blk_drewN ?_ _ | refine blk_drew ?_ | refine blk_alloc ?_ _)); refine blk_put (cs := #[.int .i64 ((rd_T40 l0 (ji14)).f0), .int .i64 ((rd_T40 l0 (ji14)).f1), .int .i64 ((rd_T40 l0 (ji14)).f2), .int .i64 ((rd_T40 l0 (ji14)).f3), .int .i64 ((rd_T40 l0 (ji14)).f4), .int .i64 ((rd_T40 l0 (ji14)).f5), .int .i64 ((rd_T40 l0 (ji14)).f6), .int .i64 ((rd_T40 l0 (ji14)).f7), .int .i64 ((rd_T40 l0 (ji14)).f8), .int .u64 0, .int .u64 0, .int .u64 0, .int .u64 0]) ?_ 9 _ rfl; (with_reducible repeat (first | refine blk_drewN ?_ _ | refine blk_drew ?_ | refine blk_alloc ?_ _)); refine blk_put (cs := #[.int .i64 ((rd_T40 l0 (ji14)).f0), .int .i64 ((rd_T40 l0 (ji14)).f1), .int .i64 ((rd_T40 l0 (ji14)).f2), .int .i64 ((rd_T40 l0 (ji14)).f3), .int .i64 ((rd_T40 l0 (ji14)).f4), .int .i64 ((rd_T40 l0 (ji14)).f5), .int .i64 ((rd_T40 l0 (ji14)).f6), .int .i64 ((rd_T40 l0 (ji14)).f7), .int .i64 0, .int .u64 0, .int .u64 0, .int .u64 0, .int .u64 0]) ?_ 8 _ rfl; (with_reducible repeat (first | refine blk_drewN ?_ _ | refine blk_drew ?_ | refine blk_alloc ?_ _)); refine blk_put (cs := #[.int .i64 ((rd_T40 l0 (ji14)).f0), .int .i64 ((rd_T40 l0 (ji14)).f1), .int .i64 ((rd_T40 l0 (ji14)).f2), .int .i64 ((rd_T40 l0 (ji14)).f3), .int .i64 ((rd_T40 l0 (ji14)).f4), .int .i64 ((rd_T40 l0 (ji14)).f5), .int .i64 ((rd_T40 l0 (ji14)).f6), .int .i64 0, .int .i64 0, .int .u64 0, .int .u64 0, .int .u64 0, .int .u64 0]) ?_ 7 _ rfl; (with_reducible repeat (first | refine blk_drewN ?_ _ | refine blk_drew ?_ | refine blk_alloc ?_ _)); refine blk_put (cs := #[.int .i64 ((rd_T40 l0 (ji14)).f0), .int .i64 ((rd_T40 l0 (ji14)).f1), .int .i64 ((rd_T40 l0 (ji14)).f2), .int .i64 ((rd_T40 l0 (ji14)).f3), .int .i64 ((rd_T40 l0 (ji14)).f4), .int .i64 ((rd_T40 l0 (ji14)).f5), .int .i64 0, .int .i64 0, .int .i64 0, .int .u64 0, .int .u64 0, .int .u64 0, .int .u64 0]) ?_ 6 _ rfl; (with_reducible repeat (first | refine blk_drewN ?_ _ | refine blk_drew ?_ | refine blk_alloc ?_ _)); refine blk_put (cs := #[.int .i64 ((rd_T40 l0 (ji14)).f0), .int .i64 ((rd_T40 l0 (ji14)).f1), .int .i64 ((rd_T40 l0 (ji14)).f2), .int .i64 ((rd_T40 l0 (ji14)).f3), .int .i64 ((rd_T40 l0 (ji14)).f4), .int .i64 0, .int .i64 0, .int .i64 0, .int .i64 0, .int .u64 0, .int .u64 0, .int .u64 0, .int .u64 0]) ?_ 5 _ rfl; (with_reducible repeat (first | refine blk_drewN ?_ _ | refine blk_drew ?_ | refine blk_alloc ?_ _)); refine blk_put (cs := #[.int .i64 ((rd_T40 l0 (ji14)).f0), .int .i64 ((rd_T40 l0 (ji14)).f1), .int .i64 ((rd_T40 l0 (ji14)).f2), .int .i64 ((rd_T40 l0 (ji14)).f3), .int .i64 0, .int .i64 0, .int .i64 0, .int .i64 0, .int .i64 0, .int .u64 0, .int .u64 0, .int .u64 0, .int .u64 0]) ?_ 4 _ rfl; (with_reducible repeat (first | refine blk_drewN ?_ _ | refine blk_drew ?_ | refine blk_alloc ?_ _)); refine blk_put (cs := #[.int .i64 ((rd_T40 l0 (ji14)).f0), .int .i64 ((rd_T40 l0 (ji14)).f1), .int .i64 ((rd_T40 l0 (ji14)).f2), .int .i64 0, .int .i64 0, .int .i64 0, .int .i64 0, .int .i64 0, .int .i64 0, .int .u64 0, .int .u64 0, .int .u64 0, .int .u64 0]) ?_ 3 _ rfl; (with_reducible repeat (first | refine blk_drewN ?_ _ | refine blk_drew ?_ | refine blk_alloc ?_ _)); refine blk_put (cs := #[.int .i64 ((rd_T40 l0 (ji14)).f0), .int .i64 ((rd_T40 l0 (ji14)).f1), .int .i64 0, .int .i64 0, .int .i64 0, .int .i64 0, .int .i64 0, .int .i64 0, .int .i64 0, .int .u64 0, .int .u64 0, .int .u64 0, .int .u64 0]) ?_ 2 _ rfl; (with_reducible repeat (first | refine blk_drewN ?_ _ | refine blk_drew ?_ | refine blk_alloc ?_ _)); refine blk_put (cs := #[.int .i64 ((rd_T40 l0 (ji14)).f0), .int .i64 0, .int .i64 0, .int .i64 0, .int .i64 0, .int .i64 0, .int .i64 0, .int .i64 0, .int .i64 0, .int .u64 0, .int .u64 0, .int .u64 0, .int .u64 0]) ?_ 1 _ rfl; (with_reducible repeat (first | refine blk_drewN ?_ _ | refine blk_drew ?_ | refine blk_alloc ?_ _)); refine blk_put (cs := #[.int .i64 0, .int .i64 0, .int .i64 0, .int .i64 0, .int .i64 0, .int .i64 0, .int .i64 0, .int .i64 0, .int .i64 0, .int .u64 0, .int .u64 0, .int .u64 0, .int .u64 0]) ?_ 0 _ rfl; (with_reducible repeat (first | refine blk_drewN ?_ _ | refine blk_drew ?_ | refine blk_alloc ?_ _)); exact BK395.out) hb); have n2_ := Aside0.mk (below_step (by repeat (first | (with_reducible first | exact HB.out | apply below_alloc | apply pw_below_drewN | apply below_drew1 | refine below_set ?_ GE395.out) | exact HB.out)) hb); clear HO393; clear BK395; clear HB; have HO393 := n0_; have BK395 := n1_; have HB := n2_; clear n0_ n1_ n2_; (try clear hb); (try clear hb2); (try clear hk); (try clear hi)) | ((with_reducible refine gate_dst (N := 15) rfl ?_); (try (refine gate_guard (by rfl) ?_; dsimp only)); refine box_event ?hg (N := 15) ?hd (cs := #[.int .i64 0, .int .i64 0, .int .i64 0, .int .i64 0, .int .i64 0, .int .i64 0, .int .i64 0, .int .i64 0, .int .i64 0, .int .u64 0, .int .u64 0, .int .u64 0, .int .u64 0]) (t := 40) ?hr ?_; (case hd => rfl); (case hg => rfl); (case hr => first | (go_simp; done) | (go_simp; rfl)); intro gb409 hg w24 hbox hb; have n0_ := Aside0.mk (Kd.R_below (by (with_reducible repeat (first | apply Kd.R_alloc | apply Kd.R_drewN | apply Kd.R_drew)); exact HO393.out) hb); have n1_ := Aside0.mk (blk_below (g := gb395) (o := .cells #[.int .i64 ((rd_T40 l0 (ji14)).f0), .int .i64 ((rd_T40 l0 (ji14)).f1), .int .i64 ((rd_T40 l0 (ji14)).f2), .int .i64 ((rd_T40 l0 (ji14)).f3), .int .i64 ((rd_T40 l0 (ji14)).f4), .int .i64 ((rd_T40 l0 (ji14)).f5), .int .i64 ((rd_T40 l0 (ji14)).f6), .int .i64 ((rd_T40 l0 (ji14)).f7), .int .i64 ((rd_T40 l0 (ji14)).f8), .int .u64 ((rd_T40 l0 (ji14)).f9.f0), .int .u64 ((rd_T40 l0 (ji14)).f9.f1), .int .u64 ((rd_T40 l0 (ji14)).f9.f2), .int .u64 ((rd_T40 l0 (ji14)).f9.f3)] 40 (0, 0)) (by (with_reducible repeat (first | refine blk_drewN ?_ _ | refine blk_drew ?_ | refine blk_alloc ?_ _)); exact BK395.out) hb); have n2_ := Aside0.mk (below_step (by repeat (first | (with_reducible first | exact HB.out | apply below_alloc | apply pw_below_drewN | apply below_drew1 | refine below_set ?_ GE395.out) | exact HB.out)) hb); have n3_ := Aside0.mk (hbox); have n4_ := Aside0.mk ((by rw [hg]; exact (below_size (by repeat (first | (with_reducible first | exact HB.out | apply below_alloc | apply pw_below_drewN | apply below_drew1 | refine below_set ?_ GE395.out) | exact HB.out))) : w.heap.size ≤ gb409)); have n5_ := Aside0.mk ((by rw [hg]; exact (below_size (by repeat (first | (with_reducible first | exact HB.out | apply below_alloc | apply pw_below_drewN | apply below_drew1 | refine below_set ?_ GE395.out) | exact HB.out))) : w.heap.size ≤ gb409)); have n6_ := Aside0.mk ((by rw [hg]; exact Nat.ne_of_lt (blk_lt (g := gb395) (o := .cells #[.int .i64 ((rd_T40 l0 (ji14)).f0), .int .i64 ((rd_T40 l0 (ji14)).f1), .int .i64 ((rd_T40 l0 (ji14)).f2), .int .i64 ((rd_T40 l0 (ji14)).f3), .int .i64 ((rd_T40 l0 (ji14)).f4), .int .i64 ((rd_T40 l0 (ji14)).f5), .int .i64 ((rd_T40 l0 (ji14)).f6), .int .i64 ((rd_T40 l0 (ji14)).f7), .int .i64 ((rd_T40 l0 (ji14)).f8), .int .u64 ((rd_T40 l0 (ji14)).f9.f0), .int .u64 ((rd_T40 l0 (ji14)).f9.f1), .int .u64 ((rd_T40 l0 (ji14)).f9.f2), .int .u64 ((rd_T40 l0 (ji14)).f9.f3)] 40 (0, 0)) (by (with_reducible repeat (first | refine blk_drewN ?_ _ | refine blk_drew ?_ | refine blk_alloc ?_ _)); exact BK395.out)) : gb395 ≠ gb409)); have n7_ := Aside0.mk ((by rw [hg]; exact Nat.ne_of_gt (blk_lt (g := gb395) (o := .cells #[.int .i64 ((rd_T40 l0 (ji14)).f0), .int .i64 ((rd_T40 l0 (ji14)).f1), .int .i64 ((rd_T40 l0 (ji14)).f2), .int .i64 ((rd_T40 l0 (ji14)).f3), .int .i64 ((rd_T40 l0 (ji14)).f4), .int .i64 ((rd_T40 l0 (ji14)).f5), .int .i64 ((rd_T40 l0 (ji14)).f6), .int .i64 ((rd_T40 l0 (ji14)).f7), .int .i64 ((rd_T40 l0 (ji14)).f8), .int .u64 ((rd_T40 l0 (ji14)).f9.f0), .int .u64 ((rd_T40 l0 (ji14)).f9.f1), .int .u64 ((rd_T40 l0 (ji14)).f9.f2), .int .u64 ((rd_T40 l0 (ji14)).f9.f3)] 40 (0, 0)) (by (with_reducible repeat (first | refine blk_drewN ?_ _ | refine blk_drew ?_ | refine blk_alloc ?_ _)); exact BK395.out)) : gb409 ≠ gb395)); clear HO393; clear BK395; clear HB; have HO393 := n0_; have BK395 := n1_; have HB := n2_; have BK409 := n3_; have GW409 := n4_; have GE409 := n5_; have NB395_409 := n6_; have NB409_395 := n7_; clear n0_ n1_ n2_ n3_ n4_ n5_ n6_ n7_; clear hb hbox hg; have hnb25 := NB409_395.out; have hnc25 := NB395_409.out; have hcz26_0 : w24.cell? ⟨gb409, 0, none⟩ = some (.int .i64 0) := (blk_cell BK409.out 0).trans rfl; have hcz26_1 : w24.cell? ⟨gb409, 1, none⟩ = some (.int .i64 0) := (blk_cell BK409.out 1).trans rfl; have hcz26_2 : w24.cell? ⟨gb409, 2, none⟩ = some (.int .i64 0) := (blk_cell BK409.out 2).trans rfl; have hcz26_3 : w24.cell? ⟨gb409, 3, none⟩ = some (.int .i64 0) := (blk_cell BK409.out 3).trans rfl; have hcz26_4 : w24.cell? ⟨gb409, 4, none⟩ = some (.int .i64 0) := (blk_cell BK409.out 4).trans rfl; have hcz26_5 : w24.cell? ⟨gb409, 5, none⟩ = some (.int .i64 0) := (blk_cell BK409.out 5).trans rfl; have hcz26_6 : w24.cell? ⟨gb409, 6, none⟩ = some (.int .i64 0) := (blk_cell BK409.out 6).trans rfl; have hcz26_7 : w24.cell? ⟨gb409, 7, none⟩ = some (.int .i64 0) := (blk_cell BK409.out 7).trans rfl; have hcz26_8 : w24.cell? ⟨gb409, 8, none⟩ = some (.int .i64 0) := (blk_cell BK409.out 8).trans rfl; have hcz26_9 : w24.cell? ⟨gb409, 9, none⟩ = some (.int .u64 0) := (blk_cell BK409.out 9).trans rfl; have hcz26_10 : w24.cell? ⟨gb409, 10, none⟩ = some (.int .u64 0) := (blk_cell BK409.out 10).trans rfl; have hcz26_11 : w24.cell? ⟨gb409, 11, none⟩ = some (.int .u64 0) := (blk_cell BK409.out 11).trans rfl; have hcz26_12 : w24.cell? ⟨gb409, 12, none⟩ = some (.int .u64 0) := (blk_cell BK409.out 12).trans rfl; have hfz26_0 := blk_frozen BK409.out 0; have hfz26_1 := blk_frozen BK409.out 1; have hfz26_2 := blk_frozen BK409.out 2; have hfz26_3 := blk_frozen BK409.out 3; have hfz26_4 := blk_frozen BK409.out 4; have hfz26_5 := blk_frozen BK409.out 5; have hfz26_6 := blk_frozen BK409.out 6; have hfz26_7 := blk_frozen BK409.out 7; have hfz26_8 := blk_frozen BK409.out 8; have hfz26_9 := blk_frozen BK409.out 9; have hfz26_10 := blk_frozen BK409.out 10; have hfz26_11 := blk_frozen BK409.out 11; have hfz26_12 := blk_frozen BK409.out 12) | ((with_reducible refine gate_callee (f := 20) rfl ?_); refine goesL_ (some 58) rfl rfl Try.func20 (by kernel_rfl) rfl #[.agg #[.int .i64 t396, .int .i64 t397, .int .i64 t398, .int .i64 t399, .int .i64 t400, .int .i64 t401, .int .i64 t402, .int .i64 t403, .int .i64 t404, .int .u64 t405, .int .u64 t406, .int .u64 t407, .int .u64 t408], .int .i64 a1] rfl (by (try simp only [List.map_toArray, List.map_cons, List.map_nil]); first | done | rfl | (simp only [List.length_drop, List.length_take]; rfl)) ?_; (with_reducible refine (chargeparkref42_Settles.calls t396 t397 t398 t399 t400 t401 t402 t403 t404 t405 t406 t407 t408 a1 t410 _ A18.out).mono ?_); rintro e w27 ⟨rfl, hb⟩; refine ⟨_, rfl, ?_⟩; have n0_ := Aside0.mk (Kd.R_below (by (with_reducible repeat (first | apply Kd.R_alloc | apply Kd.R_drewN | apply Kd.R_drew)); exact (Kd.R_mono (Kd.R_far (p := ⟨gb409, 12, none⟩) (Kd.R_far (p := ⟨gb409, 11, none⟩) (Kd.R_far (p := ⟨gb409, 10, none⟩) (Kd.R_far (p := ⟨gb409, 9, none⟩) (Kd.R_far (p := ⟨gb409, 8, none⟩) (Kd.R_far (p := ⟨gb409, 7, none⟩) (Kd.R_far (p := ⟨gb409, 6, none⟩) (Kd.R_far (p := ⟨gb409, 5, none⟩) (Kd.R_far (p := ⟨gb409, 4, none⟩) (Kd.R_far (p := ⟨gb409, 3, none⟩) (Kd.R_far (p := ⟨gb409, 2, none⟩) (Kd.R_far (p := ⟨gb409, 1, none⟩) (Kd.R_far (p := ⟨gb409, 0, none⟩) (Kd.R_types HO393.out BK409.out (by decide)) (fun _ hk => hk.2) (.int .i64 t396)) (fun _ hk => hk.2) (.int .i64 t397)) (fun _ hk => hk.2) (.int .i64 t398)) (fun _ hk => hk.2) (.int .i64 t399)) (fun _ hk => hk.2) (.int .i64 t400)) (fun _ hk => hk.2) (.int .i64 t401)) (fun _ hk => hk.2) (.int .i64 t402)) (fun _ hk => hk.2) (.int .i64 t403)) (fun _ hk => hk.2) (.int .i64 t404)) (fun _ hk => hk.2) (.int .u64 t405)) (fun _ hk => hk.2) (.int .u64 t406)) (fun _ hk => hk.2) (.int .u64 t407)) (fun _ hk => hk.2) (.int .u64 t408)) (fun _ h_ => h_.1))) hb); have n1_ := Aside0.mk (blk_below (g := gb395) (o := .cells #[.int .i64 ((rd_T40 l0 (ji14)).f0), .int .i64 ((rd_T40 l0 (ji14)).f1), .int .i64 ((rd_T40 l0 (ji14)).f2), .int .i64 ((rd_T40 l0 (ji14)).f3), .int .i64 ((rd_T40 l0 (ji14)).f4), .int .i64 ((rd_T40 l0 (ji14)).f5), .int .i64 ((rd_T40 l0 (ji14)).f6), .int .i64 ((rd_T40 l0 (ji14)).f7), .int .i64 ((rd_T40 l0 (ji14)).f8), .int .u64 ((rd_T40 l0 (ji14)).f9.f0), .int .u64 ((rd_T40 l0 (ji14)).f9.f1), .int .u64 ((rd_T40 l0 (ji14)).f9.f2), .int .u64 ((rd_T40 l0 (ji14)).f9.f3)] 40 (0, 0)) (by (with_reducible repeat (first | refine blk_drewN ?_ _ | refine blk_drew ?_ | refine blk_alloc ?_ _)); refine blk_far ?_ NB395_409.out _; (with_reducible repeat (first | refine blk_drewN ?_ _ | refine blk_drew ?_ | refine blk_alloc ?_ _)); refine blk_far ?_ NB395_409.out _; (with_reducible repeat (first | refine blk_drewN ?_ _ | refine blk_drew ?_ | refine blk_alloc ?_ _)); refine blk_far ?_ NB395_409.out _; (with_reducible repeat (first | refine blk_drewN ?_ _ | refine blk_drew ?_ | refine blk_alloc ?_ _)); refine blk_far ?_ NB395_409.out _; (with_reducible repeat (first | refine blk_drewN ?_ _ | refine blk_drew ?_ | refine blk_alloc ?_ _)); refine blk_far ?_ NB395_409.out _; (with_reducible repeat (first | refine blk_drewN ?_ _ | refine blk_drew ?_ | refine blk_alloc ?_ _)); refine blk_far ?_ NB395_409.out _; (with_reducible repeat (first | refine blk_drewN ?_ _ | refine blk_drew ?_ | refine blk_alloc ?_ _)); refine blk_far ?_ NB395_409.out _; (with_reducible repeat (first | refine blk_drewN ?_ _ | refine blk_drew ?_ | refine blk_alloc ?_ _)); refine blk_far ?_ NB395_409.out _; (with_reducible repeat (first | refine blk_drewN ?_ _ | refine blk_drew ?_ | refine blk_alloc ?_ _)); refine blk_far ?_ NB395_409.out _; (with_reducible repeat (first | refine blk_drewN ?_ _ | refine blk_drew ?_ | refine blk_alloc ?_ _)); refine blk_far ?_ NB395_409.out _; (with_reducible repeat (first | refine blk_drewN ?_ _ | refine blk_drew ?_ | refine blk_alloc ?_ _)); refine blk_far ?_ NB395_409.out _; (with_reducible repeat (first | refine blk_drewN ?_ _ | refine blk_drew ?_ | refine blk_alloc ?_ _)); refine blk_far ?_ NB395_409.out _; (with_reducible repeat (first | refine blk_drewN ?_ _ | refine blk_drew ?_ | refine blk_alloc ?_ _)); refine blk_far ?_ NB395_409.out _; (with_reducible repeat (first | refine blk_drewN ?_ _ | refine blk_drew ?_ | refine blk_alloc ?_ _)); exact BK395.out) hb); have n2_ := Aside0.mk (blk_below (g := gb409) (o := .cells #[.int .i64 t396, .int .i64 t397, .int .i64 t398, .int .i64 t399, .int .i64 t400, .int .i64 t401, .int .i64 t402, .int .i64 t403, .int .i64 t404, .int .u64 t405, .int .u64 t406, .int .u64 t407, .int .u64 t408] 40 (0, 0)) (by (with_reducible repeat (first | refine blk_drewN ?_ _ | refine blk_drew ?_ | refine blk_alloc ?_ _)); refine blk_put (cs := #[.int .i64 t396, .int .i64 t397, .int .i64 t398, .int .i64 t399, .int .i64 t400, .int .i64 t401, .int .i64 t402, .int .i64 t403, .int .i64 t404, .int .u64 t405, .int .u64 t406, .int .u64 t407, .int .u64 0]) ?_ 12 _ rfl; (with_reducible repeat (first | refine blk_drewN ?_ _ | refine blk_drew ?_ | refine blk_alloc ?_ _)); refine blk_put (cs := #[.int .i64 t396, .int .i64 t397, .int .i64 t398, .int .i64 t399, .int .i64 t400, .int .i64 t401, .int .i64 t402, .int .i64 t403, .int .i64 t404, .int .u64 t405, .int .u64 t406, .int .u64 0, .int .u64 0]) ?_ 11 _ rfl; (with_reducible repeat (first | refine blk_drewN ?_ _ | refine blk_drew ?_ | refine blk_alloc ?_ _)); refine blk_put (cs := #[.int .i64 t396, .int .i64 t397, .int .i64 t398, .int .i64 t399, .int .i64 t400, .int .i64 t401, .int .i64 t402, .int .i64 t403, .int .i64 t404, .int .u64 t405, .int .u64 0, .int .u64 0, .int .u64 0]) ?_ 10 _ rfl; (with_reducible repeat (first | refine blk_drewN ?_ _ | refine blk_drew ?_ | refine blk_alloc ?_ _)); refine blk_put (cs := #[.int .i64 t396, .int .i64 t397, .int .i64 t398, .int .i64 t399, .int .i64 t400, .int .i64 t401, .int .i64 t402, .int .i64 t403, .int .i64 t404, .int .u64 0, .int .u64 0, .int .u64 0, .int .u64 0]) ?_ 9 _ rfl; (with_reducible repeat (first | refine blk_drewN ?_ _ | refine blk_drew ?_ | refine blk_alloc ?_ _)); refine blk_put (cs := #[.int .i64 t396, .int .i64 t397, .int .i64 t398, .int .i64 t399, .int .i64 t400, .int .i64 t401, .int .i64 t402, .int .i64 t403, .int .i64 0, .int .u64 0, .int .u64 0, .int .u64 0, .int .u64 0]) ?_ 8 _ rfl; (with_reducible repeat (first | refine blk_drewN ?_ _ | refine blk_drew ?_ | refine blk_alloc ?_ _)); refine blk_put (cs := #[.int .i64 t396, .int .i64 t397, .int .i64 t398, .int .i64 t399, .int .i64 t400, .int .i64 t401, .int .i64 t402, .int .i64 0, .int .i64 0, .int .u64 0, .int .u64 0, .int .u64 0, .int .u64 0]) ?_ 7 _ rfl; (with_reducible repeat (first | refine blk_drewN ?_ _ | refine blk_drew ?_ | refine blk_alloc ?_ _)); refine blk_put (cs := #[.int .i64 t396, .int .i64 t397, .int .i64 t398, .int .i64 t399, .int .i64 t400, .int .i64 t401, .int .i64 0, .int .i64 0, .int .i64 0, .int .u64 0, .int .u64 0, .int .u64 0, .int .u64 0]) ?_ 6 _ rfl; (with_reducible repeat (first | refine blk_drewN ?_ _ | refine blk_drew ?_ | refine blk_alloc ?_ _)); refine blk_put (cs := #[.int .i64 t396, .int .i64 t397, .int .i64 t398, .int .i64 t399, .int .i64 t400, .int .i64 0, .int .i64 0, .int .i64 0, .int .i64 0, .int .u64 0, .int .u64 0, .int .u64 0, .int .u64 0]) ?_ 5 _ rfl; (with_reducible repeat (first | refine blk_drewN ?_ _ | refine blk_drew ?_ | refine blk_alloc ?_ _)); refine blk_put (cs := #[.int .i64 t396, .int .i64 t397, .int .i64 t398, .int .i64 t399, .int .i64 0, .int .i64 0, .int .i64 0, .int .i64 0, .int .i64 0, .int .u64 0, .int .u64 0, .int .u64 0, .int .u64 0]) ?_ 4 _ rfl; (with_reducible repeat (first | refine blk_drewN ?_ _ | refine blk_drew ?_ | refine blk_alloc ?_ _)); refine blk_put (cs := #[.int .i64 t396, .int .i64 t397, .int .i64 t398, .int .i64 0, .int .i64 0, .int .i64 0, .int .i64 0, .int .i64 0, .int .i64 0, .int .u64 0, .int .u64 0, .int .u64 0, .int .u64 0]) ?_ 3 _ rfl; (with_reducible repeat (first | refine blk_drewN ?_ _ | refine blk_drew ?_ | refine blk_alloc ?_ _)); refine blk_put (cs := #[.int .i64 t396, .int .i64 t397, .int .i64 0, .int .i64 0, .int .i64 0, .int .i64 0, .int .i64 0, .int .i64 0, .int .i64 0, .int .u64 0, .int .u64 0, .int .u64 0, .int .u64 0]) ?_ 2 _ rfl; (with_reducible repeat (first | refine blk_drewN ?_ _ | refine blk_drew ?_ | refine blk_alloc ?_ _)); refine blk_put (cs := #[.int .i64 t396, .int .i64 0, .int .i64 0, .int .i64 0, .int .i64 0, .int .i64 0, .int .i64 0, .int .i64 0, .int .i64 0, .int .u64 0, .int .u64 0, .int .u64 0, .int .u64 0]) ?_ 1 _ rfl; (with_reducible repeat (first | refine blk_drewN ?_ _ | refine blk_drew ?_ | refine blk_alloc ?_ _)); refine blk_put (cs := #[.int .i64 0, .int .i64 0, .int .i64 0, .int .i64 0, .int .i64 0, .int .i64 0, .int .i64 0, .int .i64 0, .int .i64 0, .int .u64 0, .int .u64 0, .int .u64 0, .int .u64 0]) ?_ 0 _ rfl; (with_reducible repeat (first | refine blk_drewN ?_ _ | refine blk_drew ?_ | refine blk_alloc ?_ _)); exact BK409.out) hb); have n3_ := Aside0.mk (below_step (by repeat (first | (with_reducible first | exact HB.out | apply below_alloc | apply pw_below_drewN | apply below_drew1 | refine below_set ?_ GE395.out | refine below_set ?_ GE409.out) | exact HB.out)) hb); clear HO393; clear BK395; clear BK409; clear HB; have HO393 := n0_; have BK395 := n1_; have BK409 := n2_; have HB := n3_; clear n0_ n1_ n2_ n3_; (try clear hb); (try clear hb2); (try clear hk); (try clear hi)))
              (try simp only [Act.put, List.setIfInBounds_toArray, List.set_cons_zero, List.set_cons_succ])
              go_cut [64] (fun v64 wc => ∃ (kq : Nat) (x64_18 : Bool), v64 = .bool x64_18 ∧ Aside0 (chargeparklaw42_SettleTwice.j1 kq l0 a1 t389 t390 x64_18 t396 t397 t398 t399 t400 t401 t402 t403 t404 t405 t406 t407 t408 = some r) ∧ Aside0 (kq ≤ kj6) ∧ Aside0 (Kd.R (Kd.int .i64) 3 wc w.heap.size (fun _ => True) v392 t390) ∧ Aside0 (wc.heap[gb395]? = some (.cells #[.int .i64 ((rd_T40 l0 (ji14)).f0), .int .i64 ((rd_T40 l0 (ji14)).f1), .int .i64 ((rd_T40 l0 (ji14)).f2), .int .i64 ((rd_T40 l0 (ji14)).f3), .int .i64 ((rd_T40 l0 (ji14)).f4), .int .i64 ((rd_T40 l0 (ji14)).f5), .int .i64 ((rd_T40 l0 (ji14)).f6), .int .i64 ((rd_T40 l0 (ji14)).f7), .int .i64 ((rd_T40 l0 (ji14)).f8), .int .u64 ((rd_T40 l0 (ji14)).f9.f0), .int .u64 ((rd_T40 l0 (ji14)).f9.f1), .int .u64 ((rd_T40 l0 (ji14)).f9.f2), .int .u64 ((rd_T40 l0 (ji14)).f9.f3)] 40 (0, 0))) ∧ Aside0 (wc.heap[gb409]? = some (.cells #[.int .i64 t396, .int .i64 t397, .int .i64 t398, .int .i64 t399, .int .i64 t400, .int .i64 t401, .int .i64 t402, .int .i64 t403, .int .i64 t404, .int .u64 t405, .int .u64 t406, .int .u64 t407, .int .u64 t408] 40 (0, 0))) ∧ Aside0 (Below w.heap.size w wc))
              case first =>
                have H := HC19.out
                clear HC19
                by_cases c28 : t391 = 0
                · rw [if_pos c28] at H
                  have c28b0 : (t391 == 0) = true := beq_iff_eq.mpr c28
                  have c28b1 : (t391 != 0) = false := bne_eq_false_iff_eq.mpr c28
                  clear c28
                  (first | rw [c28b0] | (simp only [i64_w, i32_w]; rw [c28b0]) | skip)
                  have H' := Aside0.mk H
                  clear H
                  go_wp2
                  go_meet
                  case rel => exact ⟨_, (!t410), (by first | rfl | (simp; done) | (simp [*]; done)), H', ⟨by have := HJ6.out; first | omega | exact Nat.le_refl _⟩, ⟨by (with_reducible repeat (first | apply Kd.R_alloc | apply Kd.R_drewN | apply Kd.R_drew)); exact HO393.out⟩, ⟨by (with_reducible repeat (first | refine blk_drewN ?_ _ | refine blk_drew ?_ | refine blk_alloc ?_ _)); exact BK395.out⟩, ⟨by (with_reducible repeat (first | refine blk_drewN ?_ _ | refine blk_drew ?_ | refine blk_alloc ?_ _)); exact BK409.out⟩, ⟨by repeat (first | (with_reducible first | exact HB.out | apply below_alloc | apply pw_below_drewN | apply below_drew1 | refine below_set ?_ GE395.out | refine below_set ?_ GE409.out) | exact HB.out)⟩⟩
                · rw [if_neg c28] at H
                  have c28b0 : (t391 == 0) = false := beq_eq_false_iff_ne.mpr c28
                  have c28b1 : (t391 != 0) = true := bne_iff_ne.mpr c28
                  (first | rw [c28b0] | (simp only [i64_w, i32_w]; rw [c28b0]) | skip)
                  have H' := Aside0.mk H
                  clear H
                  go_wp2
                  go_meet
                  case rel => exact ⟨_, (true), (by first | rfl | (simp; done) | (simp [*]; done)), H', ⟨by have := HJ6.out; first | omega | exact Nat.le_refl _⟩, ⟨by (with_reducible repeat (first | apply Kd.R_alloc | apply Kd.R_drewN | apply Kd.R_drew)); exact HO393.out⟩, ⟨by (with_reducible repeat (first | refine blk_drewN ?_ _ | refine blk_drew ?_ | refine blk_alloc ?_ _)); exact BK395.out⟩, ⟨by (with_reducible repeat (first | refine blk_drewN ?_ _ | refine blk_drew ?_ | refine blk_alloc ?_ _)); exact BK409.out⟩, ⟨by repeat (first | (with_reducible first | exact HB.out | apply below_alloc | apply pw_below_drewN | apply below_drew1 | refine below_set ?_ GE395.out | refine below_set ?_ GE409.out) | exact HB.out)⟩⟩
              case rest =>
                clear HC19
                try clear c1
                try clear c2
                try clear p2
                try clear p3
                try clear q3
                try clear hx3
                try clear c7
                try clear c9
                try clear c9b0
                try clear c9b1
                try clear c9b2
                try clear c10
                try clear c10b0
                try clear c10b1
                try clear c11
                try clear c13
                try clear c13b0
                try clear c13b1
                try clear c13b2
                try clear c15
                try clear c15b0
                try clear c16
                try clear c16b0
                try clear c19
                try clear c20
                try clear c25
                try clear c28
                try clear c28b0
                try clear c28b1
                try clear hcz22_0
                try clear hcz22_1
                try clear hcz22_10
                try clear hcz22_11
                try clear hcz22_12
                try clear hcz22_2
                try clear hcz22_3
                try clear hcz22_4
                try clear hcz22_5
                try clear hcz22_6
                try clear hcz22_7
                try clear hcz22_8
                try clear hcz22_9
                try clear hcz26_0
                try clear hcz26_1
                try clear hcz26_10
                try clear hcz26_11
                try clear hcz26_12
                try clear hcz26_2
                try clear hcz26_3
                try clear hcz26_4
                try clear hcz26_5
                try clear hcz26_6
                try clear hcz26_7
                try clear hcz26_8
                try clear hcz26_9
                try clear hfz22_0
                try clear hfz22_1
                try clear hfz22_10
                try clear hfz22_11
                try clear hfz22_12
                try clear hfz22_2
                try clear hfz22_3
                try clear hfz22_4
                try clear hfz22_5
                try clear hfz22_6
                try clear hfz22_7
                try clear hfz22_8
                try clear hfz22_9
                try clear hfz26_0
                try clear hfz26_1
                try clear hfz26_10
                try clear hfz26_11
                try clear hfz26_12
                try clear hfz26_2
                try clear hfz26_3
                try clear hfz26_4
                try clear hfz26_5
                try clear hfz26_6
                try clear hfz26_7
                try clear hfz26_8
                try clear hfz26_9
                try clear hx394_0
                try clear hx394_1
                try clear hx394_10
                try clear hx394_11
                try clear hx394_12
                try clear hx394_2
                try clear hx394_3
                try clear hx394_4
                try clear hx394_5
                try clear hx394_6
                try clear hx394_7
                try clear hx394_8
                try clear hx394_9
                try clear p2
                try clear p394
                try clear q394
                obtain ⟨kq, x64_18, rfl, HA, HJ18, HO_12, BK395, BK409, HB⟩ := hcut
                cases kq with
                | zero => exact absurd HA.out (by simp [chargeparklaw42_SettleTwice.j1])
                | succ kj18 =>
                  have H := HA.out
                  clear HA
                  simp only [chargeparklaw42_SettleTwice.j1] at H
                  by_cases c29 : x64_18 = true
                  · subst c29
                    have H1 : (some t389) = some r := by rw [if_pos rfl] at H; exact H
                    clear H
                    have H := H1
                    clear H1
                    obtain rfl := Option.some.inj H
                    go_wp2
                    go_ret
                    exact ⟨by first | rfl | (simp [errW_none, errW_some] <;> rfl) | (simp only [← hji14]; first | rfl | (simp [errW_none, errW_some] <;> rfl)) | (simp [*, errW_none, errW_some] <;> rfl), by repeat (first | (with_reducible first | exact HB.out | apply below_alloc | apply pw_below_drewN | apply below_drew1 | refine below_set ?_ GE395.out | refine below_set ?_ GE409.out) | exact HB.out)⟩
                  · replace c29 := Bool.eq_false_iff.mpr c29
                    subst c29
                    have H1 : (if 64 ≤ 2706490160679 then ((some (([] : List (S40)) : List (S40))).bind fun y411 => (if y411.length + l0.length < 1353245080339 then ((some (y411 ++ l0 : List (S40))).bind fun y414 => ((some (([(⟨t396, t397, t398, t399, t400, t401, t402, t403, t404, (⟨t405, t406, t407, t408⟩ : S38)⟩ : S40)] : List (S40)) : List (S40))).bind fun y417 => (if y414.length + y417.length < 1353245080339 then ((some (y414 ++ y417 : List (S40))).bind fun y420 => ((settle_Net.f y420 a1).bind fun bt423 => (if 0 ≤ (l0.length : Int) then (if (l0.length : Int) ≤ (y420.length : Int) then ((settle_Net.f (y420.take ((l0.length : Int) : Int).toNat) a1).bind fun bt431 => (if t389 = true then (if bt423.2 = 5 then (if (bt423.1.length : Int) = 0 then (if bt431.2 = 0 then ((chargeparkref42_Ints.f kj18 t390 bt431.1).bind fun t435 => (some t435)) else (none)) else (none)) else (none)) else (none))) else (none)) else (none)))) else (none)))) else (none))) else (none)) = some r := by rw [if_neg (show ¬ (false = true) by decide)] at H; exact H
                    clear H
                    have H := H1
                    clear H1
                    by_cases c30 : 64 ≤ 2706490160679
                    · rw [if_pos c30] at H
                      have c30b0 := eq_true c30
                      have c30b1 : decide (64 ≤ 2706490160679) = true := decide_eq_true c30
                      clear c30
                      obtain ⟨y411, hy411⟩ : ∃ y_ : List (S40), y_ = (([] : List (S40))) := ⟨_, rfl⟩
                      replace H : (if y411.length + l0.length < 1353245080339 then ((some (y411 ++ l0 : List (S40))).bind fun y414 => ((some (([(⟨t396, t397, t398, t399, t400, t401, t402, t403, t404, (⟨t405, t406, t407, t408⟩ : S38)⟩ : S40)] : List (S40)) : List (S40))).bind fun y417 => (if y414.length + y417.length < 1353245080339 then ((some (y414 ++ y417 : List (S40))).bind fun y420 => ((settle_Net.f y420 a1).bind fun bt423 => (if 0 ≤ (l0.length : Int) then (if (l0.length : Int) ≤ (y420.length : Int) then ((settle_Net.f (y420.take ((l0.length : Int) : Int).toNat) a1).bind fun bt431 => (if t389 = true then (if bt423.2 = 5 then (if (bt423.1.length : Int) = 0 then (if bt431.2 = 0 then ((chargeparkref42_Ints.f kj18 t390 bt431.1).bind fun t435 => (some t435)) else (none)) else (none)) else (none)) else (none))) else (none)) else (none)))) else (none)))) else (none)) = some r := by first | (rw [hy411]; with_reducible exact H) | (have H2_ := (Option.bind_some _ _).symm.trans H; rw [hy411]; with_reducible exact H2_) | (have H2_ := (Option.bind_some _ _).symm.trans H; with_reducible exact H2_) | with_reducible exact H | (rw [hy411]; exact H) | exact H
                      have Ny411 := Aside0.mk hy411
                      clear hy411
                      by_cases c31 : y411.length + l0.length < 1353245080339
                      · rw [if_pos c31] at H
                        have LMc31 := Aside0.mk c31
                        clear c31
                        obtain ⟨y414, hy414⟩ : ∃ y_ : List (S40), y_ = (y411 ++ l0) := ⟨_, rfl⟩
                        replace H : ((some (([(⟨t396, t397, t398, t399, t400, t401, t402, t403, t404, (⟨t405, t406, t407, t408⟩ : S38)⟩ : S40)] : List (S40)) : List (S40))).bind fun y417 => (if y414.length + y417.length < 1353245080339 then ((some (y414 ++ y417 : List (S40))).bind fun y420 => ((settle_Net.f y420 a1).bind fun bt423 => (if 0 ≤ (l0.length : Int) then (if (l0.length : Int) ≤ (y420.length : Int) then ((settle_Net.f (y420.take ((l0.length : Int) : Int).toNat) a1).bind fun bt431 => (if t389 = true then (if bt423.2 = 5 then (if (bt423.1.length : Int) = 0 then (if bt431.2 = 0 then ((chargeparkref42_Ints.f kj18 t390 bt431.1).bind fun t435 => (some t435)) else (none)) else (none)) else (none)) else (none))) else (none)) else (none)))) else (none))) = some r := by first | (rw [hy414]; with_reducible exact H) | (have H2_ := (Option.bind_some _ _).symm.trans H; rw [hy414]; with_reducible exact H2_) | (have H2_ := (Option.bind_some _ _).symm.trans H; with_reducible exact H2_) | with_reducible exact H | (rw [hy414]; exact H) | exact H
                        have Ny414 := Aside0.mk hy414
                        clear hy414
                        obtain ⟨y417, hy417⟩ : ∃ y_ : List (S40), y_ = (([(⟨t396, t397, t398, t399, t400, t401, t402, t403, t404, (⟨t405, t406, t407, t408⟩ : S38)⟩ : S40)] : List (S40))) := ⟨_, rfl⟩
                        replace H : (if y414.length + y417.length < 1353245080339 then ((some (y414 ++ y417 : List (S40))).bind fun y420 => ((settle_Net.f y420 a1).bind fun bt423 => (if 0 ≤ (l0.length : Int) then (if (l0.length : Int) ≤ (y420.length : Int) then ((settle_Net.f (y420.take ((l0.length : Int) : Int).toNat) a1).bind fun bt431 => (if t389 = true then (if bt423.2 = 5 then (if (bt423.1.length : Int) = 0 then (if bt431.2 = 0 then ((chargeparkref42_Ints.f kj18 t390 bt431.1).bind fun t435 => (some t435)) else (none)) else (none)) else (none)) else (none))) else (none)) else (none)))) else (none)) = some r := by first | (rw [hy417]; with_reducible exact H) | (have H2_ := (Option.bind_some _ _).symm.trans H; rw [hy417]; with_reducible exact H2_) | (have H2_ := (Option.bind_some _ _).symm.trans H; with_reducible exact H2_) | with_reducible exact H | (rw [hy417]; exact H) | exact H
                        have Ny417 := Aside0.mk hy417
                        clear hy417
                        by_cases c32 : y414.length + y417.length < 1353245080339
                        · rw [if_pos c32] at H
                          have LMc32 := Aside0.mk c32
                          clear c32
                          obtain ⟨y420, hy420⟩ : ∃ y_ : List (S40), y_ = (y414 ++ y417) := ⟨_, rfl⟩
                          replace H : ((settle_Net.f y420 a1).bind fun bt423 => (if 0 ≤ (l0.length : Int) then (if (l0.length : Int) ≤ (y420.length : Int) then ((settle_Net.f (y420.take ((l0.length : Int) : Int).toNat) a1).bind fun bt431 => (if t389 = true then (if bt423.2 = 5 then (if (bt423.1.length : Int) = 0 then (if bt431.2 = 0 then ((chargeparkref42_Ints.f kj18 t390 bt431.1).bind fun t435 => (some t435)) else (none)) else (none)) else (none)) else (none))) else (none)) else (none))) = some r := by first | (rw [hy420]; with_reducible exact H) | (have H2_ := (Option.bind_some _ _).symm.trans H; rw [hy420]; with_reducible exact H2_) | (have H2_ := (Option.bind_some _ _).symm.trans H; with_reducible exact H2_) | with_reducible exact H | (rw [hy420]; exact H) | exact H
                          have Ny420 := Aside0.mk hy420
                          clear hy420
                          replace H := Option.bind_eq_some_iff.mp H
                          obtain ⟨⟨t423, t424⟩, A330, H⟩ := H
                          replace H : (if 0 ≤ (l0.length : Int) then (if (l0.length : Int) ≤ (y420.length : Int) then ((settle_Net.f (y420.take ((l0.length : Int) : Int).toNat) a1).bind fun bt431 => (if t389 = true then (if t424 = 5 then (if (t423.length : Int) = 0 then (if bt431.2 = 0 then ((chargeparkref42_Ints.f kj18 t390 bt431.1).bind fun t435 => (some t435)) else (none)) else (none)) else (none)) else (none))) else (none)) else (none)) = some r := H
                          have A33 := Aside0.mk A330
                          clear A330
                          by_cases c34 : 0 ≤ (l0.length : Int)
                          · rw [if_pos c34] at H
                            have c34b0 := eq_true c34
                            have c34b1 : decide (0 ≤ (l0.length : Int)) = true := decide_eq_true c34
                            clear c34
                            by_cases c35 : (l0.length : Int) ≤ (y420.length : Int)
                            · rw [if_pos c35] at H
                              have c35b0 := eq_true c35
                              have c35b1 : decide ((l0.length : Int) ≤ (y420.length : Int)) = true := decide_eq_true c35
                              clear c35
                              obtain ⟨y427, hy427⟩ : ∃ y_ : List (S40), y_ = (y420.take ((l0.length : Int) : Int).toNat) := ⟨_, rfl⟩
                              replace H : ((settle_Net.f y427 a1).bind fun bt431 => (if t389 = true then (if t424 = 5 then (if (t423.length : Int) = 0 then (if bt431.2 = 0 then ((chargeparkref42_Ints.f kj18 t390 bt431.1).bind fun t435 => (some t435)) else (none)) else (none)) else (none)) else (none))) = some r := by first | (rw [hy427]; with_reducible exact H) | (have H2_ := (Option.bind_some _ _).symm.trans H; rw [hy427]; with_reducible exact H2_) | (have H2_ := (Option.bind_some _ _).symm.trans H; with_reducible exact H2_) | with_reducible exact H | (rw [hy427]; exact H) | exact H
                              have Ny427 := Aside0.mk hy427
                              clear hy427
                              replace H := Option.bind_eq_some_iff.mp H
                              obtain ⟨⟨t431, t432⟩, A360, H⟩ := H
                              replace H : (if t389 = true then (if t424 = 5 then (if (t423.length : Int) = 0 then (if t432 = 0 then ((chargeparkref42_Ints.f kj18 t390 t431).bind fun t435 => (some t435)) else (none)) else (none)) else (none)) else (none)) = some r := H
                              have A36 := Aside0.mk A360
                              clear A360
                              by_cases c37 : t389 = true
                              · subst c37
                                have H1 : (if t424 = 5 then (if (t423.length : Int) = 0 then (if t432 = 0 then ((chargeparkref42_Ints.f kj18 t390 t431).bind fun t435 => (some t435)) else (none)) else (none)) else (none)) = some r := by rw [if_pos rfl] at H; exact H
                                clear H
                                have H := H1
                                clear H1
                                by_cases c38 : t424 = 5
                                · rw [if_pos c38] at H
                                  have c38b0 : (t424 == 5) = true := beq_iff_eq.mpr c38
                                  have c38b1 : (t424 != 5) = false := bne_eq_false_iff_eq.mpr c38
                                  clear c38
                                  by_cases c39 : (t423.length : Int) = 0
                                  · rw [if_pos c39] at H
                                    have c39b0 : ((t423.length : Int) == 0) = true := beq_iff_eq.mpr c39
                                    have c39b1 : ((t423.length : Int) != 0) = false := bne_eq_false_iff_eq.mpr c39
                                    clear c39
                                    by_cases c40 : t432 = 0
                                    · rw [if_pos c40] at H
                                      have c40b0 : (t432 == 0) = true := beq_iff_eq.mpr c40
                                      have c40b1 : (t432 != 0) = false := bne_eq_false_iff_eq.mpr c40
                                      clear c40
                                      replace H := Option.bind_eq_some_iff.mp H
                                      obtain ⟨t435, A410, H⟩ := H
                                      replace H : (some t435) = some r := H
                                      have A41 := Aside0.mk A410
                                      clear A410
                                      obtain rfl := Option.some.inj H
                                      try go_wp2
                                      have n0_ := Aside0.mk (Kd.R_drew HO_12.out)
                                      have n1_ := Aside0.mk (blk_drew BK395.out)
                                      have n2_ := Aside0.mk (blk_drew BK409.out)
                                      have n3_ := Aside0.mk (below_drew1 HB.out)
                                      clear HO_12
                                      clear BK395
                                      clear BK409
                                      clear HB
                                      have HO_12 := n0_
                                      have BK395 := n1_
                                      have BK409 := n2_
                                      have HB := n3_
                                      clear n0_ n1_ n2_ n3_
                                      refine start_ (n := 7) (S := fun w' => w'.cell? ⟨gb409, 0, none⟩ = some (.int .i64 t396) ∧ w'.cell? ⟨gb409, 1, none⟩ = some (.int .i64 t397) ∧ w'.cell? ⟨gb409, 2, none⟩ = some (.int .i64 t398) ∧ w'.cell? ⟨gb409, 3, none⟩ = some (.int .i64 t399) ∧ w'.cell? ⟨gb409, 4, none⟩ = some (.int .i64 t400) ∧ w'.cell? ⟨gb409, 5, none⟩ = some (.int .i64 t401) ∧ w'.cell? ⟨gb409, 6, none⟩ = some (.int .i64 t402) ∧ w'.cell? ⟨gb409, 7, none⟩ = some (.int .i64 t403) ∧ w'.cell? ⟨gb409, 8, none⟩ = some (.int .i64 t404) ∧ w'.cell? ⟨gb409, 9, none⟩ = some (.int .u64 t405) ∧ w'.cell? ⟨gb409, 10, none⟩ = some (.int .u64 t406) ∧ w'.cell? ⟨gb409, 11, none⟩ = some (.int .u64 t407) ∧ w'.cell? ⟨gb409, 12, none⟩ = some (.int .u64 t408)) (ds := []) #[false, false, false, false, false, false, false] (by kernel_rfl) rfl rfl ⟨(blk_cell BK409.out 0).trans rfl, (blk_cell BK409.out 1).trans rfl, (blk_cell BK409.out 2).trans rfl, (blk_cell BK409.out 3).trans rfl, (blk_cell BK409.out 4).trans rfl, (blk_cell BK409.out 5).trans rfl, (blk_cell BK409.out 6).trans rfl, (blk_cell BK409.out 7).trans rfl, (blk_cell BK409.out 8).trans rfl, (blk_cell BK409.out 9).trans rfl, (blk_cell BK409.out 10).trans rfl, (blk_cell BK409.out 11).trans rfl, (blk_cell BK409.out 12).trans rfl⟩ (fun hHeld => ?_)
                                      generalize wc.drew = w42 at HO_12 BK395 BK409 HB hHeld ⊢
                                      refine pure_ (i := 1) (N := some 67) (v := ?_) (a' := ?_) #[false, true, false, false, false, false, false] rfl rfl (by kernel_rfl) (fun _ _ _ h => h) (Or.inl ⟨by rfl, ?_⟩) ?_ ?_
                                      rotate_left
                                      · intro w'
                                        go_simp
                                        with_reducible rfl
                                      rotate_left
                                      · simp only [Act.put, List.setIfInBounds_toArray, List.set_cons_zero, List.set_cons_succ, i64_w, i32_w]
                                        rfl
                                      refine take_ (i := 3) (N := some 69) (v := ?_) (a' := ?_) #[false, true, false, true, false, false, false] rfl rfl (by kernel_rfl) (fun _ _ _ h => h) (Or.inl ⟨by rfl, ?_⟩) hHeld ?_ ?_
                                      rotate_left
                                      · rintro w' ⟨s0, s1, s2, s3, s4, s5, s6, s7, s8, s9, s10, s11, s12⟩
                                        go_simp
                                        with_reducible rfl
                                      rotate_left
                                      · simp only [Act.put, List.setIfInBounds_toArray, List.set_cons_zero, List.set_cons_succ, i64_w, i32_w]
                                        rfl
                                      refine join_ (σ := Value × Value × Value) 2 #[true, true, true, true, true, false, false] (fun s_ => [(66, s_.1), (68, s_.2.1), (70, s_.2.2)]) (fun s_ w' => (w'.cell? ⟨gb409, 0, none⟩ = some (.int .i64 t396) ∧ w'.cell? ⟨gb409, 1, none⟩ = some (.int .i64 t397) ∧ w'.cell? ⟨gb409, 2, none⟩ = some (.int .i64 t398) ∧ w'.cell? ⟨gb409, 3, none⟩ = some (.int .i64 t399) ∧ w'.cell? ⟨gb409, 4, none⟩ = some (.int .i64 t400) ∧ w'.cell? ⟨gb409, 5, none⟩ = some (.int .i64 t401) ∧ w'.cell? ⟨gb409, 6, none⟩ = some (.int .i64 t402) ∧ w'.cell? ⟨gb409, 7, none⟩ = some (.int .i64 t403) ∧ w'.cell? ⟨gb409, 8, none⟩ = some (.int .i64 t404) ∧ w'.cell? ⟨gb409, 9, none⟩ = some (.int .u64 t405) ∧ w'.cell? ⟨gb409, 10, none⟩ = some (.int .u64 t406) ∧ w'.cell? ⟨gb409, 11, none⟩ = some (.int .u64 t407) ∧ w'.cell? ⟨gb409, 12, none⟩ = some (.int .u64 t408)) ∧ (Kd.R k40 40 w' w.heap.size (fun k_ => some k_ ≠ (s_.2.2 : Value).ownBlock ∧ k_ ≠ gb395 ∧ k_ ≠ gb409) s_.2.1 y414) ∧ (Kd.R k40 40 w' w.heap.size (fun k_ => some k_ ≠ (s_.2.1 : Value).ownBlock ∧ k_ ≠ gb395 ∧ k_ ≠ gb409) s_.2.2 y417) ∧ (Kd.R (Kd.int .i64) 3 w' w.heap.size (fun _ => True) v392 t390) ∧ (w'.heap[gb395]? = some (.cells #[.int .i64 ((rd_T40 l0 (ji14)).f0), .int .i64 ((rd_T40 l0 (ji14)).f1), .int .i64 ((rd_T40 l0 (ji14)).f2), .int .i64 ((rd_T40 l0 (ji14)).f3), .int .i64 ((rd_T40 l0 (ji14)).f4), .int .i64 ((rd_T40 l0 (ji14)).f5), .int .i64 ((rd_T40 l0 (ji14)).f6), .int .i64 ((rd_T40 l0 (ji14)).f7), .int .i64 ((rd_T40 l0 (ji14)).f8), .int .u64 ((rd_T40 l0 (ji14)).f9.f0), .int .u64 ((rd_T40 l0 (ji14)).f9.f1), .int .u64 ((rd_T40 l0 (ji14)).f9.f2), .int .u64 ((rd_T40 l0 (ji14)).f9.f3)] 40 (0, 0))) ∧ (w'.heap[gb409]? = some (.cells #[.int .i64 t396, .int .i64 t397, .int .i64 t398, .int .i64 t399, .int .i64 t400, .int .i64 t401, .int .i64 t402, .int .i64 t403, .int .i64 t404, .int .u64 t405, .int .u64 t406, .int .u64 t407, .int .u64 t408] 40 (0, 0))) ∧ (Below w.heap.size w w')) ?_ ?_
                                      rotate_left
                                      · intro hCont
                                        refine two_ (i := 0) (j := 4) (Ni := some 66) (Nj := some 70) #[true, true, false, true, false, false, false] #[false, true, false, true, true, false, false] rfl rfl rfl rfl (by kernel_rfl) (by decide) (by decide) (fun K hK => ?_) (fun K hK => ?_)
                                        · skip
                                          refine R_make0_step k40 _ 40 (by rfl) (N := 66) rfl 22 _ _ rfl 64 rfl rfl Try.underlying22 (.agg #[(.int .i64 0), (.int .i64 0), (.int .i64 0), (.int .i64 0), (.int .i64 0), (.int .i64 0), (.int .i64 0), (.int .i64 0), (.int .i64 0), (.int .u64 0), (.int .u64 0), (.int .u64 0), (.int .u64 0)]) 104 info40 rfl (by decide) (by omega) z40 (ok := fun _ => True) (okp := fun _ => True) (k40_mkM _ _ _ z40 ) (fun _ hk => hk) trivial (by omega) (by omega) (Below.refl _ _) (Nat.le_refl _) ?_
                                          intro v412 w43 ho44 hb hg_ hnew_
                                          clear hg_ hnew_
                                          (first | rw [← Ny411.out] at ho44 | (simp only [Int.reduceToNat] at ho44; rw [← Ny411.out] at ho44))
                                          have n0_ := Aside0.mk (Kd.R_below (by (with_reducible repeat (first | apply Kd.R_alloc | apply Kd.R_drewN | apply Kd.R_drew)); exact HO_12.out) hb)
                                          have n1_ := Aside0.mk (Kd.R_lower (Kd.R_newB (Kd.R_newB ho44 (g := gb395) (o := .cells #[.int .i64 ((rd_T40 l0 (ji14)).f0), .int .i64 ((rd_T40 l0 (ji14)).f1), .int .i64 ((rd_T40 l0 (ji14)).f2), .int .i64 ((rd_T40 l0 (ji14)).f3), .int .i64 ((rd_T40 l0 (ji14)).f4), .int .i64 ((rd_T40 l0 (ji14)).f5), .int .i64 ((rd_T40 l0 (ji14)).f6), .int .i64 ((rd_T40 l0 (ji14)).f7), .int .i64 ((rd_T40 l0 (ji14)).f8), .int .u64 ((rd_T40 l0 (ji14)).f9.f0), .int .u64 ((rd_T40 l0 (ji14)).f9.f1), .int .u64 ((rd_T40 l0 (ji14)).f9.f2), .int .u64 ((rd_T40 l0 (ji14)).f9.f3)] 40 (0, 0)) (by (with_reducible repeat (first | refine blk_drewN ?_ _ | refine blk_drew ?_ | refine blk_alloc ?_ _)); exact BK395.out)) (g := gb409) (o := .cells #[.int .i64 t396, .int .i64 t397, .int .i64 t398, .int .i64 t399, .int .i64 t400, .int .i64 t401, .int .i64 t402, .int .i64 t403, .int .i64 t404, .int .u64 t405, .int .u64 t406, .int .u64 t407, .int .u64 t408] 40 (0, 0)) (by (with_reducible repeat (first | refine blk_drewN ?_ _ | refine blk_drew ?_ | refine blk_alloc ?_ _)); exact BK409.out)) (below_size (by repeat (first | (with_reducible first | exact HB.out | apply below_alloc | apply pw_below_drewN | apply below_drew1 | refine below_set ?_ GE395.out | refine below_set ?_ GE409.out) | exact HB.out))))
                                          have n2_ := Aside0.mk (blk_below (g := gb395) (o := .cells #[.int .i64 ((rd_T40 l0 (ji14)).f0), .int .i64 ((rd_T40 l0 (ji14)).f1), .int .i64 ((rd_T40 l0 (ji14)).f2), .int .i64 ((rd_T40 l0 (ji14)).f3), .int .i64 ((rd_T40 l0 (ji14)).f4), .int .i64 ((rd_T40 l0 (ji14)).f5), .int .i64 ((rd_T40 l0 (ji14)).f6), .int .i64 ((rd_T40 l0 (ji14)).f7), .int .i64 ((rd_T40 l0 (ji14)).f8), .int .u64 ((rd_T40 l0 (ji14)).f9.f0), .int .u64 ((rd_T40 l0 (ji14)).f9.f1), .int .u64 ((rd_T40 l0 (ji14)).f9.f2), .int .u64 ((rd_T40 l0 (ji14)).f9.f3)] 40 (0, 0)) (by (with_reducible repeat (first | refine blk_drewN ?_ _ | refine blk_drew ?_ | refine blk_alloc ?_ _)); exact BK395.out) hb)
                                          have n3_ := Aside0.mk (blk_below (g := gb409) (o := .cells #[.int .i64 t396, .int .i64 t397, .int .i64 t398, .int .i64 t399, .int .i64 t400, .int .i64 t401, .int .i64 t402, .int .i64 t403, .int .i64 t404, .int .u64 t405, .int .u64 t406, .int .u64 t407, .int .u64 t408] 40 (0, 0)) (by (with_reducible repeat (first | refine blk_drewN ?_ _ | refine blk_drew ?_ | refine blk_alloc ?_ _)); exact BK409.out) hb)
                                          have n4_ := Aside0.mk (below_step (by repeat (first | (with_reducible first | exact HB.out | apply below_alloc | apply pw_below_drewN | apply below_drew1 | refine below_set ?_ GE395.out | refine below_set ?_ GE409.out) | exact HB.out)) hb)
                                          clear HO_12
                                          clear BK395
                                          clear BK409
                                          clear HB
                                          have HO_12 := n0_
                                          have HO413 := n1_
                                          have BK395 := n2_
                                          have BK409 := n3_
                                          have HB := n4_
                                          clear n0_ n1_ n2_ n3_ n4_
                                          clear hb ho44
                                          refine hK.out _ _ ⟨(blk_cell BK409.out 0).trans rfl, (blk_cell BK409.out 1).trans rfl, (blk_cell BK409.out 2).trans rfl, (blk_cell BK409.out 3).trans rfl, (blk_cell BK409.out 4).trans rfl, (blk_cell BK409.out 5).trans rfl, (blk_cell BK409.out 6).trans rfl, (blk_cell BK409.out 7).trans rfl, (blk_cell BK409.out 8).trans rfl, (blk_cell BK409.out 9).trans rfl, (blk_cell BK409.out 10).trans rfl, (blk_cell BK409.out 11).trans rfl, (blk_cell BK409.out 12).trans rfl⟩ (fun hHeld => ?_)
                                          clear hK K
                                          refine norm_ (a' := ?_) ?_ ?_
                                          rotate_left
                                          · show Act.put _ (some 66) _ = _
                                            simp only [Act.put, List.setIfInBounds_toArray, List.set_cons_zero, List.set_cons_succ, i64_w, i32_w]
                                            rfl
                                          refine two_ (i := 2) (j := 4) (Ni := some 68) (Nj := some 70) #[true, true, true, true, false, false, false] #[true, true, false, true, true, false, false] rfl rfl rfl rfl (by kernel_rfl) (by decide) (by decide) (fun K hK => ?_) (fun K hK => ?_)
                                          · skip
                                            refine Kd.R_append_rows_step k40 (w0 := w) w.heap.size (by rfl) (.tmp 66) (.tmp 67) 22 40 (.agg #[(.int .i64 0), (.int .i64 0), (.int .i64 0), (.int .i64 0), (.int .i64 0), (.int .i64 0), (.int .i64 0), (.int .i64 0), (.int .i64 0), (.int .u64 0), (.int .u64 0), (.int .u64 0), (.int .u64 0)]) 104 rfl Try.underlying22 info40 rfl (by decide) (by omega) v412 y411 l0 _ _ _ (fun k_ => k_ ≠ gb395 ∧ k_ ≠ gb409) (fun _ => False) rfl rfl ?aO ?aR (fun _ _ h => h) (fun _ h => h.elim) ?aF ?aB ?aS ?aL ?_
                                            (case aR => repeat (first | exact (Kd.C_below HR0.out HB.out) | (with_reducible refine Kd.C_alloc ?_ _) | (with_reducible refine Kd.C_drewN ?_ _) | (with_reducible refine Kd.C_drew ?_)))
                                            (case aB => exact (by repeat (first | (with_reducible first | exact HB.out | apply below_alloc | apply pw_below_drewN | apply below_drew1 | refine below_set ?_ GE395.out | refine below_set ?_ GE409.out) | exact HB.out)))
                                            (case aF => exact (fun k_ hk => ⟨Kd.freshB (g := gb395) (o := .cells #[.int .i64 ((rd_T40 l0 (ji14)).f0), .int .i64 ((rd_T40 l0 (ji14)).f1), .int .i64 ((rd_T40 l0 (ji14)).f2), .int .i64 ((rd_T40 l0 (ji14)).f3), .int .i64 ((rd_T40 l0 (ji14)).f4), .int .i64 ((rd_T40 l0 (ji14)).f5), .int .i64 ((rd_T40 l0 (ji14)).f6), .int .i64 ((rd_T40 l0 (ji14)).f7), .int .i64 ((rd_T40 l0 (ji14)).f8), .int .u64 ((rd_T40 l0 (ji14)).f9.f0), .int .u64 ((rd_T40 l0 (ji14)).f9.f1), .int .u64 ((rd_T40 l0 (ji14)).f9.f2), .int .u64 ((rd_T40 l0 (ji14)).f9.f3)] 40 (0, 0)) (by (with_reducible repeat (first | refine blk_drewN ?_ _ | refine blk_drew ?_ | refine blk_alloc ?_ _)); exact BK395.out) k_ hk, Kd.freshB (g := gb409) (o := .cells #[.int .i64 t396, .int .i64 t397, .int .i64 t398, .int .i64 t399, .int .i64 t400, .int .i64 t401, .int .i64 t402, .int .i64 t403, .int .i64 t404, .int .u64 t405, .int .u64 t406, .int .u64 t407, .int .u64 t408] 40 (0, 0)) (by (with_reducible repeat (first | refine blk_drewN ?_ _ | refine blk_drew ?_ | refine blk_alloc ?_ _)); exact BK409.out) k_ hk⟩))
                                            (case aO => exact (by (with_reducible repeat (first | apply Kd.R_alloc | apply Kd.R_drewN | apply Kd.R_drew)); exact Kd.R_mono HO413.out (fun _ hk => ⟨hk.1.2, hk.2⟩)))
                                            (case aS => exact (below_size (by repeat (first | (with_reducible first | exact HB.out | apply below_alloc | apply pw_below_drewN | apply below_drew1 | refine below_set ?_ GE395.out | refine below_set ?_ GE409.out) | exact HB.out))))
                                            (case aL => have := LMc31.out; omega)
                                            intro v415 w45 ho hb hg hat
                                            rw [← Ny414.out] at ho
                                            have n0_ := Aside0.mk (Kd.R_over' (by (with_reducible repeat (first | apply Kd.R_alloc | apply Kd.R_drewN | apply Kd.R_drew)); exact HO_12.out) (Kd.R_typed (by (with_reducible repeat (first | apply Kd.R_alloc | apply Kd.R_drewN | apply Kd.R_drew)); exact HO413.out)) (by decide) hg)
                                            have n1_ := Aside0.mk (blk_grown (g := gb395) (o := .cells #[.int .i64 ((rd_T40 l0 (ji14)).f0), .int .i64 ((rd_T40 l0 (ji14)).f1), .int .i64 ((rd_T40 l0 (ji14)).f2), .int .i64 ((rd_T40 l0 (ji14)).f3), .int .i64 ((rd_T40 l0 (ji14)).f4), .int .i64 ((rd_T40 l0 (ji14)).f5), .int .i64 ((rd_T40 l0 (ji14)).f6), .int .i64 ((rd_T40 l0 (ji14)).f7), .int .i64 ((rd_T40 l0 (ji14)).f8), .int .u64 ((rd_T40 l0 (ji14)).f9.f0), .int .u64 ((rd_T40 l0 (ji14)).f9.f1), .int .u64 ((rd_T40 l0 (ji14)).f9.f2), .int .u64 ((rd_T40 l0 (ji14)).f9.f3)] 40 (0, 0)) (by (with_reducible repeat (first | refine blk_drewN ?_ _ | refine blk_drew ?_ | refine blk_alloc ?_ _)); exact BK395.out) hg (Kd.R_away HO413.out (fun _ hk => hk.1.2)))
                                            have n2_ := Aside0.mk (blk_grown (g := gb409) (o := .cells #[.int .i64 t396, .int .i64 t397, .int .i64 t398, .int .i64 t399, .int .i64 t400, .int .i64 t401, .int .i64 t402, .int .i64 t403, .int .i64 t404, .int .u64 t405, .int .u64 t406, .int .u64 t407, .int .u64 t408] 40 (0, 0)) (by (with_reducible repeat (first | refine blk_drewN ?_ _ | refine blk_drew ?_ | refine blk_alloc ?_ _)); exact BK409.out) hg (Kd.R_away HO413.out (fun _ hk => hk.2)))
                                            have n3_ := Aside0.mk (hb)
                                            have n4_ := Aside0.mk (ho)
                                            clear HO_12
                                            clear BK395
                                            clear BK409
                                            clear HB
                                            clear HO413
                                            have HO_12 := n0_
                                            have BK395 := n1_
                                            have BK409 := n2_
                                            have HB := n3_
                                            have HO416 := n4_
                                            clear n0_ n1_ n2_ n3_ n4_
                                            clear ho hb hg hat
                                            refine hK.out _ _ ⟨(blk_cell BK409.out 0).trans rfl, (blk_cell BK409.out 1).trans rfl, (blk_cell BK409.out 2).trans rfl, (blk_cell BK409.out 3).trans rfl, (blk_cell BK409.out 4).trans rfl, (blk_cell BK409.out 5).trans rfl, (blk_cell BK409.out 6).trans rfl, (blk_cell BK409.out 7).trans rfl, (blk_cell BK409.out 8).trans rfl, (blk_cell BK409.out 9).trans rfl, (blk_cell BK409.out 10).trans rfl, (blk_cell BK409.out 11).trans rfl, (blk_cell BK409.out 12).trans rfl⟩ (fun hHeld => ?_)
                                            clear hK K
                                            refine norm_ (a' := ?_) ?_ ?_
                                            rotate_left
                                            · show Act.put _ (some 68) _ = _
                                              simp only [Act.put, List.setIfInBounds_toArray, List.set_cons_zero, List.set_cons_succ, i64_w, i32_w]
                                              rfl
                                            refine one_ (i := 4) (N := some 70) #[true, true, true, true, true, false, false] rfl rfl (by kernel_rfl) (by decide) (fun K hK => ?_)
                                            refine Kd.R_lit_step k40 _ 40 ?hg (N := 70) ?hd (xs := ([(⟨t396, t397, t398, t399, t400, t401, t402, t403, t404, (⟨t405, t406, t407, t408⟩ : S38)⟩ : S40)] : List (S40))) (inner := [.int .i64 t396, .int .i64 t397, .int .i64 t398, .int .i64 t399, .int .i64 t400, .int .i64 t401, .int .i64 t402, .int .i64 t403, .int .i64 t404, .int .u64 t405, .int .u64 t406, .int .u64 t407, .int .u64 t408]) (ok := fun _ => True) (okp := fun _ => True) ?hr ?hp (fun _ hk => hk) trivial (Below.refl _ _) (Nat.le_refl _) (by simp) ?_; (case hd => rfl); (case hg => rfl); (case hr => first | (go_simp; done) | (go_simp; rfl)); (case hp => exact (Reps.front (show Kd.M k40 _ _ _ (⟨t396, t397, t398, t399, t400, t401, t402, t403, t404, (⟨t405, t406, t407, t408⟩ : S38)⟩ : S40) [.int .i64 t396, .int .i64 t397, .int .i64 t398, .int .i64 t399, .int .i64 t400, .int .i64 t401, .int .i64 t402, .int .i64 t403, .int .i64 t404, .int .u64 t405, .int .u64 t406, .int .u64 t407, .int .u64 t408] from (k40_mkM _ _ _ (⟨t396, t397, t398, t399, t400, t401, t402, t403, t404, (⟨t405, t406, t407, t408⟩ : S38)⟩ : S40) )) rfl (Reps.none _ _) rfl))
                                            intro v418 w46 ho47 hb hg_ hnew_
                                            clear hg_ hnew_
                                            (first | rw [← Ny417.out] at ho47 | (simp only [Int.reduceToNat] at ho47; rw [← Ny417.out] at ho47))
                                            have n0_ := Aside0.mk (Kd.R_below (by (with_reducible repeat (first | apply Kd.R_alloc | apply Kd.R_drewN | apply Kd.R_drew)); exact HO_12.out) hb)
                                            have n1_ := Aside0.mk (Kd.R_elder' (by (with_reducible repeat (first | apply Kd.R_alloc | apply Kd.R_drewN | apply Kd.R_drew)); exact HO416.out) (Kd.R_base ho47) hb)
                                            have n2_ := Aside0.mk (Kd.R_lower (Kd.R_newB (Kd.R_newB (Kd.R_new' ho47 (Kd.R_lt (by (with_reducible repeat (first | apply Kd.R_alloc | apply Kd.R_drewN | apply Kd.R_drew)); exact HO416.out))) (g := gb395) (o := .cells #[.int .i64 ((rd_T40 l0 (ji14)).f0), .int .i64 ((rd_T40 l0 (ji14)).f1), .int .i64 ((rd_T40 l0 (ji14)).f2), .int .i64 ((rd_T40 l0 (ji14)).f3), .int .i64 ((rd_T40 l0 (ji14)).f4), .int .i64 ((rd_T40 l0 (ji14)).f5), .int .i64 ((rd_T40 l0 (ji14)).f6), .int .i64 ((rd_T40 l0 (ji14)).f7), .int .i64 ((rd_T40 l0 (ji14)).f8), .int .u64 ((rd_T40 l0 (ji14)).f9.f0), .int .u64 ((rd_T40 l0 (ji14)).f9.f1), .int .u64 ((rd_T40 l0 (ji14)).f9.f2), .int .u64 ((rd_T40 l0 (ji14)).f9.f3)] 40 (0, 0)) (by (with_reducible repeat (first | refine blk_drewN ?_ _ | refine blk_drew ?_ | refine blk_alloc ?_ _)); exact BK395.out)) (g := gb409) (o := .cells #[.int .i64 t396, .int .i64 t397, .int .i64 t398, .int .i64 t399, .int .i64 t400, .int .i64 t401, .int .i64 t402, .int .i64 t403, .int .i64 t404, .int .u64 t405, .int .u64 t406, .int .u64 t407, .int .u64 t408] 40 (0, 0)) (by (with_reducible repeat (first | refine blk_drewN ?_ _ | refine blk_drew ?_ | refine blk_alloc ?_ _)); exact BK409.out)) (below_size (by repeat (first | (with_reducible first | exact HB.out | apply below_alloc | apply pw_below_drewN | apply below_drew1 | refine below_set ?_ GE395.out | refine below_set ?_ GE409.out) | exact HB.out))))
                                            have n3_ := Aside0.mk (blk_below (g := gb395) (o := .cells #[.int .i64 ((rd_T40 l0 (ji14)).f0), .int .i64 ((rd_T40 l0 (ji14)).f1), .int .i64 ((rd_T40 l0 (ji14)).f2), .int .i64 ((rd_T40 l0 (ji14)).f3), .int .i64 ((rd_T40 l0 (ji14)).f4), .int .i64 ((rd_T40 l0 (ji14)).f5), .int .i64 ((rd_T40 l0 (ji14)).f6), .int .i64 ((rd_T40 l0 (ji14)).f7), .int .i64 ((rd_T40 l0 (ji14)).f8), .int .u64 ((rd_T40 l0 (ji14)).f9.f0), .int .u64 ((rd_T40 l0 (ji14)).f9.f1), .int .u64 ((rd_T40 l0 (ji14)).f9.f2), .int .u64 ((rd_T40 l0 (ji14)).f9.f3)] 40 (0, 0)) (by (with_reducible repeat (first | refine blk_drewN ?_ _ | refine blk_drew ?_ | refine blk_alloc ?_ _)); exact BK395.out) hb)
                                            have n4_ := Aside0.mk (blk_below (g := gb409) (o := .cells #[.int .i64 t396, .int .i64 t397, .int .i64 t398, .int .i64 t399, .int .i64 t400, .int .i64 t401, .int .i64 t402, .int .i64 t403, .int .i64 t404, .int .u64 t405, .int .u64 t406, .int .u64 t407, .int .u64 t408] 40 (0, 0)) (by (with_reducible repeat (first | refine blk_drewN ?_ _ | refine blk_drew ?_ | refine blk_alloc ?_ _)); exact BK409.out) hb)
                                            have n5_ := Aside0.mk (below_step (by repeat (first | (with_reducible first | exact HB.out | apply below_alloc | apply pw_below_drewN | apply below_drew1 | refine below_set ?_ GE395.out | refine below_set ?_ GE409.out) | exact HB.out)) hb)
                                            clear HO_12
                                            clear HO416
                                            clear BK395
                                            clear BK409
                                            clear HB
                                            have HO_12 := n0_
                                            have HO416 := n1_
                                            have HO419 := n2_
                                            have BK395 := n3_
                                            have BK409 := n4_
                                            have HB := n5_
                                            clear n0_ n1_ n2_ n3_ n4_ n5_
                                            clear hb ho47
                                            refine hK.out _ _ ⟨(blk_cell BK409.out 0).trans rfl, (blk_cell BK409.out 1).trans rfl, (blk_cell BK409.out 2).trans rfl, (blk_cell BK409.out 3).trans rfl, (blk_cell BK409.out 4).trans rfl, (blk_cell BK409.out 5).trans rfl, (blk_cell BK409.out 6).trans rfl, (blk_cell BK409.out 7).trans rfl, (blk_cell BK409.out 8).trans rfl, (blk_cell BK409.out 9).trans rfl, (blk_cell BK409.out 10).trans rfl, (blk_cell BK409.out 11).trans rfl, (blk_cell BK409.out 12).trans rfl⟩ (fun hHeld => ?_)
                                            clear hK K
                                            refine norm_ (a' := ?_) ?_ ?_
                                            rotate_left
                                            · show Act.put _ (some 70) _ = _
                                              simp only [Act.put, List.setIfInBounds_toArray, List.set_cons_zero, List.set_cons_succ, i64_w, i32_w]
                                              rfl
                                            exact norm_ (by simp only [putAll, Act.put, List.setIfInBounds_toArray, List.set_cons_zero, List.set_cons_succ]) (hCont (v412, v415, v418) _ ⟨hHeld, (by (with_reducible repeat (first | apply Kd.R_alloc | apply Kd.R_drewN | apply Kd.R_drew)); exact Kd.R_mono HO416.out (fun _ hk => ⟨hk.2, ⟨hk.1.1, hk.1.2⟩⟩)), (by (with_reducible repeat (first | apply Kd.R_alloc | apply Kd.R_drewN | apply Kd.R_drew)); exact Kd.R_mono HO419.out (fun _ hk => ⟨hk.1.1.2, ⟨hk.1.2, hk.2⟩⟩)), (by (with_reducible repeat (first | apply Kd.R_alloc | apply Kd.R_drewN | apply Kd.R_drew)); exact HO_12.out), (by (with_reducible repeat (first | refine blk_drewN ?_ _ | refine blk_drew ?_ | refine blk_alloc ?_ _)); exact BK395.out), (by (with_reducible repeat (first | refine blk_drewN ?_ _ | refine blk_drew ?_ | refine blk_alloc ?_ _)); exact BK409.out), (by repeat (first | (with_reducible first | exact HB.out | apply below_alloc | apply pw_below_drewN | apply below_drew1 | refine below_set ?_ GE395.out | refine below_set ?_ GE409.out) | exact HB.out))⟩)
                                          · skip
                                            refine Kd.R_lit_step k40 _ 40 ?hg (N := 70) ?hd (xs := ([(⟨t396, t397, t398, t399, t400, t401, t402, t403, t404, (⟨t405, t406, t407, t408⟩ : S38)⟩ : S40)] : List (S40))) (inner := [.int .i64 t396, .int .i64 t397, .int .i64 t398, .int .i64 t399, .int .i64 t400, .int .i64 t401, .int .i64 t402, .int .i64 t403, .int .i64 t404, .int .u64 t405, .int .u64 t406, .int .u64 t407, .int .u64 t408]) (ok := fun _ => True) (okp := fun _ => True) ?hr ?hp (fun _ hk => hk) trivial (Below.refl _ _) (Nat.le_refl _) (by simp) ?_; (case hd => rfl); (case hg => rfl); (case hr => first | (go_simp; done) | (go_simp; rfl)); (case hp => exact (Reps.front (show Kd.M k40 _ _ _ (⟨t396, t397, t398, t399, t400, t401, t402, t403, t404, (⟨t405, t406, t407, t408⟩ : S38)⟩ : S40) [.int .i64 t396, .int .i64 t397, .int .i64 t398, .int .i64 t399, .int .i64 t400, .int .i64 t401, .int .i64 t402, .int .i64 t403, .int .i64 t404, .int .u64 t405, .int .u64 t406, .int .u64 t407, .int .u64 t408] from (k40_mkM _ _ _ (⟨t396, t397, t398, t399, t400, t401, t402, t403, t404, (⟨t405, t406, t407, t408⟩ : S38)⟩ : S40) )) rfl (Reps.none _ _) rfl))
                                            intro v418 w45 ho46 hb hg_ hnew_
                                            clear hg_ hnew_
                                            (first | rw [← Ny417.out] at ho46 | (simp only [Int.reduceToNat] at ho46; rw [← Ny417.out] at ho46))
                                            have n0_ := Aside0.mk (Kd.R_below (by (with_reducible repeat (first | apply Kd.R_alloc | apply Kd.R_drewN | apply Kd.R_drew)); exact HO_12.out) hb)
                                            have n1_ := Aside0.mk (Kd.R_elder' (by (with_reducible repeat (first | apply Kd.R_alloc | apply Kd.R_drewN | apply Kd.R_drew)); exact HO413.out) (Kd.R_base ho46) hb)
                                            have n2_ := Aside0.mk (Kd.R_lower (Kd.R_newB (Kd.R_newB (Kd.R_new' ho46 (Kd.R_lt (by (with_reducible repeat (first | apply Kd.R_alloc | apply Kd.R_drewN | apply Kd.R_drew)); exact HO413.out))) (g := gb395) (o := .cells #[.int .i64 ((rd_T40 l0 (ji14)).f0), .int .i64 ((rd_T40 l0 (ji14)).f1), .int .i64 ((rd_T40 l0 (ji14)).f2), .int .i64 ((rd_T40 l0 (ji14)).f3), .int .i64 ((rd_T40 l0 (ji14)).f4), .int .i64 ((rd_T40 l0 (ji14)).f5), .int .i64 ((rd_T40 l0 (ji14)).f6), .int .i64 ((rd_T40 l0 (ji14)).f7), .int .i64 ((rd_T40 l0 (ji14)).f8), .int .u64 ((rd_T40 l0 (ji14)).f9.f0), .int .u64 ((rd_T40 l0 (ji14)).f9.f1), .int .u64 ((rd_T40 l0 (ji14)).f9.f2), .int .u64 ((rd_T40 l0 (ji14)).f9.f3)] 40 (0, 0)) (by (with_reducible repeat (first | refine blk_drewN ?_ _ | refine blk_drew ?_ | refine blk_alloc ?_ _)); exact BK395.out)) (g := gb409) (o := .cells #[.int .i64 t396, .int .i64 t397, .int .i64 t398, .int .i64 t399, .int .i64 t400, .int .i64 t401, .int .i64 t402, .int .i64 t403, .int .i64 t404, .int .u64 t405, .int .u64 t406, .int .u64 t407, .int .u64 t408] 40 (0, 0)) (by (with_reducible repeat (first | refine blk_drewN ?_ _ | refine blk_drew ?_ | refine blk_alloc ?_ _)); exact BK409.out)) (below_size (by repeat (first | (with_reducible first | exact HB.out | apply below_alloc | apply pw_below_drewN | apply below_drew1 | refine below_set ?_ GE395.out | refine below_set ?_ GE409.out) | exact HB.out))))
                                            have n3_ := Aside0.mk (blk_below (g := gb395) (o := .cells #[.int .i64 ((rd_T40 l0 (ji14)).f0), .int .i64 ((rd_T40 l0 (ji14)).f1), .int .i64 ((rd_T40 l0 (ji14)).f2), .int .i64 ((rd_T40 l0 (ji14)).f3), .int .i64 ((rd_T40 l0 (ji14)).f4), .int .i64 ((rd_T40 l0 (ji14)).f5), .int .i64 ((rd_T40 l0 (ji14)).f6), .int .i64 ((rd_T40 l0 (ji14)).f7), .int .i64 ((rd_T40 l0 (ji14)).f8), .int .u64 ((rd_T40 l0 (ji14)).f9.f0), .int .u64 ((rd_T40 l0 (ji14)).f9.f1), .int .u64 ((rd_T40 l0 (ji14)).f9.f2), .int .u64 ((rd_T40 l0 (ji14)).f9.f3)] 40 (0, 0)) (by (with_reducible repeat (first | refine blk_drewN ?_ _ | refine blk_drew ?_ | refine blk_alloc ?_ _)); exact BK395.out) hb)
                                            have n4_ := Aside0.mk (blk_below (g := gb409) (o := .cells #[.int .i64 t396, .int .i64 t397, .int .i64 t398, .int .i64 t399, .int .i64 t400, .int .i64 t401, .int .i64 t402, .int .i64 t403, .int .i64 t404, .int .u64 t405, .int .u64 t406, .int .u64 t407, .int .u64 t408] 40 (0, 0)) (by (with_reducible repeat (first | refine blk_drewN ?_ _ | refine blk_drew ?_ | refine blk_alloc ?_ _)); exact BK409.out) hb)
                                            have n5_ := Aside0.mk (below_step (by repeat (first | (with_reducible first | exact HB.out | apply below_alloc | apply pw_below_drewN | apply below_drew1 | refine below_set ?_ GE395.out | refine below_set ?_ GE409.out) | exact HB.out)) hb)
                                            clear HO_12
                                            clear HO413
                                            clear BK395
                                            clear BK409
                                            clear HB
                                            have HO_12 := n0_
                                            have HO413 := n1_
                                            have HO419 := n2_
                                            have BK395 := n3_
                                            have BK409 := n4_
                                            have HB := n5_
                                            clear n0_ n1_ n2_ n3_ n4_ n5_
                                            clear hb ho46
                                            refine hK.out _ _ ⟨(blk_cell BK409.out 0).trans rfl, (blk_cell BK409.out 1).trans rfl, (blk_cell BK409.out 2).trans rfl, (blk_cell BK409.out 3).trans rfl, (blk_cell BK409.out 4).trans rfl, (blk_cell BK409.out 5).trans rfl, (blk_cell BK409.out 6).trans rfl, (blk_cell BK409.out 7).trans rfl, (blk_cell BK409.out 8).trans rfl, (blk_cell BK409.out 9).trans rfl, (blk_cell BK409.out 10).trans rfl, (blk_cell BK409.out 11).trans rfl, (blk_cell BK409.out 12).trans rfl⟩ (fun hHeld => ?_)
                                            clear hK K
                                            refine norm_ (a' := ?_) ?_ ?_
                                            rotate_left
                                            · show Act.put _ (some 70) _ = _
                                              simp only [Act.put, List.setIfInBounds_toArray, List.set_cons_zero, List.set_cons_succ, i64_w, i32_w]
                                              rfl
                                            refine one_ (i := 2) (N := some 68) #[true, true, true, true, true, false, false] rfl rfl (by kernel_rfl) (by decide) (fun K hK => ?_)
                                            refine Kd.R_append_rows_step k40 (w0 := w) w.heap.size (by rfl) (.tmp 66) (.tmp 67) 22 40 (.agg #[(.int .i64 0), (.int .i64 0), (.int .i64 0), (.int .i64 0), (.int .i64 0), (.int .i64 0), (.int .i64 0), (.int .i64 0), (.int .i64 0), (.int .u64 0), (.int .u64 0), (.int .u64 0), (.int .u64 0)]) 104 rfl Try.underlying22 info40 rfl (by decide) (by omega) v412 y411 l0 _ _ _ (fun k_ => some k_ ≠ (v418 : Value).ownBlock ∧ k_ ≠ gb395 ∧ k_ ≠ gb409) (fun _ => False) rfl rfl ?aO ?aR (fun _ _ h => h) (fun _ h => h.elim) ?aF ?aB ?aS ?aL ?_
                                            (case aR => repeat (first | exact (Kd.C_below HR0.out HB.out) | (with_reducible refine Kd.C_alloc ?_ _) | (with_reducible refine Kd.C_drewN ?_ _) | (with_reducible refine Kd.C_drew ?_)))
                                            (case aB => exact (by repeat (first | (with_reducible first | exact HB.out | apply below_alloc | apply pw_below_drewN | apply below_drew1 | refine below_set ?_ GE395.out | refine below_set ?_ GE409.out) | exact HB.out)))
                                            (case aF => exact (fun k_ hk => ⟨Kd.fresh' (Kd.R_lt (by (with_reducible repeat (first | apply Kd.R_alloc | apply Kd.R_drewN | apply Kd.R_drew)); exact HO419.out)) k_ hk, Kd.freshB (g := gb395) (o := .cells #[.int .i64 ((rd_T40 l0 (ji14)).f0), .int .i64 ((rd_T40 l0 (ji14)).f1), .int .i64 ((rd_T40 l0 (ji14)).f2), .int .i64 ((rd_T40 l0 (ji14)).f3), .int .i64 ((rd_T40 l0 (ji14)).f4), .int .i64 ((rd_T40 l0 (ji14)).f5), .int .i64 ((rd_T40 l0 (ji14)).f6), .int .i64 ((rd_T40 l0 (ji14)).f7), .int .i64 ((rd_T40 l0 (ji14)).f8), .int .u64 ((rd_T40 l0 (ji14)).f9.f0), .int .u64 ((rd_T40 l0 (ji14)).f9.f1), .int .u64 ((rd_T40 l0 (ji14)).f9.f2), .int .u64 ((rd_T40 l0 (ji14)).f9.f3)] 40 (0, 0)) (by (with_reducible repeat (first | refine blk_drewN ?_ _ | refine blk_drew ?_ | refine blk_alloc ?_ _)); exact BK395.out) k_ hk, Kd.freshB (g := gb409) (o := .cells #[.int .i64 t396, .int .i64 t397, .int .i64 t398, .int .i64 t399, .int .i64 t400, .int .i64 t401, .int .i64 t402, .int .i64 t403, .int .i64 t404, .int .u64 t405, .int .u64 t406, .int .u64 t407, .int .u64 t408] 40 (0, 0)) (by (with_reducible repeat (first | refine blk_drewN ?_ _ | refine blk_drew ?_ | refine blk_alloc ?_ _)); exact BK409.out) k_ hk⟩))
                                            (case aO => exact (by (with_reducible repeat (first | apply Kd.R_alloc | apply Kd.R_drewN | apply Kd.R_drew)); exact Kd.R_mono HO413.out (fun _ hk => ⟨hk.2, ⟨hk.1.1.2, hk.1.2⟩⟩)))
                                            (case aS => exact (below_size (by repeat (first | (with_reducible first | exact HB.out | apply below_alloc | apply pw_below_drewN | apply below_drew1 | refine below_set ?_ GE395.out | refine below_set ?_ GE409.out) | exact HB.out))))
                                            (case aL => have := LMc31.out; omega)
                                            intro v415 w47 ho hb hg hat
                                            rw [← Ny414.out] at ho
                                            have n0_ := Aside0.mk (Kd.R_over' (by (with_reducible repeat (first | apply Kd.R_alloc | apply Kd.R_drewN | apply Kd.R_drew)); exact HO_12.out) (Kd.R_typed (by (with_reducible repeat (first | apply Kd.R_alloc | apply Kd.R_drewN | apply Kd.R_drew)); exact HO413.out)) (by decide) hg)
                                            have n1_ := Aside0.mk (blk_grown (g := gb395) (o := .cells #[.int .i64 ((rd_T40 l0 (ji14)).f0), .int .i64 ((rd_T40 l0 (ji14)).f1), .int .i64 ((rd_T40 l0 (ji14)).f2), .int .i64 ((rd_T40 l0 (ji14)).f3), .int .i64 ((rd_T40 l0 (ji14)).f4), .int .i64 ((rd_T40 l0 (ji14)).f5), .int .i64 ((rd_T40 l0 (ji14)).f6), .int .i64 ((rd_T40 l0 (ji14)).f7), .int .i64 ((rd_T40 l0 (ji14)).f8), .int .u64 ((rd_T40 l0 (ji14)).f9.f0), .int .u64 ((rd_T40 l0 (ji14)).f9.f1), .int .u64 ((rd_T40 l0 (ji14)).f9.f2), .int .u64 ((rd_T40 l0 (ji14)).f9.f3)] 40 (0, 0)) (by (with_reducible repeat (first | refine blk_drewN ?_ _ | refine blk_drew ?_ | refine blk_alloc ?_ _)); exact BK395.out) hg (Kd.R_away HO413.out (fun _ hk => hk.1.1.2)))
                                            have n2_ := Aside0.mk (blk_grown (g := gb409) (o := .cells #[.int .i64 t396, .int .i64 t397, .int .i64 t398, .int .i64 t399, .int .i64 t400, .int .i64 t401, .int .i64 t402, .int .i64 t403, .int .i64 t404, .int .u64 t405, .int .u64 t406, .int .u64 t407, .int .u64 t408] 40 (0, 0)) (by (with_reducible repeat (first | refine blk_drewN ?_ _ | refine blk_drew ?_ | refine blk_alloc ?_ _)); exact BK409.out) hg (Kd.R_away HO413.out (fun _ hk => hk.1.2)))
                                            have n3_ := Aside0.mk (Kd.R_after (ok := (fun k_ => k_ ≠ gb395 ∧ k_ ≠ gb409)) (by (with_reducible repeat (first | apply Kd.R_alloc | apply Kd.R_drewN | apply Kd.R_drew)); exact Kd.R_mono HO419.out (fun _ hk => ⟨⟨hk.1.2, hk.2⟩, hk.1.1.2⟩)) hg hat)
                                            have n4_ := Aside0.mk (hb)
                                            have n5_ := Aside0.mk (ho)
                                            clear HO_12
                                            clear BK395
                                            clear BK409
                                            clear HO419
                                            clear HB
                                            clear HO413
                                            have HO_12 := n0_
                                            have BK395 := n1_
                                            have BK409 := n2_
                                            have HO419 := n3_
                                            have HB := n4_
                                            have HO416 := n5_
                                            clear n0_ n1_ n2_ n3_ n4_ n5_
                                            clear ho hb hg hat
                                            refine hK.out _ _ ⟨(blk_cell BK409.out 0).trans rfl, (blk_cell BK409.out 1).trans rfl, (blk_cell BK409.out 2).trans rfl, (blk_cell BK409.out 3).trans rfl, (blk_cell BK409.out 4).trans rfl, (blk_cell BK409.out 5).trans rfl, (blk_cell BK409.out 6).trans rfl, (blk_cell BK409.out 7).trans rfl, (blk_cell BK409.out 8).trans rfl, (blk_cell BK409.out 9).trans rfl, (blk_cell BK409.out 10).trans rfl, (blk_cell BK409.out 11).trans rfl, (blk_cell BK409.out 12).trans rfl⟩ (fun hHeld => ?_)
                                            clear hK K
                                            refine norm_ (a' := ?_) ?_ ?_
                                            rotate_left
                                            · show Act.put _ (some 68) _ = _
                                              simp only [Act.put, List.setIfInBounds_toArray, List.set_cons_zero, List.set_cons_succ, i64_w, i32_w]
                                              rfl
                                            exact norm_ (by simp only [putAll, Act.put, List.setIfInBounds_toArray, List.set_cons_zero, List.set_cons_succ]) (hCont (v412, v415, v418) _ ⟨hHeld, (by (with_reducible repeat (first | apply Kd.R_alloc | apply Kd.R_drewN | apply Kd.R_drew)); exact HO416.out), (by (with_reducible repeat (first | apply Kd.R_alloc | apply Kd.R_drewN | apply Kd.R_drew)); exact Kd.R_mono HO419.out (fun _ hk => ⟨hk.2, ⟨hk.1.1, hk.1.2⟩⟩)), (by (with_reducible repeat (first | apply Kd.R_alloc | apply Kd.R_drewN | apply Kd.R_drew)); exact HO_12.out), (by (with_reducible repeat (first | refine blk_drewN ?_ _ | refine blk_drew ?_ | refine blk_alloc ?_ _)); exact BK395.out), (by (with_reducible repeat (first | refine blk_drewN ?_ _ | refine blk_drew ?_ | refine blk_alloc ?_ _)); exact BK409.out), (by repeat (first | (with_reducible first | exact HB.out | apply below_alloc | apply pw_below_drewN | apply below_drew1 | refine below_set ?_ GE395.out | refine below_set ?_ GE409.out) | exact HB.out))⟩)
                                        · skip
                                          refine Kd.R_lit_step k40 _ 40 ?hg (N := 70) ?hd (xs := ([(⟨t396, t397, t398, t399, t400, t401, t402, t403, t404, (⟨t405, t406, t407, t408⟩ : S38)⟩ : S40)] : List (S40))) (inner := [.int .i64 t396, .int .i64 t397, .int .i64 t398, .int .i64 t399, .int .i64 t400, .int .i64 t401, .int .i64 t402, .int .i64 t403, .int .i64 t404, .int .u64 t405, .int .u64 t406, .int .u64 t407, .int .u64 t408]) (ok := fun _ => True) (okp := fun _ => True) ?hr ?hp (fun _ hk => hk) trivial (Below.refl _ _) (Nat.le_refl _) (by simp) ?_; (case hd => rfl); (case hg => rfl); (case hr => first | (go_simp; done) | (go_simp; rfl)); (case hp => exact (Reps.front (show Kd.M k40 _ _ _ (⟨t396, t397, t398, t399, t400, t401, t402, t403, t404, (⟨t405, t406, t407, t408⟩ : S38)⟩ : S40) [.int .i64 t396, .int .i64 t397, .int .i64 t398, .int .i64 t399, .int .i64 t400, .int .i64 t401, .int .i64 t402, .int .i64 t403, .int .i64 t404, .int .u64 t405, .int .u64 t406, .int .u64 t407, .int .u64 t408] from (k40_mkM _ _ _ (⟨t396, t397, t398, t399, t400, t401, t402, t403, t404, (⟨t405, t406, t407, t408⟩ : S38)⟩ : S40) )) rfl (Reps.none _ _) rfl))
                                          intro v418 w43 ho44 hb hg_ hnew_
                                          clear hg_ hnew_
                                          (first | rw [← Ny417.out] at ho44 | (simp only [Int.reduceToNat] at ho44; rw [← Ny417.out] at ho44))
                                          have n0_ := Aside0.mk (Kd.R_below (by (with_reducible repeat (first | apply Kd.R_alloc | apply Kd.R_drewN | apply Kd.R_drew)); exact HO_12.out) hb)
                                          have n1_ := Aside0.mk (Kd.R_lower (Kd.R_newB (Kd.R_newB ho44 (g := gb395) (o := .cells #[.int .i64 ((rd_T40 l0 (ji14)).f0), .int .i64 ((rd_T40 l0 (ji14)).f1), .int .i64 ((rd_T40 l0 (ji14)).f2), .int .i64 ((rd_T40 l0 (ji14)).f3), .int .i64 ((rd_T40 l0 (ji14)).f4), .int .i64 ((rd_T40 l0 (ji14)).f5), .int .i64 ((rd_T40 l0 (ji14)).f6), .int .i64 ((rd_T40 l0 (ji14)).f7), .int .i64 ((rd_T40 l0 (ji14)).f8), .int .u64 ((rd_T40 l0 (ji14)).f9.f0), .int .u64 ((rd_T40 l0 (ji14)).f9.f1), .int .u64 ((rd_T40 l0 (ji14)).f9.f2), .int .u64 ((rd_T40 l0 (ji14)).f9.f3)] 40 (0, 0)) (by (with_reducible repeat (first | refine blk_drewN ?_ _ | refine blk_drew ?_ | refine blk_alloc ?_ _)); exact BK395.out)) (g := gb409) (o := .cells #[.int .i64 t396, .int .i64 t397, .int .i64 t398, .int .i64 t399, .int .i64 t400, .int .i64 t401, .int .i64 t402, .int .i64 t403, .int .i64 t404, .int .u64 t405, .int .u64 t406, .int .u64 t407, .int .u64 t408] 40 (0, 0)) (by (with_reducible repeat (first | refine blk_drewN ?_ _ | refine blk_drew ?_ | refine blk_alloc ?_ _)); exact BK409.out)) (below_size (by repeat (first | (with_reducible first | exact HB.out | apply below_alloc | apply pw_below_drewN | apply below_drew1 | refine below_set ?_ GE395.out | refine below_set ?_ GE409.out) | exact HB.out))))
                                          have n2_ := Aside0.mk (blk_below (g := gb395) (o := .cells #[.int .i64 ((rd_T40 l0 (ji14)).f0), .int .i64 ((rd_T40 l0 (ji14)).f1), .int .i64 ((rd_T40 l0 (ji14)).f2), .int .i64 ((rd_T40 l0 (ji14)).f3), .int .i64 ((rd_T40 l0 (ji14)).f4), .int .i64 ((rd_T40 l0 (ji14)).f5), .int .i64 ((rd_T40 l0 (ji14)).f6), .int .i64 ((rd_T40 l0 (ji14)).f7), .int .i64 ((rd_T40 l0 (ji14)).f8), .int .u64 ((rd_T40 l0 (ji14)).f9.f0), .int .u64 ((rd_T40 l0 (ji14)).f9.f1), .int .u64 ((rd_T40 l0 (ji14)).f9.f2), .int .u64 ((rd_T40 l0 (ji14)).f9.f3)] 40 (0, 0)) (by (with_reducible repeat (first | refine blk_drewN ?_ _ | refine blk_drew ?_ | refine blk_alloc ?_ _)); exact BK395.out) hb)
                                          have n3_ := Aside0.mk (blk_below (g := gb409) (o := .cells #[.int .i64 t396, .int .i64 t397, .int .i64 t398, .int .i64 t399, .int .i64 t400, .int .i64 t401, .int .i64 t402, .int .i64 t403, .int .i64 t404, .int .u64 t405, .int .u64 t406, .int .u64 t407, .int .u64 t408] 40 (0, 0)) (by (with_reducible repeat (first | refine blk_drewN ?_ _ | refine blk_drew ?_ | refine blk_alloc ?_ _)); exact BK409.out) hb)
                                          have n4_ := Aside0.mk (below_step (by repeat (first | (with_reducible first | exact HB.out | apply below_alloc | apply pw_below_drewN | apply below_drew1 | refine below_set ?_ GE395.out | refine below_set ?_ GE409.out) | exact HB.out)) hb)
                                          clear HO_12
                                          clear BK395
                                          clear BK409
                                          clear HB
                                          have HO_12 := n0_
                                          have HO419 := n1_
                                          have BK395 := n2_
                                          have BK409 := n3_
                                          have HB := n4_
                                          clear n0_ n1_ n2_ n3_ n4_
                                          clear hb ho44
                                          refine hK.out _ _ ⟨(blk_cell BK409.out 0).trans rfl, (blk_cell BK409.out 1).trans rfl, (blk_cell BK409.out 2).trans rfl, (blk_cell BK409.out 3).trans rfl, (blk_cell BK409.out 4).trans rfl, (blk_cell BK409.out 5).trans rfl, (blk_cell BK409.out 6).trans rfl, (blk_cell BK409.out 7).trans rfl, (blk_cell BK409.out 8).trans rfl, (blk_cell BK409.out 9).trans rfl, (blk_cell BK409.out 10).trans rfl, (blk_cell BK409.out 11).trans rfl, (blk_cell BK409.out 12).trans rfl⟩ (fun hHeld => ?_)
                                          clear hK K
                                          refine norm_ (a' := ?_) ?_ ?_
                                          rotate_left
                                          · show Act.put _ (some 70) _ = _
                                            simp only [Act.put, List.setIfInBounds_toArray, List.set_cons_zero, List.set_cons_succ, i64_w, i32_w]
                                            rfl
                                          refine one_ (i := 0) (N := some 66) #[true, true, false, true, true, false, false] rfl rfl (by kernel_rfl) (by decide) (fun K hK => ?_)
                                          refine R_make0_step k40 _ 40 (by rfl) (N := 66) rfl 22 _ _ rfl 64 rfl rfl Try.underlying22 (.agg #[(.int .i64 0), (.int .i64 0), (.int .i64 0), (.int .i64 0), (.int .i64 0), (.int .i64 0), (.int .i64 0), (.int .i64 0), (.int .i64 0), (.int .u64 0), (.int .u64 0), (.int .u64 0), (.int .u64 0)]) 104 info40 rfl (by decide) (by omega) z40 (ok := fun _ => True) (okp := fun _ => True) (k40_mkM _ _ _ z40 ) (fun _ hk => hk) trivial (by omega) (by omega) (Below.refl _ _) (Nat.le_refl _) ?_
                                          intro v412 w45 ho46 hb hg_ hnew_
                                          clear hg_ hnew_
                                          (first | rw [← Ny411.out] at ho46 | (simp only [Int.reduceToNat] at ho46; rw [← Ny411.out] at ho46))
                                          have n0_ := Aside0.mk (Kd.R_below (by (with_reducible repeat (first | apply Kd.R_alloc | apply Kd.R_drewN | apply Kd.R_drew)); exact HO_12.out) hb)
                                          have n1_ := Aside0.mk (Kd.R_elder' (by (with_reducible repeat (first | apply Kd.R_alloc | apply Kd.R_drewN | apply Kd.R_drew)); exact HO419.out) (Kd.R_base ho46) hb)
                                          have n2_ := Aside0.mk (Kd.R_lower (Kd.R_newB (Kd.R_newB (Kd.R_new' ho46 (Kd.R_lt (by (with_reducible repeat (first | apply Kd.R_alloc | apply Kd.R_drewN | apply Kd.R_drew)); exact HO419.out))) (g := gb395) (o := .cells #[.int .i64 ((rd_T40 l0 (ji14)).f0), .int .i64 ((rd_T40 l0 (ji14)).f1), .int .i64 ((rd_T40 l0 (ji14)).f2), .int .i64 ((rd_T40 l0 (ji14)).f3), .int .i64 ((rd_T40 l0 (ji14)).f4), .int .i64 ((rd_T40 l0 (ji14)).f5), .int .i64 ((rd_T40 l0 (ji14)).f6), .int .i64 ((rd_T40 l0 (ji14)).f7), .int .i64 ((rd_T40 l0 (ji14)).f8), .int .u64 ((rd_T40 l0 (ji14)).f9.f0), .int .u64 ((rd_T40 l0 (ji14)).f9.f1), .int .u64 ((rd_T40 l0 (ji14)).f9.f2), .int .u64 ((rd_T40 l0 (ji14)).f9.f3)] 40 (0, 0)) (by (with_reducible repeat (first | refine blk_drewN ?_ _ | refine blk_drew ?_ | refine blk_alloc ?_ _)); exact BK395.out)) (g := gb409) (o := .cells #[.int .i64 t396, .int .i64 t397, .int .i64 t398, .int .i64 t399, .int .i64 t400, .int .i64 t401, .int .i64 t402, .int .i64 t403, .int .i64 t404, .int .u64 t405, .int .u64 t406, .int .u64 t407, .int .u64 t408] 40 (0, 0)) (by (with_reducible repeat (first | refine blk_drewN ?_ _ | refine blk_drew ?_ | refine blk_alloc ?_ _)); exact BK409.out)) (below_size (by repeat (first | (with_reducible first | exact HB.out | apply below_alloc | apply pw_below_drewN | apply below_drew1 | refine below_set ?_ GE395.out | refine below_set ?_ GE409.out) | exact HB.out))))
                                          have n3_ := Aside0.mk (blk_below (g := gb395) (o := .cells #[.int .i64 ((rd_T40 l0 (ji14)).f0), .int .i64 ((rd_T40 l0 (ji14)).f1), .int .i64 ((rd_T40 l0 (ji14)).f2), .int .i64 ((rd_T40 l0 (ji14)).f3), .int .i64 ((rd_T40 l0 (ji14)).f4), .int .i64 ((rd_T40 l0 (ji14)).f5), .int .i64 ((rd_T40 l0 (ji14)).f6), .int .i64 ((rd_T40 l0 (ji14)).f7), .int .i64 ((rd_T40 l0 (ji14)).f8), .int .u64 ((rd_T40 l0 (ji14)).f9.f0), .int .u64 ((rd_T40 l0 (ji14)).f9.f1), .int .u64 ((rd_T40 l0 (ji14)).f9.f2), .int .u64 ((rd_T40 l0 (ji14)).f9.f3)] 40 (0, 0)) (by (with_reducible repeat (first | refine blk_drewN ?_ _ | refine blk_drew ?_ | refine blk_alloc ?_ _)); exact BK395.out) hb)
                                          have n4_ := Aside0.mk (blk_below (g := gb409) (o := .cells #[.int .i64 t396, .int .i64 t397, .int .i64 t398, .int .i64 t399, .int .i64 t400, .int .i64 t401, .int .i64 t402, .int .i64 t403, .int .i64 t404, .int .u64 t405, .int .u64 t406, .int .u64 t407, .int .u64 t408] 40 (0, 0)) (by (with_reducible repeat (first | refine blk_drewN ?_ _ | refine blk_drew ?_ | refine blk_alloc ?_ _)); exact BK409.out) hb)
                                          have n5_ := Aside0.mk (below_step (by repeat (first | (with_reducible first | exact HB.out | apply below_alloc | apply pw_below_drewN | apply below_drew1 | refine below_set ?_ GE395.out | refine below_set ?_ GE409.out) | exact HB.out)) hb)
                                          clear HO_12
                                          clear HO419
                                          clear BK395
                                          clear BK409
                                          clear HB
                                          have HO_12 := n0_
                                          have HO419 := n1_
                                          have HO413 := n2_
                                          have BK395 := n3_
                                          have BK409 := n4_
                                          have HB := n5_
                                          clear n0_ n1_ n2_ n3_ n4_ n5_
                                          clear hb ho46
                                          refine hK.out _ _ ⟨(blk_cell BK409.out 0).trans rfl, (blk_cell BK409.out 1).trans rfl, (blk_cell BK409.out 2).trans rfl, (blk_cell BK409.out 3).trans rfl, (blk_cell BK409.out 4).trans rfl, (blk_cell BK409.out 5).trans rfl, (blk_cell BK409.out 6).trans rfl, (blk_cell BK409.out 7).trans rfl, (blk_cell BK409.out 8).trans rfl, (blk_cell BK409.out 9).trans rfl, (blk_cell BK409.out 10).trans rfl, (blk_cell BK409.out 11).trans rfl, (blk_cell BK409.out 12).trans rfl⟩ (fun hHeld => ?_)
                                          clear hK K
                                          refine norm_ (a' := ?_) ?_ ?_
                                          rotate_left
                                          · show Act.put _ (some 66) _ = _
                                            simp only [Act.put, List.setIfInBounds_toArray, List.set_cons_zero, List.set_cons_succ, i64_w, i32_w]
                                            rfl
                                          refine one_ (i := 2) (N := some 68) #[true, true, true, true, true, false, false] rfl rfl (by kernel_rfl) (by decide) (fun K hK => ?_)
                                          refine Kd.R_append_rows_step k40 (w0 := w) w.heap.size (by rfl) (.tmp 66) (.tmp 67) 22 40 (.agg #[(.int .i64 0), (.int .i64 0), (.int .i64 0), (.int .i64 0), (.int .i64 0), (.int .i64 0), (.int .i64 0), (.int .i64 0), (.int .i64 0), (.int .u64 0), (.int .u64 0), (.int .u64 0), (.int .u64 0)]) 104 rfl Try.underlying22 info40 rfl (by decide) (by omega) v412 y411 l0 _ _ _ (fun k_ => some k_ ≠ (v418 : Value).ownBlock ∧ k_ ≠ gb395 ∧ k_ ≠ gb409) (fun _ => False) rfl rfl ?aO ?aR (fun _ _ h => h) (fun _ h => h.elim) ?aF ?aB ?aS ?aL ?_
                                          (case aR => repeat (first | exact (Kd.C_below HR0.out HB.out) | (with_reducible refine Kd.C_alloc ?_ _) | (with_reducible refine Kd.C_drewN ?_ _) | (with_reducible refine Kd.C_drew ?_)))
                                          (case aB => exact (by repeat (first | (with_reducible first | exact HB.out | apply below_alloc | apply pw_below_drewN | apply below_drew1 | refine below_set ?_ GE395.out | refine below_set ?_ GE409.out) | exact HB.out)))
                                          (case aF => exact (fun k_ hk => ⟨Kd.fresh' (Kd.R_lt (by (with_reducible repeat (first | apply Kd.R_alloc | apply Kd.R_drewN | apply Kd.R_drew)); exact HO419.out)) k_ hk, Kd.freshB (g := gb395) (o := .cells #[.int .i64 ((rd_T40 l0 (ji14)).f0), .int .i64 ((rd_T40 l0 (ji14)).f1), .int .i64 ((rd_T40 l0 (ji14)).f2), .int .i64 ((rd_T40 l0 (ji14)).f3), .int .i64 ((rd_T40 l0 (ji14)).f4), .int .i64 ((rd_T40 l0 (ji14)).f5), .int .i64 ((rd_T40 l0 (ji14)).f6), .int .i64 ((rd_T40 l0 (ji14)).f7), .int .i64 ((rd_T40 l0 (ji14)).f8), .int .u64 ((rd_T40 l0 (ji14)).f9.f0), .int .u64 ((rd_T40 l0 (ji14)).f9.f1), .int .u64 ((rd_T40 l0 (ji14)).f9.f2), .int .u64 ((rd_T40 l0 (ji14)).f9.f3)] 40 (0, 0)) (by (with_reducible repeat (first | refine blk_drewN ?_ _ | refine blk_drew ?_ | refine blk_alloc ?_ _)); exact BK395.out) k_ hk, Kd.freshB (g := gb409) (o := .cells #[.int .i64 t396, .int .i64 t397, .int .i64 t398, .int .i64 t399, .int .i64 t400, .int .i64 t401, .int .i64 t402, .int .i64 t403, .int .i64 t404, .int .u64 t405, .int .u64 t406, .int .u64 t407, .int .u64 t408] 40 (0, 0)) (by (with_reducible repeat (first | refine blk_drewN ?_ _ | refine blk_drew ?_ | refine blk_alloc ?_ _)); exact BK409.out) k_ hk⟩))
                                          (case aO => exact (by (with_reducible repeat (first | apply Kd.R_alloc | apply Kd.R_drewN | apply Kd.R_drew)); exact Kd.R_mono HO413.out (fun _ hk => ⟨hk.1.1.2, ⟨hk.1.2, hk.2⟩⟩)))
                                          (case aS => exact (below_size (by repeat (first | (with_reducible first | exact HB.out | apply below_alloc | apply pw_below_drewN | apply below_drew1 | refine below_set ?_ GE395.out | refine below_set ?_ GE409.out) | exact HB.out))))
                                          (case aL => have := LMc31.out; omega)
                                          intro v415 w47 ho hb hg hat
                                          rw [← Ny414.out] at ho
                                          have n0_ := Aside0.mk (Kd.R_over' (by (with_reducible repeat (first | apply Kd.R_alloc | apply Kd.R_drewN | apply Kd.R_drew)); exact HO_12.out) (Kd.R_typed (by (with_reducible repeat (first | apply Kd.R_alloc | apply Kd.R_drewN | apply Kd.R_drew)); exact HO413.out)) (by decide) hg)
                                          have n1_ := Aside0.mk (blk_grown (g := gb395) (o := .cells #[.int .i64 ((rd_T40 l0 (ji14)).f0), .int .i64 ((rd_T40 l0 (ji14)).f1), .int .i64 ((rd_T40 l0 (ji14)).f2), .int .i64 ((rd_T40 l0 (ji14)).f3), .int .i64 ((rd_T40 l0 (ji14)).f4), .int .i64 ((rd_T40 l0 (ji14)).f5), .int .i64 ((rd_T40 l0 (ji14)).f6), .int .i64 ((rd_T40 l0 (ji14)).f7), .int .i64 ((rd_T40 l0 (ji14)).f8), .int .u64 ((rd_T40 l0 (ji14)).f9.f0), .int .u64 ((rd_T40 l0 (ji14)).f9.f1), .int .u64 ((rd_T40 l0 (ji14)).f9.f2), .int .u64 ((rd_T40 l0 (ji14)).f9.f3)] 40 (0, 0)) (by (with_reducible repeat (first | refine blk_drewN ?_ _ | refine blk_drew ?_ | refine blk_alloc ?_ _)); exact BK395.out) hg (Kd.R_away HO413.out (fun _ hk => hk.1.2)))
                                          have n2_ := Aside0.mk (blk_grown (g := gb409) (o := .cells #[.int .i64 t396, .int .i64 t397, .int .i64 t398, .int .i64 t399, .int .i64 t400, .int .i64 t401, .int .i64 t402, .int .i64 t403, .int .i64 t404, .int .u64 t405, .int .u64 t406, .int .u64 t407, .int .u64 t408] 40 (0, 0)) (by (with_reducible repeat (first | refine blk_drewN ?_ _ | refine blk_drew ?_ | refine blk_alloc ?_ _)); exact BK409.out) hg (Kd.R_away HO413.out (fun _ hk => hk.2)))
                                          have n3_ := Aside0.mk (Kd.R_after (ok := (fun k_ => k_ ≠ gb395 ∧ k_ ≠ gb409)) (by (with_reducible repeat (first | apply Kd.R_alloc | apply Kd.R_drewN | apply Kd.R_drew)); exact Kd.R_mono HO419.out (fun _ hk => ⟨⟨hk.1.1.2, hk.1.2⟩, hk.2⟩)) hg hat)
                                          have n4_ := Aside0.mk (hb)
                                          have n5_ := Aside0.mk (ho)
                                          clear HO_12
                                          clear BK395
                                          clear BK409
                                          clear HO419
                                          clear HB
                                          clear HO413
                                          have HO_12 := n0_
                                          have BK395 := n1_
                                          have BK409 := n2_
                                          have HO419 := n3_
                                          have HB := n4_
                                          have HO416 := n5_
                                          clear n0_ n1_ n2_ n3_ n4_ n5_
                                          clear ho hb hg hat
                                          refine hK.out _ _ ⟨(blk_cell BK409.out 0).trans rfl, (blk_cell BK409.out 1).trans rfl, (blk_cell BK409.out 2).trans rfl, (blk_cell BK409.out 3).trans rfl, (blk_cell BK409.out 4).trans rfl, (blk_cell BK409.out 5).trans rfl, (blk_cell BK409.out 6).trans rfl, (blk_cell BK409.out 7).trans rfl, (blk_cell BK409.out 8).trans rfl, (blk_cell BK409.out 9).trans rfl, (blk_cell BK409.out 10).trans rfl, (blk_cell BK409.out 11).trans rfl, (blk_cell BK409.out 12).trans rfl⟩ (fun hHeld => ?_)
                                          clear hK K
                                          refine norm_ (a' := ?_) ?_ ?_
                                          rotate_left
                                          · show Act.put _ (some 68) _ = _
                                            simp only [Act.put, List.setIfInBounds_toArray, List.set_cons_zero, List.set_cons_succ, i64_w, i32_w]
                                            rfl
                                          exact norm_ (by simp only [putAll, Act.put, List.setIfInBounds_toArray, List.set_cons_zero, List.set_cons_succ]) (hCont (v412, v415, v418) _ ⟨hHeld, (by (with_reducible repeat (first | apply Kd.R_alloc | apply Kd.R_drewN | apply Kd.R_drew)); exact HO416.out), (by (with_reducible repeat (first | apply Kd.R_alloc | apply Kd.R_drewN | apply Kd.R_drew)); exact Kd.R_mono HO419.out (fun _ hk => ⟨hk.2, ⟨hk.1.1, hk.1.2⟩⟩)), (by (with_reducible repeat (first | apply Kd.R_alloc | apply Kd.R_drewN | apply Kd.R_drew)); exact HO_12.out), (by (with_reducible repeat (first | refine blk_drewN ?_ _ | refine blk_drew ?_ | refine blk_alloc ?_ _)); exact BK395.out), (by (with_reducible repeat (first | refine blk_drewN ?_ _ | refine blk_drew ?_ | refine blk_alloc ?_ _)); exact BK409.out), (by repeat (first | (with_reducible first | exact HB.out | apply below_alloc | apply pw_below_drewN | apply below_drew1 | refine below_set ?_ GE395.out | refine below_set ?_ GE409.out) | exact HB.out))⟩)
                                      rintro ⟨v412, v415, v418⟩ w48 ⟨hS_, h0_, h1_, h2_, h3_, h4_, h5_⟩
                                      have n0_ : Aside0 (Kd.R k40 40 w48 w.heap.size (fun k_ => some k_ ≠ (v418 : Value).ownBlock ∧ k_ ≠ gb395 ∧ k_ ≠ gb409) v415 y414) := ⟨h0_⟩
                                      have n1_ : Aside0 (Kd.R k40 40 w48 w.heap.size (fun k_ => some k_ ≠ (v415 : Value).ownBlock ∧ k_ ≠ gb395 ∧ k_ ≠ gb409) v418 y417) := ⟨h1_⟩
                                      have n2_ : Aside0 (Kd.R (Kd.int .i64) 3 w48 w.heap.size (fun _ => True) v392 t390) := ⟨h2_⟩
                                      have n3_ : Aside0 (w48.heap[gb395]? = some (.cells #[.int .i64 ((rd_T40 l0 (ji14)).f0), .int .i64 ((rd_T40 l0 (ji14)).f1), .int .i64 ((rd_T40 l0 (ji14)).f2), .int .i64 ((rd_T40 l0 (ji14)).f3), .int .i64 ((rd_T40 l0 (ji14)).f4), .int .i64 ((rd_T40 l0 (ji14)).f5), .int .i64 ((rd_T40 l0 (ji14)).f6), .int .i64 ((rd_T40 l0 (ji14)).f7), .int .i64 ((rd_T40 l0 (ji14)).f8), .int .u64 ((rd_T40 l0 (ji14)).f9.f0), .int .u64 ((rd_T40 l0 (ji14)).f9.f1), .int .u64 ((rd_T40 l0 (ji14)).f9.f2), .int .u64 ((rd_T40 l0 (ji14)).f9.f3)] 40 (0, 0))) := ⟨h3_⟩
                                      have n4_ : Aside0 (w48.heap[gb409]? = some (.cells #[.int .i64 t396, .int .i64 t397, .int .i64 t398, .int .i64 t399, .int .i64 t400, .int .i64 t401, .int .i64 t402, .int .i64 t403, .int .i64 t404, .int .u64 t405, .int .u64 t406, .int .u64 t407, .int .u64 t408] 40 (0, 0))) := ⟨h4_⟩
                                      have n5_ : Aside0 (Below w.heap.size w w48) := ⟨h5_⟩
                                      clear HO_12
                                      clear BK395
                                      clear BK409
                                      clear HB
                                      clear h0_ h1_ h2_ h3_ h4_ h5_
                                      have HO416 := n0_
                                      have HO419 := n1_
                                      have HO_12 := n2_
                                      have BK395 := n3_
                                      have BK409 := n4_
                                      have HB := n5_
                                      clear n0_ n1_ n2_ n3_ n4_ n5_
                                      have hHeld : w48.cell? ⟨gb409, 0, none⟩ = some (.int .i64 t396) ∧ w48.cell? ⟨gb409, 1, none⟩ = some (.int .i64 t397) ∧ w48.cell? ⟨gb409, 2, none⟩ = some (.int .i64 t398) ∧ w48.cell? ⟨gb409, 3, none⟩ = some (.int .i64 t399) ∧ w48.cell? ⟨gb409, 4, none⟩ = some (.int .i64 t400) ∧ w48.cell? ⟨gb409, 5, none⟩ = some (.int .i64 t401) ∧ w48.cell? ⟨gb409, 6, none⟩ = some (.int .i64 t402) ∧ w48.cell? ⟨gb409, 7, none⟩ = some (.int .i64 t403) ∧ w48.cell? ⟨gb409, 8, none⟩ = some (.int .i64 t404) ∧ w48.cell? ⟨gb409, 9, none⟩ = some (.int .u64 t405) ∧ w48.cell? ⟨gb409, 10, none⟩ = some (.int .u64 t406) ∧ w48.cell? ⟨gb409, 11, none⟩ = some (.int .u64 t407) ∧ w48.cell? ⟨gb409, 12, none⟩ = some (.int .u64 t408) := hS_
                                      obtain ⟨Ao50, co50, eo50⟩ := Kd.R_slice HO419.out
                                      (first | subst eo50 | (injection eo50 with f1_ f2_ f3_; have f4_ := f1_.symm; have f5_ := f3_.symm; clear f1_ f2_ f3_; subst f4_; subst f5_))
                                      refine norm_ (a' := ?_) ?_ ?_
                                      rotate_left
                                      · simp only [putAll, Act.put, List.setIfInBounds_toArray, List.set_cons_zero, List.set_cons_succ]
                                        rfl
                                      refine one_ (i := 5) (N := some 71) #[true, true, true, true, true, true, false] rfl rfl (by kernel_rfl) (by decide) (fun K hK => ?_)
                                      refine Kd.R_append_rows_step k40 (w0 := w) w.heap.size (by rfl) (.tmp 68) (.tmp 70) 22 40 (.agg #[(.int .i64 0), (.int .i64 0), (.int .i64 0), (.int .i64 0), (.int .i64 0), (.int .i64 0), (.int .i64 0), (.int .i64 0), (.int .i64 0), (.int .u64 0), (.int .u64 0), (.int .u64 0), (.int .u64 0)]) 104 rfl Try.underlying22 info40 rfl (by decide) (by omega) v415 y414 y417 _ _ _ (fun k_ => some k_ ≠ (.slice Ao50 y417.length co50 : Value).ownBlock ∧ k_ ≠ gb395 ∧ k_ ≠ gb409) (fun _ => False) rfl rfl ?aO ?aR (fun _ _ h => h) (fun _ h => h.elim) ?aF ?aB ?aS ?aL ?_
                                      (case aR => repeat (first | exact (Kd.R_reads' HO419.out).2.2 | (with_reducible refine Kd.C_alloc ?_ _) | (with_reducible refine Kd.C_drewN ?_ _) | (with_reducible refine Kd.C_drew ?_)))
                                      (case aB => exact (by repeat (first | (with_reducible first | exact HB.out | apply below_alloc | apply pw_below_drewN | apply below_drew1 | refine below_set ?_ GE395.out | refine below_set ?_ GE409.out) | exact HB.out)))
                                      (case aF => exact (fun k_ hk => ⟨Kd.fresh' (Kd.R_lt (by (with_reducible repeat (first | apply Kd.R_alloc | apply Kd.R_drewN | apply Kd.R_drew)); exact HO419.out)) k_ hk, Kd.freshB (g := gb395) (o := .cells #[.int .i64 ((rd_T40 l0 (ji14)).f0), .int .i64 ((rd_T40 l0 (ji14)).f1), .int .i64 ((rd_T40 l0 (ji14)).f2), .int .i64 ((rd_T40 l0 (ji14)).f3), .int .i64 ((rd_T40 l0 (ji14)).f4), .int .i64 ((rd_T40 l0 (ji14)).f5), .int .i64 ((rd_T40 l0 (ji14)).f6), .int .i64 ((rd_T40 l0 (ji14)).f7), .int .i64 ((rd_T40 l0 (ji14)).f8), .int .u64 ((rd_T40 l0 (ji14)).f9.f0), .int .u64 ((rd_T40 l0 (ji14)).f9.f1), .int .u64 ((rd_T40 l0 (ji14)).f9.f2), .int .u64 ((rd_T40 l0 (ji14)).f9.f3)] 40 (0, 0)) (by (with_reducible repeat (first | refine blk_drewN ?_ _ | refine blk_drew ?_ | refine blk_alloc ?_ _)); exact BK395.out) k_ hk, Kd.freshB (g := gb409) (o := .cells #[.int .i64 t396, .int .i64 t397, .int .i64 t398, .int .i64 t399, .int .i64 t400, .int .i64 t401, .int .i64 t402, .int .i64 t403, .int .i64 t404, .int .u64 t405, .int .u64 t406, .int .u64 t407, .int .u64 t408] 40 (0, 0)) (by (with_reducible repeat (first | refine blk_drewN ?_ _ | refine blk_drew ?_ | refine blk_alloc ?_ _)); exact BK409.out) k_ hk⟩))
                                      (case aO => exact (by (with_reducible repeat (first | apply Kd.R_alloc | apply Kd.R_drewN | apply Kd.R_drew)); exact HO416.out))
                                      (case aS => exact (below_size (by repeat (first | (with_reducible first | exact HB.out | apply below_alloc | apply pw_below_drewN | apply below_drew1 | refine below_set ?_ GE395.out | refine below_set ?_ GE409.out) | exact HB.out))))
                                      (case aL => have := LMc32.out; omega)
                                      intro v421 w49 ho hb hg hat
                                      rw [← Ny420.out] at ho
                                      have n0_ := Aside0.mk (Kd.R_over' (by (with_reducible repeat (first | apply Kd.R_alloc | apply Kd.R_drewN | apply Kd.R_drew)); exact HO_12.out) (Kd.R_typed (by (with_reducible repeat (first | apply Kd.R_alloc | apply Kd.R_drewN | apply Kd.R_drew)); exact HO416.out)) (by decide) hg)
                                      have n1_ := Aside0.mk (blk_grown (g := gb395) (o := .cells #[.int .i64 ((rd_T40 l0 (ji14)).f0), .int .i64 ((rd_T40 l0 (ji14)).f1), .int .i64 ((rd_T40 l0 (ji14)).f2), .int .i64 ((rd_T40 l0 (ji14)).f3), .int .i64 ((rd_T40 l0 (ji14)).f4), .int .i64 ((rd_T40 l0 (ji14)).f5), .int .i64 ((rd_T40 l0 (ji14)).f6), .int .i64 ((rd_T40 l0 (ji14)).f7), .int .i64 ((rd_T40 l0 (ji14)).f8), .int .u64 ((rd_T40 l0 (ji14)).f9.f0), .int .u64 ((rd_T40 l0 (ji14)).f9.f1), .int .u64 ((rd_T40 l0 (ji14)).f9.f2), .int .u64 ((rd_T40 l0 (ji14)).f9.f3)] 40 (0, 0)) (by (with_reducible repeat (first | refine blk_drewN ?_ _ | refine blk_drew ?_ | refine blk_alloc ?_ _)); exact BK395.out) hg (Kd.R_away HO416.out (fun _ hk => hk.2.1)))
                                      have n2_ := Aside0.mk (blk_grown (g := gb409) (o := .cells #[.int .i64 t396, .int .i64 t397, .int .i64 t398, .int .i64 t399, .int .i64 t400, .int .i64 t401, .int .i64 t402, .int .i64 t403, .int .i64 t404, .int .u64 t405, .int .u64 t406, .int .u64 t407, .int .u64 t408] 40 (0, 0)) (by (with_reducible repeat (first | refine blk_drewN ?_ _ | refine blk_drew ?_ | refine blk_alloc ?_ _)); exact BK409.out) hg (Kd.R_away HO416.out (fun _ hk => hk.2.2)))
                                      have n3_ := Aside0.mk (Kd.R_after (ok := (fun k_ => k_ ≠ gb395 ∧ k_ ≠ gb409)) (by (with_reducible repeat (first | apply Kd.R_alloc | apply Kd.R_drewN | apply Kd.R_drew)); exact Kd.R_mono HO419.out (fun _ hk => ⟨⟨hk.2.1, hk.2.2⟩, hk.1⟩)) hg hat)
                                      have n4_ := Aside0.mk (hb)
                                      have n5_ := Aside0.mk (ho)
                                      clear HO_12
                                      clear BK395
                                      clear BK409
                                      clear HO419
                                      clear HB
                                      clear HO416
                                      have HO_12 := n0_
                                      have BK395 := n1_
                                      have BK409 := n2_
                                      have HO419 := n3_
                                      have HB := n4_
                                      have HO422 := n5_
                                      clear n0_ n1_ n2_ n3_ n4_ n5_
                                      clear ho hb hg hat
                                      refine hK.out _ _ ⟨(blk_cell BK409.out 0).trans rfl, (blk_cell BK409.out 1).trans rfl, (blk_cell BK409.out 2).trans rfl, (blk_cell BK409.out 3).trans rfl, (blk_cell BK409.out 4).trans rfl, (blk_cell BK409.out 5).trans rfl, (blk_cell BK409.out 6).trans rfl, (blk_cell BK409.out 7).trans rfl, (blk_cell BK409.out 8).trans rfl, (blk_cell BK409.out 9).trans rfl, (blk_cell BK409.out 10).trans rfl, (blk_cell BK409.out 11).trans rfl, (blk_cell BK409.out 12).trans rfl⟩ (fun hHeld => ?_)
                                      clear hK K
                                      refine norm_ (a' := ?_) ?_ ?_
                                      rotate_left
                                      · show Act.put _ (some 71) _ = _
                                        simp only [Act.put, List.setIfInBounds_toArray, List.set_cons_zero, List.set_cons_succ, i64_w, i32_w]
                                        rfl
                                      refine pure_ (i := 6) (N := some 17) (v := ?_) (a' := ?_) #[true, true, true, true, true, true, true] rfl rfl (by kernel_rfl) (fun _ _ _ h => h) (Or.inl ⟨by rfl, ?_⟩) ?_ ?_
                                      rotate_left
                                      · intro w'
                                        go_simp
                                        with_reducible rfl
                                      rotate_left
                                      · simp only [Act.put, List.setIfInBounds_toArray, List.set_cons_zero, List.set_cons_succ, i64_w, i32_w]
                                        rfl
                                      refine done_ (by kernel_rfl) ?_
                                      obtain ⟨Ao51, co51, eo51⟩ := Kd.R_slice HO422.out
                                      subst eo51
                                      try go_wp2_with (first | ((with_reducible refine gate_callee (f := 10) rfl ?_); refine goesL_ (some 75) rfl rfl Try.func10 (by kernel_rfl) rfl #[.slice Ao51 y420.length co51, .int .i64 a1] rfl (by (try simp only [List.map_toArray, List.map_cons, List.map_nil]); first | done | rfl | (simp only [List.length_drop, List.length_take]; rfl)) ?_; (with_reducible refine (settle_Net.calls _ _ y420 a1 t423 t424 _ ?side1 ?side2 A33.out).mono ?_); (case side1 => repeat (first | exact (Kd.R_reads' HO422.out).2.2 | (with_reducible refine Kd.C_alloc ?_ _) | (with_reducible refine Kd.C_drewN ?_ _) | (with_reducible refine Kd.C_drew ?_))); (case side2 => exact (Kd.R_reads' HO422.out).2.1); rintro e w52 ⟨v425, rfl, ho0, hb⟩; refine ⟨_, rfl, ?_⟩; have n0_ := Aside0.mk (Kd.R_elder' (by (with_reducible repeat (first | apply Kd.R_alloc | apply Kd.R_drewN | apply Kd.R_drew)); exact HO_12.out) (Kd.R_base ho0) hb); have n1_ := Aside0.mk (Kd.R_below (by (with_reducible repeat (first | apply Kd.R_alloc | apply Kd.R_drewN | apply Kd.R_drew)); exact HO419.out) hb); have n2_ := Aside0.mk (Kd.R_below (by (with_reducible repeat (first | apply Kd.R_alloc | apply Kd.R_drewN | apply Kd.R_drew)); exact HO422.out) hb); have n3_ := Aside0.mk (Kd.R_lower (Kd.R_new' ho0 (Kd.R_lt (by (with_reducible repeat (first | apply Kd.R_alloc | apply Kd.R_drewN | apply Kd.R_drew)); exact HO_12.out))) (below_size (by repeat (first | (with_reducible first | exact HB.out | apply below_alloc | apply pw_below_drewN | apply below_drew1 | refine below_set ?_ GE395.out | refine below_set ?_ GE409.out) | exact HB.out)))); have n4_ := Aside0.mk (blk_below (g := gb395) (o := .cells #[.int .i64 ((rd_T40 l0 (ji14)).f0), .int .i64 ((rd_T40 l0 (ji14)).f1), .int .i64 ((rd_T40 l0 (ji14)).f2), .int .i64 ((rd_T40 l0 (ji14)).f3), .int .i64 ((rd_T40 l0 (ji14)).f4), .int .i64 ((rd_T40 l0 (ji14)).f5), .int .i64 ((rd_T40 l0 (ji14)).f6), .int .i64 ((rd_T40 l0 (ji14)).f7), .int .i64 ((rd_T40 l0 (ji14)).f8), .int .u64 ((rd_T40 l0 (ji14)).f9.f0), .int .u64 ((rd_T40 l0 (ji14)).f9.f1), .int .u64 ((rd_T40 l0 (ji14)).f9.f2), .int .u64 ((rd_T40 l0 (ji14)).f9.f3)] 40 (0, 0)) (by (with_reducible repeat (first | refine blk_drewN ?_ _ | refine blk_drew ?_ | refine blk_alloc ?_ _)); exact BK395.out) hb); have n5_ := Aside0.mk (blk_below (g := gb409) (o := .cells #[.int .i64 t396, .int .i64 t397, .int .i64 t398, .int .i64 t399, .int .i64 t400, .int .i64 t401, .int .i64 t402, .int .i64 t403, .int .i64 t404, .int .u64 t405, .int .u64 t406, .int .u64 t407, .int .u64 t408] 40 (0, 0)) (by (with_reducible repeat (first | refine blk_drewN ?_ _ | refine blk_drew ?_ | refine blk_alloc ?_ _)); exact BK409.out) hb); have n6_ := Aside0.mk (below_step (by repeat (first | (with_reducible first | exact HB.out | apply below_alloc | apply pw_below_drewN | apply below_drew1 | refine below_set ?_ GE395.out | refine below_set ?_ GE409.out) | exact HB.out)) hb); clear HO_12; clear HO419; clear HO422; clear BK395; clear BK409; clear HB; have HO_12 := n0_; have HO419 := n1_; have HO422 := n2_; have HO426 := n3_; have BK395 := n4_; have BK409 := n5_; have HB := n6_; clear n0_ n1_ n2_ n3_ n4_ n5_ n6_; (try clear hb); (try clear hb2); (try clear hk); (try clear hi); (try clear ho0); have q53 : ((l0.length : Int) : Int) ≤ ((y420.length : Int) : Int) := of_decide_eq_true (by first | (with_reducible assumption) | assumption); obtain ⟨i053, hi053, _, hsz53, _⟩ := info_parts info40; have hroom53 : y420.length ≤ co51 := (Kd.R_reads' HO422.out).2.1; have hC53 : Kd.C k40 _ Ao51 y420.length y420 := (Kd.R_reads' HO422.out).2.2; have hcut53 := cut_to (P := Try.prog) 22 40 .i64 Try.underlying22 hi053 Ao51 y420.length co51 (l0.length : Int) (of_decide_eq_true (by first | (with_reducible assumption) | assumption)) q53 hroom53; have hr53 := Kd.C_take (m := ((l0.length : Int) : Int).toNat) hC53 (by omega); have hy53 : y427.length = ((l0.length : Int) : Int).toNat := (by rw [Ny427.out, List.length_take]; omega); rw [← Ny427.out] at hr53; rw [← hy53] at hcut53; have HR430 := Aside0.mk hr53; have HC430 := Aside0.mk (show y427.length ≤ co51 from by omega); clear hr53 hC53 hroom53 hi053 hsz53; have KY53 := Aside0.mk hy53; clear hy53; have KL53 := Aside0.mk (show ((l0.length : Int) : Int).toNat ≤ y420.length from by omega); replace q53 := eq_true q53) | ((with_reducible refine gate_callee (f := 10) rfl ?_); refine goesL_ (some 84) rfl rfl Try.func10 (by kernel_rfl) rfl #[.slice Ao51 y427.length co51, .int .i64 a1] rfl (by (try simp only [List.map_toArray, List.map_cons, List.map_nil]); first | done | rfl | (simp only [List.length_drop, List.length_take]; rfl)) ?_; (with_reducible refine (settle_Net.calls _ _ y427 a1 t431 t432 _ ?side1 ?side2 A36.out).mono ?_); (case side1 => repeat (first | exact (by repeat (first | (with_reducible exact HR430.out) | (with_reducible refine Kd.C_alloc ?_ _) | (with_reducible refine Kd.C_drewN ?_ _) | (with_reducible refine Kd.C_drew ?_) | exact HR430.out)) | (with_reducible refine Kd.C_alloc ?_ _) | (with_reducible refine Kd.C_drewN ?_ _) | (with_reducible refine Kd.C_drew ?_))); (case side2 => exact HC430.out); rintro e w54 ⟨v433, rfl, ho0, hb⟩; refine ⟨_, rfl, ?_⟩; have n0_ := Aside0.mk (Kd.R_elder' (by (with_reducible repeat (first | apply Kd.R_alloc | apply Kd.R_drewN | apply Kd.R_drew)); exact HO_12.out) (Kd.R_base ho0) hb); have n1_ := Aside0.mk (Kd.R_below (by (with_reducible repeat (first | apply Kd.R_alloc | apply Kd.R_drewN | apply Kd.R_drew)); exact HO419.out) hb); have n2_ := Aside0.mk (Kd.R_below (by (with_reducible repeat (first | apply Kd.R_alloc | apply Kd.R_drewN | apply Kd.R_drew)); exact HO422.out) hb); have n3_ := Aside0.mk (Kd.R_elder' (by (with_reducible repeat (first | apply Kd.R_alloc | apply Kd.R_drewN | apply Kd.R_drew)); exact HO426.out) (Kd.R_base ho0) hb); have n4_ := Aside0.mk (Kd.R_lower (Kd.R_new' (Kd.R_new' ho0 (Kd.R_lt (by (with_reducible repeat (first | apply Kd.R_alloc | apply Kd.R_drewN | apply Kd.R_drew)); exact HO_12.out))) (Kd.R_lt (by (with_reducible repeat (first | apply Kd.R_alloc | apply Kd.R_drewN | apply Kd.R_drew)); exact HO426.out))) (below_size (by repeat (first | (with_reducible first | exact HB.out | apply below_alloc | apply pw_below_drewN | apply below_drew1 | refine below_set ?_ GE395.out | refine below_set ?_ GE409.out) | exact HB.out)))); have n5_ := Aside0.mk (blk_below (g := gb395) (o := .cells #[.int .i64 ((rd_T40 l0 (ji14)).f0), .int .i64 ((rd_T40 l0 (ji14)).f1), .int .i64 ((rd_T40 l0 (ji14)).f2), .int .i64 ((rd_T40 l0 (ji14)).f3), .int .i64 ((rd_T40 l0 (ji14)).f4), .int .i64 ((rd_T40 l0 (ji14)).f5), .int .i64 ((rd_T40 l0 (ji14)).f6), .int .i64 ((rd_T40 l0 (ji14)).f7), .int .i64 ((rd_T40 l0 (ji14)).f8), .int .u64 ((rd_T40 l0 (ji14)).f9.f0), .int .u64 ((rd_T40 l0 (ji14)).f9.f1), .int .u64 ((rd_T40 l0 (ji14)).f9.f2), .int .u64 ((rd_T40 l0 (ji14)).f9.f3)] 40 (0, 0)) (by (with_reducible repeat (first | refine blk_drewN ?_ _ | refine blk_drew ?_ | refine blk_alloc ?_ _)); exact BK395.out) hb); have n6_ := Aside0.mk (blk_below (g := gb409) (o := .cells #[.int .i64 t396, .int .i64 t397, .int .i64 t398, .int .i64 t399, .int .i64 t400, .int .i64 t401, .int .i64 t402, .int .i64 t403, .int .i64 t404, .int .u64 t405, .int .u64 t406, .int .u64 t407, .int .u64 t408] 40 (0, 0)) (by (with_reducible repeat (first | refine blk_drewN ?_ _ | refine blk_drew ?_ | refine blk_alloc ?_ _)); exact BK409.out) hb); have n7_ := Aside0.mk (Kd.C_below (by repeat (first | (with_reducible exact HR430.out) | (with_reducible refine Kd.C_alloc ?_ _) | (with_reducible refine Kd.C_drewN ?_ _) | (with_reducible refine Kd.C_drew ?_) | exact HR430.out)) hb); have n8_ := Aside0.mk (below_step (by repeat (first | (with_reducible first | exact HB.out | apply below_alloc | apply pw_below_drewN | apply below_drew1 | refine below_set ?_ GE395.out | refine below_set ?_ GE409.out) | exact HB.out)) hb); clear HO_12; clear HO419; clear HO422; clear HO426; clear BK395; clear BK409; clear HR430; clear HB; have HO_12 := n0_; have HO419 := n1_; have HO422 := n2_; have HO426 := n3_; have HO434 := n4_; have BK395 := n5_; have BK409 := n6_; have HR430 := n7_; have HB := n8_; clear n0_ n1_ n2_ n3_ n4_ n5_ n6_ n7_ n8_; (try clear hb); (try clear hb2); (try clear hk); (try clear hi); (try clear ho0); obtain ⟨Ao55, co55, eo55⟩ := Kd.R_slice HO426.out; subst eo55; obtain ⟨Ao56, co56, eo56⟩ := Kd.R_slice HO_12.out; subst eo56; obtain ⟨Ao57, co57, eo57⟩ := Kd.R_slice HO434.out; subst eo57) | (go_at_call 16; (with_reducible refine (chargeparkref42_Ints.calls kj18 _ _ t390 _ _ t431 t435 _ ?side1 ?side2 ?side3 ?side4 A41.out).mono ?_); (case side1 => repeat (first | exact (Kd.R_reads' HO_12.out).2.2 | (with_reducible refine Kd.C_alloc ?_ _) | (with_reducible refine Kd.C_drewN ?_ _) | (with_reducible refine Kd.C_drew ?_))); (case side2 => exact (Kd.R_reads' HO_12.out).2.1); (case side3 => repeat (first | exact (Kd.R_reads' HO434.out).2.2 | (with_reducible refine Kd.C_alloc ?_ _) | (with_reducible refine Kd.C_drewN ?_ _) | (with_reducible refine Kd.C_drew ?_))); (case side4 => exact (Kd.R_reads' HO434.out).2.1); rintro e w' ⟨rfl, ⟨nd, rfl⟩⟩))
                                      go_ret
                                      exact ⟨by first | rfl | (simp [errW_none, errW_some] <;> rfl) | (simp only [← hji14]; first | rfl | (simp [errW_none, errW_some] <;> rfl)) | (simp [*, errW_none, errW_some] <;> rfl), by repeat (first | (with_reducible first | exact HB.out | apply below_alloc | apply pw_below_drewN | apply below_drew1 | refine below_set ?_ GE395.out | refine below_set ?_ GE409.out) | exact HB.out)⟩
                                    · rw [if_neg c40] at H
                                      exact absurd H (by simp)
                                  · rw [if_neg c39] at H
                                    exact absurd H (by simp)
                                · rw [if_neg c38] at H
                                  exact absurd H (by simp)
                              · replace c37 := Bool.eq_false_iff.mpr c37
                                subst c37
                                have H1 : (none) = some r := by rw [if_neg (show ¬ (false = true) by decide)] at H; exact H
                                clear H
                                have H := H1
                                clear H1
                                exact absurd H (by simp)
                            · rw [if_neg c35] at H
                              exact absurd H (by simp)
                          · rw [if_neg c34] at H
                            exact absurd H (by simp)
                        · rw [if_neg c32] at H
                          exact absurd H (by simp)
                      · rw [if_neg c31] at H
                        exact absurd H (by simp)
                    · rw [if_neg c30] at H
                      exact absurd H (by simp)
            · rw [if_neg c16] at H
              exact absurd H (by simp)
          · rw [if_neg c15] at H
            exact absurd H (by simp)

/-- THE ONE PURE STATEMENT of chargeparklaw42_SettleTwice: yours. -/
def chargeparklaw42_SettleTwice.Pure : Prop := ∀ (l0 : List (S40)) (a1 : Int) (a2 : Int) (a3 : Int) (a4 : Int), l0.length ≤ maxLen → (∀ y ∈ l0, ok40 y) → (Lit.int .i64 a1).wf = true → (Lit.int .i64 a2).wf = true → (Lit.int .i64 a3).wf = true → (Lit.int .i64 a4).wf = true → ∃ k, chargeparklaw42_SettleTwice.f k l0 a1 a2 a3 a4 = some true
theorem chargeparklaw42_SettleTwice.walk (P : chargeparklaw42_SettleTwice.Pure) (A0 : Option Addr) (c0 : Nat) (l0 : List (S40)) (a1 : Int) (a2 : Int) (a3 : Int) (a4 : Int) (w : World) (hC0 : Kd.C k40 w A0 l0.length l0) (hc0 : l0.length ≤ c0) (hm0 : l0.length ≤ maxLen) (ho0 : ∀ y ∈ l0, ok40 y) (w1 : (Lit.int .i64 a1).wf = true) (w2 : (Lit.int .i64 a2).wf = true) (w3 : (Lit.int .i64 a3).wf = true) (w4 : (Lit.int .i64 a4).wf = true) :
    Calls Try.prog 7 #[.slice A0 l0.length c0, .int .i64 a1, .int .i64 a2, .int .i64 a3, .int .i64 a4] w fun e w' => e = .returned (.bool true) ∧ Below w.heap.size w w' := by
  obtain ⟨k, h⟩ := P l0 a1 a2 a3 a4 hm0 ho0 w1 w2 w3 w4
  refine (chargeparklaw42_SettleTwice.calls k _ _ l0 a1 a2 a3 a4 true w hC0 hc0 h).mono ?_
  rintro e w' ⟨rfl, hd⟩
  exact ⟨rfl, hd⟩


end Go.Proofs.Ytanaaphabeonoaa.PAll
