-- Written by a program of this session (xprint.py, over the kit's print.py), with contracts proved by hand.
import Derived.Test.YtanaaphabeonoaaPAllx0
import Derived.Test.YtanaaphabeonoaaPAllx3
import Derived.Test.YtanaaphabeonoaaPAllx4
namespace Go.Proofs.Ytanaaphabeonoaa.PAll
open Go.RowKit Go.Proofs.Ytanaaphabeonoaa.Open Go.Proofs.YtanaaphabeonoaaW.PrintWords Go.Proofs.YtanaaphabeonoaaW.PrintLast Go.Proofs.YtanaaphabeonoaaW.PrintMore
attribute [local go_sem] max2_int min2_int max_two min_two max_three min_three max_four min_four   -- for this text's walks alone
set_option linter.unusedVariables false
set_option linter.unusedSimpArgs false

/-! ### chargeparklaw42_SettleParts: function 5 -/
mutual
def chargeparklaw42_SettleParts.j0 : Nat → List (S40) → Int → Int → Bool → Bool → Option (Bool)
  | 0, _, _, _, _, _ => none
  | k + 1, x0, x1, x2, x7, x25 => if x25 = true then (some x7) else ((settle_Net.f x0 x1).bind fun bt331 => (if bt331.2 = 0 then (if (wrap64 ((x0.length : Int) + 1)) = 0 then (none) else (if 0 ≤ (Int.tmod x2 (wrap64 ((x0.length : Int) + 1))) then (if (Int.tmod x2 (wrap64 ((x0.length : Int) + 1))) ≤ (x0.length : Int) then ((settle_Net.f (x0.take ((Int.tmod x2 (wrap64 ((x0.length : Int) + 1))) : Int).toNat) x1).bind fun bt339 => ((settle_Net.f (x0.drop ((Int.tmod x2 (wrap64 ((x0.length : Int) + 1))) : Int).toNat) x1).bind fun bt347 => (if 0 ≤ (x0.length : Int) then (if ((x0.length : Int) : Int).toNat ≤ 2706490160679 then ((some (([] : List (S40)) : List (S40))).bind fun y351 => ((some (x0.drop ((Int.tmod x2 (wrap64 ((x0.length : Int) + 1))) : Int).toNat : List (S40))).bind fun y354 => (if y351.length + y354.length < 1353245080339 then ((some (y351 ++ y354 : List (S40))).bind fun y358 => ((some (x0.take ((Int.tmod x2 (wrap64 ((x0.length : Int) + 1))) : Int).toNat : List (S40))).bind fun y361 => (if y358.length + y361.length < 1353245080339 then ((settle_Net.f (y358 ++ y361) x1).bind fun bt368 => (if bt339.2 = 0 then (if bt347.2 = 0 then (if bt368.2 = 0 then (if (bt339.1.length : Int) = (bt331.1.length : Int) then (if (bt347.1.length : Int) = (bt331.1.length : Int) then ((chargeparkref42_Ints.f k bt331.1 bt368.1).bind fun t372 => (chargeparklaw42_SettleParts.j1 k x7 bt331.1 bt339.1 bt347.1 (!t372))) else (chargeparklaw42_SettleParts.j1 k x7 bt331.1 bt339.1 bt347.1 true)) else (chargeparklaw42_SettleParts.j1 k x7 bt331.1 bt339.1 bt347.1 true)) else (chargeparklaw42_SettleParts.j1 k x7 bt331.1 bt339.1 bt347.1 true)) else (chargeparklaw42_SettleParts.j1 k x7 bt331.1 bt339.1 bt347.1 true)) else (chargeparklaw42_SettleParts.j1 k x7 bt331.1 bt339.1 bt347.1 true))) else (none)))) else (none)))) else (none)) else (none)))) else (none)) else (none))) else (some x7)))
def chargeparklaw42_SettleParts.j1 : Nat → Bool → List Int → List Int → List Int → Bool → Option (Bool)
  | 0, _, _, _, _, _ => none
  | k + 1, x7, x8, x11, x13, x102 => if x102 = true then (none) else (chargeparklaw42_SettleParts.l0 k x7 x8 x11 x13 0)
def chargeparklaw42_SettleParts.l0 : Nat → Bool → List Int → List Int → List Int → Int → Option (Bool)
  | 0, _, _, _, _, _ => none
  | k + 1, x7, x8, x11, x13, x17 => if x17 < (x8.length : Int) then (if x7 = true then (if 0 ≤ x17 then (if x17 < (x11.length : Int) then (if x17 < (x13.length : Int) then (chargeparklaw42_SettleParts.l0 k ((wrap64 ((rd x11 x17) + (rd x13 x17))) == (rd x8 x17)) x8 x11 x13 (wrap64 (x17 + 1))) else (none)) else (none)) else (none)) else (chargeparklaw42_SettleParts.l0 k false x8 x11 x13 (wrap64 (x17 + 1)))) else (some x7)
end
def chargeparklaw42_SettleParts.f (k : Nat) (l0 : List (S40)) (a1 : Int) (a2 : Int) : Option (Bool) := (chargeparklaw42_head.f k).bind fun t330 => (if (l0.length : Int) > 64 then (chargeparklaw42_SettleParts.j0 k l0 a1 a2 t330 true) else (chargeparklaw42_SettleParts.j0 k l0 a1 a2 t330 (decide (a2 < 0))))
theorem chargeparklaw42_SettleParts.mono_l : ∀ k, (∀ y0 y1 y2 y3 y4, LeO (chargeparklaw42_SettleParts.j0 k y0 y1 y2 y3 y4) (chargeparklaw42_SettleParts.j0 (k + 1) y0 y1 y2 y3 y4)) ∧ (∀ y0 y1 y2 y3 y4, LeO (chargeparklaw42_SettleParts.j1 k y0 y1 y2 y3 y4) (chargeparklaw42_SettleParts.j1 (k + 1) y0 y1 y2 y3 y4)) ∧ (∀ y0 y1 y2 y3 y4, LeO (chargeparklaw42_SettleParts.l0 k y0 y1 y2 y3 y4) (chargeparklaw42_SettleParts.l0 (k + 1) y0 y1 y2 y3 y4))
  | 0 => ⟨fun _ _ _ _ _ r h => by simp [chargeparklaw42_SettleParts.j0] at h, fun _ _ _ _ _ r h => by simp [chargeparklaw42_SettleParts.j1] at h, fun _ _ _ _ _ r h => by simp [chargeparklaw42_SettleParts.l0] at h⟩
  | k + 1 => by
    obtain ⟨ih0, ih1, ih2⟩ := chargeparklaw42_SettleParts.mono_l k
    refine ⟨?_, ?_, ?_⟩
    · intro y0 y1 y2 y3 y4
      unfold chargeparklaw42_SettleParts.j0
      repeat' first
      | (with_reducible exact ih0 _ _ _ _ _)
      | (with_reducible exact ih1 _ _ _ _ _)
      | (with_reducible exact ih2 _ _ _ _ _)
      | (with_reducible exact chargeparklaw42_head.mono _)
      | (with_reducible exact chargeparkref42_Ints.mono _ _ _)
      | (with_reducible exact LeO.refl _)
      | (with_reducible exact LeO.none _)
      | (with_reducible refine LeO.ite ?_ ?_)
      | (with_reducible refine LeO.bind ?_ (fun _ => ?_))
      | exact ih0 _ _ _ _ _
      | exact ih1 _ _ _ _ _
      | exact ih2 _ _ _ _ _
      | exact chargeparklaw42_head.mono _
      | exact chargeparkref42_Ints.mono _ _ _
      | exact LeO.none _
      | refine LeO.ite ?_ ?_
      | refine LeO.bind ?_ (fun _ => ?_)
    · intro y0 y1 y2 y3 y4
      unfold chargeparklaw42_SettleParts.j1
      repeat' first
      | (with_reducible exact ih0 _ _ _ _ _)
      | (with_reducible exact ih1 _ _ _ _ _)
      | (with_reducible exact ih2 _ _ _ _ _)
      | (with_reducible exact chargeparklaw42_head.mono _)
      | (with_reducible exact chargeparkref42_Ints.mono _ _ _)
      | (with_reducible exact LeO.refl _)
      | (with_reducible exact LeO.none _)
      | (with_reducible refine LeO.ite ?_ ?_)
      | (with_reducible refine LeO.bind ?_ (fun _ => ?_))
      | exact ih0 _ _ _ _ _
      | exact ih1 _ _ _ _ _
      | exact ih2 _ _ _ _ _
      | exact chargeparklaw42_head.mono _
      | exact chargeparkref42_Ints.mono _ _ _
      | exact LeO.none _
      | refine LeO.ite ?_ ?_
      | refine LeO.bind ?_ (fun _ => ?_)
    · intro y0 y1 y2 y3 y4
      unfold chargeparklaw42_SettleParts.l0
      repeat' first
      | (with_reducible exact ih0 _ _ _ _ _)
      | (with_reducible exact ih1 _ _ _ _ _)
      | (with_reducible exact ih2 _ _ _ _ _)
      | (with_reducible exact chargeparklaw42_head.mono _)
      | (with_reducible exact chargeparkref42_Ints.mono _ _ _)
      | (with_reducible exact LeO.refl _)
      | (with_reducible exact LeO.none _)
      | (with_reducible refine LeO.ite ?_ ?_)
      | (with_reducible refine LeO.bind ?_ (fun _ => ?_))
      | exact ih0 _ _ _ _ _
      | exact ih1 _ _ _ _ _
      | exact ih2 _ _ _ _ _
      | exact chargeparklaw42_head.mono _
      | exact chargeparkref42_Ints.mono _ _ _
      | exact LeO.none _
      | refine LeO.ite ?_ ?_
      | refine LeO.bind ?_ (fun _ => ?_)
theorem chargeparklaw42_SettleParts.mono : ∀ a0 a1 a2 k, LeO (chargeparklaw42_SettleParts.f k a0 a1 a2) (chargeparklaw42_SettleParts.f (k + 1) a0 a1 a2) := by
  intro a0 a1 a2 k
  obtain ⟨ih0, ih1, ih2⟩ := chargeparklaw42_SettleParts.mono_l k
  unfold chargeparklaw42_SettleParts.f
  repeat' first
      | (with_reducible exact ih0 _ _ _ _ _)
      | (with_reducible exact ih1 _ _ _ _ _)
      | (with_reducible exact ih2 _ _ _ _ _)
      | (with_reducible exact chargeparklaw42_head.mono _)
      | (with_reducible exact chargeparkref42_Ints.mono _ _ _)
      | (with_reducible exact LeO.refl _)
      | (with_reducible exact LeO.none _)
      | (with_reducible refine LeO.ite ?_ ?_)
      | (with_reducible refine LeO.bind ?_ (fun _ => ?_))
      | exact ih0 _ _ _ _ _
      | exact ih1 _ _ _ _ _
      | exact ih2 _ _ _ _ _
      | exact chargeparklaw42_head.mono _
      | exact chargeparkref42_Ints.mono _ _ _
      | exact LeO.none _
      | refine LeO.ite ?_ ?_
      | refine LeO.bind ?_ (fun _ => ?_)
def chargeparklaw42_SettleParts.T10 : Bool × List (List Nat × List Nat) := (true, [([], []), ([0], [0]), ([1], [1]), ([], []), ([], []), ([3, 4], [3, 4]), ([2, 5], [2, 5]), ([], []), ([], []), ([7, 8], [7, 8]), ([6, 9, 6], [6, 9]), ([], []), ([10, 11, 10], [10, 11]), ([12], [12]), ([13], [13]), ([13], [13]), ([14, 12, 0, 1, 2, 3, 4, 5, 6, 7, 8, 9, 10, 11, 12, 13, 14], [14]), ([15, 16, 0, 1, 2, 3, 4, 5, 6, 7, 8, 9, 10, 11, 12, 13, 14, 15, 16], [15])])
def chargeparklaw42_SettleParts.B10 : List Nat := [0, 1, 3, 0, 0, 24, 63, 0, 0, 384, 1023, 0, 4095, 8191, 16383, 16383, 32767, 131071]
theorem chargeparklaw42_SettleParts.tab10 : rtab .any (opsOf Try.f5 10) = chargeparklaw42_SettleParts.T10 := by kernel_rfl
theorem chargeparklaw42_SettleParts.bits10 : waitsOk chargeparklaw42_SettleParts.T10.2 chargeparklaw42_SettleParts.B10 = true := by kernel_rfl
def chargeparklaw42_SettleParts.T16 : Bool × List (List Nat × List Nat) := (true, [([], []), ([0], [0]), ([1], [1]), ([1], [1]), ([2, 3, 1], [1, 2, 3]), ([4, 1], [1, 4]), ([1], [1]), ([1], [1]), ([6, 7, 1], [1, 6, 7]), ([8, 1], [1, 8]), ([5, 9, 1], [1, 5, 9]), ([1], [1]), ([1], [1]), ([11, 12, 1], [1, 11, 12]), ([13, 1], [1, 13]), ([10, 14, 1], [1, 10, 14]), ([1, 15], [1, 15]), ([16, 1, 0, 1, 2, 3, 4, 5, 6, 7, 8, 9, 10, 11, 12, 13, 14, 15, 16], [0, 16])])
def chargeparklaw42_SettleParts.B16 : List Nat := [0, 1, 3, 3, 15, 31, 3, 3, 195, 451, 1023, 3, 3, 6147, 14339, 32767, 65535, 131071]
theorem chargeparklaw42_SettleParts.tab16 : rtab .any (opsOf Try.f5 16) = chargeparklaw42_SettleParts.T16 := by kernel_rfl
theorem chargeparklaw42_SettleParts.bits16 : waitsOk chargeparklaw42_SettleParts.T16.2 chargeparklaw42_SettleParts.B16 = true := by kernel_rfl
set_option maxHeartbeats 8000000 in
set_option maxRecDepth 100000 in
theorem chargeparklaw42_SettleParts.calls (k : Nat) (A0 : Option Addr) (c0 : Nat) (l0 : List (S40)) (a1 : Int) (a2 : Int) (r : Bool) (w : World) (hr0 : Kd.C k40 w A0 l0.length l0) (hc0 : l0.length ≤ c0) (h : chargeparklaw42_SettleParts.f k l0 a1 a2 = some r) :
    Calls Try.prog 5 #[.slice A0 l0.length c0, .int .i64 a1, .int .i64 a2] w fun e w' => e = .returned (.bool r) ∧ Below w.heap.size w w' := by
  have HR0 := Aside0.mk hr0
  have HC0 := Aside0.mk hc0
  clear hr0 hc0
  have HB := Aside0.mk (Below.refl w.heap.size w)
  have H : ((chargeparklaw42_head.f k).bind fun t330 => (if (l0.length : Int) > 64 then (chargeparklaw42_SettleParts.j0 k l0 a1 a2 t330 true) else (chargeparklaw42_SettleParts.j0 k l0 a1 a2 t330 (decide (a2 < 0))))) = some r := h
  clear h
  replace H := Option.bind_eq_some_iff.mp H
  obtain ⟨t330, A40, H⟩ := H
  replace H : (if (l0.length : Int) > 64 then (chargeparklaw42_SettleParts.j0 k l0 a1 a2 t330 true) else (chargeparklaw42_SettleParts.j0 k l0 a1 a2 t330 (decide (a2 < 0)))) = some r := H
  have A4 := Aside0.mk A40
  clear A40
  have HC5 := Aside0.mk H
  clear H
  go_enter Try.func5, Try.ntmps5
  go_upto_region 2 with (first | ((with_reducible refine gate_callee (f := 9) rfl ?_); refine goesL_ (some 18) rfl rfl Try.func9 (by kernel_rfl) rfl #[] rfl (by (try simp only [List.map_toArray, List.map_cons, List.map_nil]); first | done | rfl | (simp only [List.length_drop, List.length_take]; rfl)) ?_; (with_reducible refine (chargeparklaw42_head.calls k  t330 _ A4.out).mono ?_); rintro e w6 ⟨rfl, hb⟩; refine ⟨_, rfl, ?_⟩; have n0_ := Aside0.mk (below_step (by repeat (first | (with_reducible first | exact HB.out | apply below_alloc | apply pw_below_drewN | apply below_drew1) | exact HB.out)) hb); clear HB; have HB := n0_; clear n0_; (try clear hb); (try clear hb2); (try clear hk); (try clear hi)))
  (try simp only [Act.put, List.setIfInBounds_toArray, List.set_cons_zero, List.set_cons_succ])
  go_cut [25] (fun v25 wc => ∃ (kq : Nat) (x25_4 : Bool), v25 = .bool x25_4 ∧ Aside0 (chargeparklaw42_SettleParts.j0 kq l0 a1 a2 t330 x25_4 = some r) ∧ Aside0 (kq ≤ k) ∧ Aside0 (Below w.heap.size w wc))
  case first =>
    have H := HC5.out
    clear HC5
    by_cases c7 : (l0.length : Int) > 64
    · rw [if_pos c7] at H
      have c7b0 : decide (64 < (l0.length : Int)) = true := decide_eq_true c7
      have c7b1 : decide (64 < l0.length) = true := decide_eq_true (by omega)
      clear c7
      (first | rw [c7b0] | (simp only [i64_w, i32_w]; rw [c7b0]) | skip)
      have H' := Aside0.mk H
      clear H
      go_wp2
      go_meet
      case rel => exact ⟨_, (true), (by first | rfl | (simp; done) | (simp [*]; done)), H', ⟨by first | omega | exact Nat.le_refl _⟩, ⟨by repeat (first | (with_reducible first | exact HB.out | apply below_alloc | apply pw_below_drewN | apply below_drew1) | exact HB.out)⟩⟩
    · rw [if_neg c7] at H
      have c7b0 : decide (64 < (l0.length : Int)) = false := decide_eq_false c7
      have c7b1 : decide (64 < l0.length) = false := decide_eq_false (by omega)
      clear c7
      (first | rw [c7b0] | (simp only [i64_w, i32_w]; rw [c7b0]) | skip)
      have H' := Aside0.mk H
      clear H
      go_wp2
      go_meet
      case rel => exact ⟨_, (decide (a2 < 0)), (by first | rfl | (simp; done) | (simp [*]; done)), H', ⟨by first | omega | exact Nat.le_refl _⟩, ⟨by repeat (first | (with_reducible first | exact HB.out | apply below_alloc | apply pw_below_drewN | apply below_drew1) | exact HB.out)⟩⟩
  case rest =>
    clear HC5
    try clear p2
    try clear c5
    try clear c7
    try clear c7b0
    try clear c7b1
    obtain ⟨kq, x25_4, rfl, HA, HJ4, HB⟩ := hcut
    cases kq with
    | zero => exact absurd HA.out (by simp [chargeparklaw42_SettleParts.j0])
    | succ kj4 =>
      have H := HA.out
      clear HA
      simp only [chargeparklaw42_SettleParts.j0] at H
      by_cases c8 : x25_4 = true
      · subst c8
        have H1 : (some t330) = some r := by rw [if_pos rfl] at H; exact H
        clear H
        have H := H1
        clear H1
        obtain rfl := Option.some.inj H
        go_wp2
        go_ret
        exact ⟨by first | rfl | (simp [errW_none, errW_some] <;> rfl) | (simp [*, errW_none, errW_some] <;> rfl), by repeat (first | (with_reducible first | exact HB.out | apply below_alloc | apply pw_below_drewN | apply below_drew1) | exact HB.out)⟩
      · replace c8 := Bool.eq_false_iff.mpr c8
        subst c8
        have H1 : ((settle_Net.f l0 a1).bind fun bt331 => (if bt331.2 = 0 then (if (wrap64 ((l0.length : Int) + 1)) = 0 then (none) else (if 0 ≤ (Int.tmod a2 (wrap64 ((l0.length : Int) + 1))) then (if (Int.tmod a2 (wrap64 ((l0.length : Int) + 1))) ≤ (l0.length : Int) then ((settle_Net.f (l0.take ((Int.tmod a2 (wrap64 ((l0.length : Int) + 1))) : Int).toNat) a1).bind fun bt339 => ((settle_Net.f (l0.drop ((Int.tmod a2 (wrap64 ((l0.length : Int) + 1))) : Int).toNat) a1).bind fun bt347 => (if 0 ≤ (l0.length : Int) then (if ((l0.length : Int) : Int).toNat ≤ 2706490160679 then ((some (([] : List (S40)) : List (S40))).bind fun y351 => ((some (l0.drop ((Int.tmod a2 (wrap64 ((l0.length : Int) + 1))) : Int).toNat : List (S40))).bind fun y354 => (if y351.length + y354.length < 1353245080339 then ((some (y351 ++ y354 : List (S40))).bind fun y358 => ((some (l0.take ((Int.tmod a2 (wrap64 ((l0.length : Int) + 1))) : Int).toNat : List (S40))).bind fun y361 => (if y358.length + y361.length < 1353245080339 then ((settle_Net.f (y358 ++ y361) a1).bind fun bt368 => (if bt339.2 = 0 then (if bt347.2 = 0 then (if bt368.2 = 0 then (if (bt339.1.length : Int) = (bt331.1.length : Int) then (if (bt347.1.length : Int) = (bt331.1.length : Int) then ((chargeparkref42_Ints.f kj4 bt331.1 bt368.1).bind fun t372 => (chargeparklaw42_SettleParts.j1 kj4 t330 bt331.1 bt339.1 bt347.1 (!t372))) else (chargeparklaw42_SettleParts.j1 kj4 t330 bt331.1 bt339.1 bt347.1 true)) else (chargeparklaw42_SettleParts.j1 kj4 t330 bt331.1 bt339.1 bt347.1 true)) else (chargeparklaw42_SettleParts.j1 kj4 t330 bt331.1 bt339.1 bt347.1 true)) else (chargeparklaw42_SettleParts.j1 kj4 t330 bt331.1 bt339.1 bt347.1 true)) else (chargeparklaw42_SettleParts.j1 kj4 t330 bt331.1 bt339.1 bt347.1 true))) else (none)))) else (none)))) else (none)) else (none)))) else (none)) else (none))) else (some t330))) = some r := by rw [if_neg (show ¬ (false = true) by decide)] at H; exact H
        clear H
        have H := H1
        clear H1
        replace H := Option.bind_eq_some_iff.mp H
        obtain ⟨⟨t331, t332⟩, A90, H⟩ := H
        replace H : (if t332 = 0 then (if (wrap64 ((l0.length : Int) + 1)) = 0 then (none) else (if 0 ≤ (Int.tmod a2 (wrap64 ((l0.length : Int) + 1))) then (if (Int.tmod a2 (wrap64 ((l0.length : Int) + 1))) ≤ (l0.length : Int) then ((settle_Net.f (l0.take ((Int.tmod a2 (wrap64 ((l0.length : Int) + 1))) : Int).toNat) a1).bind fun bt339 => ((settle_Net.f (l0.drop ((Int.tmod a2 (wrap64 ((l0.length : Int) + 1))) : Int).toNat) a1).bind fun bt347 => (if 0 ≤ (l0.length : Int) then (if ((l0.length : Int) : Int).toNat ≤ 2706490160679 then ((some (([] : List (S40)) : List (S40))).bind fun y351 => ((some (l0.drop ((Int.tmod a2 (wrap64 ((l0.length : Int) + 1))) : Int).toNat : List (S40))).bind fun y354 => (if y351.length + y354.length < 1353245080339 then ((some (y351 ++ y354 : List (S40))).bind fun y358 => ((some (l0.take ((Int.tmod a2 (wrap64 ((l0.length : Int) + 1))) : Int).toNat : List (S40))).bind fun y361 => (if y358.length + y361.length < 1353245080339 then ((settle_Net.f (y358 ++ y361) a1).bind fun bt368 => (if bt339.2 = 0 then (if bt347.2 = 0 then (if bt368.2 = 0 then (if (bt339.1.length : Int) = (t331.length : Int) then (if (bt347.1.length : Int) = (t331.length : Int) then ((chargeparkref42_Ints.f kj4 t331 bt368.1).bind fun t372 => (chargeparklaw42_SettleParts.j1 kj4 t330 t331 bt339.1 bt347.1 (!t372))) else (chargeparklaw42_SettleParts.j1 kj4 t330 t331 bt339.1 bt347.1 true)) else (chargeparklaw42_SettleParts.j1 kj4 t330 t331 bt339.1 bt347.1 true)) else (chargeparklaw42_SettleParts.j1 kj4 t330 t331 bt339.1 bt347.1 true)) else (chargeparklaw42_SettleParts.j1 kj4 t330 t331 bt339.1 bt347.1 true)) else (chargeparklaw42_SettleParts.j1 kj4 t330 t331 bt339.1 bt347.1 true))) else (none)))) else (none)))) else (none)) else (none)))) else (none)) else (none))) else (some t330)) = some r := H
        have A9 := Aside0.mk A90
        clear A90
        by_cases c10 : t332 = 0
        · rw [if_pos c10] at H
          have c10b0 : (t332 == 0) = true := beq_iff_eq.mpr c10
          have c10b1 : (t332 != 0) = false := bne_eq_false_iff_eq.mpr c10
          clear c10
          by_cases c11 : (wrap64 ((l0.length : Int) + 1)) = 0
          · rw [if_pos c11] at H
            exact absurd H (by simp)
          · rw [if_neg c11] at H
            have c11b0 : ((wrap64 ((l0.length : Int) + 1)) == 0) = false := beq_eq_false_iff_ne.mpr c11
            have c11b1 : ((wrap64 ((l0.length : Int) + 1)) != 0) = true := bne_iff_ne.mpr c11
            obtain ⟨ji12, hji12⟩ : ∃ j_ : Int, (Int.tmod a2 (wrap64 ((l0.length : Int) + 1))) = j_ := ⟨_, rfl⟩
            replace H : (if 0 ≤ (ji12) then (if (ji12) ≤ (l0.length : Int) then ((settle_Net.f (l0.take ((ji12) : Int).toNat) a1).bind fun bt339 => ((settle_Net.f (l0.drop ((ji12) : Int).toNat) a1).bind fun bt347 => (if 0 ≤ (l0.length : Int) then (if ((l0.length : Int) : Int).toNat ≤ 2706490160679 then ((some (([] : List (S40)) : List (S40))).bind fun y351 => ((some (l0.drop ((ji12) : Int).toNat : List (S40))).bind fun y354 => (if y351.length + y354.length < 1353245080339 then ((some (y351 ++ y354 : List (S40))).bind fun y358 => ((some (l0.take ((ji12) : Int).toNat : List (S40))).bind fun y361 => (if y358.length + y361.length < 1353245080339 then ((settle_Net.f (y358 ++ y361) a1).bind fun bt368 => (if bt339.2 = 0 then (if bt347.2 = 0 then (if bt368.2 = 0 then (if (bt339.1.length : Int) = (t331.length : Int) then (if (bt347.1.length : Int) = (t331.length : Int) then ((chargeparkref42_Ints.f kj4 t331 bt368.1).bind fun t372 => (chargeparklaw42_SettleParts.j1 kj4 t330 t331 bt339.1 bt347.1 (!t372))) else (chargeparklaw42_SettleParts.j1 kj4 t330 t331 bt339.1 bt347.1 true)) else (chargeparklaw42_SettleParts.j1 kj4 t330 t331 bt339.1 bt347.1 true)) else (chargeparklaw42_SettleParts.j1 kj4 t330 t331 bt339.1 bt347.1 true)) else (chargeparklaw42_SettleParts.j1 kj4 t330 t331 bt339.1 bt347.1 true)) else (chargeparklaw42_SettleParts.j1 kj4 t330 t331 bt339.1 bt347.1 true))) else (none)))) else (none)))) else (none)) else (none)))) else (none)) else (none)) = some r := by first | (rw [hji12] at H; exact H) | (simp only [hji12] at H ⊢; exact H)
            (try rw [hji12] at A9)
            by_cases c13 : 0 ≤ (ji12)
            · rw [if_pos c13] at H
              have c13b0 := eq_true c13
              have c13b1 : decide (0 ≤ (ji12)) = true := decide_eq_true c13
              clear c13
              by_cases c14 : (ji12) ≤ (l0.length : Int)
              · rw [if_pos c14] at H
                have c14b0 := eq_true c14
                have c14b1 : decide ((ji12) ≤ (l0.length : Int)) = true := decide_eq_true c14
                clear c14
                obtain ⟨y335, hy335⟩ : ∃ y_ : List (S40), y_ = (l0.take ((ji12) : Int).toNat) := ⟨_, rfl⟩
                replace H : ((settle_Net.f y335 a1).bind fun bt339 => ((settle_Net.f (l0.drop ((ji12) : Int).toNat) a1).bind fun bt347 => (if 0 ≤ (l0.length : Int) then (if ((l0.length : Int) : Int).toNat ≤ 2706490160679 then ((some (([] : List (S40)) : List (S40))).bind fun y351 => ((some (l0.drop ((ji12) : Int).toNat : List (S40))).bind fun y354 => (if y351.length + y354.length < 1353245080339 then ((some (y351 ++ y354 : List (S40))).bind fun y358 => ((some (l0.take ((ji12) : Int).toNat : List (S40))).bind fun y361 => (if y358.length + y361.length < 1353245080339 then ((settle_Net.f (y358 ++ y361) a1).bind fun bt368 => (if bt339.2 = 0 then (if bt347.2 = 0 then (if bt368.2 = 0 then (if (bt339.1.length : Int) = (t331.length : Int) then (if (bt347.1.length : Int) = (t331.length : Int) then ((chargeparkref42_Ints.f kj4 t331 bt368.1).bind fun t372 => (chargeparklaw42_SettleParts.j1 kj4 t330 t331 bt339.1 bt347.1 (!t372))) else (chargeparklaw42_SettleParts.j1 kj4 t330 t331 bt339.1 bt347.1 true)) else (chargeparklaw42_SettleParts.j1 kj4 t330 t331 bt339.1 bt347.1 true)) else (chargeparklaw42_SettleParts.j1 kj4 t330 t331 bt339.1 bt347.1 true)) else (chargeparklaw42_SettleParts.j1 kj4 t330 t331 bt339.1 bt347.1 true)) else (chargeparklaw42_SettleParts.j1 kj4 t330 t331 bt339.1 bt347.1 true))) else (none)))) else (none)))) else (none)) else (none)))) = some r := by first | (rw [hy335]; with_reducible exact H) | (have H2_ := (Option.bind_some _ _).symm.trans H; rw [hy335]; with_reducible exact H2_) | (have H2_ := (Option.bind_some _ _).symm.trans H; with_reducible exact H2_) | with_reducible exact H | (rw [hy335]; exact H) | exact H
                have Ny335 := Aside0.mk hy335
                clear hy335
                replace H := Option.bind_eq_some_iff.mp H
                obtain ⟨⟨t339, t340⟩, A150, H⟩ := H
                replace H : ((settle_Net.f (l0.drop ((ji12) : Int).toNat) a1).bind fun bt347 => (if 0 ≤ (l0.length : Int) then (if ((l0.length : Int) : Int).toNat ≤ 2706490160679 then ((some (([] : List (S40)) : List (S40))).bind fun y351 => ((some (l0.drop ((ji12) : Int).toNat : List (S40))).bind fun y354 => (if y351.length + y354.length < 1353245080339 then ((some (y351 ++ y354 : List (S40))).bind fun y358 => ((some (l0.take ((ji12) : Int).toNat : List (S40))).bind fun y361 => (if y358.length + y361.length < 1353245080339 then ((settle_Net.f (y358 ++ y361) a1).bind fun bt368 => (if t340 = 0 then (if bt347.2 = 0 then (if bt368.2 = 0 then (if (t339.length : Int) = (t331.length : Int) then (if (bt347.1.length : Int) = (t331.length : Int) then ((chargeparkref42_Ints.f kj4 t331 bt368.1).bind fun t372 => (chargeparklaw42_SettleParts.j1 kj4 t330 t331 t339 bt347.1 (!t372))) else (chargeparklaw42_SettleParts.j1 kj4 t330 t331 t339 bt347.1 true)) else (chargeparklaw42_SettleParts.j1 kj4 t330 t331 t339 bt347.1 true)) else (chargeparklaw42_SettleParts.j1 kj4 t330 t331 t339 bt347.1 true)) else (chargeparklaw42_SettleParts.j1 kj4 t330 t331 t339 bt347.1 true)) else (chargeparklaw42_SettleParts.j1 kj4 t330 t331 t339 bt347.1 true))) else (none)))) else (none)))) else (none)) else (none))) = some r := H
                have A15 := Aside0.mk A150
                clear A150
                have c16b0 := eq_true (of_decide_eq_true (by first | (with_reducible assumption) | assumption) : 0 ≤ (ji12))
                have c17b0 := eq_true (of_decide_eq_true (by first | (with_reducible assumption) | assumption) : (ji12) ≤ (l0.length : Int))
                obtain ⟨y343, hy343⟩ : ∃ y_ : List (S40), y_ = (l0.drop ((ji12) : Int).toNat) := ⟨_, rfl⟩
                replace H : ((settle_Net.f y343 a1).bind fun bt347 => (if 0 ≤ (l0.length : Int) then (if ((l0.length : Int) : Int).toNat ≤ 2706490160679 then ((some (([] : List (S40)) : List (S40))).bind fun y351 => ((some (l0.drop ((ji12) : Int).toNat : List (S40))).bind fun y354 => (if y351.length + y354.length < 1353245080339 then ((some (y351 ++ y354 : List (S40))).bind fun y358 => ((some (l0.take ((ji12) : Int).toNat : List (S40))).bind fun y361 => (if y358.length + y361.length < 1353245080339 then ((settle_Net.f (y358 ++ y361) a1).bind fun bt368 => (if t340 = 0 then (if bt347.2 = 0 then (if bt368.2 = 0 then (if (t339.length : Int) = (t331.length : Int) then (if (bt347.1.length : Int) = (t331.length : Int) then ((chargeparkref42_Ints.f kj4 t331 bt368.1).bind fun t372 => (chargeparklaw42_SettleParts.j1 kj4 t330 t331 t339 bt347.1 (!t372))) else (chargeparklaw42_SettleParts.j1 kj4 t330 t331 t339 bt347.1 true)) else (chargeparklaw42_SettleParts.j1 kj4 t330 t331 t339 bt347.1 true)) else (chargeparklaw42_SettleParts.j1 kj4 t330 t331 t339 bt347.1 true)) else (chargeparklaw42_SettleParts.j1 kj4 t330 t331 t339 bt347.1 true)) else (chargeparklaw42_SettleParts.j1 kj4 t330 t331 t339 bt347.1 true))) else (none)))) else (none)))) else (none)) else (none))) = some r := by first | (rw [hy343]; with_reducible exact H) | (have H2_ := (Option.bind_some _ _).symm.trans H; rw [hy343]; with_reducible exact H2_) | (have H2_ := (Option.bind_some _ _).symm.trans H; with_reducible exact H2_) | with_reducible exact H | (rw [hy343]; exact H) | exact H
                have Ny343 := Aside0.mk hy343
                clear hy343
                replace H := Option.bind_eq_some_iff.mp H
                obtain ⟨⟨t347, t348⟩, A180, H⟩ := H
                replace H : (if 0 ≤ (l0.length : Int) then (if ((l0.length : Int) : Int).toNat ≤ 2706490160679 then ((some (([] : List (S40)) : List (S40))).bind fun y351 => ((some (l0.drop ((ji12) : Int).toNat : List (S40))).bind fun y354 => (if y351.length + y354.length < 1353245080339 then ((some (y351 ++ y354 : List (S40))).bind fun y358 => ((some (l0.take ((ji12) : Int).toNat : List (S40))).bind fun y361 => (if y358.length + y361.length < 1353245080339 then ((settle_Net.f (y358 ++ y361) a1).bind fun bt368 => (if t340 = 0 then (if t348 = 0 then (if bt368.2 = 0 then (if (t339.length : Int) = (t331.length : Int) then (if (t347.length : Int) = (t331.length : Int) then ((chargeparkref42_Ints.f kj4 t331 bt368.1).bind fun t372 => (chargeparklaw42_SettleParts.j1 kj4 t330 t331 t339 t347 (!t372))) else (chargeparklaw42_SettleParts.j1 kj4 t330 t331 t339 t347 true)) else (chargeparklaw42_SettleParts.j1 kj4 t330 t331 t339 t347 true)) else (chargeparklaw42_SettleParts.j1 kj4 t330 t331 t339 t347 true)) else (chargeparklaw42_SettleParts.j1 kj4 t330 t331 t339 t347 true)) else (chargeparklaw42_SettleParts.j1 kj4 t330 t331 t339 t347 true))) else (none)))) else (none)))) else (none)) else (none)) = some r := H
                have A18 := Aside0.mk A180
                clear A180
                by_cases c19 : 0 ≤ (l0.length : Int)
                · rw [if_pos c19] at H
                  have c19b0 := eq_true c19
                  have c19b1 : decide (0 ≤ (l0.length : Int)) = true := decide_eq_true c19
                  clear c19
                  by_cases c20 : ((l0.length : Int) : Int).toNat ≤ 2706490160679
                  · rw [if_pos c20] at H
                    have c20b0 := eq_true c20
                    have c20b1 : decide (((l0.length : Int) : Int).toNat ≤ 2706490160679) = true := decide_eq_true c20
                    clear c20
                    obtain ⟨y351, hy351⟩ : ∃ y_ : List (S40), y_ = (([] : List (S40))) := ⟨_, rfl⟩
                    replace H : ((some (l0.drop ((ji12) : Int).toNat : List (S40))).bind fun y354 => (if y351.length + y354.length < 1353245080339 then ((some (y351 ++ y354 : List (S40))).bind fun y358 => ((some (l0.take ((ji12) : Int).toNat : List (S40))).bind fun y361 => (if y358.length + y361.length < 1353245080339 then ((settle_Net.f (y358 ++ y361) a1).bind fun bt368 => (if t340 = 0 then (if t348 = 0 then (if bt368.2 = 0 then (if (t339.length : Int) = (t331.length : Int) then (if (t347.length : Int) = (t331.length : Int) then ((chargeparkref42_Ints.f kj4 t331 bt368.1).bind fun t372 => (chargeparklaw42_SettleParts.j1 kj4 t330 t331 t339 t347 (!t372))) else (chargeparklaw42_SettleParts.j1 kj4 t330 t331 t339 t347 true)) else (chargeparklaw42_SettleParts.j1 kj4 t330 t331 t339 t347 true)) else (chargeparklaw42_SettleParts.j1 kj4 t330 t331 t339 t347 true)) else (chargeparklaw42_SettleParts.j1 kj4 t330 t331 t339 t347 true)) else (chargeparklaw42_SettleParts.j1 kj4 t330 t331 t339 t347 true))) else (none)))) else (none))) = some r := by first | (rw [hy351]; with_reducible exact H) | (have H2_ := (Option.bind_some _ _).symm.trans H; rw [hy351]; with_reducible exact H2_) | (have H2_ := (Option.bind_some _ _).symm.trans H; with_reducible exact H2_) | with_reducible exact H | (rw [hy351]; exact H) | exact H
                    have Ny351 := Aside0.mk hy351
                    clear hy351
                    have c21b0 := eq_true (of_decide_eq_true (by first | (with_reducible assumption) | assumption) : 0 ≤ (ji12))
                    have c22b0 := eq_true (of_decide_eq_true (by first | (with_reducible assumption) | assumption) : (ji12) ≤ (l0.length : Int))
                    obtain ⟨y354, hy354⟩ : ∃ y_ : List (S40), y_ = (l0.drop ((ji12) : Int).toNat) := ⟨_, rfl⟩
                    replace H : (if y351.length + y354.length < 1353245080339 then ((some (y351 ++ y354 : List (S40))).bind fun y358 => ((some (l0.take ((ji12) : Int).toNat : List (S40))).bind fun y361 => (if y358.length + y361.length < 1353245080339 then ((settle_Net.f (y358 ++ y361) a1).bind fun bt368 => (if t340 = 0 then (if t348 = 0 then (if bt368.2 = 0 then (if (t339.length : Int) = (t331.length : Int) then (if (t347.length : Int) = (t331.length : Int) then ((chargeparkref42_Ints.f kj4 t331 bt368.1).bind fun t372 => (chargeparklaw42_SettleParts.j1 kj4 t330 t331 t339 t347 (!t372))) else (chargeparklaw42_SettleParts.j1 kj4 t330 t331 t339 t347 true)) else (chargeparklaw42_SettleParts.j1 kj4 t330 t331 t339 t347 true)) else (chargeparklaw42_SettleParts.j1 kj4 t330 t331 t339 t347 true)) else (chargeparklaw42_SettleParts.j1 kj4 t330 t331 t339 t347 true)) else (chargeparklaw42_SettleParts.j1 kj4 t330 t331 t339 t347 true))) else (none)))) else (none)) = some r := by first | (rw [hy354]; with_reducible exact H) | (have H2_ := (Option.bind_some _ _).symm.trans H; rw [hy354]; with_reducible exact H2_) | (have H2_ := (Option.bind_some _ _).symm.trans H; with_reducible exact H2_) | with_reducible exact H | (rw [hy354]; exact H) | exact H
                    have Ny354 := Aside0.mk hy354
                    clear hy354
                    by_cases c23 : y351.length + y354.length < 1353245080339
                    · rw [if_pos c23] at H
                      have LMc23 := Aside0.mk c23
                      clear c23
                      obtain ⟨y358, hy358⟩ : ∃ y_ : List (S40), y_ = (y351 ++ y354) := ⟨_, rfl⟩
                      replace H : ((some (l0.take ((ji12) : Int).toNat : List (S40))).bind fun y361 => (if y358.length + y361.length < 1353245080339 then ((settle_Net.f (y358 ++ y361) a1).bind fun bt368 => (if t340 = 0 then (if t348 = 0 then (if bt368.2 = 0 then (if (t339.length : Int) = (t331.length : Int) then (if (t347.length : Int) = (t331.length : Int) then ((chargeparkref42_Ints.f kj4 t331 bt368.1).bind fun t372 => (chargeparklaw42_SettleParts.j1 kj4 t330 t331 t339 t347 (!t372))) else (chargeparklaw42_SettleParts.j1 kj4 t330 t331 t339 t347 true)) else (chargeparklaw42_SettleParts.j1 kj4 t330 t331 t339 t347 true)) else (chargeparklaw42_SettleParts.j1 kj4 t330 t331 t339 t347 true)) else (chargeparklaw42_SettleParts.j1 kj4 t330 t331 t339 t347 true)) else (chargeparklaw42_SettleParts.j1 kj4 t330 t331 t339 t347 true))) else (none))) = some r := by first | (rw [hy358]; with_reducible exact H) | (have H2_ := (Option.bind_some _ _).symm.trans H; rw [hy358]; with_reducible exact H2_) | (have H2_ := (Option.bind_some _ _).symm.trans H; with_reducible exact H2_) | with_reducible exact H | (rw [hy358]; exact H) | exact H
                      have Ny358 := Aside0.mk hy358
                      clear hy358
                      have c24b0 := eq_true (of_decide_eq_true (by first | (with_reducible assumption) | assumption) : 0 ≤ (ji12))
                      have c25b0 := eq_true (of_decide_eq_true (by first | (with_reducible assumption) | assumption) : (ji12) ≤ (l0.length : Int))
                      obtain ⟨y361, hy361⟩ : ∃ y_ : List (S40), y_ = (l0.take ((ji12) : Int).toNat) := ⟨_, rfl⟩
                      replace H : (if y358.length + y361.length < 1353245080339 then ((settle_Net.f (y358 ++ y361) a1).bind fun bt368 => (if t340 = 0 then (if t348 = 0 then (if bt368.2 = 0 then (if (t339.length : Int) = (t331.length : Int) then (if (t347.length : Int) = (t331.length : Int) then ((chargeparkref42_Ints.f kj4 t331 bt368.1).bind fun t372 => (chargeparklaw42_SettleParts.j1 kj4 t330 t331 t339 t347 (!t372))) else (chargeparklaw42_SettleParts.j1 kj4 t330 t331 t339 t347 true)) else (chargeparklaw42_SettleParts.j1 kj4 t330 t331 t339 t347 true)) else (chargeparklaw42_SettleParts.j1 kj4 t330 t331 t339 t347 true)) else (chargeparklaw42_SettleParts.j1 kj4 t330 t331 t339 t347 true)) else (chargeparklaw42_SettleParts.j1 kj4 t330 t331 t339 t347 true))) else (none)) = some r := by first | (rw [hy361]; with_reducible exact H) | (have H2_ := (Option.bind_some _ _).symm.trans H; rw [hy361]; with_reducible exact H2_) | (have H2_ := (Option.bind_some _ _).symm.trans H; with_reducible exact H2_) | with_reducible exact H | (rw [hy361]; exact H) | exact H
                      have Ny361 := Aside0.mk hy361
                      clear hy361
                      by_cases c26 : y358.length + y361.length < 1353245080339
                      · rw [if_pos c26] at H
                        have LMc26 := Aside0.mk c26
                        clear c26
                        obtain ⟨y365, hy365⟩ : ∃ y_ : List (S40), y_ = (y358 ++ y361) := ⟨_, rfl⟩
                        replace H : ((settle_Net.f y365 a1).bind fun bt368 => (if t340 = 0 then (if t348 = 0 then (if bt368.2 = 0 then (if (t339.length : Int) = (t331.length : Int) then (if (t347.length : Int) = (t331.length : Int) then ((chargeparkref42_Ints.f kj4 t331 bt368.1).bind fun t372 => (chargeparklaw42_SettleParts.j1 kj4 t330 t331 t339 t347 (!t372))) else (chargeparklaw42_SettleParts.j1 kj4 t330 t331 t339 t347 true)) else (chargeparklaw42_SettleParts.j1 kj4 t330 t331 t339 t347 true)) else (chargeparklaw42_SettleParts.j1 kj4 t330 t331 t339 t347 true)) else (chargeparklaw42_SettleParts.j1 kj4 t330 t331 t339 t347 true)) else (chargeparklaw42_SettleParts.j1 kj4 t330 t331 t339 t347 true))) = some r := by first | (rw [hy365]; with_reducible exact H) | (have H2_ := (Option.bind_some _ _).symm.trans H; rw [hy365]; with_reducible exact H2_) | (have H2_ := (Option.bind_some _ _).symm.trans H; with_reducible exact H2_) | with_reducible exact H | (rw [hy365]; exact H) | exact H
                        have Ny365 := Aside0.mk hy365
                        clear hy365
                        replace H := Option.bind_eq_some_iff.mp H
                        obtain ⟨⟨t368, t369⟩, A270, H⟩ := H
                        replace H : (if t340 = 0 then (if t348 = 0 then (if t369 = 0 then (if (t339.length : Int) = (t331.length : Int) then (if (t347.length : Int) = (t331.length : Int) then ((chargeparkref42_Ints.f kj4 t331 t368).bind fun t372 => (chargeparklaw42_SettleParts.j1 kj4 t330 t331 t339 t347 (!t372))) else (chargeparklaw42_SettleParts.j1 kj4 t330 t331 t339 t347 true)) else (chargeparklaw42_SettleParts.j1 kj4 t330 t331 t339 t347 true)) else (chargeparklaw42_SettleParts.j1 kj4 t330 t331 t339 t347 true)) else (chargeparklaw42_SettleParts.j1 kj4 t330 t331 t339 t347 true)) else (chargeparklaw42_SettleParts.j1 kj4 t330 t331 t339 t347 true)) = some r := H
                        have A27 := Aside0.mk A270
                        clear A270
                        have HC28 := Aside0.mk H
                        clear H
                        try go_wp2_with (first | ((with_reducible refine gate_callee (f := 10) rfl ?_); refine goesL_ (some 30) rfl rfl Try.func10 (by kernel_rfl) rfl #[.slice A0 l0.length c0, .int .i64 a1] rfl (by (try simp only [List.map_toArray, List.map_cons, List.map_nil]); first | done | rfl | (simp only [List.length_drop, List.length_take]; rfl)) ?_; (with_reducible refine (settle_Net.calls _ _ l0 a1 t331 t332 _ ?side1 ?side2 A9.out).mono ?_); (case side1 => repeat (first | exact (Kd.C_below HR0.out HB.out) | (with_reducible refine Kd.C_alloc ?_ _) | (with_reducible refine Kd.C_drewN ?_ _) | (with_reducible refine Kd.C_drew ?_))); (case side2 => exact HC0.out); rintro e w29 ⟨v333, rfl, ho0, hb⟩; refine ⟨_, rfl, ?_⟩; have n0_ := Aside0.mk (Kd.R_lower ho0 (below_size (by repeat (first | (with_reducible first | exact HB.out | apply below_alloc | apply pw_below_drewN | apply below_drew1) | exact HB.out)))); have n1_ := Aside0.mk (below_step (by repeat (first | (with_reducible first | exact HB.out | apply below_alloc | apply pw_below_drewN | apply below_drew1) | exact HB.out)) hb); clear HB; have HO334 := n0_; have HB := n1_; clear n0_ n1_; (try clear hb); (try clear hb2); (try clear hk); (try clear hi); (try clear ho0); have q30 : ((ji12) : Int) ≤ ((l0.length : Int) : Int) := of_decide_eq_true (by first | (with_reducible assumption) | assumption); obtain ⟨i030, hi030, _, hsz30, _⟩ := info_parts info40; have hroom30 : l0.length ≤ c0 := HC0.out; have hC30 : Kd.C k40 _ A0 l0.length l0 := HR0.out; have hcut30 := cut_to (P := Try.prog) 22 40 .i64 Try.underlying22 hi030 A0 l0.length c0 (ji12) (of_decide_eq_true (by first | (with_reducible assumption) | assumption)) q30 hroom30; have hr30 := Kd.C_take (m := ((ji12) : Int).toNat) hC30 (by omega); have hy30 : y335.length = ((ji12) : Int).toNat := (by rw [Ny335.out, List.length_take]; omega); rw [← Ny335.out] at hr30; rw [← hy30] at hcut30; have HR338 := Aside0.mk hr30; have HC338 := Aside0.mk (show y335.length ≤ c0 from by omega); clear hr30 hC30 hroom30 hi030 hsz30; have KY30 := Aside0.mk hy30; clear hy30; replace q30 := eq_true q30) | ((with_reducible refine gate_callee (f := 10) rfl ?_); refine goesL_ (some 46) rfl rfl Try.func10 (by kernel_rfl) rfl #[.slice A0 y335.length c0, .int .i64 a1] rfl (by (try simp only [List.map_toArray, List.map_cons, List.map_nil]); first | done | rfl | (simp only [List.length_drop, List.length_take]; rfl)) ?_; (with_reducible refine (settle_Net.calls _ _ y335 a1 t339 t340 _ ?side1 ?side2 A15.out).mono ?_); (case side1 => repeat (first | exact (Kd.C_below HR338.out HB.out) | (with_reducible refine Kd.C_alloc ?_ _) | (with_reducible refine Kd.C_drewN ?_ _) | (with_reducible refine Kd.C_drew ?_))); (case side2 => exact HC338.out); rintro e w31 ⟨v341, rfl, ho0, hb⟩; refine ⟨_, rfl, ?_⟩; have n0_ := Aside0.mk (Kd.R_elder' (by (with_reducible repeat (first | apply Kd.R_alloc | apply Kd.R_drewN | apply Kd.R_drew)); exact HO334.out) (Kd.R_base ho0) hb); have n1_ := Aside0.mk (Kd.R_lower (Kd.R_new' ho0 (Kd.R_lt (by (with_reducible repeat (first | apply Kd.R_alloc | apply Kd.R_drewN | apply Kd.R_drew)); exact HO334.out))) (below_size (by repeat (first | (with_reducible first | exact HB.out | apply below_alloc | apply pw_below_drewN | apply below_drew1) | exact HB.out)))); have n2_ := Aside0.mk (below_step (by repeat (first | (with_reducible first | exact HB.out | apply below_alloc | apply pw_below_drewN | apply below_drew1) | exact HB.out)) hb); clear HO334; clear HB; have HO334 := n0_; have HO342 := n1_; have HB := n2_; clear n0_ n1_ n2_; (try clear hb); (try clear hb2); (try clear hk); (try clear hi); (try clear ho0); have q32 : ((ji12) : Int) ≤ ((l0.length : Int) : Int) := of_decide_eq_true (by first | (with_reducible assumption) | assumption); obtain ⟨i032, hi032, _, hsz32, _⟩ := info_parts info40; have hroom32 : l0.length ≤ c0 := HC0.out; have hC32 : Kd.C k40 _ A0 l0.length l0 := HR0.out; have q032 : (0 : Int) ≤ ((ji12) : Int) := of_decide_eq_true (by first | (with_reducible assumption) | assumption); have hcut32 := cut_from (P := Try.prog) 22 40 .i64 Try.underlying22 hi032 13 hsz32 A0 l0.length c0 (ji12) q032 q32; have hr32 := Kd.C_drop (m := ((ji12) : Int).toNat) (c := c0) hC32 (by omega) hroom32; obtain ⟨A32, hA32⟩ : ∃ A1, A1 = (if c0 = ((ji12) : Int).toNat then A0 else (A0 : Option Addr).map (·.add (((ji12) : Int).toNat * 13))) := ⟨_, rfl⟩; obtain ⟨c32, hc32⟩ : ∃ c1, c1 = c0 - ((ji12) : Int).toNat := ⟨_, rfl⟩; have hy32 : y343.length = l0.length - ((ji12) : Int).toNat := (by rw [Ny343.out, List.length_drop] <;> omega); rw [show (l0).drop ((ji12) : Int).toNat = y343 from Ny343.out.symm] at hr32; replace hr32 : Kd.C k40 _ A32 y343.length y343 := (by rw [hA32]; exact hr32); rw [← hy32, ← hA32, ← hc32] at hcut32; have HR346 := Aside0.mk hr32; have HC346 := Aside0.mk (show y343.length ≤ c32 from by rw [hy32, hc32]; exact Nat.sub_le_sub_right hroom32 _); clear hr32 hC32 hroom32 hi032 hsz32 hc32; have KY32 := Aside0.mk hy32; have KA32 := Aside0.mk hA32; clear hy32 hA32; replace q32 := eq_true q32) | ((with_reducible refine gate_callee (f := 10) rfl ?_); refine goesL_ (some 54) rfl rfl Try.func10 (by kernel_rfl) rfl #[.slice A32 y343.length c32, .int .i64 a1] rfl (by (try simp only [List.map_toArray, List.map_cons, List.map_nil]); first | done | rfl | (simp only [List.length_drop, List.length_take]; rfl)) ?_; (with_reducible refine (settle_Net.calls _ _ y343 a1 t347 t348 _ ?side1 ?side2 A18.out).mono ?_); (case side1 => repeat (first | exact (Kd.C_below HR346.out HB.out) | (with_reducible refine Kd.C_alloc ?_ _) | (with_reducible refine Kd.C_drewN ?_ _) | (with_reducible refine Kd.C_drew ?_))); (case side2 => exact HC346.out); rintro e w33 ⟨v349, rfl, ho0, hb⟩; refine ⟨_, rfl, ?_⟩; have n0_ := Aside0.mk (Kd.R_elder' (by (with_reducible repeat (first | apply Kd.R_alloc | apply Kd.R_drewN | apply Kd.R_drew)); exact HO334.out) (Kd.R_base ho0) hb); have n1_ := Aside0.mk (Kd.R_elder' (by (with_reducible repeat (first | apply Kd.R_alloc | apply Kd.R_drewN | apply Kd.R_drew)); exact HO342.out) (Kd.R_base ho0) hb); have n2_ := Aside0.mk (Kd.R_lower (Kd.R_new' (Kd.R_new' ho0 (Kd.R_lt (by (with_reducible repeat (first | apply Kd.R_alloc | apply Kd.R_drewN | apply Kd.R_drew)); exact HO334.out))) (Kd.R_lt (by (with_reducible repeat (first | apply Kd.R_alloc | apply Kd.R_drewN | apply Kd.R_drew)); exact HO342.out))) (below_size (by repeat (first | (with_reducible first | exact HB.out | apply below_alloc | apply pw_below_drewN | apply below_drew1) | exact HB.out)))); have n3_ := Aside0.mk (below_step (by repeat (first | (with_reducible first | exact HB.out | apply below_alloc | apply pw_below_drewN | apply below_drew1) | exact HB.out)) hb); clear HO334; clear HO342; clear HB; have HO334 := n0_; have HO342 := n1_; have HO350 := n2_; have HB := n3_; clear n0_ n1_ n2_ n3_; (try clear hb); (try clear hb2); (try clear hk); (try clear hi); (try clear ho0)))
                        have n0_ := Aside0.mk (Kd.R_drew HO334.out)
                        have n1_ := Aside0.mk (Kd.R_drew HO342.out)
                        have n2_ := Aside0.mk (Kd.R_drew HO350.out)
                        have n3_ := Aside0.mk (below_drew1 HB.out)
                        clear HO334
                        clear HO342
                        clear HO350
                        clear HB
                        have HO334 := n0_
                        have HO342 := n1_
                        have HO350 := n2_
                        have HB := n3_
                        clear n0_ n1_ n2_ n3_
                        have q35 : ((ji12) : Int) ≤ ((l0.length : Int) : Int) := of_decide_eq_true (by first | (with_reducible assumption) | assumption)
                        obtain ⟨i035, hi035, _, hsz35, _⟩ := info_parts info40
                        have hroom35 : l0.length ≤ c0 := HC0.out
                        have hC35 : Kd.C k40 _ A0 l0.length l0 := HR0.out
                        have q035 : (0 : Int) ≤ ((ji12) : Int) := of_decide_eq_true (by first | (with_reducible assumption) | assumption)
                        have hcut35 := cut_from (P := Try.prog) 22 40 .i64 Try.underlying22 hi035 13 hsz35 A0 l0.length c0 (ji12) q035 q35
                        have hr35 := Kd.C_drop (m := ((ji12) : Int).toNat) (c := c0) hC35 (by omega) hroom35
                        obtain ⟨A35, hA35⟩ : ∃ A1, A1 = (if c0 = ((ji12) : Int).toNat then A0 else (A0 : Option Addr).map (·.add (((ji12) : Int).toNat * 13))) := ⟨_, rfl⟩
                        obtain ⟨c35, hc35⟩ : ∃ c1, c1 = c0 - ((ji12) : Int).toNat := ⟨_, rfl⟩
                        have hy35 : y354.length = l0.length - ((ji12) : Int).toNat := (by rw [Ny354.out, List.length_drop] <;> omega)
                        rw [show (l0).drop ((ji12) : Int).toNat = y354 from Ny354.out.symm] at hr35
                        replace hr35 : Kd.C k40 _ A35 y354.length y354 := (by rw [hA35]; exact hr35)
                        rw [← hy35, ← hA35, ← hc35] at hcut35
                        have HR357 := Aside0.mk hr35
                        have HC357 := Aside0.mk (show y354.length ≤ c35 from by rw [hy35, hc35]; exact Nat.sub_le_sub_right hroom35 _)
                        clear hr35 hC35 hroom35 hi035 hsz35 hc35
                        have KY35 := Aside0.mk hy35
                        have KA35 := Aside0.mk hA35
                        clear hy35 hA35
                        replace q35 := eq_true q35
                        have q36 : ((ji12) : Int) ≤ ((l0.length : Int) : Int) := of_decide_eq_true (by first | (with_reducible assumption) | assumption)
                        obtain ⟨i036, hi036, _, hsz36, _⟩ := info_parts info40
                        have hroom36 : l0.length ≤ c0 := HC0.out
                        have hC36 : Kd.C k40 _ A0 l0.length l0 := HR0.out
                        have hcut36 := cut_to (P := Try.prog) 22 40 .i64 Try.underlying22 hi036 A0 l0.length c0 (ji12) (of_decide_eq_true (by first | (with_reducible assumption) | assumption)) q36 hroom36
                        have hr36 := Kd.C_take (m := ((ji12) : Int).toNat) hC36 (by omega)
                        have hy36 : y361.length = ((ji12) : Int).toNat := (by rw [Ny361.out, List.length_take]; omega)
                        rw [← Ny361.out] at hr36
                        rw [← hy36] at hcut36
                        have HR364 := Aside0.mk hr36
                        have HC364 := Aside0.mk (show y361.length ≤ c0 from by omega)
                        clear hr36 hC36 hroom36 hi036 hsz36
                        have KY36 := Aside0.mk hy36
                        clear hy36
                        replace q36 := eq_true q36
                        refine start_ (n := 18) (S := fun w' => True) (ds := []) #[false, false, false, false, false, false, false, false, false, false, false, false, false, false, false, false, false, false] (by kernel_rfl) rfl rfl trivial (fun hHeld => ?_); refine with_tabW chargeparklaw42_SettleParts.tab10 chargeparklaw42_SettleParts.bits10 (fun HT_ HW_ => ?_)
                        generalize w33.drew = w34 at HO334 HO342 HO350 HB HR357 HR364 hHeld ⊢
                        refine pure_ (i := 0) (N := some 58) (v := ?_) (a' := ?_) #[true, false, false, false, false, false, false, false, false, false, false, false, false, false, false, false, false, false] rfl rfl (any_of HT_.out (by kernel_rfl)) (fun _ _ _ h => h) (Or.inl ⟨by rfl, ?_⟩) ?_ ?_
                        rotate_left
                        · intro w'
                          go_simp
                          with_reducible rfl
                        rotate_left
                        · simp only [Act.put, List.setIfInBounds_toArray, List.set_cons_zero, List.set_cons_succ, i64_w, i32_w]
                          rfl
                        refine pure_ (i := 1) (N := some 59) (v := ?_) (a' := ?_) #[true, true, false, false, false, false, false, false, false, false, false, false, false, false, false, false, false, false] rfl rfl (any_of HT_.out (by kernel_rfl)) (fun _ _ _ h => h) (Or.inl ⟨by rfl, ?_⟩) ?_ ?_
                        rotate_left
                        · intro w'
                          go_simp
                          with_reducible rfl
                        rotate_left
                        · simp only [Act.put, List.setIfInBounds_toArray, List.set_cons_zero, List.set_cons_succ, i64_w, i32_w]
                          rfl
                        refine pure_ (i := 3) (N := some 61) (v := ?_) (a' := ?_) #[true, true, false, true, false, false, false, false, false, false, false, false, false, false, false, false, false, false] rfl rfl (any_of HT_.out (by kernel_rfl)) (fun _ _ _ h => h) (Or.inl ⟨by rfl, ?_⟩) ?_ ?_
                        rotate_left
                        · intro w'
                          go_simp
                          with_reducible rfl
                        rotate_left
                        · simp only [Act.put, List.setIfInBounds_toArray, List.set_cons_zero, List.set_cons_succ, i64_w, i32_w]
                          rfl
                        refine pure_ (i := 4) (N := some 62) (v := ?_) (a' := ?_) #[true, true, false, true, true, false, false, false, false, false, false, false, false, false, false, false, false, false] rfl rfl (any_of HT_.out (by kernel_rfl)) (fun _ _ _ h => h) (Or.inl ⟨by rfl, ?_⟩) ?_ ?_
                        rotate_left
                        · intro w'
                          go_simp
                          with_reducible rfl
                        rotate_left
                        · simp only [Act.put, List.setIfInBounds_toArray, List.set_cons_zero, List.set_cons_succ, i64_w, i32_w]
                          rfl
                        refine pure_ (i := 5) (N := some 63) (v := ?_) (a' := ?_) #[true, true, false, true, true, true, false, false, false, false, false, false, false, false, false, false, false, false] rfl rfl (any_of HT_.out (by kernel_rfl)) (fun _ _ _ h => h) (Or.inl ⟨by rfl, ?_⟩) ?_ ?_
                        rotate_left
                        · intro w'
                          go_simp
                          with_reducible rfl
                        rotate_left
                        · simp only [Act.put, List.setIfInBounds_toArray, List.set_cons_zero, List.set_cons_succ, i64_w, i32_w]
                          rfl
                        refine pure_ (i := 7) (N := some 65) (v := ?_) (a' := ?_) #[true, true, false, true, true, true, false, true, false, false, false, false, false, false, false, false, false, false] rfl rfl (any_of HT_.out (by kernel_rfl)) (fun _ _ _ h => h) (Or.inl ⟨by rfl, ?_⟩) ?_ ?_
                        rotate_left
                        · intro w'
                          go_simp
                          with_reducible rfl
                        rotate_left
                        · simp only [Act.put, List.setIfInBounds_toArray, List.set_cons_zero, List.set_cons_succ, i64_w, i32_w]
                          rfl
                        refine pure_ (i := 8) (N := some 66) (v := ?_) (a' := ?_) #[true, true, false, true, true, true, false, true, true, false, false, false, false, false, false, false, false, false] rfl rfl (any_of HT_.out (by kernel_rfl)) (fun _ _ _ h => h) (Or.inl ⟨by rfl, ?_⟩) ?_ ?_
                        rotate_left
                        · intro w'
                          go_simp
                          with_reducible rfl
                        rotate_left
                        · simp only [Act.put, List.setIfInBounds_toArray, List.set_cons_zero, List.set_cons_succ, i64_w, i32_w]
                          rfl
                        refine pure_ (i := 9) (N := some 67) (v := ?_) (a' := ?_) #[true, true, false, true, true, true, false, true, true, true, false, false, false, false, false, false, false, false] rfl rfl (any_of HT_.out (by kernel_rfl)) (fun _ _ _ h => h) (Or.inl ⟨by rfl, ?_⟩) ?_ ?_
                        rotate_left
                        · intro w'
                          go_simp
                          with_reducible rfl
                        rotate_left
                        · simp only [Act.put, List.setIfInBounds_toArray, List.set_cons_zero, List.set_cons_succ, i64_w, i32_w]
                          rfl
                        refine pure_ (i := 11) (N := some 69) (v := ?_) (a' := ?_) #[true, true, false, true, true, true, false, true, true, true, false, true, false, false, false, false, false, false] rfl rfl (any_of HT_.out (by kernel_rfl)) (fun _ _ _ h => h) (Or.inl ⟨by rfl, ?_⟩) ?_ ?_
                        rotate_left
                        · intro w'
                          go_simp
                          with_reducible rfl
                        rotate_left
                        · simp only [Act.put, List.setIfInBounds_toArray, List.set_cons_zero, List.set_cons_succ, i64_w, i32_w]
                          rfl
                        refine one_ (i := 2) (N := some 60) #[true, true, true, true, true, true, false, true, true, true, false, true, false, false, false, false, false, false] rfl rfl (one_of HT_.out (by kernel_rfl)) (by decide) (fun K hK => ?_)
                        refine R_make0_step k40 _ 40 (by rfl) (N := 60) rfl 22 _ _ rfl (l0.length : Int) rfl rfl Try.underlying22 (.agg #[(.int .i64 0), (.int .i64 0), (.int .i64 0), (.int .i64 0), (.int .i64 0), (.int .i64 0), (.int .i64 0), (.int .i64 0), (.int .i64 0), (.int .u64 0), (.int .u64 0), (.int .u64 0), (.int .u64 0)]) 104 info40 rfl (by decide) (by omega) z40 (ok := fun _ => True) (okp := fun _ => True) (k40_mkM _ _ _ z40 ) (fun _ hk => hk) trivial (of_decide_eq_true (by first | (with_reducible assumption) | assumption)) (Nat.le_trans (Nat.mul_le_mul_right _ (of_decide_eq_true (by first | (with_reducible assumption) | assumption) : (l0.length : Int).toNat ≤ 2706490160679)) (by omega)) (Below.refl _ _) (Nat.le_refl _) ?_
                        intro v352 w37 ho38 hb hg_ hnew_
                        clear hg_ hnew_
                        (first | rw [← Ny351.out] at ho38 | (simp only [Int.reduceToNat] at ho38; rw [← Ny351.out] at ho38))
                        have n0_ := Aside0.mk (Kd.R_below (by (with_reducible repeat (first | apply Kd.R_alloc | apply Kd.R_drewN | apply Kd.R_drew)); exact HO334.out) hb)
                        have n1_ := Aside0.mk (Kd.R_below (by (with_reducible repeat (first | apply Kd.R_alloc | apply Kd.R_drewN | apply Kd.R_drew)); exact HO342.out) hb)
                        have n2_ := Aside0.mk (Kd.R_below (by (with_reducible repeat (first | apply Kd.R_alloc | apply Kd.R_drewN | apply Kd.R_drew)); exact HO350.out) hb)
                        have n3_ := Aside0.mk (Kd.R_lower ho38 (below_size (by repeat (first | (with_reducible first | exact HB.out | apply below_alloc | apply pw_below_drewN | apply below_drew1) | exact HB.out))))
                        have n4_ := Aside0.mk (below_step (by repeat (first | (with_reducible first | exact HB.out | apply below_alloc | apply pw_below_drewN | apply below_drew1) | exact HB.out)) hb)
                        clear HO334
                        clear HO342
                        clear HO350
                        clear HB
                        have HO334 := n0_
                        have HO342 := n1_
                        have HO350 := n2_
                        have HO353 := n3_
                        have HB := n4_
                        clear n0_ n1_ n2_ n3_ n4_
                        clear hb ho38
                        refine hK.out _ _ trivial (fun hHeld => ?_)
                        clear hK K
                        refine norm_ (a' := ?_) ?_ ?_
                        rotate_left
                        · show Act.put _ (some 60) _ = _
                          simp only [Act.put, List.setIfInBounds_toArray, List.set_cons_zero, List.set_cons_succ, i64_w, i32_w]
                          rfl
                        refine one_ (i := 6) (N := some 64) #[true, true, true, true, true, true, true, true, true, true, false, true, false, false, false, false, false, false] rfl rfl (one_of HT_.out (by kernel_rfl)) (by decide) (fun K hK => ?_)
                        refine Kd.R_append_rows_step k40 (w0 := w) w.heap.size (by rfl) (.tmp 60) (.tmp 63) 22 40 (.agg #[(.int .i64 0), (.int .i64 0), (.int .i64 0), (.int .i64 0), (.int .i64 0), (.int .i64 0), (.int .i64 0), (.int .i64 0), (.int .i64 0), (.int .u64 0), (.int .u64 0), (.int .u64 0), (.int .u64 0)]) 104 rfl Try.underlying22 info40 rfl (by decide) (by omega) v352 y351 y354 _ _ _ (fun _ => True) (fun _ => False) rfl rfl ?aO ?aR (fun _ _ h => h) (fun _ h => h.elim) ?aF ?aB ?aS ?aL ?_
                        (case aR => first | (have e_ : y354 = y343 := Ny354.out.trans Ny343.out.symm; rw [e_]; exact Kd.C_below (Aside0.out (by assumption)) HB.out) | repeat (first | exact (Kd.C_below HR357.out HB.out) | (with_reducible refine Kd.C_alloc ?_ _) | (with_reducible refine Kd.C_drewN ?_ _) | (with_reducible refine Kd.C_drew ?_)))
                        (case aB => exact (by repeat (first | (with_reducible first | exact HB.out | apply below_alloc | apply pw_below_drewN | apply below_drew1) | exact HB.out)))
                        (case aF => exact (fun _ _ => trivial))
                        (case aO => exact (by (with_reducible repeat (first | apply Kd.R_alloc | apply Kd.R_drewN | apply Kd.R_drew)); exact HO353.out))
                        (case aS => exact (below_size (by repeat (first | (with_reducible first | exact HB.out | apply below_alloc | apply pw_below_drewN | apply below_drew1) | exact HB.out))))
                        (case aL => have := LMc23.out; first | omega | (have e_ : y354 = y343 := Ny354.out.trans Ny343.out.symm; have e2_ := congrArg List.length e_; omega))
                        intro v359 w39 ho hb hg hat
                        rw [← Ny358.out] at ho
                        have n0_ := Aside0.mk (Kd.R_over' (by (with_reducible repeat (first | apply Kd.R_alloc | apply Kd.R_drewN | apply Kd.R_drew)); exact HO334.out) (Kd.R_typed (by (with_reducible repeat (first | apply Kd.R_alloc | apply Kd.R_drewN | apply Kd.R_drew)); exact HO353.out)) (by decide) hg)
                        have n1_ := Aside0.mk (Kd.R_over' (by (with_reducible repeat (first | apply Kd.R_alloc | apply Kd.R_drewN | apply Kd.R_drew)); exact HO342.out) (Kd.R_typed (by (with_reducible repeat (first | apply Kd.R_alloc | apply Kd.R_drewN | apply Kd.R_drew)); exact HO353.out)) (by decide) hg)
                        have n2_ := Aside0.mk (Kd.R_over' (by (with_reducible repeat (first | apply Kd.R_alloc | apply Kd.R_drewN | apply Kd.R_drew)); exact HO350.out) (Kd.R_typed (by (with_reducible repeat (first | apply Kd.R_alloc | apply Kd.R_drewN | apply Kd.R_drew)); exact HO353.out)) (by decide) hg)
                        have n3_ := Aside0.mk (hb)
                        have n4_ := Aside0.mk (ho)
                        clear HO334
                        clear HO342
                        clear HO350
                        clear HB
                        clear HO353
                        have HO334 := n0_
                        have HO342 := n1_
                        have HO350 := n2_
                        have HB := n3_
                        have HO360 := n4_
                        clear n0_ n1_ n2_ n3_ n4_
                        clear ho hb hg hat
                        refine hK.out _ _ trivial (fun hHeld => ?_)
                        clear hK K
                        refine norm_ (a' := ?_) ?_ ?_
                        rotate_left
                        · show Act.put _ (some 64) _ = _
                          simp only [Act.put, List.setIfInBounds_toArray, List.set_cons_zero, List.set_cons_succ, i64_w, i32_w]
                          rfl
                        refine one_ (i := 10) (N := some 68) #[true, true, true, true, true, true, true, true, true, true, true, true, false, false, false, false, false, false] rfl rfl (one_of HT_.out (by kernel_rfl)) (by decide) (fun K hK => ?_)
                        refine Kd.R_append_rows_step k40 (w0 := w) w.heap.size (by rfl) (.tmp 64) (.tmp 67) 22 40 (.agg #[(.int .i64 0), (.int .i64 0), (.int .i64 0), (.int .i64 0), (.int .i64 0), (.int .i64 0), (.int .i64 0), (.int .i64 0), (.int .i64 0), (.int .u64 0), (.int .u64 0), (.int .u64 0), (.int .u64 0)]) 104 rfl Try.underlying22 info40 rfl (by decide) (by omega) v359 y358 y361 _ _ _ (fun _ => True) (fun _ => False) rfl rfl ?aO ?aR (fun _ _ h => h) (fun _ h => h.elim) ?aF ?aB ?aS ?aL ?_
                        (case aR => first | (have e_ : y361 = y335 := Ny361.out.trans Ny335.out.symm; rw [e_]; exact Kd.C_below (Aside0.out (by assumption)) HB.out) | repeat (first | exact (Kd.C_below HR364.out HB.out) | (with_reducible refine Kd.C_alloc ?_ _) | (with_reducible refine Kd.C_drewN ?_ _) | (with_reducible refine Kd.C_drew ?_)))
                        (case aB => exact (by repeat (first | (with_reducible first | exact HB.out | apply below_alloc | apply pw_below_drewN | apply below_drew1) | exact HB.out)))
                        (case aF => exact (fun _ _ => trivial))
                        (case aO => exact (by (with_reducible repeat (first | apply Kd.R_alloc | apply Kd.R_drewN | apply Kd.R_drew)); exact HO360.out))
                        (case aS => exact (below_size (by repeat (first | (with_reducible first | exact HB.out | apply below_alloc | apply pw_below_drewN | apply below_drew1) | exact HB.out))))
                        (case aL => have := LMc26.out; first | omega | (have e_ : y361 = y335 := Ny361.out.trans Ny335.out.symm; have e2_ := congrArg List.length e_; omega))
                        intro v366 w40 ho hb hg hat
                        rw [← Ny365.out] at ho
                        have n0_ := Aside0.mk (Kd.R_over' (by (with_reducible repeat (first | apply Kd.R_alloc | apply Kd.R_drewN | apply Kd.R_drew)); exact HO334.out) (Kd.R_typed (by (with_reducible repeat (first | apply Kd.R_alloc | apply Kd.R_drewN | apply Kd.R_drew)); exact HO360.out)) (by decide) hg)
                        have n1_ := Aside0.mk (Kd.R_over' (by (with_reducible repeat (first | apply Kd.R_alloc | apply Kd.R_drewN | apply Kd.R_drew)); exact HO342.out) (Kd.R_typed (by (with_reducible repeat (first | apply Kd.R_alloc | apply Kd.R_drewN | apply Kd.R_drew)); exact HO360.out)) (by decide) hg)
                        have n2_ := Aside0.mk (Kd.R_over' (by (with_reducible repeat (first | apply Kd.R_alloc | apply Kd.R_drewN | apply Kd.R_drew)); exact HO350.out) (Kd.R_typed (by (with_reducible repeat (first | apply Kd.R_alloc | apply Kd.R_drewN | apply Kd.R_drew)); exact HO360.out)) (by decide) hg)
                        have n3_ := Aside0.mk (hb)
                        have n4_ := Aside0.mk (ho)
                        clear HO334
                        clear HO342
                        clear HO350
                        clear HB
                        clear HO360
                        have HO334 := n0_
                        have HO342 := n1_
                        have HO350 := n2_
                        have HB := n3_
                        have HO367 := n4_
                        clear n0_ n1_ n2_ n3_ n4_
                        clear ho hb hg hat
                        obtain ⟨Ao41, co41, eo41⟩ := Kd.R_slice HO367.out
                        (first | subst eo41 | (injection eo41 with f1_ f2_ f3_; have f4_ := f1_.symm; have f5_ := f3_.symm; clear f1_ f2_ f3_; subst f4_; subst f5_))
                        refine hK.out _ _ trivial (fun hHeld => ?_)
                        clear hK K
                        refine norm_ (a' := ?_) ?_ ?_
                        rotate_left
                        · show Act.put _ (some 68) _ = _
                          simp only [Act.put, List.setIfInBounds_toArray, List.set_cons_zero, List.set_cons_succ, i64_w, i32_w]
                          rfl
                        refine one_ (i := 12) (N := some 70) #[true, true, true, true, true, true, true, true, true, true, true, true, true, false, false, false, false, false] rfl rfl (one_of HT_.out (by kernel_rfl)) (by decide) (fun K hK => ?_)
                        refine goes_ Try.func10 (by kernel_rfl) rfl #[.slice Ao41 y365.length co41, .int .i64 a1] (by rfl) rfl rfl (by (try simp only [List.map_toArray, List.map_cons, List.map_nil]); first | done | rfl | (simp only [List.length_drop, List.length_take]; rfl)) ?_
                        with_reducible refine (settle_Net.calls _ _ y365 a1 t368 t369 _ ?side1 ?side2 A27.out).mono ?_
                        (case side1 => repeat (first | exact (Kd.R_reads' HO367.out).2.2 | (with_reducible refine Kd.C_alloc ?_ _) | (with_reducible refine Kd.C_drewN ?_ _) | (with_reducible refine Kd.C_drew ?_)))
                        (case side2 => exact (Kd.R_reads' HO367.out).2.1)
                        rintro e w42 ⟨v370, rfl, ho0, hb⟩
                        refine ⟨_, rfl, ?_⟩
                        have n0_ := Aside0.mk (Kd.R_elder' (by (with_reducible repeat (first | apply Kd.R_alloc | apply Kd.R_drewN | apply Kd.R_drew)); exact HO334.out) (Kd.R_base ho0) hb)
                        have n1_ := Aside0.mk (Kd.R_elder' (by (with_reducible repeat (first | apply Kd.R_alloc | apply Kd.R_drewN | apply Kd.R_drew)); exact HO342.out) (Kd.R_base ho0) hb)
                        have n2_ := Aside0.mk (Kd.R_elder' (by (with_reducible repeat (first | apply Kd.R_alloc | apply Kd.R_drewN | apply Kd.R_drew)); exact HO350.out) (Kd.R_base ho0) hb)
                        have n3_ := Aside0.mk (Kd.R_below (by (with_reducible repeat (first | apply Kd.R_alloc | apply Kd.R_drewN | apply Kd.R_drew)); exact HO367.out) hb)
                        have n4_ := Aside0.mk (Kd.R_lower (Kd.R_new' (Kd.R_new' (Kd.R_new' ho0 (Kd.R_lt (by (with_reducible repeat (first | apply Kd.R_alloc | apply Kd.R_drewN | apply Kd.R_drew)); exact HO334.out))) (Kd.R_lt (by (with_reducible repeat (first | apply Kd.R_alloc | apply Kd.R_drewN | apply Kd.R_drew)); exact HO342.out))) (Kd.R_lt (by (with_reducible repeat (first | apply Kd.R_alloc | apply Kd.R_drewN | apply Kd.R_drew)); exact HO350.out))) (below_size (by repeat (first | (with_reducible first | exact HB.out | apply below_alloc | apply pw_below_drewN | apply below_drew1) | exact HB.out))))
                        have n5_ := Aside0.mk (below_step (by repeat (first | (with_reducible first | exact HB.out | apply below_alloc | apply pw_below_drewN | apply below_drew1) | exact HB.out)) hb)
                        clear HO334
                        clear HO342
                        clear HO350
                        clear HO367
                        clear HB
                        have HO334 := n0_
                        have HO342 := n1_
                        have HO350 := n2_
                        have HO367 := n3_
                        have HO371 := n4_
                        have HB := n5_
                        clear n0_ n1_ n2_ n3_ n4_ n5_
                        (try clear hb)
                        (try clear hb2)
                        (try clear hk)
                        (try clear hi)
                        (try clear ho0)
                        refine hK.out _ _ trivial (fun hHeld => ?_)
                        clear hK K
                        refine norm_ (a' := ?_) ?_ ?_
                        rotate_left
                        · show Act.put _ (some 70) _ = _
                          simp only [Act.put, List.setIfInBounds_toArray, List.set_cons_zero, List.set_cons_succ, i64_w, i32_w]
                          rfl
                        refine pure_ (i := 13) (N := some 57) (v := ?_) (a' := ?_) #[true, true, true, true, true, true, true, true, true, true, true, true, true, true, false, false, false, false] rfl rfl (any_of HT_.out (by kernel_rfl)) (fun _ _ _ h => h) (Or.inl ⟨by rfl, ?_⟩) ?_ ?_
                        rotate_left
                        · intro w'
                          go_simp
                          with_reducible rfl
                        rotate_left
                        · simp only [Act.put, List.setIfInBounds_toArray, List.set_cons_zero, List.set_cons_succ, i64_w, i32_w]
                          rfl
                        refine pure_ (i := 14) (N := some 71) (v := ?_) (a' := ?_) #[true, true, true, true, true, true, true, true, true, true, true, true, true, true, true, false, false, false] rfl rfl (any_of HT_.out (by kernel_rfl)) (fun _ _ _ h => h) (Or.inl ⟨by rfl, ?_⟩) ?_ ?_
                        rotate_left
                        · intro w'
                          go_simp
                          with_reducible rfl
                        rotate_left
                        · simp only [Act.put, List.setIfInBounds_toArray, List.set_cons_zero, List.set_cons_succ, i64_w, i32_w]
                          rfl
                        refine pure_ (i := 15) (N := some 72) (v := ?_) (a' := ?_) #[true, true, true, true, true, true, true, true, true, true, true, true, true, true, true, true, false, false] rfl rfl (any_of HT_.out (by kernel_rfl)) (fun _ _ _ h => h) (Or.inl ⟨by rfl, ?_⟩) ?_ ?_
                        rotate_left
                        · intro w'
                          go_simp
                          with_reducible rfl
                        rotate_left
                        · simp only [Act.put, List.setIfInBounds_toArray, List.set_cons_zero, List.set_cons_succ, i64_w, i32_w]
                          rfl
                        refine pure_ (i := 16) (N := some 15) (v := ?_) (a' := ?_) #[true, true, true, true, true, true, true, true, true, true, true, true, true, true, true, true, true, false] rfl rfl (any_of HT_.out (by kernel_rfl)) (fun _ _ _ h => h) (Or.inl ⟨by rfl, ?_⟩) ?_ ?_
                        rotate_left
                        · intro w'
                          go_simp
                          with_reducible rfl
                        rotate_left
                        · simp only [Act.put, List.setIfInBounds_toArray, List.set_cons_zero, List.set_cons_succ, i64_w, i32_w]
                          rfl
                        refine pure_ (i := 17) (N := some 16) (v := ?_) (a' := ?_) #[true, true, true, true, true, true, true, true, true, true, true, true, true, true, true, true, true, true] rfl rfl (any_of HT_.out (by kernel_rfl)) (fun _ _ _ h => h) (Or.inl ⟨by rfl, ?_⟩) ?_ ?_
                        rotate_left
                        · intro w'
                          go_simp
                          with_reducible rfl
                        rotate_left
                        · simp only [Act.put, List.setIfInBounds_toArray, List.set_cons_zero, List.set_cons_succ, i64_w, i32_w]
                          rfl
                        refine done_ (done_of HT_.out (by kernel_rfl)) ?_
                        go_upto_region 11 with (fail)
                        go_cut [102] (fun v102 wc => ∃ (kq : Nat) (x102_27 : Bool), v102 = .bool x102_27 ∧ Aside0 (chargeparklaw42_SettleParts.j1 kq t330 t331 t339 t347 x102_27 = some r) ∧ Aside0 (kq ≤ kj4) ∧ Aside0 (Kd.R (Kd.int .i64) 3 wc w.heap.size (fun k_ => some k_ ≠ (v341 : Value).ownBlock ∧ some k_ ≠ (v349 : Value).ownBlock) v333 t331) ∧ Aside0 (Kd.R (Kd.int .i64) 3 wc w.heap.size (fun k_ => some k_ ≠ (v333 : Value).ownBlock ∧ some k_ ≠ (v349 : Value).ownBlock) v341 t339) ∧ Aside0 (Kd.R (Kd.int .i64) 3 wc w.heap.size (fun k_ => some k_ ≠ (v333 : Value).ownBlock ∧ some k_ ≠ (v341 : Value).ownBlock) v349 t347) ∧ Aside0 (Below w.heap.size w wc))
                        case first =>
                          have H := HC28.out
                          clear HC28
                          by_cases c43 : t340 = 0
                          · rw [if_pos c43] at H
                            have c43b0 : (t340 == 0) = true := beq_iff_eq.mpr c43
                            have c43b1 : (t340 != 0) = false := bne_eq_false_iff_eq.mpr c43
                            clear c43
                            (first | rw [c43b0] | (simp only [i64_w, i32_w]; rw [c43b0]) | skip)
                            by_cases c44 : t348 = 0
                            · rw [if_pos c44] at H
                              have c44b0 : (t348 == 0) = true := beq_iff_eq.mpr c44
                              have c44b1 : (t348 != 0) = false := bne_eq_false_iff_eq.mpr c44
                              clear c44
                              by_cases c45 : t369 = 0
                              · rw [if_pos c45] at H
                                have c45b0 : (t369 == 0) = true := beq_iff_eq.mpr c45
                                have c45b1 : (t369 != 0) = false := bne_eq_false_iff_eq.mpr c45
                                clear c45
                                by_cases c46 : (t339.length : Int) = (t331.length : Int)
                                · rw [if_pos c46] at H
                                  have c46b0 : ((t339.length : Int) == (t331.length : Int)) = true := beq_iff_eq.mpr c46
                                  have c46b1 : ((t339.length : Int) != (t331.length : Int)) = false := bne_eq_false_iff_eq.mpr c46
                                  have c46b2 : (t339.length == t331.length) = true := by first | simpa using c46 | (simp at c46 ⊢; omega)
                                  clear c46
                                  by_cases c47 : (t347.length : Int) = (t331.length : Int)
                                  · rw [if_pos c47] at H
                                    have c47b0 : ((t347.length : Int) == (t331.length : Int)) = true := beq_iff_eq.mpr c47
                                    have c47b1 : ((t347.length : Int) != (t331.length : Int)) = false := bne_eq_false_iff_eq.mpr c47
                                    have c47b2 : (t347.length == t331.length) = true := by first | simpa using c47 | (simp at c47 ⊢; omega)
                                    clear c47
                                    replace H := Option.bind_eq_some_iff.mp H
                                    obtain ⟨t372, A480, H⟩ := H
                                    replace H : (chargeparklaw42_SettleParts.j1 kj4 t330 t331 t339 t347 (!t372)) = some r := H
                                    have A48 := Aside0.mk A480
                                    clear A480
                                    have H' := Aside0.mk H
                                    clear H
                                    obtain ⟨Ao49, co49, eo49⟩ := Kd.R_slice HO342.out
                                    subst eo49
                                    obtain ⟨Ao50, co50, eo50⟩ := Kd.R_slice HO334.out
                                    subst eo50
                                    obtain ⟨Ao51, co51, eo51⟩ := Kd.R_slice HO350.out
                                    subst eo51
                                    obtain ⟨Ao52, co52, eo52⟩ := Kd.R_slice HO371.out
                                    subst eo52
                                    go_wp2_with (first | (go_at_call 16; (with_reducible refine (chargeparkref42_Ints.calls kj4 _ _ t331 _ _ t368 t372 _ ?side1 ?side2 ?side3 ?side4 A48.out).mono ?_); (case side1 => repeat (first | exact (Kd.R_reads' HO334.out).2.2 | (with_reducible refine Kd.C_alloc ?_ _) | (with_reducible refine Kd.C_drewN ?_ _) | (with_reducible refine Kd.C_drew ?_))); (case side2 => exact (Kd.R_reads' HO334.out).2.1); (case side3 => repeat (first | exact (Kd.R_reads' HO371.out).2.2 | (with_reducible refine Kd.C_alloc ?_ _) | (with_reducible refine Kd.C_drewN ?_ _) | (with_reducible refine Kd.C_drew ?_))); (case side4 => exact (Kd.R_reads' HO371.out).2.1); rintro e w' ⟨rfl, ⟨nd, rfl⟩⟩))
                                    go_meet
                                    case rel => exact ⟨_, (!t372), (by first | rfl | (simp; done) | (simp [*]; done)), H', ⟨by have := HJ4.out; first | omega | exact Nat.le_refl _⟩, ⟨by (with_reducible repeat (first | apply Kd.R_alloc | apply Kd.R_drewN | apply Kd.R_drew)); exact Kd.R_mono HO334.out (fun _ hk => ⟨hk.1.1.2, hk.1.2⟩)⟩, ⟨by (with_reducible repeat (first | apply Kd.R_alloc | apply Kd.R_drewN | apply Kd.R_drew)); exact Kd.R_mono HO342.out (fun _ hk => ⟨hk.1.1.2, hk.1.2⟩)⟩, ⟨by (with_reducible repeat (first | apply Kd.R_alloc | apply Kd.R_drewN | apply Kd.R_drew)); exact Kd.R_mono HO350.out (fun _ hk => ⟨hk.1.1.2, hk.1.2⟩)⟩, ⟨by repeat (first | (with_reducible first | exact HB.out | apply below_alloc | apply pw_below_drewN | apply below_drew1) | exact HB.out)⟩⟩
                                  · rw [if_neg c47] at H
                                    have c47b0 : ((t347.length : Int) == (t331.length : Int)) = false := beq_eq_false_iff_ne.mpr c47
                                    have c47b1 : ((t347.length : Int) != (t331.length : Int)) = true := bne_iff_ne.mpr c47
                                    have c47b2 : (t347.length == t331.length) = false := by first | simpa using c47 | (simp at c47 ⊢; omega)
                                    have H' := Aside0.mk H
                                    clear H
                                    obtain ⟨Ao53, co53, eo53⟩ := Kd.R_slice HO342.out
                                    subst eo53
                                    obtain ⟨Ao54, co54, eo54⟩ := Kd.R_slice HO334.out
                                    subst eo54
                                    obtain ⟨Ao55, co55, eo55⟩ := Kd.R_slice HO350.out
                                    subst eo55
                                    go_wp2
                                    go_meet
                                    case rel => exact ⟨_, (true), (by first | rfl | (simp; done) | (simp [*]; done)), H', ⟨by have := HJ4.out; first | omega | exact Nat.le_refl _⟩, ⟨by (with_reducible repeat (first | apply Kd.R_alloc | apply Kd.R_drewN | apply Kd.R_drew)); exact Kd.R_mono HO334.out (fun _ hk => ⟨hk.1.1.2, hk.1.2⟩)⟩, ⟨by (with_reducible repeat (first | apply Kd.R_alloc | apply Kd.R_drewN | apply Kd.R_drew)); exact Kd.R_mono HO342.out (fun _ hk => ⟨hk.1.1.2, hk.1.2⟩)⟩, ⟨by (with_reducible repeat (first | apply Kd.R_alloc | apply Kd.R_drewN | apply Kd.R_drew)); exact Kd.R_mono HO350.out (fun _ hk => ⟨hk.1.1.2, hk.1.2⟩)⟩, ⟨by repeat (first | (with_reducible first | exact HB.out | apply below_alloc | apply pw_below_drewN | apply below_drew1) | exact HB.out)⟩⟩
                                · rw [if_neg c46] at H
                                  have c46b0 : ((t339.length : Int) == (t331.length : Int)) = false := beq_eq_false_iff_ne.mpr c46
                                  have c46b1 : ((t339.length : Int) != (t331.length : Int)) = true := bne_iff_ne.mpr c46
                                  have c46b2 : (t339.length == t331.length) = false := by first | simpa using c46 | (simp at c46 ⊢; omega)
                                  have H' := Aside0.mk H
                                  clear H
                                  obtain ⟨Ao56, co56, eo56⟩ := Kd.R_slice HO342.out
                                  subst eo56
                                  obtain ⟨Ao57, co57, eo57⟩ := Kd.R_slice HO334.out
                                  subst eo57
                                  go_wp2
                                  go_meet
                                  case rel => exact ⟨_, (true), (by first | rfl | (simp; done) | (simp [*]; done)), H', ⟨by have := HJ4.out; first | omega | exact Nat.le_refl _⟩, ⟨by (with_reducible repeat (first | apply Kd.R_alloc | apply Kd.R_drewN | apply Kd.R_drew)); exact Kd.R_mono HO334.out (fun _ hk => ⟨hk.1.1.2, hk.1.2⟩)⟩, ⟨by (with_reducible repeat (first | apply Kd.R_alloc | apply Kd.R_drewN | apply Kd.R_drew)); exact Kd.R_mono HO342.out (fun _ hk => ⟨hk.1.1.2, hk.1.2⟩)⟩, ⟨by (with_reducible repeat (first | apply Kd.R_alloc | apply Kd.R_drewN | apply Kd.R_drew)); exact Kd.R_mono HO350.out (fun _ hk => ⟨hk.1.1.2, hk.1.2⟩)⟩, ⟨by repeat (first | (with_reducible first | exact HB.out | apply below_alloc | apply pw_below_drewN | apply below_drew1) | exact HB.out)⟩⟩
                              · rw [if_neg c45] at H
                                have c45b0 : (t369 == 0) = false := beq_eq_false_iff_ne.mpr c45
                                have c45b1 : (t369 != 0) = true := bne_iff_ne.mpr c45
                                have H' := Aside0.mk H
                                clear H
                                go_wp2
                                go_meet
                                case rel => exact ⟨_, (true), (by first | rfl | (simp; done) | (simp [*]; done)), H', ⟨by have := HJ4.out; first | omega | exact Nat.le_refl _⟩, ⟨by (with_reducible repeat (first | apply Kd.R_alloc | apply Kd.R_drewN | apply Kd.R_drew)); exact Kd.R_mono HO334.out (fun _ hk => ⟨hk.1.1.2, hk.1.2⟩)⟩, ⟨by (with_reducible repeat (first | apply Kd.R_alloc | apply Kd.R_drewN | apply Kd.R_drew)); exact Kd.R_mono HO342.out (fun _ hk => ⟨hk.1.1.2, hk.1.2⟩)⟩, ⟨by (with_reducible repeat (first | apply Kd.R_alloc | apply Kd.R_drewN | apply Kd.R_drew)); exact Kd.R_mono HO350.out (fun _ hk => ⟨hk.1.1.2, hk.1.2⟩)⟩, ⟨by repeat (first | (with_reducible first | exact HB.out | apply below_alloc | apply pw_below_drewN | apply below_drew1) | exact HB.out)⟩⟩
                            · rw [if_neg c44] at H
                              have c44b0 : (t348 == 0) = false := beq_eq_false_iff_ne.mpr c44
                              have c44b1 : (t348 != 0) = true := bne_iff_ne.mpr c44
                              have H' := Aside0.mk H
                              clear H
                              go_wp2
                              go_meet
                              case rel => exact ⟨_, (true), (by first | rfl | (simp; done) | (simp [*]; done)), H', ⟨by have := HJ4.out; first | omega | exact Nat.le_refl _⟩, ⟨by (with_reducible repeat (first | apply Kd.R_alloc | apply Kd.R_drewN | apply Kd.R_drew)); exact Kd.R_mono HO334.out (fun _ hk => ⟨hk.1.1.2, hk.1.2⟩)⟩, ⟨by (with_reducible repeat (first | apply Kd.R_alloc | apply Kd.R_drewN | apply Kd.R_drew)); exact Kd.R_mono HO342.out (fun _ hk => ⟨hk.1.1.2, hk.1.2⟩)⟩, ⟨by (with_reducible repeat (first | apply Kd.R_alloc | apply Kd.R_drewN | apply Kd.R_drew)); exact Kd.R_mono HO350.out (fun _ hk => ⟨hk.1.1.2, hk.1.2⟩)⟩, ⟨by repeat (first | (with_reducible first | exact HB.out | apply below_alloc | apply pw_below_drewN | apply below_drew1) | exact HB.out)⟩⟩
                          · rw [if_neg c43] at H
                            have c43b0 : (t340 == 0) = false := beq_eq_false_iff_ne.mpr c43
                            have c43b1 : (t340 != 0) = true := bne_iff_ne.mpr c43
                            (first | rw [c43b0] | (simp only [i64_w, i32_w]; rw [c43b0]) | skip)
                            have H' := Aside0.mk H
                            clear H
                            go_wp2
                            go_meet
                            case rel => exact ⟨_, (true), (by first | rfl | (simp; done) | (simp [*]; done)), H', ⟨by have := HJ4.out; first | omega | exact Nat.le_refl _⟩, ⟨by (with_reducible repeat (first | apply Kd.R_alloc | apply Kd.R_drewN | apply Kd.R_drew)); exact Kd.R_mono HO334.out (fun _ hk => ⟨hk.1.1.2, hk.1.2⟩)⟩, ⟨by (with_reducible repeat (first | apply Kd.R_alloc | apply Kd.R_drewN | apply Kd.R_drew)); exact Kd.R_mono HO342.out (fun _ hk => ⟨hk.1.1.2, hk.1.2⟩)⟩, ⟨by (with_reducible repeat (first | apply Kd.R_alloc | apply Kd.R_drewN | apply Kd.R_drew)); exact Kd.R_mono HO350.out (fun _ hk => ⟨hk.1.1.2, hk.1.2⟩)⟩, ⟨by repeat (first | (with_reducible first | exact HB.out | apply below_alloc | apply pw_below_drewN | apply below_drew1) | exact HB.out)⟩⟩
                        case rest =>
                          clear HC28
                          try clear c1
                          try clear c2
                          try clear p2
                          try clear c3
                          try clear q3
                          try clear c4
                          try clear c5
                          try clear p6
                          try clear c7
                          try clear c7b0
                          try clear c7b1
                          try clear c8
                          try clear c9
                          try clear c10
                          try clear c10b0
                          try clear c10b1
                          try clear c11
                          try clear c11b0
                          try clear c11b1
                          try clear c13
                          try clear c13b0
                          try clear c13b1
                          try clear c14
                          try clear c14b0
                          try clear c14b1
                          try clear c16
                          try clear c16b0
                          try clear c17
                          try clear c17b0
                          try clear c19
                          try clear c19b0
                          try clear c19b1
                          try clear c20
                          try clear c20b0
                          try clear c20b1
                          try clear c21
                          try clear c21b0
                          try clear c22
                          try clear c22b0
                          try clear c23
                          try clear c24
                          try clear c24b0
                          try clear c25
                          try clear c25b0
                          try clear c26
                          try clear q30
                          try clear c32
                          try clear q32
                          try clear c35
                          try clear q35
                          try clear q36
                          try clear c43
                          try clear c43b0
                          try clear c43b1
                          try clear c44
                          try clear c44b0
                          try clear c44b1
                          try clear c45
                          try clear c45b0
                          try clear c45b1
                          try clear c46
                          try clear c46b0
                          try clear c46b1
                          try clear c46b2
                          try clear c47
                          try clear c47b0
                          try clear c47b1
                          try clear c47b2
                          try clear p2
                          try clear q032
                          try clear q035
                          try clear q30
                          try clear q32
                          try clear q35
                          try clear q36
                          obtain ⟨kq, x102_27, rfl, HA, HJ27, HO_8, HO_11, HO_13, HB⟩ := hcut
                          cases kq with
                          | zero => exact absurd HA.out (by simp [chargeparklaw42_SettleParts.j1])
                          | succ kj27 =>
                            have H := HA.out
                            clear HA
                            simp only [chargeparklaw42_SettleParts.j1] at H
                            by_cases c58 : x102_27 = true
                            · subst c58
                              have H1 : (none) = some r := by rw [if_pos rfl] at H; exact H
                              clear H
                              have H := H1
                              clear H1
                              exact absurd H (by simp)
                            · replace c58 := Bool.eq_false_iff.mpr c58
                              subst c58
                              have H1 : (chargeparklaw42_SettleParts.l0 kj27 t330 t331 t339 t347 0) = some r := by rw [if_neg (show ¬ (false = true) by decide)] at H; exact H
                              clear H
                              have H := H1
                              clear H1
                              have H' := Aside0.mk H
                              clear H
                              go_wp2
                              go_loopg [7, 17] kj27 (fun kq v7 v17 w' => ∃ (x7_3 : Bool) (x17_3 : Int), v7 = .bool x7_3 ∧ v17 = .int .i64 x17_3 ∧ Aside0 (chargeparklaw42_SettleParts.l0 kq x7_3 t331 t339 t347 x17_3 = some r) ∧ Aside0 (kq ≤ kj27) ∧ Aside0 (Kd.R (Kd.int .i64) 3 w' w.heap.size (fun k_ => some k_ ≠ (v341 : Value).ownBlock ∧ some k_ ≠ (v349 : Value).ownBlock) v333 t331) ∧ Aside0 (Kd.R (Kd.int .i64) 3 w' w.heap.size (fun k_ => some k_ ≠ (v333 : Value).ownBlock ∧ some k_ ≠ (v349 : Value).ownBlock) v341 t339) ∧ Aside0 (Kd.R (Kd.int .i64) 3 w' w.heap.size (fun k_ => some k_ ≠ (v333 : Value).ownBlock ∧ some k_ ≠ (v341 : Value).ownBlock) v349 t347) ∧ Aside0 (Below w.heap.size w w'))
                              case atStart => exact ⟨(t330), (0), (by first | rfl | (simp; done) | (simp [*]; done)), (by first | rfl | (simp; done) | (simp [*]; done)), H', ⟨Nat.le_refl _⟩, ⟨by (with_reducible repeat (first | apply Kd.R_alloc | apply Kd.R_drewN | apply Kd.R_drew)); exact HO_8.out⟩, ⟨by (with_reducible repeat (first | apply Kd.R_alloc | apply Kd.R_drewN | apply Kd.R_drew)); exact HO_11.out⟩, ⟨by (with_reducible repeat (first | apply Kd.R_alloc | apply Kd.R_drewN | apply Kd.R_drew)); exact HO_13.out⟩, ⟨by repeat (first | (with_reducible first | exact HB.out | apply below_alloc | apply pw_below_drewN | apply below_drew1) | exact HB.out)⟩⟩
                              case round =>
                                clear H'
                                try clear c1
                                try clear c2
                                try clear p2
                                try clear c3
                                try clear q3
                                try clear c4
                                try clear c5
                                try clear p6
                                try clear c7
                                try clear c7b0
                                try clear c7b1
                                try clear c8
                                try clear c9
                                try clear c10
                                try clear c10b0
                                try clear c10b1
                                try clear c11
                                try clear c11b0
                                try clear c11b1
                                try clear c13
                                try clear c13b0
                                try clear c13b1
                                try clear c14
                                try clear c14b0
                                try clear c14b1
                                try clear c16
                                try clear c16b0
                                try clear c17
                                try clear c17b0
                                try clear c19
                                try clear c19b0
                                try clear c19b1
                                try clear c20
                                try clear c20b0
                                try clear c20b1
                                try clear c21
                                try clear c21b0
                                try clear c22
                                try clear c22b0
                                try clear c23
                                try clear c24
                                try clear c24b0
                                try clear c25
                                try clear c25b0
                                try clear c26
                                try clear q30
                                try clear c32
                                try clear q32
                                try clear c35
                                try clear q35
                                try clear q36
                                try clear c43
                                try clear c43b0
                                try clear c43b1
                                try clear c44
                                try clear c44b0
                                try clear c44b1
                                try clear c45
                                try clear c45b0
                                try clear c45b1
                                try clear c46
                                try clear c46b0
                                try clear c46b1
                                try clear c46b2
                                try clear c47
                                try clear c47b0
                                try clear c47b1
                                try clear c47b2
                                try clear c58
                                try clear p2
                                try clear p6
                                try clear q032
                                try clear q035
                                try clear q3
                                try clear q30
                                try clear q32
                                try clear q35
                                try clear q36
                                obtain ⟨x7_3, x17_3, rfl, rfl, HA, HK3, HO_8, HO_11, HO_13, HB⟩ := hrel
                                cases gk with
                                | zero => exact absurd HA.out (by simp [chargeparklaw42_SettleParts.l0])
                                | succ k3 =>
                                  have H := HA.out
                                  clear HA
                                  simp only [chargeparklaw42_SettleParts.l0] at H
                                  by_cases c59 : x17_3 < (t331.length : Int)
                                  · rw [if_pos c59] at H
                                    have c59b0 : decide (x17_3 < (t331.length : Int)) = true := decide_eq_true c59
                                    clear c59
                                    by_cases c60 : x7_3 = true
                                    · subst c60
                                      have H1 : (if 0 ≤ x17_3 then (if x17_3 < (t339.length : Int) then (if x17_3 < (t347.length : Int) then (chargeparklaw42_SettleParts.l0 k3 ((wrap64 ((rd t339 x17_3) + (rd t347 x17_3))) == (rd t331 x17_3)) t331 t339 t347 (wrap64 (x17_3 + 1))) else (none)) else (none)) else (none)) = some r := by rw [if_pos rfl] at H; exact H
                                      clear H
                                      have H := H1
                                      clear H1
                                      by_cases c61 : 0 ≤ x17_3
                                      · rw [if_pos c61] at H
                                        have c61b0 : decide (0 ≤ x17_3) = true := decide_eq_true c61
                                        clear c61
                                        by_cases c62 : x17_3 < (t339.length : Int)
                                        · rw [if_pos c62] at H
                                          have c62b0 : decide (x17_3 < (t339.length : Int)) = true := decide_eq_true c62
                                          clear c62
                                          by_cases c63 : x17_3 < (t347.length : Int)
                                          · rw [if_pos c63] at H
                                            have c63b0 : decide (x17_3 < (t347.length : Int)) = true := decide_eq_true c63
                                            clear c63
                                            have H' := Aside0.mk H
                                            clear H
                                            obtain ⟨Ao64, co64, eo64⟩ := Kd.R_slice HO_8.out
                                            subst eo64
                                            try go_wp2
                                            have n0_ := Aside0.mk (Kd.R_drew HO_8.out)
                                            have n1_ := Aside0.mk (Kd.R_drew HO_11.out)
                                            have n2_ := Aside0.mk (Kd.R_drew HO_13.out)
                                            have n3_ := Aside0.mk (below_drew1 HB.out)
                                            clear HO_8
                                            clear HO_11
                                            clear HO_13
                                            clear HB
                                            have HO_8 := n0_
                                            have HO_11 := n1_
                                            have HO_13 := n2_
                                            have HB := n3_
                                            clear n0_ n1_ n2_ n3_
                                            obtain ⟨Ao66, co66, eo66⟩ := Kd.R_slice HO_11.out
                                            (first | subst eo66 | (injection eo66 with f1_ f2_ f3_; have f4_ := f1_.symm; have f5_ := f3_.symm; clear f1_ f2_ f3_; subst f4_; subst f5_))
                                            have p373 : 0 ≤ (x17_3 : Int) := of_decide_eq_true (by first | (with_reducible assumption) | assumption)
                                            have q373 : x17_3 < (t339.length : Int) := of_decide_eq_true (by first | (with_reducible assumption) | assumption)
                                            obtain ⟨ad373, e373, hx373_0⟩ := Kd.at_int (Kd.R_reads' HO_11.out).2.2 x17_3 p373 q373
                                            cases e373
                                            replace p373 := eq_true p373
                                            replace q373 := eq_true q373
                                            obtain ⟨Ao67, co67, eo67⟩ := Kd.R_slice HO_13.out
                                            (first | subst eo67 | (injection eo67 with f1_ f2_ f3_; have f4_ := f1_.symm; have f5_ := f3_.symm; clear f1_ f2_ f3_; subst f4_; subst f5_))
                                            have p374 : 0 ≤ (x17_3 : Int) := of_decide_eq_true (by first | (with_reducible assumption) | assumption)
                                            have q374 : x17_3 < (t347.length : Int) := of_decide_eq_true (by first | (with_reducible assumption) | assumption)
                                            obtain ⟨ad374, e374, hx374_0⟩ := Kd.at_int (Kd.R_reads' HO_13.out).2.2 x17_3 p374 q374
                                            cases e374
                                            replace p374 := eq_true p374
                                            replace q374 := eq_true q374
                                            have p375 : 0 ≤ (x17_3 : Int) := of_decide_eq_true (by first | (with_reducible assumption) | assumption)
                                            have q375 : x17_3 < (t331.length : Int) := of_decide_eq_true (by first | (with_reducible assumption) | assumption)
                                            obtain ⟨ad375, e375, hx375_0⟩ := Kd.at_int (Kd.R_reads' HO_8.out).2.2 x17_3 p375 q375
                                            cases e375
                                            replace p375 := eq_true p375
                                            replace q375 := eq_true q375
                                            refine start_ (n := 18) (S := fun w' => w'.cell? (ad373.add (x17_3).toNat) = some (.int .i64 (rd t339 x17_3)) ∧ w'.cell? (ad374.add (x17_3).toNat) = some (.int .i64 (rd t347 x17_3)) ∧ w'.cell? (ad375.add (x17_3).toNat) = some (.int .i64 (rd t331 x17_3))) (ds := []) #[false, false, false, false, false, false, false, false, false, false, false, false, false, false, false, false, false, false] (by kernel_rfl) rfl rfl ⟨hx373_0, hx374_0, hx375_0⟩ (fun hHeld => ?_); refine with_tabW chargeparklaw42_SettleParts.tab16 chargeparklaw42_SettleParts.bits16 (fun HT_ HW_ => ?_)
                                            generalize wr.drew = w65 at HO_8 HO_11 HO_13 HB hx373_0 hx374_0 hx375_0 hHeld ⊢
                                            refine pure_ (i := 0) (N := some 109) (v := ?_) (a' := ?_) #[true, false, false, false, false, false, false, false, false, false, false, false, false, false, false, false, false, false] rfl rfl (any_of HT_.out (by kernel_rfl)) (fun _ _ _ h => h) (Or.inl ⟨by rfl, ?_⟩) ?_ ?_
                                            rotate_left
                                            · intro w'
                                              go_simp
                                              with_reducible rfl
                                            rotate_left
                                            · simp only [Act.put, List.setIfInBounds_toArray, List.set_cons_zero, List.set_cons_succ, i64_w, i32_w]
                                              rfl
                                            refine pure_ (i := 1) (N := some 110) (v := ?_) (a' := ?_) #[true, true, false, false, false, false, false, false, false, false, false, false, false, false, false, false, false, false] rfl rfl (any_of HT_.out (by kernel_rfl)) (fun _ _ _ h => h) (Or.inl ⟨by rfl, ?_⟩) ?_ ?_
                                            rotate_left
                                            · intro w'
                                              go_simp
                                              with_reducible rfl
                                            rotate_left
                                            · simp only [Act.put, List.setIfInBounds_toArray, List.set_cons_zero, List.set_cons_succ, i64_w, i32_w]
                                              rfl
                                            refine pure_ (i := 2) (N := some 111) (v := ?_) (a' := ?_) #[true, true, true, false, false, false, false, false, false, false, false, false, false, false, false, false, false, false] rfl rfl (any_of HT_.out (by kernel_rfl)) (fun _ _ _ h => h) (Or.inl ⟨by rfl, ?_⟩) ?_ ?_
                                            rotate_left
                                            · intro w'
                                              go_simp
                                              with_reducible rfl
                                            rotate_left
                                            · simp only [Act.put, List.setIfInBounds_toArray, List.set_cons_zero, List.set_cons_succ, i64_w, i32_w]
                                              rfl
                                            refine pure_ (i := 3) (N := some 112) (v := ?_) (a' := ?_) #[true, true, true, true, false, false, false, false, false, false, false, false, false, false, false, false, false, false] rfl rfl (any_of HT_.out (by kernel_rfl)) (fun _ _ _ h => h) (Or.inl ⟨by rfl, ?_⟩) ?_ ?_
                                            rotate_left
                                            · intro w'
                                              go_simp
                                              with_reducible rfl
                                            rotate_left
                                            · simp only [Act.put, List.setIfInBounds_toArray, List.set_cons_zero, List.set_cons_succ, i64_w, i32_w]
                                              rfl
                                            refine pure_ (i := 4) (N := some 113) (v := ?_) (a' := ?_) #[true, true, true, true, true, false, false, false, false, false, false, false, false, false, false, false, false, false] rfl rfl (any_of HT_.out (by kernel_rfl)) (fun _ _ _ h => h) (Or.inl ⟨by rfl, ?_⟩) ?_ ?_
                                            rotate_left
                                            · intro w'
                                              go_simp
                                              with_reducible rfl
                                            rotate_left
                                            · simp only [Act.put, List.setIfInBounds_toArray, List.set_cons_zero, List.set_cons_succ, i64_w, i32_w]
                                              rfl
                                            refine pure_ (i := 6) (N := some 115) (v := ?_) (a' := ?_) #[true, true, true, true, true, false, true, false, false, false, false, false, false, false, false, false, false, false] rfl rfl (any_of HT_.out (by kernel_rfl)) (fun _ _ _ h => h) (Or.inl ⟨by rfl, ?_⟩) ?_ ?_
                                            rotate_left
                                            · intro w'
                                              go_simp
                                              with_reducible rfl
                                            rotate_left
                                            · simp only [Act.put, List.setIfInBounds_toArray, List.set_cons_zero, List.set_cons_succ, i64_w, i32_w]
                                              rfl
                                            refine pure_ (i := 7) (N := some 116) (v := ?_) (a' := ?_) #[true, true, true, true, true, false, true, true, false, false, false, false, false, false, false, false, false, false] rfl rfl (any_of HT_.out (by kernel_rfl)) (fun _ _ _ h => h) (Or.inl ⟨by rfl, ?_⟩) ?_ ?_
                                            rotate_left
                                            · intro w'
                                              go_simp
                                              with_reducible rfl
                                            rotate_left
                                            · simp only [Act.put, List.setIfInBounds_toArray, List.set_cons_zero, List.set_cons_succ, i64_w, i32_w]
                                              rfl
                                            refine pure_ (i := 8) (N := some 117) (v := ?_) (a' := ?_) #[true, true, true, true, true, false, true, true, true, false, false, false, false, false, false, false, false, false] rfl rfl (any_of HT_.out (by kernel_rfl)) (fun _ _ _ h => h) (Or.inl ⟨by rfl, ?_⟩) ?_ ?_
                                            rotate_left
                                            · intro w'
                                              go_simp
                                              with_reducible rfl
                                            rotate_left
                                            · simp only [Act.put, List.setIfInBounds_toArray, List.set_cons_zero, List.set_cons_succ, i64_w, i32_w]
                                              rfl
                                            refine pure_ (i := 11) (N := some 120) (v := ?_) (a' := ?_) #[true, true, true, true, true, false, true, true, true, false, false, true, false, false, false, false, false, false] rfl rfl (any_of HT_.out (by kernel_rfl)) (fun _ _ _ h => h) (Or.inl ⟨by rfl, ?_⟩) ?_ ?_
                                            rotate_left
                                            · intro w'
                                              go_simp
                                              with_reducible rfl
                                            rotate_left
                                            · simp only [Act.put, List.setIfInBounds_toArray, List.set_cons_zero, List.set_cons_succ, i64_w, i32_w]
                                              rfl
                                            refine pure_ (i := 12) (N := some 121) (v := ?_) (a' := ?_) #[true, true, true, true, true, false, true, true, true, false, false, true, true, false, false, false, false, false] rfl rfl (any_of HT_.out (by kernel_rfl)) (fun _ _ _ h => h) (Or.inl ⟨by rfl, ?_⟩) ?_ ?_
                                            rotate_left
                                            · intro w'
                                              go_simp
                                              with_reducible rfl
                                            rotate_left
                                            · simp only [Act.put, List.setIfInBounds_toArray, List.set_cons_zero, List.set_cons_succ, i64_w, i32_w]
                                              rfl
                                            refine pure_ (i := 13) (N := some 122) (v := ?_) (a' := ?_) #[true, true, true, true, true, false, true, true, true, false, false, true, true, true, false, false, false, false] rfl rfl (any_of HT_.out (by kernel_rfl)) (fun _ _ _ h => h) (Or.inl ⟨by rfl, ?_⟩) ?_ ?_
                                            rotate_left
                                            · intro w'
                                              go_simp
                                              with_reducible rfl
                                            rotate_left
                                            · simp only [Act.put, List.setIfInBounds_toArray, List.set_cons_zero, List.set_cons_succ, i64_w, i32_w]
                                              rfl
                                            refine take_ (i := 5) (N := some 114) (v := ?_) (a' := ?_) #[true, true, true, true, true, true, true, true, true, false, false, true, true, true, false, false, false, false] rfl rfl (take_ofW HT_.out HW_.out (by kernel_rfl)) (fun _ _ _ h => h) (Or.inl ⟨by rfl, ?_⟩) hHeld ?_ ?_
                                            rotate_left
                                            · rintro w' ⟨s0, s1, s2⟩
                                              go_simp
                                              with_reducible rfl
                                            rotate_left
                                            · simp only [Act.put, List.setIfInBounds_toArray, List.set_cons_zero, List.set_cons_succ, i64_w, i32_w]
                                              rfl
                                            refine take_ (i := 9) (N := some 118) (v := ?_) (a' := ?_) #[true, true, true, true, true, true, true, true, true, true, false, true, true, true, false, false, false, false] rfl rfl (take_ofW HT_.out HW_.out (by kernel_rfl)) (fun _ _ _ h => h) (Or.inl ⟨by rfl, ?_⟩) hHeld ?_ ?_
                                            rotate_left
                                            · rintro w' ⟨s0, s1, s2⟩
                                              go_simp
                                              with_reducible rfl
                                            rotate_left
                                            · simp only [Act.put, List.setIfInBounds_toArray, List.set_cons_zero, List.set_cons_succ, i64_w, i32_w]
                                              rfl
                                            refine pure_ (i := 10) (N := some 119) (v := ?_) (a' := ?_) #[true, true, true, true, true, true, true, true, true, true, true, true, true, true, false, false, false, false] rfl rfl (any_of HT_.out (by kernel_rfl)) (fun _ _ _ h => h) (Or.inl ⟨by rfl, ?_⟩) ?_ ?_
                                            rotate_left
                                            · intro w'
                                              go_simp
                                              with_reducible rfl
                                            rotate_left
                                            · simp only [Act.put, List.setIfInBounds_toArray, List.set_cons_zero, List.set_cons_succ, i64_w, i32_w]
                                              rfl
                                            refine take_ (i := 14) (N := some 123) (v := ?_) (a' := ?_) #[true, true, true, true, true, true, true, true, true, true, true, true, true, true, true, false, false, false] rfl rfl (take_ofW HT_.out HW_.out (by kernel_rfl)) (fun _ _ _ h => h) (Or.inl ⟨by rfl, ?_⟩) hHeld ?_ ?_
                                            rotate_left
                                            · rintro w' ⟨s0, s1, s2⟩
                                              go_simp
                                              with_reducible rfl
                                            rotate_left
                                            · simp only [Act.put, List.setIfInBounds_toArray, List.set_cons_zero, List.set_cons_succ, i64_w, i32_w]
                                              rfl
                                            refine pure_ (i := 15) (N := some 124) (v := ?_) (a' := ?_) #[true, true, true, true, true, true, true, true, true, true, true, true, true, true, true, true, false, false] rfl rfl (any_of HT_.out (by kernel_rfl)) (fun _ _ _ h => h) (Or.inl ⟨by rfl, ?_⟩) ?_ ?_
                                            rotate_left
                                            · intro w'
                                              go_simp
                                              with_reducible rfl
                                            rotate_left
                                            · simp only [Act.put, List.setIfInBounds_toArray, List.set_cons_zero, List.set_cons_succ, i64_w, i32_w]
                                              rfl
                                            refine pure_ (i := 16) (N := some 125) (v := ?_) (a' := ?_) #[true, true, true, true, true, true, true, true, true, true, true, true, true, true, true, true, true, false] rfl rfl (any_of HT_.out (by kernel_rfl)) (fun _ _ _ h => h) (Or.inl ⟨by rfl, ?_⟩) ?_ ?_
                                            rotate_left
                                            · intro w'
                                              go_simp
                                              with_reducible rfl
                                            rotate_left
                                            · simp only [Act.put, List.setIfInBounds_toArray, List.set_cons_zero, List.set_cons_succ, i64_w, i32_w]
                                              rfl
                                            refine pure_ (i := 17) (N := some 7) (v := ?_) (a' := ?_) #[true, true, true, true, true, true, true, true, true, true, true, true, true, true, true, true, true, true] rfl rfl (any_of HT_.out (by kernel_rfl)) (fun _ _ _ h => h) (Or.inl ⟨by rfl, ?_⟩) ?_ ?_
                                            rotate_left
                                            · intro w'
                                              go_simp
                                              with_reducible rfl
                                            rotate_left
                                            · simp only [Act.put, List.setIfInBounds_toArray, List.set_cons_zero, List.set_cons_succ, i64_w, i32_w]
                                              rfl
                                            refine done_ (done_of HT_.out (by kernel_rfl)) ?_
                                            try go_wp2
                                            go_roundg k3
                                            case measure => have := HJ4.out; have := HJ27.out; have := HK3.out; omega
                                            case rel => exact ⟨(((wrap64 ((rd t339 x17_3) + (rd t347 x17_3))) == (rd t331 x17_3))), (wrap64 (x17_3 + 1)), (by first | rfl | (simp; done) | (simp [*]; done)), (by first | rfl | (simp; done) | (simp [*]; done)), H', ⟨by have := HJ4.out; have := HJ27.out; have := HK3.out; omega⟩, ⟨by (with_reducible repeat (first | apply Kd.R_alloc | apply Kd.R_drewN | apply Kd.R_drew)); exact HO_8.out⟩, ⟨by (with_reducible repeat (first | apply Kd.R_alloc | apply Kd.R_drewN | apply Kd.R_drew)); exact HO_11.out⟩, ⟨by (with_reducible repeat (first | apply Kd.R_alloc | apply Kd.R_drewN | apply Kd.R_drew)); exact HO_13.out⟩, ⟨by repeat (first | (with_reducible first | exact HB.out | apply below_alloc | apply pw_below_drewN | apply below_drew1) | exact HB.out)⟩⟩
                                          · rw [if_neg c63] at H
                                            exact absurd H (by simp)
                                        · rw [if_neg c62] at H
                                          exact absurd H (by simp)
                                      · rw [if_neg c61] at H
                                        exact absurd H (by simp)
                                    · replace c60 := Bool.eq_false_iff.mpr c60
                                      subst c60
                                      have H1 : (chargeparklaw42_SettleParts.l0 k3 false t331 t339 t347 (wrap64 (x17_3 + 1))) = some r := by rw [if_neg (show ¬ (false = true) by decide)] at H; exact H
                                      clear H
                                      have H := H1
                                      clear H1
                                      have H' := Aside0.mk H
                                      clear H
                                      obtain ⟨Ao68, co68, eo68⟩ := Kd.R_slice HO_8.out
                                      subst eo68
                                      try go_wp2
                                      have n0_ := Aside0.mk (Kd.R_drew HO_8.out)
                                      have n1_ := Aside0.mk (Kd.R_drew HO_11.out)
                                      have n2_ := Aside0.mk (Kd.R_drew HO_13.out)
                                      have n3_ := Aside0.mk (below_drew1 HB.out)
                                      clear HO_8
                                      clear HO_11
                                      clear HO_13
                                      clear HB
                                      have HO_8 := n0_
                                      have HO_11 := n1_
                                      have HO_13 := n2_
                                      have HB := n3_
                                      clear n0_ n1_ n2_ n3_
                                      refine start_ (n := 18) (S := fun w' => True) (ds := []) #[false, false, false, false, false, false, false, false, false, false, false, false, false, false, false, false, false, false] (by kernel_rfl) rfl rfl trivial (fun hHeld => ?_); refine with_tabW chargeparklaw42_SettleParts.tab16 chargeparklaw42_SettleParts.bits16 (fun HT_ HW_ => ?_)
                                      generalize wr.drew = w69 at HO_8 HO_11 HO_13 HB hHeld ⊢
                                      refine pure_ (i := 0) (N := some 109) (v := ?_) (a' := ?_) #[true, false, false, false, false, false, false, false, false, false, false, false, false, false, false, false, false, false] rfl rfl (any_of HT_.out (by kernel_rfl)) (fun _ _ _ h => h) (Or.inl ⟨by rfl, ?_⟩) ?_ ?_
                                      rotate_left
                                      · intro w'
                                        go_simp
                                        with_reducible rfl
                                      rotate_left
                                      · simp only [Act.put, List.setIfInBounds_toArray, List.set_cons_zero, List.set_cons_succ, i64_w, i32_w]
                                        rfl
                                      refine pure_ (i := 1) (N := some 110) (v := ?_) (a' := ?_) #[true, true, false, false, false, false, false, false, false, false, false, false, false, false, false, false, false, false] rfl rfl (any_of HT_.out (by kernel_rfl)) (fun _ _ _ h => h) (Or.inl ⟨by rfl, ?_⟩) ?_ ?_
                                      rotate_left
                                      · intro w'
                                        go_simp
                                        with_reducible rfl
                                      rotate_left
                                      · simp only [Act.put, List.setIfInBounds_toArray, List.set_cons_zero, List.set_cons_succ, i64_w, i32_w]
                                        rfl
                                      refine pure_ (i := 2) (N := some 111) (v := undef) (a' := ?_) #[true, true, true, false, false, false, false, false, false, false, false, false, false, false, false, false, false, false] rfl rfl (any_of HT_.out (by kernel_rfl)) (fun _ _ _ h => h) (Or.inr ⟨by rfl, rfl⟩) ?_ ?_
                                      rotate_left
                                      · simp only [Act.put, List.setIfInBounds_toArray, List.set_cons_zero, List.set_cons_succ, i64_w, i32_w]
                                        rfl
                                      refine pure_ (i := 3) (N := some 112) (v := undef) (a' := ?_) #[true, true, true, true, false, false, false, false, false, false, false, false, false, false, false, false, false, false] rfl rfl (any_of HT_.out (by kernel_rfl)) (fun _ _ _ h => h) (Or.inr ⟨by rfl, rfl⟩) ?_ ?_
                                      rotate_left
                                      · simp only [Act.put, List.setIfInBounds_toArray, List.set_cons_zero, List.set_cons_succ, i64_w, i32_w]
                                        rfl
                                      refine pure_ (i := 4) (N := some 113) (v := undef) (a' := ?_) #[true, true, true, true, true, false, false, false, false, false, false, false, false, false, false, false, false, false] rfl rfl (any_of HT_.out (by kernel_rfl)) (fun _ _ _ h => h) (Or.inr ⟨by rfl, rfl⟩) ?_ ?_
                                      rotate_left
                                      · simp only [Act.put, List.setIfInBounds_toArray, List.set_cons_zero, List.set_cons_succ, i64_w, i32_w]
                                        rfl
                                      refine pure_ (i := 5) (N := some 114) (v := undef) (a' := ?_) #[true, true, true, true, true, true, false, false, false, false, false, false, false, false, false, false, false, false] rfl rfl (any_of HT_.out (by kernel_rfl)) (fun _ _ _ h => h) (Or.inr ⟨by rfl, rfl⟩) ?_ ?_
                                      rotate_left
                                      · simp only [Act.put, List.setIfInBounds_toArray, List.set_cons_zero, List.set_cons_succ, i64_w, i32_w]
                                        rfl
                                      refine pure_ (i := 6) (N := some 115) (v := undef) (a' := ?_) #[true, true, true, true, true, true, true, false, false, false, false, false, false, false, false, false, false, false] rfl rfl (any_of HT_.out (by kernel_rfl)) (fun _ _ _ h => h) (Or.inr ⟨by rfl, rfl⟩) ?_ ?_
                                      rotate_left
                                      · simp only [Act.put, List.setIfInBounds_toArray, List.set_cons_zero, List.set_cons_succ, i64_w, i32_w]
                                        rfl
                                      refine pure_ (i := 7) (N := some 116) (v := undef) (a' := ?_) #[true, true, true, true, true, true, true, true, false, false, false, false, false, false, false, false, false, false] rfl rfl (any_of HT_.out (by kernel_rfl)) (fun _ _ _ h => h) (Or.inr ⟨by rfl, rfl⟩) ?_ ?_
                                      rotate_left
                                      · simp only [Act.put, List.setIfInBounds_toArray, List.set_cons_zero, List.set_cons_succ, i64_w, i32_w]
                                        rfl
                                      refine pure_ (i := 8) (N := some 117) (v := undef) (a' := ?_) #[true, true, true, true, true, true, true, true, true, false, false, false, false, false, false, false, false, false] rfl rfl (any_of HT_.out (by kernel_rfl)) (fun _ _ _ h => h) (Or.inr ⟨by rfl, rfl⟩) ?_ ?_
                                      rotate_left
                                      · simp only [Act.put, List.setIfInBounds_toArray, List.set_cons_zero, List.set_cons_succ, i64_w, i32_w]
                                        rfl
                                      refine pure_ (i := 9) (N := some 118) (v := undef) (a' := ?_) #[true, true, true, true, true, true, true, true, true, true, false, false, false, false, false, false, false, false] rfl rfl (any_of HT_.out (by kernel_rfl)) (fun _ _ _ h => h) (Or.inr ⟨by rfl, rfl⟩) ?_ ?_
                                      rotate_left
                                      · simp only [Act.put, List.setIfInBounds_toArray, List.set_cons_zero, List.set_cons_succ, i64_w, i32_w]
                                        rfl
                                      refine pure_ (i := 10) (N := some 119) (v := undef) (a' := ?_) #[true, true, true, true, true, true, true, true, true, true, true, false, false, false, false, false, false, false] rfl rfl (any_of HT_.out (by kernel_rfl)) (fun _ _ _ h => h) (Or.inr ⟨by rfl, rfl⟩) ?_ ?_
                                      rotate_left
                                      · simp only [Act.put, List.setIfInBounds_toArray, List.set_cons_zero, List.set_cons_succ, i64_w, i32_w]
                                        rfl
                                      refine pure_ (i := 11) (N := some 120) (v := undef) (a' := ?_) #[true, true, true, true, true, true, true, true, true, true, true, true, false, false, false, false, false, false] rfl rfl (any_of HT_.out (by kernel_rfl)) (fun _ _ _ h => h) (Or.inr ⟨by rfl, rfl⟩) ?_ ?_
                                      rotate_left
                                      · simp only [Act.put, List.setIfInBounds_toArray, List.set_cons_zero, List.set_cons_succ, i64_w, i32_w]
                                        rfl
                                      refine pure_ (i := 12) (N := some 121) (v := undef) (a' := ?_) #[true, true, true, true, true, true, true, true, true, true, true, true, true, false, false, false, false, false] rfl rfl (any_of HT_.out (by kernel_rfl)) (fun _ _ _ h => h) (Or.inr ⟨by rfl, rfl⟩) ?_ ?_
                                      rotate_left
                                      · simp only [Act.put, List.setIfInBounds_toArray, List.set_cons_zero, List.set_cons_succ, i64_w, i32_w]
                                        rfl
                                      refine pure_ (i := 13) (N := some 122) (v := undef) (a' := ?_) #[true, true, true, true, true, true, true, true, true, true, true, true, true, true, false, false, false, false] rfl rfl (any_of HT_.out (by kernel_rfl)) (fun _ _ _ h => h) (Or.inr ⟨by rfl, rfl⟩) ?_ ?_
                                      rotate_left
                                      · simp only [Act.put, List.setIfInBounds_toArray, List.set_cons_zero, List.set_cons_succ, i64_w, i32_w]
                                        rfl
                                      refine pure_ (i := 14) (N := some 123) (v := undef) (a' := ?_) #[true, true, true, true, true, true, true, true, true, true, true, true, true, true, true, false, false, false] rfl rfl (any_of HT_.out (by kernel_rfl)) (fun _ _ _ h => h) (Or.inr ⟨by rfl, rfl⟩) ?_ ?_
                                      rotate_left
                                      · simp only [Act.put, List.setIfInBounds_toArray, List.set_cons_zero, List.set_cons_succ, i64_w, i32_w]
                                        rfl
                                      refine pure_ (i := 15) (N := some 124) (v := undef) (a' := ?_) #[true, true, true, true, true, true, true, true, true, true, true, true, true, true, true, true, false, false] rfl rfl (any_of HT_.out (by kernel_rfl)) (fun _ _ _ h => h) (Or.inr ⟨by rfl, rfl⟩) ?_ ?_
                                      rotate_left
                                      · simp only [Act.put, List.setIfInBounds_toArray, List.set_cons_zero, List.set_cons_succ, i64_w, i32_w]
                                        rfl
                                      refine pure_ (i := 16) (N := some 125) (v := ?_) (a' := ?_) #[true, true, true, true, true, true, true, true, true, true, true, true, true, true, true, true, true, false] rfl rfl (any_of HT_.out (by kernel_rfl)) (fun _ _ _ h => h) (Or.inl ⟨by rfl, ?_⟩) ?_ ?_
                                      rotate_left
                                      · intro w'
                                        go_simp
                                        with_reducible rfl
                                      rotate_left
                                      · simp only [Act.put, List.setIfInBounds_toArray, List.set_cons_zero, List.set_cons_succ, i64_w, i32_w]
                                        rfl
                                      refine pure_ (i := 17) (N := some 7) (v := ?_) (a' := ?_) #[true, true, true, true, true, true, true, true, true, true, true, true, true, true, true, true, true, true] rfl rfl (any_of HT_.out (by kernel_rfl)) (fun _ _ _ h => h) (Or.inl ⟨by rfl, ?_⟩) ?_ ?_
                                      rotate_left
                                      · intro w'
                                        go_simp
                                        with_reducible rfl
                                      rotate_left
                                      · simp only [Act.put, List.setIfInBounds_toArray, List.set_cons_zero, List.set_cons_succ, i64_w, i32_w]
                                        rfl
                                      refine done_ (done_of HT_.out (by kernel_rfl)) ?_
                                      try go_wp2
                                      go_roundg k3
                                      case measure => have := HJ4.out; have := HJ27.out; have := HK3.out; omega
                                      case rel => exact ⟨(false), (wrap64 (x17_3 + 1)), (by first | rfl | (simp; done) | (simp [*]; done)), (by first | rfl | (simp; done) | (simp [*]; done)), H', ⟨by have := HJ4.out; have := HJ27.out; have := HK3.out; omega⟩, ⟨by (with_reducible repeat (first | apply Kd.R_alloc | apply Kd.R_drewN | apply Kd.R_drew)); exact HO_8.out⟩, ⟨by (with_reducible repeat (first | apply Kd.R_alloc | apply Kd.R_drewN | apply Kd.R_drew)); exact HO_11.out⟩, ⟨by (with_reducible repeat (first | apply Kd.R_alloc | apply Kd.R_drewN | apply Kd.R_drew)); exact HO_13.out⟩, ⟨by repeat (first | (with_reducible first | exact HB.out | apply below_alloc | apply pw_below_drewN | apply below_drew1) | exact HB.out)⟩⟩
                                  · rw [if_neg c59] at H
                                    have c59b0 : decide (x17_3 < (t331.length : Int)) = false := decide_eq_false c59
                                    clear c59
                                    obtain rfl := Option.some.inj H
                                    obtain ⟨Ao70, co70, eo70⟩ := Kd.R_slice HO_8.out
                                    subst eo70
                                    go_wp2
                                    go_ret
                                    exact ⟨by first | rfl | (simp [errW_none, errW_some] <;> rfl) | (simp only [← hji12]; first | rfl | (simp [errW_none, errW_some] <;> rfl)) | (simp [*, errW_none, errW_some] <;> rfl), by repeat (first | (with_reducible first | exact HB.out | apply below_alloc | apply pw_below_drewN | apply below_drew1) | exact HB.out)⟩
                      · rw [if_neg c26] at H
                        exact absurd H (by simp)
                    · rw [if_neg c23] at H
                      exact absurd H (by simp)
                  · rw [if_neg c20] at H
                    exact absurd H (by simp)
                · rw [if_neg c19] at H
                  exact absurd H (by simp)
              · rw [if_neg c14] at H
                exact absurd H (by simp)
            · rw [if_neg c13] at H
              exact absurd H (by simp)
        · rw [if_neg c10] at H
          have c10b0 : (t332 == 0) = false := beq_eq_false_iff_ne.mpr c10
          have c10b1 : (t332 != 0) = true := bne_iff_ne.mpr c10
          obtain rfl := Option.some.inj H
          go_wp2_with (first | ((with_reducible refine gate_callee (f := 10) rfl ?_); refine goesL_ (some 30) rfl rfl Try.func10 (by kernel_rfl) rfl #[.slice A0 l0.length c0, .int .i64 a1] rfl (by (try simp only [List.map_toArray, List.map_cons, List.map_nil]); first | done | rfl | (simp only [List.length_drop, List.length_take]; rfl)) ?_; (with_reducible refine (settle_Net.calls _ _ l0 a1 t331 t332 _ ?side1 ?side2 A9.out).mono ?_); (case side1 => repeat (first | exact (Kd.C_below HR0.out HB.out) | (with_reducible refine Kd.C_alloc ?_ _) | (with_reducible refine Kd.C_drewN ?_ _) | (with_reducible refine Kd.C_drew ?_))); (case side2 => exact HC0.out); rintro e w71 ⟨v333, rfl, ho0, hb⟩; refine ⟨_, rfl, ?_⟩; have n0_ := Aside0.mk (Kd.R_lower ho0 (below_size (by repeat (first | (with_reducible first | exact HB.out | apply below_alloc | apply pw_below_drewN | apply below_drew1) | exact HB.out)))); have n1_ := Aside0.mk (below_step (by repeat (first | (with_reducible first | exact HB.out | apply below_alloc | apply pw_below_drewN | apply below_drew1) | exact HB.out)) hb); clear HB; have HO334 := n0_; have HB := n1_; clear n0_ n1_; (try clear hb); (try clear hb2); (try clear hk); (try clear hi); (try clear ho0)))
          go_ret
          exact ⟨by first | rfl | (simp [errW_none, errW_some] <;> rfl) | (simp [*, errW_none, errW_some] <;> rfl), by repeat (first | (with_reducible first | exact HB.out | apply below_alloc | apply pw_below_drewN | apply below_drew1) | exact HB.out)⟩

/-- THE ONE PURE STATEMENT of chargeparklaw42_SettleParts: yours. -/
def chargeparklaw42_SettleParts.Pure : Prop := ∀ (l0 : List (S40)) (a1 : Int) (a2 : Int), l0.length ≤ maxLen → (∀ y ∈ l0, ok40 y) → (Lit.int .i64 a1).wf = true → (Lit.int .i64 a2).wf = true → ∃ k, chargeparklaw42_SettleParts.f k l0 a1 a2 = some true
theorem chargeparklaw42_SettleParts.walk (P : chargeparklaw42_SettleParts.Pure) (A0 : Option Addr) (c0 : Nat) (l0 : List (S40)) (a1 : Int) (a2 : Int) (w : World) (hC0 : Kd.C k40 w A0 l0.length l0) (hc0 : l0.length ≤ c0) (hm0 : l0.length ≤ maxLen) (ho0 : ∀ y ∈ l0, ok40 y) (w1 : (Lit.int .i64 a1).wf = true) (w2 : (Lit.int .i64 a2).wf = true) :
    Calls Try.prog 5 #[.slice A0 l0.length c0, .int .i64 a1, .int .i64 a2] w fun e w' => e = .returned (.bool true) ∧ Below w.heap.size w w' := by
  obtain ⟨k, h⟩ := P l0 a1 a2 hm0 ho0 w1 w2
  refine (chargeparklaw42_SettleParts.calls k _ _ l0 a1 a2 true w hC0 hc0 h).mono ?_
  rintro e w' ⟨rfl, hd⟩
  exact ⟨rfl, hd⟩


end Go.Proofs.Ytanaaphabeonoaa.PAll
