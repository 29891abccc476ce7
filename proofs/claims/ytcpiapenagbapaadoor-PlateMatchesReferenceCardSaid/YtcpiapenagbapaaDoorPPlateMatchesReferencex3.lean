-- Written by a program of this session (xprint.py, over the kit's print.py), with contracts proved by hand.
import Derived.Test.YtcpiapenagbapaaDoorPPlateMatchesReferencex0
import Derived.Test.YtcpiapenagbapaaDoorPPlateMatchesReferencex1
import Derived.Test.YtcpiapenagbapaaDoorPPlateMatchesReferencex2
namespace Go.Proofs.YtcpiapenagbapaaDoor.PPlateMatchesReference
open Go.RowKit Go.Proofs.YtcpiapenagbapaaDoorW.PrintWords Go.Proofs.YtcpiapenagbapaaDoorW.PrintLast Go.Proofs.YtcpiapenagbapaaDoorW.PrintMore
attribute [local go_sem] max2_int min2_int max_two min_two max_three min_three max_four min_four   -- for this text's walks alone
set_option linter.unusedVariables false
set_option linter.unusedSimpArgs false

/-! ### chargeparklaw36_PlateMatchesReference: function 3 -/
def chargeparklaw36_PlateMatchesReference.j0 : Nat → ByteArray → ByteArray → Bool → Bool → Option (Bool)
  | 0, _, _, _, _ => none
  | k + 1, x0, x1, x5, x18 => if x18 = true then (some x5) else ((plate_Distance.f x0 x1).bind fun bt149 => ((chargeparkref36_Distance.f k x0 x1).bind fun bt151 => (if x5 = true then (if bt149.1 = bt151.1 then (if bt149.2 = bt151.2 then ((plate_Valid.f x0).bind fun t153 => ((chargeparkref36_Valid.f k x0).bind fun t154 => (some (t153 == t154)))) else (some false)) else (some false)) else (some false))))
def chargeparklaw36_PlateMatchesReference.f (k : Nat) (a0 : ByteArray) (a1 : ByteArray) : Option (Bool) := (chargeparklaw36_head.f k).bind fun t148 => (if (a0.size : Int) > 30 then (chargeparklaw36_PlateMatchesReference.j0 k a0 a1 t148 true) else (chargeparklaw36_PlateMatchesReference.j0 k a0 a1 t148 (decide ((a1.size : Int) > 30))))
theorem chargeparklaw36_PlateMatchesReference.mono_l : ∀ k, (∀ y0 y1 y2 y3, LeO (chargeparklaw36_PlateMatchesReference.j0 k y0 y1 y2 y3) (chargeparklaw36_PlateMatchesReference.j0 (k + 1) y0 y1 y2 y3))
  | 0 => fun _ _ _ _ r h => by simp [chargeparklaw36_PlateMatchesReference.j0] at h
  | k + 1 => by
    have ih0 := chargeparklaw36_PlateMatchesReference.mono_l k
    · intro y0 y1 y2 y3
      unfold chargeparklaw36_PlateMatchesReference.j0
      repeat' first
      | (with_reducible exact ih0 _ _ _ _)
      | (with_reducible exact chargeparklaw36_head.mono _)
      | (with_reducible exact chargeparkref36_Distance.mono _ _ _)
      | (with_reducible exact chargeparkref36_Valid.mono _ _)
      | (with_reducible exact LeO.refl _)
      | (with_reducible exact LeO.none _)
      | (with_reducible refine LeO.ite ?_ ?_)
      | (with_reducible refine LeO.bind ?_ (fun _ => ?_))
      | exact ih0 _ _ _ _
      | exact chargeparklaw36_head.mono _
      | exact chargeparkref36_Distance.mono _ _ _
      | exact chargeparkref36_Valid.mono _ _
      | exact LeO.none _
      | refine LeO.ite ?_ ?_
      | refine LeO.bind ?_ (fun _ => ?_)
theorem chargeparklaw36_PlateMatchesReference.mono : ∀ a0 a1 k, LeO (chargeparklaw36_PlateMatchesReference.f k a0 a1) (chargeparklaw36_PlateMatchesReference.f (k + 1) a0 a1) := by
  intro a0 a1 k
  have ih0 := chargeparklaw36_PlateMatchesReference.mono_l k
  unfold chargeparklaw36_PlateMatchesReference.f
  repeat' first
      | (with_reducible exact ih0 _ _ _ _)
      | (with_reducible exact chargeparklaw36_head.mono _)
      | (with_reducible exact chargeparkref36_Distance.mono _ _ _)
      | (with_reducible exact chargeparkref36_Valid.mono _ _)
      | (with_reducible exact LeO.refl _)
      | (with_reducible exact LeO.none _)
      | (with_reducible refine LeO.ite ?_ ?_)
      | (with_reducible refine LeO.bind ?_ (fun _ => ?_))
      | exact ih0 _ _ _ _
      | exact chargeparklaw36_head.mono _
      | exact chargeparkref36_Distance.mono _ _ _
      | exact chargeparkref36_Valid.mono _ _
      | exact LeO.none _
      | refine LeO.ite ?_ ?_
      | refine LeO.bind ?_ (fun _ => ?_)
set_option maxHeartbeats 8000000 in
set_option maxRecDepth 100000 in
theorem chargeparklaw36_PlateMatchesReference.calls (k : Nat) (a0 : ByteArray) (a1 : ByteArray) (r : Bool) (w : World) (hLaid : Go.Proofs.YtcpiapenagbapaaDoor.PlateWalk.Laid w) (h : chargeparklaw36_PlateMatchesReference.f k a0 a1 = some r) :
    Calls Tryd.prog 3 #[.string a0, .string a1] w fun e w' => e = .returned (.bool r) ∧ Below w.heap.size w w' := by
  have HB := Aside0.mk (Below.refl w.heap.size w)
  have H : ((chargeparklaw36_head.f k).bind fun t148 => (if (a0.size : Int) > 30 then (chargeparklaw36_PlateMatchesReference.j0 k a0 a1 t148 true) else (chargeparklaw36_PlateMatchesReference.j0 k a0 a1 t148 (decide ((a1.size : Int) > 30))))) = some r := h
  clear h
  replace H := Option.bind_eq_some_iff.mp H
  obtain ⟨t148, A30, H⟩ := H
  replace H : (if (a0.size : Int) > 30 then (chargeparklaw36_PlateMatchesReference.j0 k a0 a1 t148 true) else (chargeparklaw36_PlateMatchesReference.j0 k a0 a1 t148 (decide ((a1.size : Int) > 30)))) = some r := H
  have A3 := Aside0.mk A30
  clear A30
  have HC4 := Aside0.mk H
  clear H
  go_enter Tryd.func3, Tryd.ntmps3
  go_upto_region 2 with (first | ((with_reducible refine gate_callee (f := 9) rfl ?_); refine goesL_ (some 10) rfl rfl Tryd.func9 (by kernel_rfl) rfl #[] rfl (by (try simp only [List.map_toArray, List.map_cons, List.map_nil]); first | done | rfl | (simp only [List.length_drop, List.length_take]; rfl)) ?_; (with_reducible refine (chargeparklaw36_head.calls k  t148 _ ?side1 A3.out).mono ?_); (case side1 => exact Go.Proofs.YtcpiapenagbapaaDoor.PlateWalk.Laid.below hLaid (by repeat (first | (with_reducible first | exact HB.out | apply below_alloc | apply pw_below_drewN | apply below_drew1) | exact HB.out))); rintro e w5 ⟨rfl, hb⟩; refine ⟨_, rfl, ?_⟩; have n0_ := Aside0.mk (below_step (by repeat (first | (with_reducible first | exact HB.out | apply below_alloc | apply pw_below_drewN | apply below_drew1) | exact HB.out)) hb); clear HB; have HB := n0_; clear n0_; (try clear hb); (try clear hb2); (try clear hk); (try clear hi)))
  (try simp only [Act.put, List.setIfInBounds_toArray, List.set_cons_zero, List.set_cons_succ])
  go_cut [18] (fun v18 wc => ∃ (kq : Nat) (x18_3 : Bool), v18 = .bool x18_3 ∧ Aside0 (chargeparklaw36_PlateMatchesReference.j0 kq a0 a1 t148 x18_3 = some r) ∧ Aside0 (kq ≤ k) ∧ Aside0 (Below w.heap.size w wc))
  case first =>
    have H := HC4.out
    clear HC4
    by_cases c6 : (a0.size : Int) > 30
    · rw [if_pos c6] at H
      have c6b0 : decide (30 < (a0.size : Int)) = true := decide_eq_true c6
      have c6b1 : decide (30 < a0.size) = true := decide_eq_true (by omega)
      clear c6
      (first | rw [c6b0] | (simp only [i64_w, i32_w]; rw [c6b0]) | skip)
      have H' := Aside0.mk H
      clear H
      go_wp2
      go_meet
      case rel => exact ⟨_, (true), (by first | rfl | (simp; done) | (simp [*]; done)), H', ⟨by first | omega | exact Nat.le_refl _⟩, ⟨by repeat (first | (with_reducible first | exact HB.out | apply below_alloc | apply pw_below_drewN | apply below_drew1) | exact HB.out)⟩⟩
    · rw [if_neg c6] at H
      have c6b0 : decide (30 < (a0.size : Int)) = false := decide_eq_false c6
      have c6b1 : decide (30 < a0.size) = false := decide_eq_false (by omega)
      clear c6
      (first | rw [c6b0] | (simp only [i64_w, i32_w]; rw [c6b0]) | skip)
      have H' := Aside0.mk H
      clear H
      go_wp2
      go_meet
      case rel => exact ⟨_, (decide ((a1.size : Int) > 30)), (by first | rfl | (simp; done) | (simp [*]; done)), H', ⟨by first | omega | exact Nat.le_refl _⟩, ⟨by repeat (first | (with_reducible first | exact HB.out | apply below_alloc | apply pw_below_drewN | apply below_drew1) | exact HB.out)⟩⟩
  case rest =>
    clear HC4
    try clear p2
    try clear c3
    try clear c6
    try clear c6b0
    try clear c6b1
    obtain ⟨kq, x18_3, rfl, HA, HJ3, HB⟩ := hcut
    cases kq with
    | zero => exact absurd HA.out (by simp [chargeparklaw36_PlateMatchesReference.j0])
    | succ kj3 =>
      have H := HA.out
      clear HA
      simp only [chargeparklaw36_PlateMatchesReference.j0] at H
      by_cases c7 : x18_3 = true
      · subst c7
        have H1 : (some t148) = some r := by rw [if_pos rfl] at H; exact H
        clear H
        have H := H1
        clear H1
        obtain rfl := Option.some.inj H
        go_wp2
        go_ret
        exact ⟨by first | rfl | (simp [errW_none, errW_some] <;> rfl) | (simp [*, errW_none, errW_some] <;> rfl), by repeat (first | (with_reducible first | exact HB.out | apply below_alloc | apply pw_below_drewN | apply below_drew1) | exact HB.out)⟩
      · replace c7 := Bool.eq_false_iff.mpr c7
        subst c7
        have H1 : ((plate_Distance.f a0 a1).bind fun bt149 => ((chargeparkref36_Distance.f kj3 a0 a1).bind fun bt151 => (if t148 = true then (if bt149.1 = bt151.1 then (if bt149.2 = bt151.2 then ((plate_Valid.f a0).bind fun t153 => ((chargeparkref36_Valid.f kj3 a0).bind fun t154 => (some (t153 == t154)))) else (some false)) else (some false)) else (some false)))) = some r := by rw [if_neg (show ¬ (false = true) by decide)] at H; exact H
        clear H
        have H := H1
        clear H1
        replace H := Option.bind_eq_some_iff.mp H
        obtain ⟨⟨t149, t150⟩, A80, H⟩ := H
        replace H : ((chargeparkref36_Distance.f kj3 a0 a1).bind fun bt151 => (if t148 = true then (if t149 = bt151.1 then (if t150 = bt151.2 then ((plate_Valid.f a0).bind fun t153 => ((chargeparkref36_Valid.f kj3 a0).bind fun t154 => (some (t153 == t154)))) else (some false)) else (some false)) else (some false))) = some r := H
        have A8 := Aside0.mk A80
        clear A80
        replace H := Option.bind_eq_some_iff.mp H
        obtain ⟨⟨t151, t152⟩, A90, H⟩ := H
        replace H : (if t148 = true then (if t149 = t151 then (if t150 = t152 then ((plate_Valid.f a0).bind fun t153 => ((chargeparkref36_Valid.f kj3 a0).bind fun t154 => (some (t153 == t154)))) else (some false)) else (some false)) else (some false)) = some r := H
        have A9 := Aside0.mk A90
        clear A90
        by_cases c10 : t148 = true
        · subst c10
          have H1 : (if t149 = t151 then (if t150 = t152 then ((plate_Valid.f a0).bind fun t153 => ((chargeparkref36_Valid.f kj3 a0).bind fun t154 => (some (t153 == t154)))) else (some false)) else (some false)) = some r := by rw [if_pos rfl] at H; exact H
          clear H
          have H := H1
          clear H1
          by_cases c11 : t149 = t151
          · rw [if_pos c11] at H
            have c11b0 : (t149 == t151) = true := beq_iff_eq.mpr c11
            have c11b1 : (t149 != t151) = false := bne_eq_false_iff_eq.mpr c11
            clear c11
            by_cases c12 : t150 = t152
            · rw [if_pos c12] at H
              have c12b0 : (t150 == t152) = true := beq_iff_eq.mpr c12
              have c12b1 : (t150 != t152) = false := bne_eq_false_iff_eq.mpr c12
              clear c12
              replace H := Option.bind_eq_some_iff.mp H
              obtain ⟨t153, A130, H⟩ := H
              replace H : ((chargeparkref36_Valid.f kj3 a0).bind fun t154 => (some (t153 == t154))) = some r := H
              have A13 := Aside0.mk A130
              clear A130
              replace H := Option.bind_eq_some_iff.mp H
              obtain ⟨t154, A140, H⟩ := H
              replace H : (some (t153 == t154)) = some r := H
              have A14 := Aside0.mk A140
              clear A140
              obtain rfl := Option.some.inj H
              go_wp2_with (first | ((with_reducible refine gate_callee (f := 10) rfl ?_); refine goesL_ (some 23) rfl rfl Tryd.func10 (by kernel_rfl) rfl #[.string a0, .string a1] rfl (by (try simp only [List.map_toArray, List.map_cons, List.map_nil]); first | done | rfl | (simp only [List.length_drop, List.length_take]; rfl)) ?_; (with_reducible refine (plate_Distance.calls a0 a1 t149 t150 _ ?side1 A8.out).mono ?_); (case side1 => exact Go.Proofs.YtcpiapenagbapaaDoor.PlateWalk.Laid.below hLaid (by repeat (first | (with_reducible first | exact HB.out | apply below_alloc | apply pw_below_drewN | apply below_drew1) | exact HB.out))); rintro e w15 ⟨rfl, hb⟩; refine ⟨_, rfl, ?_⟩; have n0_ := Aside0.mk (below_step (by repeat (first | (with_reducible first | exact HB.out | apply below_alloc | apply pw_below_drewN | apply below_drew1) | exact HB.out)) hb); clear HB; have HB := n0_; clear n0_; (try clear hb); (try clear hb2); (try clear hk); (try clear hi)) | ((with_reducible refine gate_callee (f := 11) rfl ?_); refine goesL_ (some 29) rfl rfl Tryd.func11 (by kernel_rfl) rfl #[.string a0, .string a1] rfl (by (try simp only [List.map_toArray, List.map_cons, List.map_nil]); first | done | rfl | (simp only [List.length_drop, List.length_take]; rfl)) ?_; (with_reducible refine (chargeparkref36_Distance.calls kj3 a0 a1 t151 t152 _ A9.out).mono ?_); rintro e w16 ⟨rfl, hb⟩; refine ⟨_, rfl, ?_⟩; have n0_ := Aside0.mk (below_step (by repeat (first | (with_reducible first | exact HB.out | apply below_alloc | apply pw_below_drewN | apply below_drew1) | exact HB.out)) hb); clear HB; have HB := n0_; clear n0_; (try clear hb); (try clear hb2); (try clear hk); (try clear hi)) | (go_at_call 12; (with_reducible refine (plate_Valid.calls a0 t153 _ A13.out).mono ?_); rintro e w17 ⟨rfl, hb⟩; have n0_ := Aside0.mk (below_step (by repeat (first | (with_reducible first | exact HB.out | apply below_alloc | apply pw_below_drewN | apply below_drew1) | exact HB.out)) hb); clear HB; have HB := n0_; clear n0_; (try clear hb); (try clear hb2); (try clear hk); (try clear hi)) | (go_at_call 13; (with_reducible refine (chargeparkref36_Valid.calls kj3 a0 t154 _ A14.out).mono ?_); rintro e w' ⟨rfl, ⟨nd, rfl⟩⟩))
              go_ret
              exact ⟨by first | rfl | (simp [errW_none, errW_some] <;> rfl) | (simp [*, errW_none, errW_some] <;> rfl), by repeat (first | (with_reducible first | exact HB.out | apply below_alloc | apply pw_below_drewN | apply below_drew1) | exact HB.out)⟩
            · rw [if_neg c12] at H
              have c12b0 : (t150 == t152) = false := beq_eq_false_iff_ne.mpr c12
              have c12b1 : (t150 != t152) = true := bne_iff_ne.mpr c12
              obtain rfl := Option.some.inj H
              go_wp2_with (first | ((with_reducible refine gate_callee (f := 10) rfl ?_); refine goesL_ (some 23) rfl rfl Tryd.func10 (by kernel_rfl) rfl #[.string a0, .string a1] rfl (by (try simp only [List.map_toArray, List.map_cons, List.map_nil]); first | done | rfl | (simp only [List.length_drop, List.length_take]; rfl)) ?_; (with_reducible refine (plate_Distance.calls a0 a1 t149 t150 _ ?side1 A8.out).mono ?_); (case side1 => exact Go.Proofs.YtcpiapenagbapaaDoor.PlateWalk.Laid.below hLaid (by repeat (first | (with_reducible first | exact HB.out | apply below_alloc | apply pw_below_drewN | apply below_drew1) | exact HB.out))); rintro e w18 ⟨rfl, hb⟩; refine ⟨_, rfl, ?_⟩; have n0_ := Aside0.mk (below_step (by repeat (first | (with_reducible first | exact HB.out | apply below_alloc | apply pw_below_drewN | apply below_drew1) | exact HB.out)) hb); clear HB; have HB := n0_; clear n0_; (try clear hb); (try clear hb2); (try clear hk); (try clear hi)) | ((with_reducible refine gate_callee (f := 11) rfl ?_); refine goesL_ (some 29) rfl rfl Tryd.func11 (by kernel_rfl) rfl #[.string a0, .string a1] rfl (by (try simp only [List.map_toArray, List.map_cons, List.map_nil]); first | done | rfl | (simp only [List.length_drop, List.length_take]; rfl)) ?_; (with_reducible refine (chargeparkref36_Distance.calls kj3 a0 a1 t151 t152 _ A9.out).mono ?_); rintro e w19 ⟨rfl, hb⟩; refine ⟨_, rfl, ?_⟩; have n0_ := Aside0.mk (below_step (by repeat (first | (with_reducible first | exact HB.out | apply below_alloc | apply pw_below_drewN | apply below_drew1) | exact HB.out)) hb); clear HB; have HB := n0_; clear n0_; (try clear hb); (try clear hb2); (try clear hk); (try clear hi)))
              go_ret
              exact ⟨by first | rfl | (simp [errW_none, errW_some] <;> rfl) | (simp [*, errW_none, errW_some] <;> rfl), by repeat (first | (with_reducible first | exact HB.out | apply below_alloc | apply pw_below_drewN | apply below_drew1) | exact HB.out)⟩
          · rw [if_neg c11] at H
            have c11b0 : (t149 == t151) = false := beq_eq_false_iff_ne.mpr c11
            have c11b1 : (t149 != t151) = true := bne_iff_ne.mpr c11
            obtain rfl := Option.some.inj H
            go_wp2_with (first | ((with_reducible refine gate_callee (f := 10) rfl ?_); refine goesL_ (some 23) rfl rfl Tryd.func10 (by kernel_rfl) rfl #[.string a0, .string a1] rfl (by (try simp only [List.map_toArray, List.map_cons, List.map_nil]); first | done | rfl | (simp only [List.length_drop, List.length_take]; rfl)) ?_; (with_reducible refine (plate_Distance.calls a0 a1 t149 t150 _ ?side1 A8.out).mono ?_); (case side1 => exact Go.Proofs.YtcpiapenagbapaaDoor.PlateWalk.Laid.below hLaid (by repeat (first | (with_reducible first | exact HB.out | apply below_alloc | apply pw_below_drewN | apply below_drew1) | exact HB.out))); rintro e w20 ⟨rfl, hb⟩; refine ⟨_, rfl, ?_⟩; have n0_ := Aside0.mk (below_step (by repeat (first | (with_reducible first | exact HB.out | apply below_alloc | apply pw_below_drewN | apply below_drew1) | exact HB.out)) hb); clear HB; have HB := n0_; clear n0_; (try clear hb); (try clear hb2); (try clear hk); (try clear hi)) | ((with_reducible refine gate_callee (f := 11) rfl ?_); refine goesL_ (some 29) rfl rfl Tryd.func11 (by kernel_rfl) rfl #[.string a0, .string a1] rfl (by (try simp only [List.map_toArray, List.map_cons, List.map_nil]); first | done | rfl | (simp only [List.length_drop, List.length_take]; rfl)) ?_; (with_reducible refine (chargeparkref36_Distance.calls kj3 a0 a1 t151 t152 _ A9.out).mono ?_); rintro e w21 ⟨rfl, hb⟩; refine ⟨_, rfl, ?_⟩; have n0_ := Aside0.mk (below_step (by repeat (first | (with_reducible first | exact HB.out | apply below_alloc | apply pw_below_drewN | apply below_drew1) | exact HB.out)) hb); clear HB; have HB := n0_; clear n0_; (try clear hb); (try clear hb2); (try clear hk); (try clear hi)))
            go_ret
            exact ⟨by first | rfl | (simp [errW_none, errW_some] <;> rfl) | (simp [*, errW_none, errW_some] <;> rfl), by repeat (first | (with_reducible first | exact HB.out | apply below_alloc | apply pw_below_drewN | apply below_drew1) | exact HB.out)⟩
        · replace c10 := Bool.eq_false_iff.mpr c10
          subst c10
          have H1 : (some false) = some r := by rw [if_neg (show ¬ (false = true) by decide)] at H; exact H
          clear H
          have H := H1
          clear H1
          obtain rfl := Option.some.inj H
          go_wp2_with (first | ((with_reducible refine gate_callee (f := 10) rfl ?_); refine goesL_ (some 23) rfl rfl Tryd.func10 (by kernel_rfl) rfl #[.string a0, .string a1] rfl (by (try simp only [List.map_toArray, List.map_cons, List.map_nil]); first | done | rfl | (simp only [List.length_drop, List.length_take]; rfl)) ?_; (with_reducible refine (plate_Distance.calls a0 a1 t149 t150 _ ?side1 A8.out).mono ?_); (case side1 => exact Go.Proofs.YtcpiapenagbapaaDoor.PlateWalk.Laid.below hLaid (by repeat (first | (with_reducible first | exact HB.out | apply below_alloc | apply pw_below_drewN | apply below_drew1) | exact HB.out))); rintro e w22 ⟨rfl, hb⟩; refine ⟨_, rfl, ?_⟩; have n0_ := Aside0.mk (below_step (by repeat (first | (with_reducible first | exact HB.out | apply below_alloc | apply pw_below_drewN | apply below_drew1) | exact HB.out)) hb); clear HB; have HB := n0_; clear n0_; (try clear hb); (try clear hb2); (try clear hk); (try clear hi)) | ((with_reducible refine gate_callee (f := 11) rfl ?_); refine goesL_ (some 29) rfl rfl Tryd.func11 (by kernel_rfl) rfl #[.string a0, .string a1] rfl (by (try simp only [List.map_toArray, List.map_cons, List.map_nil]); first | done | rfl | (simp only [List.length_drop, List.length_take]; rfl)) ?_; (with_reducible refine (chargeparkref36_Distance.calls kj3 a0 a1 t151 t152 _ A9.out).mono ?_); rintro e w23 ⟨rfl, hb⟩; refine ⟨_, rfl, ?_⟩; have n0_ := Aside0.mk (below_step (by repeat (first | (with_reducible first | exact HB.out | apply below_alloc | apply pw_below_drewN | apply below_drew1) | exact HB.out)) hb); clear HB; have HB := n0_; clear n0_; (try clear hb); (try clear hb2); (try clear hk); (try clear hi)))
          go_ret
          exact ⟨by first | rfl | (simp [errW_none, errW_some] <;> rfl) | (simp [*, errW_none, errW_some] <;> rfl), by repeat (first | (with_reducible first | exact HB.out | apply below_alloc | apply pw_below_drewN | apply below_drew1) | exact HB.out)⟩

/-- THE ONE PURE STATEMENT of chargeparklaw36_PlateMatchesReference: yours. -/
def chargeparklaw36_PlateMatchesReference.Pure : Prop := ∀ (a0 : ByteArray) (a1 : ByteArray), a0.size ≤ 140737488351232 → a1.size ≤ 140737488351232 → ∃ k, chargeparklaw36_PlateMatchesReference.f k a0 a1 = some true
theorem chargeparklaw36_PlateMatchesReference.walk (P : chargeparklaw36_PlateMatchesReference.Pure) (a0 : ByteArray) (a1 : ByteArray) (w : World) (hLaid : Go.Proofs.YtcpiapenagbapaaDoor.PlateWalk.Laid w) (w0 : a0.size ≤ 140737488351232) (w1 : a1.size ≤ 140737488351232) :
    Calls Tryd.prog 3 #[.string a0, .string a1] w fun e w' => e = .returned (.bool true) ∧ Below w.heap.size w w' := by
  obtain ⟨k, h⟩ := P a0 a1 w0 w1
  refine (chargeparklaw36_PlateMatchesReference.calls k a0 a1 true w hLaid h).mono ?_
  rintro e w' ⟨rfl, hd⟩
  exact ⟨rfl, hd⟩

end Go.Proofs.YtcpiapenagbapaaDoor.PPlateMatchesReference
