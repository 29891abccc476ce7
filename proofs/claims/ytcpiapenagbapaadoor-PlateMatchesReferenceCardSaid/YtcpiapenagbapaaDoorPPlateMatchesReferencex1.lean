-- Written by a program of this session (xprint.py, over the kit's print.py), with contracts proved by hand.
import Derived.Test.YtcpiapenagbapaaDoorPPlateMatchesReferencex0
namespace Go.Proofs.YtcpiapenagbapaaDoor.PPlateMatchesReference
open Go.RowKit Go.Proofs.YtcpiapenagbapaaDoorW.PrintWords Go.Proofs.YtcpiapenagbapaaDoorW.PrintLast Go.Proofs.YtcpiapenagbapaaDoorW.PrintMore
attribute [local go_sem] max2_int min2_int max_two min_two max_three min_three max_four min_four   -- for this text's walks alone
set_option linter.unusedVariables false
set_option linter.unusedSimpArgs false

/-! ### plate_Distance: function 10 -/
def plate_Distance.f (a0 : ByteArray) (a1 : ByteArray) : Option (Int × Int) := Go.Proofs.YtcpiapenagbapaaDoor.PlateDist.distF a0 a1
/-- plate.Distance. -/
theorem plate_Distance.calls (a0 : ByteArray) (a1 : ByteArray) (r1 : Int) (r2 : Int) (w : World) (hLaid : Go.Proofs.YtcpiapenagbapaaDoor.PlateWalk.Laid w) (h : plate_Distance.f a0 a1 = some (r1, r2)) :
    Calls Tryd.prog 10 #[.string a0, .string a1] w (fun e w' => e = .returned (.tuple #[.int .i64 r1, .int .i64 r2]) ∧ Below w.heap.size w w') := Go.Proofs.YtcpiapenagbapaaDoor.PlateDist.dist_calls a0 a1 r1 r2 w hLaid h

/-! ### plate_Valid: function 12 -/
def plate_Valid.f (a0 : ByteArray) : Option (Bool) := some (Go.Proofs.YtcpiapenagbapaaDoor.PlateWalk.validP a0)
/-- plate.Valid. -/
theorem plate_Valid.calls (a0 : ByteArray) (r : Bool) (w : World) (h : plate_Valid.f a0 = some r) :
    Calls Tryd.prog 12 #[.string a0] w (fun e w' => e = .returned (.bool r) ∧ Below w.heap.size w w') := by
  obtain rfl := Option.some.inj h
  exact Go.Proofs.YtcpiapenagbapaaDoor.PlateWalk.valid_calls a0 w

/-! ### chargeparklaw36_is: function 18 -/
def chargeparklaw36_is.f (a0 : ByteArray) (a1 : ByteArray) (a2 : Int) : Option (Bool) := (plate_Distance.f a0 a1).bind fun bt101 => (if bt101.2 = 0 then (some (bt101.1 == a2)) else (some false))
set_option maxHeartbeats 8000000 in
set_option maxRecDepth 100000 in
theorem chargeparklaw36_is.calls (a0 : ByteArray) (a1 : ByteArray) (a2 : Int) (r : Bool) (w : World) (hLaid : Go.Proofs.YtcpiapenagbapaaDoor.PlateWalk.Laid w) (h : chargeparklaw36_is.f a0 a1 a2 = some r) :
    Calls Tryd.prog 18 #[.string a0, .string a1, .int .i64 a2] w fun e w' => e = .returned (.bool r) ∧ Below w.heap.size w w' := by
  have HB := Aside0.mk (Below.refl w.heap.size w)
  have H : ((plate_Distance.f a0 a1).bind fun bt101 => (if bt101.2 = 0 then (some (bt101.1 == a2)) else (some false))) = some r := h
  clear h
  replace H := Option.bind_eq_some_iff.mp H
  obtain ⟨⟨t101, t102⟩, A40, H⟩ := H
  replace H : (if t102 = 0 then (some (t101 == a2)) else (some false)) = some r := H
  have A4 := Aside0.mk A40
  clear A40
  by_cases c5 : t102 = 0
  · rw [if_pos c5] at H
    have c5b0 : (t102 == 0) = true := beq_iff_eq.mpr c5
    have c5b1 : (t102 != 0) = false := bne_eq_false_iff_eq.mpr c5
    clear c5
    obtain rfl := Option.some.inj H
    go_enter Tryd.func18, Tryd.ntmps18
    go_wp2_with (first | ((with_reducible refine gate_callee (f := 10) rfl ?_); refine goesL_ (some 12) rfl rfl Tryd.func10 (by kernel_rfl) rfl #[.string a0, .string a1] rfl (by (try simp only [List.map_toArray, List.map_cons, List.map_nil]); first | done | rfl | (simp only [List.length_drop, List.length_take]; rfl)) ?_; (with_reducible refine (plate_Distance.calls a0 a1 t101 t102 _ ?side1 A4.out).mono ?_); (case side1 => exact Go.Proofs.YtcpiapenagbapaaDoor.PlateWalk.Laid.below hLaid (by repeat (first | (with_reducible first | exact HB.out | apply below_alloc | apply pw_below_drewN | apply below_drew1) | exact HB.out))); rintro e w6 ⟨rfl, hb⟩; refine ⟨_, rfl, ?_⟩; have n0_ := Aside0.mk (below_step (by repeat (first | (with_reducible first | exact HB.out | apply below_alloc | apply pw_below_drewN | apply below_drew1) | exact HB.out)) hb); clear HB; have HB := n0_; clear n0_; (try clear hb); (try clear hb2); (try clear hk); (try clear hi)))
    go_ret
    exact ⟨by first | rfl | (simp [errW_none, errW_some] <;> rfl) | (simp [*, errW_none, errW_some] <;> rfl), by repeat (first | (with_reducible first | exact HB.out | apply below_alloc | apply pw_below_drewN | apply below_drew1) | exact HB.out)⟩
  · rw [if_neg c5] at H
    have c5b0 : (t102 == 0) = false := beq_eq_false_iff_ne.mpr c5
    have c5b1 : (t102 != 0) = true := bne_iff_ne.mpr c5
    obtain rfl := Option.some.inj H
    go_enter Tryd.func18, Tryd.ntmps18
    go_wp2_with (first | ((with_reducible refine gate_callee (f := 10) rfl ?_); refine goesL_ (some 12) rfl rfl Tryd.func10 (by kernel_rfl) rfl #[.string a0, .string a1] rfl (by (try simp only [List.map_toArray, List.map_cons, List.map_nil]); first | done | rfl | (simp only [List.length_drop, List.length_take]; rfl)) ?_; (with_reducible refine (plate_Distance.calls a0 a1 t101 t102 _ ?side1 A4.out).mono ?_); (case side1 => exact Go.Proofs.YtcpiapenagbapaaDoor.PlateWalk.Laid.below hLaid (by repeat (first | (with_reducible first | exact HB.out | apply below_alloc | apply pw_below_drewN | apply below_drew1) | exact HB.out))); rintro e w7 ⟨rfl, hb⟩; refine ⟨_, rfl, ?_⟩; have n0_ := Aside0.mk (below_step (by repeat (first | (with_reducible first | exact HB.out | apply below_alloc | apply pw_below_drewN | apply below_drew1) | exact HB.out)) hb); clear HB; have HB := n0_; clear n0_; (try clear hb); (try clear hb2); (try clear hk); (try clear hi)))
    go_ret
    exact ⟨by first | rfl | (simp [errW_none, errW_some] <;> rfl) | (simp [*, errW_none, errW_some] <;> rfl), by repeat (first | (with_reducible first | exact HB.out | apply below_alloc | apply pw_below_drewN | apply below_drew1) | exact HB.out)⟩

/-! ### chargeparklaw36_head: function 9 -/
def chargeparklaw36_head.j0 : Nat → Bool → Option (Bool)
  | 0, _ => none
  | k + 1, x5 => if x5 = true then ((chargeparklaw36_is.f (⟨#[65, 66, 49, 50]⟩ : ByteArray) (⟨#[65, 66, 49, 50]⟩ : ByteArray) 0).bind fun t109 => (if t109 = true then ((chargeparklaw36_is.f (⟨#[65, 66, 49, 50]⟩ : ByteArray) (⟨#[65, 56, 49, 50]⟩ : ByteArray) 1).bind fun t110 => (if t110 = true then ((chargeparklaw36_is.f (⟨#[65, 66, 49, 50]⟩ : ByteArray) (⟨#[65, 66, 49, 51]⟩ : ByteArray) 2).bind fun t111 => (if t111 = true then ((chargeparklaw36_is.f (⟨#[65, 66, 49, 50]⟩ : ByteArray) (⟨#[66, 49, 50]⟩ : ByteArray) 2).bind fun t112 => (if t112 = true then ((chargeparklaw36_is.f (⟨#[79, 79, 55]⟩ : ByteArray) (⟨#[48, 48, 55]⟩ : ByteArray) 2).bind fun t113 => (if t113 = true then ((chargeparklaw36_is.f (⟨#[65]⟩ : ByteArray) (⟨#[49, 48]⟩ : ByteArray) 4).bind fun t114 => (some t114)) else (some false))) else (some false))) else (some false))) else (some false))) else (some false))) else (some false)
def chargeparklaw36_head.f (k : Nat)  : Option (Bool) := (plate_Distance.f (⟨#[]⟩ : ByteArray) (⟨#[65]⟩ : ByteArray)).bind fun bt103 => ((plate_Distance.f (⟨#[65]⟩ : ByteArray) (⟨#[97]⟩ : ByteArray)).bind fun bt105 => (if bt103.2 = 1 then (if bt105.2 = 1 then ((plate_Valid.f (⟨#[65, 66, 67, 68, 69, 70, 71, 72, 48, 57]⟩ : ByteArray)).bind fun t107 => (if t107 = true then ((plate_Valid.f (⟨#[65, 66, 67, 68, 69, 70, 71, 72, 48, 57, 49]⟩ : ByteArray)).bind fun t108 => (chargeparklaw36_head.j0 k (!t108))) else (chargeparklaw36_head.j0 k false))) else (chargeparklaw36_head.j0 k false)) else (chargeparklaw36_head.j0 k false)))
theorem chargeparklaw36_head.mono_l : ∀ k, (∀ y0, LeO (chargeparklaw36_head.j0 k y0) (chargeparklaw36_head.j0 (k + 1) y0))
  | 0 => fun _ r h => by simp [chargeparklaw36_head.j0] at h
  | k + 1 => by
    have ih0 := chargeparklaw36_head.mono_l k
    · intro y0
      unfold chargeparklaw36_head.j0
      repeat' first
      | (with_reducible exact ih0 _)
      | (with_reducible exact LeO.refl _)
      | (with_reducible exact LeO.none _)
      | (with_reducible refine LeO.ite ?_ ?_)
      | (with_reducible refine LeO.bind ?_ (fun _ => ?_))
      | exact ih0 _
      | exact LeO.none _
      | refine LeO.ite ?_ ?_
      | refine LeO.bind ?_ (fun _ => ?_)
theorem chargeparklaw36_head.mono : ∀ k, LeO (chargeparklaw36_head.f k ) (chargeparklaw36_head.f (k + 1) ) := by
  intro  k
  have ih0 := chargeparklaw36_head.mono_l k
  unfold chargeparklaw36_head.f
  repeat' first
      | (with_reducible exact ih0 _)
      | (with_reducible exact LeO.refl _)
      | (with_reducible exact LeO.none _)
      | (with_reducible refine LeO.ite ?_ ?_)
      | (with_reducible refine LeO.bind ?_ (fun _ => ?_))
      | exact ih0 _
      | exact LeO.none _
      | refine LeO.ite ?_ ?_
      | refine LeO.bind ?_ (fun _ => ?_)
set_option maxHeartbeats 8000000 in
set_option maxRecDepth 100000 in
theorem chargeparklaw36_head.calls (k : Nat)  (r : Bool) (w : World) (hLaid : Go.Proofs.YtcpiapenagbapaaDoor.PlateWalk.Laid w) (h : chargeparklaw36_head.f k  = some r) :
    Calls Tryd.prog 9 #[] w fun e w' => e = .returned (.bool r) ∧ Below w.heap.size w w' := by
  have HB := Aside0.mk (Below.refl w.heap.size w)
  have H : ((plate_Distance.f (⟨#[]⟩ : ByteArray) (⟨#[65]⟩ : ByteArray)).bind fun bt103 => ((plate_Distance.f (⟨#[65]⟩ : ByteArray) (⟨#[97]⟩ : ByteArray)).bind fun bt105 => (if bt103.2 = 1 then (if bt105.2 = 1 then ((plate_Valid.f (⟨#[65, 66, 67, 68, 69, 70, 71, 72, 48, 57]⟩ : ByteArray)).bind fun t107 => (if t107 = true then ((plate_Valid.f (⟨#[65, 66, 67, 68, 69, 70, 71, 72, 48, 57, 49]⟩ : ByteArray)).bind fun t108 => (chargeparklaw36_head.j0 k (!t108))) else (chargeparklaw36_head.j0 k false))) else (chargeparklaw36_head.j0 k false)) else (chargeparklaw36_head.j0 k false)))) = some r := h
  clear h
  replace H := Option.bind_eq_some_iff.mp H
  obtain ⟨⟨t103, t104⟩, A10, H⟩ := H
  replace H : ((plate_Distance.f (⟨#[65]⟩ : ByteArray) (⟨#[97]⟩ : ByteArray)).bind fun bt105 => (if t104 = 1 then (if bt105.2 = 1 then ((plate_Valid.f (⟨#[65, 66, 67, 68, 69, 70, 71, 72, 48, 57]⟩ : ByteArray)).bind fun t107 => (if t107 = true then ((plate_Valid.f (⟨#[65, 66, 67, 68, 69, 70, 71, 72, 48, 57, 49]⟩ : ByteArray)).bind fun t108 => (chargeparklaw36_head.j0 k (!t108))) else (chargeparklaw36_head.j0 k false))) else (chargeparklaw36_head.j0 k false)) else (chargeparklaw36_head.j0 k false))) = some r := H
  have A1 := Aside0.mk A10
  clear A10
  replace H := Option.bind_eq_some_iff.mp H
  obtain ⟨⟨t105, t106⟩, A20, H⟩ := H
  replace H : (if t104 = 1 then (if t106 = 1 then ((plate_Valid.f (⟨#[65, 66, 67, 68, 69, 70, 71, 72, 48, 57]⟩ : ByteArray)).bind fun t107 => (if t107 = true then ((plate_Valid.f (⟨#[65, 66, 67, 68, 69, 70, 71, 72, 48, 57, 49]⟩ : ByteArray)).bind fun t108 => (chargeparklaw36_head.j0 k (!t108))) else (chargeparklaw36_head.j0 k false))) else (chargeparklaw36_head.j0 k false)) else (chargeparklaw36_head.j0 k false)) = some r := H
  have A2 := Aside0.mk A20
  clear A20
  have HC3 := Aside0.mk H
  clear H
  go_enter Tryd.func9, Tryd.ntmps9
  go_upto_region 3 with (first | ((with_reducible refine gate_callee (f := 10) rfl ?_); refine goesL_ (some 7) rfl rfl Tryd.func10 (by kernel_rfl) rfl #[.string (⟨#[]⟩ : ByteArray), .string (⟨#[65]⟩ : ByteArray)] rfl (by (try simp only [List.map_toArray, List.map_cons, List.map_nil]); first | done | rfl | (simp only [List.length_drop, List.length_take]; rfl)) ?_; (with_reducible refine (plate_Distance.calls (⟨#[]⟩ : ByteArray) (⟨#[65]⟩ : ByteArray) t103 t104 _ ?side1 A1.out).mono ?_); (case side1 => exact Go.Proofs.YtcpiapenagbapaaDoor.PlateWalk.Laid.below hLaid (by repeat (first | (with_reducible first | exact HB.out | apply below_alloc | apply pw_below_drewN | apply below_drew1) | exact HB.out))); rintro e w4 ⟨rfl, hb⟩; refine ⟨_, rfl, ?_⟩; have n0_ := Aside0.mk (below_step (by repeat (first | (with_reducible first | exact HB.out | apply below_alloc | apply pw_below_drewN | apply below_drew1) | exact HB.out)) hb); clear HB; have HB := n0_; clear n0_; (try clear hb); (try clear hb2); (try clear hk); (try clear hi)) | ((with_reducible refine gate_callee (f := 10) rfl ?_); refine goesL_ (some 11) rfl rfl Tryd.func10 (by kernel_rfl) rfl #[.string (⟨#[65]⟩ : ByteArray), .string (⟨#[97]⟩ : ByteArray)] rfl (by (try simp only [List.map_toArray, List.map_cons, List.map_nil]); first | done | rfl | (simp only [List.length_drop, List.length_take]; rfl)) ?_; (with_reducible refine (plate_Distance.calls (⟨#[65]⟩ : ByteArray) (⟨#[97]⟩ : ByteArray) t105 t106 _ ?side1 A2.out).mono ?_); (case side1 => exact Go.Proofs.YtcpiapenagbapaaDoor.PlateWalk.Laid.below hLaid (by repeat (first | (with_reducible first | exact HB.out | apply below_alloc | apply pw_below_drewN | apply below_drew1) | exact HB.out))); rintro e w5 ⟨rfl, hb⟩; refine ⟨_, rfl, ?_⟩; have n0_ := Aside0.mk (below_step (by repeat (first | (with_reducible first | exact HB.out | apply below_alloc | apply pw_below_drewN | apply below_drew1) | exact HB.out)) hb); clear HB; have HB := n0_; clear n0_; (try clear hb); (try clear hb2); (try clear hk); (try clear hi)))
  (try simp only [Act.put, List.setIfInBounds_toArray, List.set_cons_zero, List.set_cons_succ])
  go_cut [5] (fun v5 wc => ∃ (kq : Nat) (x5_2 : Bool), v5 = .bool x5_2 ∧ Aside0 (chargeparklaw36_head.j0 kq x5_2 = some r) ∧ Aside0 (kq ≤ k) ∧ Aside0 (Below w.heap.size w wc))
  case first =>
    have H := HC3.out
    clear HC3
    by_cases c6 : t104 = 1
    · rw [if_pos c6] at H
      have c6b0 : (t104 == 1) = true := beq_iff_eq.mpr c6
      have c6b1 : (t104 != 1) = false := bne_eq_false_iff_eq.mpr c6
      clear c6
      (first | rw [c6b0] | (simp only [i64_w, i32_w]; rw [c6b0]) | skip)
      by_cases c7 : t106 = 1
      · rw [if_pos c7] at H
        have c7b0 : (t106 == 1) = true := beq_iff_eq.mpr c7
        have c7b1 : (t106 != 1) = false := bne_eq_false_iff_eq.mpr c7
        clear c7
        replace H := Option.bind_eq_some_iff.mp H
        obtain ⟨t107, A80, H⟩ := H
        replace H : (if t107 = true then ((plate_Valid.f (⟨#[65, 66, 67, 68, 69, 70, 71, 72, 48, 57, 49]⟩ : ByteArray)).bind fun t108 => (chargeparklaw36_head.j0 k (!t108))) else (chargeparklaw36_head.j0 k false)) = some r := H
        have A8 := Aside0.mk A80
        clear A80
        by_cases c9 : t107 = true
        · subst c9
          have H1 : ((plate_Valid.f (⟨#[65, 66, 67, 68, 69, 70, 71, 72, 48, 57, 49]⟩ : ByteArray)).bind fun t108 => (chargeparklaw36_head.j0 k (!t108))) = some r := by rw [if_pos rfl] at H; exact H
          clear H
          have H := H1
          clear H1
          replace H := Option.bind_eq_some_iff.mp H
          obtain ⟨t108, A100, H⟩ := H
          replace H : (chargeparklaw36_head.j0 k (!t108)) = some r := H
          have A10 := Aside0.mk A100
          clear A100
          have H' := Aside0.mk H
          clear H
          go_wp2_with (first | (go_at_call 12; (with_reducible refine (plate_Valid.calls (⟨#[65, 66, 67, 68, 69, 70, 71, 72, 48, 57]⟩ : ByteArray) true _ A8.out).mono ?_); rintro e w11 ⟨rfl, hb⟩; have n0_ := Aside0.mk (below_step (by repeat (first | (with_reducible first | exact HB.out | apply below_alloc | apply pw_below_drewN | apply below_drew1) | exact HB.out)) hb); clear HB; have HB := n0_; clear n0_; (try clear hb); (try clear hb2); (try clear hk); (try clear hi)) | (go_at_call 12; (with_reducible refine (plate_Valid.calls (⟨#[65, 66, 67, 68, 69, 70, 71, 72, 48, 57, 49]⟩ : ByteArray) t108 _ A10.out).mono ?_); rintro e w12 ⟨rfl, hb⟩; have n0_ := Aside0.mk (below_step (by repeat (first | (with_reducible first | exact HB.out | apply below_alloc | apply pw_below_drewN | apply below_drew1) | exact HB.out)) hb); clear HB; have HB := n0_; clear n0_; (try clear hb); (try clear hb2); (try clear hk); (try clear hi)))
          go_meet
          case rel => exact ⟨_, (!t108), (by first | rfl | (simp; done) | (simp [*]; done)), H', ⟨by first | omega | exact Nat.le_refl _⟩, ⟨by repeat (first | (with_reducible first | exact HB.out | apply below_alloc | apply pw_below_drewN | apply below_drew1) | exact HB.out)⟩⟩
        · replace c9 := Bool.eq_false_iff.mpr c9
          subst c9
          have H1 : (chargeparklaw36_head.j0 k false) = some r := by rw [if_neg (show ¬ (false = true) by decide)] at H; exact H
          clear H
          have H := H1
          clear H1
          have H' := Aside0.mk H
          clear H
          go_wp2_with (first | (go_at_call 12; (with_reducible refine (plate_Valid.calls (⟨#[65, 66, 67, 68, 69, 70, 71, 72, 48, 57]⟩ : ByteArray) false _ A8.out).mono ?_); rintro e w13 ⟨rfl, hb⟩; have n0_ := Aside0.mk (below_step (by repeat (first | (with_reducible first | exact HB.out | apply below_alloc | apply pw_below_drewN | apply below_drew1) | exact HB.out)) hb); clear HB; have HB := n0_; clear n0_; (try clear hb); (try clear hb2); (try clear hk); (try clear hi)))
          go_meet
          case rel => exact ⟨_, (false), (by first | rfl | (simp; done) | (simp [*]; done)), H', ⟨by first | omega | exact Nat.le_refl _⟩, ⟨by repeat (first | (with_reducible first | exact HB.out | apply below_alloc | apply pw_below_drewN | apply below_drew1) | exact HB.out)⟩⟩
      · rw [if_neg c7] at H
        have c7b0 : (t106 == 1) = false := beq_eq_false_iff_ne.mpr c7
        have c7b1 : (t106 != 1) = true := bne_iff_ne.mpr c7
        have H' := Aside0.mk H
        clear H
        go_wp2
        go_meet
        case rel => exact ⟨_, (false), (by first | rfl | (simp; done) | (simp [*]; done)), H', ⟨by first | omega | exact Nat.le_refl _⟩, ⟨by repeat (first | (with_reducible first | exact HB.out | apply below_alloc | apply pw_below_drewN | apply below_drew1) | exact HB.out)⟩⟩
    · rw [if_neg c6] at H
      have c6b0 : (t104 == 1) = false := beq_eq_false_iff_ne.mpr c6
      have c6b1 : (t104 != 1) = true := bne_iff_ne.mpr c6
      (first | rw [c6b0] | (simp only [i64_w, i32_w]; rw [c6b0]) | skip)
      have H' := Aside0.mk H
      clear H
      go_wp2
      go_meet
      case rel => exact ⟨_, (false), (by first | rfl | (simp; done) | (simp [*]; done)), H', ⟨by first | omega | exact Nat.le_refl _⟩, ⟨by repeat (first | (with_reducible first | exact HB.out | apply below_alloc | apply pw_below_drewN | apply below_drew1) | exact HB.out)⟩⟩
  case rest =>
    clear HC3
    try clear c1
    try clear p2
    try clear c6
    try clear c6b0
    try clear c6b1
    try clear c7
    try clear c7b0
    try clear c7b1
    try clear c9
    try clear c10
    obtain ⟨kq, x5_2, rfl, HA, HJ2, HB⟩ := hcut
    cases kq with
    | zero => exact absurd HA.out (by simp [chargeparklaw36_head.j0])
    | succ kj2 =>
      have H := HA.out
      clear HA
      simp only [chargeparklaw36_head.j0] at H
      by_cases c14 : x5_2 = true
      · subst c14
        have H1 : ((chargeparklaw36_is.f (⟨#[65, 66, 49, 50]⟩ : ByteArray) (⟨#[65, 66, 49, 50]⟩ : ByteArray) 0).bind fun t109 => (if t109 = true then ((chargeparklaw36_is.f (⟨#[65, 66, 49, 50]⟩ : ByteArray) (⟨#[65, 56, 49, 50]⟩ : ByteArray) 1).bind fun t110 => (if t110 = true then ((chargeparklaw36_is.f (⟨#[65, 66, 49, 50]⟩ : ByteArray) (⟨#[65, 66, 49, 51]⟩ : ByteArray) 2).bind fun t111 => (if t111 = true then ((chargeparklaw36_is.f (⟨#[65, 66, 49, 50]⟩ : ByteArray) (⟨#[66, 49, 50]⟩ : ByteArray) 2).bind fun t112 => (if t112 = true then ((chargeparklaw36_is.f (⟨#[79, 79, 55]⟩ : ByteArray) (⟨#[48, 48, 55]⟩ : ByteArray) 2).bind fun t113 => (if t113 = true then ((chargeparklaw36_is.f (⟨#[65]⟩ : ByteArray) (⟨#[49, 48]⟩ : ByteArray) 4).bind fun t114 => (some t114)) else (some false))) else (some false))) else (some false))) else (some false))) else (some false))) = some r := by rw [if_pos rfl] at H; exact H
        clear H
        have H := H1
        clear H1
        replace H := Option.bind_eq_some_iff.mp H
        obtain ⟨t109, A150, H⟩ := H
        replace H : (if t109 = true then ((chargeparklaw36_is.f (⟨#[65, 66, 49, 50]⟩ : ByteArray) (⟨#[65, 56, 49, 50]⟩ : ByteArray) 1).bind fun t110 => (if t110 = true then ((chargeparklaw36_is.f (⟨#[65, 66, 49, 50]⟩ : ByteArray) (⟨#[65, 66, 49, 51]⟩ : ByteArray) 2).bind fun t111 => (if t111 = true then ((chargeparklaw36_is.f (⟨#[65, 66, 49, 50]⟩ : ByteArray) (⟨#[66, 49, 50]⟩ : ByteArray) 2).bind fun t112 => (if t112 = true then ((chargeparklaw36_is.f (⟨#[79, 79, 55]⟩ : ByteArray) (⟨#[48, 48, 55]⟩ : ByteArray) 2).bind fun t113 => (if t113 = true then ((chargeparklaw36_is.f (⟨#[65]⟩ : ByteArray) (⟨#[49, 48]⟩ : ByteArray) 4).bind fun t114 => (some t114)) else (some false))) else (some false))) else (some false))) else (some false))) else (some false)) = some r := H
        have A15 := Aside0.mk A150
        clear A150
        by_cases c16 : t109 = true
        · subst c16
          have H1 : ((chargeparklaw36_is.f (⟨#[65, 66, 49, 50]⟩ : ByteArray) (⟨#[65, 56, 49, 50]⟩ : ByteArray) 1).bind fun t110 => (if t110 = true then ((chargeparklaw36_is.f (⟨#[65, 66, 49, 50]⟩ : ByteArray) (⟨#[65, 66, 49, 51]⟩ : ByteArray) 2).bind fun t111 => (if t111 = true then ((chargeparklaw36_is.f (⟨#[65, 66, 49, 50]⟩ : ByteArray) (⟨#[66, 49, 50]⟩ : ByteArray) 2).bind fun t112 => (if t112 = true then ((chargeparklaw36_is.f (⟨#[79, 79, 55]⟩ : ByteArray) (⟨#[48, 48, 55]⟩ : ByteArray) 2).bind fun t113 => (if t113 = true then ((chargeparklaw36_is.f (⟨#[65]⟩ : ByteArray) (⟨#[49, 48]⟩ : ByteArray) 4).bind fun t114 => (some t114)) else (some false))) else (some false))) else (some false))) else (some false))) = some r := by rw [if_pos rfl] at H; exact H
          clear H
          have H := H1
          clear H1
          replace H := Option.bind_eq_some_iff.mp H
          obtain ⟨t110, A170, H⟩ := H
          replace H : (if t110 = true then ((chargeparklaw36_is.f (⟨#[65, 66, 49, 50]⟩ : ByteArray) (⟨#[65, 66, 49, 51]⟩ : ByteArray) 2).bind fun t111 => (if t111 = true then ((chargeparklaw36_is.f (⟨#[65, 66, 49, 50]⟩ : ByteArray) (⟨#[66, 49, 50]⟩ : ByteArray) 2).bind fun t112 => (if t112 = true then ((chargeparklaw36_is.f (⟨#[79, 79, 55]⟩ : ByteArray) (⟨#[48, 48, 55]⟩ : ByteArray) 2).bind fun t113 => (if t113 = true then ((chargeparklaw36_is.f (⟨#[65]⟩ : ByteArray) (⟨#[49, 48]⟩ : ByteArray) 4).bind fun t114 => (some t114)) else (some false))) else (some false))) else (some false))) else (some false)) = some r := H
          have A17 := Aside0.mk A170
          clear A170
          by_cases c18 : t110 = true
          · subst c18
            have H1 : ((chargeparklaw36_is.f (⟨#[65, 66, 49, 50]⟩ : ByteArray) (⟨#[65, 66, 49, 51]⟩ : ByteArray) 2).bind fun t111 => (if t111 = true then ((chargeparklaw36_is.f (⟨#[65, 66, 49, 50]⟩ : ByteArray) (⟨#[66, 49, 50]⟩ : ByteArray) 2).bind fun t112 => (if t112 = true then ((chargeparklaw36_is.f (⟨#[79, 79, 55]⟩ : ByteArray) (⟨#[48, 48, 55]⟩ : ByteArray) 2).bind fun t113 => (if t113 = true then ((chargeparklaw36_is.f (⟨#[65]⟩ : ByteArray) (⟨#[49, 48]⟩ : ByteArray) 4).bind fun t114 => (some t114)) else (some false))) else (some false))) else (some false))) = some r := by rw [if_pos rfl] at H; exact H
            clear H
            have H := H1
            clear H1
            replace H := Option.bind_eq_some_iff.mp H
            obtain ⟨t111, A190, H⟩ := H
            replace H : (if t111 = true then ((chargeparklaw36_is.f (⟨#[65, 66, 49, 50]⟩ : ByteArray) (⟨#[66, 49, 50]⟩ : ByteArray) 2).bind fun t112 => (if t112 = true then ((chargeparklaw36_is.f (⟨#[79, 79, 55]⟩ : ByteArray) (⟨#[48, 48, 55]⟩ : ByteArray) 2).bind fun t113 => (if t113 = true then ((chargeparklaw36_is.f (⟨#[65]⟩ : ByteArray) (⟨#[49, 48]⟩ : ByteArray) 4).bind fun t114 => (some t114)) else (some false))) else (some false))) else (some false)) = some r := H
            have A19 := Aside0.mk A190
            clear A190
            by_cases c20 : t111 = true
            · subst c20
              have H1 : ((chargeparklaw36_is.f (⟨#[65, 66, 49, 50]⟩ : ByteArray) (⟨#[66, 49, 50]⟩ : ByteArray) 2).bind fun t112 => (if t112 = true then ((chargeparklaw36_is.f (⟨#[79, 79, 55]⟩ : ByteArray) (⟨#[48, 48, 55]⟩ : ByteArray) 2).bind fun t113 => (if t113 = true then ((chargeparklaw36_is.f (⟨#[65]⟩ : ByteArray) (⟨#[49, 48]⟩ : ByteArray) 4).bind fun t114 => (some t114)) else (some false))) else (some false))) = some r := by rw [if_pos rfl] at H; exact H
              clear H
              have H := H1
              clear H1
              replace H := Option.bind_eq_some_iff.mp H
              obtain ⟨t112, A210, H⟩ := H
              replace H : (if t112 = true then ((chargeparklaw36_is.f (⟨#[79, 79, 55]⟩ : ByteArray) (⟨#[48, 48, 55]⟩ : ByteArray) 2).bind fun t113 => (if t113 = true then ((chargeparklaw36_is.f (⟨#[65]⟩ : ByteArray) (⟨#[49, 48]⟩ : ByteArray) 4).bind fun t114 => (some t114)) else (some false))) else (some false)) = some r := H
              have A21 := Aside0.mk A210
              clear A210
              by_cases c22 : t112 = true
              · subst c22
                have H1 : ((chargeparklaw36_is.f (⟨#[79, 79, 55]⟩ : ByteArray) (⟨#[48, 48, 55]⟩ : ByteArray) 2).bind fun t113 => (if t113 = true then ((chargeparklaw36_is.f (⟨#[65]⟩ : ByteArray) (⟨#[49, 48]⟩ : ByteArray) 4).bind fun t114 => (some t114)) else (some false))) = some r := by rw [if_pos rfl] at H; exact H
                clear H
                have H := H1
                clear H1
                replace H := Option.bind_eq_some_iff.mp H
                obtain ⟨t113, A230, H⟩ := H
                replace H : (if t113 = true then ((chargeparklaw36_is.f (⟨#[65]⟩ : ByteArray) (⟨#[49, 48]⟩ : ByteArray) 4).bind fun t114 => (some t114)) else (some false)) = some r := H
                have A23 := Aside0.mk A230
                clear A230
                by_cases c24 : t113 = true
                · subst c24
                  have H1 : ((chargeparklaw36_is.f (⟨#[65]⟩ : ByteArray) (⟨#[49, 48]⟩ : ByteArray) 4).bind fun t114 => (some t114)) = some r := by rw [if_pos rfl] at H; exact H
                  clear H
                  have H := H1
                  clear H1
                  replace H := Option.bind_eq_some_iff.mp H
                  obtain ⟨t114, A250, H⟩ := H
                  replace H : (some t114) = some r := H
                  have A25 := Aside0.mk A250
                  clear A250
                  obtain rfl := Option.some.inj H
                  go_wp2_with (first | (go_at_call 18; (with_reducible refine (chargeparklaw36_is.calls (⟨#[65, 66, 49, 50]⟩ : ByteArray) (⟨#[65, 66, 49, 50]⟩ : ByteArray) 0 true _ ?side1 A15.out).mono ?_); (case side1 => exact Go.Proofs.YtcpiapenagbapaaDoor.PlateWalk.Laid.below hLaid (by repeat (first | (with_reducible first | exact HB.out | apply below_alloc | apply pw_below_drewN | apply below_drew1) | exact HB.out))); rintro e w26 ⟨rfl, hb⟩; have n0_ := Aside0.mk (below_step (by repeat (first | (with_reducible first | exact HB.out | apply below_alloc | apply pw_below_drewN | apply below_drew1) | exact HB.out)) hb); clear HB; have HB := n0_; clear n0_; (try clear hb); (try clear hb2); (try clear hk); (try clear hi)) | (go_at_call 18; (with_reducible refine (chargeparklaw36_is.calls (⟨#[65, 66, 49, 50]⟩ : ByteArray) (⟨#[65, 56, 49, 50]⟩ : ByteArray) 1 true _ ?side1 A17.out).mono ?_); (case side1 => exact Go.Proofs.YtcpiapenagbapaaDoor.PlateWalk.Laid.below hLaid (by repeat (first | (with_reducible first | exact HB.out | apply below_alloc | apply pw_below_drewN | apply below_drew1) | exact HB.out))); rintro e w27 ⟨rfl, hb⟩; have n0_ := Aside0.mk (below_step (by repeat (first | (with_reducible first | exact HB.out | apply below_alloc | apply pw_below_drewN | apply below_drew1) | exact HB.out)) hb); clear HB; have HB := n0_; clear n0_; (try clear hb); (try clear hb2); (try clear hk); (try clear hi)) | (go_at_call 18; (with_reducible refine (chargeparklaw36_is.calls (⟨#[65, 66, 49, 50]⟩ : ByteArray) (⟨#[65, 66, 49, 51]⟩ : ByteArray) 2 true _ ?side1 A19.out).mono ?_); (case side1 => exact Go.Proofs.YtcpiapenagbapaaDoor.PlateWalk.Laid.below hLaid (by repeat (first | (with_reducible first | exact HB.out | apply below_alloc | apply pw_below_drewN | apply below_drew1) | exact HB.out))); rintro e w28 ⟨rfl, hb⟩; have n0_ := Aside0.mk (below_step (by repeat (first | (with_reducible first | exact HB.out | apply below_alloc | apply pw_below_drewN | apply below_drew1) | exact HB.out)) hb); clear HB; have HB := n0_; clear n0_; (try clear hb); (try clear hb2); (try clear hk); (try clear hi)) | (go_at_call 18; (with_reducible refine (chargeparklaw36_is.calls (⟨#[65, 66, 49, 50]⟩ : ByteArray) (⟨#[66, 49, 50]⟩ : ByteArray) 2 true _ ?side1 A21.out).mono ?_); (case side1 => exact Go.Proofs.YtcpiapenagbapaaDoor.PlateWalk.Laid.below hLaid (by repeat (first | (with_reducible first | exact HB.out | apply below_alloc | apply pw_below_drewN | apply below_drew1) | exact HB.out))); rintro e w29 ⟨rfl, hb⟩; have n0_ := Aside0.mk (below_step (by repeat (first | (with_reducible first | exact HB.out | apply below_alloc | apply pw_below_drewN | apply below_drew1) | exact HB.out)) hb); clear HB; have HB := n0_; clear n0_; (try clear hb); (try clear hb2); (try clear hk); (try clear hi)) | (go_at_call 18; (with_reducible refine (chargeparklaw36_is.calls (⟨#[79, 79, 55]⟩ : ByteArray) (⟨#[48, 48, 55]⟩ : ByteArray) 2 true _ ?side1 A23.out).mono ?_); (case side1 => exact Go.Proofs.YtcpiapenagbapaaDoor.PlateWalk.Laid.below hLaid (by repeat (first | (with_reducible first | exact HB.out | apply below_alloc | apply pw_below_drewN | apply below_drew1) | exact HB.out))); rintro e w30 ⟨rfl, hb⟩; have n0_ := Aside0.mk (below_step (by repeat (first | (with_reducible first | exact HB.out | apply below_alloc | apply pw_below_drewN | apply below_drew1) | exact HB.out)) hb); clear HB; have HB := n0_; clear n0_; (try clear hb); (try clear hb2); (try clear hk); (try clear hi)) | (go_at_call 18; (with_reducible refine (chargeparklaw36_is.calls (⟨#[65]⟩ : ByteArray) (⟨#[49, 48]⟩ : ByteArray) 4 t114 _ ?side1 A25.out).mono ?_); (case side1 => exact Go.Proofs.YtcpiapenagbapaaDoor.PlateWalk.Laid.below hLaid (by repeat (first | (with_reducible first | exact HB.out | apply below_alloc | apply pw_below_drewN | apply below_drew1) | exact HB.out))); rintro e w31 ⟨rfl, hb⟩; have n0_ := Aside0.mk (below_step (by repeat (first | (with_reducible first | exact HB.out | apply below_alloc | apply pw_below_drewN | apply below_drew1) | exact HB.out)) hb); clear HB; have HB := n0_; clear n0_; (try clear hb); (try clear hb2); (try clear hk); (try clear hi)))
                  go_ret
                  exact ⟨by first | rfl | (simp [errW_none, errW_some] <;> rfl) | (simp [*, errW_none, errW_some] <;> rfl), by repeat (first | (with_reducible first | exact HB.out | apply below_alloc | apply pw_below_drewN | apply below_drew1) | exact HB.out)⟩
                · replace c24 := Bool.eq_false_iff.mpr c24
                  subst c24
                  have H1 : (some false) = some r := by rw [if_neg (show ¬ (false = true) by decide)] at H; exact H
                  clear H
                  have H := H1
                  clear H1
                  obtain rfl := Option.some.inj H
                  go_wp2_with (first | (go_at_call 18; (with_reducible refine (chargeparklaw36_is.calls (⟨#[65, 66, 49, 50]⟩ : ByteArray) (⟨#[65, 66, 49, 50]⟩ : ByteArray) 0 true _ ?side1 A15.out).mono ?_); (case side1 => exact Go.Proofs.YtcpiapenagbapaaDoor.PlateWalk.Laid.below hLaid (by repeat (first | (with_reducible first | exact HB.out | apply below_alloc | apply pw_below_drewN | apply below_drew1) | exact HB.out))); rintro e w32 ⟨rfl, hb⟩; have n0_ := Aside0.mk (below_step (by repeat (first | (with_reducible first | exact HB.out | apply below_alloc | apply pw_below_drewN | apply below_drew1) | exact HB.out)) hb); clear HB; have HB := n0_; clear n0_; (try clear hb); (try clear hb2); (try clear hk); (try clear hi)) | (go_at_call 18; (with_reducible refine (chargeparklaw36_is.calls (⟨#[65, 66, 49, 50]⟩ : ByteArray) (⟨#[65, 56, 49, 50]⟩ : ByteArray) 1 true _ ?side1 A17.out).mono ?_); (case side1 => exact Go.Proofs.YtcpiapenagbapaaDoor.PlateWalk.Laid.below hLaid (by repeat (first | (with_reducible first | exact HB.out | apply below_alloc | apply pw_below_drewN | apply below_drew1) | exact HB.out))); rintro e w33 ⟨rfl, hb⟩; have n0_ := Aside0.mk (below_step (by repeat (first | (with_reducible first | exact HB.out | apply below_alloc | apply pw_below_drewN | apply below_drew1) | exact HB.out)) hb); clear HB; have HB := n0_; clear n0_; (try clear hb); (try clear hb2); (try clear hk); (try clear hi)) | (go_at_call 18; (with_reducible refine (chargeparklaw36_is.calls (⟨#[65, 66, 49, 50]⟩ : ByteArray) (⟨#[65, 66, 49, 51]⟩ : ByteArray) 2 true _ ?side1 A19.out).mono ?_); (case side1 => exact Go.Proofs.YtcpiapenagbapaaDoor.PlateWalk.Laid.below hLaid (by repeat (first | (with_reducible first | exact HB.out | apply below_alloc | apply pw_below_drewN | apply below_drew1) | exact HB.out))); rintro e w34 ⟨rfl, hb⟩; have n0_ := Aside0.mk (below_step (by repeat (first | (with_reducible first | exact HB.out | apply below_alloc | apply pw_below_drewN | apply below_drew1) | exact HB.out)) hb); clear HB; have HB := n0_; clear n0_; (try clear hb); (try clear hb2); (try clear hk); (try clear hi)) | (go_at_call 18; (with_reducible refine (chargeparklaw36_is.calls (⟨#[65, 66, 49, 50]⟩ : ByteArray) (⟨#[66, 49, 50]⟩ : ByteArray) 2 true _ ?side1 A21.out).mono ?_); (case side1 => exact Go.Proofs.YtcpiapenagbapaaDoor.PlateWalk.Laid.below hLaid (by repeat (first | (with_reducible first | exact HB.out | apply below_alloc | apply pw_below_drewN | apply below_drew1) | exact HB.out))); rintro e w35 ⟨rfl, hb⟩; have n0_ := Aside0.mk (below_step (by repeat (first | (with_reducible first | exact HB.out | apply below_alloc | apply pw_below_drewN | apply below_drew1) | exact HB.out)) hb); clear HB; have HB := n0_; clear n0_; (try clear hb); (try clear hb2); (try clear hk); (try clear hi)) | (go_at_call 18; (with_reducible refine (chargeparklaw36_is.calls (⟨#[79, 79, 55]⟩ : ByteArray) (⟨#[48, 48, 55]⟩ : ByteArray) 2 false _ ?side1 A23.out).mono ?_); (case side1 => exact Go.Proofs.YtcpiapenagbapaaDoor.PlateWalk.Laid.below hLaid (by repeat (first | (with_reducible first | exact HB.out | apply below_alloc | apply pw_below_drewN | apply below_drew1) | exact HB.out))); rintro e w36 ⟨rfl, hb⟩; have n0_ := Aside0.mk (below_step (by repeat (first | (with_reducible first | exact HB.out | apply below_alloc | apply pw_below_drewN | apply below_drew1) | exact HB.out)) hb); clear HB; have HB := n0_; clear n0_; (try clear hb); (try clear hb2); (try clear hk); (try clear hi)))
                  go_ret
                  exact ⟨by first | rfl | (simp [errW_none, errW_some] <;> rfl) | (simp [*, errW_none, errW_some] <;> rfl), by repeat (first | (with_reducible first | exact HB.out | apply below_alloc | apply pw_below_drewN | apply below_drew1) | exact HB.out)⟩
              · replace c22 := Bool.eq_false_iff.mpr c22
                subst c22
                have H1 : (some false) = some r := by rw [if_neg (show ¬ (false = true) by decide)] at H; exact H
                clear H
                have H := H1
                clear H1
                obtain rfl := Option.some.inj H
                go_wp2_with (first | (go_at_call 18; (with_reducible refine (chargeparklaw36_is.calls (⟨#[65, 66, 49, 50]⟩ : ByteArray) (⟨#[65, 66, 49, 50]⟩ : ByteArray) 0 true _ ?side1 A15.out).mono ?_); (case side1 => exact Go.Proofs.YtcpiapenagbapaaDoor.PlateWalk.Laid.below hLaid (by repeat (first | (with_reducible first | exact HB.out | apply below_alloc | apply pw_below_drewN | apply below_drew1) | exact HB.out))); rintro e w37 ⟨rfl, hb⟩; have n0_ := Aside0.mk (below_step (by repeat (first | (with_reducible first | exact HB.out | apply below_alloc | apply pw_below_drewN | apply below_drew1) | exact HB.out)) hb); clear HB; have HB := n0_; clear n0_; (try clear hb); (try clear hb2); (try clear hk); (try clear hi)) | (go_at_call 18; (with_reducible refine (chargeparklaw36_is.calls (⟨#[65, 66, 49, 50]⟩ : ByteArray) (⟨#[65, 56, 49, 50]⟩ : ByteArray) 1 true _ ?side1 A17.out).mono ?_); (case side1 => exact Go.Proofs.YtcpiapenagbapaaDoor.PlateWalk.Laid.below hLaid (by repeat (first | (with_reducible first | exact HB.out | apply below_alloc | apply pw_below_drewN | apply below_drew1) | exact HB.out))); rintro e w38 ⟨rfl, hb⟩; have n0_ := Aside0.mk (below_step (by repeat (first | (with_reducible first | exact HB.out | apply below_alloc | apply pw_below_drewN | apply below_drew1) | exact HB.out)) hb); clear HB; have HB := n0_; clear n0_; (try clear hb); (try clear hb2); (try clear hk); (try clear hi)) | (go_at_call 18; (with_reducible refine (chargeparklaw36_is.calls (⟨#[65, 66, 49, 50]⟩ : ByteArray) (⟨#[65, 66, 49, 51]⟩ : ByteArray) 2 true _ ?side1 A19.out).mono ?_); (case side1 => exact Go.Proofs.YtcpiapenagbapaaDoor.PlateWalk.Laid.below hLaid (by repeat (first | (with_reducible first | exact HB.out | apply below_alloc | apply pw_below_drewN | apply below_drew1) | exact HB.out))); rintro e w39 ⟨rfl, hb⟩; have n0_ := Aside0.mk (below_step (by repeat (first | (with_reducible first | exact HB.out | apply below_alloc | apply pw_below_drewN | apply below_drew1) | exact HB.out)) hb); clear HB; have HB := n0_; clear n0_; (try clear hb); (try clear hb2); (try clear hk); (try clear hi)) | (go_at_call 18; (with_reducible refine (chargeparklaw36_is.calls (⟨#[65, 66, 49, 50]⟩ : ByteArray) (⟨#[66, 49, 50]⟩ : ByteArray) 2 false _ ?side1 A21.out).mono ?_); (case side1 => exact Go.Proofs.YtcpiapenagbapaaDoor.PlateWalk.Laid.below hLaid (by repeat (first | (with_reducible first | exact HB.out | apply below_alloc | apply pw_below_drewN | apply below_drew1) | exact HB.out))); rintro e w40 ⟨rfl, hb⟩; have n0_ := Aside0.mk (below_step (by repeat (first | (with_reducible first | exact HB.out | apply below_alloc | apply pw_below_drewN | apply below_drew1) | exact HB.out)) hb); clear HB; have HB := n0_; clear n0_; (try clear hb); (try clear hb2); (try clear hk); (try clear hi)))
                go_ret
                exact ⟨by first | rfl | (simp [errW_none, errW_some] <;> rfl) | (simp [*, errW_none, errW_some] <;> rfl), by repeat (first | (with_reducible first | exact HB.out | apply below_alloc | apply pw_below_drewN | apply below_drew1) | exact HB.out)⟩
            · replace c20 := Bool.eq_false_iff.mpr c20
              subst c20
              have H1 : (some false) = some r := by rw [if_neg (show ¬ (false = true) by decide)] at H; exact H
              clear H
              have H := H1
              clear H1
              obtain rfl := Option.some.inj H
              go_wp2_with (first | (go_at_call 18; (with_reducible refine (chargeparklaw36_is.calls (⟨#[65, 66, 49, 50]⟩ : ByteArray) (⟨#[65, 66, 49, 50]⟩ : ByteArray) 0 true _ ?side1 A15.out).mono ?_); (case side1 => exact Go.Proofs.YtcpiapenagbapaaDoor.PlateWalk.Laid.below hLaid (by repeat (first | (with_reducible first | exact HB.out | apply below_alloc | apply pw_below_drewN | apply below_drew1) | exact HB.out))); rintro e w41 ⟨rfl, hb⟩; have n0_ := Aside0.mk (below_step (by repeat (first | (with_reducible first | exact HB.out | apply below_alloc | apply pw_below_drewN | apply below_drew1) | exact HB.out)) hb); clear HB; have HB := n0_; clear n0_; (try clear hb); (try clear hb2); (try clear hk); (try clear hi)) | (go_at_call 18; (with_reducible refine (chargeparklaw36_is.calls (⟨#[65, 66, 49, 50]⟩ : ByteArray) (⟨#[65, 56, 49, 50]⟩ : ByteArray) 1 true _ ?side1 A17.out).mono ?_); (case side1 => exact Go.Proofs.YtcpiapenagbapaaDoor.PlateWalk.Laid.below hLaid (by repeat (first | (with_reducible first | exact HB.out | apply below_alloc | apply pw_below_drewN | apply below_drew1) | exact HB.out))); rintro e w42 ⟨rfl, hb⟩; have n0_ := Aside0.mk (below_step (by repeat (first | (with_reducible first | exact HB.out | apply below_alloc | apply pw_below_drewN | apply below_drew1) | exact HB.out)) hb); clear HB; have HB := n0_; clear n0_; (try clear hb); (try clear hb2); (try clear hk); (try clear hi)) | (go_at_call 18; (with_reducible refine (chargeparklaw36_is.calls (⟨#[65, 66, 49, 50]⟩ : ByteArray) (⟨#[65, 66, 49, 51]⟩ : ByteArray) 2 false _ ?side1 A19.out).mono ?_); (case side1 => exact Go.Proofs.YtcpiapenagbapaaDoor.PlateWalk.Laid.below hLaid (by repeat (first | (with_reducible first | exact HB.out | apply below_alloc | apply pw_below_drewN | apply below_drew1) | exact HB.out))); rintro e w43 ⟨rfl, hb⟩; have n0_ := Aside0.mk (below_step (by repeat (first | (with_reducible first | exact HB.out | apply below_alloc | apply pw_below_drewN | apply below_drew1) | exact HB.out)) hb); clear HB; have HB := n0_; clear n0_; (try clear hb); (try clear hb2); (try clear hk); (try clear hi)))
              go_ret
              exact ⟨by first | rfl | (simp [errW_none, errW_some] <;> rfl) | (simp [*, errW_none, errW_some] <;> rfl), by repeat (first | (with_reducible first | exact HB.out | apply below_alloc | apply pw_below_drewN | apply below_drew1) | exact HB.out)⟩
          · replace c18 := Bool.eq_false_iff.mpr c18
            subst c18
            have H1 : (some false) = some r := by rw [if_neg (show ¬ (false = true) by decide)] at H; exact H
            clear H
            have H := H1
            clear H1
            obtain rfl := Option.some.inj H
            go_wp2_with (first | (go_at_call 18; (with_reducible refine (chargeparklaw36_is.calls (⟨#[65, 66, 49, 50]⟩ : ByteArray) (⟨#[65, 66, 49, 50]⟩ : ByteArray) 0 true _ ?side1 A15.out).mono ?_); (case side1 => exact Go.Proofs.YtcpiapenagbapaaDoor.PlateWalk.Laid.below hLaid (by repeat (first | (with_reducible first | exact HB.out | apply below_alloc | apply pw_below_drewN | apply below_drew1) | exact HB.out))); rintro e w44 ⟨rfl, hb⟩; have n0_ := Aside0.mk (below_step (by repeat (first | (with_reducible first | exact HB.out | apply below_alloc | apply pw_below_drewN | apply below_drew1) | exact HB.out)) hb); clear HB; have HB := n0_; clear n0_; (try clear hb); (try clear hb2); (try clear hk); (try clear hi)) | (go_at_call 18; (with_reducible refine (chargeparklaw36_is.calls (⟨#[65, 66, 49, 50]⟩ : ByteArray) (⟨#[65, 56, 49, 50]⟩ : ByteArray) 1 false _ ?side1 A17.out).mono ?_); (case side1 => exact Go.Proofs.YtcpiapenagbapaaDoor.PlateWalk.Laid.below hLaid (by repeat (first | (with_reducible first | exact HB.out | apply below_alloc | apply pw_below_drewN | apply below_drew1) | exact HB.out))); rintro e w45 ⟨rfl, hb⟩; have n0_ := Aside0.mk (below_step (by repeat (first | (with_reducible first | exact HB.out | apply below_alloc | apply pw_below_drewN | apply below_drew1) | exact HB.out)) hb); clear HB; have HB := n0_; clear n0_; (try clear hb); (try clear hb2); (try clear hk); (try clear hi)))
            go_ret
            exact ⟨by first | rfl | (simp [errW_none, errW_some] <;> rfl) | (simp [*, errW_none, errW_some] <;> rfl), by repeat (first | (with_reducible first | exact HB.out | apply below_alloc | apply pw_below_drewN | apply below_drew1) | exact HB.out)⟩
        · replace c16 := Bool.eq_false_iff.mpr c16
          subst c16
          have H1 : (some false) = some r := by rw [if_neg (show ¬ (false = true) by decide)] at H; exact H
          clear H
          have H := H1
          clear H1
          obtain rfl := Option.some.inj H
          go_wp2_with (first | (go_at_call 18; (with_reducible refine (chargeparklaw36_is.calls (⟨#[65, 66, 49, 50]⟩ : ByteArray) (⟨#[65, 66, 49, 50]⟩ : ByteArray) 0 false _ ?side1 A15.out).mono ?_); (case side1 => exact Go.Proofs.YtcpiapenagbapaaDoor.PlateWalk.Laid.below hLaid (by repeat (first | (with_reducible first | exact HB.out | apply below_alloc | apply pw_below_drewN | apply below_drew1) | exact HB.out))); rintro e w46 ⟨rfl, hb⟩; have n0_ := Aside0.mk (below_step (by repeat (first | (with_reducible first | exact HB.out | apply below_alloc | apply pw_below_drewN | apply below_drew1) | exact HB.out)) hb); clear HB; have HB := n0_; clear n0_; (try clear hb); (try clear hb2); (try clear hk); (try clear hi)))
          go_ret
          exact ⟨by first | rfl | (simp [errW_none, errW_some] <;> rfl) | (simp [*, errW_none, errW_some] <;> rfl), by repeat (first | (with_reducible first | exact HB.out | apply below_alloc | apply pw_below_drewN | apply below_drew1) | exact HB.out)⟩
      · replace c14 := Bool.eq_false_iff.mpr c14
        subst c14
        have H1 : (some false) = some r := by rw [if_neg (show ¬ (false = true) by decide)] at H; exact H
        clear H
        have H := H1
        clear H1
        obtain rfl := Option.some.inj H
        go_wp2
        go_ret
        exact ⟨by first | rfl | (simp [errW_none, errW_some] <;> rfl) | (simp [*, errW_none, errW_some] <;> rfl), by repeat (first | (with_reducible first | exact HB.out | apply below_alloc | apply pw_below_drewN | apply below_drew1) | exact HB.out)⟩

/-! ### chargeparkref36_Valid: function 13 -/
def chargeparkref36_Valid.l0 : Nat → ByteArray → Int → Option (Bool)
  | 0, _, _ => none
  | k + 1, x0, x3 => if x3 < (x0.size : Int) then (if 0 ≤ x3 then (if (bt x0 x3) ≥ 65 then (if (bt x0 x3) ≥ 48 then (if ((bt x0 x3) ≤ 90) then (chargeparkref36_Valid.l0 k x0 (wrap64 (x3 + 1))) else (if ((bt x0 x3) ≤ 57) then (chargeparkref36_Valid.l0 k x0 (wrap64 (x3 + 1))) else (some false))) else (if ((bt x0 x3) ≤ 90) then (chargeparkref36_Valid.l0 k x0 (wrap64 (x3 + 1))) else (some false))) else (if (bt x0 x3) ≥ 48 then (if ((bt x0 x3) ≤ 57) then (chargeparkref36_Valid.l0 k x0 (wrap64 (x3 + 1))) else (some false)) else (some false))) else (none)) else (if (x0.size : Int) ≥ 1 then (some (decide ((x0.size : Int) ≤ 10))) else (some false))
def chargeparkref36_Valid.f (k : Nat) (a0 : ByteArray) : Option (Bool) := chargeparkref36_Valid.l0 k a0 0
theorem chargeparkref36_Valid.mono_l : ∀ k, (∀ y0 y1, LeO (chargeparkref36_Valid.l0 k y0 y1) (chargeparkref36_Valid.l0 (k + 1) y0 y1))
  | 0 => fun _ _ r h => by simp [chargeparkref36_Valid.l0] at h
  | k + 1 => by
    have ih0 := chargeparkref36_Valid.mono_l k
    · intro y0 y1
      unfold chargeparkref36_Valid.l0
      repeat' first
      | (with_reducible exact ih0 _ _)
      | (with_reducible exact LeO.refl _)
      | (with_reducible exact LeO.none _)
      | (with_reducible refine LeO.ite ?_ ?_)
      | (with_reducible refine LeO.bind ?_ (fun _ => ?_))
      | exact ih0 _ _
      | exact LeO.none _
      | refine LeO.ite ?_ ?_
      | refine LeO.bind ?_ (fun _ => ?_)
theorem chargeparkref36_Valid.mono : ∀ a0 k, LeO (chargeparkref36_Valid.f k a0) (chargeparkref36_Valid.f (k + 1) a0) := by
  intro a0 k
  have ih0 := chargeparkref36_Valid.mono_l k
  unfold chargeparkref36_Valid.f
  repeat' first
      | (with_reducible exact ih0 _ _)
      | (with_reducible exact LeO.refl _)
      | (with_reducible exact LeO.none _)
      | (with_reducible refine LeO.ite ?_ ?_)
      | (with_reducible refine LeO.bind ?_ (fun _ => ?_))
      | exact ih0 _ _
      | exact LeO.none _
      | refine LeO.ite ?_ ?_
      | refine LeO.bind ?_ (fun _ => ?_)
set_option maxHeartbeats 8000000 in
set_option maxRecDepth 100000 in
theorem chargeparkref36_Valid.calls (k : Nat) (a0 : ByteArray) (r : Bool) (w : World) (h : chargeparkref36_Valid.f k a0 = some r) :
    Calls Tryd.prog 13 #[.string a0] w fun e w' => e = .returned (.bool r) ∧ Drawn0 w w' := by
  have H : (chargeparkref36_Valid.l0 k a0 0) = some r := h
  clear h
  have H' := Aside0.mk H
  clear H
  go_enter Tryd.func13, Tryd.ntmps13
  go_wp2
  go_loopg [3] k (fun kq v3 w' => ∃ (x3_1 : Int), v3 = .int .i64 x3_1 ∧ Aside0 (chargeparkref36_Valid.l0 kq a0 x3_1 = some r) ∧ Aside0 (kq ≤ k) ∧ Drawn0 w w')
  case atStart => exact ⟨(0), (by first | rfl | (simp; done) | (simp [*]; done)), H', ⟨Nat.le_refl _⟩, by repeat (first | exact Drawn0.refl _ | apply Drawn0.step)⟩
  case round =>
    clear H'
    try clear c1
    obtain ⟨x3_1, rfl, HA, HK1, ⟨m1, rfl⟩⟩ := hrel
    cases gk with
    | zero => exact absurd HA.out (by simp [chargeparkref36_Valid.l0])
    | succ k1 =>
      have H := HA.out
      clear HA
      simp only [chargeparkref36_Valid.l0] at H
      by_cases c2 : x3_1 < (a0.size : Int)
      · rw [if_pos c2] at H
        have c2b0 : decide (x3_1 < (a0.size : Int)) = true := decide_eq_true c2
        clear c2
        by_cases c3 : 0 ≤ x3_1
        · rw [if_pos c3] at H
          have c3b0 : decide (0 ≤ x3_1) = true := decide_eq_true c3
          clear c3
          by_cases c5 : (bt a0 x3_1) ≥ 65
          · rw [if_pos c5] at H
            have c5b0 : decide (65 ≤ (bt a0 x3_1)) = true := decide_eq_true c5
            clear c5
            by_cases c8 : (bt a0 x3_1) ≥ 48
            · rw [if_pos c8] at H
              have c8b0 : decide (48 ≤ (bt a0 x3_1)) = true := decide_eq_true c8
              clear c8
              by_cases c10 : ((bt a0 x3_1) ≤ 90)
              · rw [if_pos c10] at H
                have c10b0 : decide ((bt a0 x3_1) ≤ 90) = true := decide_eq_true c10
                clear c10
                have H' := Aside0.mk H
                clear H
                have p4 : 0 ≤ (x3_1 : Int) := of_decide_eq_true (by first | (with_reducible assumption) | assumption)
                have q4 : x3_1 < (a0.size : Int) := of_decide_eq_true (by first | (with_reducible assumption) | assumption)
                have hx4 := bt_at a0 x3_1
                replace p4 := eq_true p4
                replace q4 := eq_true q4
                have p6 : 0 ≤ (x3_1 : Int) := of_decide_eq_true (by first | (with_reducible assumption) | assumption)
                have q6 : x3_1 < (a0.size : Int) := of_decide_eq_true (by first | (with_reducible assumption) | assumption)
                have hx6 := bt_at a0 x3_1
                replace p6 := eq_true p6
                replace q6 := eq_true q6
                have p7 : 0 ≤ (x3_1 : Int) := of_decide_eq_true (by first | (with_reducible assumption) | assumption)
                have q7 : x3_1 < (a0.size : Int) := of_decide_eq_true (by first | (with_reducible assumption) | assumption)
                have hx7 := bt_at a0 x3_1
                replace p7 := eq_true p7
                replace q7 := eq_true q7
                have p9 : 0 ≤ (x3_1 : Int) := of_decide_eq_true (by first | (with_reducible assumption) | assumption)
                have q9 : x3_1 < (a0.size : Int) := of_decide_eq_true (by first | (with_reducible assumption) | assumption)
                have hx9 := bt_at a0 x3_1
                replace p9 := eq_true p9
                replace q9 := eq_true q9
                go_wp2
                go_roundg k1
                case measure => have := HK1.out; omega
                case rel => exact ⟨(wrap64 (x3_1 + 1)), (by first | rfl | (simp; done) | (simp [*]; done)), H', ⟨by have := HK1.out; omega⟩, by repeat (first | exact Drawn0.refl _ | apply Drawn0.step)⟩
              · rw [if_neg c10] at H
                have c10b0 : decide ((bt a0 x3_1) ≤ 90) = false := decide_eq_false c10
                clear c10
                by_cases c11 : ((bt a0 x3_1) ≤ 57)
                · rw [if_pos c11] at H
                  have c11b0 : decide ((bt a0 x3_1) ≤ 57) = true := decide_eq_true c11
                  clear c11
                  have H' := Aside0.mk H
                  clear H
                  have p4 : 0 ≤ (x3_1 : Int) := of_decide_eq_true (by first | (with_reducible assumption) | assumption)
                  have q4 : x3_1 < (a0.size : Int) := of_decide_eq_true (by first | (with_reducible assumption) | assumption)
                  have hx4 := bt_at a0 x3_1
                  replace p4 := eq_true p4
                  replace q4 := eq_true q4
                  have p6 : 0 ≤ (x3_1 : Int) := of_decide_eq_true (by first | (with_reducible assumption) | assumption)
                  have q6 : x3_1 < (a0.size : Int) := of_decide_eq_true (by first | (with_reducible assumption) | assumption)
                  have hx6 := bt_at a0 x3_1
                  replace p6 := eq_true p6
                  replace q6 := eq_true q6
                  have p7 : 0 ≤ (x3_1 : Int) := of_decide_eq_true (by first | (with_reducible assumption) | assumption)
                  have q7 : x3_1 < (a0.size : Int) := of_decide_eq_true (by first | (with_reducible assumption) | assumption)
                  have hx7 := bt_at a0 x3_1
                  replace p7 := eq_true p7
                  replace q7 := eq_true q7
                  have p9 : 0 ≤ (x3_1 : Int) := of_decide_eq_true (by first | (with_reducible assumption) | assumption)
                  have q9 : x3_1 < (a0.size : Int) := of_decide_eq_true (by first | (with_reducible assumption) | assumption)
                  have hx9 := bt_at a0 x3_1
                  replace p9 := eq_true p9
                  replace q9 := eq_true q9
                  go_wp2
                  go_roundg k1
                  case measure => have := HK1.out; omega
                  case rel => exact ⟨(wrap64 (x3_1 + 1)), (by first | rfl | (simp; done) | (simp [*]; done)), H', ⟨by have := HK1.out; omega⟩, by repeat (first | exact Drawn0.refl _ | apply Drawn0.step)⟩
                · rw [if_neg c11] at H
                  have c11b0 : decide ((bt a0 x3_1) ≤ 57) = false := decide_eq_false c11
                  clear c11
                  obtain rfl := Option.some.inj H
                  have p4 : 0 ≤ (x3_1 : Int) := of_decide_eq_true (by first | (with_reducible assumption) | assumption)
                  have q4 : x3_1 < (a0.size : Int) := of_decide_eq_true (by first | (with_reducible assumption) | assumption)
                  have hx4 := bt_at a0 x3_1
                  replace p4 := eq_true p4
                  replace q4 := eq_true q4
                  have p6 : 0 ≤ (x3_1 : Int) := of_decide_eq_true (by first | (with_reducible assumption) | assumption)
                  have q6 : x3_1 < (a0.size : Int) := of_decide_eq_true (by first | (with_reducible assumption) | assumption)
                  have hx6 := bt_at a0 x3_1
                  replace p6 := eq_true p6
                  replace q6 := eq_true q6
                  have p7 : 0 ≤ (x3_1 : Int) := of_decide_eq_true (by first | (with_reducible assumption) | assumption)
                  have q7 : x3_1 < (a0.size : Int) := of_decide_eq_true (by first | (with_reducible assumption) | assumption)
                  have hx7 := bt_at a0 x3_1
                  replace p7 := eq_true p7
                  replace q7 := eq_true q7
                  have p9 : 0 ≤ (x3_1 : Int) := of_decide_eq_true (by first | (with_reducible assumption) | assumption)
                  have q9 : x3_1 < (a0.size : Int) := of_decide_eq_true (by first | (with_reducible assumption) | assumption)
                  have hx9 := bt_at a0 x3_1
                  replace p9 := eq_true p9
                  replace q9 := eq_true q9
                  go_wp2
                  go_ret
                  exact ⟨by first | rfl | (simp; done) | (simp [*]; done), by repeat (first | exact Drawn0.refl _ | apply Drawn0.step)⟩
            · rw [if_neg c8] at H
              have c8b0 : decide (48 ≤ (bt a0 x3_1)) = false := decide_eq_false c8
              clear c8
              by_cases c12 : ((bt a0 x3_1) ≤ 90)
              · rw [if_pos c12] at H
                have c12b0 : decide ((bt a0 x3_1) ≤ 90) = true := decide_eq_true c12
                clear c12
                have H' := Aside0.mk H
                clear H
                have p4 : 0 ≤ (x3_1 : Int) := of_decide_eq_true (by first | (with_reducible assumption) | assumption)
                have q4 : x3_1 < (a0.size : Int) := of_decide_eq_true (by first | (with_reducible assumption) | assumption)
                have hx4 := bt_at a0 x3_1
                replace p4 := eq_true p4
                replace q4 := eq_true q4
                have p6 : 0 ≤ (x3_1 : Int) := of_decide_eq_true (by first | (with_reducible assumption) | assumption)
                have q6 : x3_1 < (a0.size : Int) := of_decide_eq_true (by first | (with_reducible assumption) | assumption)
                have hx6 := bt_at a0 x3_1
                replace p6 := eq_true p6
                replace q6 := eq_true q6
                have p7 : 0 ≤ (x3_1 : Int) := of_decide_eq_true (by first | (with_reducible assumption) | assumption)
                have q7 : x3_1 < (a0.size : Int) := of_decide_eq_true (by first | (with_reducible assumption) | assumption)
                have hx7 := bt_at a0 x3_1
                replace p7 := eq_true p7
                replace q7 := eq_true q7
                go_wp2
                go_roundg k1
                case measure => have := HK1.out; omega
                case rel => exact ⟨(wrap64 (x3_1 + 1)), (by first | rfl | (simp; done) | (simp [*]; done)), H', ⟨by have := HK1.out; omega⟩, by repeat (first | exact Drawn0.refl _ | apply Drawn0.step)⟩
              · rw [if_neg c12] at H
                have c12b0 : decide ((bt a0 x3_1) ≤ 90) = false := decide_eq_false c12
                clear c12
                obtain rfl := Option.some.inj H
                have p4 : 0 ≤ (x3_1 : Int) := of_decide_eq_true (by first | (with_reducible assumption) | assumption)
                have q4 : x3_1 < (a0.size : Int) := of_decide_eq_true (by first | (with_reducible assumption) | assumption)
                have hx4 := bt_at a0 x3_1
                replace p4 := eq_true p4
                replace q4 := eq_true q4
                have p6 : 0 ≤ (x3_1 : Int) := of_decide_eq_true (by first | (with_reducible assumption) | assumption)
                have q6 : x3_1 < (a0.size : Int) := of_decide_eq_true (by first | (with_reducible assumption) | assumption)
                have hx6 := bt_at a0 x3_1
                replace p6 := eq_true p6
                replace q6 := eq_true q6
                have p7 : 0 ≤ (x3_1 : Int) := of_decide_eq_true (by first | (with_reducible assumption) | assumption)
                have q7 : x3_1 < (a0.size : Int) := of_decide_eq_true (by first | (with_reducible assumption) | assumption)
                have hx7 := bt_at a0 x3_1
                replace p7 := eq_true p7
                replace q7 := eq_true q7
                go_wp2
                go_ret
                exact ⟨by first | rfl | (simp; done) | (simp [*]; done), by repeat (first | exact Drawn0.refl _ | apply Drawn0.step)⟩
          · rw [if_neg c5] at H
            have c5b0 : decide (65 ≤ (bt a0 x3_1)) = false := decide_eq_false c5
            clear c5
            by_cases c14 : (bt a0 x3_1) ≥ 48
            · rw [if_pos c14] at H
              have c14b0 : decide (48 ≤ (bt a0 x3_1)) = true := decide_eq_true c14
              clear c14
              by_cases c16 : ((bt a0 x3_1) ≤ 57)
              · rw [if_pos c16] at H
                have c16b0 : decide ((bt a0 x3_1) ≤ 57) = true := decide_eq_true c16
                clear c16
                have H' := Aside0.mk H
                clear H
                have p4 : 0 ≤ (x3_1 : Int) := of_decide_eq_true (by first | (with_reducible assumption) | assumption)
                have q4 : x3_1 < (a0.size : Int) := of_decide_eq_true (by first | (with_reducible assumption) | assumption)
                have hx4 := bt_at a0 x3_1
                replace p4 := eq_true p4
                replace q4 := eq_true q4
                have p13 : 0 ≤ (x3_1 : Int) := of_decide_eq_true (by first | (with_reducible assumption) | assumption)
                have q13 : x3_1 < (a0.size : Int) := of_decide_eq_true (by first | (with_reducible assumption) | assumption)
                have hx13 := bt_at a0 x3_1
                replace p13 := eq_true p13
                replace q13 := eq_true q13
                have p15 : 0 ≤ (x3_1 : Int) := of_decide_eq_true (by first | (with_reducible assumption) | assumption)
                have q15 : x3_1 < (a0.size : Int) := of_decide_eq_true (by first | (with_reducible assumption) | assumption)
                have hx15 := bt_at a0 x3_1
                replace p15 := eq_true p15
                replace q15 := eq_true q15
                go_wp2
                go_roundg k1
                case measure => have := HK1.out; omega
                case rel => exact ⟨(wrap64 (x3_1 + 1)), (by first | rfl | (simp; done) | (simp [*]; done)), H', ⟨by have := HK1.out; omega⟩, by repeat (first | exact Drawn0.refl _ | apply Drawn0.step)⟩
              · rw [if_neg c16] at H
                have c16b0 : decide ((bt a0 x3_1) ≤ 57) = false := decide_eq_false c16
                clear c16
                obtain rfl := Option.some.inj H
                have p4 : 0 ≤ (x3_1 : Int) := of_decide_eq_true (by first | (with_reducible assumption) | assumption)
                have q4 : x3_1 < (a0.size : Int) := of_decide_eq_true (by first | (with_reducible assumption) | assumption)
                have hx4 := bt_at a0 x3_1
                replace p4 := eq_true p4
                replace q4 := eq_true q4
                have p13 : 0 ≤ (x3_1 : Int) := of_decide_eq_true (by first | (with_reducible assumption) | assumption)
                have q13 : x3_1 < (a0.size : Int) := of_decide_eq_true (by first | (with_reducible assumption) | assumption)
                have hx13 := bt_at a0 x3_1
                replace p13 := eq_true p13
                replace q13 := eq_true q13
                have p15 : 0 ≤ (x3_1 : Int) := of_decide_eq_true (by first | (with_reducible assumption) | assumption)
                have q15 : x3_1 < (a0.size : Int) := of_decide_eq_true (by first | (with_reducible assumption) | assumption)
                have hx15 := bt_at a0 x3_1
                replace p15 := eq_true p15
                replace q15 := eq_true q15
                go_wp2
                go_ret
                exact ⟨by first | rfl | (simp; done) | (simp [*]; done), by repeat (first | exact Drawn0.refl _ | apply Drawn0.step)⟩
            · rw [if_neg c14] at H
              have c14b0 : decide (48 ≤ (bt a0 x3_1)) = false := decide_eq_false c14
              clear c14
              obtain rfl := Option.some.inj H
              have p4 : 0 ≤ (x3_1 : Int) := of_decide_eq_true (by first | (with_reducible assumption) | assumption)
              have q4 : x3_1 < (a0.size : Int) := of_decide_eq_true (by first | (with_reducible assumption) | assumption)
              have hx4 := bt_at a0 x3_1
              replace p4 := eq_true p4
              replace q4 := eq_true q4
              have p13 : 0 ≤ (x3_1 : Int) := of_decide_eq_true (by first | (with_reducible assumption) | assumption)
              have q13 : x3_1 < (a0.size : Int) := of_decide_eq_true (by first | (with_reducible assumption) | assumption)
              have hx13 := bt_at a0 x3_1
              replace p13 := eq_true p13
              replace q13 := eq_true q13
              go_wp2
              go_ret
              exact ⟨by first | rfl | (simp; done) | (simp [*]; done), by repeat (first | exact Drawn0.refl _ | apply Drawn0.step)⟩
        · rw [if_neg c3] at H
          exact absurd H (by simp)
      · rw [if_neg c2] at H
        have c2b0 : decide (x3_1 < (a0.size : Int)) = false := decide_eq_false c2
        clear c2
        by_cases c17 : (a0.size : Int) ≥ 1
        · rw [if_pos c17] at H
          have c17b0 : decide (1 ≤ (a0.size : Int)) = true := decide_eq_true c17
          have c17b1 : decide (1 ≤ a0.size) = true := decide_eq_true (by omega)
          clear c17
          obtain rfl := Option.some.inj H
          go_wp2
          go_ret
          exact ⟨by first | rfl | (simp; done) | (simp [*]; done), by repeat (first | exact Drawn0.refl _ | apply Drawn0.step)⟩
        · rw [if_neg c17] at H
          have c17b0 : decide (1 ≤ (a0.size : Int)) = false := decide_eq_false c17
          have c17b1 : decide (1 ≤ a0.size) = false := decide_eq_false (by omega)
          clear c17
          obtain rfl := Option.some.inj H
          go_wp2
          go_ret
          exact ⟨by first | rfl | (simp; done) | (simp [*]; done), by repeat (first | exact Drawn0.refl _ | apply Drawn0.step)⟩

/-! ### chargeparkref36_Twin: function 21 -/
def chargeparkref36_Twin.f (a0 : Int) : Option (Int) := some (Go.Proofs.YtcpiapenagbapaaDoor.PlateTwin.twinI a0)
/-- The reference's Twin. -/
theorem chargeparkref36_Twin.calls (a0 : Int) (r : Int) (w : World) (h : chargeparkref36_Twin.f a0 = some r) :
    Calls Tryd.prog 21 #[.int .u8 a0] w (fun e w' => e = .returned (.int .u8 r) ∧ Below w.heap.size w w') := Go.Proofs.YtcpiapenagbapaaDoor.PlateTwin.twin_ext a0 r w h

/-! ### chargeparkref36_Cost: function 20 -/
def chargeparkref36_Cost.f (a0 : Int) (a1 : Int) : Option (Int) := if a0 = a1 then (some 0) else ((chargeparkref36_Twin.f a0).bind fun t115 => (if t115 = a1 then (some 1) else (some 2)))
set_option maxHeartbeats 8000000 in
set_option maxRecDepth 100000 in
theorem chargeparkref36_Cost.calls (a0 : Int) (a1 : Int) (r : Int) (w : World) (h : chargeparkref36_Cost.f a0 a1 = some r) :
    Calls Tryd.prog 20 #[.int .u8 a0, .int .u8 a1] w fun e w' => e = .returned (.int .i64 r) ∧ Below w.heap.size w w' := by
  have HB := Aside0.mk (Below.refl w.heap.size w)
  have H : (if a0 = a1 then (some 0) else ((chargeparkref36_Twin.f a0).bind fun t115 => (if t115 = a1 then (some 1) else (some 2)))) = some r := h
  clear h
  by_cases c3 : a0 = a1
  · rw [if_pos c3] at H
    have c3b0 : (a0 == a1) = true := beq_iff_eq.mpr c3
    have c3b1 : (a0 != a1) = false := bne_eq_false_iff_eq.mpr c3
    clear c3
    obtain rfl := Option.some.inj H
    go_enter Tryd.func20, Tryd.ntmps20
    go_wp2
    go_ret
    exact ⟨by first | rfl | (simp [errW_none, errW_some] <;> rfl) | (simp [*, errW_none, errW_some] <;> rfl), by repeat (first | (with_reducible first | exact HB.out | apply below_alloc | apply pw_below_drewN | apply below_drew1) | exact HB.out)⟩
  · rw [if_neg c3] at H
    have c3b0 : (a0 == a1) = false := beq_eq_false_iff_ne.mpr c3
    have c3b1 : (a0 != a1) = true := bne_iff_ne.mpr c3
    replace H := Option.bind_eq_some_iff.mp H
    obtain ⟨t115, A40, H⟩ := H
    replace H : (if t115 = a1 then (some 1) else (some 2)) = some r := H
    have A4 := Aside0.mk A40
    clear A40
    by_cases c5 : t115 = a1
    · rw [if_pos c5] at H
      have c5b0 : (t115 == a1) = true := beq_iff_eq.mpr c5
      have c5b1 : (t115 != a1) = false := bne_eq_false_iff_eq.mpr c5
      clear c5
      obtain rfl := Option.some.inj H
      go_enter Tryd.func20, Tryd.ntmps20
      go_wp2_with (first | ((with_reducible refine gate_callee (f := 21) rfl ?_); refine goesL_ (some 9) rfl rfl Tryd.func21 (by kernel_rfl) rfl #[.int .u8 a0] rfl (by (try simp only [List.map_toArray, List.map_cons, List.map_nil]); first | done | rfl | (simp only [List.length_drop, List.length_take]; rfl)) ?_; (with_reducible refine (chargeparkref36_Twin.calls a0 t115 _ A4.out).mono ?_); rintro e w6 ⟨rfl, hb⟩; refine ⟨_, rfl, ?_⟩; have n0_ := Aside0.mk (below_step (by repeat (first | (with_reducible first | exact HB.out | apply below_alloc | apply pw_below_drewN | apply below_drew1) | exact HB.out)) hb); clear HB; have HB := n0_; clear n0_; (try clear hb); (try clear hb2); (try clear hk); (try clear hi)))
      go_ret
      exact ⟨by first | rfl | (simp [errW_none, errW_some] <;> rfl) | (simp [*, errW_none, errW_some] <;> rfl), by repeat (first | (with_reducible first | exact HB.out | apply below_alloc | apply pw_below_drewN | apply below_drew1) | exact HB.out)⟩
    · rw [if_neg c5] at H
      have c5b0 : (t115 == a1) = false := beq_eq_false_iff_ne.mpr c5
      have c5b1 : (t115 != a1) = true := bne_iff_ne.mpr c5
      obtain rfl := Option.some.inj H
      go_enter Tryd.func20, Tryd.ntmps20
      go_wp2_with (first | ((with_reducible refine gate_callee (f := 21) rfl ?_); refine goesL_ (some 9) rfl rfl Tryd.func21 (by kernel_rfl) rfl #[.int .u8 a0] rfl (by (try simp only [List.map_toArray, List.map_cons, List.map_nil]); first | done | rfl | (simp only [List.length_drop, List.length_take]; rfl)) ?_; (with_reducible refine (chargeparkref36_Twin.calls a0 t115 _ A4.out).mono ?_); rintro e w7 ⟨rfl, hb⟩; refine ⟨_, rfl, ?_⟩; have n0_ := Aside0.mk (below_step (by repeat (first | (with_reducible first | exact HB.out | apply below_alloc | apply pw_below_drewN | apply below_drew1) | exact HB.out)) hb); clear HB; have HB := n0_; clear n0_; (try clear hb); (try clear hb2); (try clear hk); (try clear hi)))
      go_ret
      exact ⟨by first | rfl | (simp [errW_none, errW_some] <;> rfl) | (simp [*, errW_none, errW_some] <;> rfl), by repeat (first | (with_reducible first | exact HB.out | apply below_alloc | apply pw_below_drewN | apply below_drew1) | exact HB.out)⟩

end Go.Proofs.YtcpiapenagbapaaDoor.PPlateMatchesReference
