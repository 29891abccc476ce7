-- Written by a program of this session (xprint.py, over the kit's print.py), with contracts proved by hand.
import Derived.Test.YtcpiapenagbapaaDoorPPlateMatchesReferencex0
import Derived.Test.YtcpiapenagbapaaDoorPPlateMatchesReferencex1
namespace Go.Proofs.YtcpiapenagbapaaDoor.PPlateMatchesReference
open Go.RowKit Go.Proofs.YtcpiapenagbapaaDoorW.PrintWords Go.Proofs.YtcpiapenagbapaaDoorW.PrintLast Go.Proofs.YtcpiapenagbapaaDoorW.PrintMore
attribute [local go_sem] max2_int min2_int max_two min_two max_three min_three max_four min_four   -- for this text's walks alone
set_option linter.unusedVariables false
set_option linter.unusedSimpArgs false

/-! ### chargeparkref36_Distance: function 11 -/
mutual
def chargeparkref36_Distance.j0 : Nat → ByteArray → ByteArray → Bool → Option (Int × Int)
  | 0, _, _, _ => none
  | k + 1, x0, x1, x21 => if x21 = true then (some (0, 1)) else (if 0 ≤ (wrap64 ((x0.size : Int) + 1)) then (if (wrap64 ((x0.size : Int) + 1) : Int).toNat ≤ 11728124029610 then (chargeparkref36_Distance.l0 k x0 x1 (List.replicate (wrap64 ((x0.size : Int) + 1) : Int).toNat []) (x0.size : Int)) else (none)) else (none))
def chargeparkref36_Distance.l0 : Nat → ByteArray → ByteArray → List (List Int) → Int → Option (Int × Int)
  | 0, _, _, _, _ => none
  | k + 1, x0, x1, x8, x9 => if x9 ≥ 0 then (if 0 ≤ (wrap64 ((x1.size : Int) + 1)) then (if (wrap64 ((x1.size : Int) + 1) : Int).toNat ≤ 35184372088832 then (if 0 ≤ x9 then (if x9 < (x8.length : Int) then (chargeparkref36_Distance.l1 k x0 x1 (x8.set (x9 : Int).toNat (List.replicate (wrap64 ((x1.size : Int) + 1) : Int).toNat 0)) x9 (x1.size : Int)) else (none)) else (none)) else (none)) else (none)) else (if 0 < (x8.length : Int) then (if 0 < ((rd_L4 x8 0).length : Int) then (some (rd (rd_L4 x8 0) 0, 0)) else (none)) else (none))
def chargeparkref36_Distance.l1 : Nat → ByteArray → ByteArray → List (List Int) → Int → Int → Option (Int × Int)
  | 0, _, _, _, _, _ => none
  | k + 1, x0, x1, x8, x9, x10 => if x10 ≥ 0 then (if x9 = (x0.size : Int) then (if 0 ≤ x9 then (if x9 < (x8.length : Int) then (if 0 ≤ x10 then (if x10 < ((rd_L4 x8 x9).length : Int) then (chargeparkref36_Distance.l1 k x0 x1 (x8.set (x9 : Int).toNat ((rd_L4 x8 x9).set (x10 : Int).toNat (wrap64 (2 * (wrap64 ((x1.size : Int) - x10)))))) x9 (wrap64 (x10 - 1))) else (none)) else (none)) else (none)) else (none)) else (if x10 = (x1.size : Int) then (if 0 ≤ x9 then (if x9 < (x8.length : Int) then (if 0 ≤ x10 then (if x10 < ((rd_L4 x8 x9).length : Int) then (chargeparkref36_Distance.l1 k x0 x1 (x8.set (x9 : Int).toNat ((rd_L4 x8 x9).set (x10 : Int).toNat (wrap64 (2 * (wrap64 ((x0.size : Int) - x9)))))) x9 (wrap64 (x10 - 1))) else (none)) else (none)) else (none)) else (none)) else (if 0 ≤ (wrap64 (x9 + 1)) then (if (wrap64 (x9 + 1)) < (x8.length : Int) then (if 0 ≤ (wrap64 (x10 + 1)) then (if (wrap64 (x10 + 1)) < ((rd_L4 x8 (wrap64 (x9 + 1))).length : Int) then (if 0 ≤ x9 then (if x9 < (x0.size : Int) then (if 0 ≤ x10 then (if x10 < (x1.size : Int) then ((chargeparkref36_Cost.f (bt x0 x9) (bt x1 x10)).bind fun t137 => (if x10 < ((rd_L4 x8 (wrap64 (x9 + 1))).length : Int) then (if x9 < (x8.length : Int) then (if (wrap64 (x10 + 1)) < ((rd_L4 x8 x9).length : Int) then (if x10 < ((rd_L4 x8 x9).length : Int) then (chargeparkref36_Distance.l1 k x0 x1 (x8.set (x9 : Int).toNat ((rd_L4 x8 x9).set (x10 : Int).toNat (mn (mn (wrap64 ((rd (rd_L4 x8 (wrap64 (x9 + 1))) (wrap64 (x10 + 1))) + t137)) (wrap64 ((rd (rd_L4 x8 (wrap64 (x9 + 1))) x10) + 2))) (wrap64 ((rd (rd_L4 x8 x9) (wrap64 (x10 + 1))) + 2))))) x9 (wrap64 (x10 - 1))) else (none)) else (none)) else (none)) else (none))) else (none)) else (none)) else (none)) else (none)) else (none)) else (none)) else (none)) else (none)))) else (chargeparkref36_Distance.l0 k x0 x1 x8 (wrap64 (x9 - 1)))
end
def chargeparkref36_Distance.f (k : Nat) (a0 : ByteArray) (a1 : ByteArray) : Option (Int × Int) := (chargeparkref36_Valid.f k a0).bind fun t116 => ((chargeparkref36_Valid.f k a1).bind fun t117 => (if t116 = true then (chargeparkref36_Distance.j0 k a0 a1 (!t117)) else (chargeparkref36_Distance.j0 k a0 a1 true)))
theorem chargeparkref36_Distance.mono_l : ∀ k, (∀ y0 y1 y2, LeO (chargeparkref36_Distance.j0 k y0 y1 y2) (chargeparkref36_Distance.j0 (k + 1) y0 y1 y2)) ∧ (∀ y0 y1 y2 y3, LeO (chargeparkref36_Distance.l0 k y0 y1 y2 y3) (chargeparkref36_Distance.l0 (k + 1) y0 y1 y2 y3)) ∧ (∀ y0 y1 y2 y3 y4, LeO (chargeparkref36_Distance.l1 k y0 y1 y2 y3 y4) (chargeparkref36_Distance.l1 (k + 1) y0 y1 y2 y3 y4))
  | 0 => ⟨fun _ _ _ r h => by simp [chargeparkref36_Distance.j0] at h, fun _ _ _ _ r h => by simp [chargeparkref36_Distance.l0] at h, fun _ _ _ _ _ r h => by simp [chargeparkref36_Distance.l1] at h⟩
  | k + 1 => by
    obtain ⟨ih0, ih1, ih2⟩ := chargeparkref36_Distance.mono_l k
    refine ⟨?_, ?_, ?_⟩
    · intro y0 y1 y2
      unfold chargeparkref36_Distance.j0
      repeat' first
      | (with_reducible exact ih0 _ _ _)
      | (with_reducible exact ih1 _ _ _ _)
      | (with_reducible exact ih2 _ _ _ _ _)
      | (with_reducible exact chargeparkref36_Valid.mono _ _)
      | (with_reducible exact LeO.refl _)
      | (with_reducible exact LeO.none _)
      | (with_reducible refine LeO.ite ?_ ?_)
      | (with_reducible refine LeO.bind ?_ (fun _ => ?_))
      | exact ih0 _ _ _
      | exact ih1 _ _ _ _
      | exact ih2 _ _ _ _ _
      | exact chargeparkref36_Valid.mono _ _
      | exact LeO.none _
      | refine LeO.ite ?_ ?_
      | refine LeO.bind ?_ (fun _ => ?_)
    · intro y0 y1 y2 y3
      unfold chargeparkref36_Distance.l0
      repeat' first
      | (with_reducible exact ih0 _ _ _)
      | (with_reducible exact ih1 _ _ _ _)
      | (with_reducible exact ih2 _ _ _ _ _)
      | (with_reducible exact chargeparkref36_Valid.mono _ _)
      | (with_reducible exact LeO.refl _)
      | (with_reducible exact LeO.none _)
      | (with_reducible refine LeO.ite ?_ ?_)
      | (with_reducible refine LeO.bind ?_ (fun _ => ?_))
      | exact ih0 _ _ _
      | exact ih1 _ _ _ _
      | exact ih2 _ _ _ _ _
      | exact chargeparkref36_Valid.mono _ _
      | exact LeO.none _
      | refine LeO.ite ?_ ?_
      | refine LeO.bind ?_ (fun _ => ?_)
    · intro y0 y1 y2 y3 y4
      unfold chargeparkref36_Distance.l1
      repeat' first
      | (with_reducible exact ih0 _ _ _)
      | (with_reducible exact ih1 _ _ _ _)
      | (with_reducible exact ih2 _ _ _ _ _)
      | (with_reducible exact chargeparkref36_Valid.mono _ _)
      | (with_reducible exact LeO.refl _)
      | (with_reducible exact LeO.none _)
      | (with_reducible refine LeO.ite ?_ ?_)
      | (with_reducible refine LeO.bind ?_ (fun _ => ?_))
      | exact ih0 _ _ _
      | exact ih1 _ _ _ _
      | exact ih2 _ _ _ _ _
      | exact chargeparkref36_Valid.mono _ _
      | exact LeO.none _
      | refine LeO.ite ?_ ?_
      | refine LeO.bind ?_ (fun _ => ?_)
theorem chargeparkref36_Distance.mono : ∀ a0 a1 k, LeO (chargeparkref36_Distance.f k a0 a1) (chargeparkref36_Distance.f (k + 1) a0 a1) := by
  intro a0 a1 k
  obtain ⟨ih0, ih1, ih2⟩ := chargeparkref36_Distance.mono_l k
  unfold chargeparkref36_Distance.f
  repeat' first
      | (with_reducible exact ih0 _ _ _)
      | (with_reducible exact ih1 _ _ _ _)
      | (with_reducible exact ih2 _ _ _ _ _)
      | (with_reducible exact chargeparkref36_Valid.mono _ _)
      | (with_reducible exact LeO.refl _)
      | (with_reducible exact LeO.none _)
      | (with_reducible refine LeO.ite ?_ ?_)
      | (with_reducible refine LeO.bind ?_ (fun _ => ?_))
      | exact ih0 _ _ _
      | exact ih1 _ _ _ _
      | exact ih2 _ _ _ _ _
      | exact chargeparkref36_Valid.mono _ _
      | exact LeO.none _
      | refine LeO.ite ?_ ?_
      | refine LeO.bind ?_ (fun _ => ?_)
def chargeparkref36_Distance.T17 : Bool × List (List Nat × List Nat) := (true, [([], []), ([], []), ([1], [1]), ([0, 2], [0, 2]), ([3], [3]), ([], []), ([5], [5]), ([4, 6], [4, 6]), ([7], [7]), ([], []), ([], []), ([9, 10], [9, 10]), ([], []), ([], []), ([12, 13], [12, 13]), ([11, 14], [11, 14]), ([8, 15], [8, 15]), ([16, 15, 0, 1, 2, 3, 4, 5, 6, 7, 8, 9, 10, 11, 12, 13, 14, 15, 16], [16])])
def chargeparkref36_Distance.B17 : List Nat := [0, 0, 2, 7, 15, 0, 32, 127, 255, 0, 0, 1536, 0, 0, 12288, 32256, 65535, 131071]
theorem chargeparkref36_Distance.tab17 : rtab .any (opsOf Tryd.f11 17) = chargeparkref36_Distance.T17 := by kernel_rfl
theorem chargeparkref36_Distance.bits17 : waitsOk chargeparkref36_Distance.T17.2 chargeparkref36_Distance.B17 = true := by kernel_rfl
def chargeparkref36_Distance.T19 : Bool × List (List Nat × List Nat) := (true, [([], []), ([], []), ([0, 1], [0, 1]), ([2], [2]), ([], []), ([], []), ([], []), ([], []), ([6, 7], [6, 7]), ([8], [8]), ([], []), ([10], [10]), ([9, 11], [9, 11]), ([12], [12]), ([13], [13]), ([5, 14], [5, 14]), ([3, 4, 0, 1, 2, 3, 4, 5, 6, 7, 8, 9, 10, 11, 12, 13, 14, 15], [3, 4]), ([16, 15, 0, 1, 2, 3, 4, 5, 6, 7, 8, 9, 10, 11, 12, 13, 14, 15], [15, 16])])
def chargeparkref36_Distance.B19 : List Nat := [0, 0, 3, 7, 0, 0, 0, 0, 192, 448, 0, 1024, 4032, 8128, 16320, 32736, 65535, 131071]
theorem chargeparkref36_Distance.tab19 : rtab .any (opsOf Tryd.f11 19) = chargeparkref36_Distance.T19 := by kernel_rfl
theorem chargeparkref36_Distance.bits19 : waitsOk chargeparkref36_Distance.T19.2 chargeparkref36_Distance.B19 = true := by kernel_rfl
set_option maxHeartbeats 8000000 in
set_option maxRecDepth 100000 in
theorem chargeparkref36_Distance.calls (k : Nat) (a0 : ByteArray) (a1 : ByteArray) (r1 : Int) (r2 : Int) (w : World) (h : chargeparkref36_Distance.f k a0 a1 = some (r1, r2)) :
    Calls Tryd.prog 11 #[.string a0, .string a1] w fun e w' => e = .returned (.tuple #[.int .i64 r1, .int .i64 r2]) ∧ Below w.heap.size w w' := by
  have HB := Aside0.mk (Below.refl w.heap.size w)
  have H : ((chargeparkref36_Valid.f k a0).bind fun t116 => ((chargeparkref36_Valid.f k a1).bind fun t117 => (if t116 = true then (chargeparkref36_Distance.j0 k a0 a1 (!t117)) else (chargeparkref36_Distance.j0 k a0 a1 true)))) = some (r1, r2) := h
  clear h
  replace H := Option.bind_eq_some_iff.mp H
  obtain ⟨t116, A30, H⟩ := H
  replace H : ((chargeparkref36_Valid.f k a1).bind fun t117 => (if t116 = true then (chargeparkref36_Distance.j0 k a0 a1 (!t117)) else (chargeparkref36_Distance.j0 k a0 a1 true))) = some (r1, r2) := H
  have A3 := Aside0.mk A30
  clear A30
  replace H := Option.bind_eq_some_iff.mp H
  obtain ⟨t117, A40, H⟩ := H
  replace H : (if t116 = true then (chargeparkref36_Distance.j0 k a0 a1 (!t117)) else (chargeparkref36_Distance.j0 k a0 a1 true)) = some (r1, r2) := H
  have A4 := Aside0.mk A40
  clear A40
  have HC5 := Aside0.mk H
  clear H
  go_enter Tryd.func11, Tryd.ntmps11
  go_upto_region 3 with (first | ((with_reducible refine gate_callee (f := 13) rfl ?_); refine goesL_ (some 13) rfl rfl Tryd.func13 (by kernel_rfl) rfl #[.string a0] rfl (by (try simp only [List.map_toArray, List.map_cons, List.map_nil]); first | done | rfl | (simp only [List.length_drop, List.length_take]; rfl)) ?_; (with_reducible refine (chargeparkref36_Valid.calls k a0 t116 _ A3.out).mono ?_); rintro e w' ⟨rfl, ⟨nd, rfl⟩⟩; refine ⟨_, rfl, ?_⟩) | ((with_reducible refine gate_callee (f := 13) rfl ?_); refine goesL_ (some 15) rfl rfl Tryd.func13 (by kernel_rfl) rfl #[.string a1] rfl (by (try simp only [List.map_toArray, List.map_cons, List.map_nil]); first | done | rfl | (simp only [List.length_drop, List.length_take]; rfl)) ?_; (with_reducible refine (chargeparkref36_Valid.calls k a1 t117 _ A4.out).mono ?_); rintro e w' ⟨rfl, ⟨nd, rfl⟩⟩; refine ⟨_, rfl, ?_⟩))
  (try simp only [Act.put, List.setIfInBounds_toArray, List.set_cons_zero, List.set_cons_succ])
  go_cut [21] (fun v21 wc => ∃ (kq : Nat) (x21_4 : Bool), v21 = .bool x21_4 ∧ Aside0 (chargeparkref36_Distance.j0 kq a0 a1 x21_4 = some (r1, r2)) ∧ Aside0 (kq ≤ k) ∧ Aside0 (Below w.heap.size w wc))
  case first =>
    have H := HC5.out
    clear HC5
    by_cases c6 : t116 = true
    · subst c6
      have H1 : (chargeparkref36_Distance.j0 k a0 a1 (!t117)) = some (r1, r2) := by rw [if_pos rfl] at H; exact H
      clear H
      have H := H1
      clear H1
      have H' := Aside0.mk H
      clear H
      go_wp2
      go_meet
      case rel => exact ⟨_, (!t117), (by first | rfl | (simp; done) | (simp [*]; done)), H', ⟨by first | omega | exact Nat.le_refl _⟩, ⟨by repeat (first | (with_reducible first | exact HB.out | apply below_alloc | apply pw_below_drewN | apply below_drew1) | exact HB.out)⟩⟩
    · replace c6 := Bool.eq_false_iff.mpr c6
      subst c6
      have H1 : (chargeparkref36_Distance.j0 k a0 a1 true) = some (r1, r2) := by rw [if_neg (show ¬ (false = true) by decide)] at H; exact H
      clear H
      have H := H1
      clear H1
      have H' := Aside0.mk H
      clear H
      go_wp2
      go_meet
      case rel => exact ⟨_, (true), (by first | rfl | (simp; done) | (simp [*]; done)), H', ⟨by first | omega | exact Nat.le_refl _⟩, ⟨by repeat (first | (with_reducible first | exact HB.out | apply below_alloc | apply pw_below_drewN | apply below_drew1) | exact HB.out)⟩⟩
  case rest =>
    clear HC5
    try clear c1
    try clear p2
    try clear c6
    obtain ⟨kq, x21_4, rfl, HA, HJ4, HB⟩ := hcut
    cases kq with
    | zero => exact absurd HA.out (by simp [chargeparkref36_Distance.j0])
    | succ kj4 =>
      have H := HA.out
      clear HA
      simp only [chargeparkref36_Distance.j0] at H
      by_cases c7 : x21_4 = true
      · subst c7
        have H1 : (some (0, 1)) = some (r1, r2) := by rw [if_pos rfl] at H; exact H
        clear H
        have H := H1
        clear H1
        simp only [Option.some.injEq, Prod.mk.injEq] at H
        obtain ⟨rfl, rfl⟩ := H
        go_wp2
        go_ret2
        exact ⟨by first | rfl | (simp [errW_none, errW_some] <;> rfl) | (simp [*, errW_none, errW_some] <;> rfl), by repeat (first | (with_reducible first | exact HB.out | apply below_alloc | apply pw_below_drewN | apply below_drew1) | exact HB.out)⟩
      · replace c7 := Bool.eq_false_iff.mpr c7
        subst c7
        have H1 : (if 0 ≤ (wrap64 ((a0.size : Int) + 1)) then (if (wrap64 ((a0.size : Int) + 1) : Int).toNat ≤ 11728124029610 then (chargeparkref36_Distance.l0 kj4 a0 a1 (List.replicate (wrap64 ((a0.size : Int) + 1) : Int).toNat []) (a0.size : Int)) else (none)) else (none)) = some (r1, r2) := by rw [if_neg (show ¬ (false = true) by decide)] at H; exact H
        clear H
        have H := H1
        clear H1
        obtain ⟨ji8, hji8⟩ : ∃ j_ : Int, (wrap64 ((a0.size : Int) + 1)) = j_ := ⟨_, rfl⟩
        replace H : (if 0 ≤ (ji8) then (if (ji8 : Int).toNat ≤ 11728124029610 then (chargeparkref36_Distance.l0 kj4 a0 a1 (List.replicate (ji8 : Int).toNat []) (a0.size : Int)) else (none)) else (none)) = some (r1, r2) := by first | (rw [hji8] at H; exact H) | (simp only [hji8] at H ⊢; exact H)
        have hji8w : (IntKind.i64.wrap ((a0.size : Int) + 1)) = ji8 := (i64_w _).trans hji8
        by_cases c9 : 0 ≤ (ji8)
        · rw [if_pos c9] at H
          have c9b0 := eq_true c9
          have c9b1 : decide (0 ≤ (ji8)) = true := decide_eq_true c9
          clear c9
          by_cases c10 : (ji8 : Int).toNat ≤ 11728124029610
          · rw [if_pos c10] at H
            have c10b0 := eq_true c10
            have c10b1 : decide ((ji8 : Int).toNat ≤ 11728124029610) = true := decide_eq_true c10
            clear c10
            obtain ⟨y118, hy118⟩ : ∃ y_ : List (List Int), y_ = (List.replicate (ji8 : Int).toNat []) := ⟨_, rfl⟩
            replace H : (chargeparkref36_Distance.l0 kj4 a0 a1 y118 (a0.size : Int)) = some (r1, r2) := by first | (rw [hy118]; with_reducible exact H) | (have H2_ := (Option.bind_some _ _).symm.trans H; rw [hy118]; with_reducible exact H2_) | (have H2_ := (Option.bind_some _ _).symm.trans H; with_reducible exact H2_) | with_reducible exact H | (rw [hy118]; exact H) | exact H
            have Ny118 := Aside0.mk hy118
            clear hy118
            have H' := Aside0.mk H
            clear H
            go_wp2_with (first | ((with_reducible refine gate_dst (N := 25) rfl ?_); refine Kd.S_make (Kd.slice 3 (Kd.int .i64)) _ 41 rfl (N := 25) rfl 40 _ _ rfl ji8 rfl rfl Tryd.underlying40 (.slice none 0 0) 24 info41 rfl (by decide) (by omega) [] (ok := fun _ => True) (okp := fun _ => True) ⟨_, rfl, Kd.R_nil _ _ _ _ _⟩ (fun _ hk => hk) trivial (of_decide_eq_true (by first | (with_reducible assumption) | assumption)) (Nat.le_trans (Nat.mul_le_mul_right _ (of_decide_eq_true (by first | (with_reducible assumption) | assumption) : ji8.toNat ≤ 11728124029610)) (by omega)) (Below.refl _ _) (Nat.le_refl _) ?_; intro v119 w11 ho12 hb hg_ hnew_; clear hg_ hnew_; (first | rw [← Ny118.out] at ho12 | (simp only [Int.reduceToNat] at ho12; rw [← Ny118.out] at ho12)); have n0_ := Aside0.mk (Kd.S_lower ho12 (below_size (by repeat (first | (with_reducible first | exact HB.out | apply below_alloc | apply pw_below_drewN | apply below_drew1) | exact HB.out)))); have n1_ := Aside0.mk (below_step (by repeat (first | (with_reducible first | exact HB.out | apply below_alloc | apply pw_below_drewN | apply below_drew1) | exact HB.out)) hb); clear HB; have HO120 := n0_; have HB := n1_; clear n0_ n1_; clear hb ho12))
            go_loopg [9] kj4 (fun kq v9 w' => ∃ (x8_2 : List (List Int)) (x9_2 : Int), v9 = .int .i64 x9_2 ∧ Aside0 (chargeparkref36_Distance.l0 kq a0 a1 x8_2 x9_2 = some (r1, r2)) ∧ Aside0 (kq ≤ kj4) ∧ Aside0 (Kd.S (Kd.slice 3 (Kd.int .i64)) 41 w' w.heap.size (fun _ => True) v119 x8_2) ∧ Aside0 (Below w.heap.size w w'))
            case atStart => exact ⟨(y118), ((a0.size : Int)), (by first | rfl | (simp; done) | (simp [*]; done)), H', ⟨Nat.le_refl _⟩, ⟨by (with_reducible repeat (first | apply Kd.S_alloc | apply Kd.S_drewN | apply Kd.S_drew)); exact HO120.out⟩, ⟨by repeat (first | (with_reducible first | exact HB.out | apply below_alloc | apply pw_below_drewN | apply below_drew1) | exact HB.out)⟩⟩
            case round =>
              clear H'
              try clear c1
              try clear p2
              try clear c6
              try clear p6
              try clear c7
              try clear c9
              try clear c9b0
              try clear c9b1
              try clear c10
              try clear c10b0
              try clear c10b1
              try clear c11
              try clear p2
              obtain ⟨x8_2, x9_2, rfl, HA, HK2, HO_8, HB⟩ := hrel
              cases gk with
              | zero => exact absurd HA.out (by simp [chargeparkref36_Distance.l0])
              | succ k2 =>
                have H := HA.out
                clear HA
                simp only [chargeparkref36_Distance.l0] at H
                by_cases c13 : x9_2 ≥ 0
                · rw [if_pos c13] at H
                  have c13b0 : decide (0 ≤ x9_2) = true := decide_eq_true c13
                  clear c13
                  obtain ⟨ji14, hji14⟩ : ∃ j_ : Int, (wrap64 ((a1.size : Int) + 1)) = j_ := ⟨_, rfl⟩
                  replace H : (if 0 ≤ (ji14) then (if (ji14 : Int).toNat ≤ 35184372088832 then (if 0 ≤ x9_2 then (if x9_2 < (x8_2.length : Int) then (chargeparkref36_Distance.l1 k2 a0 a1 (x8_2.set (x9_2 : Int).toNat (List.replicate (ji14 : Int).toNat 0)) x9_2 (a1.size : Int)) else (none)) else (none)) else (none)) else (none)) = some (r1, r2) := by first | (rw [hji14] at H; exact H) | (simp only [hji14] at H ⊢; exact H)
                  have hji14w : (IntKind.i64.wrap ((a1.size : Int) + 1)) = ji14 := (i64_w _).trans hji14
                  by_cases c15 : 0 ≤ (ji14)
                  · rw [if_pos c15] at H
                    have c15b0 := eq_true c15
                    have c15b1 : decide (0 ≤ (ji14)) = true := decide_eq_true c15
                    clear c15
                    by_cases c16 : (ji14 : Int).toNat ≤ 35184372088832
                    · rw [if_pos c16] at H
                      have c16b0 := eq_true c16
                      have c16b1 : decide ((ji14 : Int).toNat ≤ 35184372088832) = true := decide_eq_true c16
                      clear c16
                      obtain ⟨y123, hy123⟩ : ∃ y_ : List Int, y_ = (List.replicate (ji14 : Int).toNat 0) := ⟨_, rfl⟩
                      replace H : (if 0 ≤ x9_2 then (if x9_2 < (x8_2.length : Int) then (chargeparkref36_Distance.l1 k2 a0 a1 (x8_2.set (x9_2 : Int).toNat y123) x9_2 (a1.size : Int)) else (none)) else (none)) = some (r1, r2) := by first | (rw [hy123]; with_reducible exact H) | (have H2_ := (Option.bind_some _ _).symm.trans H; rw [hy123]; with_reducible exact H2_) | (have H2_ := (Option.bind_some _ _).symm.trans H; with_reducible exact H2_) | with_reducible exact H | (rw [hy123]; exact H) | exact H
                      have Ny123 := Aside0.mk hy123
                      clear hy123
                      by_cases c17 : 0 ≤ x9_2
                      · rw [if_pos c17] at H
                        have c17b0 : decide (0 ≤ x9_2) = true := decide_eq_true c17
                        clear c17
                        by_cases c18 : x9_2 < (x8_2.length : Int)
                        · rw [if_pos c18] at H
                          have c18b0 : decide (x9_2 < (x8_2.length : Int)) = true := decide_eq_true c18
                          clear c18
                          obtain ⟨y126, hy126⟩ : ∃ y_ : List (List Int), y_ = (x8_2.set (x9_2 : Int).toNat y123) := ⟨_, rfl⟩
                          replace H : (chargeparkref36_Distance.l1 k2 a0 a1 y126 x9_2 (a1.size : Int)) = some (r1, r2) := by first | (rw [hy126]; with_reducible exact H) | (have H2_ := (Option.bind_some _ _).symm.trans H; rw [hy126]; with_reducible exact H2_) | (have H2_ := (Option.bind_some _ _).symm.trans H; with_reducible exact H2_) | with_reducible exact H | (rw [hy126]; exact H) | exact H
                          have Ny126 := Aside0.mk hy126
                          clear hy126
                          have H' := Aside0.mk H
                          clear H
                          go_wp2_with (first | ((with_reducible refine gate_dst (N := 37) rfl ?_); refine Kd.R_make (Kd.int .i64) _ 3 rfl (N := 37) rfl 41 _ _ rfl ji14 rfl rfl Tryd.underlying41 (.int .i64 0) 8 info3 rfl (by decide) (by omega) 0 (ok := fun _ => True) (okp := fun _ => True) rfl (fun _ hk => hk) trivial (of_decide_eq_true (by first | (with_reducible assumption) | assumption)) (Nat.le_trans (Nat.mul_le_mul_right _ (of_decide_eq_true (by first | (with_reducible assumption) | assumption) : ji14.toNat ≤ 35184372088832)) (by omega)) (Below.refl _ _) (Nat.le_refl _) ?_; intro v124 w20 ho21 hb hg_ hnew_; clear hg_ hnew_; (first | rw [← Ny123.out] at ho21 | (simp only [Int.reduceToNat] at ho21; rw [← Ny123.out] at ho21)); have n0_ := Aside0.mk (Kd.S_elder' (by (with_reducible repeat (first | apply Kd.S_alloc | apply Kd.S_drewN | apply Kd.S_drew)); exact HO_8.out) (Kd.R_base ho21) hb); have n1_ := Aside0.mk (Kd.R_lower ho21 (below_size (by repeat (first | (with_reducible first | exact HB.out | apply below_alloc | apply pw_below_drewN | apply below_drew1) | exact HB.out)))); have n2_ := Aside0.mk (below_step (by repeat (first | (with_reducible first | exact HB.out | apply below_alloc | apply pw_below_drewN | apply below_drew1) | exact HB.out)) hb); clear HO_8; clear HB; have HO_8 := n0_; have HO125 := n1_; have HB := n2_; clear n0_ n1_ n2_; clear hb ho21; have p19 : 0 ≤ (x9_2 : Int) := of_decide_eq_true (by first | (with_reducible assumption) | assumption); have q19 : (x9_2 : Int) < ((x8_2.length : Int) : Int) := of_decide_eq_true (by first | (with_reducible assumption) | assumption); obtain ⟨go19, co19, eo19, gb19, gl19, cl19, HG19⟩ := Kd.S_form HO_8.out (by omega); (first | cases eo19 | (injection eo19 with ea_ en_ ec_; (first | subst ea_ | (injection ea_ with ea_; subst ea_)); subst ec_; clear en_)); have GB19 := Aside0.mk gb19; have GG19 := Aside0.mk HG19; clear gb19 gl19 HG19; obtain ⟨_, ce19, hcl19, hM19, hcc19, hfr19, _, _⟩ := Kd.S_elem HO_8.out [] (x9_2 : Int) p19 q19; obtain ⟨ve19_0, rfl, ge19_0⟩ := hM19; have hx19_0 := hcc19 0 _ rfl; have hf19_0 := hfr19 0; (try simp only [show ((Kd.slice 3 (Kd.int .i64))).sz = 1 from rfl, Nat.mul_one, Nat.add_zero] at hx19_0); (try simp only [show ((Kd.slice 3 (Kd.int .i64))).sz = 1 from rfl, Nat.mul_one, Nat.add_zero] at hf19_0); clear hcl19 hcc19 hfr19; (try clear hM19); replace p19 := eq_true p19; replace q19 := eq_true q19; have n_ := Aside0.mk (Kd.S_mono (ok' := (fun k_ => some k_ ≠ (v124 : Value).ownBlock)) HO_8.out (fun k_ hk => hk.2)); clear HO_8; have HO_8 := n_; clear n_; have HX22 := Aside0.mk (show Kd.S (Kd.slice 3 (Kd.int .i64)) 41 w20 w.heap.size (fun k_ => ((fun _ => True)) k_ ∧ ¬ ((fun k_ => some k_ = (v124 : Value).ownBlock)) k_) (.slice (some ⟨go19, 0, none⟩) x8_2.length co19) x8_2 from (by (with_reducible repeat (first | apply Kd.S_alloc | apply Kd.S_drewN | apply Kd.S_drew)); exact Kd.S_mono HO_8.out (fun k_ hk => ⟨trivial, fun e_ => hk e_⟩))); obtain ⟨oki22, ce22, hcl22, hM22, hcc22, hfr22, hoki22, hH22⟩ := Kd.S_elem HX22.out [] (x9_2 : Int) (of_decide_eq_true (by first | (with_reducible assumption) | assumption)) (by have h_ : (x9_2 : Int) < ((x8_2.length : Int) : Int) := of_decide_eq_true (by first | (with_reducible assumption) | assumption); first | exact h_ | (have e_ := (Kd.S_reads' HO_8.out).1; omega) | simpa using h_); obtain ⟨ve22_0, rfl, ge22_0⟩ := hM22; have HP22 := Kd.S_seg hH22 (of_decide_eq_true (by first | (with_reducible assumption) | assumption)) (by have h_ : (x9_2 : Int) < ((x8_2.length : Int) : Int) := of_decide_eq_true (by first | (with_reducible assumption) | assumption); first | exact h_ | (have e_ := (Kd.S_reads' HO_8.out).1; omega) | simpa using h_) (seg := [v124]) (j := 0) (show 1 ≤ 1 from by decide) (x' := y123) (Kd.M_row (Kd.R_mono (Kd.R_tight rfl (Kd.R_mono (ok' := fun k_ => ((fun _ => True)) k_ ∧ k_ ≠ go19) (Kd.R_apart' (HO125.out) (Kd.S_typed HO_8.out) (by decide)) (fun k_ hk => ⟨trivial, fun e_ => (hk.2) (by rw [e_]; rfl)⟩))) (fun _ h_ => Or.inr (h_)))) (fun _ hk => hk) (fun k_ hk_ => ((Kd.R_mono (ok' := fun k_ => ((fun _ => True)) k_ ∧ k_ ≠ go19) (Kd.R_apart' (HO125.out) (Kd.S_typed HO_8.out) (by decide)) (fun k_ hk => ⟨trivial, fun e_ => (hk.2) (by rw [e_]; rfl)⟩))).1 k_ hk_.symm); have hx22_0 := hcc22 0 _ rfl; (try simp only [show ((Kd.slice 3 (Kd.int .i64))).sz = 1 from rfl, Nat.mul_one, Nat.add_zero] at hx22_0); have hf22_0 := hfr22 0; (try simp only [show ((Kd.slice 3 (Kd.int .i64))).sz = 1 from rfl, Nat.mul_one, Nat.add_zero] at hf22_0); clear hcl22 hcc22 hfr22 hoki22 hH22; (try clear hM22); (try simp only [show ((Kd.slice 3 (Kd.int .i64))).sz = 1 from rfl, Nat.mul_one, Nat.add_zero] at HP22)) | ((with_reducible refine gate_store (t := 41) (p := 38) rfl ?_); refine store_event (t := 41) (p := 38) (v := ?vo_w23) (w1 := (w20.setCell ⟨go19, (x9_2 : Int).toNat, none⟩ (v124))) ?hg ?ho ?hn ?hr ?_; (case ho => rfl); (case hg => rfl); (case hn => rfl); (case hr => first | (go_simp; done) | (go_simp; rfl) | exact Go.Proofs.YtcpiapenagbapaaDoor.KitW.hr_exec rfl rfl rfl (by first | exact Kd.R_val HO125.out) (by assumption) (by assumption) (by kernel_rfl)); intro w23 hw; have hg : w20.grownBy w23 (some go19) := (by rw [hw]; exact HP22.2); have hp_ : Kd.S (Kd.slice 3 (Kd.int .i64)) 41 w23 w.heap.size (fun _ => True) (.slice (some ⟨go19, 0, none⟩) x8_2.length co19) y126 := (by rw [hw, Ny126.out]; exact HP22.1); clear HP22; have n0_ := Aside0.mk (hp_); have n1_ := Aside0.mk ((by rw [hw]; exact below_set (HB.out) GB19.out : Below w.heap.size w w23)); clear HO_8; clear HB; clear HO125; have HO_8 := n0_; have HB := n1_; clear n0_ n1_; clear hg hw hp_))
                          go_loopg [10] k2 (fun kq v10 w' => ∃ (x8_3 : List (List Int)) (x10_3 : Int), v10 = .int .i64 x10_3 ∧ Aside0 (chargeparkref36_Distance.l1 kq a0 a1 x8_3 x9_2 x10_3 = some (r1, r2)) ∧ Aside0 (kq ≤ k2) ∧ Aside0 (Kd.S (Kd.slice 3 (Kd.int .i64)) 41 w' w.heap.size (fun _ => True) (.slice (some ⟨go19, 0, none⟩) x8_2.length co19) x8_3) ∧ Aside0 (Below w.heap.size w w'))
                          case atStart => exact ⟨(y126), ((a1.size : Int)), (by first | rfl | (simp; done) | (simp [*]; done)), H', ⟨Nat.le_refl _⟩, ⟨by (with_reducible repeat (first | apply Kd.S_alloc | apply Kd.S_drewN | apply Kd.S_drew)); exact HO_8.out⟩, ⟨by repeat (first | (with_reducible first | exact HB.out | apply below_alloc | apply pw_below_drewN | apply below_drew1) | exact HB.out)⟩⟩
                          case round =>
                            clear H'
                            try clear c1
                            try clear p1
                            try clear q1
                            try clear hx1
                            try clear c2
                            try clear p2
                            try clear hx2
                            try clear hf2
                            try clear c6
                            try clear p6
                            try clear c7
                            try clear c9
                            try clear c9b0
                            try clear c9b1
                            try clear c10
                            try clear c10b0
                            try clear c10b1
                            try clear c11
                            try clear c13
                            try clear c13b0
                            try clear c15
                            try clear c15b0
                            try clear c15b1
                            try clear c16
                            try clear c16b0
                            try clear c16b1
                            try clear c17
                            try clear c17b0
                            try clear c18
                            try clear c18b0
                            try clear c19
                            try clear p19
                            try clear q19
                            try clear hx19
                            try clear hf19
                            try clear c22
                            try clear hx22
                            try clear hf22
                            try clear hx19_0
                            try clear hx22_0
                            try clear p19
                            try clear p2
                            try clear p6
                            try clear q19
                            obtain ⟨x8_3, x10_3, rfl, HA, HK3, HO_8, HB⟩ := hrel
                            have hl8_3 := (Kd.S_reads' HO_8.out).1
                            rw [hl8_3] at HO_8
                            (try simp only [hl8_3])
                            cases gk with
                            | zero => exact absurd HA.out (by simp [chargeparkref36_Distance.l1])
                            | succ k3 =>
                              have H := HA.out
                              clear HA
                              simp only [chargeparkref36_Distance.l1] at H
                              by_cases c24 : x10_3 ≥ 0
                              · rw [if_pos c24] at H
                                have c24b0 : decide (0 ≤ x10_3) = true := decide_eq_true c24
                                clear c24
                                by_cases c25 : x9_2 = (a0.size : Int)
                                · rw [if_pos c25] at H
                                  have c25b0 : (x9_2 == (a0.size : Int)) = true := beq_iff_eq.mpr c25
                                  have c25b1 : (x9_2 != (a0.size : Int)) = false := bne_eq_false_iff_eq.mpr c25
                                  clear c25
                                  by_cases c26 : 0 ≤ x9_2
                                  · rw [if_pos c26] at H
                                    have c26b0 : decide (0 ≤ x9_2) = true := decide_eq_true c26
                                    clear c26
                                    by_cases c27 : x9_2 < (x8_3.length : Int)
                                    · rw [if_pos c27] at H
                                      have c27b0 : decide (x9_2 < (x8_3.length : Int)) = true := decide_eq_true c27
                                      clear c27
                                      by_cases c28 : 0 ≤ x10_3
                                      · rw [if_pos c28] at H
                                        have c28b0 : decide (0 ≤ x10_3) = true := decide_eq_true c28
                                        clear c28
                                        by_cases c29 : x10_3 < ((rd_L4 x8_3 x9_2).length : Int)
                                        · rw [if_pos c29] at H
                                          have c29b0 : decide (x10_3 < ((rd_L4 x8_3 x9_2).length : Int)) = true := decide_eq_true c29
                                          clear c29
                                          obtain ⟨y128, hy128⟩ : ∃ y_ : List Int, y_ = ((rd_L4 x8_3 x9_2).set (x10_3 : Int).toNat (wrap64 (2 * (wrap64 ((a1.size : Int) - x10_3))))) := ⟨_, rfl⟩
                                          replace H : (chargeparkref36_Distance.l1 k3 a0 a1 (x8_3.set (x9_2 : Int).toNat y128) x9_2 (wrap64 (x10_3 - 1))) = some (r1, r2) := by first | (rw [hy128]; with_reducible exact H) | (have H2_ := (Option.bind_some _ _).symm.trans H; rw [hy128]; with_reducible exact H2_) | (have H2_ := (Option.bind_some _ _).symm.trans H; with_reducible exact H2_) | with_reducible exact H | (rw [hy128]; exact H) | exact H
                                          have Ny128 := Aside0.mk hy128
                                          clear hy128
                                          obtain ⟨y130, hy130⟩ : ∃ y_ : List (List Int), y_ = (x8_3.set (x9_2 : Int).toNat y128) := ⟨_, rfl⟩
                                          replace H : (chargeparkref36_Distance.l1 k3 a0 a1 y130 x9_2 (wrap64 (x10_3 - 1))) = some (r1, r2) := by first | (rw [hy130]; with_reducible exact H) | (have H2_ := (Option.bind_some _ _).symm.trans H; rw [hy130]; with_reducible exact H2_) | (have H2_ := (Option.bind_some _ _).symm.trans H; with_reducible exact H2_) | with_reducible exact H | (rw [hy130]; exact H) | exact H
                                          have Ny130 := Aside0.mk hy130
                                          clear hy130
                                          have H' := Aside0.mk H
                                          clear H
                                          have p127 : 0 ≤ (x9_2 : Int) := of_decide_eq_true (by first | (with_reducible assumption) | assumption)
                                          have q127 : x9_2 < (x8_3.length : Int) := of_decide_eq_true (by first | (with_reducible assumption) | assumption)
                                          obtain ⟨ad127, A127_0, c127_0, e127, hx127_0, hl127_0, hi127_0⟩ := at_L4 (Kd.S_reads' HO_8.out).2.2 x9_2 p127 q127
                                          obtain rfl : (⟨go19, 0, none⟩ : Addr) = ad127 := (by injection e127)
                                          obtain ⟨ce127, hce127, hMe127, hcc127⟩ := Kd.S_get HO_8.out [] x9_2 p127 (by first | exact q127 | exact of_decide_eq_true (by first | (with_reducible assumption) | assumption) | (have e_ := (Kd.S_reads' HO_8.out).1; omega))
                                          obtain ⟨ve127_0, rfl, ge127_0⟩ := hMe127
                                          have hv127_0 := hcc127 0 _ rfl
                                          rw [Nat.add_zero, show ((Kd.slice 3 (Kd.int .i64))).sz = 1 from rfl, Nat.mul_one] at hv127_0
                                          replace hv127_0 := Option.some.inj (hv127_0.symm.trans hx127_0)
                                          rw [hv127_0] at ge127_0
                                          have HL127_0 := Aside0.mk (show Kd.R (Kd.int .i64) 3 _ _ _ _ (rd_L4 x8_3 x9_2) from ge127_0)
                                          clear hv127_0 ge127_0
                                          have HX127_0 := Aside0.mk hx127_0
                                          clear hcc127 hce127
                                          (first | simp only [add_plain] at hx127_0 | simp only [add_at] at hx127_0 | simp only [Addr.add, Nat.zero_add] at hx127_0 | skip)
                                          have HR127_0 := Aside0.mk hi127_0
                                          have HC127_0 := Aside0.mk hl127_0
                                          clear hi127_0 hl127_0
                                          replace p127 := eq_true p127
                                          replace q127 := eq_true q127
                                          have p30 : 0 ≤ (x10_3 : Int) := of_decide_eq_true (by first | (with_reducible assumption) | assumption)
                                          have q30 : (x10_3 : Int) < (((rd_L4 x8_3 x9_2).length : Int) : Int) := of_decide_eq_true (by first | (with_reducible assumption) | assumption)
                                          obtain ⟨go30, co30, eo30, gb30, gl30, cl30, HG30⟩ := Kd.R_form HL127_0.out (by omega)
                                          (first | cases eo30 | (injection eo30 with ea_ en_ ec_; (first | subst ea_ | (injection ea_ with ea_; subst ea_)); subst ec_; clear en_))
                                          have GB30 := Aside0.mk gb30
                                          have GG30 := Aside0.mk HG30
                                          clear gb30 gl30 HG30
                                          obtain ⟨hx30_0, hf30_0⟩ := Kd.R_celln 0 HL127_0.out (x10_3 : Int) p30 q30
                                          replace p30 := eq_true p30
                                          replace q30 := eq_true q30
                                          have hq31 : (x9_2 : Int) < (x8_3.length : Int) := (by have h_ : (x9_2 : Int) < ((x8_3.length : Int) : Int) := of_decide_eq_true (by first | (with_reducible assumption) | assumption); first | exact h_ | (have e_ := (Kd.S_reads' HO_8.out).1; omega) | simpa only [List.length_set, List.length_set] using h_)
                                          obtain ⟨oki31, ce31, hcl31, hM31, hcc31, hok31, hbk31⟩ := Kd.S_borrow HO_8.out [] (x9_2 : Int) (of_decide_eq_true (by first | (with_reducible assumption) | assumption)) hq31
                                          obtain ⟨ve31_0, rfl, ge31_0⟩ := hM31
                                          have hv31 := hcc31 0 _ rfl
                                          rw [Nat.add_zero, show ((Kd.slice 3 (Kd.int .i64))).sz = 1 from rfl, Nat.mul_one] at hv31
                                          replace hv31 := Option.some.inj (hv31.symm.trans HX127_0.out)
                                          subst hv31
                                          clear hcc31 hcl31
                                          replace ge31_0 := (show Kd.R (Kd.int .i64) 3 _ _ _ _ (rd_L4 x8_3 x9_2) from ge31_0)
                                          have HP31 := Kd.R_putg ge31_0 (x10_3 : Int) (wrap64 (2 * (wrap64 ((a1.size : Int) - x10_3))))
                                          go_wp2_with (first | ((with_reducible refine gate_store (t := 3) (p := 59) rfl ?_); refine store_event (t := 3) (p := 59) (v := ?vo_w32) (w1 := (wr.setCell ⟨go30, (x10_3 : Int).toNat, none⟩ (.int .i64 (wrap64 (2 * (wrap64 ((a1.size : Int) - x10_3))))))) ?hg ?ho ?hn ?hr ?_; (case ho => rfl); (case hg => rfl); (case hn => rfl); (case hr => first | (go_simp; done) | (go_simp; rfl)); intro w32 hw; have hg : wr.grownBy w32 (some go30) := (by rw [hw]; exact HP31.2); have hz_ : Kd.R (Kd.int .i64) 3 w32 w.heap.size oki31 (.slice (some ⟨go30, 0, none⟩) (rd_L4 x8_3 x9_2).length c127_0) y128 := (by rw [hw, Ny128.out]; exact HP31.1); have hp_ : Kd.S (Kd.slice 3 (Kd.int .i64)) 41 w32 w.heap.size (fun _ => True) (.slice (some ⟨go19, 0, none⟩) x8_3.length co19) y130 := (by rw [Ny130.out]; exact hbk31 hg (fun k_ e_ => by injection e_ with e_; subst e_; exact ge31_0.1 _ rfl) (Kd.M_row hz_)); have hm_ := Kd.R_mono hz_ hok31; clear HP31 hbk31; have n0_ := Aside0.mk (hp_); have n1_ := Aside0.mk ((by rw [hw]; exact below_set (HB.out) GB30.out : Below w.heap.size w w32)); have n2_ := Aside0.mk (hm_); have n3_ := Aside0.mk ((Kd.R_reads' hm_).2.1); clear HO_8; clear HB; clear HL127_0; have HO_8 := n0_; have HB := n1_; have HL146 := n2_; have HC129 := n3_; clear n0_ n1_ n2_ n3_; clear hg hw hp_ hz_ hm_ hok31))
                                          (try simp only [← hl8_3])
                                          go_roundg k3
                                          case measure => have := HJ4.out; have := HK2.out; have := HK3.out; omega
                                          case rel => exact ⟨(y130), (wrap64 (x10_3 - 1)), (by first | rfl | (simp; done) | (simp [*]; done)), H', ⟨by have := HJ4.out; have := HK2.out; have := HK3.out; omega⟩, ⟨by (try simp only [hl8_3]); (with_reducible repeat (first | apply Kd.S_alloc | apply Kd.S_drewN | apply Kd.S_drew)); exact HO_8.out⟩, ⟨by repeat (first | (with_reducible first | exact HB.out | apply below_alloc | apply pw_below_drewN | apply below_drew1) | exact HB.out)⟩⟩
                                        · rw [if_neg c29] at H
                                          exact absurd H (by simp)
                                      · rw [if_neg c28] at H
                                        exact absurd H (by simp)
                                    · rw [if_neg c27] at H
                                      exact absurd H (by simp)
                                  · rw [if_neg c26] at H
                                    exact absurd H (by simp)
                                · rw [if_neg c25] at H
                                  have c25b0 : (x9_2 == (a0.size : Int)) = false := beq_eq_false_iff_ne.mpr c25
                                  have c25b1 : (x9_2 != (a0.size : Int)) = true := bne_iff_ne.mpr c25
                                  by_cases c33 : x10_3 = (a1.size : Int)
                                  · rw [if_pos c33] at H
                                    have c33b0 : (x10_3 == (a1.size : Int)) = true := beq_iff_eq.mpr c33
                                    have c33b1 : (x10_3 != (a1.size : Int)) = false := bne_eq_false_iff_eq.mpr c33
                                    clear c33
                                    by_cases c34 : 0 ≤ x9_2
                                    · rw [if_pos c34] at H
                                      have c34b0 : decide (0 ≤ x9_2) = true := decide_eq_true c34
                                      clear c34
                                      by_cases c35 : x9_2 < (x8_3.length : Int)
                                      · rw [if_pos c35] at H
                                        have c35b0 : decide (x9_2 < (x8_3.length : Int)) = true := decide_eq_true c35
                                        clear c35
                                        by_cases c36 : 0 ≤ x10_3
                                        · rw [if_pos c36] at H
                                          have c36b0 : decide (0 ≤ x10_3) = true := decide_eq_true c36
                                          clear c36
                                          by_cases c37 : x10_3 < ((rd_L4 x8_3 x9_2).length : Int)
                                          · rw [if_pos c37] at H
                                            have c37b0 : decide (x10_3 < ((rd_L4 x8_3 x9_2).length : Int)) = true := decide_eq_true c37
                                            clear c37
                                            obtain ⟨y132, hy132⟩ : ∃ y_ : List Int, y_ = ((rd_L4 x8_3 x9_2).set (x10_3 : Int).toNat (wrap64 (2 * (wrap64 ((a0.size : Int) - x9_2))))) := ⟨_, rfl⟩
                                            replace H : (chargeparkref36_Distance.l1 k3 a0 a1 (x8_3.set (x9_2 : Int).toNat y132) x9_2 (wrap64 (x10_3 - 1))) = some (r1, r2) := by first | (rw [hy132]; with_reducible exact H) | (have H2_ := (Option.bind_some _ _).symm.trans H; rw [hy132]; with_reducible exact H2_) | (have H2_ := (Option.bind_some _ _).symm.trans H; with_reducible exact H2_) | with_reducible exact H | (rw [hy132]; exact H) | exact H
                                            have Ny132 := Aside0.mk hy132
                                            clear hy132
                                            obtain ⟨y134, hy134⟩ : ∃ y_ : List (List Int), y_ = (x8_3.set (x9_2 : Int).toNat y132) := ⟨_, rfl⟩
                                            replace H : (chargeparkref36_Distance.l1 k3 a0 a1 y134 x9_2 (wrap64 (x10_3 - 1))) = some (r1, r2) := by first | (rw [hy134]; with_reducible exact H) | (have H2_ := (Option.bind_some _ _).symm.trans H; rw [hy134]; with_reducible exact H2_) | (have H2_ := (Option.bind_some _ _).symm.trans H; with_reducible exact H2_) | with_reducible exact H | (rw [hy134]; exact H) | exact H
                                            have Ny134 := Aside0.mk hy134
                                            clear hy134
                                            have H' := Aside0.mk H
                                            clear H
                                            have p131 : 0 ≤ (x9_2 : Int) := of_decide_eq_true (by first | (with_reducible assumption) | assumption)
                                            have q131 : x9_2 < (x8_3.length : Int) := of_decide_eq_true (by first | (with_reducible assumption) | assumption)
                                            obtain ⟨ad131, A131_0, c131_0, e131, hx131_0, hl131_0, hi131_0⟩ := at_L4 (Kd.S_reads' HO_8.out).2.2 x9_2 p131 q131
                                            obtain rfl : (⟨go19, 0, none⟩ : Addr) = ad131 := (by injection e131)
                                            obtain ⟨ce131, hce131, hMe131, hcc131⟩ := Kd.S_get HO_8.out [] x9_2 p131 (by first | exact q131 | exact of_decide_eq_true (by first | (with_reducible assumption) | assumption) | (have e_ := (Kd.S_reads' HO_8.out).1; omega))
                                            obtain ⟨ve131_0, rfl, ge131_0⟩ := hMe131
                                            have hv131_0 := hcc131 0 _ rfl
                                            rw [Nat.add_zero, show ((Kd.slice 3 (Kd.int .i64))).sz = 1 from rfl, Nat.mul_one] at hv131_0
                                            replace hv131_0 := Option.some.inj (hv131_0.symm.trans hx131_0)
                                            rw [hv131_0] at ge131_0
                                            have HL131_0 := Aside0.mk (show Kd.R (Kd.int .i64) 3 _ _ _ _ (rd_L4 x8_3 x9_2) from ge131_0)
                                            clear hv131_0 ge131_0
                                            have HX131_0 := Aside0.mk hx131_0
                                            clear hcc131 hce131
                                            (first | simp only [add_plain] at hx131_0 | simp only [add_at] at hx131_0 | simp only [Addr.add, Nat.zero_add] at hx131_0 | skip)
                                            have HR131_0 := Aside0.mk hi131_0
                                            have HC131_0 := Aside0.mk hl131_0
                                            clear hi131_0 hl131_0
                                            replace p131 := eq_true p131
                                            replace q131 := eq_true q131
                                            have p38 : 0 ≤ (x10_3 : Int) := of_decide_eq_true (by first | (with_reducible assumption) | assumption)
                                            have q38 : (x10_3 : Int) < (((rd_L4 x8_3 x9_2).length : Int) : Int) := of_decide_eq_true (by first | (with_reducible assumption) | assumption)
                                            obtain ⟨go38, co38, eo38, gb38, gl38, cl38, HG38⟩ := Kd.R_form HL131_0.out (by omega)
                                            (first | cases eo38 | (injection eo38 with ea_ en_ ec_; (first | subst ea_ | (injection ea_ with ea_; subst ea_)); subst ec_; clear en_))
                                            have GB38 := Aside0.mk gb38
                                            have GG38 := Aside0.mk HG38
                                            clear gb38 gl38 HG38
                                            obtain ⟨hx38_0, hf38_0⟩ := Kd.R_celln 0 HL131_0.out (x10_3 : Int) p38 q38
                                            replace p38 := eq_true p38
                                            replace q38 := eq_true q38
                                            have hq39 : (x9_2 : Int) < (x8_3.length : Int) := (by have h_ : (x9_2 : Int) < ((x8_3.length : Int) : Int) := of_decide_eq_true (by first | (with_reducible assumption) | assumption); first | exact h_ | (have e_ := (Kd.S_reads' HO_8.out).1; omega) | simpa only [List.length_set, List.length_set] using h_)
                                            obtain ⟨oki39, ce39, hcl39, hM39, hcc39, hok39, hbk39⟩ := Kd.S_borrow HO_8.out [] (x9_2 : Int) (of_decide_eq_true (by first | (with_reducible assumption) | assumption)) hq39
                                            obtain ⟨ve39_0, rfl, ge39_0⟩ := hM39
                                            have hv39 := hcc39 0 _ rfl
                                            rw [Nat.add_zero, show ((Kd.slice 3 (Kd.int .i64))).sz = 1 from rfl, Nat.mul_one] at hv39
                                            replace hv39 := Option.some.inj (hv39.symm.trans HX131_0.out)
                                            subst hv39
                                            clear hcc39 hcl39
                                            replace ge39_0 := (show Kd.R (Kd.int .i64) 3 _ _ _ _ (rd_L4 x8_3 x9_2) from ge39_0)
                                            have HP39 := Kd.R_putg ge39_0 (x10_3 : Int) (wrap64 (2 * (wrap64 ((a0.size : Int) - x9_2))))
                                            go_wp2_with (first | ((with_reducible refine gate_store (t := 3) (p := 74) rfl ?_); refine store_event (t := 3) (p := 74) (v := ?vo_w40) (w1 := (wr.setCell ⟨go38, (x10_3 : Int).toNat, none⟩ (.int .i64 (wrap64 (2 * (wrap64 ((a0.size : Int) - x9_2))))))) ?hg ?ho ?hn ?hr ?_; (case ho => rfl); (case hg => rfl); (case hn => rfl); (case hr => first | (go_simp; done) | (go_simp; rfl)); intro w40 hw; have hg : wr.grownBy w40 (some go38) := (by rw [hw]; exact HP39.2); have hz_ : Kd.R (Kd.int .i64) 3 w40 w.heap.size oki39 (.slice (some ⟨go38, 0, none⟩) (rd_L4 x8_3 x9_2).length c131_0) y132 := (by rw [hw, Ny132.out]; exact HP39.1); have hp_ : Kd.S (Kd.slice 3 (Kd.int .i64)) 41 w40 w.heap.size (fun _ => True) (.slice (some ⟨go19, 0, none⟩) x8_3.length co19) y134 := (by rw [Ny134.out]; exact hbk39 hg (fun k_ e_ => by injection e_ with e_; subst e_; exact ge39_0.1 _ rfl) (Kd.M_row hz_)); have hm_ := Kd.R_mono hz_ hok39; clear HP39 hbk39; have n0_ := Aside0.mk (hp_); have n1_ := Aside0.mk ((by rw [hw]; exact below_set (HB.out) GB38.out : Below w.heap.size w w40)); have n2_ := Aside0.mk (hm_); have n3_ := Aside0.mk ((Kd.R_reads' hm_).2.1); clear HO_8; clear HB; clear HL131_0; have HO_8 := n0_; have HB := n1_; have HL147 := n2_; have HC133 := n3_; clear n0_ n1_ n2_ n3_; clear hg hw hp_ hz_ hm_ hok39))
                                            (try simp only [← hl8_3])
                                            go_roundg k3
                                            case measure => have := HJ4.out; have := HK2.out; have := HK3.out; omega
                                            case rel => exact ⟨(y134), (wrap64 (x10_3 - 1)), (by first | rfl | (simp; done) | (simp [*]; done)), H', ⟨by have := HJ4.out; have := HK2.out; have := HK3.out; omega⟩, ⟨by (try simp only [hl8_3]); (with_reducible repeat (first | apply Kd.S_alloc | apply Kd.S_drewN | apply Kd.S_drew)); exact HO_8.out⟩, ⟨by repeat (first | (with_reducible first | exact HB.out | apply below_alloc | apply pw_below_drewN | apply below_drew1) | exact HB.out)⟩⟩
                                          · rw [if_neg c37] at H
                                            exact absurd H (by simp)
                                        · rw [if_neg c36] at H
                                          exact absurd H (by simp)
                                      · rw [if_neg c35] at H
                                        exact absurd H (by simp)
                                    · rw [if_neg c34] at H
                                      exact absurd H (by simp)
                                  · rw [if_neg c33] at H
                                    have c33b0 : (x10_3 == (a1.size : Int)) = false := beq_eq_false_iff_ne.mpr c33
                                    have c33b1 : (x10_3 != (a1.size : Int)) = true := bne_iff_ne.mpr c33
                                    obtain ⟨ji41, hji41⟩ : ∃ j_ : Int, (wrap64 (x9_2 + 1)) = j_ := ⟨_, rfl⟩
                                    replace H : (if 0 ≤ (ji41) then (if (ji41) < (x8_3.length : Int) then (if 0 ≤ (wrap64 (x10_3 + 1)) then (if (wrap64 (x10_3 + 1)) < ((rd_L4 x8_3 (ji41)).length : Int) then (if 0 ≤ x9_2 then (if x9_2 < (a0.size : Int) then (if 0 ≤ x10_3 then (if x10_3 < (a1.size : Int) then ((chargeparkref36_Cost.f (bt a0 x9_2) (bt a1 x10_3)).bind fun t137 => (if x10_3 < ((rd_L4 x8_3 (ji41)).length : Int) then (if x9_2 < (x8_3.length : Int) then (if (wrap64 (x10_3 + 1)) < ((rd_L4 x8_3 x9_2).length : Int) then (if x10_3 < ((rd_L4 x8_3 x9_2).length : Int) then (chargeparkref36_Distance.l1 k3 a0 a1 (x8_3.set (x9_2 : Int).toNat ((rd_L4 x8_3 x9_2).set (x10_3 : Int).toNat (mn (mn (wrap64 ((rd (rd_L4 x8_3 (ji41)) (wrap64 (x10_3 + 1))) + t137)) (wrap64 ((rd (rd_L4 x8_3 (ji41)) x10_3) + 2))) (wrap64 ((rd (rd_L4 x8_3 x9_2) (wrap64 (x10_3 + 1))) + 2))))) x9_2 (wrap64 (x10_3 - 1))) else (none)) else (none)) else (none)) else (none))) else (none)) else (none)) else (none)) else (none)) else (none)) else (none)) else (none)) else (none)) = some (r1, r2) := by first | (rw [hji41] at H; exact H) | (simp only [hji41] at H ⊢; exact H)
                                    have hji41w : (IntKind.i64.wrap (x9_2 + 1)) = ji41 := (i64_w _).trans hji41
                                    by_cases c42 : 0 ≤ (ji41)
                                    · rw [if_pos c42] at H
                                      have c42b0 : decide (0 ≤ (ji41)) = true := decide_eq_true c42
                                      clear c42
                                      by_cases c43 : (ji41) < (x8_3.length : Int)
                                      · rw [if_pos c43] at H
                                        have c43b0 : decide ((ji41) < (x8_3.length : Int)) = true := decide_eq_true c43
                                        clear c43
                                        obtain ⟨ji44, hji44⟩ : ∃ j_ : Int, (wrap64 (x10_3 + 1)) = j_ := ⟨_, rfl⟩
                                        replace H : (if 0 ≤ (ji44) then (if (ji44) < ((rd_L4 x8_3 (ji41)).length : Int) then (if 0 ≤ x9_2 then (if x9_2 < (a0.size : Int) then (if 0 ≤ x10_3 then (if x10_3 < (a1.size : Int) then ((chargeparkref36_Cost.f (bt a0 x9_2) (bt a1 x10_3)).bind fun t137 => (if x10_3 < ((rd_L4 x8_3 (ji41)).length : Int) then (if x9_2 < (x8_3.length : Int) then (if (ji44) < ((rd_L4 x8_3 x9_2).length : Int) then (if x10_3 < ((rd_L4 x8_3 x9_2).length : Int) then (chargeparkref36_Distance.l1 k3 a0 a1 (x8_3.set (x9_2 : Int).toNat ((rd_L4 x8_3 x9_2).set (x10_3 : Int).toNat (mn (mn (wrap64 ((rd (rd_L4 x8_3 (ji41)) (ji44)) + t137)) (wrap64 ((rd (rd_L4 x8_3 (ji41)) x10_3) + 2))) (wrap64 ((rd (rd_L4 x8_3 x9_2) (ji44)) + 2))))) x9_2 (wrap64 (x10_3 - 1))) else (none)) else (none)) else (none)) else (none))) else (none)) else (none)) else (none)) else (none)) else (none)) else (none)) = some (r1, r2) := by first | (rw [hji44] at H; exact H) | (simp only [hji44] at H ⊢; exact H)
                                        have hji44w : (IntKind.i64.wrap (x10_3 + 1)) = ji44 := (i64_w _).trans hji44
                                        by_cases c45 : 0 ≤ (ji44)
                                        · rw [if_pos c45] at H
                                          have c45b0 : decide (0 ≤ (ji44)) = true := decide_eq_true c45
                                          clear c45
                                          by_cases c46 : (ji44) < ((rd_L4 x8_3 (ji41)).length : Int)
                                          · rw [if_pos c46] at H
                                            have c46b0 : decide ((ji44) < ((rd_L4 x8_3 (ji41)).length : Int)) = true := decide_eq_true c46
                                            clear c46
                                            by_cases c47 : 0 ≤ x9_2
                                            · rw [if_pos c47] at H
                                              have c47b0 : decide (0 ≤ x9_2) = true := decide_eq_true c47
                                              clear c47
                                              by_cases c48 : x9_2 < (a0.size : Int)
                                              · rw [if_pos c48] at H
                                                have c48b0 : decide (x9_2 < (a0.size : Int)) = true := decide_eq_true c48
                                                clear c48
                                                by_cases c50 : 0 ≤ x10_3
                                                · rw [if_pos c50] at H
                                                  have c50b0 : decide (0 ≤ x10_3) = true := decide_eq_true c50
                                                  clear c50
                                                  by_cases c51 : x10_3 < (a1.size : Int)
                                                  · rw [if_pos c51] at H
                                                    have c51b0 : decide (x10_3 < (a1.size : Int)) = true := decide_eq_true c51
                                                    clear c51
                                                    replace H := Option.bind_eq_some_iff.mp H
                                                    obtain ⟨t137, A530, H⟩ := H
                                                    replace H : (if x10_3 < ((rd_L4 x8_3 (ji41)).length : Int) then (if x9_2 < (x8_3.length : Int) then (if (ji44) < ((rd_L4 x8_3 x9_2).length : Int) then (if x10_3 < ((rd_L4 x8_3 x9_2).length : Int) then (chargeparkref36_Distance.l1 k3 a0 a1 (x8_3.set (x9_2 : Int).toNat ((rd_L4 x8_3 x9_2).set (x10_3 : Int).toNat (mn (mn (wrap64 ((rd (rd_L4 x8_3 (ji41)) (ji44)) + t137)) (wrap64 ((rd (rd_L4 x8_3 (ji41)) x10_3) + 2))) (wrap64 ((rd (rd_L4 x8_3 x9_2) (ji44)) + 2))))) x9_2 (wrap64 (x10_3 - 1))) else (none)) else (none)) else (none)) else (none)) = some (r1, r2) := H
                                                    have A53 := Aside0.mk A530
                                                    clear A530
                                                    by_cases c54 : x10_3 < ((rd_L4 x8_3 (ji41)).length : Int)
                                                    · rw [if_pos c54] at H
                                                      have c54b0 : decide (x10_3 < ((rd_L4 x8_3 (ji41)).length : Int)) = true := decide_eq_true c54
                                                      clear c54
                                                      obtain ⟨ji55, hji55⟩ : ∃ j_ : Int, (mn (wrap64 ((rd (rd_L4 x8_3 (ji41)) (ji44)) + t137)) (wrap64 ((rd (rd_L4 x8_3 (ji41)) x10_3) + 2))) = j_ := ⟨_, rfl⟩
                                                      replace H : (if x9_2 < (x8_3.length : Int) then (if (ji44) < ((rd_L4 x8_3 x9_2).length : Int) then (if x10_3 < ((rd_L4 x8_3 x9_2).length : Int) then (chargeparkref36_Distance.l1 k3 a0 a1 (x8_3.set (x9_2 : Int).toNat ((rd_L4 x8_3 x9_2).set (x10_3 : Int).toNat (mn (ji55) (wrap64 ((rd (rd_L4 x8_3 x9_2) (ji44)) + 2))))) x9_2 (wrap64 (x10_3 - 1))) else (none)) else (none)) else (none)) = some (r1, r2) := by first | (rw [hji55] at H; exact H) | (simp only [hji55] at H ⊢; exact H)
                                                      (try rw [hji55] at A53)
                                                      have hji55_ : (if (wrap64 ((rd (rd_L4 x8_3 (ji41)) x10_3) + 2)) < (wrap64 ((rd (rd_L4 x8_3 (ji41)) (ji44)) + t137)) then (wrap64 ((rd (rd_L4 x8_3 (ji41)) x10_3) + 2)) else (wrap64 ((rd (rd_L4 x8_3 (ji41)) (ji44)) + t137))) = ji55 := hji55
                                                      by_cases c56 : x9_2 < (x8_3.length : Int)
                                                      · rw [if_pos c56] at H
                                                        have c56b0 : decide (x9_2 < (x8_3.length : Int)) = true := decide_eq_true c56
                                                        clear c56
                                                        by_cases c57 : (ji44) < ((rd_L4 x8_3 x9_2).length : Int)
                                                        · rw [if_pos c57] at H
                                                          have c57b0 : decide ((ji44) < ((rd_L4 x8_3 x9_2).length : Int)) = true := decide_eq_true c57
                                                          clear c57
                                                          obtain ⟨ji58, hji58⟩ : ∃ j_ : Int, (mn (ji55) (wrap64 ((rd (rd_L4 x8_3 x9_2) (ji44)) + 2))) = j_ := ⟨_, rfl⟩
                                                          replace H : (if x10_3 < ((rd_L4 x8_3 x9_2).length : Int) then (chargeparkref36_Distance.l1 k3 a0 a1 (x8_3.set (x9_2 : Int).toNat ((rd_L4 x8_3 x9_2).set (x10_3 : Int).toNat (ji58))) x9_2 (wrap64 (x10_3 - 1))) else (none)) = some (r1, r2) := by first | (rw [hji58] at H; exact H) | (simp only [hji58] at H ⊢; exact H)
                                                          (try rw [hji58] at A53)
                                                          have hji58_ : (if (wrap64 ((rd (rd_L4 x8_3 x9_2) (ji44)) + 2)) < (ji55) then (wrap64 ((rd (rd_L4 x8_3 x9_2) (ji44)) + 2)) else (ji55)) = ji58 := hji58
                                                          by_cases c59 : x10_3 < ((rd_L4 x8_3 x9_2).length : Int)
                                                          · rw [if_pos c59] at H
                                                            have c59b0 : decide (x10_3 < ((rd_L4 x8_3 x9_2).length : Int)) = true := decide_eq_true c59
                                                            clear c59
                                                            obtain ⟨y143, hy143⟩ : ∃ y_ : List Int, y_ = ((rd_L4 x8_3 x9_2).set (x10_3 : Int).toNat (ji58)) := ⟨_, rfl⟩
                                                            replace H : (chargeparkref36_Distance.l1 k3 a0 a1 (x8_3.set (x9_2 : Int).toNat y143) x9_2 (wrap64 (x10_3 - 1))) = some (r1, r2) := by first | (rw [hy143]; with_reducible exact H) | (have H2_ := (Option.bind_some _ _).symm.trans H; rw [hy143]; with_reducible exact H2_) | (have H2_ := (Option.bind_some _ _).symm.trans H; with_reducible exact H2_) | with_reducible exact H | (rw [hy143]; exact H) | exact H
                                                            have Ny143 := Aside0.mk hy143
                                                            clear hy143
                                                            obtain ⟨y145, hy145⟩ : ∃ y_ : List (List Int), y_ = (x8_3.set (x9_2 : Int).toNat y143) := ⟨_, rfl⟩
                                                            replace H : (chargeparkref36_Distance.l1 k3 a0 a1 y145 x9_2 (wrap64 (x10_3 - 1))) = some (r1, r2) := by first | (rw [hy145]; with_reducible exact H) | (have H2_ := (Option.bind_some _ _).symm.trans H; rw [hy145]; with_reducible exact H2_) | (have H2_ := (Option.bind_some _ _).symm.trans H; with_reducible exact H2_) | with_reducible exact H | (rw [hy145]; exact H) | exact H
                                                            have Ny145 := Aside0.mk hy145
                                                            clear hy145
                                                            have H' := Aside0.mk H
                                                            clear H
                                                            try go_wp2
                                                            have n0_ := Aside0.mk (Kd.S_drew HO_8.out)
                                                            have n1_ := Aside0.mk (below_drew1 HB.out)
                                                            clear HO_8
                                                            clear HB
                                                            have HO_8 := n0_
                                                            have HB := n1_
                                                            clear n0_ n1_
                                                            have p135 : 0 ≤ ((ji41) : Int) := of_decide_eq_true (by first | (with_reducible assumption) | assumption)
                                                            have q135 : (ji41) < (x8_3.length : Int) := of_decide_eq_true (by first | (with_reducible assumption) | assumption)
                                                            obtain ⟨ad135, A135_0, c135_0, e135, hx135_0, hl135_0, hi135_0⟩ := at_L4 (Kd.S_reads' HO_8.out).2.2 (ji41) p135 q135
                                                            obtain rfl : (⟨go19, 0, none⟩ : Addr) = ad135 := (by injection e135)
                                                            obtain ⟨ce135, hce135, hMe135, hcc135⟩ := Kd.S_get HO_8.out [] (ji41) p135 (by first | exact q135 | exact of_decide_eq_true (by first | (with_reducible assumption) | assumption) | (have e_ := (Kd.S_reads' HO_8.out).1; omega))
                                                            obtain ⟨ve135_0, rfl, ge135_0⟩ := hMe135
                                                            have hv135_0 := hcc135 0 _ rfl
                                                            rw [Nat.add_zero, show ((Kd.slice 3 (Kd.int .i64))).sz = 1 from rfl, Nat.mul_one] at hv135_0
                                                            replace hv135_0 := Option.some.inj (hv135_0.symm.trans hx135_0)
                                                            rw [hv135_0] at ge135_0
                                                            have HL135_0 := Aside0.mk (show Kd.R (Kd.int .i64) 3 _ _ _ _ (rd_L4 x8_3 (ji41)) from ge135_0)
                                                            clear hv135_0 ge135_0
                                                            have HX135_0 := Aside0.mk hx135_0
                                                            clear hcc135 hce135
                                                            (first | simp only [add_plain] at hx135_0 | simp only [add_at] at hx135_0 | simp only [Addr.add, Nat.zero_add] at hx135_0 | skip)
                                                            have HR135_0 := Aside0.mk hi135_0
                                                            have HC135_0 := Aside0.mk hl135_0
                                                            clear hi135_0 hl135_0
                                                            replace p135 := eq_true p135
                                                            replace q135 := eq_true q135
                                                            have p136 : 0 ≤ ((ji44) : Int) := of_decide_eq_true (by first | (with_reducible assumption) | assumption)
                                                            have q136 : (ji44) < ((rd_L4 x8_3 (ji41)).length : Int) := of_decide_eq_true (by first | (with_reducible assumption) | assumption)
                                                            obtain ⟨ad136, e136, hx136_0⟩ := Kd.at_int (by repeat (first | (with_reducible exact HR135_0.out) | (with_reducible refine Kd.C_alloc ?_ _) | (with_reducible refine Kd.C_drewN ?_ _) | (with_reducible refine Kd.C_drew ?_) | exact HR135_0.out)) (ji44) p136 q136
                                                            cases e136
                                                            replace p136 := eq_true p136
                                                            replace q136 := eq_true q136
                                                            have p49 : 0 ≤ (x9_2 : Int) := of_decide_eq_true (by first | (with_reducible assumption) | assumption)
                                                            have q49 : x9_2 < (a0.size : Int) := of_decide_eq_true (by first | (with_reducible assumption) | assumption)
                                                            have hx49 := bt_at a0 x9_2
                                                            replace p49 := eq_true p49
                                                            replace q49 := eq_true q49
                                                            have p52 : 0 ≤ (x10_3 : Int) := of_decide_eq_true (by first | (with_reducible assumption) | assumption)
                                                            have q52 : x10_3 < (a1.size : Int) := of_decide_eq_true (by first | (with_reducible assumption) | assumption)
                                                            have hx52 := bt_at a1 x10_3
                                                            replace p52 := eq_true p52
                                                            replace q52 := eq_true q52
                                                            refine start_ (n := 18) (S := fun w' => w'.cell? ⟨go19, ((ji41)).toNat, none⟩ = some (.slice (some ad136) (rd_L4 x8_3 (ji41)).length c135_0) ∧ w'.cell? (ad136.add ((ji44)).toNat) = some (.int .i64 (rd (rd_L4 x8_3 (ji41)) (ji44)))) (ds := []) #[false, false, false, false, false, false, false, false, false, false, false, false, false, false, false, false, false, false] (by kernel_rfl) rfl rfl ⟨hx135_0, hx136_0⟩ (fun hHeld => ?_); refine with_tabW chargeparkref36_Distance.tab17 chargeparkref36_Distance.bits17 (fun HT_ HW_ => ?_)
                                                            generalize wr.drew = w61 at HO_8 HB HL135_0 HR135_0 HX135_0 hx135_0 hx136_0 hHeld ⊢
                                                            refine pure_ (i := 0) (N := some 75) (v := ?_) (a' := ?_) #[true, false, false, false, false, false, false, false, false, false, false, false, false, false, false, false, false, false] rfl rfl (any_of HT_.out (by kernel_rfl)) (fun _ _ _ h => h) (Or.inl ⟨by rfl, ?_⟩) ?_ ?_
                                                            rotate_left
                                                            · intro w'
                                                              go_simp
                                                              with_reducible rfl
                                                            rotate_left
                                                            · simp only [Act.put, List.setIfInBounds_toArray, List.set_cons_zero, List.set_cons_succ, i64_w, i32_w]
                                                              rfl
                                                            refine pure_ (i := 1) (N := some 76) (v := ?_) (a' := ?_) #[true, true, false, false, false, false, false, false, false, false, false, false, false, false, false, false, false, false] rfl rfl (any_of HT_.out (by kernel_rfl)) (fun _ _ _ h => h) (Or.inl ⟨by rfl, ?_⟩) ?_ ?_
                                                            rotate_left
                                                            · intro w'
                                                              go_simp
                                                              with_reducible rfl
                                                            rotate_left
                                                            · simp only [Act.put, List.setIfInBounds_toArray, List.set_cons_zero, List.set_cons_succ, i64_w, i32_w]
                                                              rfl
                                                            refine pure_ (i := 2) (N := some 77) (v := ?_) (a' := ?_) #[true, true, true, false, false, false, false, false, false, false, false, false, false, false, false, false, false, false] rfl rfl (any_of HT_.out (by kernel_rfl)) (fun _ _ _ h => h) (Or.inl ⟨by rfl, ?_⟩) ?_ ?_
                                                            rotate_left
                                                            · intro w'
                                                              go_simp
                                                              with_reducible rfl
                                                            rotate_left
                                                            · simp only [Act.put, List.setIfInBounds_toArray, List.set_cons_zero, List.set_cons_succ, i64_w, i32_w]
                                                              rfl
                                                            refine pure_ (i := 3) (N := some 78) (v := ?_) (a' := ?_) #[true, true, true, true, false, false, false, false, false, false, false, false, false, false, false, false, false, false] rfl rfl (any_of HT_.out (by kernel_rfl)) (fun _ _ _ h => h) (Or.inl ⟨by rfl, ?_⟩) ?_ ?_
                                                            rotate_left
                                                            · intro w'
                                                              go_simp
                                                              with_reducible rfl
                                                            rotate_left
                                                            · simp only [Act.put, List.setIfInBounds_toArray, List.set_cons_zero, List.set_cons_succ, i64_w, i32_w]
                                                              rfl
                                                            refine pure_ (i := 5) (N := some 80) (v := ?_) (a' := ?_) #[true, true, true, true, false, true, false, false, false, false, false, false, false, false, false, false, false, false] rfl rfl (any_of HT_.out (by kernel_rfl)) (fun _ _ _ h => h) (Or.inl ⟨by rfl, ?_⟩) ?_ ?_
                                                            rotate_left
                                                            · intro w'
                                                              go_simp
                                                              with_reducible rfl
                                                            rotate_left
                                                            · simp only [Act.put, List.setIfInBounds_toArray, List.set_cons_zero, List.set_cons_succ, i64_w, i32_w]
                                                              rfl
                                                            refine pure_ (i := 6) (N := some 81) (v := ?_) (a' := ?_) #[true, true, true, true, false, true, true, false, false, false, false, false, false, false, false, false, false, false] rfl rfl (any_of HT_.out (by kernel_rfl)) (fun _ _ _ h => h) (Or.inl ⟨by rfl, ?_⟩) ?_ ?_
                                                            rotate_left
                                                            · intro w'
                                                              go_simp
                                                              with_reducible rfl
                                                            rotate_left
                                                            · simp only [Act.put, List.setIfInBounds_toArray, List.set_cons_zero, List.set_cons_succ, i64_w, i32_w]
                                                              rfl
                                                            refine pure_ (i := 9) (N := some 84) (v := ?_) (a' := ?_) #[true, true, true, true, false, true, true, false, false, true, false, false, false, false, false, false, false, false] rfl rfl (any_of HT_.out (by kernel_rfl)) (fun _ _ _ h => h) (Or.inl ⟨by rfl, ?_⟩) ?_ ?_
                                                            rotate_left
                                                            · intro w'
                                                              go_simp
                                                              with_reducible rfl
                                                            rotate_left
                                                            · simp only [Act.put, List.setIfInBounds_toArray, List.set_cons_zero, List.set_cons_succ, i64_w, i32_w]
                                                              rfl
                                                            refine pure_ (i := 10) (N := some 85) (v := ?_) (a' := ?_) #[true, true, true, true, false, true, true, false, false, true, true, false, false, false, false, false, false, false] rfl rfl (any_of HT_.out (by kernel_rfl)) (fun _ _ _ h => h) (Or.inl ⟨by rfl, ?_⟩) ?_ ?_
                                                            rotate_left
                                                            · intro w'
                                                              go_simp
                                                              with_reducible rfl
                                                            rotate_left
                                                            · simp only [Act.put, List.setIfInBounds_toArray, List.set_cons_zero, List.set_cons_succ, i64_w, i32_w]
                                                              rfl
                                                            refine pure_ (i := 12) (N := some 87) (v := ?_) (a' := ?_) #[true, true, true, true, false, true, true, false, false, true, true, false, true, false, false, false, false, false] rfl rfl (any_of HT_.out (by kernel_rfl)) (fun _ _ _ h => h) (Or.inl ⟨by rfl, ?_⟩) ?_ ?_
                                                            rotate_left
                                                            · intro w'
                                                              go_simp
                                                              with_reducible rfl
                                                            rotate_left
                                                            · simp only [Act.put, List.setIfInBounds_toArray, List.set_cons_zero, List.set_cons_succ, i64_w, i32_w]
                                                              rfl
                                                            refine pure_ (i := 13) (N := some 88) (v := ?_) (a' := ?_) #[true, true, true, true, false, true, true, false, false, true, true, false, true, true, false, false, false, false] rfl rfl (any_of HT_.out (by kernel_rfl)) (fun _ _ _ h => h) (Or.inl ⟨by rfl, ?_⟩) ?_ ?_
                                                            rotate_left
                                                            · intro w'
                                                              go_simp
                                                              with_reducible rfl
                                                            rotate_left
                                                            · simp only [Act.put, List.setIfInBounds_toArray, List.set_cons_zero, List.set_cons_succ, i64_w, i32_w]
                                                              rfl
                                                            refine take_ (i := 4) (N := some 79) (v := ?_) (a' := ?_) #[true, true, true, true, true, true, true, false, false, true, true, false, true, true, false, false, false, false] rfl rfl (take_ofW HT_.out HW_.out (by kernel_rfl)) (fun _ _ _ h => h) (Or.inl ⟨by rfl, ?_⟩) hHeld ?_ ?_
                                                            rotate_left
                                                            · rintro w' ⟨s0, s1⟩
                                                              go_simp
                                                              with_reducible rfl
                                                            rotate_left
                                                            · simp only [Act.put, List.setIfInBounds_toArray, List.set_cons_zero, List.set_cons_succ, i64_w, i32_w]
                                                              rfl
                                                            refine pure_ (i := 7) (N := some 82) (v := ?_) (a' := ?_) #[true, true, true, true, true, true, true, true, false, true, true, false, true, true, false, false, false, false] rfl rfl (any_of HT_.out (by kernel_rfl)) (fun _ _ _ h => h) (Or.inl ⟨by rfl, ?_⟩) ?_ ?_
                                                            rotate_left
                                                            · intro w'
                                                              go_simp
                                                              with_reducible rfl
                                                            rotate_left
                                                            · simp only [Act.put, List.setIfInBounds_toArray, List.set_cons_zero, List.set_cons_succ, i64_w, i32_w]
                                                              rfl
                                                            refine take_ (i := 8) (N := some 83) (v := ?_) (a' := ?_) #[true, true, true, true, true, true, true, true, true, true, true, false, true, true, false, false, false, false] rfl rfl (take_ofW HT_.out HW_.out (by kernel_rfl)) (fun _ _ _ h => h) (Or.inl ⟨by rfl, ?_⟩) hHeld ?_ ?_
                                                            rotate_left
                                                            · rintro w' ⟨s0, s1⟩
                                                              go_simp
                                                              with_reducible rfl
                                                            rotate_left
                                                            · simp only [Act.put, List.setIfInBounds_toArray, List.set_cons_zero, List.set_cons_succ, i64_w, i32_w]
                                                              rfl
                                                            refine take_ (i := 11) (N := some 86) (v := ?_) (a' := ?_) #[true, true, true, true, true, true, true, true, true, true, true, true, true, true, false, false, false, false] rfl rfl (take_ofW HT_.out HW_.out (by kernel_rfl)) (fun _ _ _ h => h) (Or.inl ⟨by rfl, ?_⟩) hHeld ?_ ?_
                                                            rotate_left
                                                            · rintro w' ⟨s0, s1⟩
                                                              go_simp
                                                              with_reducible rfl
                                                            rotate_left
                                                            · simp only [Act.put, List.setIfInBounds_toArray, List.set_cons_zero, List.set_cons_succ, i64_w, i32_w]
                                                              rfl
                                                            refine take_ (i := 14) (N := some 89) (v := ?_) (a' := ?_) #[true, true, true, true, true, true, true, true, true, true, true, true, true, true, true, false, false, false] rfl rfl (take_ofW HT_.out HW_.out (by kernel_rfl)) (fun _ _ _ h => h) (Or.inl ⟨by rfl, ?_⟩) hHeld ?_ ?_
                                                            rotate_left
                                                            · rintro w' ⟨s0, s1⟩
                                                              go_simp
                                                              with_reducible rfl
                                                            rotate_left
                                                            · simp only [Act.put, List.setIfInBounds_toArray, List.set_cons_zero, List.set_cons_succ, i64_w, i32_w]
                                                              rfl
                                                            refine one_ (i := 15) (N := some 90) #[true, true, true, true, true, true, true, true, true, true, true, true, true, true, true, true, false, false] rfl rfl (one_of HT_.out (by kernel_rfl)) (by decide) (fun K hK => ?_)
                                                            refine goes_ Tryd.func20 (by kernel_rfl) rfl #[.int .u8 (bt a0 x9_2), .int .u8 (bt a1 x10_3)] (by rfl) rfl rfl (by (try simp only [List.map_toArray, List.map_cons, List.map_nil]); first | done | rfl | (simp only [List.length_drop, List.length_take]; rfl)) ?_
                                                            with_reducible refine (chargeparkref36_Cost.calls (bt a0 x9_2) (bt a1 x10_3) t137 _ A53.out).mono ?_
                                                            rintro e w62 ⟨rfl, hb⟩
                                                            have HS0_ := (hb.cell (World.block_lt_of_cell? _ _ (hHeld.1))).trans (hHeld.1)
                                                            have HS1_ := (hb.cell (World.block_lt_of_cell? _ _ (hHeld.2))).trans (hHeld.2)
                                                            refine ⟨_, rfl, ?_⟩
                                                            have n0_ := Aside0.mk (Kd.S_below (by (with_reducible repeat (first | apply Kd.S_alloc | apply Kd.S_drewN | apply Kd.S_drew)); exact HO_8.out) hb)
                                                            have n1_ := Aside0.mk (Kd.R_below (by (with_reducible repeat (first | apply Kd.R_alloc | apply Kd.R_drewN | apply Kd.R_drew)); exact HL135_0.out) hb)
                                                            have n2_ := Aside0.mk (Kd.C_below (by repeat (first | (with_reducible exact HR135_0.out) | (with_reducible refine Kd.C_alloc ?_ _) | (with_reducible refine Kd.C_drewN ?_ _) | (with_reducible refine Kd.C_drew ?_) | exact HR135_0.out)) hb)
                                                            have n3_ := Aside0.mk (pw_cell_below hb HX135_0.out)
                                                            have n4_ := Aside0.mk (below_step (by repeat (first | (with_reducible first | exact HB.out | apply below_alloc | apply pw_below_drewN | apply below_drew1) | exact HB.out)) hb)
                                                            clear HO_8
                                                            clear HL135_0
                                                            clear HR135_0
                                                            clear HX135_0
                                                            clear HB
                                                            have HO_8 := n0_
                                                            have HL135_0 := n1_
                                                            have HR135_0 := n2_
                                                            have HX135_0 := n3_
                                                            have HB := n4_
                                                            clear n0_ n1_ n2_ n3_ n4_
                                                            (try clear hb)
                                                            (try clear hb2)
                                                            (try clear hk)
                                                            (try clear hi)
                                                            refine hK.out _ _ ⟨HS0_, HS1_⟩ (fun hHeld => ?_)
                                                            clear hK K
                                                            refine norm_ (a' := ?_) ?_ ?_
                                                            rotate_left
                                                            · show Act.put _ (some 90) _ = _
                                                              simp only [Act.put, List.setIfInBounds_toArray, List.set_cons_zero, List.set_cons_succ, i64_w, i32_w]
                                                              rfl
                                                            refine pure_ (i := 16) (N := some 91) (v := ?_) (a' := ?_) #[true, true, true, true, true, true, true, true, true, true, true, true, true, true, true, true, true, false] rfl rfl (any_of HT_.out (by kernel_rfl)) (fun _ _ _ h => h) (Or.inl ⟨by rfl, ?_⟩) ?_ ?_
                                                            rotate_left
                                                            · intro w'
                                                              go_simp
                                                              with_reducible rfl
                                                            rotate_left
                                                            · simp only [Act.put, List.setIfInBounds_toArray, List.set_cons_zero, List.set_cons_succ, i64_w, i32_w]
                                                              rfl
                                                            refine pure_ (i := 17) (N := some 11) (v := ?_) (a' := ?_) #[true, true, true, true, true, true, true, true, true, true, true, true, true, true, true, true, true, true] rfl rfl (any_of HT_.out (by kernel_rfl)) (fun _ _ _ h => h) (Or.inl ⟨by rfl, ?_⟩) ?_ ?_
                                                            rotate_left
                                                            · intro w'
                                                              go_simp
                                                              with_reducible rfl
                                                            rotate_left
                                                            · simp only [Act.put, List.setIfInBounds_toArray, List.set_cons_zero, List.set_cons_succ, i64_w, i32_w]
                                                              rfl
                                                            refine done_ (done_of HT_.out (by kernel_rfl)) ?_
                                                            have p138 : 0 ≤ ((ji41) : Int) := of_decide_eq_true (by first | (with_reducible assumption) | assumption)
                                                            have q138 : (ji41) < (x8_3.length : Int) := of_decide_eq_true (by first | (with_reducible assumption) | assumption)
                                                            obtain ⟨ad138, A138_0, c138_0, e138, hx138_0, hl138_0, hi138_0⟩ := at_L4 (Kd.S_reads' HO_8.out).2.2 (ji41) p138 q138
                                                            obtain rfl : (⟨go19, 0, none⟩ : Addr) = ad138 := (by injection e138)
                                                            obtain ⟨ce138, hce138, hMe138, hcc138⟩ := Kd.S_get HO_8.out [] (ji41) p138 (by first | exact q138 | exact of_decide_eq_true (by first | (with_reducible assumption) | assumption) | (have e_ := (Kd.S_reads' HO_8.out).1; omega))
                                                            obtain ⟨ve138_0, rfl, ge138_0⟩ := hMe138
                                                            have hv138_0 := hcc138 0 _ rfl
                                                            rw [Nat.add_zero, show ((Kd.slice 3 (Kd.int .i64))).sz = 1 from rfl, Nat.mul_one] at hv138_0
                                                            replace hv138_0 := Option.some.inj (hv138_0.symm.trans hx138_0)
                                                            rw [hv138_0] at ge138_0
                                                            have HL138_0 := Aside0.mk (show Kd.R (Kd.int .i64) 3 _ _ _ _ (rd_L4 x8_3 (ji41)) from ge138_0)
                                                            clear hv138_0 ge138_0
                                                            have HX138_0 := Aside0.mk hx138_0
                                                            clear hcc138 hce138
                                                            (first | simp only [add_plain] at hx138_0 | simp only [add_at] at hx138_0 | simp only [Addr.add, Nat.zero_add] at hx138_0 | skip)
                                                            have HR138_0 := Aside0.mk hi138_0
                                                            have HC138_0 := Aside0.mk hl138_0
                                                            clear hi138_0 hl138_0
                                                            replace p138 := eq_true p138
                                                            replace q138 := eq_true q138
                                                            have p139 : 0 ≤ (x10_3 : Int) := of_decide_eq_true (by first | (with_reducible assumption) | assumption)
                                                            have q139 : x10_3 < ((rd_L4 x8_3 (ji41)).length : Int) := of_decide_eq_true (by first | (with_reducible assumption) | assumption)
                                                            obtain ⟨ad139, e139, hx139_0⟩ := Kd.at_int (by repeat (first | (with_reducible exact HR138_0.out) | (with_reducible refine Kd.C_alloc ?_ _) | (with_reducible refine Kd.C_drewN ?_ _) | (with_reducible refine Kd.C_drew ?_) | exact HR138_0.out)) x10_3 p139 q139
                                                            cases e139
                                                            replace p139 := eq_true p139
                                                            replace q139 := eq_true q139
                                                            try clear hHeld
                                                            try clear HS0_
                                                            try clear HS1_
                                                            try clear HS2_
                                                            try clear HS3_
                                                            try clear HS4_
                                                            try go_wp2
                                                            have n0_ := Aside0.mk (Kd.S_drew HO_8.out)
                                                            have n1_ := Aside0.mk (Kd.R_drew HL135_0.out)
                                                            have n2_ := Aside0.mk (Kd.R_drew HL138_0.out)
                                                            have n3_ := Aside0.mk (Kd.C_drew HR135_0.out)
                                                            have n4_ := Aside0.mk (Kd.C_drew HR138_0.out)
                                                            have n5_ := Aside0.mk (below_drew1 HB.out)
                                                            clear HO_8
                                                            clear HL135_0
                                                            clear HL138_0
                                                            clear HR135_0
                                                            clear HR138_0
                                                            clear HB
                                                            have HO_8 := n0_
                                                            have HL135_0 := n1_
                                                            have HL138_0 := n2_
                                                            have HR135_0 := n3_
                                                            have HR138_0 := n4_
                                                            have HB := n5_
                                                            clear n0_ n1_ n2_ n3_ n4_ n5_
                                                            have p140 : 0 ≤ (x9_2 : Int) := of_decide_eq_true (by first | (with_reducible assumption) | assumption)
                                                            have q140 : x9_2 < (x8_3.length : Int) := of_decide_eq_true (by first | (with_reducible assumption) | assumption)
                                                            obtain ⟨ad140, A140_0, c140_0, e140, hx140_0, hl140_0, hi140_0⟩ := at_L4 (Kd.S_reads' HO_8.out).2.2 x9_2 p140 q140
                                                            obtain rfl : (⟨go19, 0, none⟩ : Addr) = ad140 := (by injection e140)
                                                            obtain ⟨ce140, hce140, hMe140, hcc140⟩ := Kd.S_get HO_8.out [] x9_2 p140 (by first | exact q140 | exact of_decide_eq_true (by first | (with_reducible assumption) | assumption) | (have e_ := (Kd.S_reads' HO_8.out).1; omega))
                                                            obtain ⟨ve140_0, rfl, ge140_0⟩ := hMe140
                                                            have hv140_0 := hcc140 0 _ rfl
                                                            rw [Nat.add_zero, show ((Kd.slice 3 (Kd.int .i64))).sz = 1 from rfl, Nat.mul_one] at hv140_0
                                                            replace hv140_0 := Option.some.inj (hv140_0.symm.trans hx140_0)
                                                            rw [hv140_0] at ge140_0
                                                            have HL140_0 := Aside0.mk (show Kd.R (Kd.int .i64) 3 _ _ _ _ (rd_L4 x8_3 x9_2) from ge140_0)
                                                            clear hv140_0 ge140_0
                                                            have HX140_0 := Aside0.mk hx140_0
                                                            clear hcc140 hce140
                                                            (first | simp only [add_plain] at hx140_0 | simp only [add_at] at hx140_0 | simp only [Addr.add, Nat.zero_add] at hx140_0 | skip)
                                                            have HR140_0 := Aside0.mk hi140_0
                                                            have HC140_0 := Aside0.mk hl140_0
                                                            clear hi140_0 hl140_0
                                                            replace p140 := eq_true p140
                                                            replace q140 := eq_true q140
                                                            have p141 : 0 ≤ (x9_2 : Int) := of_decide_eq_true (by first | (with_reducible assumption) | assumption)
                                                            have q141 : x9_2 < (x8_3.length : Int) := of_decide_eq_true (by first | (with_reducible assumption) | assumption)
                                                            obtain ⟨ad141, A141_0, c141_0, e141, hx141_0, hl141_0, hi141_0⟩ := at_L4 (Kd.S_reads' HO_8.out).2.2 x9_2 p141 q141
                                                            obtain rfl : (⟨go19, 0, none⟩ : Addr) = ad141 := (by injection e141)
                                                            obtain ⟨ce141, hce141, hMe141, hcc141⟩ := Kd.S_get HO_8.out [] x9_2 p141 (by first | exact q141 | exact of_decide_eq_true (by first | (with_reducible assumption) | assumption) | (have e_ := (Kd.S_reads' HO_8.out).1; omega))
                                                            obtain ⟨ve141_0, rfl, ge141_0⟩ := hMe141
                                                            have hv141_0 := hcc141 0 _ rfl
                                                            rw [Nat.add_zero, show ((Kd.slice 3 (Kd.int .i64))).sz = 1 from rfl, Nat.mul_one] at hv141_0
                                                            replace hv141_0 := Option.some.inj (hv141_0.symm.trans hx141_0)
                                                            rw [hv141_0] at ge141_0
                                                            have HL141_0 := Aside0.mk (show Kd.R (Kd.int .i64) 3 _ _ _ _ (rd_L4 x8_3 x9_2) from ge141_0)
                                                            clear hv141_0 ge141_0
                                                            have HX141_0 := Aside0.mk hx141_0
                                                            clear hcc141 hce141
                                                            (first | simp only [add_plain] at hx141_0 | simp only [add_at] at hx141_0 | simp only [Addr.add, Nat.zero_add] at hx141_0 | skip)
                                                            have HR141_0 := Aside0.mk hi141_0
                                                            have HC141_0 := Aside0.mk hl141_0
                                                            clear hi141_0 hl141_0
                                                            replace p141 := eq_true p141
                                                            replace q141 := eq_true q141
                                                            have ea_ := Option.some.inj (hx140_0.symm.trans hx141_0)
                                                            injection ea_ with ea_ en_ ec_
                                                            subst ea_
                                                            subst ec_
                                                            clear en_
                                                            have p142 : 0 ≤ ((ji44) : Int) := of_decide_eq_true (by first | (with_reducible assumption) | assumption)
                                                            have q142 : (ji44) < ((rd_L4 x8_3 x9_2).length : Int) := of_decide_eq_true (by first | (with_reducible assumption) | assumption)
                                                            obtain ⟨ad142, e142, hx142_0⟩ := Kd.at_int (by repeat (first | (with_reducible exact HR141_0.out) | (with_reducible refine Kd.C_alloc ?_ _) | (with_reducible refine Kd.C_drewN ?_ _) | (with_reducible refine Kd.C_drew ?_) | exact HR141_0.out)) (ji44) p142 q142
                                                            cases e142
                                                            replace p142 := eq_true p142
                                                            replace q142 := eq_true q142
                                                            have p60 : 0 ≤ (x10_3 : Int) := of_decide_eq_true (by first | (with_reducible assumption) | assumption)
                                                            have q60 : (x10_3 : Int) < (((rd_L4 x8_3 x9_2).length : Int) : Int) := of_decide_eq_true (by first | (with_reducible assumption) | assumption)
                                                            obtain ⟨go60, co60, eo60, gb60, gl60, cl60, HG60⟩ := Kd.R_form HL140_0.out (by omega)
                                                            (first | cases eo60 | (injection eo60 with ea_ en_ ec_; (first | subst ea_ | (injection ea_ with ea_; subst ea_)); subst ec_; clear en_))
                                                            have GB60 := Aside0.mk gb60
                                                            have GG60 := Aside0.mk HG60
                                                            clear gb60 gl60 HG60
                                                            (first | simp only [add_plain] at hx142_0 | skip)
                                                            obtain ⟨hx60_0, hf60_0⟩ := Kd.R_celln 0 HL140_0.out (x10_3 : Int) p60 q60
                                                            replace p60 := eq_true p60
                                                            replace q60 := eq_true q60
                                                            have hq64 : (x9_2 : Int) < (x8_3.length : Int) := (by have h_ : (x9_2 : Int) < ((x8_3.length : Int) : Int) := of_decide_eq_true (by first | (with_reducible assumption) | assumption); first | exact h_ | (have e_ := (Kd.S_reads' HO_8.out).1; omega) | simpa only [List.length_set, List.length_set] using h_)
                                                            obtain ⟨oki64, ce64, hcl64, hM64, hcc64, hok64, hbk64⟩ := Kd.S_borrow HO_8.out [] (x9_2 : Int) (of_decide_eq_true (by first | (with_reducible assumption) | assumption)) hq64
                                                            obtain ⟨ve64_0, rfl, ge64_0⟩ := hM64
                                                            have hv64 := hcc64 0 _ rfl
                                                            rw [Nat.add_zero, show ((Kd.slice 3 (Kd.int .i64))).sz = 1 from rfl, Nat.mul_one] at hv64
                                                            replace hv64 := Option.some.inj (hv64.symm.trans HX140_0.out)
                                                            subst hv64
                                                            clear hcc64 hcl64
                                                            replace ge64_0 := (show Kd.R (Kd.int .i64) 3 _ _ _ _ (rd_L4 x8_3 x9_2) from ge64_0)
                                                            have HP64 := Kd.R_putg ge64_0 (x10_3 : Int) ji58
                                                            rw [← Ny143.out] at HP64
                                                            have HS64 := hbk64 HP64.2 (fun k_ e_ => by injection e_ with e_; subst e_; exact ge64_0.1 _ rfl) (x' := y143) (Kd.M_row HP64.1)
                                                            rw [← Ny145.out] at HS64
                                                            have HQ64 := Aside0.mk HS64
                                                            clear HP64 HS64 hbk64 hok64
                                                            refine start_ (n := 18) (S := fun w' => w'.cell? ⟨go19, (x9_2).toNat, none⟩ = some (.slice (some ⟨go60, 0, none⟩) (rd_L4 x8_3 x9_2).length c140_0) ∧ w'.cell? ⟨go19, (x9_2).toNat, none⟩ = some (.slice (some ⟨go60, 0, none⟩) (rd_L4 x8_3 x9_2).length c140_0) ∧ w'.cell? ⟨go60, ((ji44)).toNat, none⟩ = some (.int .i64 (rd (rd_L4 x8_3 x9_2) (ji44)))) (ds := [17]) #[false, false, false, false, false, false, false, false, false, false, false, false, false, false, false, false, false, false] (by kernel_rfl) rfl rfl ⟨hx140_0, hx141_0, hx142_0⟩ (fun hHeld => ?_); refine with_tabW chargeparkref36_Distance.tab19 chargeparkref36_Distance.bits19 (fun HT_ HW_ => ?_)
                                                            generalize w62.drew = w63 at HO_8 HL135_0 HL138_0 HR135_0 HR138_0 HB GG60 HL140_0 HL141_0 HQ64 HR140_0 HR141_0 HX140_0 HX141_0 hf60_0 hx140_0 hx141_0 hx142_0 hx60_0 hHeld ⊢
                                                            refine pure_ (i := 0) (N := some 103) (v := ?_) (a' := ?_) #[true, false, false, false, false, false, false, false, false, false, false, false, false, false, false, false, false, false] rfl rfl (any_of HT_.out (by kernel_rfl)) (fun _ _ _ h => h) (Or.inl ⟨by rfl, ?_⟩) ?_ ?_
                                                            rotate_left
                                                            · intro w'
                                                              go_simp
                                                              with_reducible rfl
                                                            rotate_left
                                                            · simp only [Act.put, List.setIfInBounds_toArray, List.set_cons_zero, List.set_cons_succ, i64_w, i32_w]
                                                              rfl
                                                            refine pure_ (i := 1) (N := some 104) (v := ?_) (a' := ?_) #[true, true, false, false, false, false, false, false, false, false, false, false, false, false, false, false, false, false] rfl rfl (any_of HT_.out (by kernel_rfl)) (fun _ _ _ h => h) (Or.inl ⟨by rfl, ?_⟩) ?_ ?_
                                                            rotate_left
                                                            · intro w'
                                                              go_simp
                                                              with_reducible rfl
                                                            rotate_left
                                                            · simp only [Act.put, List.setIfInBounds_toArray, List.set_cons_zero, List.set_cons_succ, i64_w, i32_w]
                                                              rfl
                                                            refine pure_ (i := 2) (N := some 105) (v := ?_) (a' := ?_) #[true, true, true, false, false, false, false, false, false, false, false, false, false, false, false, false, false, false] rfl rfl (any_of HT_.out (by kernel_rfl)) (fun _ _ _ h => h) (Or.inl ⟨by rfl, ?_⟩) ?_ ?_
                                                            rotate_left
                                                            · intro w'
                                                              go_simp
                                                              with_reducible rfl
                                                            rotate_left
                                                            · simp only [Act.put, List.setIfInBounds_toArray, List.set_cons_zero, List.set_cons_succ, i64_w, i32_w]
                                                              rfl
                                                            refine pure_ (i := 4) (N := some 107) (v := ?_) (a' := ?_) #[true, true, true, false, true, false, false, false, false, false, false, false, false, false, false, false, false, false] rfl rfl (any_of HT_.out (by kernel_rfl)) (fun _ _ _ h => h) (Or.inl ⟨by rfl, ?_⟩) ?_ ?_
                                                            rotate_left
                                                            · intro w'
                                                              go_simp
                                                              with_reducible rfl
                                                            rotate_left
                                                            · simp only [Act.put, List.setIfInBounds_toArray, List.set_cons_zero, List.set_cons_succ, i64_w, i32_w]
                                                              rfl
                                                            refine pure_ (i := 5) (N := some 108) (v := ?_) (a' := ?_) #[true, true, true, false, true, true, false, false, false, false, false, false, false, false, false, false, false, false] rfl rfl (any_of HT_.out (by kernel_rfl)) (fun _ _ _ h => h) (Or.inl ⟨by rfl, ?_⟩) ?_ ?_
                                                            rotate_left
                                                            · intro w'
                                                              go_simp
                                                              with_reducible rfl
                                                            rotate_left
                                                            · simp only [Act.put, List.setIfInBounds_toArray, List.set_cons_zero, List.set_cons_succ, i64_w, i32_w]
                                                              rfl
                                                            refine pure_ (i := 6) (N := some 109) (v := ?_) (a' := ?_) #[true, true, true, false, true, true, true, false, false, false, false, false, false, false, false, false, false, false] rfl rfl (any_of HT_.out (by kernel_rfl)) (fun _ _ _ h => h) (Or.inl ⟨by rfl, ?_⟩) ?_ ?_
                                                            rotate_left
                                                            · intro w'
                                                              go_simp
                                                              with_reducible rfl
                                                            rotate_left
                                                            · simp only [Act.put, List.setIfInBounds_toArray, List.set_cons_zero, List.set_cons_succ, i64_w, i32_w]
                                                              rfl
                                                            refine pure_ (i := 7) (N := some 110) (v := ?_) (a' := ?_) #[true, true, true, false, true, true, true, true, false, false, false, false, false, false, false, false, false, false] rfl rfl (any_of HT_.out (by kernel_rfl)) (fun _ _ _ h => h) (Or.inl ⟨by rfl, ?_⟩) ?_ ?_
                                                            rotate_left
                                                            · intro w'
                                                              go_simp
                                                              with_reducible rfl
                                                            rotate_left
                                                            · simp only [Act.put, List.setIfInBounds_toArray, List.set_cons_zero, List.set_cons_succ, i64_w, i32_w]
                                                              rfl
                                                            refine pure_ (i := 8) (N := some 111) (v := ?_) (a' := ?_) #[true, true, true, false, true, true, true, true, true, false, false, false, false, false, false, false, false, false] rfl rfl (any_of HT_.out (by kernel_rfl)) (fun _ _ _ h => h) (Or.inl ⟨by rfl, ?_⟩) ?_ ?_
                                                            rotate_left
                                                            · intro w'
                                                              go_simp
                                                              with_reducible rfl
                                                            rotate_left
                                                            · simp only [Act.put, List.setIfInBounds_toArray, List.set_cons_zero, List.set_cons_succ, i64_w, i32_w]
                                                              rfl
                                                            refine pure_ (i := 10) (N := some 113) (v := ?_) (a' := ?_) #[true, true, true, false, true, true, true, true, true, false, true, false, false, false, false, false, false, false] rfl rfl (any_of HT_.out (by kernel_rfl)) (fun _ _ _ h => h) (Or.inl ⟨by rfl, ?_⟩) ?_ ?_
                                                            rotate_left
                                                            · intro w'
                                                              go_simp
                                                              with_reducible rfl
                                                            rotate_left
                                                            · simp only [Act.put, List.setIfInBounds_toArray, List.set_cons_zero, List.set_cons_succ, i64_w, i32_w]
                                                              rfl
                                                            refine pure_ (i := 11) (N := some 114) (v := ?_) (a' := ?_) #[true, true, true, false, true, true, true, true, true, false, true, true, false, false, false, false, false, false] rfl rfl (any_of HT_.out (by kernel_rfl)) (fun _ _ _ h => h) (Or.inl ⟨by rfl, ?_⟩) ?_ ?_
                                                            rotate_left
                                                            · intro w'
                                                              go_simp
                                                              with_reducible rfl
                                                            rotate_left
                                                            · simp only [Act.put, List.setIfInBounds_toArray, List.set_cons_zero, List.set_cons_succ, i64_w, i32_w]
                                                              rfl
                                                            refine take_ (i := 3) (N := some 106) (v := ?_) (a' := ?_) #[true, true, true, true, true, true, true, true, true, false, true, true, false, false, false, false, false, false] rfl rfl (take_ofW HT_.out HW_.out (by kernel_rfl)) (fun _ _ _ h => h) (Or.inl ⟨by rfl, ?_⟩) hHeld ?_ ?_
                                                            rotate_left
                                                            · rintro w' ⟨s0, s1, s2⟩
                                                              go_simp
                                                              with_reducible rfl
                                                            rotate_left
                                                            · simp only [Act.put, List.setIfInBounds_toArray, List.set_cons_zero, List.set_cons_succ, i64_w, i32_w]
                                                              rfl
                                                            refine take_ (i := 9) (N := some 112) (v := ?_) (a' := ?_) #[true, true, true, true, true, true, true, true, true, true, true, true, false, false, false, false, false, false] rfl rfl (take_ofW HT_.out HW_.out (by kernel_rfl)) (fun _ _ _ h => h) (Or.inl ⟨by rfl, ?_⟩) hHeld ?_ ?_
                                                            rotate_left
                                                            · rintro w' ⟨s0, s1, s2⟩
                                                              go_simp
                                                              with_reducible rfl
                                                            rotate_left
                                                            · simp only [Act.put, List.setIfInBounds_toArray, List.set_cons_zero, List.set_cons_succ, i64_w, i32_w]
                                                              rfl
                                                            refine pure_ (i := 12) (N := some 115) (v := ?_) (a' := ?_) #[true, true, true, true, true, true, true, true, true, true, true, true, true, false, false, false, false, false] rfl rfl (any_of HT_.out (by kernel_rfl)) (fun _ _ _ h => h) (Or.inl ⟨by rfl, ?_⟩) ?_ ?_
                                                            rotate_left
                                                            · intro w'
                                                              go_simp
                                                              with_reducible rfl
                                                            rotate_left
                                                            · simp only [Act.put, List.setIfInBounds_toArray, List.set_cons_zero, List.set_cons_succ, i64_w, i32_w]
                                                              rfl
                                                            refine take_ (i := 13) (N := some 116) (v := ?_) (a' := ?_) #[true, true, true, true, true, true, true, true, true, true, true, true, true, true, false, false, false, false] rfl rfl (take_ofW HT_.out HW_.out (by kernel_rfl)) (fun _ _ _ h => h) (Or.inl ⟨by rfl, ?_⟩) hHeld ?_ ?_
                                                            rotate_left
                                                            · rintro w' ⟨s0, s1, s2⟩
                                                              go_simp
                                                              with_reducible rfl
                                                            rotate_left
                                                            · simp only [Act.put, List.setIfInBounds_toArray, List.set_cons_zero, List.set_cons_succ, i64_w, i32_w]
                                                              rfl
                                                            refine pure_ (i := 14) (N := some 117) (v := ?_) (a' := ?_) #[true, true, true, true, true, true, true, true, true, true, true, true, true, true, true, false, false, false] rfl rfl (any_of HT_.out (by kernel_rfl)) (fun _ _ _ h => h) (Or.inl ⟨by rfl, ?_⟩) ?_ ?_
                                                            rotate_left
                                                            · intro w'
                                                              go_simp
                                                              with_reducible rfl
                                                            rotate_left
                                                            · simp only [Act.put, List.setIfInBounds_toArray, List.set_cons_zero, List.set_cons_succ, i64_w, i32_w]
                                                              rfl
                                                            refine pure_ (i := 15) (N := some 118) (v := ?_) (a' := ?_) #[true, true, true, true, true, true, true, true, true, true, true, true, true, true, true, true, false, false] rfl rfl (any_of HT_.out (by kernel_rfl)) (fun _ _ _ h => h) (Or.inl ⟨by rfl, ?_⟩) ?_ ?_
                                                            rotate_left
                                                            · intro w'
                                                              go_simp
                                                              with_reducible rfl
                                                            rotate_left
                                                            · simp only [Act.put, List.setIfInBounds_toArray, List.set_cons_zero, List.set_cons_succ, i64_w, i32_w]
                                                              rfl
                                                            refine pure_ (i := 16) (N := some 119) (v := ?_) (a' := ?_) #[true, true, true, true, true, true, true, true, true, true, true, true, true, true, true, true, true, false] rfl rfl (any_of HT_.out (by kernel_rfl)) (fun _ _ _ h => h) (Or.inl ⟨by rfl, ?_⟩) ?_ ?_
                                                            rotate_left
                                                            · intro w'
                                                              go_simp
                                                              with_reducible rfl
                                                            rotate_left
                                                            · simp only [Act.put, List.setIfInBounds_toArray, List.set_cons_zero, List.set_cons_succ, i64_w, i32_w]
                                                              rfl
                                                            refine last_ (i := 17) (N := none) #[true, true, true, true, true, true, true, true, true, true, true, true, true, true, true, true, true, true] rfl rfl (one_of HT_.out (by kernel_rfl)) (by decide) (fun K hK => ?_)
                                                            refine skip_ (w1 := ?_) (by rfl) rfl ?_ ?_
                                                            rotate_left
                                                            · go_simp
                                                              rfl
                                                            refine hK.out _ _ ?_
                                                            clear hK K
                                                            refine done_ (done_of HT_.out (by kernel_rfl)) ?_
                                                            try go_wp2
                                                            (try simp only [← hl8_3])
                                                            go_roundg k3
                                                            case measure => have := HJ4.out; have := HK2.out; have := HK3.out; omega
                                                            case rel => exact ⟨(y145), (wrap64 (x10_3 - 1)), (by first | rfl | (simp; done) | (simp [*]; done)), H', ⟨by have := HJ4.out; have := HK2.out; have := HK3.out; omega⟩, ⟨by (try simp only [hl8_3]); (with_reducible repeat (first | apply Kd.S_alloc | apply Kd.S_drewN | apply Kd.S_drew)); exact HQ64.out⟩, ⟨by repeat (first | (with_reducible first | exact HB.out | apply below_alloc | apply pw_below_drewN | apply below_drew1 | refine below_set ?_ GB60.out) | exact HB.out)⟩⟩
                                                          · rw [if_neg c59] at H
                                                            exact absurd H (by simp)
                                                        · rw [if_neg c57] at H
                                                          exact absurd H (by simp)
                                                      · rw [if_neg c56] at H
                                                        exact absurd H (by simp)
                                                    · rw [if_neg c54] at H
                                                      exact absurd H (by simp)
                                                  · rw [if_neg c51] at H
                                                    exact absurd H (by simp)
                                                · rw [if_neg c50] at H
                                                  exact absurd H (by simp)
                                              · rw [if_neg c48] at H
                                                exact absurd H (by simp)
                                            · rw [if_neg c47] at H
                                              exact absurd H (by simp)
                                          · rw [if_neg c46] at H
                                            exact absurd H (by simp)
                                        · rw [if_neg c45] at H
                                          exact absurd H (by simp)
                                      · rw [if_neg c43] at H
                                        exact absurd H (by simp)
                                    · rw [if_neg c42] at H
                                      exact absurd H (by simp)
                              · rw [if_neg c24] at H
                                have c24b0 : decide (0 ≤ x10_3) = false := decide_eq_false c24
                                clear c24
                                have H' := Aside0.mk H
                                clear H
                                go_wp2
                                (try simp only [← hl8_3])
                                go_roundg k3
                                case measure => have := HJ4.out; have := HK2.out; have := HK3.out; omega
                                case rel => exact ⟨(x8_3), (wrap64 (x9_2 - 1)), (by first | rfl | (simp; done) | (simp [*]; done)), H', ⟨by have := HJ4.out; have := HK2.out; have := HK3.out; omega⟩, ⟨by (try simp only [hl8_3]); (with_reducible repeat (first | apply Kd.S_alloc | apply Kd.S_drewN | apply Kd.S_drew)); exact HO_8.out⟩, ⟨by repeat (first | (with_reducible first | exact HB.out | apply below_alloc | apply pw_below_drewN | apply below_drew1) | exact HB.out)⟩⟩
                        · rw [if_neg c18] at H
                          exact absurd H (by simp)
                      · rw [if_neg c17] at H
                        exact absurd H (by simp)
                    · rw [if_neg c16] at H
                      exact absurd H (by simp)
                  · rw [if_neg c15] at H
                    exact absurd H (by simp)
                · rw [if_neg c13] at H
                  have c13b0 : decide (0 ≤ x9_2) = false := decide_eq_false c13
                  clear c13
                  by_cases c66 : 0 < (x8_2.length : Int)
                  · rw [if_pos c66] at H
                    have c66b0 : decide (0 < (x8_2.length : Int)) = true := decide_eq_true c66
                    have c66b1 : decide (0 < x8_2.length) = true := decide_eq_true (by omega)
                    clear c66
                    by_cases c67 : 0 < ((rd_L4 x8_2 0).length : Int)
                    · rw [if_pos c67] at H
                      have c67b0 : decide (0 < ((rd_L4 x8_2 0).length : Int)) = true := decide_eq_true c67
                      have c67b1 : decide (0 < (rd_L4 x8_2 0).length) = true := decide_eq_true (by omega)
                      clear c67
                      simp only [Option.some.injEq, Prod.mk.injEq] at H
                      obtain ⟨rfl, rfl⟩ := H
                      obtain ⟨Ao68, co68, eo68⟩ := Kd.S_slice HO_8.out
                      subst eo68
                      have p121 : 0 ≤ (0 : Int) := (by omega)
                      have q121 : 0 < (x8_2.length : Int) := of_decide_eq_true (by first | (with_reducible assumption) | assumption)
                      obtain ⟨ad121, A121_0, c121_0, e121, hx121_0, hl121_0, hi121_0⟩ := at_L4 (Kd.S_reads' HO_8.out).2.2 0 p121 q121
                      cases e121
                      obtain ⟨ce121, hce121, hMe121, hcc121⟩ := Kd.S_get HO_8.out [] 0 p121 (by first | exact q121 | exact of_decide_eq_true (by first | (with_reducible assumption) | assumption) | (have e_ := (Kd.S_reads' HO_8.out).1; omega))
                      obtain ⟨ve121_0, rfl, ge121_0⟩ := hMe121
                      have hv121_0 := hcc121 0 _ rfl
                      rw [Nat.add_zero, show ((Kd.slice 3 (Kd.int .i64))).sz = 1 from rfl, Nat.mul_one] at hv121_0
                      replace hv121_0 := Option.some.inj (hv121_0.symm.trans hx121_0)
                      rw [hv121_0] at ge121_0
                      have HL121_0 := Aside0.mk (show Kd.R (Kd.int .i64) 3 _ _ _ _ (rd_L4 x8_2 0) from ge121_0)
                      clear hv121_0 ge121_0
                      have HX121_0 := Aside0.mk hx121_0
                      clear hcc121 hce121
                      have qi121 : (0 < x8_2.length) = True := eq_true (by omega)
                      (try rw [show ((0 : Int)).toNat = 0 from rfl] at hx121_0)
                      (try rw [Addr.add_zero'] at hx121_0)
                      have HR121_0 := Aside0.mk hi121_0
                      have HC121_0 := Aside0.mk hl121_0
                      clear hi121_0 hl121_0
                      replace p121 := eq_true p121
                      replace q121 := eq_true q121
                      have p122 : 0 ≤ (0 : Int) := (by omega)
                      have q122 : 0 < ((rd_L4 x8_2 0).length : Int) := of_decide_eq_true (by first | (with_reducible assumption) | assumption)
                      obtain ⟨ad122, e122, hx122_0⟩ := Kd.at_int (by repeat (first | (with_reducible exact HR121_0.out) | (with_reducible refine Kd.C_alloc ?_ _) | (with_reducible refine Kd.C_drewN ?_ _) | (with_reducible refine Kd.C_drew ?_) | exact HR121_0.out)) 0 p122 q122
                      cases e122
                      have qi122 : (0 < (rd_L4 x8_2 0).length) = True := eq_true (by omega)
                      (try rw [show ((0 : Int)).toNat = 0 from rfl] at hx122_0)
                      (try rw [Addr.add_zero'] at hx122_0)
                      replace p122 := eq_true p122
                      replace q122 := eq_true q122
                      go_wp2
                      go_ret2
                      exact ⟨by first | rfl | (simp [errW_none, errW_some] <;> rfl) | (simp only [← hji8]; first | rfl | (simp [errW_none, errW_some] <;> rfl)) | (simp [*, errW_none, errW_some] <;> rfl), by repeat (first | (with_reducible first | exact HB.out | apply below_alloc | apply pw_below_drewN | apply below_drew1) | exact HB.out)⟩
                    · rw [if_neg c67] at H
                      exact absurd H (by simp)
                  · rw [if_neg c66] at H
                    exact absurd H (by simp)
          · rw [if_neg c10] at H
            exact absurd H (by simp)
        · rw [if_neg c9] at H
          exact absurd H (by simp)

end Go.Proofs.YtcpiapenagbapaaDoor.PPlateMatchesReference
