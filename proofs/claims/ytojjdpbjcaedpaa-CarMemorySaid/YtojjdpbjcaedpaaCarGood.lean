/-
  The walk of car.Draw where the car is fine.
-/
import Derived.Test.YtojjdpbjcaedpaaCarDraw
import Derived.Deep.DeepCutAuto
import Derived.Deep.RegionHeld3
import Derived.StillTailTactics
namespace Go.Proofs.Ytojjdpbjcaedpaa.CarGood
open Go.RowKit Go.Proofs.Ytojjdpbjcaedpaa.Kit Go.Proofs.Ytojjdpbjcaedpaa.PAll Go.Proofs.Ytojjdpbjcaedpaa.CarWalk Go.Proofs.Ytojjdpbjcaedpaa.CarA Go.Proofs.Ytojjdpbjcaedpaa.CarB Go.Proofs.Ytojjdpbjcaedpaa.CarDraw
open Go.Proofs.YtojjdpbjcaedpaaW.PrintWords hiding below_alloc below_drew
open Go.Proofs.YtojjdpbjcaedpaaW.PrintLast
set_option linter.unusedVariables false
set_option linter.unusedSimpArgs false

/-- What the looked-up function answers. -/
def curV (c : Car) (l : List Int) (ticks al : Int) : Int := if c.f0 = 1 then lateI l c.f4 al else if c.f0 = 3 then pauseI ticks c.f4 al else if c.f0 = 4 then greedyI al c.f2 else al
theorem amps_eq (c : Car) (l : List Int) (ticks got on al : Int) : amps c l ticks got on al = if on ≠ 0 ∧ got < c.f3 then mn c.f2 (curV c l ticks al) else 0 := rfl
structure Ok (c : Car) (l : List Int) (ticks got ph al : Int) : Prop where
  k0 : 0 ≤ c.f0
  k4 : c.f0 ≤ 4
  m1 : 1 ≤ c.f2
  m80 : c.f2 ≤ 80
  d0 : 0 ≤ c.f4
  d20 : c.f4 ≤ 20
  pause : c.f0 = 3 → 1 ≤ c.f4
  t0 : 0 ≤ ticks
  t1 : ticks ≤ 999999
  g0 : 0 ≤ got
  g1 : got ≤ 2000000000
  a0 : 0 ≤ al
  a80 : al ≤ 80
  len : l.length ≤ 21
theorem cur_calls (c : Car) (A0 : Option Addr) (c0 : Nat) (l0 : List Int) (ticks got ph al : Int) (h : Ok c l0 ticks got ph al) (w : World) (hr0 : Kd.C (Kd.int .i64) w A0 l0.length l0) :
    Calls Try.prog (fnOf c.f0) #[pv c A0 l0 c0 ticks got, .int .i64 al] w fun e w' => e = .returned (.int .i64 (curV c l0 ticks al)) ∧ Below w.heap.size w w' := by
  unfold fnOf curV
  by_cases h1 : c.f0 = 1
  · rw [if_pos h1, if_pos h1]
    exact late_calls c A0 c0 l0 ticks got al (by have := h.len; omega) h.d0 h.d20 w hr0
  · by_cases h3 : c.f0 = 3
    · rw [if_neg h1, if_pos h3, if_neg h1, if_pos h3]
      exact pause_calls c A0 c0 l0 ticks got al h.t0 (by have := h.t1; omega) (h.pause h3) h.d20 w
    · by_cases h4 : c.f0 = 4
      · rw [if_neg h1, if_neg h3, if_pos h4, if_neg h1, if_neg h3, if_pos h4]
        exact greedy_calls c A0 c0 l0 ticks got al h.a0 (by have := h.m1; omega) h.m80 w
      · rw [if_neg h1, if_neg h3, if_neg h4, if_neg h1, if_neg h3, if_neg h4]
        exact good_calls _ _ rfl rfl al w
theorem enter_cur (k : Int) (h0 : 0 ≤ k) (h4 : k ≤ 4) (args : Array Value) (w : World) : (callFunc (fnOf k) args).run Try.prog w = .ok (.enter (fnOf k) args) w := by
  have h : k = 0 ∨ k = 1 ∨ k = 2 ∨ k = 3 ∨ k = 4 := by omega
  rcases h with rfl | rfl | rfl | rfl | rfl
  · exact enters_ Try.func29 (by kernel_rfl) rfl args w
  · exact enters_ Try.func30 (by kernel_rfl) rfl args w
  · exact enters_ Try.func29 (by kernel_rfl) rfl args w
  · exact enters_ Try.func31 (by kernel_rfl) rfl args w
  · exact enters_ Try.func32 (by kernel_rfl) rfl args w

theorem heldB {c : Car} {A0 : Option Addr} {c0 : Nat} {l0 : List Int} {ticks got : Int} {w W : World} {B : Nat} (h : Held c A0 c0 l0 ticks got w W) (hB : w.heap.size + 1 + 1 + 1 < B) (v : Value) (j : Nat) :
    Held c A0 c0 l0 ticks got w (W.setCell ⟨B, j, none⟩ v) :=
  ⟨(Below.heap_setCell _ _ _ _ (by show w.heap.size + 1 ≠ B; omega)).trans h.gs, (Below.heap_setCell _ _ _ _ (by show w.heap.size + 1 + 1 ≠ B; omega)).trans h.gz, (Below.heap_setCell _ _ _ _ (by show w.heap.size + 1 + 1 + 1 ≠ B; omega)).trans h.gp,
    h.hb.setCell (by show w.heap.size ≤ B; omega) _, by rw [World.size_setCell]; exact h.sz⟩
/-- The new state's block, when it is filled. -/
theorem stored_ {c : Car} {A0 : Option Addr} {c0 : Nat} {l0 : List Int} {ticks got : Int} {w W : World} {B : Nat} {v : Value} {xs : List Int} {t : Int} (h : Held c A0 c0 l0 ticks got w W)
    (hg : W.heap[B]? = some (.cells #[.slice none 0 0, .int .i64 0, .int .i64 0] 26 (0, 0))) (hR : Kd.R (Kd.int .i64) 3 W w.heap.size (fun _ => True) v xs) (hB : w.heap.size + 1 + 1 + 1 < B) :
    let W' := ((W.setCell ⟨B, 0, none⟩ v).setCell ⟨B, 1, none⟩ (.int .i64 t)).setCell ⟨B, 2, none⟩ (.int .i64 0)
    Hid (W'.heap[B]? = some (.cells #[v, .int .i64 t, .int .i64 0] 26 (0, 0))) ∧ Hid (Kd.R (Kd.int .i64) 3 W' w.heap.size (fun _ => True) v xs) ∧ w.heap.size + 1 + 1 + 1 < B ∧ Hid (Held c A0 c0 l0 ticks got w W') := by
  have g1 := blk_put (cs := #[.slice none 0 0, .int .i64 0, .int .i64 0]) hg 0 v rfl
  have g2 := blk_put g1 1 (.int .i64 t) rfl
  have g3 := blk_put g2 2 (.int .i64 0) rfl
  have hty : ∀ q, q ∈ 3 :: (Kd.int .i64).E → q ≠ 26 := by
    intro q hq
    simp only [List.mem_cons] at hq
    rcases hq with rfl | hq
    · decide
    · cases hq
  refine ⟨g3, Kd.R_set (Kd.R_set (Kd.R_set hR hg hty 0 v) g1 hty 1 _) g2 hty 2 _, hB, ?_⟩
  exact heldB (heldB (heldB h hB v 0) hB _ 1) hB _ 2

set_option maxRecDepth 100000 in
set_option maxHeartbeats 8000000 in
theorem fine_calls (c : Car) (A0 : Option Addr) (c0 : Nat) (l0 : List Int) (ticks got ph al : Int) (w : World) (hr0 : Kd.C (Kd.int .i64) w A0 l0.length l0) (hc0 : l0.length ≤ c0) (b1 : validP c l0 ticks got = true) (b2 : remP l0 ticks got = true) (c3 : ¬ ph < 1) (c4 : ¬ ph > 7) (b5 : wrongI al = false) (c6 : ticks ≠ 1000000) (ho : Ok c l0 ticks got ph al) (on : Int) (hon : comm c.f0 c.f1 ph = on) (on0 : 0 ≤ on) (on7 : on ≤ 7) (A : Int) (hA : amps c l0 ticks got on al = A) (ON : Int) (hON : (if A = 0 then 0 else on) = ON) (ON0 : 0 ≤ ON) (ON7 : ON ≤ 7) (hA0 : 0 ≤ A) (hA80 : A ≤ 80) :
    Calls Try.prog 11 #[.agg #[.int .i64 c.f0, .int .i64 c.f1, .int .i64 c.f2, .int .i64 c.f3, .int .i64 c.f4], .agg #[.slice A0 l0.length c0, .int .i64 ticks, .int .i64 got], .int .i64 ph, .int .i64 al] w (Post w A ON ((l0 ++ [al]).drop (l0.length + 1 - 21)) (ticks + 1) (got + 2300 * A * cnt ON) 0) := by
  have hv := fun W hr => valid_calls c A0 c0 l0 ticks got W hr hc0
  have HF := Held.first c A0 c0 l0 ticks got w
  have hrem := fun W hr => remembers_calls c A0 c0 l0 ticks got W hr
  have hw := fun W => wrong_calls al W
  have hcom := fun W => common_calls c A0 c0 l0 ticks got ph W
  rw [b1] at hv
  rw [b2] at hrem
  rw [b5] at hw
  simp only [hon] at hcom
  have HO := Lib.hid ho
  have HA := Lib.hid hA
  have HON := Lib.hid hON
  have HR := Lib.hid hr0
  have HF := Lib.hid HF
  have HV := Lib.hid hv
  have HREM := Lib.hid hrem
  have HW := Lib.hid hw
  have HCOM := Lib.hid hcom
  have d3 : decide (ph < 1) = false := decide_eq_false c3
  have d4 : decide (7 < ph) = false := decide_eq_false c4
  have d6 : (ticks == 1000000) = false := by simpa using c6
  clear hr0 hv hrem hw hcom c3 c4 c6 b1 b2 b5 ho hA hon hON
  go_enter Try.func11, Try.ntmps11
  go_wp2_with fail
  refine (HV.out _ (Kd.C_below HR.out HF.out.hb)).mono ?_
  rintro e w1 ⟨rfl, hb⟩
  have HE1 := Lib.hid (HF.out.below hb)
  obtain ⟨p0, p1, p2, p3, p4, p5, p6, p7, s0, s1, s2, z0, z1, z2⟩ := HE1.out.cells
  clear hb
  go_wp2_with fail
  clear p0 p1 p2 p3 p4 p5 p6 p7 s0 s1 s2 z0 z1 z2
  refine (HREM.out _ (Kd.C_below HR.out HE1.out.hb)).mono ?_
  rintro e w2 ⟨rfl, hb⟩
  have HE2 := Lib.hid (HE1.out.below hb)
  obtain ⟨p0, p1, p2, p3, p4, p5, p6, p7, s0, s1, s2, z0, z1, z2⟩ := HE2.out.cells
  clear hb HE1
  go_wp2_with fail
  refine (HW.out _).mono ?_
  rintro e w3 ⟨rfl, rfl⟩
  go_wp2_with fail
  clear p0 p1 p2 p3 p4 p5 p6 p7 s0 s1 s2 z0 z1 z2
  refine (HCOM.out _).mono ?_
  rintro e w3 ⟨rfl, hb⟩
  have HE3 := Lib.hid (HE2.out.below hb)
  clear hb HE2 d3 d4 d6 HV HREM HW HCOM
  go_upto_region 5 with fail
  go_cut [57] (fun s57 wx => s57 = .bool (decide (on ≠ 0 ∧ got < c.f3)) ∧ Hid (Held c A0 c0 l0 ticks got w wx))
  case first =>
    obtain ⟨p0, p1, p2, p3, p4, p5, p6, p7, s0, s1, s2, z0, z1, z2⟩ := HE3.out.cells
    by_cases k1 : on = 0
    · have e1 : (on != 0) = false := by simpa using k1
      go_wp2_with fail
      go_meet
      exact ⟨by rw [decide_eq_false (fun h => h.1 k1)], HE3⟩
    · have e1 : (on != 0) = true := by simpa using k1
      go_wp2_with fail
      go_meet
      refine ⟨?_, HE3⟩
      rw [show decide (on ≠ 0 ∧ got < c.f3) = decide (got < c.f3) by by_cases h : got < c.f3 <;> simp [h, k1]]
  case rest =>
  obtain ⟨rfl, HE4⟩ := hcut
  clear HE3
  go_upto_if 57 with fail
  go_cut [13] (fun s13 wx => s13 = .int .i64 A ∧ Hid (Held c A0 c0 l0 ticks got w wx))
  case first =>
    by_cases k2 : on ≠ 0 ∧ got < c.f3
    · have e2 : decide (on ≠ 0 ∧ got < c.f3) = true := decide_eq_true k2
      rw [e2]
      go_upto_region 6 with fail
      obtain ⟨p0, p1, p2, p3, p4, p5, p6, p7, s0, s1, s2, z0, z1, z2⟩ := HE4.out.cells
      refine start_ (n := 13) (S := fun w' => Held c A0 c0 l0 ticks got w w') (ds := []) #[false, false, false, false, false, false, false, false, false, false, false, false, false] (by kernel_rfl) rfl rfl (HE4.out.below (Below.refl _ _).drew) (fun hH => ?_)
      refine pure_ (i := 0) (N := some 58) (v := ?_) (a' := ?_) #[true, false, false, false, false, false, false, false, false, false, false, false, false] rfl rfl (by kernel_rfl) (fun _ _ _ h => h) (Or.inl ⟨by rfl, ?_⟩) ?_ ?_
      rotate_left
      · intro w'
        go_simp
        with_reducible rfl
      rotate_left
      · simp only [Act.put, List.setIfInBounds_toArray, List.set_cons_zero, List.set_cons_succ, i64_w, i32_w]
        rfl
      refine pure_ (i := 1) (N := some 59) (v := ?_) (a' := ?_) #[true, true, false, false, false, false, false, false, false, false, false, false, false] rfl rfl (by kernel_rfl) (fun _ _ _ h => h) (Or.inl ⟨by rfl, ?_⟩) ?_ ?_
      rotate_left
      · intro w'
        go_simp
        with_reducible rfl
      rotate_left
      · simp only [Act.put, List.setIfInBounds_toArray, List.set_cons_zero, List.set_cons_succ, i64_w, i32_w]
        rfl
      refine take_ (i := 2) (N := some 60) (v := ?_) (a' := ?_) #[true, true, true, false, false, false, false, false, false, false, false, false, false] rfl rfl (by kernel_rfl) (fun _ _ _ h => h) (Or.inl ⟨by rfl, ?_⟩) hH ?_ ?_
      rotate_left
      · intro w' hW
        obtain ⟨p0, p1, p2, p3, p4, p5, p6, p7, s0, s1, s2, z0, z1, z2⟩ := hW.cells
        go_simp
        with_reducible rfl
      rotate_left
      · simp only [Act.put, List.setIfInBounds_toArray, List.set_cons_zero, List.set_cons_succ, i64_w, i32_w]
        rfl
      refine pure_ (i := 4) (N := some 62) (v := ?_) (a' := ?_) #[true, true, true, false, true, false, false, false, false, false, false, false, false] rfl rfl (by kernel_rfl) (fun _ _ _ h => h) (Or.inl ⟨by rfl, ?_⟩) ?_ ?_
      rotate_left
      · intro w'
        go_simp
        with_reducible rfl
      rotate_left
      · simp only [Act.put, List.setIfInBounds_toArray, List.set_cons_zero, List.set_cons_succ, i64_w, i32_w]
        rfl
      refine pure_ (i := 5) (N := some 63) (v := ?_) (a' := ?_) #[true, true, true, false, true, true, false, false, false, false, false, false, false] rfl rfl (by kernel_rfl) (fun _ _ _ h => h) (Or.inl ⟨by rfl, ?_⟩) ?_ ?_
      rotate_left
      · intro w'
        go_simp
        with_reducible rfl
      rotate_left
      · simp only [Act.put, List.setIfInBounds_toArray, List.set_cons_zero, List.set_cons_succ, i64_w, i32_w]
        rfl
      refine take_ (i := 6) (N := some 64) (v := ?_) (a' := ?_) #[true, true, true, false, true, true, true, false, false, false, false, false, false] rfl rfl (by kernel_rfl) (fun _ _ _ h => h) (Or.inl ⟨by rfl, ?_⟩) hH ?_ ?_
      rotate_left
      · intro w' hW
        obtain ⟨p0, p1, p2, p3, p4, p5, p6, p7, s0, s1, s2, z0, z1, z2⟩ := hW.cells
        go_simp
        with_reducible rfl
      rotate_left
      · simp only [Act.put, List.setIfInBounds_toArray, List.set_cons_zero, List.set_cons_succ, i64_w, i32_w]
        rfl
      refine take_ (i := 8) (N := some 66) (v := ?_) (a' := ?_) #[true, true, true, false, true, true, true, false, true, false, false, false, false] rfl rfl (by kernel_rfl) (fun _ _ _ h => h) (Or.inl ⟨by rfl, ?_⟩) hH ?_ ?_
      rotate_left
      · intro w' hW
        obtain ⟨p0, p1, p2, p3, p4, p5, p6, p7, s0, s1, s2, z0, z1, z2⟩ := hW.cells
        go_simp
        with_reducible rfl
      rotate_left
      · simp only [Act.put, List.setIfInBounds_toArray, List.set_cons_zero, List.set_cons_succ, i64_w, i32_w]
        rfl
      refine pure_ (i := 9) (N := some 67) (v := ?_) (a' := ?_) #[true, true, true, false, true, true, true, false, true, true, false, false, false] rfl rfl (by kernel_rfl) (fun _ _ _ h => h) (Or.inl ⟨by rfl, ?_⟩) ?_ ?_
      rotate_left
      · intro w'
        go_simp
        with_reducible rfl
      rotate_left
      · simp only [Act.put, List.setIfInBounds_toArray, List.set_cons_zero, List.set_cons_succ, i64_w, i32_w]
        rfl
      refine one_ (i := 3) (N := some 61) #[true, true, true, true, true, true, true, false, true, true, false, false, false] rfl rfl (by kernel_rfl) (by decide) (fun K hK => ?_)
      refine goes_ Try.func21 (by kernel_rfl) rfl #[] (by rfl) rfl rfl (by simp) ?_
      refine (currents_calls _).mono ?_
      rintro e w5 ⟨B, nB, rfl, hown, hb⟩
      have HE5 := Lib.hid (hH.below hb)
      have hlook := CarA.look hown c.f0 HO.out.k0 HO.out.k4
      refine ⟨_, rfl, ?_⟩
      refine hK.out _ _ HE5.out (fun hH => ?_)
      clear hK K
      refine norm_ (a' := ?_) ?_ ?_
      rotate_left
      · show Act.put _ (some 61) _ = _
        simp only [Act.put, List.setIfInBounds_toArray, List.set_cons_zero, List.set_cons_succ, i64_w, i32_w]
        rfl
      refine one_ (i := 7) (N := some 65) #[true, true, true, true, true, true, true, true, true, true, false, false, false] rfl rfl (by kernel_rfl) (by decide) (fun K hK => ?_)
      refine value_ (w1 := w5) (v := .func (.func (fnOf c.f0)) #[] #[]) (by rfl) rfl ?_ ?_
      · go_simp
      refine hK.out _ _ HE5.out (fun hH => ?_)
      clear hK K
      refine norm_ (a' := ?_) ?_ ?_
      rotate_left
      · show Act.put _ (some 65) _ = _
        simp only [Act.put, List.setIfInBounds_toArray, List.set_cons_zero, List.set_cons_succ, i64_w, i32_w]
        rfl
      refine one_ (i := 10) (N := some 68) #[true, true, true, true, true, true, true, true, true, true, true, false, false] rfl rfl (by kernel_rfl) (by decide) (fun K hK => ?_)
      refine call_ (fnOf c.f0) #[pv c A0 l0 c0 ticks got, .int .i64 al] (by rfl) rfl ?_ ?_
      · have he := enter_cur c.f0 HO.out.k0 HO.out.k4 #[pv c A0 l0 c0 ticks got, .int .i64 al] w5
        unfold pv at he
        unfold execOp pv
        simp [resolve, Deferred.ofValue, invoke, Act.eval, he]
      refine (cur_calls c A0 c0 l0 ticks got ph al HO.out w5 (Kd.C_below HR.out HE5.out.hb)).mono ?_
      rintro e w6 ⟨rfl, hb⟩
      have HE6 := Lib.hid (HE5.out.below hb)
      have hj_ : (if curV c l0 ticks al < c.f2 then curV c l0 ticks al else c.f2) = A := by rw [← HA.out, amps_eq, if_pos k2]; rfl
      refine ⟨_, rfl, ?_⟩
      refine hK.out _ _ HE6.out (fun hH => ?_)
      clear hK K
      refine norm_ (a' := ?_) ?_ ?_
      rotate_left
      · show Act.put _ (some 68) _ = _
        simp only [Act.put, List.setIfInBounds_toArray, List.set_cons_zero, List.set_cons_succ, i64_w, i32_w]
        rfl
      refine pure_ (i := 11) (N := some 69) (v := ?_) (a' := ?_) #[true, true, true, true, true, true, true, true, true, true, true, true, false] rfl rfl (by kernel_rfl) (fun _ _ _ h => h) (Or.inl ⟨by rfl, ?_⟩) ?_ ?_
      rotate_left
      · intro w'
        go_simp
        with_reducible rfl
      rotate_left
      · simp only [Act.put, List.setIfInBounds_toArray, List.set_cons_zero, List.set_cons_succ, i64_w, i32_w]
        rfl
      refine pure_ (i := 12) (N := some 13) (v := ?_) (a' := ?_) #[true, true, true, true, true, true, true, true, true, true, true, true, true] rfl rfl (by kernel_rfl) (fun _ _ _ h => h) (Or.inl ⟨by rfl, ?_⟩) ?_ ?_
      rotate_left
      · intro w'
        go_simp
        with_reducible rfl
      rotate_left
      · simp only [Act.put, List.setIfInBounds_toArray, List.set_cons_zero, List.set_cons_succ, i64_w, i32_w]
        rfl
      refine done_ (by kernel_rfl) ?_
      go_wp2_with fail
      go_meet
      exact ⟨rfl, HE6⟩
    · have e2 : decide (on ≠ 0 ∧ got < c.f3) = false := decide_eq_false k2
      rw [e2]
      go_wp2_with fail
      go_meet
      exact ⟨by rw [← HA.out, amps_eq, if_neg k2], HE4⟩
  case rest =>
  obtain ⟨rfl, HE5⟩ := hcut
  clear HE4
  go_upto_if 71 with fail
  go_cut [14] (fun s14 wx => s14 = .int .i64 ON ∧ Hid (Held c A0 c0 l0 ticks got w wx))
  case first =>
    by_cases k3 : A = 0
    · have e3 : (A == 0) = true := by simpa using k3
      go_wp2_with fail
      go_meet
      exact ⟨by rw [← HON.out, if_pos k3], HE5⟩
    · have e3 : (A == 0) = false := by simpa using k3
      go_wp2_with fail
      go_meet
      exact ⟨by rw [← HON.out, if_neg k3], HE5⟩
  case rest =>
  obtain ⟨rfl, HE6⟩ := hcut
  clear HE5 HF
  have tw : IntKind.i64.wrap (ticks + 1) = ticks + 1 := Go.IntWalk.i64_in _ (by have := HO.out.t0; have := HO.out.t1; omega)
  go_upto_region 9 with fail
  go_cut [15] (fun s15 wx => ∃ (B : Nat) (v : Value), s15 = .pointer (some ⟨B, 0, none⟩) ∧ Hid (wx.heap[B]? = some (.cells #[v, .int .i64 (ticks + 1), .int .i64 0] 26 (0, 0))) ∧ Hid (Kd.R (Kd.int .i64) 3 wx w.heap.size (fun _ => True) v (l0 ++ [al])) ∧ w.heap.size + 1 + 1 + 1 < B ∧ Hid (Held c A0 c0 l0 ticks got w wx))
  case first =>
    have HED := Lib.hid (HE6.out.below (Below.refl _ _).drew)
    refine start_ (n := 12) (S := fun w' => Held c A0 c0 l0 ticks got w w') (ds := [11]) #[false, false, false, false, false, false, false, false, false, false, false, false] (by kernel_rfl) rfl rfl HED.out (fun hH => ?_)
    generalize wc.drew = Wd at HED hH ⊢
    refine pure_ (i := 0) (N := some 72) (v := ?_) (a' := ?_) #[true, false, false, false, false, false, false, false, false, false, false, false] rfl rfl (by kernel_rfl) (fun _ _ _ h => h) (Or.inl ⟨by rfl, ?_⟩) ?_ ?_
    rotate_left
    · intro w'
      go_simp
      with_reducible rfl
    rotate_left
    · simp only [Act.put, List.setIfInBounds_toArray, List.set_cons_zero, List.set_cons_succ, i64_w, i32_w]
      rfl
    refine take_ (i := 1) (N := some 73) (v := ?_) (a' := ?_) #[true, true, false, false, false, false, false, false, false, false, false, false] rfl rfl (by kernel_rfl) (fun _ _ _ h => h) (Or.inl ⟨by rfl, ?_⟩) hH ?_ ?_
    rotate_left
    · intro w' hW
      obtain ⟨p0, p1, p2, p3, p4, p5, p6, p7, s0, s1, s2, z0, z1, z2⟩ := hW.cells
      go_simp
      with_reducible rfl
    rotate_left
    · simp only [Act.put, List.setIfInBounds_toArray, List.set_cons_zero, List.set_cons_succ, i64_w, i32_w]
      rfl
    refine pure_ (i := 2) (N := some 74) (v := ?_) (a' := ?_) #[true, true, true, false, false, false, false, false, false, false, false, false] rfl rfl (by kernel_rfl) (fun _ _ _ h => h) (Or.inl ⟨by rfl, ?_⟩) ?_ ?_
    rotate_left
    · intro w'
      go_simp
      with_reducible rfl
    rotate_left
    · simp only [Act.put, List.setIfInBounds_toArray, List.set_cons_zero, List.set_cons_succ, i64_w, i32_w]
      rfl
    refine pure_ (i := 6) (N := some 78) (v := ?_) (a' := ?_) #[true, true, true, false, false, false, true, false, false, false, false, false] rfl rfl (by kernel_rfl) (fun _ _ _ h => h) (Or.inl ⟨by rfl, ?_⟩) ?_ ?_
    rotate_left
    · intro w'
      go_simp
      with_reducible rfl
    rotate_left
    · simp only [Act.put, List.setIfInBounds_toArray, List.set_cons_zero, List.set_cons_succ, i64_w, i32_w]
      rfl
    refine take_ (i := 7) (N := some 79) (v := ?_) (a' := ?_) #[true, true, true, false, false, false, true, true, false, false, false, false] rfl rfl (by kernel_rfl) (fun _ _ _ h => h) (Or.inl ⟨by rfl, ?_⟩) hH ?_ ?_
    rotate_left
    · intro w' hW
      obtain ⟨p0, p1, p2, p3, p4, p5, p6, p7, s0, s1, s2, z0, z1, z2⟩ := hW.cells
      go_simp
      with_reducible rfl
    rotate_left
    · simp only [Act.put, List.setIfInBounds_toArray, List.set_cons_zero, List.set_cons_succ, i64_w, i32_w]
      rfl
    refine pure_ (i := 8) (N := some 80) (v := ?_) (a' := ?_) #[true, true, true, false, false, false, true, true, true, false, false, false] rfl rfl (by kernel_rfl) (fun _ _ _ h => h) (Or.inl ⟨by rfl, ?_⟩) ?_ ?_
    rotate_left
    · intro w'
      go_simp
      with_reducible rfl
    rotate_left
    · simp only [Act.put, List.setIfInBounds_toArray, List.set_cons_zero, List.set_cons_succ, i64_w, i32_w]
      rfl
    refine two_ (i := 3) (j := 10) (Ni := some 75) (Nj := some 15) #[true, true, true, true, false, false, true, true, true, false, false, false] #[true, true, true, false, false, false, true, true, true, false, true, false] rfl rfl rfl rfl (by kernel_rfl) (by decide) (by decide) (fun K hK => ?_) (fun K hK => ?_)
    · obtain ⟨b1, hb4⟩ : ∃ b_, Wd.heap.size = b_ := ⟨_, rfl⟩
      obtain ⟨W2, hW3⟩ : ∃ W_, Wd.alloc (.cells #[.int .i64 al] 3) = W_ := ⟨_, rfl⟩
      have hl5 : Below Wd.heap.size Wd W2 := by rw [← hW3]; exact below_alloc (Below.refl _ _) _
      have g6 := Lib.hid (show W2.heap[b1]? = some (.cells #[.int .i64 al] 3 (0, 0)) by rw [← hb4, ← hW3]; exact blk_new _ _)
      have HE7 := Lib.hid (HED.out.below hl5)
      refine value_ (w1 := W2) (v := .slice (some ⟨b1, 0, none⟩) 1 1) (by rfl) rfl ?_ ?_
      · rw [← hb4, ← hW3]
        go_simp
      clear hb4 hW3 hl5
      refine hK.out _ _ HE7.out (fun hH => ?_)
      clear hK K
      refine norm_ (a' := ?_) ?_ ?_
      rotate_left
      · show Act.put _ (some 75) _ = _
        simp only [Act.put, List.setIfInBounds_toArray, List.set_cons_zero, List.set_cons_succ, i64_w, i32_w]
        rfl
      refine two_ (i := 4) (j := 10) (Ni := some 76) (Nj := some 15) #[true, true, true, true, true, false, true, true, true, false, false, false] #[true, true, true, true, false, false, true, true, true, false, true, false] rfl rfl rfl rfl (by kernel_rfl) (by decide) (by decide) (fun K hK => ?_) (fun K hK => ?_)
      · obtain ⟨b8, hb11⟩ : ∃ b_, W2.heap.size = b_ := ⟨_, rfl⟩
        obtain ⟨W9, hW10⟩ : ∃ W_, W2.alloc (.cells #[.slice A0 l0.length c0, .slice (some ⟨b1, 0, none⟩) 1 1] 24) = W_ := ⟨_, rfl⟩
        have hl12 : Below W2.heap.size W2 W9 := by rw [← hW10]; exact below_alloc (Below.refl _ _) _
        have g13 := Lib.hid (show W9.heap[b8]? = some (.cells #[.slice A0 l0.length c0, .slice (some ⟨b1, 0, none⟩) 1 1] 24 (0, 0)) by rw [← hb11, ← hW10]; exact blk_new _ _)
        have HE14 := Lib.hid (HE7.out.below hl12)
        have f15 := Lib.hid (blk_below g6.out hl12)
        refine value_ (w1 := W9) (v := .slice (some ⟨b8, 0, none⟩) 2 2) (by rfl) rfl ?_ ?_
        · rw [← hb11, ← hW10]
          go_simp
        clear hb11 hW10 hl12
        refine hK.out _ _ HE14.out (fun hH => ?_)
        clear hK K
        refine norm_ (a' := ?_) ?_ ?_
        rotate_left
        · show Act.put _ (some 76) _ = _
          simp only [Act.put, List.setIfInBounds_toArray, List.set_cons_zero, List.set_cons_succ, i64_w, i32_w]
          rfl
        refine two_ (i := 5) (j := 10) (Ni := some 77) (Nj := some 15) #[true, true, true, true, true, true, true, true, true, false, false, false] #[true, true, true, true, true, false, true, true, true, false, true, false] rfl rfl rfl rfl (by kernel_rfl) (by decide) (by decide) (fun K hK => ?_) (fun K hK => ?_)
        · refine goes_ Try.func22 (by kernel_rfl) rfl #[.slice (some ⟨b8, 0, none⟩) 2 2] (by rfl) rfl rfl (by simp only [List.map_toArray, List.map_cons, List.map_nil]; rfl) ?_
          refine (ConcatInt.concat_calls A0 (some ⟨b1, 0, none⟩) c0 1 l0 [al] b8 _ (by rw [blk_cell g13.out]; rfl) (by rw [blk_cell g13.out]; rfl) (Kd.C_below HR.out HE14.out.hb) (lit_C f15.out) (by have := HO.out.len; omega) (by simp)).mono ?_
          rintro e W16 ⟨v_, rfl, ro19, hb20⟩
          obtain ⟨A22, cp23, rfl, e24⟩ := Kd.R_slice ro19
          have rb21 := Lib.hid (Kd.R_lower ro19 HE14.out.hb.size)
          have HE17 := Lib.hid (HE14.out.below hb20)
          refine ⟨_, rfl, ?_⟩
          clear hb20 ro19
          refine hK.out _ _ HE17.out (fun hH => ?_)
          clear hK K
          refine norm_ (a' := ?_) ?_ ?_
          rotate_left
          · show Act.put _ (some 77) _ = _
            simp only [Act.put, List.setIfInBounds_toArray, List.set_cons_zero, List.set_cons_succ, i64_w, i32_w]
            rfl
          refine pure_ (i := 9) (N := some 81) (v := ?_) (a' := ?_) #[true, true, true, true, true, true, true, true, true, true, false, false] rfl rfl (by kernel_rfl) (fun _ _ _ h => h) (Or.inl ⟨by rfl, ?_⟩) ?_ ?_
          rotate_left
          · intro w'
            go_simp
            with_reducible rfl
          rotate_left
          · simp only [Act.put, List.setIfInBounds_toArray, List.set_cons_zero, List.set_cons_succ, i64_w, i32_w]
            rfl
          refine one_ (i := 10) (N := some 15) #[true, true, true, true, true, true, true, true, true, true, true, false] rfl rfl (by kernel_rfl) (by decide) (fun K hK => ?_)
          obtain ⟨b25, hb28⟩ : ∃ b_, W16.heap.size = b_ := ⟨_, rfl⟩
          obtain ⟨W26, hW27⟩ : ∃ W_, W16.alloc (.cells #[.slice none 0 0, .int .i64 0, .int .i64 0] 26) = W_ := ⟨_, rfl⟩
          have hl29 : Below W16.heap.size W16 W26 := by rw [← hW27]; exact below_alloc (Below.refl _ _) _
          have g30 := Lib.hid (show W26.heap[b25]? = some (.cells #[.slice none 0 0, .int .i64 0, .int .i64 0] 26 (0, 0)) by rw [← hb28, ← hW27]; exact blk_new _ _)
          have HE31 := Lib.hid (HE17.out.below hl29)
          have f32 := Lib.hid (Kd.R_below rb21.out hl29)
          have hltb25 : w.heap.size + 1 + 1 + 1 < b25 := by rw [← hb28]; exact HE17.out.sz
          refine value_ (w1 := W26) (v := .pointer (some ⟨b25, 0, none⟩)) (by rfl) rfl ?_ ?_
          · rw [← hb28, ← hW27]
            go_simp
          clear hb28 hW27 hl29
          refine hK.out _ _ HE31.out (fun hH => ?_)
          clear hK K
          refine norm_ (a' := ?_) ?_ ?_
          rotate_left
          · show Act.put _ (some 15) _ = _
            simp only [Act.put, List.setIfInBounds_toArray, List.set_cons_zero, List.set_cons_succ, i64_w, i32_w]
            rfl
          have y0 : W26.cell? ⟨b25, 0, none⟩ = some (.slice none 0 0) := by rw [blk_cell g30.out]; rfl
          have y1 : W26.cell? ⟨b25, 1, none⟩ = some (.int .i64 0) := by rw [blk_cell g30.out]; rfl
          have y2 : W26.cell? ⟨b25, 2, none⟩ = some (.int .i64 0) := by rw [blk_cell g30.out]; rfl
          have w0 := blk_frozen g30.out 0
          have w1_ := blk_frozen g30.out 1
          have w2_ := blk_frozen g30.out 2
          refine last_ (i := 11) (N := none) #[true, true, true, true, true, true, true, true, true, true, true, true] rfl rfl (by kernel_rfl) (by decide) (fun K hK => ?_)
          refine skip_ (w1 := ((W26.setCell ⟨b25, 0, none⟩ (.slice A22 (l0 ++ [al]).length cp23)).setCell ⟨b25, 1, none⟩ (.int .i64 (ticks + 1))).setCell ⟨b25, 2, none⟩ (.int .i64 0)) (by rfl) rfl ?_ ?_
          · go_simp
          refine hK.out _ _ ?_
          clear hK K
          refine done_ (by kernel_rfl) ?_
          go_wp2_with fail
          go_meet
          exact ⟨b25, (.slice A22 (l0 ++ [al]).length cp23), rfl, stored_ HE31.out g30.out f32.out hltb25⟩
        · obtain ⟨b33, hb36⟩ : ∃ b_, W9.heap.size = b_ := ⟨_, rfl⟩
          obtain ⟨W34, hW35⟩ : ∃ W_, W9.alloc (.cells #[.slice none 0 0, .int .i64 0, .int .i64 0] 26) = W_ := ⟨_, rfl⟩
          have hl37 : Below W9.heap.size W9 W34 := by rw [← hW35]; exact below_alloc (Below.refl _ _) _
          have g38 := Lib.hid (show W34.heap[b33]? = some (.cells #[.slice none 0 0, .int .i64 0, .int .i64 0] 26 (0, 0)) by rw [← hb36, ← hW35]; exact blk_new _ _)
          have HE39 := Lib.hid (HE14.out.below hl37)
          have f40 := Lib.hid (blk_below f15.out hl37)
          have f41 := Lib.hid (blk_below g13.out hl37)
          have hltb33 : w.heap.size + 1 + 1 + 1 < b33 := by rw [← hb36]; exact HE14.out.sz
          refine value_ (w1 := W34) (v := .pointer (some ⟨b33, 0, none⟩)) (by rfl) rfl ?_ ?_
          · rw [← hb36, ← hW35]
            go_simp
          clear hb36 hW35 hl37
          refine hK.out _ _ HE39.out (fun hH => ?_)
          clear hK K
          refine norm_ (a' := ?_) ?_ ?_
          rotate_left
          · show Act.put _ (some 15) _ = _
            simp only [Act.put, List.setIfInBounds_toArray, List.set_cons_zero, List.set_cons_succ, i64_w, i32_w]
            rfl
          refine one_ (i := 5) (N := some 77) #[true, true, true, true, true, true, true, true, true, false, true, false] rfl rfl (by kernel_rfl) (by decide) (fun K hK => ?_)
          refine goes_ Try.func22 (by kernel_rfl) rfl #[.slice (some ⟨b8, 0, none⟩) 2 2] (by rfl) rfl rfl (by simp only [List.map_toArray, List.map_cons, List.map_nil]; rfl) ?_
          refine (ConcatInt.concat_calls A0 (some ⟨b1, 0, none⟩) c0 1 l0 [al] b8 _ (by rw [blk_cell f41.out]; rfl) (by rw [blk_cell f41.out]; rfl) (Kd.C_below HR.out HE39.out.hb) (lit_C f40.out) (by have := HO.out.len; omega) (by simp)).mono ?_
          rintro e W42 ⟨v_, rfl, ro45, hb46⟩
          obtain ⟨A48, cp49, rfl, e50⟩ := Kd.R_slice ro45
          have rb47 := Lib.hid (Kd.R_lower ro45 HE39.out.hb.size)
          have HE43 := Lib.hid (HE39.out.below hb46)
          have f51 := Lib.hid (blk_below g38.out hb46)
          refine ⟨_, rfl, ?_⟩
          clear hb46 ro45
          refine hK.out _ _ HE43.out (fun hH => ?_)
          clear hK K
          refine norm_ (a' := ?_) ?_ ?_
          rotate_left
          · show Act.put _ (some 77) _ = _
            simp only [Act.put, List.setIfInBounds_toArray, List.set_cons_zero, List.set_cons_succ, i64_w, i32_w]
            rfl
          refine pure_ (i := 9) (N := some 81) (v := ?_) (a' := ?_) #[true, true, true, true, true, true, true, true, true, true, true, false] rfl rfl (by kernel_rfl) (fun _ _ _ h => h) (Or.inl ⟨by rfl, ?_⟩) ?_ ?_
          rotate_left
          · intro w'
            go_simp
            with_reducible rfl
          rotate_left
          · simp only [Act.put, List.setIfInBounds_toArray, List.set_cons_zero, List.set_cons_succ, i64_w, i32_w]
            rfl
          have y0 : W42.cell? ⟨b33, 0, none⟩ = some (.slice none 0 0) := by rw [blk_cell f51.out]; rfl
          have y1 : W42.cell? ⟨b33, 1, none⟩ = some (.int .i64 0) := by rw [blk_cell f51.out]; rfl
          have y2 : W42.cell? ⟨b33, 2, none⟩ = some (.int .i64 0) := by rw [blk_cell f51.out]; rfl
          have w0 := blk_frozen f51.out 0
          have w1_ := blk_frozen f51.out 1
          have w2_ := blk_frozen f51.out 2
          refine last_ (i := 11) (N := none) #[true, true, true, true, true, true, true, true, true, true, true, true] rfl rfl (by kernel_rfl) (by decide) (fun K hK => ?_)
          refine skip_ (w1 := ((W42.setCell ⟨b33, 0, none⟩ (.slice A48 (l0 ++ [al]).length cp49)).setCell ⟨b33, 1, none⟩ (.int .i64 (ticks + 1))).setCell ⟨b33, 2, none⟩ (.int .i64 0)) (by rfl) rfl ?_ ?_
          · go_simp
          refine hK.out _ _ ?_
          clear hK K
          refine done_ (by kernel_rfl) ?_
          go_wp2_with fail
          go_meet
          exact ⟨b33, (.slice A48 (l0 ++ [al]).length cp49), rfl, stored_ HE43.out f51.out rb47.out hltb33⟩
      · obtain ⟨b52, hb55⟩ : ∃ b_, W2.heap.size = b_ := ⟨_, rfl⟩
        obtain ⟨W53, hW54⟩ : ∃ W_, W2.alloc (.cells #[.slice none 0 0, .int .i64 0, .int .i64 0] 26) = W_ := ⟨_, rfl⟩
        have hl56 : Below W2.heap.size W2 W53 := by rw [← hW54]; exact below_alloc (Below.refl _ _) _
        have g57 := Lib.hid (show W53.heap[b52]? = some (.cells #[.slice none 0 0, .int .i64 0, .int .i64 0] 26 (0, 0)) by rw [← hb55, ← hW54]; exact blk_new _ _)
        have HE58 := Lib.hid (HE7.out.below hl56)
        have f59 := Lib.hid (blk_below g6.out hl56)
        have hltb52 : w.heap.size + 1 + 1 + 1 < b52 := by rw [← hb55]; exact HE7.out.sz
        refine value_ (w1 := W53) (v := .pointer (some ⟨b52, 0, none⟩)) (by rfl) rfl ?_ ?_
        · rw [← hb55, ← hW54]
          go_simp
        clear hb55 hW54 hl56
        refine hK.out _ _ HE58.out (fun hH => ?_)
        clear hK K
        refine norm_ (a' := ?_) ?_ ?_
        rotate_left
        · show Act.put _ (some 15) _ = _
          simp only [Act.put, List.setIfInBounds_toArray, List.set_cons_zero, List.set_cons_succ, i64_w, i32_w]
          rfl
        refine one_ (i := 4) (N := some 76) #[true, true, true, true, true, false, true, true, true, false, true, false] rfl rfl (by kernel_rfl) (by decide) (fun K hK => ?_)
        obtain ⟨b60, hb63⟩ : ∃ b_, W53.heap.size = b_ := ⟨_, rfl⟩
        obtain ⟨W61, hW62⟩ : ∃ W_, W53.alloc (.cells #[.slice A0 l0.length c0, .slice (some ⟨b1, 0, none⟩) 1 1] 24) = W_ := ⟨_, rfl⟩
        have hl64 : Below W53.heap.size W53 W61 := by rw [← hW62]; exact below_alloc (Below.refl _ _) _
        have g65 := Lib.hid (show W61.heap[b60]? = some (.cells #[.slice A0 l0.length c0, .slice (some ⟨b1, 0, none⟩) 1 1] 24 (0, 0)) by rw [← hb63, ← hW62]; exact blk_new _ _)
        have HE66 := Lib.hid (HE58.out.below hl64)
        have f67 := Lib.hid (blk_below f59.out hl64)
        have f68 := Lib.hid (blk_below g57.out hl64)
        refine value_ (w1 := W61) (v := .slice (some ⟨b60, 0, none⟩) 2 2) (by rfl) rfl ?_ ?_
        · rw [← hb63, ← hW62]
          go_simp
        clear hb63 hW62 hl64
        refine hK.out _ _ HE66.out (fun hH => ?_)
        clear hK K
        refine norm_ (a' := ?_) ?_ ?_
        rotate_left
        · show Act.put _ (some 76) _ = _
          simp only [Act.put, List.setIfInBounds_toArray, List.set_cons_zero, List.set_cons_succ, i64_w, i32_w]
          rfl
        refine one_ (i := 5) (N := some 77) #[true, true, true, true, true, true, true, true, true, false, true, false] rfl rfl (by kernel_rfl) (by decide) (fun K hK => ?_)
        refine goes_ Try.func22 (by kernel_rfl) rfl #[.slice (some ⟨b60, 0, none⟩) 2 2] (by rfl) rfl rfl (by simp only [List.map_toArray, List.map_cons, List.map_nil]; rfl) ?_
        refine (ConcatInt.concat_calls A0 (some ⟨b1, 0, none⟩) c0 1 l0 [al] b60 _ (by rw [blk_cell g65.out]; rfl) (by rw [blk_cell g65.out]; rfl) (Kd.C_below HR.out HE66.out.hb) (lit_C f67.out) (by have := HO.out.len; omega) (by simp)).mono ?_
        rintro e W69 ⟨v_, rfl, ro72, hb73⟩
        obtain ⟨A75, cp76, rfl, e77⟩ := Kd.R_slice ro72
        have rb74 := Lib.hid (Kd.R_lower ro72 HE66.out.hb.size)
        have HE70 := Lib.hid (HE66.out.below hb73)
        have f78 := Lib.hid (blk_below f68.out hb73)
        refine ⟨_, rfl, ?_⟩
        clear hb73 ro72
        refine hK.out _ _ HE70.out (fun hH => ?_)
        clear hK K
        refine norm_ (a' := ?_) ?_ ?_
        rotate_left
        · show Act.put _ (some 77) _ = _
          simp only [Act.put, List.setIfInBounds_toArray, List.set_cons_zero, List.set_cons_succ, i64_w, i32_w]
          rfl
        refine pure_ (i := 9) (N := some 81) (v := ?_) (a' := ?_) #[true, true, true, true, true, true, true, true, true, true, true, false] rfl rfl (by kernel_rfl) (fun _ _ _ h => h) (Or.inl ⟨by rfl, ?_⟩) ?_ ?_
        rotate_left
        · intro w'
          go_simp
          with_reducible rfl
        rotate_left
        · simp only [Act.put, List.setIfInBounds_toArray, List.set_cons_zero, List.set_cons_succ, i64_w, i32_w]
          rfl
        have y0 : W69.cell? ⟨b52, 0, none⟩ = some (.slice none 0 0) := by rw [blk_cell f78.out]; rfl
        have y1 : W69.cell? ⟨b52, 1, none⟩ = some (.int .i64 0) := by rw [blk_cell f78.out]; rfl
        have y2 : W69.cell? ⟨b52, 2, none⟩ = some (.int .i64 0) := by rw [blk_cell f78.out]; rfl
        have w0 := blk_frozen f78.out 0
        have w1_ := blk_frozen f78.out 1
        have w2_ := blk_frozen f78.out 2
        refine last_ (i := 11) (N := none) #[true, true, true, true, true, true, true, true, true, true, true, true] rfl rfl (by kernel_rfl) (by decide) (fun K hK => ?_)
        refine skip_ (w1 := ((W69.setCell ⟨b52, 0, none⟩ (.slice A75 (l0 ++ [al]).length cp76)).setCell ⟨b52, 1, none⟩ (.int .i64 (ticks + 1))).setCell ⟨b52, 2, none⟩ (.int .i64 0)) (by rfl) rfl ?_ ?_
        · go_simp
        refine hK.out _ _ ?_
        clear hK K
        refine done_ (by kernel_rfl) ?_
        go_wp2_with fail
        go_meet
        exact ⟨b52, (.slice A75 (l0 ++ [al]).length cp76), rfl, stored_ HE70.out f78.out rb74.out hltb52⟩
    · obtain ⟨b79, hb82⟩ : ∃ b_, Wd.heap.size = b_ := ⟨_, rfl⟩
      obtain ⟨W80, hW81⟩ : ∃ W_, Wd.alloc (.cells #[.slice none 0 0, .int .i64 0, .int .i64 0] 26) = W_ := ⟨_, rfl⟩
      have hl83 : Below Wd.heap.size Wd W80 := by rw [← hW81]; exact below_alloc (Below.refl _ _) _
      have g84 := Lib.hid (show W80.heap[b79]? = some (.cells #[.slice none 0 0, .int .i64 0, .int .i64 0] 26 (0, 0)) by rw [← hb82, ← hW81]; exact blk_new _ _)
      have HE85 := Lib.hid (HED.out.below hl83)
      have hltb79 : w.heap.size + 1 + 1 + 1 < b79 := by rw [← hb82]; exact HED.out.sz
      refine value_ (w1 := W80) (v := .pointer (some ⟨b79, 0, none⟩)) (by rfl) rfl ?_ ?_
      · rw [← hb82, ← hW81]
        go_simp
      clear hb82 hW81 hl83
      refine hK.out _ _ HE85.out (fun hH => ?_)
      clear hK K
      refine norm_ (a' := ?_) ?_ ?_
      rotate_left
      · show Act.put _ (some 15) _ = _
        simp only [Act.put, List.setIfInBounds_toArray, List.set_cons_zero, List.set_cons_succ, i64_w, i32_w]
        rfl
      refine one_ (i := 3) (N := some 75) #[true, true, true, true, false, false, true, true, true, false, true, false] rfl rfl (by kernel_rfl) (by decide) (fun K hK => ?_)
      obtain ⟨b86, hb89⟩ : ∃ b_, W80.heap.size = b_ := ⟨_, rfl⟩
      obtain ⟨W87, hW88⟩ : ∃ W_, W80.alloc (.cells #[.int .i64 al] 3) = W_ := ⟨_, rfl⟩
      have hl90 : Below W80.heap.size W80 W87 := by rw [← hW88]; exact below_alloc (Below.refl _ _) _
      have g91 := Lib.hid (show W87.heap[b86]? = some (.cells #[.int .i64 al] 3 (0, 0)) by rw [← hb89, ← hW88]; exact blk_new _ _)
      have HE92 := Lib.hid (HE85.out.below hl90)
      have f93 := Lib.hid (blk_below g84.out hl90)
      refine value_ (w1 := W87) (v := .slice (some ⟨b86, 0, none⟩) 1 1) (by rfl) rfl ?_ ?_
      · rw [← hb89, ← hW88]
        go_simp
      clear hb89 hW88 hl90
      refine hK.out _ _ HE92.out (fun hH => ?_)
      clear hK K
      refine norm_ (a' := ?_) ?_ ?_
      rotate_left
      · show Act.put _ (some 75) _ = _
        simp only [Act.put, List.setIfInBounds_toArray, List.set_cons_zero, List.set_cons_succ, i64_w, i32_w]
        rfl
      refine one_ (i := 4) (N := some 76) #[true, true, true, true, true, false, true, true, true, false, true, false] rfl rfl (by kernel_rfl) (by decide) (fun K hK => ?_)
      obtain ⟨b94, hb97⟩ : ∃ b_, W87.heap.size = b_ := ⟨_, rfl⟩
      obtain ⟨W95, hW96⟩ : ∃ W_, W87.alloc (.cells #[.slice A0 l0.length c0, .slice (some ⟨b86, 0, none⟩) 1 1] 24) = W_ := ⟨_, rfl⟩
      have hl98 : Below W87.heap.size W87 W95 := by rw [← hW96]; exact below_alloc (Below.refl _ _) _
      have g99 := Lib.hid (show W95.heap[b94]? = some (.cells #[.slice A0 l0.length c0, .slice (some ⟨b86, 0, none⟩) 1 1] 24 (0, 0)) by rw [← hb97, ← hW96]; exact blk_new _ _)
      have HE100 := Lib.hid (HE92.out.below hl98)
      have f101 := Lib.hid (blk_below f93.out hl98)
      have f102 := Lib.hid (blk_below g91.out hl98)
      refine value_ (w1 := W95) (v := .slice (some ⟨b94, 0, none⟩) 2 2) (by rfl) rfl ?_ ?_
      · rw [← hb97, ← hW96]
        go_simp
      clear hb97 hW96 hl98
      refine hK.out _ _ HE100.out (fun hH => ?_)
      clear hK K
      refine norm_ (a' := ?_) ?_ ?_
      rotate_left
      · show Act.put _ (some 76) _ = _
        simp only [Act.put, List.setIfInBounds_toArray, List.set_cons_zero, List.set_cons_succ, i64_w, i32_w]
        rfl
      refine one_ (i := 5) (N := some 77) #[true, true, true, true, true, true, true, true, true, false, true, false] rfl rfl (by kernel_rfl) (by decide) (fun K hK => ?_)
      refine goes_ Try.func22 (by kernel_rfl) rfl #[.slice (some ⟨b94, 0, none⟩) 2 2] (by rfl) rfl rfl (by simp only [List.map_toArray, List.map_cons, List.map_nil]; rfl) ?_
      refine (ConcatInt.concat_calls A0 (some ⟨b86, 0, none⟩) c0 1 l0 [al] b94 _ (by rw [blk_cell g99.out]; rfl) (by rw [blk_cell g99.out]; rfl) (Kd.C_below HR.out HE100.out.hb) (lit_C f102.out) (by have := HO.out.len; omega) (by simp)).mono ?_
      rintro e W103 ⟨v_, rfl, ro106, hb107⟩
      obtain ⟨A109, cp110, rfl, e111⟩ := Kd.R_slice ro106
      have rb108 := Lib.hid (Kd.R_lower ro106 HE100.out.hb.size)
      have HE104 := Lib.hid (HE100.out.below hb107)
      have f112 := Lib.hid (blk_below f101.out hb107)
      refine ⟨_, rfl, ?_⟩
      clear hb107 ro106
      refine hK.out _ _ HE104.out (fun hH => ?_)
      clear hK K
      refine norm_ (a' := ?_) ?_ ?_
      rotate_left
      · show Act.put _ (some 77) _ = _
        simp only [Act.put, List.setIfInBounds_toArray, List.set_cons_zero, List.set_cons_succ, i64_w, i32_w]
        rfl
      refine pure_ (i := 9) (N := some 81) (v := ?_) (a' := ?_) #[true, true, true, true, true, true, true, true, true, true, true, false] rfl rfl (by kernel_rfl) (fun _ _ _ h => h) (Or.inl ⟨by rfl, ?_⟩) ?_ ?_
      rotate_left
      · intro w'
        go_simp
        with_reducible rfl
      rotate_left
      · simp only [Act.put, List.setIfInBounds_toArray, List.set_cons_zero, List.set_cons_succ, i64_w, i32_w]
        rfl
      have y0 : W103.cell? ⟨b79, 0, none⟩ = some (.slice none 0 0) := by rw [blk_cell f112.out]; rfl
      have y1 : W103.cell? ⟨b79, 1, none⟩ = some (.int .i64 0) := by rw [blk_cell f112.out]; rfl
      have y2 : W103.cell? ⟨b79, 2, none⟩ = some (.int .i64 0) := by rw [blk_cell f112.out]; rfl
      have w0 := blk_frozen f112.out 0
      have w1_ := blk_frozen f112.out 1
      have w2_ := blk_frozen f112.out 2
      refine last_ (i := 11) (N := none) #[true, true, true, true, true, true, true, true, true, true, true, true] rfl rfl (by kernel_rfl) (by decide) (fun K hK => ?_)
      refine skip_ (w1 := ((W103.setCell ⟨b79, 0, none⟩ (.slice A109 (l0 ++ [al]).length cp110)).setCell ⟨b79, 1, none⟩ (.int .i64 (ticks + 1))).setCell ⟨b79, 2, none⟩ (.int .i64 0)) (by rfl) rfl ?_ ?_
      · go_simp
      refine hK.out _ _ ?_
      clear hK K
      refine done_ (by kernel_rfl) ?_
      go_wp2_with fail
      go_meet
      exact ⟨b79, (.slice A109 (l0 ++ [al]).length cp110), rfl, stored_ HE104.out f112.out rb108.out hltb79⟩
  case rest =>
  obtain ⟨B, v9, rfl, GB, RO, hBl, HE7⟩ := hcut
  clear HE6
  obtain ⟨A9, c9, rfl⟩ := Kd.R_slice RO.out
  have hlen : (l0 ++ [al]).length = l0.length + 1 := by simp
  have h21 := HO.out.len
  obtain ⟨d, hd⟩ : ∃ d : Nat, d = l0.length + 1 - 21 := ⟨_, rfl⟩
  have hj_ : (if (21 : Int) < (l0.length : Int) + 1 then (l0.length : Int) + 1 - 21 else 0) = (d : Int) := by split <;> omega
  obtain ⟨i0, hi, hz⟩ := Option.map_eq_some_iff.1 info3
  simp only [Prod.mk.injEq] at hz
  have hcf := cut_from (P := Try.prog) 24 3 .i64 Try.underlying24 hi 1 hz.2.1 A9 (l0.length + 1) c9 (d : Int) (by omega) (by omega)
  simp only [Int.toNat_natCast] at hcf
  have hQ := Kd.Q_drop (k := d) (Kd.Q_of_R RO.out) (by omega)
  rw [hlen] at hQ GB
  simp only [show (Kd.int .i64).sz = 1 from rfl, Nat.mul_one] at hQ
  simp only [Nat.mul_one] at hcf
  have y0 : wc.cell? ⟨B, 0, none⟩ = some (.slice A9 (l0.length + 1) c9) := (blk_cell GB.out 0).trans rfl
  have y1 : wc.cell? ⟨B, 1, none⟩ = some (.int .i64 (ticks + 1)) := (blk_cell GB.out 1).trans rfl
  have y2 : wc.cell? ⟨B, 2, none⟩ = some (.int .i64 0) := (blk_cell GB.out 2).trans rfl
  have f0 := blk_frozen GB.out 0
  have HQ := Lib.hid hQ
  have HD := Lib.hid hd
  clear hQ RO hd hz hi hlen
  go_upto_region 11 with fail
  obtain ⟨X, hX⟩ : ∃ X, (if c9 = d then A9 else A9.map (fun x => x.add d)) = X := ⟨_, rfl⟩
  obtain ⟨Y, hY⟩ : ∃ Y, l0.length + 1 - d = Y := ⟨_, rfl⟩
  obtain ⟨Z, hZ⟩ : ∃ Z, c9 - d = Z := ⟨_, rfl⟩
  have HQX := HQ.out
  rw [hX, hY, hZ] at HQX ⊢
  clear hX hY hZ HQ
  obtain ⟨W8, hW8⟩ : ∃ W, wc.setCell ⟨B, 0, none⟩ (.slice X Y Z) = W := ⟨_, rfl⟩
  have hty : ∀ q, q ∈ 3 :: (Kd.int .i64).E → q ≠ 26 := by
    intro q hq
    simp only [List.mem_cons] at hq
    rcases hq with rfl | hq
    · decide
    · cases hq
  have GB8 := Lib.hid (show W8.heap[B]? = some (.cells #[.slice X Y Z, .int .i64 (ticks + 1), .int .i64 0] 26 (0, 0)) by rw [← hW8]; exact blk_put GB.out 0 _ rfl)
  have HE8 := Lib.hid (show Held c A0 c0 l0 ticks got w W8 by rw [← hW8]; exact heldB HE7.out hBl _ 0)
  have HQ8 := Lib.hid (show Kd.Q (Kd.int .i64) 3 W8 w.heap.size (fun _ => True) (.slice X Y Z) ((l0 ++ [al]).drop d) by rw [← hW8]; exact Kd.Q_set HQX GB.out hty 0 _)
  rw [hW8]
  clear hW8 GB HE7 HQX y0 y1 y2 f0 hcf hj_ tw
  obtain ⟨q, hq⟩ : ∃ q, cnt ON = q := ⟨_, rfl⟩
  have hq3 : 0 ≤ q ∧ q ≤ 3 := by rw [← hq]; unfold cnt; omega
  have hpr : 0 ≤ 2300 * A * q ∧ 2300 * A * q ≤ 552000 := by
    have h : q = 0 ∨ q = 1 ∨ q = 2 ∨ q = 3 := by omega
    rcases h with rfl | rfl | rfl | rfl <;> omega
  have tw1 : IntKind.i64.wrap (2300 * A) = 2300 * A := Go.IntWalk.i64_in _ (by omega)
  have tw2 : IntKind.i64.wrap (2300 * A * q) = 2300 * A * q := Go.IntWalk.i64_in _ (by omega)
  have tw3 : IntKind.i64.wrap (got + 2300 * A * q) = got + 2300 * A * q := Go.IntWalk.i64_in _ (by have := HO.out.g0; have := HO.out.g1; omega)
  have tw4 : IntKind.u64.wrap ON = ON := by
    have h : ON = 0 ∨ ON = 1 ∨ ON = 2 ∨ ON = 3 ∨ ON = 4 ∨ ON = 5 ∨ ON = 6 ∨ ON = 7 := by omega
    rcases h with rfl | rfl | rfl | rfl | rfl | rfl | rfl | rfl <;> rfl
  rw [hq]
  refine start_ (n := 11) (S := fun w' => Held c A0 c0 l0 ticks got w w') (ds := [10]) #[false, false, false, false, false, false, false, false, false, false, false] (by kernel_rfl) rfl rfl (HE8.out.below (Below.refl _ _).drew) (fun hH => ?_)
  refine pure_ (i := 0) (N := some 91) (v := ?_) (a' := ?_) #[true, false, false, false, false, false, false, false, false, false, false] rfl rfl (by kernel_rfl) (fun _ _ _ h => h) (Or.inl ⟨by rfl, ?_⟩) ?_ ?_
  rotate_left
  · intro w'
    go_simp
    with_reducible rfl
  rotate_left
  · simp only [Act.put, List.setIfInBounds_toArray, List.set_cons_zero, List.set_cons_succ, i64_w, i32_w]
    rfl
  refine take_ (i := 1) (N := some 92) (v := ?_) (a' := ?_) #[true, true, false, false, false, false, false, false, false, false, false] rfl rfl (by kernel_rfl) (fun _ _ _ h => h) (Or.inl ⟨by rfl, ?_⟩) hH ?_ ?_
  rotate_left
  · intro w' hW
    obtain ⟨p0, p1, p2, p3, p4, p5, p6, p7, s0, s1, s2, z0, z1, z2⟩ := hW.cells
    go_simp
    with_reducible rfl
  rotate_left
  · simp only [Act.put, List.setIfInBounds_toArray, List.set_cons_zero, List.set_cons_succ, i64_w, i32_w]
    rfl
  refine pure_ (i := 2) (N := some 93) (v := ?_) (a' := ?_) #[true, true, true, false, false, false, false, false, false, false, false] rfl rfl (by kernel_rfl) (fun _ _ _ h => h) (Or.inl ⟨by rfl, ?_⟩) ?_ ?_
  rotate_left
  · intro w'
    go_simp
    with_reducible rfl
  rotate_left
  · simp only [Act.put, List.setIfInBounds_toArray, List.set_cons_zero, List.set_cons_succ, i64_w, i32_w]
    rfl
  refine pure_ (i := 3) (N := some 94) (v := ?_) (a' := ?_) #[true, true, true, true, false, false, false, false, false, false, false] rfl rfl (by kernel_rfl) (fun _ _ _ h => h) (Or.inl ⟨by rfl, ?_⟩) ?_ ?_
  rotate_left
  · intro w'
    go_simp
    with_reducible rfl
  rotate_left
  · simp only [Act.put, List.setIfInBounds_toArray, List.set_cons_zero, List.set_cons_succ, i64_w, i32_w]
    rfl
  refine pure_ (i := 4) (N := some 95) (v := ?_) (a' := ?_) #[true, true, true, true, true, false, false, false, false, false, false] rfl rfl (by kernel_rfl) (fun _ _ _ h => h) (Or.inl ⟨by rfl, ?_⟩) ?_ ?_
  rotate_left
  · intro w'
    go_simp
    with_reducible rfl
  rotate_left
  · simp only [Act.put, List.setIfInBounds_toArray, List.set_cons_zero, List.set_cons_succ, i64_w, i32_w]
    rfl
  refine pure_ (i := 5) (N := some 96) (v := ?_) (a' := ?_) #[true, true, true, true, true, true, false, false, false, false, false] rfl rfl (by kernel_rfl) (fun _ _ _ h => h) (Or.inl ⟨by rfl, ?_⟩) ?_ ?_
  rotate_left
  · intro w'
    go_simp
    with_reducible rfl
  rotate_left
  · simp only [Act.put, List.setIfInBounds_toArray, List.set_cons_zero, List.set_cons_succ, i64_w, i32_w]
    rfl
  refine one_ (i := 6) (N := some 97) #[true, true, true, true, true, true, true, false, false, false, false] rfl rfl (by kernel_rfl) (by decide) (fun K hK => ?_)
  refine goes_ Try.func23 (by kernel_rfl) rfl #[.int .u64 ON] (by rfl) rfl rfl (by simp only [List.map_toArray, List.map_cons, List.map_nil]; rfl) ?_
  refine (ones_calls ON ON0 ON7 _).mono ?_
  rw [hq]
  rintro e w9 ⟨rfl, rfl⟩
  refine ⟨_, rfl, ?_⟩
  refine hK.out _ _ hH (fun hH => ?_)
  clear hK K
  refine norm_ (a' := ?_) ?_ ?_
  rotate_left
  · show Act.put _ (some 97) _ = _
    simp only [Act.put, List.setIfInBounds_toArray, List.set_cons_zero, List.set_cons_succ, i64_w, i32_w]
    rfl
  refine pure_ (i := 7) (N := some 98) (v := ?_) (a' := ?_) #[true, true, true, true, true, true, true, true, false, false, false] rfl rfl (by kernel_rfl) (fun _ _ _ h => h) (Or.inl ⟨by rfl, ?_⟩) ?_ ?_
  rotate_left
  · intro w'
    go_simp
    with_reducible rfl
  rotate_left
  · simp only [Act.put, List.setIfInBounds_toArray, List.set_cons_zero, List.set_cons_succ, i64_w, i32_w]
    rfl
  refine pure_ (i := 8) (N := some 99) (v := ?_) (a' := ?_) #[true, true, true, true, true, true, true, true, true, false, false] rfl rfl (by kernel_rfl) (fun _ _ _ h => h) (Or.inl ⟨by rfl, ?_⟩) ?_ ?_
  rotate_left
  · intro w'
    go_simp
    with_reducible rfl
  rotate_left
  · simp only [Act.put, List.setIfInBounds_toArray, List.set_cons_zero, List.set_cons_succ, i64_w, i32_w]
    rfl
  refine pure_ (i := 9) (N := some 100) (v := ?_) (a' := ?_) #[true, true, true, true, true, true, true, true, true, true, false] rfl rfl (by kernel_rfl) (fun _ _ _ h => h) (Or.inl ⟨by rfl, ?_⟩) ?_ ?_
  rotate_left
  · intro w'
    go_simp
    with_reducible rfl
  rotate_left
  · simp only [Act.put, List.setIfInBounds_toArray, List.set_cons_zero, List.set_cons_succ, i64_w, i32_w]
    rfl
  have y2 : W8.drew.cell? ⟨B, 2, none⟩ = some (.int .i64 0) := (blk_cell (blk_drew GB8.out) 2).trans rfl
  have f2 := blk_frozen (blk_drew GB8.out) 2
  refine last_ (i := 10) (N := none) #[true, true, true, true, true, true, true, true, true, true, true] rfl rfl (by kernel_rfl) (by decide) (fun K hK => ?_)
  refine skip_ (w1 := W8.drew.setCell ⟨B, 2, none⟩ (.int .i64 (got + 2300 * A * q))) (by rfl) rfl ?_ ?_
  · go_simp
  refine hK.out _ _ ?_
  clear hK K
  refine done_ (by kernel_rfl) ?_
  obtain ⟨W9, hW9⟩ : ∃ W, W8.drew.setCell ⟨B, 2, none⟩ (.int .i64 (got + 2300 * A * q)) = W := ⟨_, rfl⟩
  have GB9 := Lib.hid (show W9.heap[B]? = some (.cells #[.slice X Y Z, .int .i64 (ticks + 1), .int .i64 (got + 2300 * A * q)] 26 (0, 0)) by rw [← hW9]; exact blk_put (blk_drew GB8.out) 2 _ rfl)
  have HE9 := Lib.hid (show Held c A0 c0 l0 ticks got w W9 by rw [← hW9]; exact heldB hH hBl _ 2)
  have HQ9 := Lib.hid (show Kd.Q (Kd.int .i64) 3 W9 w.heap.size (fun _ => True) (.slice X Y Z) ((l0 ++ [al]).drop d) by rw [← hW9]; exact Kd.Q_set (Kd.Q_drew HQ8.out) (blk_drew GB8.out) hty 2 _)
  rw [hW9]
  clear hW9 GB8 HE8 HQ8 y2 f2 tw1 tw2 tw3 tw4 hH
  go_upto_region 12 with fail
  have HED := Lib.hid (HE9.out.below (Below.refl _ _).drew)
  have GBD := Lib.hid (blk_drew GB9.out)
  have HQD := Lib.hid (Kd.Q_drew HQ9.out)
  refine start_ (n := 7) (S := fun w' => Held c A0 c0 l0 ticks got w w' ∧ w'.heap[B]? = some (.cells #[.slice X Y Z, .int .i64 (ticks + 1), .int .i64 (got + 2300 * A * q)] 26 (0, 0))) (ds := [5]) #[false, false, false, false, false, false, false] (by kernel_rfl) rfl rfl ⟨HED.out, GBD.out⟩ (fun hH => ?_)
  generalize W9.drew = W10 at HED GBD HQD hH ⊢
  refine pure_ (i := 0) (N := some 101) (v := ?_) (a' := ?_) #[true, false, false, false, false, false, false] rfl rfl (by kernel_rfl) (fun _ _ _ h => h) (Or.inl ⟨by rfl, ?_⟩) ?_ ?_
  rotate_left
  · intro w'
    go_simp
    with_reducible rfl
  rotate_left
  · simp only [Act.put, List.setIfInBounds_toArray, List.set_cons_zero, List.set_cons_succ, i64_w, i32_w]
    rfl
  refine pure_ (i := 1) (N := some 102) (v := ?_) (a' := ?_) #[true, true, false, false, false, false, false] rfl rfl (by kernel_rfl) (fun _ _ _ h => h) (Or.inl ⟨by rfl, ?_⟩) ?_ ?_
  rotate_left
  · intro w'
    go_simp
    with_reducible rfl
  rotate_left
  · simp only [Act.put, List.setIfInBounds_toArray, List.set_cons_zero, List.set_cons_succ, i64_w, i32_w]
    rfl
  refine take_ (i := 2) (N := some 103) (v := ?_) (a' := ?_) #[true, true, true, false, false, false, false] rfl rfl (by kernel_rfl) (fun _ _ _ h => h) (Or.inl ⟨by rfl, ?_⟩) hH ?_ ?_
  rotate_left
  · intro w' hW
    obtain ⟨hW1, hW2⟩ := hW
    have x0 : w'.cell? ⟨B, 0, none⟩ = some (.slice X Y Z) := (blk_cell hW2 0).trans rfl
    have x1 : w'.cell? ⟨B, 1, none⟩ = some (.int .i64 (ticks + 1)) := (blk_cell hW2 1).trans rfl
    have x2 : w'.cell? ⟨B, 2, none⟩ = some (.int .i64 (got + 2300 * A * q)) := (blk_cell hW2 2).trans rfl
    go_simp
    with_reducible rfl
  rotate_left
  · simp only [Act.put, List.setIfInBounds_toArray, List.set_cons_zero, List.set_cons_succ, i64_w, i32_w]
    rfl
  refine pure_ (i := 3) (N := some 8) (v := ?_) (a' := ?_) #[true, true, true, true, false, false, false] rfl rfl (by kernel_rfl) (fun _ _ _ h => h) (Or.inl ⟨by rfl, ?_⟩) ?_ ?_
  rotate_left
  · intro w'
    go_simp
    with_reducible rfl
  rotate_left
  · simp only [Act.put, List.setIfInBounds_toArray, List.set_cons_zero, List.set_cons_succ, i64_w, i32_w]
    rfl
  refine pure_ (i := 4) (N := some 9) (v := ?_) (a' := ?_) #[true, true, true, true, true, false, false] rfl rfl (by kernel_rfl) (fun _ _ _ h => h) (Or.inl ⟨by rfl, ?_⟩) ?_ ?_
  rotate_left
  · intro w'
    go_simp
    with_reducible rfl
  rotate_left
  · simp only [Act.put, List.setIfInBounds_toArray, List.set_cons_zero, List.set_cons_succ, i64_w, i32_w]
    rfl
  have z0 : W10.cell? ⟨w.heap.size + 1 + 1, 0, none⟩ = some (.slice none 0 0) := (blk_cell HED.out.gz 0).trans rfl
  have z1 : W10.cell? ⟨w.heap.size + 1 + 1, 1, none⟩ = some (.int .i64 0) := (blk_cell HED.out.gz 1).trans rfl
  have z2 : W10.cell? ⟨w.heap.size + 1 + 1, 2, none⟩ = some (.int .i64 0) := (blk_cell HED.out.gz 2).trans rfl
  obtain ⟨f0, f1, f2⟩ := HED.out.loose
  refine last_ (i := 5) (N := none) #[true, true, true, true, true, true, false] rfl rfl (by kernel_rfl) (by decide) (fun K hK => ?_)
  refine skip_ (w1 := ((W10.setCell ⟨w.heap.size + 1 + 1, 0, none⟩ (.slice X Y Z)).setCell ⟨w.heap.size + 1 + 1, 1, none⟩ (.int .i64 (ticks + 1))).setCell ⟨w.heap.size + 1 + 1, 2, none⟩ (.int .i64 (got + 2300 * A * q))) (by rfl) rfl ?_ ?_
  · go_simp
  refine hK.out _ _ ?_
  clear hK K
  refine pure_ (i := 6) (N := some 11) (v := ?_) (a' := ?_) #[true, true, true, true, true, true, true] rfl rfl (by kernel_rfl) (fun _ _ _ h => h) (Or.inl ⟨by rfl, ?_⟩) ?_ ?_
  rotate_left
  · intro w'
    go_simp
    with_reducible rfl
  rotate_left
  · simp only [Act.put, List.setIfInBounds_toArray, List.set_cons_zero, List.set_cons_succ, i64_w, i32_w]
    rfl
  refine done_ (by kernel_rfl) ?_
  have g1 := blk_put HED.out.gz 0 (.slice X Y Z) rfl
  have g2 := blk_put g1 1 (.int .i64 (ticks + 1)) rfl
  have g3 := blk_put g2 2 (.int .i64 (got + 2300 * A * q)) rfl
  have HQF := Kd.Q_set (Kd.Q_set (Kd.Q_set HQD.out HED.out.gz hty 0 (.slice X Y Z)) g1 hty 1 (.int .i64 (ticks + 1))) g2 hty 2 (.int .i64 (got + 2300 * A * q))
  have hbF : Below w.heap.size w (((W10.setCell ⟨w.heap.size + 1 + 1, 0, none⟩ (.slice X Y Z)).setCell ⟨w.heap.size + 1 + 1, 1, none⟩ (.int .i64 (ticks + 1))).setCell ⟨w.heap.size + 1 + 1, 2, none⟩ (.int .i64 (got + 2300 * A * q))) := ((HED.out.hb.setCell (by show w.heap.size ≤ w.heap.size + 1 + 1; omega) _).setCell (by show w.heap.size ≤ w.heap.size + 1 + 1; omega) _).setCell (by show w.heap.size ≤ w.heap.size + 1 + 1; omega) _
  have hdF := HD.out
  generalize ((W10.setCell ⟨w.heap.size + 1 + 1, 0, none⟩ (.slice X Y Z)).setCell ⟨w.heap.size + 1 + 1, 1, none⟩ (.int .i64 (ticks + 1))).setCell ⟨w.heap.size + 1 + 1, 2, none⟩ (.int .i64 (got + 2300 * A * q)) = W12 at g3 HQF hbF ⊢
  clear g1 g2 z0 z1 z2 f0 f1 f2 hH
  go_wp2_with fail
  refine bodyPost_ret (results_list (rs := [.tmp 8, .tmp 9, .cell 10 26, .tmp 11]) rfl (by simp) (.tmp (.tmp (.cell (w.heap.size + 1 + 1) 26 #[.slice X Y Z, .int .i64 (ticks + 1), .int .i64 (got + 2300 * A * q)] (0, 0) _ rfl g3 Try.underlying26 rfl (by kernel_rfl) (.tmp .nil))))) rfl ?_
  rw [← hdF]
  exact ⟨_, by rw [hq]; rfl, HQF, hbF⟩
end Go.Proofs.Ytojjdpbjcaedpaa.CarGood
