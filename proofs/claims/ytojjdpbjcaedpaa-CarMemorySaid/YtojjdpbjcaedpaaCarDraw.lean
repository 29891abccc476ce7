/-
  The walk of car.Draw.
-/
import Derived.Test.YtojjdpbjcaedpaaCarB
import Derived.Test.YtojjdpbjcaedpaaPAllx2
namespace Go.Proofs.Ytojjdpbjcaedpaa.CarDraw
open Go.RowKit Go.Proofs.Ytojjdpbjcaedpaa.Kit Go.Proofs.Ytojjdpbjcaedpaa.PAll Go.Proofs.Ytojjdpbjcaedpaa.CarWalk Go.Proofs.Ytojjdpbjcaedpaa.CarA Go.Proofs.Ytojjdpbjcaedpaa.CarB
open Go.Proofs.YtojjdpbjcaedpaaW.PrintWords hiding below_alloc below_drew
set_option linter.unusedVariables false
set_option linter.unusedSimpArgs false

def validP (c : Car) (l : List Int) (ticks got : Int) : Bool := (car_plugged_valid.f c.f0 c.f1 c.f2 c.f3 c.f4 l ticks got).getD false
theorem valid_some (c : Car) (l : List Int) (ticks got : Int) : car_plugged_valid.f c.f0 c.f1 c.f2 c.f3 c.f4 l ticks got = some (validP c l ticks got) := by
  unfold validP car_plugged_valid.f
  repeat' split
  all_goals rfl
theorem valid_calls (c : Car) (A0 : Option Addr) (c0 : Nat) (l0 : List Int) (ticks got : Int) (w : World) (hr : Kd.C (Kd.int .i64) w A0 l0.length l0) (hc : l0.length ≤ c0) :
    Calls Try.prog 17 #[.agg #[.int .i64 c.f0, .int .i64 c.f1, .int .i64 c.f2, .int .i64 c.f3, .int .i64 c.f4, .slice A0 l0.length c0, .int .i64 ticks, .int .i64 got]] w
      fun e w' => e = .returned (.bool (validP c l0 ticks got)) ∧ Below w.heap.size w w' :=
  car_plugged_valid.calls c.f0 c.f1 c.f2 c.f3 c.f4 A0 c0 l0 ticks got _ w hr hc (valid_some c l0 ticks got)

def Post (w : World) (r1 r2 : Int) (r3 : List Int) (r4 r5 r6 : Int) (e : Ending) (w' : World) : Prop :=
  ∃ v2_ : Value, e = .returned (.tuple #[.int .i64 r1, .int .i64 r2, .agg #[v2_, .int .i64 r4, .int .i64 r5], .int .i64 r6]) ∧ Kd.Q (Kd.int .i64) 3 w' w.heap.size (fun _ => True) v2_ r3 ∧ Below w.heap.size w w'

/-- What stays while Draw runs: its blocks (what it was given, the result's cell, the plugged car). -/
structure Held (c : Car) (A0 : Option Addr) (c0 : Nat) (l0 : List Int) (ticks got : Int) (w W : World) : Prop where
  gs : W.heap[w.heap.size + 1]? = some (.cells #[.slice A0 l0.length c0, .int .i64 ticks, .int .i64 got] 26 (0, 0))
  gz : W.heap[w.heap.size + 1 + 1]? = some (.cells #[.slice none 0 0, .int .i64 0, .int .i64 0] 26 (0, 0))
  gp : W.heap[w.heap.size + 1 + 1 + 1]? = some (.cells #[.int .i64 c.f0, .int .i64 c.f1, .int .i64 c.f2, .int .i64 c.f3, .int .i64 c.f4, .slice A0 l0.length c0, .int .i64 ticks, .int .i64 got] 39 (0, 0))
  hb : Below w.heap.size w W
  sz : w.heap.size + 1 + 1 + 1 < W.heap.size
section
variable {c : Car} {A0 : Option Addr} {c0 : Nat} {l0 : List Int} {ticks got : Int} {w W W' : World}
theorem Held.below (h : Held c A0 c0 l0 ticks got w W) (hb : Below W.heap.size W W') : Held c A0 c0 l0 ticks got w W' :=
  ⟨blk_below h.gs hb, blk_below h.gz hb, blk_below h.gp hb, h.hb.trans (hb.mono h.hb.size), Nat.lt_of_lt_of_le h.sz hb.size⟩
theorem Held.first (c : Car) (A0 : Option Addr) (c0 : Nat) (l0 : List Int) (ticks got : Int) (w : World) :
    Held c A0 c0 l0 ticks got w ((((w.alloc (.cells #[.int .i64 c.f0, .int .i64 c.f1, .int .i64 c.f2, .int .i64 c.f3, .int .i64 c.f4] 23)).alloc (.cells #[.slice A0 l0.length c0, .int .i64 ticks, .int .i64 got] 26)).alloc (.cells #[.slice none 0 0, .int .i64 0, .int .i64 0] 26)).alloc (.cells #[.int .i64 c.f0, .int .i64 c.f1, .int .i64 c.f2, .int .i64 c.f3, .int .i64 c.f4, .slice A0 l0.length c0, .int .i64 ticks, .int .i64 got] 39)) := by
  have a1 := blk_new (w.alloc (.cells #[.int .i64 c.f0, .int .i64 c.f1, .int .i64 c.f2, .int .i64 c.f3, .int .i64 c.f4] 23)) (.cells #[.slice A0 l0.length c0, .int .i64 ticks, .int .i64 got] 26)
  have a2 := blk_new ((w.alloc (.cells #[.int .i64 c.f0, .int .i64 c.f1, .int .i64 c.f2, .int .i64 c.f3, .int .i64 c.f4] 23)).alloc (.cells #[.slice A0 l0.length c0, .int .i64 ticks, .int .i64 got] 26)) (.cells #[.slice none 0 0, .int .i64 0, .int .i64 0] 26)
  have a3 := blk_new (((w.alloc (.cells #[.int .i64 c.f0, .int .i64 c.f1, .int .i64 c.f2, .int .i64 c.f3, .int .i64 c.f4] 23)).alloc (.cells #[.slice A0 l0.length c0, .int .i64 ticks, .int .i64 got] 26)).alloc (.cells #[.slice none 0 0, .int .i64 0, .int .i64 0] 26)) (.cells #[.int .i64 c.f0, .int .i64 c.f1, .int .i64 c.f2, .int .i64 c.f3, .int .i64 c.f4, .slice A0 l0.length c0, .int .i64 ticks, .int .i64 got] 39)
  simp only [World.size_alloc] at a1 a2 a3
  refine ⟨blk_alloc (blk_alloc a1 _) _, blk_alloc a2 _, a3, below_alloc (below_alloc (below_alloc (below_alloc (Below.refl _ _) _) _) _) _, ?_⟩
  simp only [World.size_alloc]
  omega
theorem Held.cells (h : Held c A0 c0 l0 ticks got w W) : W.cell? ⟨w.heap.size + 1 + 1 + 1, 0, none⟩ = some (.int .i64 c.f0) ∧ W.cell? ⟨w.heap.size + 1 + 1 + 1, 1, none⟩ = some (.int .i64 c.f1) ∧ W.cell? ⟨w.heap.size + 1 + 1 + 1, 2, none⟩ = some (.int .i64 c.f2) ∧ W.cell? ⟨w.heap.size + 1 + 1 + 1, 3, none⟩ = some (.int .i64 c.f3) ∧ W.cell? ⟨w.heap.size + 1 + 1 + 1, 4, none⟩ = some (.int .i64 c.f4) ∧ W.cell? ⟨w.heap.size + 1 + 1 + 1, 5, none⟩ = some (.slice A0 l0.length c0) ∧ W.cell? ⟨w.heap.size + 1 + 1 + 1, 6, none⟩ = some (.int .i64 ticks) ∧ W.cell? ⟨w.heap.size + 1 + 1 + 1, 7, none⟩ = some (.int .i64 got) ∧ W.cell? ⟨w.heap.size + 1, 0, none⟩ = some (.slice A0 l0.length c0) ∧ W.cell? ⟨w.heap.size + 1, 1, none⟩ = some (.int .i64 ticks) ∧ W.cell? ⟨w.heap.size + 1, 2, none⟩ = some (.int .i64 got) ∧ W.cell? ⟨w.heap.size + 1 + 1, 0, none⟩ = some (.slice none 0 0) ∧ W.cell? ⟨w.heap.size + 1 + 1, 1, none⟩ = some (.int .i64 0) ∧ W.cell? ⟨w.heap.size + 1 + 1, 2, none⟩ = some (.int .i64 0) :=
  ⟨(blk_cell h.gp 0).trans rfl, (blk_cell h.gp 1).trans rfl, (blk_cell h.gp 2).trans rfl, (blk_cell h.gp 3).trans rfl, (blk_cell h.gp 4).trans rfl, (blk_cell h.gp 5).trans rfl, (blk_cell h.gp 6).trans rfl, (blk_cell h.gp 7).trans rfl, (blk_cell h.gs 0).trans rfl, (blk_cell h.gs 1).trans rfl, (blk_cell h.gs 2).trans rfl, (blk_cell h.gz 0).trans rfl, (blk_cell h.gz 1).trans rfl, (blk_cell h.gz 2).trans rfl⟩
theorem Held.loose (h : Held c A0 c0 l0 ticks got w W) : W.frozen? ⟨w.heap.size + 1 + 1, 0, none⟩ = false ∧ W.frozen? ⟨w.heap.size + 1 + 1, 1, none⟩ = false ∧ W.frozen? ⟨w.heap.size + 1 + 1, 2, none⟩ = false := ⟨blk_frozen h.gz 0, blk_frozen h.gz 1, blk_frozen h.gz 2⟩
end

/-- What Draw answers; a car that is refused gets nothing. -/
def amps (c : Car) (l : List Int) (ticks got on al : Int) : Int :=
  if on ≠ 0 ∧ got < c.f3 then mn c.f2 (if c.f0 = 1 then lateI l c.f4 al else if c.f0 = 3 then pauseI ticks c.f4 al else if c.f0 = 4 then greedyI al c.f2 else al) else 0
def fine (c : Car) (l : List Int) (ticks got ph al : Int) : Bool := validP c l ticks got && remP l ticks got && !decide (ph < 1) && !decide (ph > 7) && !wrongI al && !decide (ticks = 1000000)

set_option maxRecDepth 100000 in
set_option maxHeartbeats 4000000 in
theorem bad_calls (c : Car) (A0 : Option Addr) (c0 : Nat) (l0 : List Int) (ticks got ph al : Int) (w : World) (hr0 : Kd.C (Kd.int .i64) w A0 l0.length l0) (hc0 : l0.length ≤ c0) (hbad : fine c l0 ticks got ph al = false) :
    Calls Try.prog 11 #[.agg #[.int .i64 c.f0, .int .i64 c.f1, .int .i64 c.f2, .int .i64 c.f3, .int .i64 c.f4], .agg #[.slice A0 l0.length c0, .int .i64 ticks, .int .i64 got], .int .i64 ph, .int .i64 al] w (Post w 0 0 [] 0 0 1) := by
  have hv := fun W hr => valid_calls c A0 c0 l0 ticks got W hr hc0
  have HF := Held.first c A0 c0 l0 ticks got w
  have HR := Lib.hid hr0
  have HF := Lib.hid HF
  have HX := Lib.hid hbad
  clear hr0 hbad
  cases b1 : validP c l0 ticks got
  · rw [b1] at hv
    have HV := Lib.hid hv
    clear hv b1 HX
    go_enter Try.func11, Try.ntmps11
    go_wp2_with fail
    refine (HV.out _ (Kd.C_below HR.out HF.out.hb)).mono ?_
    rintro e w1 ⟨rfl, hb⟩
    have HE := Lib.hid (HF.out.below hb)
    obtain ⟨p0, p1, p2, p3, p4, p5, p6, p7, s0, s1, s2, z0, z1, z2⟩ := HE.out.cells
    obtain ⟨zf0, zf1, zf2⟩ := HE.out.loose
    clear hb
    go_wp2_with fail
    refine bodyPost_ret (results_list (rs := [.tmp 8, .tmp 9, .cell 10 26, .tmp 11]) rfl (by simp) (.tmp (.tmp (.cell (w.heap.size + 1 + 1) 26 #[.slice none 0 0, .int .i64 0, .int .i64 0] (0, 0) _ rfl (by first | exact HE.out.gz | (repeat (first | refine blk_put (cs := #[.slice none 0 0, .int .i64 0, .int .i64 0]) ?_ 2 _ rfl | refine blk_put (cs := #[.slice none 0 0, .int .i64 0, .int .i64 0]) ?_ 1 _ rfl | refine blk_put (cs := #[.slice none 0 0, .int .i64 0, .int .i64 0]) ?_ 0 _ rfl)); exact HE.out.gz) Try.underlying26 rfl (by kernel_rfl) (.tmp .nil))))) rfl ?_
    exact ⟨_, rfl, Kd.Q_nil _ _ _ _ _, by repeat (first | exact HE.out.hb | refine below_set ?_ (by omega))⟩
  · rw [b1] at hv
    have HV := Lib.hid hv
    have hrem := fun W hr => remembers_calls c A0 c0 l0 ticks got W hr
    clear hv
    cases b2 : remP l0 ticks got
    · rw [b2] at hrem
      have HREM := Lib.hid hrem
      clear hrem b1 b2 HX
      go_enter Try.func11, Try.ntmps11
      go_wp2_with fail
      refine (HV.out _ (Kd.C_below HR.out HF.out.hb)).mono ?_
      rintro e w1 ⟨rfl, hb⟩
      have HE1 := Lib.hid (HF.out.below hb)
      obtain ⟨p0, p1, p2, p3, p4, p5, p6, p7, s0, s1, s2, z0, z1, z2⟩ := HE1.out.cells
      clear hb
      go_wp2_with fail
      clear p0 p1 p2 p3 p4 p5 p6 p7 s0 s1 s2 z0 z1 z2
      refine (HREM.out _ (Kd.C_below HR.out HE1.out.hb)).mono ?_
      rintro e w2 ⟨rfl, hb⟩
      have HE := Lib.hid (HE1.out.below hb)
      obtain ⟨p0, p1, p2, p3, p4, p5, p6, p7, s0, s1, s2, z0, z1, z2⟩ := HE.out.cells
      obtain ⟨zf0, zf1, zf2⟩ := HE.out.loose
      clear hb HE1
      go_wp2_with fail
      refine bodyPost_ret (results_list (rs := [.tmp 8, .tmp 9, .cell 10 26, .tmp 11]) rfl (by simp) (.tmp (.tmp (.cell (w.heap.size + 1 + 1) 26 #[.slice none 0 0, .int .i64 0, .int .i64 0] (0, 0) _ rfl (by first | exact HE.out.gz | (repeat (first | refine blk_put (cs := #[.slice none 0 0, .int .i64 0, .int .i64 0]) ?_ 2 _ rfl | refine blk_put (cs := #[.slice none 0 0, .int .i64 0, .int .i64 0]) ?_ 1 _ rfl | refine blk_put (cs := #[.slice none 0 0, .int .i64 0, .int .i64 0]) ?_ 0 _ rfl)); exact HE.out.gz) Try.underlying26 rfl (by kernel_rfl) (.tmp .nil))))) rfl ?_
      exact ⟨_, rfl, Kd.Q_nil _ _ _ _ _, by repeat (first | exact HE.out.hb | refine below_set ?_ (by omega))⟩
    · rw [b2] at hrem
      have HREM := Lib.hid hrem
      clear hrem
      by_cases c3 : ph < 1
      · have d3 : decide (ph < 1) = true := decide_eq_true c3
        clear b1 b2 HX c3
        go_enter Try.func11, Try.ntmps11
        go_wp2_with fail
        refine (HV.out _ (Kd.C_below HR.out HF.out.hb)).mono ?_
        rintro e w1 ⟨rfl, hb⟩
        have HE1 := Lib.hid (HF.out.below hb)
        obtain ⟨p0, p1, p2, p3, p4, p5, p6, p7, s0, s1, s2, z0, z1, z2⟩ := HE1.out.cells
        clear hb
        go_wp2_with fail
        clear p0 p1 p2 p3 p4 p5 p6 p7 s0 s1 s2 z0 z1 z2
        refine (HREM.out _ (Kd.C_below HR.out HE1.out.hb)).mono ?_
        rintro e w2 ⟨rfl, hb⟩
        have HE := Lib.hid (HE1.out.below hb)
        obtain ⟨p0, p1, p2, p3, p4, p5, p6, p7, s0, s1, s2, z0, z1, z2⟩ := HE.out.cells
        obtain ⟨zf0, zf1, zf2⟩ := HE.out.loose
        clear hb HE1
        go_wp2_with fail
        refine bodyPost_ret (results_list (rs := [.tmp 8, .tmp 9, .cell 10 26, .tmp 11]) rfl (by simp) (.tmp (.tmp (.cell (w.heap.size + 1 + 1) 26 #[.slice none 0 0, .int .i64 0, .int .i64 0] (0, 0) _ rfl (by first | exact HE.out.gz | (repeat (first | refine blk_put (cs := #[.slice none 0 0, .int .i64 0, .int .i64 0]) ?_ 2 _ rfl | refine blk_put (cs := #[.slice none 0 0, .int .i64 0, .int .i64 0]) ?_ 1 _ rfl | refine blk_put (cs := #[.slice none 0 0, .int .i64 0, .int .i64 0]) ?_ 0 _ rfl)); exact HE.out.gz) Try.underlying26 rfl (by kernel_rfl) (.tmp .nil))))) rfl ?_
        exact ⟨_, rfl, Kd.Q_nil _ _ _ _ _, by repeat (first | exact HE.out.hb | refine below_set ?_ (by omega))⟩
      · have d3 : decide (ph < 1) = false := decide_eq_false c3
        by_cases c4 : ph > 7
        · have d4 : decide (7 < ph) = true := decide_eq_true c4
          clear b1 b2 HX c3 c4
          go_enter Try.func11, Try.ntmps11
          go_wp2_with fail
          refine (HV.out _ (Kd.C_below HR.out HF.out.hb)).mono ?_
          rintro e w1 ⟨rfl, hb⟩
          have HE1 := Lib.hid (HF.out.below hb)
          obtain ⟨p0, p1, p2, p3, p4, p5, p6, p7, s0, s1, s2, z0, z1, z2⟩ := HE1.out.cells
          clear hb
          go_wp2_with fail
          clear p0 p1 p2 p3 p4 p5 p6 p7 s0 s1 s2 z0 z1 z2
          refine (HREM.out _ (Kd.C_below HR.out HE1.out.hb)).mono ?_
          rintro e w2 ⟨rfl, hb⟩
          have HE := Lib.hid (HE1.out.below hb)
          obtain ⟨p0, p1, p2, p3, p4, p5, p6, p7, s0, s1, s2, z0, z1, z2⟩ := HE.out.cells
          obtain ⟨zf0, zf1, zf2⟩ := HE.out.loose
          clear hb HE1
          go_wp2_with fail
          refine bodyPost_ret (results_list (rs := [.tmp 8, .tmp 9, .cell 10 26, .tmp 11]) rfl (by simp) (.tmp (.tmp (.cell (w.heap.size + 1 + 1) 26 #[.slice none 0 0, .int .i64 0, .int .i64 0] (0, 0) _ rfl (by first | exact HE.out.gz | (repeat (first | refine blk_put (cs := #[.slice none 0 0, .int .i64 0, .int .i64 0]) ?_ 2 _ rfl | refine blk_put (cs := #[.slice none 0 0, .int .i64 0, .int .i64 0]) ?_ 1 _ rfl | refine blk_put (cs := #[.slice none 0 0, .int .i64 0, .int .i64 0]) ?_ 0 _ rfl)); exact HE.out.gz) Try.underlying26 rfl (by kernel_rfl) (.tmp .nil))))) rfl ?_
          exact ⟨_, rfl, Kd.Q_nil _ _ _ _ _, by repeat (first | exact HE.out.hb | refine below_set ?_ (by omega))⟩
        · have d4 : decide (7 < ph) = false := decide_eq_false c4
          have hw := fun W => wrong_calls al W
          cases b5 : wrongI al
          · rw [b5] at hw
            have HW := Lib.hid hw
            clear hw
            obtain rfl : ticks = 1000000 := by
              have h := HX.out
              unfold fine at h
              rw [b1, b2, d3, b5, show decide (ph > 7) = false from d4] at h
              simpa using h
            clear b1 b2 HX c3 c4
            go_enter Try.func11, Try.ntmps11
            go_wp2_with fail
            refine (HV.out _ (Kd.C_below HR.out HF.out.hb)).mono ?_
            rintro e w1 ⟨rfl, hb⟩
            have HE1 := Lib.hid (HF.out.below hb)
            obtain ⟨p0, p1, p2, p3, p4, p5, p6, p7, s0, s1, s2, z0, z1, z2⟩ := HE1.out.cells
            clear hb
            go_wp2_with fail
            clear p0 p1 p2 p3 p4 p5 p6 p7 s0 s1 s2 z0 z1 z2
            refine (HREM.out _ (Kd.C_below HR.out HE1.out.hb)).mono ?_
            rintro e w2 ⟨rfl, hb⟩
            have HE := Lib.hid (HE1.out.below hb)
            obtain ⟨p0, p1, p2, p3, p4, p5, p6, p7, s0, s1, s2, z0, z1, z2⟩ := HE.out.cells
            obtain ⟨zf0, zf1, zf2⟩ := HE.out.loose
            clear hb HE1
            go_wp2_with fail
            refine (HW.out _).mono ?_
            rintro e w3 ⟨rfl, rfl⟩
            go_wp2_with fail
            refine bodyPost_ret (results_list (rs := [.tmp 8, .tmp 9, .cell 10 26, .tmp 11]) rfl (by simp) (.tmp (.tmp (.cell (w.heap.size + 1 + 1) 26 #[.slice none 0 0, .int .i64 0, .int .i64 0] (0, 0) _ rfl (by first | exact HE.out.gz | (repeat (first | refine blk_put (cs := #[.slice none 0 0, .int .i64 0, .int .i64 0]) ?_ 2 _ rfl | refine blk_put (cs := #[.slice none 0 0, .int .i64 0, .int .i64 0]) ?_ 1 _ rfl | refine blk_put (cs := #[.slice none 0 0, .int .i64 0, .int .i64 0]) ?_ 0 _ rfl)); exact HE.out.gz) Try.underlying26 rfl (by kernel_rfl) (.tmp .nil))))) rfl ?_
            exact ⟨_, rfl, Kd.Q_nil _ _ _ _ _, by repeat (first | exact HE.out.hb | refine below_set ?_ (by omega))⟩
          · rw [b5] at hw
            have HW := Lib.hid hw
            clear hw b1 b2 HX c3 c4
            go_enter Try.func11, Try.ntmps11
            go_wp2_with fail
            refine (HV.out _ (Kd.C_below HR.out HF.out.hb)).mono ?_
            rintro e w1 ⟨rfl, hb⟩
            have HE1 := Lib.hid (HF.out.below hb)
            obtain ⟨p0, p1, p2, p3, p4, p5, p6, p7, s0, s1, s2, z0, z1, z2⟩ := HE1.out.cells
            clear hb
            go_wp2_with fail
            clear p0 p1 p2 p3 p4 p5 p6 p7 s0 s1 s2 z0 z1 z2
            refine (HREM.out _ (Kd.C_below HR.out HE1.out.hb)).mono ?_
            rintro e w2 ⟨rfl, hb⟩
            have HE := Lib.hid (HE1.out.below hb)
            obtain ⟨p0, p1, p2, p3, p4, p5, p6, p7, s0, s1, s2, z0, z1, z2⟩ := HE.out.cells
            obtain ⟨zf0, zf1, zf2⟩ := HE.out.loose
            clear hb HE1
            go_wp2_with fail
            refine (HW.out _).mono ?_
            rintro e w3 ⟨rfl, rfl⟩
            go_wp2_with fail
            refine bodyPost_ret (results_list (rs := [.tmp 8, .tmp 9, .cell 10 26, .tmp 11]) rfl (by simp) (.tmp (.tmp (.cell (w.heap.size + 1 + 1) 26 #[.slice none 0 0, .int .i64 0, .int .i64 0] (0, 0) _ rfl (by first | exact HE.out.gz | (repeat (first | refine blk_put (cs := #[.slice none 0 0, .int .i64 0, .int .i64 0]) ?_ 2 _ rfl | refine blk_put (cs := #[.slice none 0 0, .int .i64 0, .int .i64 0]) ?_ 1 _ rfl | refine blk_put (cs := #[.slice none 0 0, .int .i64 0, .int .i64 0]) ?_ 0 _ rfl)); exact HE.out.gz) Try.underlying26 rfl (by kernel_rfl) (.tmp .nil))))) rfl ?_
            exact ⟨_, rfl, Kd.Q_nil _ _ _ _ _, by repeat (first | exact HE.out.hb | refine below_set ?_ (by omega))⟩
end Go.Proofs.Ytojjdpbjcaedpaa.CarDraw
