/-
  The walks of what car.Draw calls (3): the closures for late, pausing and greedy cars.
-/
import Derived.Test.YtojjdpbjcaedpaaCarA
namespace Go.Proofs.Ytojjdpbjcaedpaa.CarB
open Go.RowKit Go.Proofs.Ytojjdpbjcaedpaa.Kit Go.Proofs.Ytojjdpbjcaedpaa.PAll Go.Proofs.Ytojjdpbjcaedpaa.CarWalk Go.Proofs.Ytojjdpbjcaedpaa.CarA
open Go.Proofs.YtojjdpbjcaedpaaW.PrintWords hiding below_alloc below_drew
set_option linter.unusedVariables false
set_option linter.unusedSimpArgs false

def greedyI (al mx : Int) : Int := (if 1 < al then 1 else al) * mx
set_option maxRecDepth 100000 in
theorem greedy_calls (c : Car) (A0 : Option Addr) (c0 : Nat) (l0 : List Int) (ticks got al : Int) (h0 : 0 ≤ al) (h1 : 0 ≤ c.f2) (h2 : c.f2 ≤ 80) (w : World) :
    Calls Try.prog 32 #[pv c A0 l0 c0 ticks got, .int .i64 al] w fun e w' => e = .returned (.int .i64 (greedyI al c.f2)) ∧ Below w.heap.size w w' := by
  have k1 : (0 : Int) ≤ (if 1 < al then 1 else al) ∧ (if 1 < al then 1 else al) ≤ 1 := by split <;> omega
  obtain ⟨m, hm⟩ : ∃ m, (if 1 < al then (1 : Int) else al) = m := ⟨_, rfl⟩
  have e : greedyI al c.f2 = m * c.f2 := by unfold greedyI; rw [hm]
  rw [hm] at k1
  have q : -9223372036854775808 ≤ m * c.f2 ∧ m * c.f2 ≤ 9223372036854775807 := by
    have : m = 0 ∨ m = 1 := by omega
    rcases this with rfl | rfl <;> omega
  have q2 := q.1
  have q3 := q.2
  have E := Lib.hid e
  clear k1 q e
  unfold pv
  go_enter Try.func32, Try.ntmps32
  go_wp2
  go_ret
  exact ⟨by rw [E.out]; rfl, by repeat (first | exact Below.refl _ _ | apply below_drewN | apply below_alloc)⟩

def pauseI (ticks delay al : Int) : Int := if (ticks / delay) % 2 = 1 then 0 else al
set_option maxRecDepth 100000 in
theorem pause_calls (c : Car) (A0 : Option Addr) (c0 : Nat) (l0 : List Int) (ticks got al : Int) (h0 : 0 ≤ ticks) (h1 : ticks ≤ 1000000) (h2 : 1 ≤ c.f4) (h3 : c.f4 ≤ 20) (w : World) :
    Calls Try.prog 31 #[pv c A0 l0 c0 ticks got, .int .i64 al] w fun e w' => e = .returned (.int .i64 (pauseI ticks c.f4 al)) ∧ Below w.heap.size w w' := by
  have d0 : ticks.tdiv c.f4 = ticks / c.f4 := Int.tdiv_eq_ediv_of_nonneg h0
  have d1 : 0 ≤ ticks / c.f4 := Int.ediv_nonneg h0 (by omega)
  have d3 : ticks / c.f4 ≤ 1000000 := Int.le_trans (Int.ediv_le_self _ h0) h1
  have d2 : (ticks / c.f4).tmod 2 = (ticks / c.f4) % 2 := Int.tmod_eq_emod_of_nonneg d1
  have nz : c.f4 ≠ 0 := by omega
  have nzb : (c.f4 == 0) = false := by simpa using nz
  by_cases b : (ticks / c.f4) % 2 = 1
  · have e : pauseI ticks c.f4 al = 0 := if_pos b
    have E := Lib.hid e
    have bb : ((ticks / c.f4) % 2 == 1) = true := by simpa using b
    clear e b
    unfold pv
    go_enter Try.func31, Try.ntmps31
    go_wp2
    go_ret
    exact ⟨by rw [E.out]; rfl, by repeat (first | exact Below.refl _ _ | apply below_drewN | apply below_alloc)⟩
  · have e : pauseI ticks c.f4 al = al := if_neg b
    have E := Lib.hid e
    have bb : ((ticks / c.f4) % 2 == 1) = false := by simpa using b
    clear e b
    unfold pv
    go_enter Try.func31, Try.ntmps31
    go_wp2
    go_ret
    exact ⟨by rw [E.out]; rfl, by repeat (first | exact Below.refl _ _ | apply below_drewN | apply below_alloc)⟩

/-! late -/
def lateI (l : List Int) (delay al : Int) : Int :=
  if ((l ++ [al]).length : Int) ≤ delay then 0 else mn al (rd (l ++ [al]) (((l ++ [al]).length : Int) - 1 - delay))
theorem lit_C {w : World} {B : Nat} {x : Int} (h : w.heap[B]? = some (.cells #[.int .i64 x] 3 (0, 0))) :
    Kd.C (Kd.int .i64) w (some ⟨B, 0, none⟩) ([x] : List Int).length [x] := by
  refine ⟨rfl, by simp, fun _ => ⟨⟨B, 0, none⟩, rfl, fun j p hj => ?_⟩⟩
  obtain ⟨rfl, rfl⟩ : j = 0 ∧ x = p := by
    cases j with
    | zero => simp at hj; exact ⟨rfl, hj⟩
    | succ j => simp at hj
  refine ⟨_, rfl, rfl, fun j u hu => ?_⟩
  rw [add_plain, blk_cell h, ← Array.getElem?_toList, Nat.zero_mul, Nat.zero_add]
  exact hu
/-- The two lists that Concat is called with. -/
theorem two_lit (W : World) (S : Nat) (hS : W.heap.size = S) (al : Int) (A0 : Option Addr) (n c0 : Nat) :
    ((W.alloc (.cells #[.int .i64 al] 3)).alloc (.cells #[.slice A0 n c0, .slice (some ⟨S, 0, none⟩) 1 1] 24)).cell? ⟨S + 1, 0, none⟩ = some (.slice A0 n c0) ∧
    ((W.alloc (.cells #[.int .i64 al] 3)).alloc (.cells #[.slice A0 n c0, .slice (some ⟨S, 0, none⟩) 1 1] 24)).cell? ⟨S + 1, 1, none⟩ = some (.slice (some ⟨S, 0, none⟩) ([al] : List Int).length 1) ∧
    Kd.C (Kd.int .i64) ((W.alloc (.cells #[.int .i64 al] 3)).alloc (.cells #[.slice A0 n c0, .slice (some ⟨S, 0, none⟩) 1 1] 24)) (some ⟨S, 0, none⟩) ([al] : List Int).length [al] := by
  subst hS
  have g := blk_new (W.alloc (.cells #[.int .i64 al] 3)) (.cells #[.slice A0 n c0, .slice (some ⟨W.heap.size, 0, none⟩) 1 1] 24)
  rw [World.size_alloc] at g
  exact ⟨by rw [blk_cell g]; rfl, by rw [blk_cell g]; rfl, lit_C (blk_alloc (blk_new W _) _)⟩
set_option maxRecDepth 100000 in
theorem late_calls (c : Car) (A0 : Option Addr) (c0 : Nat) (l0 : List Int) (ticks got al : Int) (hl : l0.length ≤ 40) (h2 : 0 ≤ c.f4) (h3 : c.f4 ≤ 20) (w : World) (hr0 : Kd.C (Kd.int .i64) w A0 l0.length l0) :
    Calls Try.prog 30 #[pv c A0 l0 c0 ticks got, .int .i64 al] w fun e w' => e = .returned (.int .i64 (lateI l0 c.f4 al)) ∧ Below w.heap.size w w' := by
  have HR := Lib.hid hr0
  clear hr0
  unfold pv
  go_enter Try.func30, Try.ntmps30
  go_wp2_with fail
  obtain ⟨t1, t2, t3⟩ := two_lit (w.alloc (.cells #[.int .i64 c.f0, .int .i64 c.f1, .int .i64 c.f2, .int .i64 c.f3, .int .i64 c.f4, .slice A0 l0.length c0, .int .i64 ticks, .int .i64 got] 39)) (w.heap.size + 1) (by rw [World.size_alloc]) al A0 l0.length c0
  refine (ConcatInt.concat_calls A0 (some ⟨w.heap.size + 1, 0, none⟩) c0 1 l0 [al] _ _ t1 t2 (Kd.C_alloc (Kd.C_alloc (Kd.C_alloc HR.out _) _) _) t3 (by omega) (by simp)).mono ?_
  rintro e w5 ⟨v5, rfl, ho5, hb5⟩
  have hb6 : Below w.heap.size w w5 := (below_alloc (below_alloc (below_alloc (Below.refl _ _) _) _) _).trans (hb5.mono (by simp only [World.size_alloc]; omega))
  have p4 : w5.cell? ⟨w.heap.size, 4, none⟩ = some (.int .i64 c.f4) := by
    have g := blk_below (blk_alloc (blk_alloc (blk_new w (.cells #[.int .i64 c.f0, .int .i64 c.f1, .int .i64 c.f2, .int .i64 c.f3, .int .i64 c.f4, .slice A0 l0.length c0, .int .i64 ticks, .int .i64 got] 39)) (.cells #[.int .i64 al] 3)) (.cells #[.slice A0 l0.length c0, .slice (some ⟨w.heap.size + 1, 0, none⟩) 1 1] 24)) hb5
    rw [blk_cell g]; rfl
  obtain ⟨A5, c5, rfl, hc5⟩ := Kd.R_slice ho5
  have hC0 := Kd.R_reads' ho5
  have hC := hC0.2.2
  clear hC0
  have hlen : (l0 ++ [al]).length = l0.length + 1 := by simp
  have HB6 := Lib.hid hb6
  clear ho5 hb5 hb6 t1 t2 t3 HR
  generalize hm : l0 ++ [al] = m at *
  by_cases hd : (m.length : Int) ≤ c.f4
  · have e : lateI l0 c.f4 al = 0 := by unfold lateI; rw [hm, if_pos hd]
    have E := Lib.hid e
    clear e hm hC
    go_wp2_with fail
    go_ret
    exact ⟨by rw [E.out]; rfl, HB6.out⟩
  · have e : lateI l0 c.f4 al = mn al (rd m ((m.length : Int) - 1 - c.f4)) := by unfold lateI; rw [hm, if_neg hd]
    obtain ⟨ad, rfl, x0⟩ := Kd.at_int hC ((m.length : Int) - 1 - c.f4) (by omega) (by omega)
    have hidx : (m.length : Int) - 1 - c.f4 = (l0.length : Int) - c.f4 := by omega
    rw [hidx] at x0 e
    generalize hr : rd m ((l0.length : Int) - c.f4) = r at *
    have hd2 : ¬ (l0.length : Int) + 1 ≤ c.f4 := by omega
    have i0 : 0 ≤ (l0.length : Int) - c.f4 := by omega
    have i1 : (l0.length : Int) - c.f4 < (l0.length : Int) + 1 := by omega
    obtain ⟨j, hj⟩ : ∃ j, mn al r = j := ⟨_, rfl⟩
    rw [hj] at e
    have hj_ : (if r < al then r else al) = j := hj
    clear hidx hd hj
    have E := Lib.hid e
    clear e hm hC hr
    go_wp2_with fail
    go_ret
    exact ⟨by rw [E.out]; rfl, HB6.out⟩
end Go.Proofs.Ytojjdpbjcaedpaa.CarB
