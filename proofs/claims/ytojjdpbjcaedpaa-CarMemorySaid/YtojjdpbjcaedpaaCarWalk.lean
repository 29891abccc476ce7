/-
  The walks of what car.Draw calls.
-/
import Derived.Test.YtojjdpbjcaedpaaConcatInt
import Derived.IntWalk
import Derived.Deep.RegionHeld3
import Derived.Maps.OwnOps
import Derived.Lib.LazyBuf
import Derived.ChangeArms
namespace Go.Proofs.Ytojjdpbjcaedpaa.CarWalk
open Go.RowKit Go.Proofs.Ytojjdpbjcaedpaa.Kit Go.Proofs.Ytojjdpbjcaedpaa.PAll
open Go.Proofs.YtojjdpbjcaedpaaW.PrintWords hiding below_alloc below_drew
set_option linter.unusedVariables false
set_option linter.unusedSimpArgs false

abbrev Car := S23
/-- A car that is plugged in, as a value. -/
def pv (c : Car) (A : Option Addr) (l : List Int) (cp : Nat) (ticks got : Int) : Value := .agg #[.int .i64 c.f0, .int .i64 c.f1, .int .i64 c.f2, .int .i64 c.f3, .int .i64 c.f4, .slice A l.length cp, .int .i64 ticks, .int .i64 got]

def wrongI (n : Int) : Bool := decide (n < 0) || decide (n > 80)
theorem wrong_calls (n : Int) (w : World) : Calls Try.prog 19 #[.int .i64 n] w fun e w' => e = .returned (.bool (wrongI n)) ∧ w' = w := by
  by_cases h : n < 0
  · have e : wrongI n = true := by unfold wrongI; rw [decide_eq_true h]; rfl
    have E := Lib.hid e
    clear e
    go_enter Try.func19, Try.ntmps19
    go_wp2
    go_ret
    exact ⟨by rw [E.out]; rfl, rfl⟩
  · have e : wrongI n = decide (n > 80) := by unfold wrongI; rw [decide_eq_false h, Bool.false_or]
    have E := Lib.hid e
    clear e
    go_enter Try.func19, Try.ntmps19
    go_wp2
    go_ret
    exact ⟨by rw [E.out]; rfl, rfl⟩

def anyWrong (l : List Int) : Bool := l.any wrongI
set_option maxRecDepth 100000 in
set_option maxHeartbeats 1000000 in
theorem index_calls (A0 : Option Addr) (c0 : Nat) (l0 : List Int) (w : World) (hr0 : Kd.C (Kd.int .i64) w A0 l0.length l0) (hl : l0.length ≤ 1000) :
    Calls Try.prog 36 #[.slice A0 l0.length c0, .func (.func 19) #[] #[]] w
      fun e w' => (∃ i : Int, e = .returned (.int .i64 i) ∧ decide (0 ≤ i) = anyWrong l0) ∧ ∃ n, w' = w.drewN n := by
  have HR := Lib.hid hr0
  clear hr0
  go_enter Try.func36, Try.ntmps36
  go_wp2_with fail
  go_loop [8] (fun s8 => ∃ k : Nat, k ≤ l0.length ∧ s8 = .int .i64 k ∧ Hid (anyWrong (l0.take k) = false)) (fun s8 => l0.length - (intOf s8).toNat)
  case atStart => exact ⟨0, Nat.zero_le _, rfl, by exact rfl⟩
  case round =>
    obtain ⟨k, hk, rfl, HF⟩ := hrel
    by_cases hlt : k < l0.length
    · obtain ⟨ad, rfl, x0⟩ := Kd.at_int HR.out k (Int.natCast_nonneg _) (by omega)
      have hr : l0[k]? = some (rd l0 (k : Int)) := by
        unfold rd
        rw [List.getD_eq_getElem?_getD, Int.toNat_natCast, List.getElem?_eq_getElem hlt]; rfl
      generalize rd l0 (k : Int) = r at *
      simp only [Int.toNat_natCast] at x0
      have htk : l0.take (k + 1) = l0.take k ++ [r] := by rw [List.take_add_one, hr]; rfl
      have hmem := List.mem_of_getElem? hr
      have j0 : (0 : Int) ≤ (k : Int) := Int.natCast_nonneg _
      have j1 : (k : Int) < (l0.length : Int) := by omega
      have hcall := fun W => wrong_calls r W
      cases b : wrongI r
      · rw [b] at hcall
        have hF : anyWrong (l0.take (k + 1)) = false := by rw [htk]; unfold anyWrong at HF ⊢; rw [List.any_append, HF.out]; simp [b]
        have HCALL := Lib.hid hcall
        have HF2 := Lib.hid hF
        clear hcall hF b htk hmem hr
        go_wp2_with fail
        refine (HCALL.out _).mono ?_
        rintro e w1 ⟨rfl, rfl⟩
        go_wp2_with fail
        go_round
        case rel => exact ⟨k + 1, by omega, by go_num, HF2⟩
        case measure => simp [intOf]; omega
      · rw [b] at hcall
        have hF : anyWrong l0 = true := by unfold anyWrong; rw [List.any_eq_true]; exact ⟨r, hmem, b⟩
        have HCALL := Lib.hid hcall
        have HF2 := Lib.hid hF
        clear hcall hF b htk hmem hr
        go_wp2_with fail
        refine (HCALL.out _).mono ?_
        rintro e w1 ⟨rfl, rfl⟩
        go_wp2_with fail
        go_ret
        exact ⟨⟨_, rfl, by rw [HF2.out]; simp⟩, 0, rfl⟩
    · obtain rfl : k = l0.length := by omega
      have hF := HF.out
      rw [List.take_length] at hF
      have HF2 := Lib.hid hF
      clear hF
      go_wp2_with fail
      go_ret
      exact ⟨⟨_, rfl, by rw [HF2.out]; rfl⟩, 0, rfl⟩

theorem contains_calls (A0 : Option Addr) (c0 : Nat) (l0 : List Int) (w : World) (hr0 : Kd.C (Kd.int .i64) w A0 l0.length l0) (hl : l0.length ≤ 1000) :
    Calls Try.prog 28 #[.slice A0 l0.length c0, .func (.func 19) #[] #[]] w
      fun e w' => e = .returned (.bool (anyWrong l0)) ∧ ∃ n, w' = w.drewN n := by
  have hI := index_calls A0 c0 l0 w hr0 hl
  have HI := Lib.hid hI
  clear hI hr0
  go_enter Try.func28, Try.ntmps28
  go_wp2_with fail
  refine HI.out.mono ?_
  rintro e w1 ⟨⟨i, rfl, hi⟩, n, rfl⟩
  have HII := Lib.hid hi
  clear hi
  go_wp2_with fail
  go_ret
  exact ⟨by rw [← HII.out]; rfl, n, rfl⟩

/-! remembers -/
def remP (l : List Int) (ticks got : Int) : Bool := decide (l.length ≤ 21) && (!anyWrong l && (decide (0 ≤ ticks) && (decide (ticks ≤ 1000000) && (decide (0 ≤ got) && decide (got ≤ 2000000000)))))
set_option maxRecDepth 100000 in
set_option maxHeartbeats 1000000 in
theorem remembers_calls (c : Car) (A0 : Option Addr) (c0 : Nat) (l0 : List Int) (ticks got : Int) (w : World) (hr0 : Kd.C (Kd.int .i64) w A0 l0.length l0) :
    Calls Try.prog 18 #[.agg #[.int .i64 c.f0, .int .i64 c.f1, .int .i64 c.f2, .int .i64 c.f3, .int .i64 c.f4, .slice A0 l0.length c0, .int .i64 ticks, .int .i64 got]] w
      fun e w' => e = .returned (.bool (remP l0 ticks got)) ∧ Below w.heap.size w w' := by
  have HR := Lib.hid hr0
  clear hr0
  by_cases h1 : l0.length ≤ 21
  · have h1' : (l0.length : Int) ≤ 21 := by omega
    have hcc := fun W hr => contains_calls A0 c0 l0 W hr (by omega)
    cases b : anyWrong l0
    · rw [b] at hcc
      have HCC := Lib.hid hcc
      clear hcc
      by_cases h2 : 0 ≤ ticks
      · by_cases h3 : ticks ≤ 1000000
        · by_cases h4 : 0 ≤ got
          · have e : remP l0 ticks got = decide (got ≤ 2000000000) := by unfold remP; rw [decide_eq_true h1, b, decide_eq_true h2, decide_eq_true h3, decide_eq_true h4]; rfl
            have E := Lib.hid e
            clear e b
            go_enter Try.func18, Try.ntmps18
            go_wp2_with fail
            refine (HCC.out _ (Kd.C_alloc (Kd.C_alloc HR.out _) _)).mono ?_
            rintro e w1 ⟨rfl, n, rfl⟩
            go_wp2_with fail
            go_ret
            exact ⟨by rw [E.out]; rfl, by repeat (first | exact Below.refl _ _ | apply below_drewN | apply below_alloc)⟩
          · have e : remP l0 ticks got = false := by unfold remP; rw [decide_eq_true h1, b, decide_eq_true h2, decide_eq_true h3, decide_eq_false h4]; rfl
            have E := Lib.hid e
            clear e b
            go_enter Try.func18, Try.ntmps18
            go_wp2_with fail
            refine (HCC.out _ (Kd.C_alloc (Kd.C_alloc HR.out _) _)).mono ?_
            rintro e w1 ⟨rfl, n, rfl⟩
            go_wp2_with fail
            go_ret
            exact ⟨by rw [E.out]; rfl, by repeat (first | exact Below.refl _ _ | apply below_drewN | apply below_alloc)⟩
        · have e : remP l0 ticks got = false := by unfold remP; rw [decide_eq_true h1, b, decide_eq_true h2, decide_eq_false h3]; rfl
          have E := Lib.hid e
          clear e b
          go_enter Try.func18, Try.ntmps18
          go_wp2_with fail
          refine (HCC.out _ (Kd.C_alloc (Kd.C_alloc HR.out _) _)).mono ?_
          rintro e w1 ⟨rfl, n, rfl⟩
          go_wp2_with fail
          go_ret
          exact ⟨by rw [E.out]; rfl, by repeat (first | exact Below.refl _ _ | apply below_drewN | apply below_alloc)⟩
      · have e : remP l0 ticks got = false := by unfold remP; rw [decide_eq_true h1, b, decide_eq_false h2]; rfl
        have E := Lib.hid e
        clear e b
        go_enter Try.func18, Try.ntmps18
        go_wp2_with fail
        refine (HCC.out _ (Kd.C_alloc (Kd.C_alloc HR.out _) _)).mono ?_
        rintro e w1 ⟨rfl, n, rfl⟩
        go_wp2_with fail
        go_ret
        exact ⟨by rw [E.out]; rfl, by repeat (first | exact Below.refl _ _ | apply below_drewN | apply below_alloc)⟩
    · rw [b] at hcc
      have HCC := Lib.hid hcc
      have e : remP l0 ticks got = false := by unfold remP; rw [decide_eq_true h1, b]; rfl
      have E := Lib.hid e
      clear hcc e b
      go_enter Try.func18, Try.ntmps18
      go_wp2_with fail
      refine (HCC.out _ (Kd.C_alloc (Kd.C_alloc HR.out _) _)).mono ?_
      rintro e w1 ⟨rfl, n, rfl⟩
      go_wp2_with fail
      go_ret
      exact ⟨by rw [E.out]; rfl, by repeat (first | exact Below.refl _ _ | apply below_drewN | apply below_alloc)⟩
  · have e : remP l0 ticks got = false := by unfold remP; rw [decide_eq_false h1]; rfl
    have E := Lib.hid e
    have h1' : ¬ (l0.length : Int) ≤ 21 := by omega
    have h2' : (21 : Int) < (l0.length : Int) := by omega
    have h3' : 21 < l0.length := by omega
    clear e h1
    go_enter Try.func18, Try.ntmps18
    go_wp2_with fail
    go_ret
    exact ⟨by rw [E.out]; rfl, by repeat (first | exact Below.refl _ _ | apply below_drewN | apply below_alloc)⟩
end Go.Proofs.Ytojjdpbjcaedpaa.CarWalk
