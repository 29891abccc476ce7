/-
  The contracts of clock.Wait and clock.Early: closed forms.
-/
import Derived.Test.YtfkehboecnoaiaaClockWalk
namespace Go.Proofs.Ytfkehboecnoaiaa.ClockExt
open Go.RowKit Go.Proofs.Ytfkehboecnoaiaa.Kit Go.Proofs.Ytfkehboecnoaiaa.ClockWalk
set_option linter.unusedVariables false

def waitF (a0 : Int) : Option (Int × Int) := if 0 ≤ a0 ∧ a0 ≤ 1000000 then some ((a0 * 1000000 + 999799) / 999800, 0) else some (0, 1)
def earlyF (a0 : Int) : Option (Int × Int) := if 0 ≤ a0 ∧ a0 ≤ 1000000 then some (if a0 = 0 then 0 else (a0 - 1) * 1000000 / 1000200 + 1, 0) else some (0, 1)

theorem wait_calls (a0 r1 r2 : Int) (w : World) (h : waitF a0 = some (r1, r2)) :
    Calls Try.prog 13 #[.int .i64 a0] w (fun e w' => e = .returned (.tuple #[.int .i64 r1, .int .i64 r2]) ∧ Below w.heap.size w w') := by
  unfold waitF at h
  by_cases c : 0 ≤ a0 ∧ a0 ≤ 1000000
  · rw [if_pos c] at h
    obtain ⟨n, hn⟩ : ∃ n : Nat, (n : Int) = (a0 * 1000000 + 999799) / 999800 := ⟨((a0 * 1000000 + 999799) / 999800).toNat, by omega⟩
    rw [← hn] at h
    obtain ⟨rfl, rfl⟩ : (n : Int) = r1 ∧ 0 = r2 := by simpa using h
    have hL := least_good 21 (fun t => t * 999800 / 1000000) 999800 a0 n w c.1 c.2
      (fun t W h0 h1 => (down_c 999800 t W (by omega) (by omega) h0 (by omega)).mono fun _ _ ⟨he, hw⟩ => ⟨he, 0, hw ▸ rfl⟩)
      (enters_of Try.func21 (by kernel_rfl) rfl) (by omega) (fun i hi => by show (i : Int) * 999800 / 1000000 < a0; omega) (fun i h1 h2 => by show a0 ≤ (i : Int) * 999800 / 1000000; omega)
    have HL := Lib.hid hL
    clear hL hn h
    go_enter Try.func13, Try.ntmps13
    go_wp2_with (go_at_call 23; refine HL.out.mono ?_; rintro e w' ⟨rfl, hb⟩)
    go_ret2
    exact ⟨rfl, hb⟩
  · rw [if_neg c] at h
    obtain ⟨rfl, rfl⟩ : 0 = r1 ∧ 1 = r2 := by simpa using h
    have hL := least_bad 21 999800 a0 w (by omega)
    have HL := Lib.hid hL
    clear hL h
    go_enter Try.func13, Try.ntmps13
    go_wp2_with (go_at_call 23; refine HL.out.mono ?_; rintro e w' ⟨rfl, hb⟩)
    go_ret2
    exact ⟨rfl, hb⟩

theorem early_calls (a0 r1 r2 : Int) (w : World) (h : earlyF a0 = some (r1, r2)) :
    Calls Try.prog 15 #[.int .i64 a0] w (fun e w' => e = .returned (.tuple #[.int .i64 r1, .int .i64 r2]) ∧ Below w.heap.size w w') := by
  unfold earlyF at h
  by_cases c : 0 ≤ a0 ∧ a0 ≤ 1000000
  · rw [if_pos c] at h
    obtain ⟨n, hn⟩ : ∃ n : Nat, (n : Int) = (if a0 = 0 then 0 else (a0 - 1) * 1000000 / 1000200 + 1) := ⟨(if a0 = 0 then 0 else (a0 - 1) * 1000000 / 1000200 + 1).toNat, by split <;> omega⟩
    rw [← hn] at h
    obtain ⟨rfl, rfl⟩ : (n : Int) = r1 ∧ 0 = r2 := by simpa using h
    have hL := least_good 24 (fun t => (t * 1000200 + 999999) / 1000000) 1000200 a0 n w c.1 c.2
      (fun t W h0 h1 => (up_c 1000200 t W (by omega) (by omega) h0 (by omega)).mono fun _ _ ⟨he, hw⟩ => ⟨he, 0, hw ▸ rfl⟩)
      (enters_of Try.func24 (by kernel_rfl) rfl) (by split at hn <;> omega) (fun i hi => by show ((i : Int) * 1000200 + 999999) / 1000000 < a0; split at hn <;> omega) (fun i h1 h2 => by show a0 ≤ ((i : Int) * 1000200 + 999999) / 1000000; split at hn <;> omega)
    have HL := Lib.hid hL
    clear hL hn h
    go_enter Try.func15, Try.ntmps15
    go_wp2_with (go_at_call 23; refine HL.out.mono ?_; rintro e w' ⟨rfl, hb⟩)
    go_ret2
    exact ⟨rfl, hb⟩
  · rw [if_neg c] at h
    obtain ⟨rfl, rfl⟩ : 0 = r1 ∧ 1 = r2 := by simpa using h
    have hL := least_bad 24 1000200 a0 w (by omega)
    have HL := Lib.hid hL
    clear hL h
    go_enter Try.func15, Try.ntmps15
    go_wp2_with (go_at_call 23; refine HL.out.mono ?_; rintro e w' ⟨rfl, hb⟩)
    go_ret2
    exact ⟨rfl, hb⟩
end Go.Proofs.Ytfkehboecnoaiaa.ClockExt
