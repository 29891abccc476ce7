/-
  The walks of lease.inside, one, after.
-/
import Derived.Test.YtpngiddelhcepaaPAllx0
import Derived.Test.YtpngiddelhcepaaKit
import Derived.IntWalk
namespace Go.Proofs.Ytpngiddelhcepaa.LeaseWalk
open Go.RowKit Go.Proofs.Ytpngiddelhcepaa.Kit Go.Proofs.Ytpngiddelhcepaa.PAll
open Go.Proofs.YtpngiddelhcepaaW.PrintWords hiding below_alloc below_drew
set_option linter.unusedVariables false
set_option linter.unusedSimpArgs false

abbrev Ls := S24

def inI (n lo hi : Int) : Bool := decide (n ≥ lo) && decide (n ≤ hi)

theorem inside_calls (n lo hi : Int) (w : World) :
    Calls Try.prog 28 #[.int .i64 n, .int .i64 lo, .int .i64 hi] w fun e w' => e = .returned (.bool (inI n lo hi)) ∧ ∃ m, w' = w.drewN m := by
  by_cases h1 : n ≥ lo
  · have h : inI n lo hi = decide (n ≤ hi) := by unfold inI; rw [decide_eq_true h1, Bool.true_and]
    have H := Lib.hid h
    clear h
    go_enter Try.func28, Try.ntmps28
    go_wp2
    go_ret
    exact ⟨by rw [H.out]; rfl, 0, rfl⟩
  · have h : inI n lo hi = false := by unfold inI; rw [decide_eq_false h1, Bool.false_and]
    have H := Lib.hid h
    clear h
    go_enter Try.func28, Try.ntmps28
    go_wp2
    go_ret
    exact ⟨by rw [H.out]; rfl, 0, rfl⟩

/-- A lease is valid. -/
def oneL (x : Ls) : Bool := inI x.f0 1 1000000 && (inI x.f1 0 15 && (inI x.f2 0 80 && (inI x.f3 0 1000000 && inI x.f4 1 1000)))

def lv (x : Ls) : Value := .agg #[.int .i64 x.f0, .int .i64 x.f1, .int .i64 x.f2, .int .i64 x.f3, .int .i64 x.f4]

theorem one_calls (x : Ls) (w : World) :
    Calls Try.prog 23 #[.agg #[.int .i64 x.f0, .int .i64 x.f1, .int .i64 x.f2, .int .i64 x.f3, .int .i64 x.f4]] w fun e w' => e = .returned (.bool (oneL x)) ∧ Below w.heap.size w w' := by
  have h0 := fun w => inside_calls x.f0 1 1000000 w
  have h1 := fun w => inside_calls x.f1 0 15 w
  have h2 := fun w => inside_calls x.f2 0 80 w
  have h3 := fun w => inside_calls x.f3 0 1000000 w
  have h4 := fun w => inside_calls x.f4 1 1000 w
  cases b0 : inI x.f0 1 1000000
  · have hr : oneL x = false := by unfold oneL; rw [b0]; rfl
    rw [b0] at h0
    clear b0
    have H0 := Lib.hid h0
    have HR := Lib.hid hr
    clear h0 h1 h2 h3 h4 hr
    go_enter Try.func23, Try.ntmps23
    go_wp2_with fail
    refine (H0.out _).mono ?_
    rintro e w1 ⟨rfl, m0, rfl⟩
    go_wp2_with fail
    go_ret
    exact ⟨by rw [HR.out]; rfl, below_drewN (below_alloc (Below.refl _ _) _) _⟩
  · skip
    cases b1 : inI x.f1 0 15
    · have hr : oneL x = false := by unfold oneL; rw [b0, b1]; rfl
      rw [b0] at h0
      rw [b1] at h1
      clear b0 b1
      have H0 := Lib.hid h0
      have H1 := Lib.hid h1
      have HR := Lib.hid hr
      clear h0 h1 h2 h3 h4 hr
      go_enter Try.func23, Try.ntmps23
      go_wp2_with fail
      refine (H0.out _).mono ?_
      rintro e w1 ⟨rfl, m0, rfl⟩
      go_wp2_with fail
      refine (H1.out _).mono ?_
      rintro e w1 ⟨rfl, m1, rfl⟩
      go_wp2_with fail
      go_ret
      exact ⟨by rw [HR.out]; rfl, below_drewN (below_alloc (Below.refl _ _) _) _⟩
    · skip
      cases b2 : inI x.f2 0 80
      · have hr : oneL x = false := by unfold oneL; rw [b0, b1, b2]; rfl
        rw [b0] at h0
        rw [b1] at h1
        rw [b2] at h2
        clear b0 b1 b2
        have H0 := Lib.hid h0
        have H1 := Lib.hid h1
        have H2 := Lib.hid h2
        have HR := Lib.hid hr
        clear h0 h1 h2 h3 h4 hr
        go_enter Try.func23, Try.ntmps23
        go_wp2_with fail
        refine (H0.out _).mono ?_
        rintro e w1 ⟨rfl, m0, rfl⟩
        go_wp2_with fail
        refine (H1.out _).mono ?_
        rintro e w1 ⟨rfl, m1, rfl⟩
        go_wp2_with fail
        refine (H2.out _).mono ?_
        rintro e w1 ⟨rfl, m2, rfl⟩
        go_wp2_with fail
        go_ret
        exact ⟨by rw [HR.out]; rfl, below_drewN (below_alloc (Below.refl _ _) _) _⟩
      · skip
        cases b3 : inI x.f3 0 1000000
        · have hr : oneL x = false := by unfold oneL; rw [b0, b1, b2, b3]; rfl
          rw [b0] at h0
          rw [b1] at h1
          rw [b2] at h2
          rw [b3] at h3
          clear b0 b1 b2 b3
          have H0 := Lib.hid h0
          have H1 := Lib.hid h1
          have H2 := Lib.hid h2
          have H3 := Lib.hid h3
          have HR := Lib.hid hr
          clear h0 h1 h2 h3 h4 hr
          go_enter Try.func23, Try.ntmps23
          go_wp2_with fail
          refine (H0.out _).mono ?_
          rintro e w1 ⟨rfl, m0, rfl⟩
          go_wp2_with fail
          refine (H1.out _).mono ?_
          rintro e w1 ⟨rfl, m1, rfl⟩
          go_wp2_with fail
          refine (H2.out _).mono ?_
          rintro e w1 ⟨rfl, m2, rfl⟩
          go_wp2_with fail
          refine (H3.out _).mono ?_
          rintro e w1 ⟨rfl, m3, rfl⟩
          go_wp2_with fail
          go_ret
          exact ⟨by rw [HR.out]; rfl, below_drewN (below_alloc (Below.refl _ _) _) _⟩
        · skip
          cases b4 : inI x.f4 1 1000
          · have hr : oneL x = false := by unfold oneL; rw [b0, b1, b2, b3, b4]; rfl
            rw [b0] at h0
            rw [b1] at h1
            rw [b2] at h2
            rw [b3] at h3
            rw [b4] at h4
            clear b0 b1 b2 b3 b4
            have H0 := Lib.hid h0
            have H1 := Lib.hid h1
            have H2 := Lib.hid h2
            have H3 := Lib.hid h3
            have H4 := Lib.hid h4
            have HR := Lib.hid hr
            clear h0 h1 h2 h3 h4 hr
            go_enter Try.func23, Try.ntmps23
            go_wp2_with fail
            refine (H0.out _).mono ?_
            rintro e w1 ⟨rfl, m0, rfl⟩
            go_wp2_with fail
            refine (H1.out _).mono ?_
            rintro e w1 ⟨rfl, m1, rfl⟩
            go_wp2_with fail
            refine (H2.out _).mono ?_
            rintro e w1 ⟨rfl, m2, rfl⟩
            go_wp2_with fail
            refine (H3.out _).mono ?_
            rintro e w1 ⟨rfl, m3, rfl⟩
            go_wp2_with fail
            refine (H4.out _).mono ?_
            rintro e w1 ⟨rfl, m4, rfl⟩
            go_wp2_with fail
            go_ret
            exact ⟨by rw [HR.out]; rfl, below_drewN (below_alloc (Below.refl _ _) _) _⟩
          · have hr : oneL x = true := by unfold oneL; rw [b0, b1, b2, b3, b4]; rfl
            rw [b0] at h0
            rw [b1] at h1
            rw [b2] at h2
            rw [b3] at h3
            rw [b4] at h4
            clear b0 b1 b2 b3 b4
            have H0 := Lib.hid h0
            have H1 := Lib.hid h1
            have H2 := Lib.hid h2
            have H3 := Lib.hid h3
            have H4 := Lib.hid h4
            have HR := Lib.hid hr
            clear h0 h1 h2 h3 h4 hr
            go_enter Try.func23, Try.ntmps23
            go_wp2_with fail
            refine (H0.out _).mono ?_
            rintro e w1 ⟨rfl, m0, rfl⟩
            go_wp2_with fail
            refine (H1.out _).mono ?_
            rintro e w1 ⟨rfl, m1, rfl⟩
            go_wp2_with fail
            refine (H2.out _).mono ?_
            rintro e w1 ⟨rfl, m2, rfl⟩
            go_wp2_with fail
            refine (H3.out _).mono ?_
            rintro e w1 ⟨rfl, m3, rfl⟩
            go_wp2_with fail
            refine (H4.out _).mono ?_
            rintro e w1 ⟨rfl, m4, rfl⟩
            go_wp2_with fail
            go_ret
            exact ⟨by rw [HR.out]; rfl, below_drewN (below_alloc (Below.refl _ _) _) _⟩

/-- A lease can follow another one. -/
def afterL (x y : Ls) : Bool := decide (x.f0 > y.f0) && decide (x.f3 ≥ y.f3)
theorem after_calls (x y : Ls) (w : World) :
    Calls Try.prog 24 #[.agg #[.int .i64 x.f0, .int .i64 x.f1, .int .i64 x.f2, .int .i64 x.f3, .int .i64 x.f4], .agg #[.int .i64 y.f0, .int .i64 y.f1, .int .i64 y.f2, .int .i64 y.f3, .int .i64 y.f4]] w fun e w' => e = .returned (.bool (afterL x y)) ∧ Below w.heap.size w w' := by
  by_cases h1 : x.f0 > y.f0
  · have h : afterL x y = decide (x.f3 ≥ y.f3) := by unfold afterL; rw [decide_eq_true h1, Bool.true_and]
    have H := Lib.hid h
    clear h
    go_enter Try.func24, Try.ntmps24
    go_wp2_with fail
    go_ret
    exact ⟨by rw [H.out]; rfl, by repeat (first | exact Below.refl _ _ | apply below_drewN | apply below_alloc)⟩
  · have h : afterL x y = false := by unfold afterL; rw [decide_eq_false h1, Bool.false_and]
    have H := Lib.hid h
    clear h
    go_enter Try.func24, Try.ntmps24
    go_wp2_with fail
    go_ret
    exact ⟨by rw [H.out]; rfl, by repeat (first | exact Below.refl _ _ | apply below_drewN | apply below_alloc)⟩
end Go.Proofs.Ytpngiddelhcepaa.LeaseWalk
