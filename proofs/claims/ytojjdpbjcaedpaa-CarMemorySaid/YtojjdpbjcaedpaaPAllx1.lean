-- Written by a program of this session (xprint.py, over the kit's print.py), with contracts proved by hand.
import Derived.Test.YtojjdpbjcaedpaaPAllx0
import Derived.Test.YtojjdpbjcaedpaaCarExt
namespace Go.Proofs.Ytojjdpbjcaedpaa.PAll
open Go.RowKit Go.Proofs.Ytojjdpbjcaedpaa.Open Go.Proofs.YtojjdpbjcaedpaaW.PrintWords Go.Proofs.YtojjdpbjcaedpaaW.PrintLast Go.Proofs.YtojjdpbjcaedpaaW.PrintMore
attribute [local go_sem] max2_int min2_int max_two min_two max_three min_three max_four min_four   -- for this text's walks alone
set_option linter.unusedVariables false
set_option linter.unusedSimpArgs false

/-! ### car_Draw: function 11 -/
def car_Draw.f (a0_0 a0_1 a0_2 a0_3 a0_4 : Int) (l1_0 : List Int) (a1_1 a1_2 a2 a3 : Int) : Option (Int × Int × List Int × Int × Int × Int) := Go.Proofs.Ytojjdpbjcaedpaa.CarExt.drawF a0_0 a0_1 a0_2 a0_3 a0_4 l1_0 a1_1 a1_2 a2 a3
theorem car_Draw.calls (a0_0 : Int) (a0_1 : Int) (a0_2 : Int) (a0_3 : Int) (a0_4 : Int) (A1_0 : Option Addr) (c1_0 : Nat) (l1_0 : List Int) (a1_1 : Int) (a1_2 : Int) (a2 : Int) (a3 : Int) (r1 : Int) (r2 : Int) (r3 : List Int) (r4 : Int) (r5 : Int) (r6 : Int) (w : World) (hr1_0 : Kd.C (Kd.int .i64) w A1_0 l1_0.length l1_0) (hc1_0 : l1_0.length ≤ c1_0) (h : car_Draw.f a0_0 a0_1 a0_2 a0_3 a0_4 l1_0 a1_1 a1_2 a2 a3 = some (r1, r2, r3, r4, r5, r6)) :
    Calls Try.prog 11 #[.agg #[.int .i64 a0_0, .int .i64 a0_1, .int .i64 a0_2, .int .i64 a0_3, .int .i64 a0_4], .agg #[.slice A1_0 l1_0.length c1_0, .int .i64 a1_1, .int .i64 a1_2], .int .i64 a2, .int .i64 a3] w fun e w' => ∃ v2_ : Value, e = .returned (.tuple #[.int .i64 r1, .int .i64 r2, .agg #[v2_, .int .i64 r4, .int .i64 r5], .int .i64 r6]) ∧ Kd.Q (Kd.int .i64) 3 w' w.heap.size (fun _ => True) v2_ r3 ∧ Below w.heap.size w w' :=
  Go.Proofs.Ytojjdpbjcaedpaa.CarExt.draw_ext a0_0 a0_1 a0_2 a0_3 a0_4 A1_0 c1_0 l1_0 a1_1 a1_2 a2 a3 r1 r2 r3 r4 r5 r6 w hr1_0 hc1_0 h

end Go.Proofs.Ytojjdpbjcaedpaa.PAll
