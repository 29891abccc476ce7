/-
  The walks of package flash (1): what bytes become, bytes.Clone.
-/
import Derived.Test.YtdblbilgnfomaaaPAllx0
import Derived.Test.YtdblbilgnfomaaaKit
import Derived.IntWalk
import Derived.Lib.LazyBuf
namespace Go.Proofs.Ytdblbilgnfomaaa.FlashA
open Go.RowKit Go.Proofs.Ytdblbilgnfomaaa.Kit Go.Proofs.Ytdblbilgnfomaaa.PAll
open Go.Proofs.YtdblbilgnfomaaaW.PrintWords hiding below_alloc below_drew
set_option linter.unusedVariables false
set_option linter.unusedSimpArgs false

/-! what a byte becomes -/
theorem erased_calls (i old : Int) (w : World) : Calls Try.prog 30 #[.int .i64 i, .int .u8 old] w fun e w' => e = .returned (.int .u8 255) ∧ w' = w := by
  go_enter Try.func30, Try.ntmps30
  go_wp2
  go_ret
  exact ⟨rfl, rfl⟩
theorem cleared_calls (Bd : Nat) (ad : Addr) (cd : Nat) (data : List Int) (i old : Int) (w : World) (hb : w.cell? ⟨Bd, 0, none⟩ = some (.slice (some ad) data.length cd)) (hr : Kd.C (Kd.int .u8) w (some ad) data.length data) (h0 : 0 ≤ i) (h1 : i < data.length) :
    Calls Try.prog 26 #[.int .i64 i, .int .u8 old, .pointer (some ⟨Bd, 0, none⟩)] w fun e w' => e = .returned (.int .u8 (Go.bits .and .u8 old (rd data i))) ∧ w' = w := by
  obtain ⟨ad', e, x0⟩ := Kd.at_int hr i h0 h1
  have e := Option.some.inj e
  subst e
  generalize rd data i = r at *
  clear hr
  go_enter Try.func26, Try.ntmps26
  go_wp2
  go_ret
  exact ⟨rfl, rfl⟩

set_option maxRecDepth 100000 in
theorem clone_calls (ad : Addr) (c0 : Nat) (l0 : List Int) (w : World) (hr0 : Kd.C (Kd.int .u8) w (some ad) l0.length l0) (hl : l0.length ≤ 100000) :
    Calls Try.prog 34 #[.slice (some ad) l0.length c0] w fun e w' => ∃ v : Value, e = .returned v ∧ Kd.R (Kd.int .u8) 5 w' w.heap.size (fun _ => True) v l0 ∧ Below w.heap.size w w' := by
  have hE : Kd.R (Kd.int .u8) 5 (w.alloc (.cells #[] 5)) w.heap.size (fun _ => True) (.slice (some ⟨w.heap.size, 0, none⟩) 0 0) ([] : List Int) := ⟨fun _ _ => trivial, [], World.ownsRow_made w #[] 0 (Nat.le_refl _) (by decide) rfl, Reps.none _ _⟩
  have HR := Lib.hid hr0
  have HE := Lib.hid hE
  have HB := Lib.hid (show Below w.heap.size w (w.alloc (.cells #[] 5)) from below_alloc (Below.refl _ _) _)
  have hnil := fun W => Go.run_eql_slice_nil (P := Try.prog) W 22 5 (some ad) l0.length c0 Try.underlying22
  simp only [Option.isNone_some] at hnil
  clear hr0 hE
  go_enter Try.func34, Try.ntmps34
  go_wp2_with (first | (at_builtin; (refine Kd.R_append_rows (Kd.int .u8) (Rr := Kd.K (Kd.int .u8) (w.alloc (.cells #[] 5))) (w0 := w) w.heap.size rfl (.tmp 5) (.tmp 6) 22 5 (.int .u8 0) 1 rfl Try.underlying22 info5 rfl ?aD ?aW (.slice (some ⟨w.heap.size, 0, none⟩) 0 0) ([] : List Int) l0 (some ad) l0.length c0 (fun _ => True) (fun _ => False) rfl rfl ?aO ?aR ?aK (fun _ h => h.elim) ?aF ?aB ?aS ?aL ?_); (case aD => decide); (case aW => omega); (case aO => exact HE.out); (case aR => exact Kd.C_below HR.out HB.out); (case aK => exact (fun _ _ h => h)); (case aF => exact fun _ _ => trivial); (case aB => exact HB.out); (case aS => exact HB.out.size); (case aL => simp; omega); intro v2 w2 ho2 hb2 hg2 hat2))
  rw [List.nil_append] at ho2
  have HO2 := Lib.hid ho2
  have HB2 := Lib.hid hb2
  clear ho2 hb2 hg2 hat2
  go_wp2_with fail
  go_ret
  exact ⟨v2, rfl, HO2.out, HB2.out⟩

/-! steps: the iterator's value, with its four boxes -/
theorem steps_calls (S : Int) (A0 : Option Addr) (c0 : Nat) (l0 : List Int) (at_ many : Int) (fn : Fn) (f1 f2 : Array Value) (w : World) :
    Calls Try.prog 28 #[.agg #[.int .i64 S, .slice A0 l0.length c0], .int .i64 at_, .int .i64 many, .func fn f1 f2] w fun e w' => ∃ B, w.heap.size ≤ B ∧
      e = .returned (.func (.func 33) #[] #[.pointer (some ⟨B, 0, none⟩), .pointer (some ⟨B + 1 + 1, 0, none⟩), .pointer (some ⟨B + 1 + 1 + 1, 0, none⟩), .pointer (some ⟨B + 1, 0, none⟩)]) ∧
      w'.heap[B]? = some (.cells #[.int .i64 S, .slice A0 l0.length c0] 24 (0, 0)) ∧ w'.heap[B + 1]? = some (.cells #[.int .i64 at_] 3 (0, 0)) ∧ w'.heap[B + 1 + 1]? = some (.cells #[.int .i64 many] 3 (0, 0)) ∧
      w'.heap[B + 1 + 1 + 1]? = some (.cells #[.func fn f1 f2] 50 (0, 0)) ∧ Below w.heap.size w w' := by
  have a1 := blk_new w (.cells #[.int .i64 S, .slice A0 l0.length c0] 24)
  have a2 := blk_new (w.alloc (.cells #[.int .i64 S, .slice A0 l0.length c0] 24)) (.cells #[.int .i64 at_] 3)
  have a3 := blk_new ((w.alloc (.cells #[.int .i64 S, .slice A0 l0.length c0] 24)).alloc (.cells #[.int .i64 at_] 3)) (.cells #[.int .i64 many] 3)
  have a4 := blk_new (((w.alloc (.cells #[.int .i64 S, .slice A0 l0.length c0] 24)).alloc (.cells #[.int .i64 at_] 3)).alloc (.cells #[.int .i64 many] 3)) (.cells #[.func fn f1 f2] 50)
  simp only [World.size_alloc] at a2 a3 a4
  have A1 := Lib.hid a1
  have A2 := Lib.hid a2
  have A3 := Lib.hid a3
  have A4 := Lib.hid a4
  clear a1 a2 a3 a4
  go_enter Try.func28, Try.ntmps28
  go_wp2
  go_ret
  exact ⟨w.heap.size, Nat.le_refl _, rfl, blk_alloc (blk_alloc (blk_alloc A1.out _) _) _, blk_alloc (blk_alloc A2.out _) _, blk_alloc A3.out _, A4.out, by repeat (first | exact Below.refl _ _ | apply below_alloc)⟩
end Go.Proofs.Ytdblbilgnfomaaa.FlashA
