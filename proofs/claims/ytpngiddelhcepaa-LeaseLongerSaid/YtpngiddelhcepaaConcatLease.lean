/-
  The walks of slices.Grow(nil, n) and slices.Concat of two slices.
-/
import Derived.Test.YtpngiddelhcepaaPAllx0
import Derived.Test.YtpngiddelhcepaaKit
import Derived.LoopN
namespace Go.Proofs.Ytpngiddelhcepaa.ConcatLease
open Go.RowKit Go.Proofs.Ytpngiddelhcepaa.Kit Go.Proofs.Ytpngiddelhcepaa.PAll
open Go.Proofs.YtpngiddelhcepaaW.PrintWords hiding below_alloc below_drew
set_option linter.unusedVariables false
set_option linter.unusedSimpArgs false

set_option maxRecDepth 100000 in
theorem grow_calls (n : Nat) (hn : n ≤ 100000) (w : World) :
    Calls Try.prog 36 #[.slice none 0 0, .int .i64 n] w fun e w' => ∃ v : Value, e = .returned v ∧ Kd.R k24 24 w' w.heap.size (fun _ => True) v ([] : List S24) ∧ Below w.heap.size w w' := by
  obtain ⟨i0, hi, hz⟩ := Option.map_eq_some_iff.1 info24
  have c1 := cut_to (P := Try.prog) 22 24 .i64 Try.underlying22 hi none 0 0 0 (by omega) (by omega) (by omega)
  by_cases h0 : n = 0
  · subst h0
    clear c1 hz
    go_enter Try.func36, Try.ntmps36
    go_wp2_with fail
    go_ret
    exact ⟨_, rfl, Kd.R_nil _ _ _ _ _, by repeat (first | exact Below.refl _ _ | apply below_drewN | apply below_alloc)⟩
  · have h1 : 0 < n := by omega
    have h2 : (0 : Int) < (n : Int) := by omega
    have h3 : (0 : Int) ≤ (n : Int) := by omega
    have h4 : (n : Int) ≤ 100000 := by omega
    have c2 := fun (g c : Nat) (hc : n ≤ c) => cut_to (P := Try.prog) 22 24 .i64 Try.underlying22 hi (some ⟨g, 0, none⟩) n c 0 (by omega) (by omega) hc
    have HC2 := Lib.hid c2
    have hE : Kd.R k24 24 w w.heap.size (fun _ => True) (.slice none 0 0) ([] : List S24) := Kd.R_nil _ _ _ _ _
    have HE := Lib.hid hE
    clear c2 hE h0 hz
    go_enter Try.func36, Try.ntmps36
    go_wp2_with (first | (at_builtin; (refine Kd.R_append_zeros k24 (kx := .i64) (w0 := w) w.heap.size rfl (.tmp 20) (.tmp 21) 22 3 24 (.agg #[(.int .i64 0), (.int .i64 0), (.int .i64 0), (.int .i64 0), (.int .i64 0)]) 40 rfl Try.underlying22 Try.underlying3 info24 rfl ?aD ?aW (.slice none 0 0) ([] : List S24) z24 (n : Int) (fun _ => True) rfl rfl ?aZ (fun _ _ => trivial) ?aO ?a0 ?aB ?aS ?aL ?_); (case aD => decide); (case aW => omega); (case aZ => exact (k24_mkM _ _ _ z24)); (case aO => exact HE.out); (case a0 => omega); (case aB => exact Below.refl _ _); (case aS => exact Nat.le_refl _); (case aL => simp; omega); intro v1 w1 ho hb hg hat; obtain ⟨g, cap, rfl, _, _, _⟩ := Kd.R_form ho (by simpa using h1); simp only [List.nil_append, Int.toNat_natCast, List.length_replicate] at ho ⊢; have hcap := (Kd.R_reads' ho).2.1; have HO := Lib.hid ho; have HB := Lib.hid hb; have hcut := HC2.out g cap hcap; clear ho hb hat hg))
    go_ret
    have ht := Kd.R_take (m := 0) HO.out (Nat.zero_le _)
    rw [List.take_zero] at ht
    exact ⟨_, rfl, ht, HB.out⟩

set_option maxRecDepth 100000 in
theorem concat_calls (A0 A1 : Option Addr) (c0 c1 : Nat) (l0 l1 : List S24) (B : Nat) (w : World)
    (hx0 : w.cell? ⟨B, 0, none⟩ = some (.slice A0 l0.length c0)) (hx1 : w.cell? ⟨B, 1, none⟩ = some (.slice A1 l1.length c1))
    (hr0 : Kd.C k24 w A0 l0.length l0) (hr1 : Kd.C k24 w A1 l1.length l1) (hl0 : l0.length ≤ 10000) (hl1 : l1.length ≤ 10000) :
    Calls Try.prog 25 #[.slice (some ⟨B, 0, none⟩) 2 2] w fun e w' => ∃ v : Value, e = .returned v ∧ Kd.R k24 24 w' w.heap.size (fun _ => True) v (l0 ++ l1) ∧ Below w.heap.size w w' := by
  have HR0 := Lib.hid hr0
  have HR1 := Lib.hid hr1
  have hk0 : (l0.length : Int) ≤ 10000 := by omega
  have hk1 : (l1.length : Int) ≤ 10000 := by omega
  have hz0 : (0 : Int) ≤ (l0.length : Int) := by omega
  have hz1 : (0 : Int) ≤ (l1.length : Int) := by omega
  have hz2 : (0 : Int) ≤ (l0.length : Int) + (l1.length : Int) := by omega
  have hgr := fun w => grow_calls (l0.length + l1.length) (by omega) w
  rw [Int.natCast_add] at hgr
  have HGR := Lib.hid hgr
  clear hr0 hr1 hgr
  go_enter Try.func25, Try.ntmps25
  go_wp2_with fail
  refine wp_loop_rounds 3 ?_
  rw [rounds_succ]
  go_wp2_with fail
  rw [rounds_succ]
  go_wp2_with fail
  rw [rounds_succ]
  go_wp2_with fail
  refine (HGR.out _).mono ?_
  rintro e w1 ⟨v1, rfl, ho, hb⟩
  have y0 := below_cell hb hx0
  have y1 := below_cell hb hx1
  have HO := Lib.hid ho
  have HB := Lib.hid hb
  have HX1 := Lib.hid hx1
  clear ho hb hx0 hx1
  go_wp2_with fail
  refine wp_loop_rounds 3 ?_
  rw [rounds_succ]
  go_wp2_with (first | (at_builtin; (refine Kd.R_append_rows k24 (Rr := Kd.K k24 w1) (w0 := w) w.heap.size rfl (.tmp 31) (.tmp 32) 22 24 (.agg #[(.int .i64 0), (.int .i64 0), (.int .i64 0), (.int .i64 0), (.int .i64 0)]) 40 rfl Try.underlying22 info24 rfl ?aD ?aW v1 ([] : List S24) l0 A0 l0.length c0 (fun _ => True) (fun _ => False) rfl rfl ?aO ?aR ?aK (fun _ h => h.elim) ?aF ?aB ?aS ?aL ?_); (case aD => decide); (case aW => omega); (case aO => exact HO.out); (case aR => exact Kd.C_below HR0.out HB.out); (case aK => exact (fun x cs h => by obtain rfl := k24_open h; exact k24_mkM _ _ _ x)); (case aF => exact fun _ _ => trivial); (case aB => exact HB.out); (case aS => exact HB.out.size); (case aL => simp; omega); intro v2 w2 ho2 hb2 hg2 hat2))
  have z1 := below_cell hb2 HX1.out
  have HO2 := Lib.hid ho2
  have HB2 := Lib.hid hb2
  rw [List.nil_append] at HO2
  clear ho2 hb2 hg2 hat2 y0 y1
  go_wp2_with fail
  rw [rounds_succ]
  go_wp2_with (first | (at_builtin; refine Kd.R_append_rows k24 (Rr := Kd.K k24 w2) (w0 := w) w.heap.size rfl (.tmp 31) (.tmp 32) 22 24 (.agg #[(.int .i64 0), (.int .i64 0), (.int .i64 0), (.int .i64 0), (.int .i64 0)]) 40 rfl Try.underlying22 info24 rfl ?aD ?aW v2 l0 l1 A1 l1.length c1 (fun _ => True) (fun _ => False) rfl rfl ?aO ?aR ?aK (fun _ h => h.elim) ?aF ?aB ?aS ?aL ?_; (case aD => decide); (case aW => omega); (case aO => exact HO2.out); (case aR => exact Kd.C_below HR1.out HB2.out); (case aK => exact (fun x cs h => by obtain rfl := k24_open h; exact k24_mkM _ _ _ x)); (case aF => exact fun _ _ => trivial); (case aB => exact HB2.out); (case aS => exact HB2.out.size); (case aL => omega); intro v3 w3 ho3 hb3 hg3 hat3))
  have HO3 := Lib.hid ho3
  have HB3 := Lib.hid hb3
  clear ho3 hb3 hg3 hat3 z1
  go_wp2_with fail
  rw [rounds_succ]
  go_wp2_with fail
  go_ret
  exact ⟨_, rfl, HO3.out, HB3.out⟩
end Go.Proofs.Ytpngiddelhcepaa.ConcatLease
