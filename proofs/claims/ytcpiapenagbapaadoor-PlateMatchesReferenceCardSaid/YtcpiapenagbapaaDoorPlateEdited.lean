/-
  The walk of the law's edited, for plates.
-/
import Derived.Test.YtcpiapenagbapaaDoorPlateTwin
import Derived.Laws.BytesArg
import Derived.Deep.RegionLaw
import Derived.Deep.RegionHeld3
import Derived.Laws.BytesString
import Derived.BigRegion
import Derived.RegionTactic
import Derived.IntWalk
namespace Go.Proofs.YtcpiapenagbapaaDoor.PlateEdited
open Go.RowKit Go.Proofs.YtcpiapenagbapaaDoor.Kit Go.Proofs.YtcpiapenagbapaaDoor.PlateDist Go.Proofs.YtcpiapenagbapaaDoor.PlateTwin
set_option linter.unusedVariables false
set_option linter.unusedSimpArgs false

def costI (a b : Int) : Int := if a = b then 0 else if twinI a = b then 1 else 2

set_option maxRecDepth 100000 in
theorem cost_calls (a b : Int) (w : World) :
    Calls Tryd.prog 20 #[.int .u8 a, .int .u8 b] w fun e w' => e = .returned (.int .i64 (costI a b)) ∧ ∃ m, w' = w.drewN m := by
  by_cases h1 : a = b
  · subst h1
    have h : costI a a = 0 := if_pos rfl
    have H := Lib.hid h
    clear h
    go_enter Tryd.func20, Tryd.ntmps20
    go_wp2
    go_ret
    exact ⟨by rw [H.out]; rfl, 0, rfl⟩
  · have b1 : (a == b) = false := beq_eq_false_iff_ne.2 h1
    have hc : costI a b = if twinI a = b then 1 else 2 := if_neg h1
    have HC := Lib.hid hc
    have ht := fun w => twin_calls a w
    obtain ⟨t, hT⟩ : ∃ t, twinI a = t := ⟨_, rfl⟩
    simp only [hT] at ht
    have HT := Lib.hid ht
    have HT2 := Lib.hid hT
    clear hc ht hT h1
    cases h2 : (t == b)
    · have h3 : costI a b = 2 := by rw [HC.out, HT2.out, if_neg (beq_eq_false_iff_ne.1 h2)]
      have H3 := Lib.hid h3
      clear h3
      go_enter Tryd.func20, Tryd.ntmps20
      go_wp2_with (go_at_call 21; refine (HT.out _).mono ?_; rintro e w' ⟨rfl, m, rfl⟩)
      go_ret
      exact ⟨by rw [H3.out]; rfl, _, rfl⟩
    · have h3 : costI a b = 1 := by rw [HC.out, HT2.out, if_pos (beq_iff_eq.1 h2)]
      have H3 := Lib.hid h3
      clear h3
      go_enter Tryd.func20, Tryd.ntmps20
      go_wp2_with (go_at_call 21; refine (HT.out _).mono ?_; rintro e w' ⟨rfl, m, rfl⟩)
      go_ret
      exact ⟨by rw [H3.out]; rfl, _, rfl⟩

set_option maxRecDepth 100000 in
theorem edited0 (a : ByteArray) (at_ kind sign : Int) (k : Nat) (w : World) (h1 : 1 ≤ a.size) (h2 : a.size ≤ 10) (hk : at_.tmod a.size = k) (hk2 : k < a.size) (hm : kind.tmod 3 = 0) :
    Calls Tryd.prog 15 #[.string a, .int .i64 at_, .int .i64 kind, .int .u8 sign] w fun e w' => e = .returned (.tuple #[.string (a.extract 0 k ++ a.extract (k + 1) a.size), .int .i64 2]) ∧ Below w.heap.size w w' := by
  have n1 : ¬ (a.size : Int) = 0 := by omega
  have w1 : wrap64 (at_.tmod a.size) = k := by rw [hk]; unfold wrap64; omega
  have w2 : wrap64 (kind.tmod 3) = 0 := by rw [hm]; unfold wrap64; omega
  go_enter Tryd.func15, Tryd.ntmps15
  go_wp2_with fail
  have k0 : (0 : Int) ≤ (k : Int) := Int.natCast_nonneg _
  have k1 : (k : Int) ≤ (a.size : Int) := by omega
  have k2 : (0 : Int) ≤ (k : Int) + 1 := by omega
  have k3 : (k : Int) + 1 ≤ (a.size : Int) := by omega
  have k4 : IntKind.i64.wrap ((k : Int) + 1) = (k : Int) + 1 := IntWalk.i64_in _ (by omega)
  have k5 : ((k : Int) + 1).toNat = k + 1 := by omega
  have z1 : (a.extract 0 k).size = k := by rw [ByteArray.size_extract]; omega
  have z2 : (a.extract (k + 1) a.size).size = a.size - (k + 1) := by rw [ByteArray.size_extract]; omega
  have k6 : ¬ 9223372036854775807 < (a.extract 0 k).size + (a.extract (k + 1) a.size).size := by omega
  go_quiet (fail)
  go_wp2
  go_ret2
  exact ⟨rfl, below_drewN (Below.refl _ _) _⟩

theorem conv_one (sign : Int) (B : Nat) (W : World) (h : W.cell? ⟨B, 0, none⟩ = some (.int .u8 sign)) :
    (convert 44 9 (.slice (some ⟨B, 0, none⟩) 1 1)).run Tryd.prog W = .ok (.string (strOfNums [sign])) W := by
  rw [run_convert_bytes_string (P := Tryd.prog) W 44 9 5 (some ⟨B, 0, none⟩) 1 1 Tryd.underlying44 Tryd.underlying5 Tryd.underlying9,
    run_bytesToString (P := Tryd.prog) W ⟨B, 0, none⟩ 1 1 [sign] (by
      have := run_loadCells_list (P := Tryd.prog) W ⟨B, 0, none⟩ [.int .u8 sign] (fun j v hv => by
        match j with
        | 0 => simp at hv; subst hv; simpa [Addr.add] using h
        | j + 1 => simp at hv)
      simpa using this)]
  rfl

set_option maxRecDepth 100000 in
theorem edited1 (a : ByteArray) (at_ kind sign : Int) (k : Nat) (w : World) (h1 : 1 ≤ a.size) (h2 : a.size ≤ 10) (hk : at_.tmod a.size = k) (hk2 : k < a.size) (hm : kind.tmod 3 = 1) (hs0 : 0 ≤ sign) (hs1 : sign < 256) :
    Calls Tryd.prog 15 #[.string a, .int .i64 at_, .int .i64 kind, .int .u8 sign] w fun e w' => e = .returned (.tuple #[.string (a.extract 0 k ++ strOfNums [sign] ++ a.extract k a.size), .int .i64 2]) ∧ Below w.heap.size w w' := by
  have n1 : ¬ (a.size : Int) = 0 := by omega
  have w1 : wrap64 (at_.tmod a.size) = k := by rw [hk]; unfold wrap64; omega
  have w2 : wrap64 (kind.tmod 3) = 1 := by rw [hm]; unfold wrap64; omega
  go_enter Tryd.func15, Tryd.ntmps15
  go_wp2_with fail
  have k0 : (0 : Int) ≤ (k : Int) := Int.natCast_nonneg _
  have k1 : (k : Int) ≤ (a.size : Int) := by omega
  have z1 : (a.extract 0 k).size = k := by rw [ByteArray.size_extract]; omega
  have z2 : (a.extract k a.size).size = a.size - k := by rw [ByteArray.size_extract]; omega
  have z3 : (strOfNums [sign]).size = 1 := strOfNums_size _
  have z4 : (a.extract 0 k ++ strOfNums [sign]).size = k + 1 := by rw [ByteArray.size_append, z1, z3]
  have k6 : ¬ 9223372036854775807 < (a.extract 0 k).size + (strOfNums [sign]).size := by omega
  have k7 : ¬ 9223372036854775807 < (a.extract 0 k ++ strOfNums [sign]).size + (a.extract k a.size).size := by omega
  have hcv := conv_one sign
  clear z1 z2 z3 z4
  go_region
  all_goals go_wp2
  all_goals
    go_ret2
    exact ⟨rfl, by repeat (first | exact Below.refl _ _ | apply below_alloc | apply Below.drew)⟩

set_option maxHeartbeats 8000000 in
set_option maxRecDepth 100000 in
theorem edited2 (a : ByteArray) (at_ kind sign : Int) (k : Nat) (w : World) (h1 : 1 ≤ a.size) (h2 : a.size ≤ 10) (hk : at_.tmod a.size = k) (hk2 : k < a.size) (hm : kind.tmod 3 = 2) (hs0 : 0 ≤ sign) (hs1 : sign < 256) :
    Calls Tryd.prog 15 #[.string a, .int .i64 at_, .int .i64 kind, .int .u8 sign] w fun e w' => e = .returned (.tuple #[.string (a.extract 0 k ++ strOfNums [sign] ++ a.extract (k + 1) a.size), .int .i64 (costI (chr a k) sign)]) ∧ Below w.heap.size w w' := by
  have n1 : ¬ (a.size : Int) = 0 := by omega
  have w1 : wrap64 (at_.tmod a.size) = k := by rw [hk]; unfold wrap64; omega
  have w2 : wrap64 (kind.tmod 3) = 2 := by rw [hm]; unfold wrap64; omega
  go_enter Tryd.func15, Tryd.ntmps15
  go_wp2_with fail
  have k0 : (0 : Int) ≤ (k : Int) := Int.natCast_nonneg _
  have k1 : (k : Int) ≤ (a.size : Int) := by omega
  have k1b : (k : Int) < (a.size : Int) := by omega
  have k2 : (0 : Int) ≤ (k : Int) + 1 := by omega
  have k3 : (k : Int) + 1 ≤ (a.size : Int) := by omega
  have k4 : IntKind.i64.wrap ((k : Int) + 1) = (k : Int) + 1 := IntWalk.i64_in _ (by omega)
  have k5 : ((k : Int) + 1).toNat = k + 1 := by omega
  have z1 : (a.extract 0 k).size = k := by rw [ByteArray.size_extract]; omega
  have z2 : (a.extract (k + 1) a.size).size = a.size - (k + 1) := by rw [ByteArray.size_extract]; omega
  have z3 : (strOfNums [sign]).size = 1 := strOfNums_size _
  have z4 : (a.extract 0 k ++ strOfNums [sign]).size = k + 1 := by rw [ByteArray.size_append, z1, z3]
  have k6 : ¬ 9223372036854775807 < (a.extract 0 k).size + (strOfNums [sign]).size := by omega
  have k7 : ¬ 9223372036854775807 < (a.extract 0 k ++ strOfNums [sign]).size + (a.extract (k + 1) a.size).size := by omega
  have k8 : (a.extract 0 k).size + (strOfNums [sign]).size ≤ 9223372036854775807 := by omega
  have k9 : (a.extract 0 k ++ strOfNums [sign]).size + (a.extract (k + 1) a.size).size ≤ 9223372036854775807 := by omega
  have k10 : (strOfNums [sign]).size ≤ 9223372036854775807 := by omega
  have hcA : ∀ n, (convert 44 9 (.slice (some ⟨w.heap.size, 0, none⟩) 1 1)).run Tryd.prog ((w.drewN n).alloc (.cells #[.int .u8 sign] 5)) = .ok (.string (strOfNums [sign])) ((w.drewN n).alloc (.cells #[.int .u8 sign] 5)) := fun n => conv_one sign w.heap.size _ (cell_new _ _ _)
  have hcB : ∀ n m, (convert 44 9 (.slice (some ⟨w.heap.size, 0, none⟩) 1 1)).run Tryd.prog (((w.drewN n).alloc (.cells #[.int .u8 sign] 5)).drewN m) = .ok (.string (strOfNums [sign])) (((w.drewN n).alloc (.cells #[.int .u8 sign] 5)).drewN m) := fun n m => conv_one sign w.heap.size _ (cell_new (w.drewN n) _ _)
  have hcC : (convert 44 9 (.slice (some ⟨w.heap.size, 0, none⟩) 1 1)).run Tryd.prog (w.drew.alloc (.cells #[.int .u8 sign] 5)) = .ok (.string (strOfNums [sign])) (w.drew.alloc (.cells #[.int .u8 sign] 5)) := conv_one sign w.heap.size _ (cell_new w.drew _ _)
  have hcD : ∀ m, (convert 44 9 (.slice (some ⟨w.heap.size, 0, none⟩) 1 1)).run Tryd.prog ((w.drew.alloc (.cells #[.int .u8 sign] 5)).drewN m) = .ok (.string (strOfNums [sign])) ((w.drew.alloc (.cells #[.int .u8 sign] 5)).drewN m) := fun m => conv_one sign w.heap.size _ (cell_new w.drew _ _)
  have hcv := conv_one sign
  have hck := chr_get a k hk2
  have HCK := Lib.hid hck
  clear hck
  go_region_with (go_at_call 20; rw [HCK.out]; refine (cost_calls (chr a k) sign _).mono ?_; rintro e w' ⟨rfl, m, rfl⟩)
  all_goals go_wp2
  all_goals
    go_ret2
    exact ⟨rfl, by repeat (first | exact Below.refl _ _ | apply below_alloc | apply Below.drew | apply below_drewN)⟩
end Go.Proofs.YtcpiapenagbapaaDoor.PlateEdited
