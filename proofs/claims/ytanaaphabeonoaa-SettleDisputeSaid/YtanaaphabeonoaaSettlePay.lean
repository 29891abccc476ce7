/-
  The walks of what settle.Payments calls: slices.Clone, first.
-/
import Derived.Test.YtanaaphabeonoaaSettleNet
import Derived.Deep.RegionHeld3
import Derived.Lib.LazyBuf
namespace Go.Proofs.Ytanaaphabeonoaa.SettlePay
open Go.RowKit Go.Proofs.Ytanaaphabeonoaa.Kit Go.Proofs.Ytanaaphabeonoaa.PAll
open Go.Proofs.YtanaaphabeonoaaW.PrintWords hiding below_alloc below_drew
set_option linter.unusedVariables false
set_option linter.unusedSimpArgs false

set_option maxRecDepth 100000 in
theorem clone_calls (A0 : Option Addr) (c0 : Nat) (l0 : List Int) (w : World) (hr0 : Kd.C (Kd.int .i64) w A0 l0.length l0) (hc0 : l0.length ≤ c0) (hl : l0.length ≤ 1000) :
    Calls Try.prog 25 #[.slice A0 l0.length c0] w fun e w' => ∃ v0_ : Value, e = .returned v0_ ∧ Kd.R (Kd.int .i64) 3 w' w.heap.size (fun _ => True) v0_ l0 ∧ Below w.heap.size w w' := by
  cases A0 with
  | none =>
    obtain rfl : l0 = [] := by
      cases l0 with
      | nil => rfl
      | cons x l => obtain ⟨ad, h, _⟩ := hr0.2.2 (by simp); cases h
    have hq := Go.run_eql_slice_nil (P := Try.prog) w 23 3 none 0 c0 Try.underlying23
    simp only [List.length_nil]
    go_enter Try.func25, Try.ntmps25
    go_wp2_with fail
    go_ret
    exact ⟨_, rfl, Kd.R_nil _ _ _ _ _, Below.refl _ _⟩
  | some ad =>
    have hq := Go.run_eql_slice_nil (P := Try.prog) w 23 3 (some ad) l0.length c0 Try.underlying23
    have HR := Lib.hid hr0
    clear hr0
    go_enter Try.func25, Try.ntmps25
    have hE : Kd.R (Kd.int .i64) 3 (w.alloc (.cells #[] 3)) w.heap.size (fun _ => True) (.slice (some ⟨w.heap.size, 0, none⟩) 0 0) ([] : List Int) :=
      Kd.R_of_own (enc := Value.int .i64) (h1 := fun _ => rfl) ⟨rfl, .inr ⟨w.heap.size, 0, #[], rfl, Nat.le_refl _, blk_new _ _, Nat.le_refl _, Nat.zero_le _, rfl, rfl⟩⟩ (fun _ _ => trivial)
    have HE := Lib.hid hE
    clear hE
    go_wp2_with (first | (at_builtin; refine Kd.R_append_rows (Kd.int .i64) (w0 := w) w.heap.size rfl (.tmp 5) (.tmp 6) 23 3 (.int .i64 0) 8 rfl Try.underlying23 info3 rfl (by decide) (by omega) (.slice (some ⟨w.heap.size, 0, none⟩) 0 0) ([] : List Int) l0 _ _ _ (fun _ => True) (fun _ => False) rfl rfl ?aO ?aR (fun _ _ h => h) (fun _ h => h.elim) ?aF ?aB ?aS ?aL ?_; (case aO => exact HE.out); (case aR => exact Kd.C_alloc HR.out _); (case aF => exact fun _ _ => trivial); (case aB => exact below_alloc (Below.refl _ _) _); (case aS => simp); (case aL => simp; omega); intro v1 w1 ho hb hg hat))
    go_ret
    rw [List.nil_append] at ho
    exact ⟨_, rfl, ho, hb⟩

/-! first -/
def firstL (better : Int → Int → Bool) (l : List Int) : List Nat → Nat → Nat
  | [], k => k
  | i :: is, k => firstL better l is (if better (l.getD i 0) (l.getD k 0) then i else k)
def firstI (better : Int → Int → Bool) (l : List Int) : Int := firstL better l (List.range l.length) 0

set_option maxRecDepth 100000 in
theorem first_calls (A0 : Option Addr) (c0 : Nat) (l0 : List Int) (g : Nat) (better : Int → Int → Bool) (eg : ∀ args w, (callFunc g args).run Try.prog w = .ok (.enter g args) w) (hg : ∀ a b w, Calls Try.prog g #[.int .i64 a, .int .i64 b] w fun e w' => e = .returned (.bool (better a b)) ∧ w' = w) (w : World) (hr0 : Kd.C (Kd.int .i64) w A0 l0.length l0) (hc0 : l0.length ≤ c0) (hl : l0.length ≤ 1000) :
    Calls Try.prog 26 #[.slice A0 l0.length c0, .func (.func g) #[] #[]] w fun e w' => e = .returned (.int .i64 (firstI better l0)) ∧ Drawn0 w w' := by
  have HR := Lib.hid hr0
  have HG := Lib.hid hg
  clear hr0 hg
  go_enter Try.func26, Try.ntmps26
  go_wp2_with fail
  go_loopw [5, 9] (fun s5 s9 wr => ∃ (j k : Nat), s5 = .int .i64 k ∧ s9 = .int .i64 j ∧ j ≤ l0.length ∧ (j < l0.length → k < l0.length) ∧ Hid (firstL better l0 ((List.range l0.length).drop j) k = firstL better l0 (List.range l0.length) 0) ∧ Hid (Drawn0 w wr)) (fun s5 s9 wr => l0.length - (intOf s9).toNat)
  case atStart => exact ⟨0, 0, rfl, rfl, Nat.zero_le _, fun h => h, by exact rfl, Drawn0.refl w⟩
  case round =>
    obtain ⟨j, k, rfl, rfl, hj, hk, HF, HD⟩ := hrel
    by_cases hlt : j < l0.length
    · obtain ⟨m, hm⟩ := HD.out.out
      have hC : Kd.C (Kd.int .i64) wr A0 l0.length l0 := by rw [hm]; exact Kd.C_drewN HR.out m
      obtain ⟨ad, rfl, x1⟩ := Kd.at_int hC j (Int.natCast_nonneg _) (by omega)
      obtain ⟨ad', e', x2⟩ := Kd.at_int hC k (Int.natCast_nonneg _) (by have := hk hlt; omega)
      cases e'
      simp only [Int.toNat_natCast] at x1 x2
      have hk2 := hk hlt
      have y1 : (j : Int) < (l0.length : Int) := by omega
      have y2 : (k : Int) < (l0.length : Int) := by omega
      have y3 : (0 : Int) ≤ (j : Int) := by omega
      have y4 : (0 : Int) ≤ (k : Int) := by omega
      have hdrop : (List.range l0.length).drop j = j :: (List.range l0.length).drop (j + 1) := by
        rw [List.drop_eq_getElem_cons (by simpa using hlt)]; simp
      have hF := HF.out
      rw [hdrop, firstL] at hF
      have hrd : ∀ i : Nat, rd l0 (i : Int) = l0.getD i 0 := fun i => rfl
      rw [hrd] at x1 x2
      have hgg := HG.out (l0.getD j 0) (l0.getD k 0)
      obtain ⟨a, ha⟩ : ∃ a, l0.getD j 0 = a := ⟨_, rfl⟩
      obtain ⟨b, hb0⟩ : ∃ b, l0.getD k 0 = b := ⟨_, rfl⟩
      rw [ha, hb0] at hF hgg
      rw [ha] at x1
      rw [hb0] at x2
      clear ha hb0 hrd
      cases hb : better a b
      · rw [hb] at hgg hF
        have HGG := Lib.hid hgg
        have HF2 := Lib.hid hF
        clear hgg hF hb hdrop hC hm
        go_wp2_with fail
        go_quiet ((go_at_fn g; exact Calls.quiet_of_same (HGG.out _)))
        go_wp2
        go_roundw
        case rel => exact ⟨j + 1, k, rfl, by go_num, by omega, fun _ => hk2, HF2.out.trans (by rfl), HD.out.step _⟩
        case measure => simp [intOf]; omega
      · rw [hb] at hgg hF
        have HGG := Lib.hid hgg
        have HF2 := Lib.hid hF
        clear hgg hF hb hdrop hC hm
        go_wp2_with fail
        go_quiet ((go_at_fn g; exact Calls.quiet_of_same (HGG.out _)))
        go_wp2
        go_roundw
        case rel => exact ⟨j + 1, j, rfl, by go_num, by omega, fun _ => by omega, HF2.out.trans (by rfl), HD.out.step _⟩
        case measure => simp [intOf]; omega
    · obtain rfl : j = l0.length := by omega
      have hF := HF.out
      rw [List.drop_of_length_le (by simp), firstL] at hF
      have HF2 := Lib.hid hF
      clear hF
      go_wp2_with fail
      go_ret
      exact ⟨by unfold firstI; rw [← HF2.out]; rfl, HD.out⟩

theorem less_calls (a b : Int) (w : World) : Calls Try.prog 27 #[.int .i64 a, .int .i64 b] w fun e w' => e = .returned (.bool (decide (a < b))) ∧ w' = w := by
  go_enter Try.func27, Try.ntmps27
  go_wp2
  go_ret
  exact ⟨rfl, rfl⟩
theorem more_calls (a b : Int) (w : World) : Calls Try.prog 28 #[.int .i64 a, .int .i64 b] w fun e w' => e = .returned (.bool (decide (b < a))) ∧ w' = w := by
  go_enter Try.func28, Try.ntmps28
  go_wp2
  go_ret
  exact ⟨rfl, rfl⟩
def lt (a b : Int) : Bool := decide (a < b)
def gt (a b : Int) : Bool := decide (b < a)
def firstF (l : List Int) (g : Nat) : Option Int := if l.length ≤ 1000 then (if g = 27 then some (firstI lt l) else if g = 28 then some (firstI gt l) else none) else none
theorem first_ext (A0 : Option Addr) (c0 : Nat) (l0 : List Int) (g : Nat) (r : Int) (w : World) (hr0 : Kd.C (Kd.int .i64) w A0 l0.length l0) (hc0 : l0.length ≤ c0) (h : firstF l0 g = some r) :
    Calls Try.prog 26 #[.slice A0 l0.length c0, .func (.func g) #[] #[]] w fun e w' => e = .returned (.int .i64 r) ∧ Drawn0 w w' := by
  unfold firstF at h
  split at h
  · rename_i hl
    split at h
    · rename_i e
      subst e
      obtain rfl := Option.some.inj h
      exact first_calls A0 c0 l0 _ lt (enters_of Try.func27 (by kernel_rfl) rfl) less_calls w hr0 hc0 hl
    · split at h
      · rename_i e
        subst e
        obtain rfl := Option.some.inj h
        exact first_calls A0 c0 l0 _ gt (enters_of Try.func28 (by kernel_rfl) rfl) more_calls w hr0 hc0 hl
      · cases h
  · cases h
def cloneF (l : List Int) : Option (List Int) := if l.length ≤ 1000 then some l else none
theorem clone_ext (A0 : Option Addr) (c0 : Nat) (l0 : List Int) (r : List Int) (w : World) (hr0 : Kd.C (Kd.int .i64) w A0 l0.length l0) (hc0 : l0.length ≤ c0) (h : cloneF l0 = some r) :
    Calls Try.prog 25 #[.slice A0 l0.length c0] w fun e w' => ∃ v0_ : Value, e = .returned v0_ ∧ Kd.R (Kd.int .i64) 3 w' w.heap.size (fun _ => True) v0_ r ∧ Below w.heap.size w w' := by
  unfold cloneF at h
  split at h
  · rename_i hl
    obtain rfl := Option.some.inj h
    exact clone_calls A0 c0 l0 w hr0 hc0 hl
  · cases h
end Go.Proofs.Ytanaaphabeonoaa.SettlePay
