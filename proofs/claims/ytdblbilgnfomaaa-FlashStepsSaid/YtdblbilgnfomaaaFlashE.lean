/-
  The walks of flash.Valid, Program and Erase.
-/
import Derived.Test.YtdblbilgnfomaaaFlashC
namespace Go.Proofs.Ytdblbilgnfomaaa.FlashE
open Go.RowKit Go.Proofs.Ytdblbilgnfomaaa.Kit Go.Proofs.Ytdblbilgnfomaaa.PAll Go.Proofs.Ytdblbilgnfomaaa.FlashB Go.Proofs.Ytdblbilgnfomaaa.FlashC
open Go.Proofs.YtdblbilgnfomaaaW.PrintWords hiding below_alloc below_drew
open Go.Proofs.YtdblbilgnfomaaaW.PrintLast
set_option linter.unusedVariables false
set_option linter.unusedSimpArgs false

def valF (S : Int) (n : Nat) : Bool := decide (1 ≤ S) && (decide (S ≤ 512) && (decide (S ≤ n) && (decide ((n : Int) ≤ 4096) && decide ((n : Int) % S = 0))))
theorem valF_iff {S : Int} {n : Nat} : valF S n = true ↔ 1 ≤ S ∧ S ≤ 512 ∧ S ≤ n ∧ (n : Int) ≤ 4096 ∧ (n : Int) % S = 0 := by
  unfold valF; simp only [Bool.and_eq_true, decide_eq_true_eq]

theorem valid_calls (S : Int) (A0 : Option Addr) (n0 c0 : Nat) (w : World) : Calls Try.prog 18 #[.agg #[.int .i64 S, .slice A0 n0 c0]] w fun e w' => e = .returned (.bool (valF S n0)) ∧ Below w.heap.size w w' := by
  by_cases h1 : S < 1
  · have e : valF S n0 = false := by cases b : valF S n0; rfl; rw [valF_iff] at b; omega
    rw [e]; clear e
    go_enter Try.func18, Try.ntmps18
    go_wp2
    go_ret
    exact ⟨rfl, by repeat (first | exact Below.refl _ _ | apply below_drewN | apply below_alloc)⟩
  by_cases h2 : 512 < S
  · have e : valF S n0 = false := by cases b : valF S n0; rfl; rw [valF_iff] at b; omega
    rw [e]; clear e
    go_enter Try.func18, Try.ntmps18
    go_wp2
    go_ret
    exact ⟨rfl, by repeat (first | exact Below.refl _ _ | apply below_drewN | apply below_alloc)⟩
  by_cases h3 : (n0 : Int) < S
  · have e : valF S n0 = false := by cases b : valF S n0; rfl; rw [valF_iff] at b; omega
    rw [e]; clear e
    go_enter Try.func18, Try.ntmps18
    go_wp2
    go_ret
    exact ⟨rfl, by repeat (first | exact Below.refl _ _ | apply below_drewN | apply below_alloc)⟩
  by_cases h4 : 4096 < (n0 : Int)
  · have e : valF S n0 = false := by cases b : valF S n0; rfl; rw [valF_iff] at b; omega
    rw [e]; clear e
    go_enter Try.func18, Try.ntmps18
    go_wp2
    go_ret
    exact ⟨rfl, by repeat (first | exact Below.refl _ _ | apply below_drewN | apply below_alloc)⟩
  have hz : ¬ S = 0 := by omega
  have htm : (n0 : Int).tmod S = (n0 : Int) % S := Int.tmod_eq_emod_of_nonneg (by omega)
  have e : valF S n0 = ((n0 : Int) % S == 0) := by
    rw [Bool.eq_iff_iff, valF_iff, beq_iff_eq]; omega
  rw [e]; clear e
  go_enter Try.func18, Try.ntmps18
  go_wp2
  go_ret
  exact ⟨rfl, by repeat (first | exact Below.refl _ _ | apply below_drewN | apply below_alloc)⟩

/-! ### Program -/
def clearB (d : List Int) (i old : Int) : Int := Go.bits .and .u8 old (rd d i)
def memsOf (S : Int) (bc : Int → Int → Int) (at_ : Int) (l : List Int) (many : Nat) : List Fl := (List.range (many + 1)).map fun i => ⟨S, stL bc at_ l i⟩
def badP (S : Int) (l : List Int) (at_ : Int) : Bool := !valF S l.length || decide (at_ < 0)
def farP (l : List Int) (at_ : Int) (d : List Int) : Bool := decide ((l.length : Int) < at_) || decide ((l.length : Int) - at_ < d.length)
def progF (S : Int) (l : List Int) (at_ : Int) (d : List Int) : Option (List Fl × Int) :=
  if badP S l at_ then some ([], 1) else if farP l at_ d then some ([], 3) else some (memsOf S (clearB d) at_ l d.length, 0)

def ListPost (w : World) (r1 : List Fl) (r2 : Int) (e : Ending) (w' : World) : Prop := ∃ v0_ : Value, e = .returned (.tuple #[v0_, .int .i64 r2]) ∧ Kd.N kF 24 w' w.heap.size (fun k_ => (w.heap.size ≤ k_)) v0_ r1 ∧ Below w.heap.size w w'
theorem N_of_R {w : World} {base : Nat} {v : Value} {xs : List Fl} (h : Kd.R kF 24 w base (fun _ => True) v xs) : Kd.N kF 24 w base (fun k_ => (base ≤ k_)) v xs :=
  Kd.R_N (Kd.R_mono (Kd.R_bound h) (fun k hk => hk.2.1))

set_option maxRecDepth 100000 in
theorem prog_bad (S : Int) (A0 : Option Addr) (c0 : Nat) (l0 : List Int) (at_ : Int) (A2 : Option Addr) (c2 : Nat) (l2 : List Int) (w : World) (h : badP S l0 at_ = true) :
    Calls Try.prog 14 #[.agg #[.int .i64 S, .slice A0 l0.length c0], .int .i64 at_, .slice A2 l2.length c2] w (ListPost w [] 1) := by
  have hv := fun W => valid_calls S A0 l0.length c0 W
  unfold badP at h
  cases b : valF S l0.length
  · rw [b] at hv
    have HV := Lib.hid hv
    clear hv h b
    go_enter Try.func14, Try.ntmps14
    go_wp2_with fail
    refine (HV.out _).mono ?_
    rintro e w1 ⟨rfl, hb⟩
    have HB := Lib.hid hb
    clear hb
    go_wp2_with fail
    go_ret2
    exact ⟨_, rfl, Kd.N_nil _ _ _ _ _, (((Below.refl _ w).alloc (Nat.le_refl _) _).alloc (by simp) _).trans (HB.out.mono (by simp; omega))⟩
  · rw [b] at h hv
    have h1 : at_ < 0 := by simpa using h
    have HV := Lib.hid hv
    clear hv h b
    go_enter Try.func14, Try.ntmps14
    go_wp2_with fail
    refine (HV.out _).mono ?_
    rintro e w1 ⟨rfl, hb⟩
    have HB := Lib.hid hb
    clear hb
    go_wp2_with fail
    go_ret2
    exact ⟨_, rfl, Kd.N_nil _ _ _ _ _, (((Below.refl _ w).alloc (Nat.le_refl _) _).alloc (by simp) _).trans (HB.out.mono (by simp; omega))⟩

set_option maxRecDepth 100000 in
set_option maxHeartbeats 1000000 in
theorem prog_go (far : Bool) (S : Int) (A0 : Option Addr) (c0 : Nat) (l0 : List Int) (at_ : Int) (A2 : Option Addr) (c2 : Nat) (l2 : List Int) (w : World) (hr0 : Kd.C (Kd.int .u8) w A0 l0.length l0) (hr2 : Kd.C (Kd.int .u8) w A2 l2.length l2)
    (h : badP S l0 at_ = false) (hf : farP l0 at_ l2 = far) :
    Calls Try.prog 14 #[.agg #[.int .i64 S, .slice A0 l0.length c0], .int .i64 at_, .slice A2 l2.length c2] w (if far then ListPost w [] 3 else ListPost w (memsOf S (clearB l2) at_ l0 l2.length) 0) := by
  unfold badP at h
  simp only [Bool.or_eq_false_iff, Bool.not_eq_false'] at h
  obtain ⟨b, h1⟩ := h
  have hat : 0 ≤ at_ := by have := of_decide_eq_false h1; omega
  have hv := fun W => valid_calls S A0 l0.length c0 W
  rw [b] at hv
  rw [valF_iff] at b
  obtain ⟨s1, s2, s3, s4, _⟩ := b
  have hl0 : 1 ≤ l0.length := by omega
  have hl1 : l0.length ≤ 100000 := by omega
  unfold farP at hf
  have HV := Lib.hid hv
  have HR0 := Lib.hid hr0
  have HR2 := Lib.hid hr2
  clear hv hr0 hr2 h1
  have hmf : ∀ (fn : Fn) (first cap : Array Value) (w : World), (Instr.makeFunc fn first cap).run Try.prog w = .ok (.func fn first cap) w := fun _ _ _ _ => rfl
  by_cases f1 : (l0.length : Int) < at_
  · have d1 : decide ((l0.length : Int) < at_) = true := decide_eq_true f1
    rw [d1, Bool.true_or] at hf
    subst hf
    rw [if_pos rfl]
    go_enter Try.func14, Try.ntmps14
    go_wp2_with fail
    refine (HV.out _).mono ?_
    rintro e w1 ⟨rfl, hb⟩
    have g1 := blk_below (blk_alloc (blk_new w (.cells #[.int .i64 S, .slice A0 l0.length c0] 24)) (.cells #[.slice A2 l2.length c2] 22)) hb
    have p1 : w1.cell? ⟨w.heap.size, 1, none⟩ = some (.slice A0 l0.length c0) := by rw [blk_cell g1]; rfl
    have HB := Lib.hid hb
    clear hb g1
    go_wp2_with fail
    go_ret2
    exact ⟨_, rfl, Kd.N_nil _ _ _ _ _, (((Below.refl _ w).alloc (Nat.le_refl _) _).alloc (by simp) _).trans (HB.out.mono (by simp; omega))⟩
  have d1 : decide ((l0.length : Int) < at_) = false := decide_eq_false f1
  rw [d1, Bool.false_or] at hf
  by_cases f2 : (l0.length : Int) - at_ < l2.length
  · rw [decide_eq_true f2] at hf
    subst hf
    rw [if_pos rfl]
    go_enter Try.func14, Try.ntmps14
    go_wp2_with fail
    refine (HV.out _).mono ?_
    rintro e w1 ⟨rfl, hb⟩
    have g1 := blk_below (blk_alloc (blk_new w (.cells #[.int .i64 S, .slice A0 l0.length c0] 24)) (.cells #[.slice A2 l2.length c2] 22)) hb
    have g2 : w1.heap[w.heap.size + 1]? = some (.cells #[.slice A2 l2.length c2] 22 (0, 0)) := by
      have := blk_below (blk_new (w.alloc (.cells #[.int .i64 S, .slice A0 l0.length c0] 24)) (.cells #[.slice A2 l2.length c2] 22)) hb
      rwa [World.size_alloc] at this
    have p1 : w1.cell? ⟨w.heap.size, 1, none⟩ = some (.slice A0 l0.length c0) := by rw [blk_cell g1]; rfl
    have p2 : w1.cell? ⟨w.heap.size + 1, 0, none⟩ = some (.slice A2 l2.length c2) := by rw [blk_cell g2]; rfl
    have HB := Lib.hid hb
    clear hb g1 g2
    go_wp2_with fail
    go_ret2
    exact ⟨_, rfl, Kd.N_nil _ _ _ _ _, (((Below.refl _ w).alloc (Nat.le_refl _) _).alloc (by simp) _).trans (HB.out.mono (by simp; omega))⟩
  rw [decide_eq_false f2] at hf
  subst hf
  rw [if_neg (by simp)]
  have hm : at_ + (l2.length : Int) ≤ l0.length := by omega
  go_enter Try.func14, Try.ntmps14
  go_wp2_with fail
  refine (HV.out _).mono ?_
  rintro e w1 ⟨rfl, hb⟩
  have g1 := blk_below (blk_alloc (blk_new w (.cells #[.int .i64 S, .slice A0 l0.length c0] 24)) (.cells #[.slice A2 l2.length c2] 22)) hb
  have g2 : w1.heap[w.heap.size + 1]? = some (.cells #[.slice A2 l2.length c2] 22 (0, 0)) := by
    have := blk_below (blk_new (w.alloc (.cells #[.int .i64 S, .slice A0 l0.length c0] 24)) (.cells #[.slice A2 l2.length c2] 22)) hb
    rwa [World.size_alloc] at this
  have p0 : w1.cell? ⟨w.heap.size, 0, none⟩ = some (.int .i64 S) := by rw [blk_cell g1]; rfl
  have p1 : w1.cell? ⟨w.heap.size, 1, none⟩ = some (.slice A0 l0.length c0) := by rw [blk_cell g1]; rfl
  have p2 : w1.cell? ⟨w.heap.size + 1, 0, none⟩ = some (.slice A2 l2.length c2) := by rw [blk_cell g2]; rfl
  have C0 := Lib.hid p0
  have C1 := Lib.hid p1
  have C2 := Lib.hid p2
  have hbw : Below w.heap.size w w1 := (((Below.refl _ w).alloc (Nat.le_refl _) _).alloc (by simp) _).trans (hb.mono (by simp; omega))
  have HB := Lib.hid hbw
  have HR1 := Lib.hid (Kd.C_below HR0.out hbw)
  have hcl : ∀ (i old : Int) (W : World), 0 ≤ i → i < l2.length → Below w1.heap.size w1 W → Calls Try.prog 26 (#[.int .i64 i, .int .u8 old] ++ #[.pointer (some ⟨w.heap.size + 1, 0, none⟩)]) W fun e W' => e = .returned (.int .u8 (clearB l2 i old)) ∧ W' = W := by
    intro i old W i0 i1 hW
    have hc2 := Kd.C_below (Kd.C_below HR2.out hbw) hW
    obtain ⟨ad, rfl, _⟩ := Kd.at_int hc2 i i0 i1
    exact FlashA.cleared_calls (w.heap.size + 1) ad c2 l2 i old W (below_cell hW C2.out) hc2 i0 i1
  have HCLR := Lib.hid hcl
  clear hb g1 g2 hcl hbw
  have tw : IntKind.i64.wrap ((l2.length : Int) + 1) = (l2.length : Int) + 1 := Go.IntWalk.i64_in _ (by omega)
  go_upto_region 6 with fail
  clear p0 p1 p2
  refine start_ (n := 12) (S := fun w' => Below w1.heap.size w1 w') (ds := []) #[false, false, false, false, false, false, false, false, false, false, false, false] (by kernel_rfl) rfl rfl ((Below.refl _ _).drew) (fun hH => ?_)
  refine pure_ (i := 1) (N := some 35) (v := ?_) (a' := ?_) #[false, true, false, false, false, false, false, false, false, false, false, false] rfl rfl (by kernel_rfl) (fun _ _ _ h => h) (Or.inl ⟨by rfl, ?_⟩) ?_ ?_
  rotate_left
  · intro w'
    go_simp
    try with_reducible rfl
  rotate_left
  · simp only [Act.put, List.setIfInBounds_toArray, List.set_cons_zero, List.set_cons_succ, i64_w, i32_w]
    rfl
  refine pure_ (i := 4) (N := some 38) (v := ?_) (a' := ?_) #[false, true, false, false, true, false, false, false, false, false, false, false] rfl rfl (by kernel_rfl) (fun _ _ _ h => h) (Or.inl ⟨by rfl, ?_⟩) ?_ ?_
  rotate_left
  · intro w'
    go_simp
    try with_reducible rfl
  rotate_left
  · simp only [Act.put, List.setIfInBounds_toArray, List.set_cons_zero, List.set_cons_succ, i64_w, i32_w]
    rfl
  refine take_ (i := 0) (N := some 34) (v := ?_) (a' := ?_) #[true, true, false, false, true, false, false, false, false, false, false, false] rfl rfl (by kernel_rfl) (fun _ _ _ h => h) (Or.inl ⟨by rfl, ?_⟩) hH ?_ ?_
  rotate_left
  · intro w' hW
    have p0 := below_cell hW C0.out; have p1 := below_cell hW C1.out; have p2 := below_cell hW C2.out
    go_simp
    try with_reducible rfl
  rotate_left
  · simp only [Act.put, List.setIfInBounds_toArray, List.set_cons_zero, List.set_cons_succ, i64_w, i32_w]
    rfl
  refine take_ (i := 2) (N := some 36) (v := ?_) (a' := ?_) #[true, true, true, false, true, false, false, false, false, false, false, false] rfl rfl (by kernel_rfl) (fun _ _ _ h => h) (Or.inl ⟨by rfl, ?_⟩) hH ?_ ?_
  rotate_left
  · intro w' hW
    have p0 := below_cell hW C0.out; have p1 := below_cell hW C1.out; have p2 := below_cell hW C2.out
    go_simp
    try with_reducible rfl
  rotate_left
  · simp only [Act.put, List.setIfInBounds_toArray, List.set_cons_zero, List.set_cons_succ, i64_w, i32_w]
    rfl
  refine pure_ (i := 3) (N := some 37) (v := ?_) (a' := ?_) #[true, true, true, true, true, false, false, false, false, false, false, false] rfl rfl (by kernel_rfl) (fun _ _ _ h => h) (Or.inl ⟨by rfl, ?_⟩) ?_ ?_
  rotate_left
  · intro w'
    go_simp
    try with_reducible rfl
  rotate_left
  · simp only [Act.put, List.setIfInBounds_toArray, List.set_cons_zero, List.set_cons_succ, i64_w, i32_w]
    rfl
  refine take_ (i := 6) (N := some 40) (v := ?_) (a' := ?_) #[true, true, true, true, true, false, true, false, false, false, false, false] rfl rfl (by kernel_rfl) (fun _ _ _ h => h) (Or.inl ⟨by rfl, ?_⟩) hH ?_ ?_
  rotate_left
  · intro w' hW
    have p0 := below_cell hW C0.out; have p1 := below_cell hW C1.out; have p2 := below_cell hW C2.out
    go_simp
    try with_reducible rfl
  rotate_left
  · simp only [Act.put, List.setIfInBounds_toArray, List.set_cons_zero, List.set_cons_succ, i64_w, i32_w]
    rfl
  refine pure_ (i := 7) (N := some 41) (v := ?_) (a' := ?_) #[true, true, true, true, true, false, true, true, false, false, false, false] rfl rfl (by kernel_rfl) (fun _ _ _ h => h) (Or.inl ⟨by rfl, ?_⟩) ?_ ?_
  rotate_left
  · intro w'
    go_simp
    try with_reducible rfl
  rotate_left
  · simp only [Act.put, List.setIfInBounds_toArray, List.set_cons_zero, List.set_cons_succ, i64_w, i32_w]
    rfl
  refine pure_ (i := 8) (N := some 42) (v := ?_) (a' := ?_) #[true, true, true, true, true, false, true, true, true, false, false, false] rfl rfl (by kernel_rfl) (fun _ _ _ h => h) (Or.inl ⟨by rfl, ?_⟩) ?_ ?_
  rotate_left
  · intro w'
    go_simp
    try with_reducible rfl
  rotate_left
  · simp only [Act.put, List.setIfInBounds_toArray, List.set_cons_zero, List.set_cons_succ, i64_w, i32_w]
    rfl
  refine one_ (i := 5) (N := some 39) #[true, true, true, true, true, true, true, true, true, false, false, false] rfl rfl (by kernel_rfl) (by decide) (fun K hK => ?_)
  refine goes_ Try.func28 (by kernel_rfl) rfl #[.agg #[.int .i64 S, .slice A0 l0.length c0], .int .i64 at_, .int .i64 l2.length, .func (.func 26) #[] #[.pointer (some ⟨w.heap.size + 1, 0, none⟩)]] (by rfl) rfl rfl (by simp [Act.eval]) ?_
  refine (FlashA.steps_calls S A0 c0 l0 at_ l2.length _ _ _ _).mono ?_
  rintro e w5 ⟨B, hB, rfl, b1, b2, b3, b4, hb⟩
  have hH5 : Below w1.heap.size w1 w5 := hH.trans (hb.mono hH.size)
  have B1 := Lib.hid b1
  have B2 := Lib.hid b2
  have B3 := Lib.hid b3
  have B4 := Lib.hid b4
  have HB5 := Lib.hid hH5
  refine ⟨_, rfl, ?_⟩
  clear b1 b2 b3 b4 hb
  refine hK.out _ _ hH5 (fun hH => ?_)
  clear hK K
  refine norm_ (a' := ?_) ?_ ?_
  rotate_left
  · show Act.put _ (some 39) _ = _
    simp only [Act.put, List.setIfInBounds_toArray, List.set_cons_zero, List.set_cons_succ, i64_w, i32_w]
    rfl
  refine one_ (i := 9) (N := some 43) #[true, true, true, true, true, true, true, true, true, true, false, false] rfl rfl (by kernel_rfl) (by decide) (fun K hK => ?_)
  have hlt := blk_lt B4.out
  refine goes_ Try.func27 (by kernel_rfl) rfl #[.func (.func 33) #[] #[.pointer (some ⟨B, 0, none⟩), .pointer (some ⟨B + 1 + 1, 0, none⟩), .pointer (some ⟨B + 1 + 1 + 1, 0, none⟩), .pointer (some ⟨B + 1, 0, none⟩)], .int .i64 ((l2.length : Int) + 1)] (by rfl) rfl rfl (by simp [Act.eval]) ?_
  refine (FlashC.collect_calls B (B + 1 + 1) (B + 1 + 1 + 1) (B + 1) S A0 c0 l0 at_ l2.length 26 #[.pointer (some ⟨w.heap.size + 1, 0, none⟩)] (clearB l2) w5 (Kd.C_below HR1.out hH) hl0 hl1 hat hm (by omega) (by omega) (by omega) (by omega) ⟨B1.out, B2.out, B3.out, B4.out⟩ (enters_of Try.func26 (by kernel_rfl) rfl) (fun i old W i0 i1 hW => HCLR.out i old W i0 i1 (hH.trans (hW.mono hH.size)))).mono ?_
  rintro e w6 ⟨v, rfl, hR6, hb6⟩
  have hH6 : Below w1.heap.size w1 w6 := hH.trans (hb6.mono hH.size)
  change Kd.R kF 24 w6 w5.heap.size (fun _ => True) v (memsOf S (clearB l2) at_ l0 l2.length) at hR6
  obtain ⟨A6, c6, rfl⟩ := Kd.R_slice hR6
  have HR6 := Lib.hid hR6
  have HB6 := Lib.hid hH6
  refine ⟨_, rfl, ?_⟩
  clear hR6 hb6
  refine hK.out _ _ hH6 (fun hH => ?_)
  clear hK K
  refine norm_ (a' := ?_) ?_ ?_
  rotate_left
  · show Act.put _ (some 43) _ = _
    simp only [Act.put, List.setIfInBounds_toArray, List.set_cons_zero, List.set_cons_succ, i64_w, i32_w]
    rfl
  refine pure_ (i := 10) (N := some 6) (v := ?_) (a' := ?_) #[true, true, true, true, true, true, true, true, true, true, true, false] rfl rfl (by kernel_rfl) (fun _ _ _ h => h) (Or.inl ⟨by rfl, ?_⟩) ?_ ?_
  rotate_left
  · intro w'
    go_simp
    try with_reducible rfl
  rotate_left
  · simp only [Act.put, List.setIfInBounds_toArray, List.set_cons_zero, List.set_cons_succ, i64_w, i32_w]
    rfl
  refine pure_ (i := 11) (N := some 7) (v := ?_) (a' := ?_) #[true, true, true, true, true, true, true, true, true, true, true, true] rfl rfl (by kernel_rfl) (fun _ _ _ h => h) (Or.inl ⟨by rfl, ?_⟩) ?_ ?_
  rotate_left
  · intro w'
    go_simp
    try with_reducible rfl
  rotate_left
  · simp only [Act.put, List.setIfInBounds_toArray, List.set_cons_zero, List.set_cons_succ, i64_w, i32_w]
    rfl
  refine done_ (by kernel_rfl) ?_
  go_wp2_with fail
  go_ret2
  exact ⟨.slice A6 (memsOf S (clearB l2) at_ l0 l2.length).length c6, rfl, N_of_R (Kd.R_lower HR6.out (Nat.le_trans HB.out.size HB5.out.size)), HB.out.trans (HB6.out.mono HB.out.size)⟩

theorem prog_ext (a0_0 : Int) (A0_1 : Option Addr) (c0_1 : Nat) (l0_1 : List Int) (a1 : Int) (A2 : Option Addr) (c2 : Nat) (l2 : List Int) (r1 : List Fl) (r2 : Int) (w : World) (hr0_1 : Kd.C (Kd.int .u8) w A0_1 l0_1.length l0_1) (hr2 : Kd.C (Kd.int .u8) w A2 l2.length l2) (h : progF a0_0 l0_1 a1 l2 = some (r1, r2)) :
    Calls Try.prog 14 #[.agg #[.int .i64 a0_0, .slice A0_1 l0_1.length c0_1], .int .i64 a1, .slice A2 l2.length c2] w (ListPost w r1 r2) := by
  unfold progF at h
  cases b : badP a0_0 l0_1 a1
  · rw [b] at h
    cases f : farP l0_1 a1 l2
    · rw [f] at h; cases h; exact prog_go false _ _ _ _ _ _ _ _ _ hr0_1 hr2 b f
    · rw [f] at h; cases h; exact prog_go true _ _ _ _ _ _ _ _ _ hr0_1 hr2 b f
  · rw [b] at h; cases h; exact prog_bad _ _ _ _ _ _ _ _ _ b

/-! ### Erase -/
def badE (S : Int) (l : List Int) (a1 : Int) : Bool := !valF S l.length || (decide (a1 < 0) || decide ((l.length : Int) / S ≤ a1))
def eraseF (S : Int) (l : List Int) (a1 : Int) : Option (List Fl × Int) := if badE S l a1 then some ([], 1) else some (memsOf S (fun _ _ => 255) (a1 * S) l S.toNat, 0)

set_option maxRecDepth 100000 in
set_option maxHeartbeats 1000000 in
theorem erase_ext (S : Int) (A0 : Option Addr) (c0 : Nat) (l0 : List Int) (a1 : Int) (r1 : List Fl) (r2 : Int) (w : World) (hr0 : Kd.C (Kd.int .u8) w A0 l0.length l0) (h : eraseF S l0 a1 = some (r1, r2)) :
    Calls Try.prog 16 #[.agg #[.int .i64 S, .slice A0 l0.length c0], .int .i64 a1] w (ListPost w r1 r2) := by
  unfold eraseF badE at h
  have hv := fun W => valid_calls S A0 l0.length c0 W
  cases b : valF S l0.length
  · rw [b] at hv h
    cases h
    have HV := Lib.hid hv
    clear hv b
    go_enter Try.func16, Try.ntmps16
    go_wp2_with fail
    refine (HV.out _).mono ?_
    rintro e w1 ⟨rfl, hb⟩
    have HB := Lib.hid hb
    clear hb
    go_wp2_with fail
    go_ret2
    exact ⟨_, rfl, Kd.N_nil _ _ _ _ _, ((Below.refl _ w).alloc (Nat.le_refl _) _).trans (HB.out.mono (by simp))⟩
  rw [b] at hv h
  rw [valF_iff] at b
  obtain ⟨s1, s2, s3, s4, s5⟩ := b
  have hl0 : 1 ≤ l0.length := by omega
  have hl1 : l0.length ≤ 100000 := by omega
  have HV := Lib.hid hv
  have HR0 := Lib.hid hr0
  clear hv hr0
  by_cases f1 : a1 < 0
  · rw [decide_eq_true f1] at h
    cases h
    clear s5
    go_enter Try.func16, Try.ntmps16
    go_wp2_with fail
    refine (HV.out _).mono ?_
    rintro e w1 ⟨rfl, hb⟩
    have HB := Lib.hid hb
    clear hb
    go_wp2_with fail
    go_ret2
    exact ⟨_, rfl, Kd.N_nil _ _ _ _ _, ((Below.refl _ w).alloc (Nat.le_refl _) _).trans (HB.out.mono (by simp))⟩
  rw [decide_eq_false f1] at h
  have hz : ¬ S = 0 := by omega
  have htd : (l0.length : Int).tdiv S = (l0.length : Int) / S := Int.tdiv_eq_ediv_of_nonneg (by omega)
  have hq0 : (0 : Int) ≤ (l0.length : Int) / S := Int.ediv_nonneg (by omega) (by omega)
  have hq1 : (l0.length : Int) / S ≤ 4096 := Int.le_trans (Int.ediv_le_self _ (by omega)) s4
  have tq : wrap64 ((l0.length : Int) / S) = (l0.length : Int) / S := by unfold wrap64; omega
  by_cases f2 : (l0.length : Int) / S ≤ a1
  · rw [decide_eq_true f2] at h
    cases h
    clear s5
    go_enter Try.func16, Try.ntmps16
    go_wp2_with fail
    refine (HV.out _).mono ?_
    rintro e w1 ⟨rfl, hb⟩
    have g1 := blk_below (blk_new w (.cells #[.int .i64 S, .slice A0 l0.length c0] 24)) hb
    have p0 : w1.cell? ⟨w.heap.size, 0, none⟩ = some (.int .i64 S) := by rw [blk_cell g1]; rfl
    have p1 : w1.cell? ⟨w.heap.size, 1, none⟩ = some (.slice A0 l0.length c0) := by rw [blk_cell g1]; rfl
    have HB := Lib.hid hb
    clear hb g1
    go_wp2_with fail
    go_ret2
    exact ⟨_, rfl, Kd.N_nil _ _ _ _ _, ((Below.refl _ w).alloc (Nat.le_refl _) _).trans (HB.out.mono (by simp))⟩
  rw [decide_eq_false f2] at h
  cases h
  have hat : 0 ≤ a1 * S := Int.mul_nonneg (by omega) (by omega)
  have hm : a1 * S + S ≤ l0.length := by
    have h2 : (a1 + 1) * S ≤ (l0.length : Int) / S * S := Int.mul_le_mul_of_nonneg_right (by omega) (by omega)
    have h3 : (l0.length : Int) / S * S ≤ l0.length := Int.ediv_mul_le _ (by omega)
    rw [Int.add_mul, Int.one_mul] at h2
    omega
  have tm : IntKind.i64.wrap (a1 * S) = a1 * S := Go.IntWalk.i64_in _ (by omega)
  have tw : IntKind.i64.wrap (S + 1) = S + 1 := Go.IntWalk.i64_in _ (by omega)
  have TM := Lib.hid tm
  have TW := Lib.hid tw
  clear s5 tm tw
  go_enter Try.func16, Try.ntmps16
  go_wp2_with fail
  refine (HV.out _).mono ?_
  rintro e w1 ⟨rfl, hb⟩
  have g1 := blk_below (blk_new w (.cells #[.int .i64 S, .slice A0 l0.length c0] 24)) hb
  have p0 : w1.cell? ⟨w.heap.size, 0, none⟩ = some (.int .i64 S) := by rw [blk_cell g1]; rfl
  have p1 : w1.cell? ⟨w.heap.size, 1, none⟩ = some (.slice A0 l0.length c0) := by rw [blk_cell g1]; rfl
  have C0 := Lib.hid p0
  have C1 := Lib.hid p1
  have hbw : Below w.heap.size w w1 := ((Below.refl _ w).alloc (Nat.le_refl _) _).trans (hb.mono (by simp))
  have HB := Lib.hid hbw
  have HR1 := Lib.hid (Kd.C_below HR0.out hbw)
  clear hb g1 hbw
  go_upto_region 4 with fail
  clear p0 p1
  have tm := TM.out
  have tw := TW.out
  refine start_ (n := 15) (S := fun w' => Below w1.heap.size w1 w') (ds := []) #[false, false, false, false, false, false, false, false, false, false, false, false, false, false, false] (by kernel_rfl) rfl rfl ((Below.refl _ _).drew) (fun hH => ?_)
  refine pure_ (i := 1) (N := some 25) (v := ?_) (a' := ?_) #[false, true, false, false, false, false, false, false, false, false, false, false, false, false, false] rfl rfl (by kernel_rfl) (fun _ _ _ h => h) (Or.inl ⟨by rfl, ?_⟩) ?_ ?_
  rotate_left
  · intro w'
    go_simp
    try with_reducible rfl
  rotate_left
  · simp only [Act.put, List.setIfInBounds_toArray, List.set_cons_zero, List.set_cons_succ, i64_w, i32_w]
    rfl
  refine pure_ (i := 2) (N := some 26) (v := ?_) (a' := ?_) #[false, true, true, false, false, false, false, false, false, false, false, false, false, false, false] rfl rfl (by kernel_rfl) (fun _ _ _ h => h) (Or.inl ⟨by rfl, ?_⟩) ?_ ?_
  rotate_left
  · intro w'
    go_simp
    try with_reducible rfl
  rotate_left
  · simp only [Act.put, List.setIfInBounds_toArray, List.set_cons_zero, List.set_cons_succ, i64_w, i32_w]
    rfl
  refine pure_ (i := 5) (N := some 29) (v := ?_) (a' := ?_) #[false, true, true, false, false, true, false, false, false, false, false, false, false, false, false] rfl rfl (by kernel_rfl) (fun _ _ _ h => h) (Or.inl ⟨by rfl, ?_⟩) ?_ ?_
  rotate_left
  · intro w'
    go_simp
    try with_reducible rfl
  rotate_left
  · simp only [Act.put, List.setIfInBounds_toArray, List.set_cons_zero, List.set_cons_succ, i64_w, i32_w]
    rfl
  refine pure_ (i := 7) (N := some 31) (v := ?_) (a' := ?_) #[false, true, true, false, false, true, false, true, false, false, false, false, false, false, false] rfl rfl (by kernel_rfl) (fun _ _ _ h => h) (Or.inl ⟨by rfl, ?_⟩) ?_ ?_
  rotate_left
  · intro w'
    go_simp
    try with_reducible rfl
  rotate_left
  · simp only [Act.put, List.setIfInBounds_toArray, List.set_cons_zero, List.set_cons_succ, i64_w, i32_w]
    rfl
  refine pure_ (i := 9) (N := some 33) (v := ?_) (a' := ?_) #[false, true, true, false, false, true, false, true, false, true, false, false, false, false, false] rfl rfl (by kernel_rfl) (fun _ _ _ h => h) (Or.inl ⟨by rfl, ?_⟩) ?_ ?_
  rotate_left
  · intro w'
    go_simp
    try with_reducible rfl
  rotate_left
  · simp only [Act.put, List.setIfInBounds_toArray, List.set_cons_zero, List.set_cons_succ, i64_w, i32_w]
    rfl
  refine take_ (i := 0) (N := some 24) (v := ?_) (a' := ?_) #[true, true, true, false, false, true, false, true, false, true, false, false, false, false, false] rfl rfl (by kernel_rfl) (fun _ _ _ h => h) (Or.inl ⟨by rfl, ?_⟩) hH ?_ ?_
  rotate_left
  · intro w' hW
    have p0 := below_cell hW C0.out; have p1 := below_cell hW C1.out
    go_simp
    try with_reducible rfl
  rotate_left
  · simp only [Act.put, List.setIfInBounds_toArray, List.set_cons_zero, List.set_cons_succ, i64_w, i32_w]
    rfl
  refine take_ (i := 3) (N := some 27) (v := ?_) (a' := ?_) #[true, true, true, true, false, true, false, true, false, true, false, false, false, false, false] rfl rfl (by kernel_rfl) (fun _ _ _ h => h) (Or.inl ⟨by rfl, ?_⟩) hH ?_ ?_
  rotate_left
  · intro w' hW
    have p0 := below_cell hW C0.out; have p1 := below_cell hW C1.out
    go_simp
    try with_reducible rfl
  rotate_left
  · simp only [Act.put, List.setIfInBounds_toArray, List.set_cons_zero, List.set_cons_succ, i64_w, i32_w]
    rfl
  refine pure_ (i := 4) (N := some 28) (v := ?_) (a' := ?_) #[true, true, true, true, true, true, false, true, false, true, false, false, false, false, false] rfl rfl (by kernel_rfl) (fun _ _ _ h => h) (Or.inl ⟨by rfl, ?_⟩) ?_ ?_
  rotate_left
  · intro w'
    go_simp
    try with_reducible rfl
  rotate_left
  · simp only [Act.put, List.setIfInBounds_toArray, List.set_cons_zero, List.set_cons_succ, i64_w, i32_w]
    rfl
  refine take_ (i := 6) (N := some 30) (v := ?_) (a' := ?_) #[true, true, true, true, true, true, true, true, false, true, false, false, false, false, false] rfl rfl (by kernel_rfl) (fun _ _ _ h => h) (Or.inl ⟨by rfl, ?_⟩) hH ?_ ?_
  rotate_left
  · intro w' hW
    have p0 := below_cell hW C0.out; have p1 := below_cell hW C1.out
    go_simp
    try with_reducible rfl
  rotate_left
  · simp only [Act.put, List.setIfInBounds_toArray, List.set_cons_zero, List.set_cons_succ, i64_w, i32_w]
    rfl
  refine take_ (i := 10) (N := some 34) (v := ?_) (a' := ?_) #[true, true, true, true, true, true, true, true, false, true, true, false, false, false, false] rfl rfl (by kernel_rfl) (fun _ _ _ h => h) (Or.inl ⟨by rfl, ?_⟩) hH ?_ ?_
  rotate_left
  · intro w' hW
    have p0 := below_cell hW C0.out; have p1 := below_cell hW C1.out
    go_simp
    try with_reducible rfl
  rotate_left
  · simp only [Act.put, List.setIfInBounds_toArray, List.set_cons_zero, List.set_cons_succ, i64_w, i32_w]
    rfl
  refine pure_ (i := 11) (N := some 35) (v := ?_) (a' := ?_) #[true, true, true, true, true, true, true, true, false, true, true, true, false, false, false] rfl rfl (by kernel_rfl) (fun _ _ _ h => h) (Or.inl ⟨by rfl, ?_⟩) ?_ ?_
  rotate_left
  · intro w'
    go_simp
    try with_reducible rfl
  rotate_left
  · simp only [Act.put, List.setIfInBounds_toArray, List.set_cons_zero, List.set_cons_succ, i64_w, i32_w]
    rfl
  refine one_ (i := 8) (N := some 32) #[true, true, true, true, true, true, true, true, true, true, true, true, false, false, false] rfl rfl (by kernel_rfl) (by decide) (fun K hK => ?_)
  refine goes_ Try.func28 (by kernel_rfl) rfl #[.agg #[.int .i64 S, .slice A0 l0.length c0], .int .i64 (a1 * S), .int .i64 S, .func (.func 30) #[] #[]] (by rfl) rfl rfl (by simp [Act.eval]) ?_
  refine (FlashA.steps_calls S A0 c0 l0 (a1 * S) S _ _ _ _).mono ?_
  rintro e w5 ⟨B, hB, rfl, b1, b2, b3, b4, hb⟩
  have hH5 : Below w1.heap.size w1 w5 := hH.trans (hb.mono hH.size)
  have B1 := Lib.hid b1
  have B2 := Lib.hid b2
  have B3 := Lib.hid b3
  have B4 := Lib.hid b4
  have HB5 := Lib.hid hH5
  refine ⟨_, rfl, ?_⟩
  clear b1 b2 b3 b4 hb
  refine hK.out _ _ hH5 (fun hH => ?_)
  clear hK K
  refine norm_ (a' := ?_) ?_ ?_
  rotate_left
  · show Act.put _ (some 32) _ = _
    simp only [Act.put, List.setIfInBounds_toArray, List.set_cons_zero, List.set_cons_succ, i64_w, i32_w]
    rfl
  refine one_ (i := 12) (N := some 36) #[true, true, true, true, true, true, true, true, true, true, true, true, true, false, false] rfl rfl (by kernel_rfl) (by decide) (fun K hK => ?_)
  have hlt := blk_lt B4.out
  refine goes_ Try.func27 (by kernel_rfl) rfl #[.func (.func 33) #[] #[.pointer (some ⟨B, 0, none⟩), .pointer (some ⟨B + 1 + 1, 0, none⟩), .pointer (some ⟨B + 1 + 1 + 1, 0, none⟩), .pointer (some ⟨B + 1, 0, none⟩)], .int .i64 (S + 1)] (by rfl) rfl rfl (by simp [Act.eval]) ?_
  have hS : ((S.toNat : Nat) : Int) = S := Int.toNat_of_nonneg (by omega)
  have hcol := FlashC.collect_calls B (B + 1 + 1) (B + 1 + 1 + 1) (B + 1) S A0 c0 l0 (a1 * S) S.toNat 30 #[] (fun _ _ => 255) w5 (Kd.C_below HR1.out hH) hl0 hl1 hat (by rw [hS]; exact hm) (by omega) (by omega) (by omega) (by omega) ⟨B1.out, B2.out, by rw [hS]; exact B3.out, B4.out⟩ (enters_of Try.func30 (by kernel_rfl) rfl) (fun i old W _ _ _ => FlashA.erased_calls i old W)
  rw [hS] at hcol
  refine hcol.mono ?_
  clear hcol hS
  rintro e w6 ⟨v, rfl, hR6, hb6⟩
  have hH6 : Below w1.heap.size w1 w6 := hH.trans (hb6.mono hH.size)
  change Kd.R kF 24 w6 w5.heap.size (fun _ => True) v (memsOf S (fun _ _ => 255) (a1 * S) l0 S.toNat) at hR6
  obtain ⟨A6, c6, rfl⟩ := Kd.R_slice hR6
  have HR6 := Lib.hid hR6
  have HB6 := Lib.hid hH6
  refine ⟨_, rfl, ?_⟩
  clear hR6 hb6
  refine hK.out _ _ hH6 (fun hH => ?_)
  clear hK K
  refine norm_ (a' := ?_) ?_ ?_
  rotate_left
  · show Act.put _ (some 36) _ = _
    simp only [Act.put, List.setIfInBounds_toArray, List.set_cons_zero, List.set_cons_succ, i64_w, i32_w]
    rfl
  refine pure_ (i := 13) (N := some 4) (v := ?_) (a' := ?_) #[true, true, true, true, true, true, true, true, true, true, true, true, true, true, false] rfl rfl (by kernel_rfl) (fun _ _ _ h => h) (Or.inl ⟨by rfl, ?_⟩) ?_ ?_
  rotate_left
  · intro w'
    go_simp
    try with_reducible rfl
  rotate_left
  · simp only [Act.put, List.setIfInBounds_toArray, List.set_cons_zero, List.set_cons_succ, i64_w, i32_w]
    rfl
  refine pure_ (i := 14) (N := some 5) (v := ?_) (a' := ?_) #[true, true, true, true, true, true, true, true, true, true, true, true, true, true, true] rfl rfl (by kernel_rfl) (fun _ _ _ h => h) (Or.inl ⟨by rfl, ?_⟩) ?_ ?_
  rotate_left
  · intro w'
    go_simp
    try with_reducible rfl
  rotate_left
  · simp only [Act.put, List.setIfInBounds_toArray, List.set_cons_zero, List.set_cons_succ, i64_w, i32_w]
    rfl
  refine done_ (by kernel_rfl) ?_
  go_wp2_with fail
  go_ret2
  exact ⟨.slice A6 (memsOf S (fun _ _ => 255) (a1 * S) l0 S.toNat).length c6, rfl, N_of_R (Kd.R_lower HR6.out (Nat.le_trans HB.out.size HB5.out.size)), HB.out.trans (HB6.out.mono HB.out.size)⟩
end Go.Proofs.Ytdblbilgnfomaaa.FlashE
