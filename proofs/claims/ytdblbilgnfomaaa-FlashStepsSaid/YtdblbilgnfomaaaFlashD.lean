/-
  The walks of bytes.Repeat (one byte) and flash.New.
-/
import Derived.Test.YtdblbilgnfomaaaFlashA
import Derived.Shelf.Bits.Mul64
import Derived.Lib.MakeNoZero
import Derived.Laws.CopyOwn
import Derived.Deep.RegionLaw
import Derived.Deep.DeepMust
import Derived.StillTailTactics
namespace Go.Proofs.Ytdblbilgnfomaaa.FlashD
open Go.RowKit Go.Proofs.Ytdblbilgnfomaaa.Kit Go.Proofs.Ytdblbilgnfomaaa.PAll
open Go.Proofs.YtdblbilgnfomaaaW.PrintWords hiding below_alloc below_drew
open Go.Proofs.YtdblbilgnfomaaaW.PrintMore Go.Proofs.YtdblbilgnfomaaaW.PrintLast
attribute [local go_sem] max2_int min2_int max_two min_two
set_option linter.unusedVariables false
set_option linter.unusedSimpArgs false

theorem u64_mask (n : Nat) (hn : n ≤ 100000) : Go.bits .and .u64 (n : Int) 4294967295 = (n : Int) := by
  rw [Mul64.maskN n (by omega), Nat.mod_eq_of_lt (by omega)]
theorem mul64_calls (n : Nat) (hn : n ≤ 100000) (w : World) : Calls Try.prog 36 #[.int .u64 1, .int .u64 n] w fun e w' => e = .returned (.tuple #[.int .u64 0, .int .u64 n]) ∧ w = w' := by
  have e1 := u64_mask n hn
  have e2 : Go.bits .and .u64 1 4294967295 = 1 := by decide
  have e3 : (n : Int) / 4294967296 = 0 := by omega
  have e5 : Go.bits .and .u64 0 4294967295 = 0 := by decide
  have e4 : IntKind.u64.wrap (n : Int) = n := by rw [IntKind.wrap_u64]; omega
  go_enter Try.func36, Try.ntmps36
  go_wp2
  go_ret2
  exact ⟨rfl, rfl⟩
theorem mul_calls (n : Nat) (hn : n ≤ 100000) (w : World) : Calls Try.prog 31 #[.int .u64 1, .int .u64 n] w fun e w' => e = .returned (.tuple #[.int .u64 0, .int .u64 n]) ∧ w = w' := by
  go_enter Try.func31, Try.ntmps31
  go_wp2_with fail
  refine (mul64_calls n hn _).mono ?_
  rintro e w' ⟨rfl, rfl⟩
  go_wp2
  go_ret2
  exact ⟨rfl, rfl⟩

def Rep (W : World) (g n : Nat) (k : Nat) : Prop := ∃ cells : Array Value, W.heap[g]? = some (.cells cells 5 (0, 0)) ∧ n ≤ cells.size ∧ cells.toList.take k = List.replicate k (.int .u8 255)

set_option maxRecDepth 100000 in
set_option maxHeartbeats 1000000 in
theorem repeat_calls (n : Nat) (h1 : 1 ≤ n) (hn : n ≤ 4096) (Bb : Nat) (w : World) (hb : w.cell? ⟨Bb, 0, none⟩ = some (.int .u8 255)) :
    Calls Try.prog 25 #[.slice (some ⟨Bb, 0, none⟩) 1 1, .int .i64 n] w fun e w' => ∃ g, e = .returned (.slice (some ⟨g, 0, none⟩) n n) ∧ w.heap.size ≤ g ∧ Rep w' g n n ∧ Below w.heap.size w w' := by
  obtain ⟨cs, hrunM, hle, hmax⟩ := Lib.run_makeNoZero (P := Try.prog) w #[3] 22 5 Try.underlying22 n (by omega)
  have hcall : (callFunc 32 #[.int .i64 (n : Int)]).run Try.prog w = .ok (.value (.slice (some ⟨w.heap.size, 0, none⟩) n cs.size)) ((w.alloc (.cells cs 5)).drewN 2) := by
    rw [run_callFunc_extern Try.func32 (by kernel_rfl) (by kernel_rfl) (by kernel_rfl) (e := Extern.BytealgMakeNoZero.makeNoZero #[3] #[22]) (by kernel_rfl), hrunM]
    rfl
  clear hrunM
  have d0 : ((n : Int) == 0) = false := by rw [beq_eq_false_iff_ne]; omega
  have i1 : (n : Int) ≤ (cs.size : Int) := by omega
  go_enter Try.func25, Try.ntmps25
  have hg : ((w.alloc (.cells cs 5)).drewN 2).heap[w.heap.size]? = some (.cells cs 5 (0, 0)) := blk_new w (.cells cs 5)
  have hinfo : (Try.prog.info? 5).map (·.size) = some 1 := by kernel_rfl
  have hsrc : ∀ j v, ([.int .u8 255] : List Value)[j]? = some v → ((w.alloc (.cells cs 5)).drewN 2).cell? ((⟨Bb, 0, none⟩ : Addr).add j) = some v := by
    intro j v hj
    have hj0 : j = 0 := by have := (List.getElem?_eq_some_iff.1 hj).1; simpa using this
    subst hj0
    cases hj
    exact cell_alloc _ hb
  have hrep : Rep (((w.alloc (.cells cs 5)).drewN 2).setRow w.heap.size (.int .u8 255 :: cs.toList.tail).toArray) w.heap.size n 1 :=
    ⟨_, setRow_heap _ _ _ _ _ _ hg, by simp; omega, rfl⟩
  have hbel : Below w.heap.size w (((w.alloc (.cells cs 5)).drewN 2).setRow w.heap.size (.int .u8 255 :: cs.toList.tail).toArray) := below_setRow (below_drewN ((Below.refl _ w).alloc (Nat.le_refl _) _) 2) (Nat.le_refl _) _
  have hlen1 : ([.int .u8 255] : List Value).length = Nat.min 1 n := (Nat.min_eq_left h1).symm
  have HREP := Lib.hid hrep
  have HBEL := Lib.hid hbel
  have HSRC := Lib.hid hsrc
  have HG := Lib.hid hg
  clear hrep hbel hsrc hg
  go_wp2_with (first
    | (go_at_call 31; refine (mul_calls n (by omega) _).mono ?_; rintro e w' ⟨rfl, rfl⟩)
    | (with_reducible refine wpList_copy_own rfl (.tmp 58) (.tmp 59) 22 22 rfl 5 Try.underlying22 hinfo w.heap.size 0 n n ⟨Bb, 0, none⟩ 1 1 rfl rfl cs 5 HG.out [.int .u8 255] hlen1 HSRC.out (by simp; omega) (by simp [Value.oneCell']) ?_))
  go_loopw [10] (fun s10 wr => ∃ k : Nat, 1 ≤ k ∧ k ≤ n ∧ s10 = .int .i64 k ∧ Hid (Rep wr w.heap.size n k) ∧ Hid (Below w.heap.size w wr)) (fun s10 _ => n - (intOf s10).toNat)
  case atStart => exact ⟨1, Nat.le_refl _, h1, rfl, HREP, HBEL⟩
  case round =>
    obtain ⟨k, hk1, hk, rfl, HR, HB⟩ := hrel
    clear HREP HBEL
    by_cases hlt : k < n
    · obtain ⟨cells, hg, hcs, htk⟩ := HR.out
      have HG := Lib.hid hg
      have HCS := Lib.hid hcs
      have HTK := Lib.hid htk
      clear hg hcs htk
      have j0 : (0 : Int) ≤ (k : Int) := Int.natCast_nonneg _
      have j1 : (k : Int) ≤ (n : Int) := by omega
      obtain ⟨m, hm⟩ : ∃ m, Nat.min k (n - k) = m := ⟨_, rfl⟩
      have hm1 : 1 ≤ m ∧ m ≤ k ∧ k + m ≤ n ∧ (m = k ∨ k + m = n) := by
        have : min k (n - k) = m := hm
        omega
      obtain ⟨m1, m2, m3, m4⟩ := hm1
      have hcl : (List.replicate m (Value.int .u8 255)).length = Nat.min k (n - k) := by rw [hm, List.length_replicate]
      have hsrc2 : ∀ j v, (List.replicate m (Value.int .u8 255))[j]? = some v → wr.drew.cell? ((⟨w.heap.size, 0, none⟩ : Addr).add j) = some v := by
        intro j v hj
        obtain ⟨hj1, hj2⟩ := List.getElem?_eq_some_iff.1 hj
        rw [List.length_replicate] at hj1
        rw [List.getElem_replicate] at hj2
        have e : (⟨w.heap.size, 0, none⟩ : Addr).add j = ⟨w.heap.size, j, none⟩ := by rw [add_at, Nat.zero_add]
        rw [e]
        show wr.cell? _ = _
        rw [blk_cell HG.out, ← Array.getElem?_toList]
        have h3 : cells.toList[j]? = (cells.toList.take k)[j]? := by rw [List.getElem?_take, if_pos (by omega)]
        rw [h3, HTK.out, List.getElem?_replicate, if_pos (by omega), hj2]
      have hfit : k + (List.replicate m (Value.int .u8 255)).length ≤ cells.toList.length := by have := HCS.out; rw [List.length_replicate, Array.length_toList]; omega
      have hone : ∀ v ∈ List.replicate m (Value.int .u8 255), v.oneCell' = true := fun v hv => by rw [List.eq_of_mem_replicate hv]; rfl
      have hfin : ∀ W2 : World, W2.heap[w.heap.size]? = some (.cells (splice cells.toList k (List.replicate m (Value.int .u8 255))).toArray 5 (0, 0)) → Rep W2 w.heap.size n (k + m) := fun W2 h2 => by
        have hkl : (cells.toList.take k).length = k := by have := HCS.out; rw [List.length_take, Array.length_toList]; omega
        unfold splice at h2
        refine ⟨_, h2, ?_, ?_⟩
        · have := HCS.out
          simp only [List.size_toArray, List.length_append, List.length_replicate, List.length_drop, hkl, Array.length_toList]
          omega
        · show List.take (k + m) (cells.toList.take k ++ (List.replicate m (Value.int .u8 255) ++ cells.toList.drop (k + (List.replicate m (Value.int .u8 255)).length))) = _
          rw [← List.append_assoc, List.take_append_of_le_length (by rw [List.length_append, hkl, List.length_replicate]; omega), HTK.out, List.take_of_length_le (by simp), List.replicate_append_replicate]
      have hgd : wr.drew.heap[w.heap.size]? = some (.cells cells.toList.toArray 5 (0, 0)) := HG.out
      have HFIN := Lib.hid hfin
      have HBEL := Lib.hid HB.out.drew
      have HCL := Lib.hid hcl
      have HSR := Lib.hid hsrc2
      have HFIT := Lib.hid hfit
      have HONE := Lib.hid hone
      have HGD := Lib.hid hgd
      have HM := Lib.hid hm
      have hpos : 0 < (List.replicate m (Value.int .u8 255)).length → (some ⟨w.heap.size, k, none⟩ : Option Addr) = some ⟨w.heap.size, k, none⟩ ∧ ∃ ad, (some ⟨w.heap.size, 0, none⟩ : Option Addr) = some ad ∧ ∀ j v, (List.replicate m (Value.int .u8 255))[j]? = some v → wr.drew.cell? (ad.add j) = some v := fun _ => ⟨rfl, _, rfl, HSR.out⟩
      have HPOS := Lib.hid hpos
      have hlr : (List.replicate m (Value.int .u8 255)).length = m := List.length_replicate
      clear hpos hfin hcl hsrc2 hfit hone hgd hm HTK HCS HG
      have hnk : ¬ n = k := by omega
      have tw : IntKind.i64.wrap ((k : Int) + (m : Int)) = (k : Int) + (m : Int) := Go.IntWalk.i64_in _ (by omega)
      go_upto_region 20 with fail
      refine start_ (n := 10) (S := fun _ => True) (ds := []) #[false, false, false, false, false, false, false, false, false, false] (by kernel_rfl) rfl rfl (trivial) (fun hH => ?_)
      refine pure_ (i := 0) (N := some 67) (v := ?_) (a' := ?_) #[true, false, false, false, false, false, false, false, false, false] rfl rfl (by kernel_rfl) (fun _ _ _ h => h) (Or.inl ⟨by rfl, ?_⟩) ?_ ?_
      rotate_left
      · intro w'
        go_simp
        try with_reducible rfl
      rotate_left
      · simp only [Act.put, List.setIfInBounds_toArray, List.set_cons_zero, List.set_cons_succ, i64_w, i32_w]
        rfl
      refine pure_ (i := 1) (N := some 68) (v := ?_) (a' := ?_) #[true, true, false, false, false, false, false, false, false, false] rfl rfl (by kernel_rfl) (fun _ _ _ h => h) (Or.inl ⟨by rfl, ?_⟩) ?_ ?_
      rotate_left
      · intro w'
        go_simp
        try with_reducible rfl
      rotate_left
      · simp only [Act.put, List.setIfInBounds_toArray, List.set_cons_zero, List.set_cons_succ, i64_w, i32_w]
        rfl
      refine pure_ (i := 2) (N := some 69) (v := ?_) (a' := ?_) #[true, true, true, false, false, false, false, false, false, false] rfl rfl (by kernel_rfl) (fun _ _ _ h => h) (Or.inl ⟨by rfl, ?_⟩) ?_ ?_
      rotate_left
      · intro w'
        go_simp
        try with_reducible rfl
      rotate_left
      · simp only [Act.put, List.setIfInBounds_toArray, List.set_cons_zero, List.set_cons_succ, i64_w, i32_w]
        rfl
      refine pure_ (i := 3) (N := some 70) (v := ?_) (a' := ?_) #[true, true, true, true, false, false, false, false, false, false] rfl rfl (by kernel_rfl) (fun _ _ _ h => h) (Or.inl ⟨by rfl, ?_⟩) ?_ ?_
      rotate_left
      · intro w'
        go_simp
        try with_reducible rfl
      rotate_left
      · simp only [Act.put, List.setIfInBounds_toArray, List.set_cons_zero, List.set_cons_succ, i64_w, i32_w]
        rfl
      refine pure_ (i := 4) (N := some 71) (v := ?_) (a' := ?_) #[true, true, true, true, true, false, false, false, false, false] rfl rfl (by kernel_rfl) (fun _ _ _ h => h) (Or.inl ⟨by rfl, ?_⟩) ?_ ?_
      rotate_left
      · intro w'
        go_simp
        try with_reducible rfl
      rotate_left
      · simp only [Act.put, List.setIfInBounds_toArray, List.set_cons_zero, List.set_cons_succ, i64_w, i32_w]
        rfl
      refine pure_ (i := 5) (N := some 72) (v := ?_) (a' := ?_) #[true, true, true, true, true, true, false, false, false, false] rfl rfl (by kernel_rfl) (fun _ _ _ h => h) (Or.inl ⟨by rfl, ?_⟩) ?_ ?_
      rotate_left
      · intro w'
        go_simp
        try with_reducible rfl
      rotate_left
      · simp only [Act.put, List.setIfInBounds_toArray, List.set_cons_zero, List.set_cons_succ, i64_w, i32_w]
        rfl
      refine pure_ (i := 6) (N := some 73) (v := ?_) (a' := ?_) #[true, true, true, true, true, true, true, false, false, false] rfl rfl (by kernel_rfl) (fun _ _ _ h => h) (Or.inl ⟨by rfl, ?_⟩) ?_ ?_
      rotate_left
      · intro w'
        go_simp
        try with_reducible rfl
      rotate_left
      · simp only [Act.put, List.setIfInBounds_toArray, List.set_cons_zero, List.set_cons_succ, i64_w, i32_w]
        rfl
      refine one_ (i := 7) (N := some 74) #[true, true, true, true, true, true, true, true, false, false] rfl rfl (by kernel_rfl) (by decide) (fun K hK => ?_)
      refine step_copy_splice rfl (.tmp 70) (.tmp 73) 22 22 rfl 5 Try.underlying22 hinfo (some ⟨w.heap.size, k, none⟩) (some ⟨w.heap.size, 0, none⟩) (n - k) (n - k) k n (by rfl) (by rfl) w.heap.size k cells.toList 5 HGD.out (List.replicate m (Value.int .u8 255)) HCL.out HPOS.out HFIT.out HONE.out w.heap.size w HBEL.out (Nat.le_refl _) ?_
      intro w2 hg2 hb2
      rw [hlr]
      have HF2 := Lib.hid (HFIN.out _ hg2.out)
      have HB2 := Lib.hid hb2
      clear hg2 hb2
      refine hK.out _ _ trivial (fun hH => ?_)
      clear hK K
      refine norm_ (a' := ?_) ?_ ?_
      rotate_left
      · show Act.put _ (some 74) _ = _
        simp only [Act.put, List.setIfInBounds_toArray, List.set_cons_zero, List.set_cons_succ, i64_w, i32_w]
        rfl
      refine pure_ (i := 8) (N := some 75) (v := ?_) (a' := ?_) #[true, true, true, true, true, true, true, true, true, false] rfl rfl (by kernel_rfl) (fun _ _ _ h => h) (Or.inl ⟨by rfl, ?_⟩) ?_ ?_
      rotate_left
      · intro w'
        go_simp
        try with_reducible rfl
      rotate_left
      · simp only [Act.put, List.setIfInBounds_toArray, List.set_cons_zero, List.set_cons_succ, i64_w, i32_w]
        rfl
      refine pure_ (i := 9) (N := some 10) (v := ?_) (a' := ?_) #[true, true, true, true, true, true, true, true, true, true] rfl rfl (by kernel_rfl) (fun _ _ _ h => h) (Or.inl ⟨by rfl, ?_⟩) ?_ ?_
      rotate_left
      · intro w'
        go_simp
        try with_reducible rfl
      rotate_left
      · simp only [Act.put, List.setIfInBounds_toArray, List.set_cons_zero, List.set_cons_succ, i64_w, i32_w]
        rfl
      refine done_ (by kernel_rfl) ?_
      clear hlr
      go_wp2_with fail
      go_roundw
      case rel => exact ⟨k + m, by omega, by omega, by go_num, HF2, HB2⟩
      case measure => simp [intOf]; omega
    · obtain rfl : k = n := by omega
      go_wp2_with fail
      go_ret
      exact ⟨_, rfl, Nat.le_refl _, HR.out, HB.out⟩

theorem Rep.C {W : World} {g n : Nat} (h : Rep W g n n) (hn : n ≤ 4096) : Kd.C (Kd.int .u8) W (some ⟨g, 0, none⟩) n (List.replicate n 255) := by
  obtain ⟨cells, hg, hcs, htk⟩ := h
  refine ⟨List.length_replicate, by omega, fun _ => ⟨_, rfl, fun j p hj => ?_⟩⟩
  obtain ⟨hj1, hj2⟩ := List.getElem?_eq_some_iff.1 hj
  rw [List.length_replicate] at hj1
  rw [List.getElem_replicate] at hj2
  subst hj2
  refine ⟨[.int .u8 255], rfl, rfl, fun i u hu => ?_⟩
  have hi : i = 0 := by have := (List.getElem?_eq_some_iff.1 hu).1; simpa using this
  subst hi
  obtain rfl : Value.int .u8 255 = u := by simpa using hu
  have e : (⟨g, 0, none⟩ : Addr).add (j * 1 + 0) = ⟨g, j, none⟩ := by rw [add_at, Nat.zero_add, Nat.mul_one, Nat.add_zero]
  show W.cell? ((⟨g, 0, none⟩ : Addr).add (j * 1 + 0)) = _
  rw [e, blk_cell hg, ← Array.getElem?_toList]
  have h3 : cells.toList[j]? = (cells.toList.take n)[j]? := by rw [List.getElem?_take, if_pos hj1]
  rw [h3, htk, List.getElem?_replicate, if_pos hj1]
theorem Rep.V {W : World} {g n : Nat} {ok : Nat → Prop} (h : Rep W g n n) (hn : n ≤ 4096) (hok : ok g) (hlt : g < W.heap.size) (e base : Nat) : Kd.V (Kd.int .u8) e W base ok (.slice (some ⟨g, 0, none⟩) n n) (List.replicate n 255) := by
  refine ⟨some ⟨g, 0, none⟩, n, by rw [List.length_replicate], by rw [List.length_replicate]; exact Nat.le_refl _, fun W' hW => ?_⟩
  rw [List.length_replicate]
  obtain ⟨cells, hg, h2⟩ := h
  exact Rep.C ⟨cells, (hW g hok hlt).trans hg, h2⟩ hn

def badNew (a0 a1 : Int) : Bool := decide (a0 < 1) || (decide (512 < a0) || (decide (a1 < 1) || decide (4096 / a0 < a1)))
def newF (a0 a1 : Int) : Option (Int × List Int × Int) := if badNew a0 a1 then some (0, [], 1) else some (a0, List.replicate (a0 * a1).toNat 255, 0)

def NewPost (w : World) (r1 : Int) (r2 : List Int) (r3 : Int) (e : Ending) (w' : World) : Prop := ∃ v1_ : Value, e = .returned (.tuple #[.agg #[.int .i64 r1, v1_], .int .i64 r3]) ∧ Kd.V (Kd.int .u8) 5 w' w.heap.size (fun k_ => (w.heap.size ≤ k_)) v1_ r2 ∧ Below w.heap.size w w'
theorem new_bad (a0 a1 : Int) (w : World) (h : badNew a0 a1 = true) : Calls Try.prog 11 #[.int .i64 a0, .int .i64 a1] w (NewPost w 0 [] 1) := by
  have hV : ∀ W : World, Kd.V (Kd.int .u8) 5 W w.heap.size (fun k_ => (w.heap.size ≤ k_)) (.slice none 0 0) ([] : List Int) := fun W => ⟨none, 0, rfl, Nat.le_refl _, fun W' _ => ⟨rfl, by decide, fun h => absurd h (by decide)⟩⟩
  unfold badNew at h
  by_cases h1 : a0 < 1
  · have d1 : decide (a0 < 1) = true := decide_eq_true h1
    clear h
    go_enter Try.func11, Try.ntmps11
    go_wp2
    refine bodyPost_ret (v := .tuple #[.agg #[.int .i64 0, .slice none 0 0], .int .i64 1]) (by simp [results, Try.results11, go_sem]) rfl ?_
    exact ⟨_, rfl, hV _, by repeat (first | exact Below.refl _ _ | apply below_drewN | apply below_alloc)⟩
  · have d1 : decide (a0 < 1) = false := decide_eq_false h1
    rw [d1, Bool.false_or] at h
    by_cases h2 : 512 < a0
    · have d2 : decide (512 < a0) = true := decide_eq_true h2
      clear h
      go_enter Try.func11, Try.ntmps11
      go_wp2
      refine bodyPost_ret (v := .tuple #[.agg #[.int .i64 0, .slice none 0 0], .int .i64 1]) (by simp [results, Try.results11, go_sem]) rfl ?_
      exact ⟨_, rfl, hV _, by repeat (first | exact Below.refl _ _ | apply below_drewN | apply below_alloc)⟩
    · have d2 : decide (512 < a0) = false := decide_eq_false h2
      rw [d2, Bool.false_or] at h
      have hz : ¬ a0 = 0 := by omega
      have hq : (0 : Int) ≤ 4096 / a0 := Int.ediv_nonneg (by omega) (by omega)
      have hq2 : 4096 / a0 ≤ 4096 := Int.ediv_le_self _ (by omega)
      have htd : (4096 : Int).tdiv a0 = 4096 / a0 := Int.tdiv_eq_ediv_of_nonneg (by omega)
      have tq : wrap64 (4096 / a0) = 4096 / a0 := by unfold wrap64; omega
      by_cases h3 : a1 < 1
      · have d3 : decide (a1 < 1) = true := decide_eq_true h3
        clear h
        go_enter Try.func11, Try.ntmps11
        go_wp2
        refine bodyPost_ret (v := .tuple #[.agg #[.int .i64 0, .slice none 0 0], .int .i64 1]) (by simp [results, Try.results11, go_sem]) rfl ?_
        exact ⟨_, rfl, hV _, by repeat (first | exact Below.refl _ _ | apply below_drewN | apply below_alloc)⟩
      · have d3 : decide (a1 < 1) = false := decide_eq_false h3
        rw [d3, Bool.false_or] at h
        have h4 : 4096 / a0 < a1 := of_decide_eq_true h
        go_enter Try.func11, Try.ntmps11
        go_wp2
        refine bodyPost_ret (v := .tuple #[.agg #[.int .i64 0, .slice none 0 0], .int .i64 1]) (by simp [results, Try.results11, go_sem]) rfl ?_
        exact ⟨_, rfl, hV _, by repeat (first | exact Below.refl _ _ | apply below_drewN | apply below_alloc)⟩

theorem new_good (a0 a1 : Int) (w : World) (h : badNew a0 a1 = false) : Calls Try.prog 11 #[.int .i64 a0, .int .i64 a1] w (NewPost w a0 (List.replicate (a0 * a1).toNat 255) 0) := by
  unfold badNew at h
  simp only [Bool.or_eq_false_iff] at h
  obtain ⟨d1, d2, d3, d4⟩ := h
  have h1 : ¬ a0 < 1 := of_decide_eq_false d1
  have h2 : ¬ 512 < a0 := of_decide_eq_false d2
  have h3 : ¬ a1 < 1 := of_decide_eq_false d3
  have h4 : ¬ 4096 / a0 < a1 := of_decide_eq_false d4
  have hle : a0 * a1 ≤ 4096 := by
    have : a1 ≤ 4096 / a0 := by omega
    have h5 := Int.mul_le_mul_of_nonneg_left this (show 0 ≤ a0 by omega)
    have h6 : a0 * (4096 / a0) ≤ 4096 := Int.mul_ediv_self_le (by omega)
    omega
  have hpos : 1 ≤ a0 * a1 := by
    have := Int.mul_le_mul (show 1 ≤ a0 by omega) (show 1 ≤ a1 by omega) (by omega) (by omega)
    omega
  have hz : ¬ a0 = 0 := by omega
  have htd : (4096 : Int).tdiv a0 = 4096 / a0 := Int.tdiv_eq_ediv_of_nonneg (by omega)
  have hq : (0 : Int) ≤ 4096 / a0 := Int.ediv_nonneg (by omega) (by omega)
  have hq2 : 4096 / a0 ≤ 4096 := Int.ediv_le_self _ (by omega)
  obtain ⟨n, hn⟩ := Int.eq_ofNat_of_zero_le (show 0 ≤ a0 * a1 by omega)
  have tq : wrap64 (4096 / a0) = 4096 / a0 := by unfold wrap64; omega
  have tw : wrap64 (a0 * a1) = (n : Int) := by rw [hn]; unfold wrap64; omega
  have HN := Lib.hid hn
  have hn1 : 1 ≤ n := by omega
  have hn2 : n ≤ 4096 := by omega
  have hV : ∀ (W : World) (g : Nat), Rep W g n n → w.heap.size ≤ g → g < W.heap.size → Kd.V (Kd.int .u8) 5 W w.heap.size (fun k_ => (w.heap.size ≤ k_)) (.slice (some ⟨g, 0, none⟩) n n) (List.replicate (a0 * a1).toNat 255) := fun W g hr hg hlt => by
    rw [HN.out, Int.toNat_natCast]; exact hr.V hn2 hg hlt _ _
  have HV := Lib.hid hV
  clear hn hV hle hpos
  go_enter Try.func11, Try.ntmps11
  go_wp2_with fail
  have hc0 := cell_new_at (w.alloc (.cells #[.int .i64 0, .slice none 0 0] 24)) (.int .u8 255) 5 (w.heap.size + 1) (by simp)
  refine (repeat_calls n hn1 hn2 _ _ hc0).mono ?_
  rintro e w2 ⟨g, rfl, hg, hrep, hb2⟩
  have g0 : w2.heap[w.heap.size]? = some (.cells #[.int .i64 0, .slice none 0 0] 24 (0, 0)) := blk_below (blk_alloc (blk_new w _) _) hb2
  have hgs : w.heap.size + 1 + 1 ≤ g := by simpa using hg
  have hglt : g < w2.heap.size := by obtain ⟨cells, hgc, _⟩ := hrep; exact blk_lt hgc
  have hbw : Below w.heap.size w w2 := (((Below.refl _ w).alloc (Nat.le_refl _) _).alloc (by simp) _).trans (hb2.mono (by simp; omega))
  have p0 : w2.cell? ⟨w.heap.size, 0, none⟩ = some (.int .i64 0) := by rw [blk_cell g0]; rfl
  have p1 : w2.cell? ⟨w.heap.size, 1, none⟩ = some (.slice none 0 0) := by rw [blk_cell g0]; rfl
  have f0 := blk_frozen g0 0
  have f1 := blk_frozen g0 1
  have hrep2 : Rep ((w2.setCell ⟨w.heap.size, 0, none⟩ (.int .i64 a0)).setCell ⟨w.heap.size, 1, none⟩ (.slice (some ⟨g, 0, none⟩) n n)) g n n := by
    obtain ⟨cells, hgc, h2⟩ := hrep
    exact ⟨cells, (Below.heap_setCell _ _ _ _ (by show g ≠ w.heap.size; omega)).trans ((Below.heap_setCell _ _ _ _ (by show g ≠ w.heap.size; omega)).trans hgc), h2⟩
  have g1 := blk_put (cs := #[.int .i64 0, .slice none 0 0]) g0 0 (.int .i64 a0) rfl
  have g2 := blk_put g1 1 (.slice (some ⟨g, 0, none⟩) n n) rfl
  have HREP := Lib.hid hrep2
  have HBW := Lib.hid hbw
  have q0 : ((w2.setCell ⟨w.heap.size, 0, none⟩ (.int .i64 a0)).setCell ⟨w.heap.size, 1, none⟩ (.slice (some ⟨g, 0, none⟩) n n)).cell? ⟨w.heap.size, 0, none⟩ = some (.int .i64 a0) := by rw [blk_cell g2]; rfl
  have q1 : ((w2.setCell ⟨w.heap.size, 0, none⟩ (.int .i64 a0)).setCell ⟨w.heap.size, 1, none⟩ (.slice (some ⟨g, 0, none⟩) n n)).cell? ⟨w.heap.size, 1, none⟩ = some (.slice (some ⟨g, 0, none⟩) n n) := by rw [blk_cell g2]; rfl
  clear hrep hrep2 hbw hb2 hc0 g0 g1 g2 hg
  go_wp2_with fail
  refine bodyPost_ret (v := .tuple #[.agg #[.int .i64 a0, .slice (some ⟨g, 0, none⟩) n n], .int .i64 0]) (by simp [results, Try.results11, go_sem, q0, q1]) rfl ?_
  exact ⟨_, rfl, HV.out _ g HREP.out (by omega) (by simpa [World.size_setCell] using hglt), (HBW.out.setCell (p := ⟨w.heap.size, 0, none⟩) (Nat.le_refl _) _).setCell (p := ⟨w.heap.size, 1, none⟩) (Nat.le_refl _) _⟩

theorem new_ext (a0 : Int) (a1 : Int) (r1 : Int) (r2 : List Int) (r3 : Int) (w : World) (h : newF a0 a1 = some (r1, r2, r3)) :
    Calls Try.prog 11 #[.int .i64 a0, .int .i64 a1] w fun e w' => ∃ v1_ : Value, e = .returned (.tuple #[.agg #[.int .i64 r1, v1_], .int .i64 r3]) ∧ Kd.V (Kd.int .u8) 5 w' w.heap.size (fun k_ => (w.heap.size ≤ k_)) v1_ r2 ∧ Below w.heap.size w w' := by
  unfold newF at h
  cases b : badNew a0 a1
  · rw [b] at h; cases h; exact new_good a0 a1 w b
  · rw [b] at h; cases h; exact new_bad a0 a1 w b
end Go.Proofs.Ytdblbilgnfomaaa.FlashD
