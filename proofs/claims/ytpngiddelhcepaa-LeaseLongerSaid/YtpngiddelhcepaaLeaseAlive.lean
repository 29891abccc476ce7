/-
  The walk of lease.Alive.
-/
import Derived.Test.YtpngiddelhcepaaLeaseCollect
import Derived.Test.YtpngiddelhcepaaRound
namespace Go.Proofs.Ytpngiddelhcepaa.LeaseWalk
open Go.RowKit Go.Shelf Go.Proofs.Ytpngiddelhcepaa.Kit Go.Proofs.Ytpngiddelhcepaa.PAll
open Go.Proofs.YtpngiddelhcepaaW.PrintWords hiding below_alloc below_drew
set_option linter.unusedVariables false
set_option linter.unusedSimpArgs false
attribute [local go_sem] Oper.semAt_some

theorem foreign_calls (x : Ls) (ch : Int) (B : Nat) (w : World) (hc : w.cell? ⟨B, 0, none⟩ = some (.int .i64 ch)) :
    Calls Try.prog 27 #[.agg #[.int .i64 x.f0, .int .i64 x.f1, .int .i64 x.f2, .int .i64 x.f3, .int .i64 x.f4], .pointer (some ⟨B, 0, none⟩)] w fun e w' => e = .returned (.bool (decide (ch ≤ x.f1))) ∧ Below w.heap.size w w' := by
  have h1 := cell_alloc (.cells #[.int .i64 x.f0, .int .i64 x.f1, .int .i64 x.f2, .int .i64 x.f3, .int .i64 x.f4] 24) hc
  go_enter Try.func27, Try.ntmps27
  go_wp2
  go_ret
  exact ⟨rfl, by repeat (first | exact Below.refl _ _ | apply below_drewN | apply below_alloc)⟩

def anyFrom (ch : Int) (l : List Ls) : Bool := l.any fun x => decide (ch ≤ x.f1)
def idxFrom (ch : Int) (l : List Ls) : Int := match l.findIdx? (fun x => decide (ch ≤ x.f1)) with | some i => (i : Int) | none => -1

set_option maxRecDepth 100000 in
set_option maxHeartbeats 1000000 in
theorem index_calls (A0 : Option Addr) (c0 : Nat) (l0 : List Ls) (ch : Int) (B : Nat) (w : World) (hr0 : Kd.C kL w A0 l0.length l0) (hl : l0.length ≤ 64) (hc : w.cell? ⟨B, 0, none⟩ = some (.int .i64 ch)) :
    Calls Try.prog 37 #[.slice A0 l0.length c0, .func (.func 27) #[] #[.pointer (some ⟨B, 0, none⟩)]] w
      fun e w' => (∃ i : Int, e = .returned (.int .i64 i) ∧ decide (0 ≤ i) = anyFrom ch l0) ∧ Below w.heap.size w w' := by
  have HR := Lib.hid hr0
  have HC := Lib.hid hc
  clear hr0 hc
  have hen : ∀ args w, (callFunc 27 args).run Try.prog w = .ok (.enter 27 args) w := enters_of Try.func27 (by kernel_rfl) rfl
  go_enter Try.func37, Try.ntmps37
  go_wp2_with fail
  go_loopw [8] (fun s8 wr => ∃ k : Nat, k ≤ l0.length ∧ s8 = .int .i64 k ∧ Hid (anyFrom ch (l0.take k) = false) ∧ Hid (Below w.heap.size w wr)) (fun s8 _ => l0.length - (intOf s8).toNat)
  case atStart => exact ⟨0, Nat.zero_le _, rfl, by exact rfl, Below.refl _ _⟩
  case round =>
    obtain ⟨k, hk, rfl, HF, HB⟩ := hrel
    by_cases hlt : k < l0.length
    · have hC := Kd.C_below HR.out HB.out
      obtain ⟨ad, rfl, x0, x1, x2, x3, x4⟩ := at_T24 hC k (Int.natCast_nonneg _) (by omega)
      generalize hrr : rd_T24 l0 (k : Int) = r at *
      simp only [Int.toNat_natCast] at x0 x1 x2 x3 x4
      have hr : l0[k]? = some r := by
        rw [← hrr]; unfold rd_T24
        rw [List.getD_eq_getElem?_getD, Int.toNat_natCast, List.getElem?_eq_getElem hlt]; rfl
      have htk : l0.take (k + 1) = l0.take k ++ [r] := by rw [List.take_add_one, hr]; rfl
      have hmem := List.mem_of_getElem? hr
      have j0 : (0 : Int) ≤ (k : Int) := Int.natCast_nonneg _
      have j1 : (k : Int) < (l0.length : Int) := by omega
      have hcall := fun W (hw : Below w.heap.size w W) => foreign_calls r ch B W (below_cell hw HC.out)
      have HB1 := Lib.hid HB.out
      cases b : decide (ch ≤ r.f1)
      · rw [b] at hcall
        have hF : anyFrom ch (l0.take (k + 1)) = false := by rw [htk]; unfold anyFrom at HF ⊢; rw [List.any_append, HF.out]; simp [b]
        have HCALL := Lib.hid hcall
        have HF2 := Lib.hid hF
        clear hcall hF b htk hmem hr hrr hC
        go_wp2_with fail
        refine (HCALL.out _ HB1.out).mono ?_
        rintro e w1 ⟨rfl, hb⟩
        have HB2 := Lib.hid (HB.out.trans (hb.mono HB.out.size))
        clear hb
        go_wp2_with fail
        go_roundw
        case rel => exact ⟨k + 1, by omega, by go_num, HF2, HB2⟩
        case measure => simp [intOf]; omega
      · rw [b] at hcall
        have hF : anyFrom ch l0 = true := by unfold anyFrom; rw [List.any_eq_true]; exact ⟨r, hmem, b⟩
        have HCALL := Lib.hid hcall
        have HF2 := Lib.hid hF
        clear hcall hF b htk hmem hr hrr hC
        go_wp2_with fail
        refine (HCALL.out _ HB1.out).mono ?_
        rintro e w1 ⟨rfl, hb⟩
        have HB2 := Lib.hid (HB.out.trans (hb.mono HB.out.size))
        clear hb
        go_wp2_with fail
        go_ret
        exact ⟨⟨_, rfl, by rw [HF2.out]; simp⟩, HB2.out⟩
    · obtain rfl : k = l0.length := by omega
      have hF := HF.out
      rw [List.take_length] at hF
      have HF2 := Lib.hid hF
      clear hF
      go_wp2_with fail
      go_ret
      exact ⟨⟨_, rfl, by rw [HF2.out]; rfl⟩, HB.out⟩

theorem contains_calls (A0 : Option Addr) (c0 : Nat) (l0 : List Ls) (ch : Int) (B : Nat) (w : World) (hr0 : Kd.C kL w A0 l0.length l0) (hl : l0.length ≤ 64) (hc : w.cell? ⟨B, 0, none⟩ = some (.int .i64 ch)) :
    Calls Try.prog 29 #[.slice A0 l0.length c0, .func (.func 27) #[] #[.pointer (some ⟨B, 0, none⟩)]] w
      fun e w' => e = .returned (.bool (anyFrom ch l0)) ∧ Below w.heap.size w w' := by
  have hI := index_calls A0 c0 l0 ch B w hr0 hl hc
  have HI := Lib.hid hI
  clear hI hr0 hc
  go_enter Try.func29, Try.ntmps29
  go_wp2_with fail
  refine HI.out.mono ?_
  rintro e w1 ⟨⟨i, rfl, hi⟩, hb⟩
  have HB := Lib.hid hb
  have HII := Lib.hid hi
  clear hb hi
  go_wp2_with fail
  go_ret
  exact ⟨by rw [← HII.out]; rfl, HB.out⟩

/-! ### Alive -/
def outStep (tick : Int) (out : List Int) (x : Ls) : List Int := if x.f3 ≤ tick then out.set x.f1.toNat (max (rd out x.f1) x.f2) else out
def outOf (n : Nat) (tick : Int) (l : List Ls) : List Int := l.foldl (outStep tick) (List.replicate n 0)
theorem outOf_snoc (n : Nat) (tick : Int) (l : List Ls) (x : Ls) : outOf n tick (l ++ [x]) = outStep tick (outOf n tick l) x := by simp [outOf, List.foldl_append]
theorem outStep_length (tick : Int) (out : List Int) (x : Ls) : (outStep tick out x).length = out.length := by unfold outStep; split <;> simp
theorem outOf_length (n : Nat) (tick : Int) (l : List Ls) : (outOf n tick l).length = n := by
  suffices H : ∀ (l : List Ls) (out : List Int), (l.foldl (outStep tick) out).length = out.length by unfold outOf; rw [H]; simp
  intro l
  induction l with
  | nil => intro out; rfl
  | cons x l ih => intro out; rw [List.foldl_cons, ih, outStep_length]
def aliveR (l : List Ls) (ch tick : Int) : List Int × Int :=
  if validL l && (inI ch 0 16 && (!anyFrom ch l && inI tick 0 1100000)) then (outOf ch.toNat tick (aliveL tick l), 0) else ([], 1)

/-- Block B holds whole numbers. -/
def Ints (W : World) (B : Nat) (xs : List Int) : Prop := ∃ cells : Array Value, W.heap[B]? = some (.cells cells 3 (0, 0)) ∧ cells.toList = xs.map (.int .i64)
theorem Ints.get {W : World} {B : Nat} {xs : List Int} (h : Ints W B xs) (i : Int) (h0 : 0 ≤ i) (h1 : i < xs.length) : W.cell? ⟨B, i.toNat, none⟩ = some (.int .i64 (rd xs i)) := by
  obtain ⟨cells, hb, hc⟩ := h
  rw [blk_cell hb, ← Array.getElem?_toList, hc, List.getElem?_map, List.getElem?_eq_getElem (show i.toNat < xs.length by omega)]
  unfold rd
  rw [List.getD_eq_getElem?_getD, List.getElem?_eq_getElem (show i.toNat < xs.length by omega)]
  rfl
theorem Ints.open_ {W : World} {B : Nat} {xs : List Int} (h : Ints W B xs) (i : Nat) : W.frozen? ⟨B, i, none⟩ = false := by
  obtain ⟨cells, hb, hc⟩ := h
  exact blk_frozen hb i
theorem Ints.lt {W : World} {B : Nat} {xs : List Int} (h : Ints W B xs) : B < W.heap.size := by
  obtain ⟨cells, hb, hc⟩ := h
  exact blk_lt hb
theorem Ints.heap {W W' : World} {B : Nat} {xs : List Int} (h : Ints W B xs) (e : W'.heap[B]? = W.heap[B]?) : Ints W' B xs := by
  obtain ⟨cells, hb, hc⟩ := h
  exact ⟨cells, e.trans hb, hc⟩
theorem Ints.alloc {W : World} {B : Nat} {xs : List Int} (h : Ints W B xs) (o : Obj) : Ints (W.alloc o) B xs := by
  obtain ⟨cells, hb, hc⟩ := h
  exact ⟨cells, blk_alloc hb o, hc⟩
theorem Ints.put {W : World} {B : Nat} {xs : List Int} (h : Ints W B xs) (i : Nat) (v : Int) : Ints (W.setCell ⟨B, i, none⟩ (.int .i64 v)) B (xs.set i v) := by
  obtain ⟨cells, hb, hc⟩ := h
  exact ⟨_, blk_set hb i _, by rw [Array.toList_setIfInBounds, hc, List.map_set]⟩
theorem Ints.R {W : World} {B base : Nat} {xs : List Int} (h : Ints W B xs) (hb : base ≤ B) (hm : xs.length ≤ maxLen) : Kd.R (Kd.int .i64) 3 W base (fun _ => True) (.slice (some ⟨B, 0, none⟩) xs.length xs.length) xs := by
  obtain ⟨cells, hh, hc⟩ := h
  refine Kd.R_of_own (enc := Value.int .i64) (h1 := fun _ => rfl) ⟨by simp [encs], .inr ⟨B, xs.length, cells, rfl, hb, hh, Nat.le_refl _, hm, ?_, ?_⟩⟩ (fun _ _ => trivial)
  · rw [← Array.length_toList, hc]; simp
  · rw [hc, Nat.mul_one, List.take_of_length_le (by simp)]; rfl
theorem Ints.own (B : Nat) {β : Type} (f : β → List Int) : Own (fun (s : β) W => Ints W B (f s)) := fun s X Y row hs hg hrow =>
  hs.heap (hg.block B hs.lt (fun e' => by obtain ⟨o, ho, hc⟩ := hrow B e'.symm; obtain ⟨cells, hb, _⟩ := hs; rw [hb] at ho; cases ho; cases hc))
theorem make_run (n : Int) (h0 : 0 ≤ n) (h1 : n ≤ 1000) (W : World) : (Instr.makeSlice 29 (.int .i64 n) (.int .i64 n)).run Try.prog W = .ok (.slice (some ⟨W.heap.size, 0, none⟩) n.toNat n.toNat) (W.alloc (.cells (madeCells #[.int .i64 0] n.toNat) 3)) := by
  obtain ⟨i0, hi, hz⟩ := Option.map_eq_some_iff.1 info3
  simp only [Prod.mk.injEq] at hz
  have := run_make (P := Try.prog) W 29 3 i0 (.int .i64 0) Try.underlying29 hi hz.1 .i64 .i64 n n h0 (Int.le_refl _) (by rw [hz.2.2]; omega) (by omega)
  rw [hz.2.1, Nat.mul_one] at this
  exact this
theorem Ints.made (W : World) (n : Nat) : Ints (W.alloc (.cells (madeCells #[.int .i64 0] n) 3)) W.heap.size (List.replicate n 0) := by
  refine ⟨_, blk_new _ _, ?_⟩
  apply List.ext_getElem
  · simp [size_madeCells]
  · intro i h1 h2
    simp [madeCells, Nat.mod_one]

def AlivePost (w : World) (r : List Int × Int) (e : Ending) (w' : World) : Prop := ∃ v0_ : Value, e = .returned (.tuple #[v0_, .int .i64 r.2]) ∧ Kd.R (Kd.int .i64) 3 w' w.heap.size (fun _ => True) v0_ r.1 ∧ Below w.heap.size w w'

set_option maxRecDepth 100000 in
set_option maxHeartbeats 2000000 in
theorem alive_go (A0 : Option Addr) (c0 : Nat) (l0 : List Ls) (ch tick : Int) (w : World) (hr0 : Kd.C kL w A0 l0.length l0) (hc0 : l0.length ≤ c0)
    (b : validL l0 = true) (b2 : inI ch 0 16 = true) (b3 : anyFrom ch l0 = false) (b4 : inI tick 0 1100000 = true) :
    Calls Try.prog 13 #[.slice A0 l0.length c0, .int .i64 ch, .int .i64 tick] w (AlivePost w (outOf ch.toNat tick (aliveL tick l0), 0)) := by
  obtain ⟨hl, hone⟩ := valid_all b
  have hv := fun w hr => valid_calls A0 c0 l0 w hr hc0
  have hi := fun w => inside_calls ch 0 16 w
  have hk := fun W hr hc => contains_calls A0 c0 l0 ch w.heap.size W hr hl hc
  have hj := fun w => inside_calls tick 0 1100000 w
  rw [b] at hv
  rw [b2] at hi
  rw [b3] at hk
  rw [b4] at hj
  have hch : 0 ≤ ch ∧ ch ≤ 16 := by unfold inI at b2; simpa using b2
  have ht : 0 ≤ tick ∧ tick ≤ 1100000 := by unfold inI at b4; simpa using b4
  have hany : ∀ x ∈ l0, x.f1 < ch := fun x hx => by
    have := b3; unfold anyFrom at this; rw [List.any_eq_false] at this
    have := this x hx
    simpa using this
  have HR := Lib.hid hr0
  have HV := Lib.hid hv
  have HI := Lib.hid hi
  have HK := Lib.hid hk
  have HJ := Lib.hid hj
  have HONE := Lib.hid hone
  have HANY := Lib.hid hany
  clear hr0 hv hi hk hj hone b b2 b3 b4 hany
  obtain ⟨ch0, ch1⟩ := hch
  have hmk := make_run ch ch0 (by omega)
  have hmf : ∀ (fn : Fn) (first cap : Array Value) (w : World), (Instr.makeFunc fn first cap).run Try.prog w = .ok (.func fn first cap) w := fun _ _ _ _ => rfl
  refine (callsIn_wide (n := 4)).1 ?_
  refine callsIn_of_wp_marks Try.func13 rfl trivial ?_ rfl
  simp only [Try.ntmps13, List.size_toArray, List.length_cons, List.length_nil, Nat.reduceAdd, Nat.reduceSub, Array.replicate_succ, Array.replicate_zero, List.push_toArray, List.append_toArray, List.nil_append, List.cons_append]
  gi_wp2_with fail
  refine ⟨trivial, ?_⟩
  refine (callsIn_wide.2 (HV.out _ (Kd.C_alloc (Kd.C_alloc HR.out _) _))).mono ?_
  rintro e w1 ⟨rfl, hb1⟩
  have bC : Boxed w1 w.heap.size 3 (.int .i64 ch) := boxed_below ((Boxed.new w _ _).alloc _) hb1
  have bT : Boxed w1 (w.heap.size + 1) 3 (.int .i64 tick) := boxed_below (by have := Boxed.new (w.alloc (.cells #[.int .i64 ch] 3)) 3 (.int .i64 tick); rwa [World.size_alloc] at this) hb1
  have hB1 : Below w.heap.size w w1 := (((Below.refl _ w).alloc (Nat.le_refl _) _).alloc (by simp) _).trans (hb1.mono (by simp; omega))
  have cC := bC.cell
  have HB1 := Lib.hid hB1
  have BC := Lib.hid bC
  have BT := Lib.hid bT
  clear hb1 hB1 bC bT
  gi_wp2_with fail
  refine ⟨trivial, ?_⟩
  refine (callsIn_wide.2 (HI.out _)).mono ?_
  rintro e w2 ⟨rfl, m2, rfl⟩
  have bC2 : Boxed (w1.drewN m2) w.heap.size 3 (.int .i64 ch) := BC.out
  gi_wp2_with fail
  refine ⟨trivial, ?_⟩
  refine (callsIn_wide.2 (HK.out _ (Kd.C_below HR.out (below_drewN HB1.out m2)) bC2.cell)).mono ?_
  rintro e w3 ⟨rfl, hb3⟩
  have bC3 := boxed_below bC2 hb3
  have bT3 := boxed_below (show Boxed (w1.drewN m2) _ _ _ from BT.out) hb3
  have cT3 := bT3.cell
  have hB3 : Below w.heap.size w w3 := (below_drewN HB1.out m2).trans (hb3.mono HB1.out.size)
  have HB3 := Lib.hid hB3
  have BC3 := Lib.hid bC3
  have BT3 := Lib.hid bT3
  clear hb3 hB3 bC3 bT3 bC2 cC
  gi_wp2_with fail
  refine ⟨trivial, ?_⟩
  refine (callsIn_wide.2 (HJ.out _)).mono ?_
  rintro e w4 ⟨rfl, m4, rfl⟩
  have bC4 : Boxed (w3.drewN m4) w.heap.size 3 (.int .i64 ch) := BC3.out
  have bT4 : Boxed (w3.drewN m4) (w.heap.size + 1) 3 (.int .i64 tick) := BT3.out
  have hB4 : Below w.heap.size w (w3.drewN m4) := below_drewN HB3.out m4
  generalize w3.drewN m4 = W4 at *
  have cC4 := bC4.cell
  clear cT3 HB3 BC3 BT3 HB1 BC BT HV HI HK HJ
  have hI5 := Ints.made W4 ch.toNat
  have bT5 : Boxed ((W4.alloc (.cells (madeCells #[.int .i64 0] ch.toNat) 3)).alloc (.cells #[.slice (some ⟨W4.heap.size, 0, none⟩) ch.toNat ch.toNat] 29)) (w.heap.size + 1) 3 (.int .i64 tick) := (bT4.alloc _).alloc _
  have cT5 := bT5.cell
  have BT4 := Lib.hid bT4
  have BT5 := Lib.hid bT5
  have HI5 := Lib.hid hI5
  have HB4 := Lib.hid hB4
  clear bC4 bT4 bT5 hI5 hB4
  have bO5 : Boxed ((W4.alloc (.cells (madeCells #[.int .i64 0] ch.toNat) 3)).alloc (.cells #[.slice (some ⟨W4.heap.size, 0, none⟩) ch.toNat ch.toNat] 29)) (W4.heap.size + 1) 29 (.slice (some ⟨W4.heap.size, 0, none⟩) ch.toNat ch.toNat) := by
    have := Boxed.new (W4.alloc (.cells (madeCells #[.int .i64 0] ch.toNat) 3)) 29 (.slice (some ⟨W4.heap.size, 0, none⟩) ch.toNat ch.toNat)
    rwa [World.size_alloc] at this
  have hI5' := HI5.out.alloc (.cells #[.slice (some ⟨W4.heap.size, 0, none⟩) ch.toNat ch.toNat] 29)
  have hz4 := HB4.out.size
  have hB5 : Below w.heap.size w ((W4.alloc (.cells (madeCells #[.int .i64 0] ch.toNat) 3)).alloc (.cells #[.slice (some ⟨W4.heap.size, 0, none⟩) ch.toNat ch.toNat] 29)) := (HB4.out.alloc hz4 _).alloc (by simp; omega) _
  have hs5 : ((W4.alloc (.cells (madeCells #[.int .i64 0] ch.toNat) 3)).alloc (.cells #[.slice (some ⟨W4.heap.size, 0, none⟩) ch.toNat ch.toNat] 29)).heap.size = W4.heap.size + 2 := by simp
  have BO5 := Lib.hid bO5
  have HI5' := Lib.hid hI5'
  have HB5 := Lib.hid hB5
  have HS5 := Lib.hid hs5
  have hT4 : w.heap.size + 1 < W4.heap.size := BT4.out.lt
  clear bO5 hI5' hB5 hs5 HI5
  gi_wp2_with fail
  refine ⟨trivial, ?_⟩
  obtain ⟨W5, hW5⟩ : ∃ W5, (W4.alloc (.cells (madeCells #[.int .i64 0] ch.toNat) 3)).alloc (.cells #[.slice (some ⟨W4.heap.size, 0, none⟩) ch.toNat ch.toNat] 29) = W5 := ⟨_, rfl⟩
  rw [hW5] at BO5 HI5' HB5 HS5 BT5 cT5 ⊢
  refine (callsIn_wide.2 (until_calls A0 l0.length c0 tick _)).mono ?_
  rintro e W6 ⟨rfl, hW6⟩
  have bL6 : Boxed W6 W5.heap.size 22 (.slice A0 l0.length c0) := by rw [hW6]; exact (Boxed.new W5 _ _).alloc _
  have bT6 : Boxed W6 (W5.heap.size + 1) 3 (.int .i64 tick) := by
    rw [hW6]; have := Boxed.new (W5.alloc (.cells #[.slice A0 l0.length c0] 22)) 3 (.int .i64 tick); rwa [World.size_alloc] at this
  have bO6 : Boxed W6 (W4.heap.size + 1) 29 (.slice (some ⟨W4.heap.size, 0, none⟩) ch.toNat ch.toNat) := by rw [hW6]; exact (BO5.out.alloc _).alloc _
  have bK6 : Boxed W6 (w.heap.size + 1) 3 (.int .i64 tick) := by rw [hW6]; exact (BT5.out.alloc _).alloc _
  have hI6 : Ints W6 W4.heap.size (List.replicate ch.toNat 0) := by rw [hW6]; exact (HI5'.out.alloc _).alloc _
  have hB6 : Below w.heap.size w W6 := by rw [hW6]; exact (HB5.out.alloc HB5.out.size _).alloc (by have := HB5.out.size; simp; omega) _
  have hs6 : W6.heap.size = W5.heap.size + 2 := by rw [hW6]; simp
  have hs5 := HS5.out
  have hseq := until_stopsP (fun x => oneL x = true ∧ x.f1 < ch) (4 - 1) (by omega) W5.heap.size (W5.heap.size + 1) A0 c0 l0 tick w W6 HR.out HONE.out (fun x hx => ⟨HONE.out x hx, HANY.out x hx⟩) hl ht hB6 (by omega) (by omega) bL6.cell bT6
  have HSEQ := Lib.hid hseq
  have BO6 := Lib.hid bO6
  have BK6 := Lib.hid bK6
  have HI6 := Lib.hid hI6
  have HB6 := Lib.hid hB6
  have HS6 := Lib.hid hs6
  clear hs5 hs6 hseq hW6 hW5 bL6 bT6 bO6 bK6 hI6 hB6 cT5 cC4 hmk HB4 BT4 BT5 BO5 HI5' HB5
  gi_wp2_with fail
  refine wpIn_rangeFunc_ownH rfl (by omega) (gf := 38) (lb := #[.pointer (some ⟨W5.heap.size, 0, none⟩), .pointer (some ⟨W5.heap.size + 1, 0, none⟩)]) rfl trivial (enters_of Try.func38 (by kernel_rfl) rfl)
    HSEQ.out KpT.trans (KpT.put (by have := HS5.out; have := HS6.out; omega) (by have := HS6.out; omega)) (Below.refl _ _) (fun _ => rfl)
    (fun pre W => ((Boxed W (W4.heap.size + 1) 29 (.slice (some ⟨W4.heap.size, 0, none⟩) ch.toNat ch.toNat) ∧ Ints W W4.heap.size (outOf ch.toNat tick (pre.map (·.1)))) ∧ Boxed W (w.heap.size + 1) 3 (.int .i64 tick)) ∧ Below w.heap.size w W)
    (fun _ _ _ => False)
    (OwnFrom.and (OwnFrom.and (OwnFrom.and (Own.from (boxed_own _ _ _) _) (Own.from (Ints.own W4.heap.size (fun pre : List { x : Ls // oneL x = true ∧ x.f1 < ch } => outOf ch.toNat tick (pre.map (·.1)))) _)) (Own.from (boxed_own _ _ _) _)) (ownFrom_below (Nat.le_refl _) (by have := HS5.out; have := HS6.out; omega)))
    (fun _ _ _ _ _ hs _ _ => hs)
    ⟨⟨⟨BO6.out, HI6.out⟩, BK6.out⟩, HB6.out⟩
    (fun x a' W => ∃ Bx, W4.heap.size + 1 < Bx ∧ LBox W Bx x.1 ∧ a' = { tmps := #[.slice A0 l0.length c0, .int .i64 ch, .int .i64 tick, undef, .pointer (some ⟨w.heap.size, 0, none⟩), .pointer (some ⟨w.heap.size + 1, 0, none⟩), .slice none 0 0, .int .i64 0, .func (.func 27) #[] #[.pointer (some ⟨w.heap.size, 0, none⟩)], .pointer (some ⟨W4.heap.size + 1, 0, none⟩), .pointer (some ⟨Bx, 0, none⟩), .func (.func 27) #[] #[.pointer (some ⟨w.heap.size, 0, none⟩)], .slice A0 l0.length c0, .bool true, .bool false, .bool false, .int .i64 ch, .bool true, .bool false, .bool false, .bool false, .slice A0 l0.length c0, .func (.func 27) #[] #[.pointer (some ⟨w.heap.size, 0, none⟩)], .bool false, .bool false, .bool false, .int .i64 tick, .bool true, .bool false, .bool false, .int .i64 ch, .slice (some ⟨W4.heap.size, 0, none⟩) ch.toNat ch.toNat, .slice A0 l0.length c0, .int .i64 tick, .func (.func 38) #[] #[.pointer (some ⟨W5.heap.size, 0, none⟩), .pointer (some ⟨W5.heap.size + 1, 0, none⟩)], .agg #[.int .i64 x.1.f0, .int .i64 x.1.f1, .int .i64 x.1.f2, .int .i64 x.1.f3, .int .i64 x.1.f4], undef, undef, undef, undef, undef, undef, undef, undef, undef, undef, undef, undef, undef, undef, undef, undef, undef], defers := [] })
    (fun x a' _ X Y row hs hg hr => by obtain ⟨Bx, h1, h2, h3⟩ := hs; exact ⟨Bx, h1, lbox_own Bx x.1 () X Y row h2 hg (fun r e => (hr r e).2), h3⟩)
    ?assign ?body ?done ?stop
  case assign =>
    rintro l pre x W K ⟨⟨⟨hO, hI⟩, hT⟩, hB⟩ hK
    have HKK := Lib.hid hK
    have HOO := Lib.hid hO
    have HII := Lib.hid hI
    have HTT := Lib.hid hT
    clear hK hO hI hT
    gi_wp2
    exact HKK.out _ _ ((KeepsOthers.alloc _ _).from _) ⟨(Below.refl _ W).alloc hB.size _, fun v h => h.alloc _⟩ ⟨⟨⟨HOO.out.alloc _, HII.out.alloc _⟩, HTT.out.alloc _⟩, hB.alloc hB.size _⟩ ⟨W.heap.size, HOO.out.lt, blk_new _ _, rfl⟩
  case body =>
    rintro l pre x a' W hl_ ⟨r, hr⟩ ⟨⟨⟨hO, hI⟩, hT⟩, hB⟩ ⟨Bx, hBx, hX, rfl⟩ hlt
    obtain ⟨x, hx, hxc⟩ := x
    obtain ⟨_, ⟨f10, f11⟩, ⟨f20, f21⟩, ⟨f30, f31⟩, f40, f41⟩ := oneL_bounds hx
    dsimp only at hX ⊢
    have hlen := outOf_length ch.toNat tick (pre.map (·.1))
    have hc := hO.cell
    have hcT := hT.cell
    have hx1 : W.cell? ⟨Bx, 1, none⟩ = some (.int .i64 x.f1) := by rw [blk_cell hX]; rfl
    have hx2 : W.cell? ⟨Bx, 2, none⟩ = some (.int .i64 x.f2) := by rw [blk_cell hX]; rfl
    have hx3 : W.cell? ⟨Bx, 3, none⟩ = some (.int .i64 x.f3) := by rw [blk_cell hX]; rfl
    have g0 : x.f1 < (ch.toNat : Int) := by omega
    have hget := hI.get x.f1 f10 (by rw [hlen]; exact g0)
    have hfr := hI.open_ x.f1.toNat
    generalize hv : rd (outOf ch.toNat tick (pre.map (·.1))) x.f1 = v at *
    have HIS := Lib.hid hI
    have HLEN := Lib.hid hlen
    have HV := Lib.hid hv
    have HHO := Lib.hid hO
    have HHT := Lib.hid hT
    have HX := Lib.hid hX
    clear hI hlen hv hO hT hX
    by_cases htk : x.f3 ≤ tick
    · gi_wp2_with fail
      have hmx : ∀ ats ty, Builtin.max_ ats ty #[.int .i64 v, .int .i64 x.f2] = pure (.int .i64 (max v x.f2)) := fun ats ty => by
        rw [Go.Proofs.YtpngiddelhcepaaW.PrintMore.max_two, Go.Proofs.YtpngiddelhcepaaW.PrintMore.max2_int]
        show (pure _ : Sem Value) = pure _
        congr 2
        omega
      refine Round.region_tail 12 (by kernel_rfl) (by kernel_rfl) (fun _ _ h => h) (by kernel_rfl) ?_
      simp only [List.take_succ_cons, List.take_zero, List.drop_succ_cons, List.drop_zero]
      have g1 : x.f1 < max ch 0 := by omega
      have g2 : x.f1.toNat < ch.toNat := by omega
      repeat still_step
      refine wpStill_nil ?_
      change wpList _ _ _ _ _ (World.drew _)
      go_wp2_with fail
      gi_wp2_with fail
      have hne : ∀ B, B ≠ W4.heap.size → ((W.setCell ⟨W4.heap.size, x.f1.toNat, none⟩ (.int .i64 (max v x.f2))).drew).heap[B]? = W.heap[B]? := fun B hB => Below.heap_setCell W ⟨W4.heap.size, x.f1.toNat, none⟩ (.int .i64 (max v x.f2)) B hB
      have hIp : Ints ((W.setCell ⟨W4.heap.size, x.f1.toNat, none⟩ (.int .i64 (max v x.f2))).drew) W4.heap.size (outOf ch.toNat tick ((pre ++ [(⟨x, hx, hxc⟩ : { x : Ls // oneL x = true ∧ x.f1 < ch })]).map fun y : { x : Ls // oneL x = true ∧ x.f1 < ch } => y.1)) := by
        have := HIS.out.put x.f1.toNat (max v x.f2)
        rw [List.map_append, List.map_cons, List.map_nil, outOf_snoc]
        unfold outStep
        rw [if_pos htk, HV.out]
        exact this
      have hBp : Below w.heap.size W ((W.setCell ⟨W4.heap.size, x.f1.toNat, none⟩ (.int .i64 (max v x.f2))).drew) := ((Below.refl _ W).setCell (p := ⟨W4.heap.size, x.f1.toNat, none⟩) hz4 _).drew
      have hs5 := HS5.out
      exact ⟨((KeepsOthers.setCell _ _ _).trans (KeepsOthers.drew _)).from _, ⟨hBp, fun u hu => (hne _ (by omega)).trans hu⟩, ⟨⟨⟨(hne _ (by omega)).trans HHO.out, hIp⟩, (hne _ (by omega)).trans HHT.out⟩, hB.trans hBp⟩⟩
    · have hI2 : Ints W W4.heap.size (outOf ch.toNat tick ((pre ++ [(⟨x, hx, hxc⟩ : { x : Ls // oneL x = true ∧ x.f1 < ch })]).map fun y : { x : Ls // oneL x = true ∧ x.f1 < ch } => y.1)) := by
        rw [List.map_append, List.map_cons, List.map_nil, outOf_snoc]
        unfold outStep
        rw [if_neg htk]
        exact HIS.out
      have HI2 := Lib.hid hI2
      clear hI2
      gi_wp2_with fail
      exact ⟨KeepsFrom.refl _ _, ⟨Below.refl _ _, fun u hu => hu⟩, ⟨⟨⟨HHO.out, HI2.out⟩, HHT.out⟩, hB⟩⟩
  case done =>
    rintro D zs W hD hzs ⟨⟨⟨hO, hI⟩, hT⟩, hB⟩ hK
    have hc := hO.cell
    have HOO := Lib.hid hO
    have HII := Lib.hid hI
    have HZS := Lib.hid hzs
    clear hO hI hT hzs
    gi_wp2
    refine ⟨by simp, .inl ⟨_, _, rfl, run_takeDeferred hK, ?_⟩⟩
    have hlen := outOf_length ch.toNat tick (aliveL tick l0)
    have hI2 := HII.out
    rw [show zs.map (·.1) = aliveL tick l0 from HZS.out] at hI2
    have hs6 := HS6.out
    have hs5 := HS5.out
    have hI3 : Ints (W.putObj D (.deferred none)) W4.heap.size (outOf ch.toNat tick (aliveL tick l0)) := hI2.heap (World.putObj_heap_other (by omega))
    have hR3 := hI3.R hz4 (by rw [hlen]; unfold maxLen; omega)
    rw [hlen] at hR3
    exact ⟨_, results_tmp2 rfl _ _ _, _, rfl, hR3, hB.trans (belowK_b (w := w) (Nat.le_refl _) W D _ _ (by omega) hK rfl rfl)⟩
  case stop =>
    rintro D c pre W _ _ h _
    exact h.elim

set_option maxRecDepth 100000 in
set_option maxHeartbeats 1000000 in
theorem alive_no (A0 : Option Addr) (c0 : Nat) (l0 : List Ls) (ch tick : Int) (w : World) (hr0 : Kd.C kL w A0 l0.length l0) (hc0 : l0.length ≤ c0)
    (b : (validL l0 && (inI ch 0 16 && (!anyFrom ch l0 && inI tick 0 1100000))) = false) :
    Calls Try.prog 13 #[.slice A0 l0.length c0, .int .i64 ch, .int .i64 tick] w (AlivePost w ([], 1)) := by
  have hv := fun w hr => valid_calls A0 c0 l0 w hr hc0
  have hi := fun w => inside_calls ch 0 16 w
  have hj := fun w => inside_calls tick 0 1100000 w
  have HR := Lib.hid hr0
  clear hr0
  have hmf : ∀ (fn : Fn) (first cap : Array Value) (w : World), (Instr.makeFunc fn first cap).run Try.prog w = .ok (.func fn first cap) w := fun _ _ _ _ => rfl
  cases b1 : validL l0
  · rw [b1] at hv
    have HV := Lib.hid hv
    clear hv b b1 hi hj
    go_enter Try.func13, Try.ntmps13
    go_wp2_with fail
    refine (HV.out _ (Kd.C_alloc (Kd.C_alloc HR.out _) _)).mono ?_
    rintro e w1 ⟨rfl, hb1⟩
    have hB1 : Below w.heap.size w w1 := (((Below.refl _ w).alloc (Nat.le_refl _) _).alloc (by simp) _).trans (hb1.mono (by simp; omega))
    have HB1 := Lib.hid hB1
    clear hB1 hb1
    go_wp2_with fail
    go_ret2
    exact ⟨_, rfl, Kd.R_nil _ _ _ _ _, HB1.out⟩
  · obtain ⟨hl, hone⟩ := valid_all b1
    have hk := fun W hr hc => contains_calls A0 c0 l0 ch w.heap.size W hr hl hc
    rw [b1, Bool.true_and] at b
    rw [b1] at hv
    have HV := Lib.hid hv
    clear hv b1 hone
    cases b2 : inI ch 0 16
    · rw [b2] at hi
      have HI := Lib.hid hi
      clear hi b b2 hj hk
      go_enter Try.func13, Try.ntmps13
      go_wp2_with fail
      refine (HV.out _ (Kd.C_alloc (Kd.C_alloc HR.out _) _)).mono ?_
      rintro e w1 ⟨rfl, hb1⟩
      have bC : Boxed w1 w.heap.size 3 (.int .i64 ch) := boxed_below ((Boxed.new w _ _).alloc _) hb1
      have hB1 : Below w.heap.size w w1 := (((Below.refl _ w).alloc (Nat.le_refl _) _).alloc (by simp) _).trans (hb1.mono (by simp; omega))
      have cC := bC.cell
      have HB1 := Lib.hid hB1
      clear hB1 hb1 bC
      go_wp2_with fail
      refine (HI.out _).mono ?_
      rintro e w2 ⟨rfl, m2, rfl⟩
      go_wp2_with fail
      go_ret2
      exact ⟨_, rfl, Kd.R_nil _ _ _ _ _, below_drewN HB1.out _⟩
    · rw [b2, Bool.true_and] at b
      rw [b2] at hi
      have HI := Lib.hid hi
      clear hi b2
      cases b3 : anyFrom ch l0
      · rw [b3] at b hk
        rw [Bool.not_false, Bool.true_and] at b
        rw [b] at hj
        have HK := Lib.hid hk
        have HJ := Lib.hid hj
        clear hk hj b b3
        go_enter Try.func13, Try.ntmps13
        go_wp2_with fail
        refine (HV.out _ (Kd.C_alloc (Kd.C_alloc HR.out _) _)).mono ?_
        rintro e w1 ⟨rfl, hb1⟩
        have bC : Boxed w1 w.heap.size 3 (.int .i64 ch) := boxed_below ((Boxed.new w _ _).alloc _) hb1
        have bT : Boxed w1 (w.heap.size + 1) 3 (.int .i64 tick) := boxed_below (by have := Boxed.new (w.alloc (.cells #[.int .i64 ch] 3)) 3 (.int .i64 tick); rwa [World.size_alloc] at this) hb1
        have hB1 : Below w.heap.size w w1 := (((Below.refl _ w).alloc (Nat.le_refl _) _).alloc (by simp) _).trans (hb1.mono (by simp; omega))
        have cC := bC.cell
        have HB1 := Lib.hid hB1
        have BC := Lib.hid bC
        have BT := Lib.hid bT
        clear hb1 hB1 bC bT
        go_wp2_with fail
        refine (HI.out _).mono ?_
        rintro e w2 ⟨rfl, m2, rfl⟩
        have bC2 : Boxed (w1.drewN m2) w.heap.size 3 (.int .i64 ch) := BC.out
        have HBC2 := Lib.hid bC2
        clear bC2
        go_wp2_with fail
        refine (HK.out _ (Kd.C_below HR.out (below_drewN HB1.out m2)) HBC2.out.cell).mono ?_
        rintro e w3 ⟨rfl, hb3⟩
        have bT3 := boxed_below (show Boxed (w1.drewN m2) _ _ _ from BT.out) hb3
        have cT3 := bT3.cell
        have hB3 : Below w.heap.size w w3 := (below_drewN HB1.out m2).trans (hb3.mono HB1.out.size)
        have HB3 := Lib.hid hB3
        clear hb3 hB3 bT3 cC
        go_wp2_with fail
        refine (HJ.out _).mono ?_
        rintro e w4 ⟨rfl, m4, rfl⟩
        go_wp2_with fail
        go_ret2
        exact ⟨_, rfl, Kd.R_nil _ _ _ _ _, below_drewN HB3.out _⟩
      · rw [b3] at hk
        have HK := Lib.hid hk
        clear hk hj b b3
        go_enter Try.func13, Try.ntmps13
        go_wp2_with fail
        refine (HV.out _ (Kd.C_alloc (Kd.C_alloc HR.out _) _)).mono ?_
        rintro e w1 ⟨rfl, hb1⟩
        have bC : Boxed w1 w.heap.size 3 (.int .i64 ch) := boxed_below ((Boxed.new w _ _).alloc _) hb1
        have hB1 : Below w.heap.size w w1 := (((Below.refl _ w).alloc (Nat.le_refl _) _).alloc (by simp) _).trans (hb1.mono (by simp; omega))
        have cC := bC.cell
        have HB1 := Lib.hid hB1
        have BC := Lib.hid bC
        clear hb1 hB1 bC
        go_wp2_with fail
        refine (HI.out _).mono ?_
        rintro e w2 ⟨rfl, m2, rfl⟩
        have bC2 : Boxed (w1.drewN m2) w.heap.size 3 (.int .i64 ch) := BC.out
        have HBC2 := Lib.hid bC2
        clear bC2
        go_wp2_with fail
        refine (HK.out _ (Kd.C_below HR.out (below_drewN HB1.out m2)) HBC2.out.cell).mono ?_
        rintro e w3 ⟨rfl, hb3⟩
        have hB3 : Below w.heap.size w w3 := (below_drewN HB1.out m2).trans (hb3.mono HB1.out.size)
        have HB3 := Lib.hid hB3
        clear hb3 hB3
        go_wp2_with fail
        go_ret2
        exact ⟨_, rfl, Kd.R_nil _ _ _ _ _, HB3.out⟩

def aliveF (l : List Ls) (ch tick : Int) : Option (List Int × Int) := some (aliveR l ch tick)
theorem alive_ext (A0 : Option Addr) (c0 : Nat) (l0 : List Ls) (a1 a2 : Int) (r1 : List Int) (r2 : Int) (w : World) (hr0 : Kd.C kL w A0 l0.length l0) (hc0 : l0.length ≤ c0) (h : aliveF l0 a1 a2 = some (r1, r2)) :
    Calls Try.prog 13 #[.slice A0 l0.length c0, .int .i64 a1, .int .i64 a2] w fun e w' => ∃ v0_ : Value, e = .returned (.tuple #[v0_, .int .i64 r2]) ∧ Kd.R (Kd.int .i64) 3 w' w.heap.size (fun _ => True) v0_ r1 ∧ Below w.heap.size w w' := by
  have h' := Option.some.inj h
  unfold aliveR at h'
  cases b : (validL l0 && (inI a1 0 16 && (!anyFrom a1 l0 && inI a2 0 1100000)))
  · rw [b] at h'
    cases h'
    exact alive_no A0 c0 l0 a1 a2 w hr0 hc0 b
  · rw [b] at h'
    cases h'
    simp only [Bool.and_eq_true, Bool.not_eq_true'] at b
    exact alive_go A0 c0 l0 a1 a2 w hr0 hc0 b.1 b.2.1 b.2.2.1 b.2.2.2
end Go.Proofs.Ytpngiddelhcepaa.LeaseWalk
