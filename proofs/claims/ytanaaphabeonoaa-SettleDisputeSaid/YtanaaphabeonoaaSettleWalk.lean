/-
  The walk of settle.Net: its code.
-/
import Derived.Test.YtanaaphabeonoaaSettleNet
namespace Go.Proofs.Ytanaaphabeonoaa.SettleNet
open Go.RowKit Go.Proofs.Ytanaaphabeonoaa.Kit Go.Proofs.Ytanaaphabeonoaa.PAll
open Go.Proofs.YtanaaphabeonoaaW.PrintWords hiding below_alloc below_drew
set_option linter.unusedVariables false
set_option linter.unusedSimpArgs false

/-- Block B holds whole numbers. -/
def Ints (W : World) (B : Nat) (xs : List Int) : Prop := ∃ cells : Array Value, W.heap[B]? = some (.cells cells 3 (0, 0)) ∧ cells.toList = xs.map (.int .i64)
theorem Ints.get {W : World} {B : Nat} {xs : List Int} (h : Ints W B xs) (i : Int) (h0 : 0 ≤ i) (h1 : i < xs.length) : W.cell? ⟨B, i.toNat, none⟩ = some (.int .i64 (rd xs i)) := by
  obtain ⟨cells, hb, hc⟩ := h
  rw [blk_cell hb, ← Array.getElem?_toList, hc, List.getElem?_map, List.getElem?_eq_getElem (show i.toNat < xs.length by omega)]
  unfold rd
  rw [List.getD_eq_getElem?_getD, List.getElem?_eq_getElem (show i.toNat < xs.length by omega)]
  rfl
theorem Ints.open_ {W : World} {B : Nat} {xs : List Int} (h : Ints W B xs) (i : Nat) : W.frozen? ⟨B, i, none⟩ = false := by
  obtain ⟨cells, hb, hc⟩ := h
  exact blk_frozen hb i
theorem Ints.lt {W : World} {B : Nat} {xs : List Int} (h : Ints W B xs) : B < W.heap.size := by
  obtain ⟨cells, hb, hc⟩ := h
  exact blk_lt hb
theorem Ints.heap {W W' : World} {B : Nat} {xs : List Int} (h : Ints W B xs) (e : W'.heap[B]? = W.heap[B]?) : Ints W' B xs := by
  obtain ⟨cells, hb, hc⟩ := h
  exact ⟨cells, e.trans hb, hc⟩
theorem Ints.alloc {W : World} {B : Nat} {xs : List Int} (h : Ints W B xs) (o : Obj) : Ints (W.alloc o) B xs := by
  obtain ⟨cells, hb, hc⟩ := h
  exact ⟨cells, blk_alloc hb o, hc⟩
theorem Ints.put {W : World} {B : Nat} {xs : List Int} (h : Ints W B xs) (i : Nat) (v : Int) : Ints (W.setCell ⟨B, i, none⟩ (.int .i64 v)) B (xs.set i v) := by
  obtain ⟨cells, hb, hc⟩ := h
  exact ⟨_, blk_set hb i _, by rw [Array.toList_setIfInBounds, hc, List.map_set]⟩
theorem Ints.R {W : World} {B base : Nat} {xs : List Int} (h : Ints W B xs) (hb : base ≤ B) (hm : xs.length ≤ maxLen) : Kd.R (Kd.int .i64) 3 W base (fun _ => True) (.slice (some ⟨B, 0, none⟩) xs.length xs.length) xs := by
  obtain ⟨cells, hh, hc⟩ := h
  refine Kd.R_of_own (enc := Value.int .i64) (h1 := fun _ => rfl) ⟨by simp [encs], .inr ⟨B, xs.length, cells, rfl, hb, hh, Nat.le_refl _, hm, ?_, ?_⟩⟩ (fun _ _ => trivial)
  · rw [← Array.length_toList, hc]; simp
  · rw [hc, Nat.mul_one, List.take_of_length_le (by simp)]; rfl

theorem make_run (n : Int) (h0 : 0 ≤ n) (h1 : n ≤ 1000) (W : World) : (Instr.makeSlice 23 (.int .i64 n) (.int .i64 n)).run Try.prog W = .ok (.slice (some ⟨W.heap.size, 0, none⟩) n.toNat n.toNat) (W.alloc (.cells (madeCells #[.int .i64 0] n.toNat) 3)) := by
  obtain ⟨i0, hi, hz⟩ := Option.map_eq_some_iff.1 info3
  simp only [Prod.mk.injEq] at hz
  have := run_make (P := Try.prog) W 23 3 i0 (.int .i64 0) Try.underlying23 hi hz.1 .i64 .i64 n n h0 (Int.le_refl _) (by rw [hz.2.2]; omega) (by omega)
  rw [hz.2.1, Nat.mul_one] at this
  exact this
theorem Ints.made (W : World) (n : Nat) : Ints (W.alloc (.cells (madeCells #[.int .i64 0] n) 3)) W.heap.size (List.replicate n 0) := by
  refine ⟨_, blk_new _ _, ?_⟩
  apply List.ext_getElem
  · simp [size_madeCells]
  · intro i h1 h2
    simp [madeCells, Nat.mod_one]

theorem mm_run (W : World) : (Instr.makeMap MT none).run Try.prog W = .ok (.map (some W.heap.size)) (W.alloc (.map #[] 0)) := by
  simp [Instr.makeMap]
theorem Owns.made (W : World) : Owns (W.alloc (.map #[] 0)) W.heap.size 0 [] := ⟨World.ownsMap_made W _ _ _, by simp⟩

set_option maxHeartbeats 2000000 in
set_option maxRecDepth 100000 in
theorem net_loop (A0 : Option Addr) (c0 : Nat) (l0 : List Rec) (n : Int) (w : World) (hr0 : Kd.C k40 w A0 l0.length l0) (hc0 : l0.length ≤ c0) (hl : l0.length ≤ 64) (hn : 1 ≤ n ∧ n ≤ 8) (hwf : ∀ r ∈ l0, wfR r = true) (res : List Int × Int) (hres : netL n l0 [] (List.replicate n.toNat 0) false = res) :
    Calls Try.prog 10 #[.slice A0 l0.length c0, .int .i64 n] w fun e w' => ∃ v0_ : Value, e = .returned (.tuple #[v0_, .int .i64 res.2]) ∧ Kd.R (Kd.int .i64) 3 w' w.heap.size (fun _ => True) v0_ res.1 ∧ Below w.heap.size w w' := by
  have hin := fun w => in_calls n 1 8 w
  rw [show inI n 1 8 = true by unfold inI; simp [hn.1, hn.2]] at hin
  have HIN := Lib.hid hin
  have HR := Lib.hid hr0
  have HRES := Lib.hid hres
  have HWF := Lib.hid hwf
  have hmm := mm_run
  have hmk := make_run n (by omega) (by omega)
  obtain ⟨h1, h8⟩ := hn
  clear hin hr0 hres hwf
  go_enter Try.func10, Try.ntmps10
  go_wp2_with fail
  refine (HIN.out _).mono ?_
  rintro e w1 ⟨rfl, m1, rfl⟩
  go_wp2_with fail
  go_loopw [8, 23] (fun v8 v23 wr => ∃ (j : Nat) (seen : List (Int × Int)) (out : List Int) (tw : Bool), v8 = .bool tw ∧ v23 = .int .i64 j ∧ j ≤ l0.length ∧ Hid (netL n (l0.drop j) seen out tw = res) ∧ Hid (Owns wr w.heap.size j seen) ∧ Hid (Ints wr (w.heap.size + 1) out) ∧ out.length = n.toNat ∧ Hid (Below w.heap.size w wr)) (fun v8 v23 wr => l0.length - (intOf v23).toNat)
  case atStart =>
    have hb1 : Below w.heap.size w (((w.drewN m1).alloc (.map #[] 0)).alloc (.cells (madeCells #[.int .i64 0] n.toNat) 3)) := below_alloc (below_alloc (below_drewN (Below.refl _ _) _) _) _
    refine ⟨0, [], List.replicate n.toNat 0, false, rfl, rfl, Nat.zero_le _, HRES, ?_, ?_, by simp, hb1⟩
    · exact ⟨World.ownsMap.alloc (World.ownsMap_made (w.drewN m1) _ _ _) _, by simp⟩
    · have := Ints.made ((w.drewN m1).alloc (.map #[] 0)) n.toNat
      rw [World.size_alloc] at this
      exact this
  case round =>
    obtain ⟨j, seen, out, tw, rfl, rfl, hj, HL, HO, HI, hlen, HB⟩ := hrel
    clear hmm hmk
    by_cases hlt : j < l0.length
    · have hC := Kd.C_below HR.out HB.out
      obtain ⟨ad, rfl, x0, x1, x2, x3, x4, x5, x6, x7, x8, x9, x10, x11, x12⟩ := at_T40 hC j (Int.natCast_nonneg _) (by omega)
      generalize hrr : rd_T40 l0 (j : Int) = r at *
      have hr : l0[j]? = some r := by
        rw [← hrr]; unfold rd_T40
        rw [List.getD_eq_getElem?_getD, Int.toNat_natCast, List.getElem?_eq_getElem hlt]; rfl
      simp only [Int.toNat_natCast] at x0 x1 x2 x3 x4 x5 x6 x7 x8 x9 x10 x11 x12
      have j0 : (0 : Int) ≤ (j : Int) := Int.natCast_nonneg _
      have j1 : (j : Int) < (l0.length : Int) := by omega
      have hdrop : l0.drop j = r :: l0.drop (j + 1) := by
        rw [List.drop_eq_getElem_cons hlt]
        congr 1
        rw [List.getElem?_eq_getElem hlt] at hr
        exact Option.some.inj hr
      have hwr := HWF.out r (List.mem_of_getElem? hr)
      have hL := HL.out
      rw [hdrop] at hL
      unfold netL at hL
      have hB1 : Below w.heap.size w (wr.alloc (.cells #[.int .i64 r.f0, .int .i64 r.f1, .int .i64 r.f2, .int .i64 r.f3, .int .i64 r.f4, .int .i64 r.f5, .int .i64 r.f6, .int .i64 r.f7, .int .i64 r.f8, .int .u64 r.f9.f0, .int .u64 r.f9.f1, .int .u64 r.f9.f2, .int .u64 r.f9.f3] 40)) := below_alloc HB.out _
      have h3 := fun w => in_calls r.f3 0 (n - 1) w
      have h4 := fun w => in_calls r.f4 0 (n - 1) w
      have h8 := fun w => in_calls r.f8 0 1000000000 w
      have HWR := Lib.hid hwr
      have HB1 := Lib.hid hB1
      clear hwr hB1 hrr hr hdrop HWF HRES HR HIN hC
      cases b3 : inI r.f3 0 (n - 1)
      · have hres : res = ([], 1) := by rw [← hL, if_neg (by unfold goodR; rw [b3]; simp)]
        rw [b3] at h3
        have H3 := Lib.hid h3
        clear h3 h4 h8 hL b3
        subst hres
        go_wp2_with fail
        refine (H3.out _).mono ?_
        rintro e w1 ⟨rfl, m3, rfl⟩
        go_wp2_with fail
        go_ret2
        exact ⟨_, rfl, Kd.R_nil _ _ _ _ _, below_drewN HB1.out _⟩
      · cases b4 : inI r.f4 0 (n - 1)
        · have hres : res = ([], 1) := by rw [← hL, if_neg (by unfold goodR; rw [b3, b4]; simp)]
          rw [b3] at h3
          rw [b4] at h4
          have H3 := Lib.hid h3
          have H4 := Lib.hid h4
          clear h3 h4 h8 hL b3 b4
          subst hres
          go_wp2_with fail
          refine (H3.out _).mono ?_
          rintro e w1 ⟨rfl, m3, rfl⟩
          go_wp2_with fail
          refine (H4.out _).mono ?_
          rintro e w1 ⟨rfl, m4, rfl⟩
          go_wp2_with fail
          go_ret2
          exact ⟨_, rfl, Kd.R_nil _ _ _ _ _, below_drewN HB1.out _⟩
        · cases b8 : inI r.f8 0 1000000000
          · have hres : res = ([], 1) := by rw [← hL, if_neg (by unfold goodR; rw [b3, b4, b8]; simp)]
            rw [b3] at h3
            rw [b4] at h4
            rw [b8] at h8
            have H3 := Lib.hid h3
            have H4 := Lib.hid h4
            have H8 := Lib.hid h8
            clear h3 h4 h8 hL b3 b4 b8
            subst hres
            go_wp2_with fail
            refine (H3.out _).mono ?_
            rintro e w1 ⟨rfl, m3, rfl⟩
            go_wp2_with fail
            refine (H4.out _).mono ?_
            rintro e w1 ⟨rfl, m4, rfl⟩
            go_wp2_with fail
            refine (H8.out _).mono ?_
            rintro e w1 ⟨rfl, m8, rfl⟩
            go_wp2_with fail
            go_ret2
            exact ⟨_, rfl, Kd.R_nil _ _ _ _ _, below_drewN HB1.out _⟩
          · rw [if_pos (by unfold goodR; rw [b3, b4, b8]; rfl)] at hL
            have hf3 : 0 ≤ r.f3 ∧ r.f3 ≤ n - 1 := by unfold inI at b3; simpa using b3
            have hf4 : 0 ≤ r.f4 ∧ r.f4 ≤ n - 1 := by unfold inI at b4; simpa using b4
            rw [b3] at h3
            rw [b4] at h4
            rw [b8] at h8
            have H3 := Lib.hid h3
            have H4 := Lib.hid h4
            have H8 := Lib.hid h8
            clear h3 h4 h8 b3 b4 b8
            go_wp2_with fail
            refine (H3.out _).mono ?_
            rintro e w1 ⟨rfl, m3, rfl⟩
            go_wp2_with fail
            refine (H4.out _).mono ?_
            rintro e w1 ⟨rfl, m4, rfl⟩
            go_wp2_with fail
            refine (H8.out _).mono ?_
            rintro e w1 ⟨rfl, m8, rfl⟩
            have hq : wfP (r.f4, r.f0) := by
              have := HWR.out
              unfold wfR at this
              rw [Bool.and_eq_true] at this
              exact this
            obtain ⟨X, hX⟩ : ∃ X : Array Value, X = #[.int .i64 r.f0, .int .i64 r.f1, .int .i64 r.f2, .int .i64 r.f3, .int .i64 r.f4, .int .i64 r.f5, .int .i64 r.f6, .int .i64 r.f7, .int .i64 r.f8, .int .u64 r.f9.f0, .int .u64 r.f9.f1, .int .u64 r.f9.f2, .int .u64 r.f9.f3] := ⟨_, rfl⟩
            obtain ⟨W1, hW1⟩ : ∃ W1, ((wr.alloc (.cells #[.int .i64 r.f0, .int .i64 r.f1, .int .i64 r.f2, .int .i64 r.f3, .int .i64 r.f4, .int .i64 r.f5, .int .i64 r.f6, .int .i64 r.f7, .int .i64 r.f8, .int .u64 r.f9.f0, .int .u64 r.f9.f1, .int .u64 r.f9.f2, .int .u64 r.f9.f3] 40)).drewN (m3 + m4)).drewN m8 = W1 := ⟨_, rfl⟩
            have g1 : W1.heap[wr.heap.size]? = some (.cells X 40 (0, 0)) := by rw [← hW1, hX]; exact blk_drewN (blk_drewN (blk_new _ _) _) _
            have g2 : Owns W1 w.heap.size j seen := by rw [← hW1]; exact ⟨World.ownsMap.alloc HO.out.1 _, HO.out.2⟩
            have g3 : Ints W1 (w.heap.size + 1) out := by rw [← hW1]; exact Ints.alloc HI.out _
            have g4 : Below w.heap.size w W1 := by rw [← hW1]; exact below_drewN (below_drewN (below_alloc HB.out _) _) _
            have g5 : W1.heap.size = wr.heap.size + 1 := by rw [← hW1]; exact World.size_alloc _ _
            have g6 : w.heap.size + 1 < wr.heap.size := HI.out.lt
            generalize hRB : wr.heap.size = RB at *
            have u1 : (W1.alloc (.cells #[.int .i64 r.f4, .int .i64 r.f0] KT)).heap[RB]? = some (.cells X 40 (0, 0)) := blk_alloc g1 _
            have u2 : Owns (W1.alloc (.cells #[.int .i64 r.f4, .int .i64 r.f0] KT)) w.heap.size j seen := ⟨World.ownsMap.alloc (w := W1) g2.1 _, g2.2⟩
            have u3 : Ints (W1.alloc (.cells #[.int .i64 r.f4, .int .i64 r.f0] KT)) (w.heap.size + 1) out := Ints.alloc (W := W1) g3 _
            have u4_ : Below w.heap.size w (W1.alloc (.cells #[.int .i64 r.f4, .int .i64 r.f0] KT)) := below_alloc g4 _
            have hlook : (Instr.lookup MT (.map (some w.heap.size)) (.agg #[.int .i64 r.f4, .int .i64 r.f0]) false).run Try.prog (W1.alloc (.cells #[.int .i64 r.f4, .int .i64 r.f0] KT)) = .ok (.bool (seen.contains (r.f4, r.f0))) (W1.alloc (.cells #[.int .i64 r.f4, .int .i64 r.f0] KT)) := look u2 (r.f4, r.f0) hq
            obtain ⟨W4, hupd, o4, v4⟩ := put_run u2 (by omega) (r.f4, r.f0) hq
            have hupd' : (Instr.mapUpdate MT (.map (some w.heap.size)) (.agg #[.int .i64 r.f4, .int .i64 r.f0]) (.bool true)).run Try.prog (W1.alloc (.cells #[.int .i64 r.f4, .int .i64 r.f0] KT)) = .ok () W4 := hupd
            have y1 : W4.heap[RB]? = some (.cells X 40 (0, 0)) := blk_grown u1 v4 (by simp; omega)
            have y3 : Ints W4 (w.heap.size + 1) out := by
              obtain ⟨cells, hb, hc⟩ := u3
              exact ⟨cells, blk_grown hb v4 (by simp), hc⟩
            have y4 : Below w.heap.size w W4 := u4_.trans ⟨v4.os, v4.tape, v4.output, v4.size, fun i hi => v4.block i (by have := u4_.size; omega) (by simp; omega)⟩
            rw [hX] at y1 g1
            have z4 : W1.cell? ⟨RB, 4, none⟩ = some (.int .i64 r.f4) := by rw [blk_cell g1]; rfl
            have z0 : W1.cell? ⟨RB, 0, none⟩ = some (.int .i64 r.f0) := by rw [blk_cell g1]; rfl
            have c3 : W4.cell? ⟨RB, 3, none⟩ = some (.int .i64 r.f3) := by rw [blk_cell y1]; rfl
            have c4 : W4.cell? ⟨RB, 4, none⟩ = some (.int .i64 r.f4) := by rw [blk_cell y1]; rfl
            have c8 : W4.cell? ⟨RB, 8, none⟩ = some (.int .i64 r.f8) := by rw [blk_cell y1]; rfl
            have d4 := y3.get r.f4 hf4.1 (by omega)
            have e4 := y3.open_ r.f4.toNat
            have Y1 := Lib.hid y1
            have Y3 := Lib.hid y3
            have Y4 := Lib.hid y4
            have O4 := Lib.hid o4
            rw [hW1]
            clear hupd o4 v4 u1 u2 u3 u4_ g1 g2 g3 g4 g5 y1 y3 y4 hX
            obtain ⟨f31, f32⟩ := hf3
            obtain ⟨f41, f42⟩ := hf4
            have f43 : r.f4 < n := by omega
            have f33 : r.f3 < n := by omega
            have f44 : r.f4 < (n.toNat : Int) := by omega
            have f34 : r.f3 < (n.toNat : Int) := by omega
            cases tw
            · rw [Bool.false_or, show seen.contains (r.f4, r.f0) = decide ((r.f4, r.f0) ∈ seen) by simp] at hL
              have HL2 := Lib.hid hL
              go_wp2_with fail
              clear hlook hupd'
              go_region
              generalize hv : wrap64 (rd out r.f4 + r.f8) = v
              obtain ⟨W5, hW5⟩ : ∃ W5, (W4.setCell ⟨w.heap.size + 1, r.f4.toNat, none⟩ (.int .i64 v)).drew = W5 := ⟨_, rfl⟩
              have p1 : W5.heap[RB]? = some (.cells #[.int .i64 r.f0, .int .i64 r.f1, .int .i64 r.f2, .int .i64 r.f3, .int .i64 r.f4, .int .i64 r.f5, .int .i64 r.f6, .int .i64 r.f7, .int .i64 r.f8, .int .u64 r.f9.f0, .int .u64 r.f9.f1, .int .u64 r.f9.f2, .int .u64 r.f9.f3] 40 (0, 0)) := by
                rw [← hW5]; exact (Below.heap_setCell _ _ _ _ (by show RB ≠ w.heap.size + 1; omega)).trans Y1.out
              have p2 : Owns W5 w.heap.size (j + 1) (seen ++ [(r.f4, r.f0)]) := by
                rw [← hW5]; exact ⟨World.ownsMap.setCell O4.out.1 (by show w.heap.size ≠ w.heap.size + 1; omega) _, O4.out.2⟩
              have p3 : Ints W5 (w.heap.size + 1) (out.set r.f4.toNat v) := by rw [← hW5]; exact Ints.put Y3.out _ _
              have p4 : Below w.heap.size w W5 := by rw [← hW5]; exact (Y4.out.setCell (by show w.heap.size ≤ w.heap.size + 1; omega) _).drew
              have q3 : W5.cell? ⟨RB, 3, none⟩ = some (.int .i64 r.f3) := by rw [blk_cell p1]; rfl
              have q8 : W5.cell? ⟨RB, 8, none⟩ = some (.int .i64 r.f8) := by rw [blk_cell p1]; rfl
              have k3 := p3.get r.f3 f31 (by rw [List.length_set]; omega)
              have l3 := p3.open_ r.f3.toNat
              have P2 := Lib.hid p2
              have P3 := Lib.hid p3
              have P4 := Lib.hid p4
              have HV := Lib.hid hv
              rw [hW5]
              clear hW5 p1 p2 p3 p4 c3 c4 c8 d4 e4 Y1 Y3 Y4 O4 hv
              go_wp2_with fail
              go_region
              generalize hv2 : wrap64 (rd (out.set r.f4.toNat v) r.f3 - r.f8) = v2
              have s2 : Owns (W5.setCell ⟨w.heap.size + 1, r.f3.toNat, none⟩ (.int .i64 v2)).drew w.heap.size (j + 1) (seen ++ [(r.f4, r.f0)]) := ⟨World.ownsMap.setCell P2.out.1 (by show w.heap.size ≠ w.heap.size + 1; omega) _, P2.out.2⟩
              have s3 : Ints (W5.setCell ⟨w.heap.size + 1, r.f3.toNat, none⟩ (.int .i64 v2)).drew (w.heap.size + 1) (upd out r) := by
                have := Ints.put P3.out r.f3.toNat v2
                unfold upd
                rw [HV.out, hv2]
                exact this
              have s4 : Below w.heap.size w (W5.setCell ⟨w.heap.size + 1, r.f3.toNat, none⟩ (.int .i64 v2)).drew := (P4.out.setCell (by show w.heap.size ≤ w.heap.size + 1; omega) _).drew
              have s5 : (upd out r).length = n.toNat := by unfold upd; simp [hlen]
              have S2 := Lib.hid s2
              have S3 := Lib.hid s3
              have S4 := Lib.hid s4
              clear s2 s3 s4 q3 q8 k3 l3 HV hv2
              go_wp2_with fail
              go_roundw
              case rel =>
                exact ⟨j + 1, seen ++ [(r.f4, r.f0)], upd out r, _, rfl, by go_num, by omega, HL2, S2, S3, s5, S4⟩
              case measure => simp [intOf]; omega
            · rw [Bool.true_or] at hL
              have HL2 := Lib.hid hL
              clear hlook
              go_wp2_with fail
              clear hupd'
              go_region
              generalize hv : wrap64 (rd out r.f4 + r.f8) = v
              obtain ⟨W5, hW5⟩ : ∃ W5, (W4.setCell ⟨w.heap.size + 1, r.f4.toNat, none⟩ (.int .i64 v)).drew = W5 := ⟨_, rfl⟩
              have p1 : W5.heap[RB]? = some (.cells #[.int .i64 r.f0, .int .i64 r.f1, .int .i64 r.f2, .int .i64 r.f3, .int .i64 r.f4, .int .i64 r.f5, .int .i64 r.f6, .int .i64 r.f7, .int .i64 r.f8, .int .u64 r.f9.f0, .int .u64 r.f9.f1, .int .u64 r.f9.f2, .int .u64 r.f9.f3] 40 (0, 0)) := by
                rw [← hW5]; exact (Below.heap_setCell _ _ _ _ (by show RB ≠ w.heap.size + 1; omega)).trans Y1.out
              have p2 : Owns W5 w.heap.size (j + 1) (seen ++ [(r.f4, r.f0)]) := by
                rw [← hW5]; exact ⟨World.ownsMap.setCell O4.out.1 (by show w.heap.size ≠ w.heap.size + 1; omega) _, O4.out.2⟩
              have p3 : Ints W5 (w.heap.size + 1) (out.set r.f4.toNat v) := by rw [← hW5]; exact Ints.put Y3.out _ _
              have p4 : Below w.heap.size w W5 := by rw [← hW5]; exact (Y4.out.setCell (by show w.heap.size ≤ w.heap.size + 1; omega) _).drew
              have q3 : W5.cell? ⟨RB, 3, none⟩ = some (.int .i64 r.f3) := by rw [blk_cell p1]; rfl
              have q8 : W5.cell? ⟨RB, 8, none⟩ = some (.int .i64 r.f8) := by rw [blk_cell p1]; rfl
              have k3 := p3.get r.f3 f31 (by rw [List.length_set]; omega)
              have l3 := p3.open_ r.f3.toNat
              have P2 := Lib.hid p2
              have P3 := Lib.hid p3
              have P4 := Lib.hid p4
              have HV := Lib.hid hv
              rw [hW5]
              clear hW5 p1 p2 p3 p4 c3 c4 c8 d4 e4 Y1 Y3 Y4 O4 hv
              go_wp2_with fail
              go_region
              generalize hv2 : wrap64 (rd (out.set r.f4.toNat v) r.f3 - r.f8) = v2
              have s2 : Owns (W5.setCell ⟨w.heap.size + 1, r.f3.toNat, none⟩ (.int .i64 v2)).drew w.heap.size (j + 1) (seen ++ [(r.f4, r.f0)]) := ⟨World.ownsMap.setCell P2.out.1 (by show w.heap.size ≠ w.heap.size + 1; omega) _, P2.out.2⟩
              have s3 : Ints (W5.setCell ⟨w.heap.size + 1, r.f3.toNat, none⟩ (.int .i64 v2)).drew (w.heap.size + 1) (upd out r) := by
                have := Ints.put P3.out r.f3.toNat v2
                unfold upd
                rw [HV.out, hv2]
                exact this
              have s4 : Below w.heap.size w (W5.setCell ⟨w.heap.size + 1, r.f3.toNat, none⟩ (.int .i64 v2)).drew := (P4.out.setCell (by show w.heap.size ≤ w.heap.size + 1; omega) _).drew
              have s5 : (upd out r).length = n.toNat := by unfold upd; simp [hlen]
              have S2 := Lib.hid s2
              have S3 := Lib.hid s3
              have S4 := Lib.hid s4
              clear s2 s3 s4 q3 q8 k3 l3 HV hv2
              go_wp2_with fail
              go_roundw
              case rel =>
                exact ⟨j + 1, seen ++ [(r.f4, r.f0)], upd out r, _, rfl, by go_num, by omega, HL2, S2, S3, s5, S4⟩
              case measure => simp [intOf]; omega
    · obtain rfl : j = l0.length := by omega
      have hL := HL.out
      rw [List.drop_length] at hL
      unfold netL at hL
      cases tw
      · have hres : res = (out, 0) := by rw [← hL, if_neg (by simp)]
        clear hL
        subst hres
        go_wp2_with fail
        go_ret2
        refine ⟨_, rfl, ?_, HB.out⟩
        have := HI.out.R (base := w.heap.size) (by omega) (by rw [hlen]; unfold maxLen; omega)
        rw [hlen] at this
        exact this
      · have hres : res = ([], 5) := by rw [← hL, if_pos rfl]
        clear hL
        subst hres
        go_wp2_with fail
        go_ret2
        exact ⟨_, rfl, Kd.R_nil _ _ _ _ _, HB.out⟩

theorem net_calls (A0 : Option Addr) (c0 : Nat) (l0 : List Rec) (n : Int) (r1 : List Int) (r2 : Int) (w : World) (hr0 : Kd.C k40 w A0 l0.length l0) (hc0 : l0.length ≤ c0) (h : netF l0 n = some (r1, r2)) :
    Calls Try.prog 10 #[.slice A0 l0.length c0, .int .i64 n] w fun e w' => ∃ v0_ : Value, e = .returned (.tuple #[v0_, .int .i64 r2]) ∧ Kd.R (Kd.int .i64) 3 w' w.heap.size (fun _ => True) v0_ r1 ∧ Below w.heap.size w w' := by
  unfold netF at h
  by_cases hw : l0.all wfR = true
  · rw [if_pos hw] at h
    have h := Option.some.inj h
    by_cases hl : l0.length > 64
    · rw [if_pos hl] at h
      obtain ⟨rfl, rfl⟩ := Prod.mk.inj h
      have hl2 : decide (64 < (l0.length : Int)) = true := decide_eq_true (by omega)
      have hl3 : (64 : Int) < (l0.length : Int) := by omega
      go_enter Try.func10, Try.ntmps10
      go_wp2_with fail
      go_ret2
      exact ⟨_, rfl, Kd.R_nil _ _ _ _ _, Below.refl _ _⟩
    · rw [if_neg hl] at h
      have hl3 : ¬ (64 : Int) < (l0.length : Int) := by omega
      cases hb : inI n 1 8
      · rw [hb, if_neg (by decide)] at h
        obtain ⟨rfl, rfl⟩ := Prod.mk.inj h
        have hin := fun w => in_calls n 1 8 w
        rw [hb] at hin
        have HIN := Lib.hid hin
        clear hin hb
        go_enter Try.func10, Try.ntmps10
        go_wp2_with fail
        refine (HIN.out _).mono ?_
        rintro e w1 ⟨rfl, m1, rfl⟩
        go_wp2_with fail
        go_ret2
        exact ⟨_, rfl, Kd.R_nil _ _ _ _ _, below_drewN (Below.refl _ _) _⟩
      · rw [hb, if_pos rfl] at h
        have := net_loop A0 c0 l0 n w hr0 hc0 (by omega) (by unfold inI at hb; simpa using hb) (fun r hr => List.all_eq_true.1 hw r hr) (r1, r2) h
        exact this
  · rw [if_neg hw] at h
    cases h
end Go.Proofs.Ytanaaphabeonoaa.SettleNet
