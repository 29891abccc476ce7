/-
  The walk of flash.steps' iterator: it hands on the memory, and then the memory after each step, each in bytes of its own.
-/
import Derived.Test.YtdblbilgnfomaaaFlashA
import Derived.Test.YtdblbilgnfomaaaTold
import Derived.Shelf.Abstract
import Derived.Shelf.RegionOpen
import Derived.WalkKit
import Derived.OwnWalkIn
import Derived.TacticsInMore
import Derived.LoopNIn
import Derived.LoopIn
import Derived.Sort.CutIn
import Derived.StillTailTactics
import Derived.Laws.CopyOwn
import Derived.Deep.RegionHeld3
import Derived.Deep.DeepMust
namespace Go.Proofs.Ytdblbilgnfomaaa.FlashB
open Go.RowKit Go.Shelf Go.Proofs.Ytdblbilgnfomaaa.Kit Go.Proofs.Ytdblbilgnfomaaa.PAll Go.Proofs.Ytdblbilgnfomaaa.Told
open Go.Proofs.YtdblbilgnfomaaaW.PrintWords hiding below_alloc below_drew
set_option linter.unusedVariables false
set_option linter.unusedSimpArgs false
attribute [local go_sem] Oper.semAt_some

/-- Block B holds bytes. -/
def By (W : World) (B : Nat) (xs : List Int) : Prop := ∃ cells : Array Value, W.heap[B]? = some (.cells cells 5 (0, 0)) ∧ cells.toList = xs.map (.int .u8)
theorem By.get {W : World} {B : Nat} {xs : List Int} (h : By W B xs) (i : Int) (h0 : 0 ≤ i) (h1 : i < xs.length) : W.cell? ⟨B, i.toNat, none⟩ = some (.int .u8 (rd xs i)) := by
  obtain ⟨cells, hb, hc⟩ := h
  rw [blk_cell hb, ← Array.getElem?_toList, hc, List.getElem?_map, List.getElem?_eq_getElem (show i.toNat < xs.length by omega)]
  unfold rd
  rw [List.getD_eq_getElem?_getD, List.getElem?_eq_getElem (show i.toNat < xs.length by omega)]
  rfl
theorem By.open_ {W : World} {B : Nat} {xs : List Int} (h : By W B xs) (i : Nat) : W.frozen? ⟨B, i, none⟩ = false := by
  obtain ⟨cells, hb, hc⟩ := h
  exact blk_frozen hb i
theorem By.lt {W : World} {B : Nat} {xs : List Int} (h : By W B xs) : B < W.heap.size := by
  obtain ⟨cells, hb, hc⟩ := h
  exact blk_lt hb
theorem By.heap {W W' : World} {B : Nat} {xs : List Int} (h : By W B xs) (e : W'.heap[B]? = W.heap[B]?) : By W' B xs := by
  obtain ⟨cells, hb, hc⟩ := h
  exact ⟨cells, e.trans hb, hc⟩
theorem By.below {W W' : World} {B : Nat} {xs : List Int} (h : By W B xs) (hb : Below W.heap.size W W') : By W' B xs := h.heap (hb.block B h.lt)
theorem By.alloc {W : World} {B : Nat} {xs : List Int} (h : By W B xs) (o : Obj) : By (W.alloc o) B xs := by
  obtain ⟨cells, hb, hc⟩ := h
  exact ⟨cells, blk_alloc hb o, hc⟩
theorem By.put {W : World} {B : Nat} {xs : List Int} (h : By W B xs) (i : Nat) (v : Int) : By (W.setCell ⟨B, i, none⟩ (.int .u8 v)) B (xs.set i v) := by
  obtain ⟨cells, hb, hc⟩ := h
  exact ⟨_, blk_set hb i _, by rw [Array.toList_setIfInBounds, hc, List.map_set]⟩
theorem By.R {W : World} {B base : Nat} {xs : List Int} (h : By W B xs) (hb : base ≤ B) (hm : xs.length ≤ maxLen) : Kd.R (Kd.int .u8) 5 W base (fun _ => True) (.slice (some ⟨B, 0, none⟩) xs.length xs.length) xs := by
  obtain ⟨cells, hh, hc⟩ := h
  refine Kd.R_of_own (enc := Value.int .u8) (h1 := fun _ => rfl) ⟨by simp [encs], .inr ⟨B, xs.length, cells, rfl, hb, hh, Nat.le_refl _, hm, ?_, ?_⟩⟩ (fun _ _ => trivial)
  · rw [← Array.length_toList, hc]; simp
  · rw [hc, Nat.mul_one, List.take_of_length_le (by simp)]; rfl
theorem make_run (n : Nat) (h1 : n ≤ 100000) (W : World) : (Instr.makeSlice 22 (.int .i64 n) (.int .i64 n)).run Try.prog W = .ok (.slice (some ⟨W.heap.size, 0, none⟩) n n) (W.alloc (.cells (madeCells #[.int .u8 0] n) 5)) := by
  obtain ⟨i0, hi, hz⟩ := Option.map_eq_some_iff.1 info5
  simp only [Prod.mk.injEq] at hz
  have := run_make (P := Try.prog) W 22 5 i0 (.int .u8 0) Try.underlying22 hi hz.1 .i64 .i64 n n (by omega) (Int.le_refl _) (by rw [hz.2.2]; omega) (by omega)
  rw [hz.2.1, Nat.mul_one, Int.toNat_natCast] at this
  exact this
theorem By.made (W : World) (n : Nat) : By (W.alloc (.cells (madeCells #[.int .u8 0] n) 5)) W.heap.size (List.replicate n 0) := by
  refine ⟨_, blk_new _ _, ?_⟩
  apply List.ext_getElem
  · simp [size_madeCells]
  · intro i h1 h2
    simp [madeCells, Nat.mod_one]

/-! the bytes after each step -/
def stepL (bc : Int → Int → Int) (at_ : Int) (l : List Int) (i : Nat) : List Int := l.set (at_ + i).toNat (bc i (rd l (at_ + i)))
def stL (bc : Int → Int → Int) (at_ : Int) (l : List Int) : Nat → List Int
  | 0 => l
  | i + 1 => stepL bc at_ (stL bc at_ l i) i
theorem stL_length (bc : Int → Int → Int) (at_ : Int) (l : List Int) (i : Nat) : (stL bc at_ l i).length = l.length := by
  induction i with
  | zero => rfl
  | succ i ih => show (stepL _ _ _ _).length = _; unfold stepL; rw [List.length_set, ih]

/-- What a round keeps: what lay below n1, and all cells but the variable's box and its row. -/
def Kp (n1 B0 R0 : Nat) (A B : World) : Prop := Below n1 A B ∧ ∀ k o, A.heap[k]? = some o → o.isCells = true → k ≠ B0 → k ≠ R0 → B.heap[k]? = some o
theorem Kp.trans {n1 B0 R0 : Nat} {A B C : World} (h : Kp n1 B0 R0 A B) (k : Kp n1 B0 R0 B C) : Kp n1 B0 R0 A C := ⟨h.1.trans k.1, fun i o ho hc h0 h1 => k.2 i o (h.2 i o ho hc h0 h1) hc h0 h1⟩
theorem Kp.put {n1 B0 R0 : Nat} {w : World} (hn : n1 ≤ w.heap.size) (W : World) (l : Nat) (o o' : Obj) (hl : w.heap.size ≤ l) (h : W.heap[l]? = some o) (hc : o.isCells = false) (hw : o.isWalk = false) : Kp n1 B0 R0 W (W.putObj l o') :=
  ⟨belowK_b hn W l o o' hl h hc hw, fun k o2 hk hc2 _ _ => (World.putObj_heap_other (fun e => by subst e; rw [h] at hk; cases hk; rw [hc] at hc2; cases hc2)).trans hk⟩
theorem By.kp {n1 B0 R0 : Nat} {A B : World} {k : Nat} {xs : List Int} (h : By A k xs) (hk : Kp n1 B0 R0 A B) (h0 : k ≠ B0) (h1 : k ≠ R0) : By B k xs := by
  obtain ⟨cells, hb, hc⟩ := h
  exact ⟨cells, hk.2 k _ hb rfl h0 h1, hc⟩

/-- What is told of a memory that is handed on. -/
def Frc (n many b : Nat) (pre : List (Value × List Int)) (x : Value × List Int) (W : World) : Prop := pre.length ≤ many ∧ b ≤ W.heap.size ∧ x.2.length = n ∧ Kd.R (Kd.int .u8) 5 W b (fun _ => True) x.1 x.2

/-- The iterator's own: the box of 'now' and its bytes. -/
def Now (W : World) (Bn Bd : Nat) (S : Int) (l : List Int) : Prop := W.heap[Bn]? = some (.cells #[.int .i64 S, .slice (some ⟨Bd, 0, none⟩) l.length l.length] 24 (0, 0)) ∧ By W Bd l
/-- The four boxes that it has captured. -/
def Caps (W : World) (Bf Bm Bb Ba : Nat) (S : Int) (A0 : Option Addr) (c0 n : Nat) (at_ many : Int) (fv : Value) : Prop :=
  W.heap[Bf]? = some (.cells #[.int .i64 S, .slice A0 n c0] 24 (0, 0)) ∧ W.heap[Ba]? = some (.cells #[.int .i64 at_] 3 (0, 0)) ∧
  W.heap[Bm]? = some (.cells #[.int .i64 many] 3 (0, 0)) ∧ W.heap[Bb]? = some (.cells #[fv] 50 (0, 0))
theorem Caps.below {W W' : World} {Bf Bm Bb Ba : Nat} {S : Int} {A0 : Option Addr} {c0 n : Nat} {at_ many : Int} {fv : Value} {n1 : Nat} (h : Caps W Bf Bm Bb Ba S A0 c0 n at_ many fv) (h0 : Bf < n1) (h1 : Bm < n1) (h2 : Bb < n1) (h3 : Ba < n1) (hb : Below n1 W W') : Caps W' Bf Bm Bb Ba S A0 c0 n at_ many fv :=
  ⟨(hb.block _ h0).trans h.1, (hb.block _ h3).trans h.2.1, (hb.block _ h1).trans h.2.2.1, (hb.block _ h2).trans h.2.2.2⟩

set_option maxRecDepth 100000 in
set_option maxHeartbeats 4000000 in
theorem steps1_told (n : Nat) (hn : 1 ≤ n) (Bf Bm Bb Ba B0 R0 : Nat) (S : Int) (A0 : Option Addr) (c0 : Nat) (l0 : List Int) (at_ : Int) (many : Nat) (gf : Nat) (fs : Array Value) (bc : Int → Int → Int) (w1 w : World)
    (hr0 : Kd.C (Kd.int .u8) w1 A0 l0.length l0) (hl0 : 1 ≤ l0.length) (hl1 : l0.length ≤ 100000) (hat : 0 ≤ at_) (hm : at_ + many ≤ l0.length)
    (hbf : Bf < w1.heap.size) (hbm : Bm < w1.heap.size) (hbb : Bb < w1.heap.size) (hba : Ba < w1.heap.size) (hB0 : B0 < w.heap.size) (hR0 : R0 < w.heap.size) (hb01 : Below w1.heap.size w1 w)
    (hcap : Caps w Bf Bm Bb Ba S A0 c0 l0.length at_ many (.func (.func gf) #[] fs)) (eg : ∀ args w, (callFunc gf args).run Try.prog w = .ok (.enter gf args) w)
    (hbc : ∀ (i old : Int) (W : World), 0 ≤ i → i < many → Below w1.heap.size w1 W → Calls Try.prog gf (#[.int .i64 i, .int .u8 old] ++ fs) W fun e W' => e = .returned (.int .u8 (bc i old)) ∧ W' = W) :
    SeqTold False Fence.wide n Try.prog 33 #[.pointer (some ⟨Bf, 0, none⟩), .pointer (some ⟨Bm, 0, none⟩), .pointer (some ⟨Bb, 0, none⟩), .pointer (some ⟨Ba, 0, none⟩)] (fun x : Value × List Int => #[.agg #[.int .i64 S, x.1]])
      (fun b => Frc l0.length many b) (Kp w1.heap.size B0 R0) (fun xs => xs.map (·.2) = (List.range (many + 1)).map (stL bc at_ l0)) (fun _ => False) w := by
  intro lp J Jx W hW hJ hJx hno hY h0
  have hC := Kd.C_below hr0 hb01
  have hC := Kd.C_below hC hW
  have hcapW : Caps W Bf Bm Bb Ba S A0 c0 l0.length at_ many (.func (.func gf) #[] fs) := hcap.below (n1 := w.heap.size) (by have := hb01.size; omega) (by have := hb01.size; omega) (by have := hb01.size; omega) (by have := hb01.size; omega) hW
  have hb1W : Below w1.heap.size w1 W := hb01.trans (hW.mono hb01.size)
  have HC := Lib.hid hC
  have HJ := Lib.hid hJ
  have HY := Lib.hid hY
  have H0 := Lib.hid h0
  have HB1 := Lib.hid hb1W
  have HBC := Lib.hid hbc
  have HNO := Lib.hid hno
  have HCAP := Lib.hid hcapW
  have hsz := hW.size
  have hsz1 := hb1W.size
  clear hC hJ hY h0 hb1W hbc hno hr0 hcap hb01 hcapW hJx hW
  refine callsIn_of_wp Try.func33 rfl trivial ?_ rfl
  simp only [Try.ntmps33, List.size_toArray, List.length_cons, List.length_nil, Nat.reduceAdd, Nat.reduceSub, Array.replicate_succ, Array.replicate_zero, List.push_toArray, List.append_toArray, List.nil_append, List.cons_append]
  gi_upto_region 0 with fail
  gi_cut [6] from 8 (fun s6 wx => ∃ Bn Bd, s6 = .pointer (some ⟨Bn, 0, none⟩) ∧ W.heap.size ≤ Bn ∧ W.heap.size ≤ Bd ∧ Bn ≠ Bd ∧ Hid (Now wx Bn Bd S (List.replicate l0.length 0)) ∧ Hid (Below W.heap.size W wx))
  case first =>
    refine wpIn_wide.2 ?_
    have p0 : W.cell? ⟨Bf, 0, none⟩ = some (.int .i64 S) := by rw [blk_cell HCAP.out.1]; rfl
    have p1 : W.cell? ⟨Bf, 1, none⟩ = some (.slice A0 l0.length c0) := by rw [blk_cell HCAP.out.1]; rfl
    have hmk := make_run l0.length hl1
    have q0 := World.new_ne W _ p0
    have q1 := World.new_ne W _ p1
    go_region_held3 (fun w' => w'.cell? ⟨Bf, 0, none⟩ = some (.int .i64 S) ∧ w'.cell? ⟨Bf, 1, none⟩ = some (.slice A0 l0.length c0)) (go_keep) (fail)
    · gi_wp2_with fail
      go_meet
      refine ⟨W.heap.size + 1, W.heap.size, rfl, by omega, Nat.le_refl _, by omega, ?_, ?_⟩
      · refine Lib.hid ⟨?_, ?_⟩
        · have := blk_new (W.alloc (.cells (madeCells #[.int .u8 0] l0.length) 5)) (.cells #[.int .i64 S, .slice (some ⟨W.heap.size, 0, none⟩) l0.length l0.length] 24)
          rw [World.size_alloc] at this
          rw [List.length_replicate]
          exact this
        · exact (By.made W l0.length).alloc _
      · exact Lib.hid (((Below.refl _ W).alloc (Nat.le_refl _) _).alloc (by simp) _).drew
    · gi_wp2_with fail
      go_meet
      refine ⟨W.heap.size, W.heap.size + 1, rfl, Nat.le_refl _, by omega, by omega, ?_, ?_⟩
      · refine Lib.hid ⟨?_, ?_⟩
        · rw [List.length_replicate]
          exact blk_alloc (blk_new W _) _
        · have := By.made (W.alloc (.cells #[.int .i64 S, .slice (some ⟨W.heap.size + 1, 0, none⟩) l0.length l0.length] 24)) l0.length
          rw [World.size_alloc] at this
          exact this
      · exact Lib.hid (((Below.refl _ W).alloc (Nat.le_refl _) _).alloc (by simp) _).drew
  case rest =>
  obtain ⟨Bn, Bd, rfl, hBn, hBd, hne, HN, HBW⟩ := hcut
  gi_upto_region 1 with fail
  gi_cut [7] from 15 (fun s7 wx => Hid (Now wx Bn Bd S l0) ∧ Hid (Below W.heap.size W wx))
  case first =>
    refine wpIn_wide.2 ?_
    have hr := Kd.C_below HC.out HBW.out
    obtain ⟨⟨hN1, cells, hN2, hN3⟩, hBW⟩ := And.intro HN.out HBW.out
    rw [List.length_replicate] at hN1
    have c0_ : wc.cell? ⟨Bn, 1, none⟩ = some (.slice (some ⟨Bd, 0, none⟩) l0.length l0.length) := by rw [blk_cell hN1]; rfl
    have c1_ : wc.cell? ⟨Bf, 1, none⟩ = some (.slice A0 l0.length c0) := by rw [(HBW.out).cell (p := ⟨Bf, 1, none⟩) (by show Bf < _; omega), blk_cell HCAP.out.1]; rfl
    have hsz2 : cells.size = l0.length := by rw [← Array.length_toList, hN3]; simp
    obtain ⟨ad, rfl, hsrc⟩ : ∃ ad, A0 = some ad ∧ ∀ j v, (l0.map (Value.int .u8))[j]? = some v → wc.cell? (ad.add j) = some v := by
      obtain ⟨ad, hA, _⟩ := Kd.at_int hr 0 (by omega) (by omega)
      refine ⟨ad, hA, fun j v hj => ?_⟩
      rw [List.getElem?_map] at hj
      obtain ⟨x, hx, rfl⟩ := Option.map_eq_some_iff.1 hj
      have hjl := (List.getElem?_eq_some_iff.1 hx).1
      obtain ⟨ad', hA', hc⟩ := Kd.at_int hr (j : Int) (by omega) (by omega)
      rw [hA] at hA'
      cases hA'
      rw [Int.toNat_natCast] at hc
      rw [hc]
      unfold rd
      rw [List.getD_eq_getElem?_getD, Int.toNat_natCast, hx]
      rfl
    have hfin : Now (wc.setRow Bd (l0.map (Value.int .u8) ++ cells.toList.drop l0.length).toArray) Bn Bd S l0 := by
      refine ⟨(setRow_other wc Bd Bn _ hne).trans hN1, _, setRow_heap wc Bd _ _ _ _ hN2, ?_⟩
      rw [List.drop_of_length_le (by simp [hsz2]), List.append_nil]
    have hbel : Below W.heap.size W (wc.setRow Bd (l0.map (Value.int .u8) ++ cells.toList.drop l0.length).toArray) := below_setRow hBW hBd _
    have hinfo : (Try.prog.info? 5).map (·.size) = some 1 := by kernel_rfl
    have HFIN := Lib.hid hfin
    have HBEL := Lib.hid hbel
    have HSRC := Lib.hid hsrc
    clear hfin hbel hsrc hr hN3 hN1 hBW
    go_wp2_with (with_reducible refine wpList_copy_own rfl (.tmp 16) (.tmp 18) 22 22 rfl 5 Try.underlying22 hinfo Bd 0 l0.length l0.length ad l0.length c0 rfl rfl cells 5 hN2 (l0.map (Value.int .u8)) (by simp) HSRC.out (by simp [hsz2]) (by simp [Value.oneCell']) ?_)
    gi_wp2_with fail
    go_meet
    exact ⟨HFIN, HBEL⟩
  case rest =>
  obtain ⟨HN2, HBW2⟩ := hcut
  clear HN HBW
  have hb0 := HBW2.out.size
  obtain ⟨b, hbb_⟩ : ∃ b, wc.heap.size = b := ⟨_, rfl⟩
  have hJ0 : J b [] wc := (HJ.out b).below (H0.out b (by omega)) HBW2.out
  have HJ0 := Lib.hid hJ0
  clear hJ0 H0
  have hBnb : Bn < b := by rw [← hbb_]; exact blk_lt HN2.out.1
  have hBdb : Bd < b := by rw [← hbb_]; exact HN2.out.2.lt
  have hbW : W.heap.size ≤ b := by omega
  have HBb := Lib.hid (show b ≤ wc.heap.size by omega)
  clear hbb_ hb0
  gi_wp2_with fail
  gi_loopw [7] (fun s7 wr => ∃ (k : Nat) (pre : List (Value × List Int)), k ≤ many ∧ s7 = .int .i64 k ∧ Hid (pre.map (·.2) = (List.range k).map (stL bc at_ l0)) ∧ Hid (J b pre wr) ∧ Hid (Now wr Bn Bd S (stL bc at_ l0 k)) ∧ Hid (Below w1.heap.size w1 wr) ∧ Hid (b ≤ wr.heap.size)) (fun s7 _ => many - (intOf s7).toNat)
  case atStart => exact ⟨0, [], Nat.zero_le _, rfl, Lib.hid rfl, HJ0, HN2, Lib.hid (HB1.out.trans (HBW2.out.mono HB1.out.size)), HBb⟩
  case round =>
    obtain ⟨k, pre, hk, rfl, HPRE, HJK, HNK, HBK, HSK⟩ := hrel
    clear HJ0 HBb HN2 HBW2
    have hmx : Try.prog.follows .mixedOrders = true := by kernel_rfl
    have hlen := stL_length bc at_ l0 k
    generalize hl : stL bc at_ l0 k = lk at *
    have HLK := Lib.hid hl
    have HLEN := Lib.hid hlen
    have hlk1 : lk.length ≤ 100000 := by omega
    clear hl hlen
    gi_upto_region 3 with fail
    gi_cut [32] from 20 (fun s32 wx => ∃ v, s32 = .bool (decide (k < many)) ∧ Hid (J b (pre ++ [(v, lk)]) wx) ∧ Hid (Now wx Bn Bd S lk) ∧ Hid (Below w1.heap.size w1 wx) ∧ Hid (b ≤ wx.heap.size))
    case first =>
      obtain ⟨hN1, hN2⟩ := HNK.out
      have c0_ : wr.cell? ⟨Bn, 0, none⟩ = some (.int .i64 S) := by rw [blk_cell hN1]; rfl
      have c1_ : wr.cell? ⟨Bn, 1, none⟩ = some (.slice (some ⟨Bd, 0, none⟩) lk.length lk.length) := by rw [blk_cell hN1]; rfl
      have hcb : Kd.C (Kd.int .u8) wr (some ⟨Bd, 0, none⟩) lk.length lk := (Kd.R_reads' (hN2.R (Nat.zero_le _) (by unfold maxLen; omega))).2.2
      have HCB := Lib.hid hcb
      have HNB := Lib.hid hN2
      clear hcb hN2 hN1
      gi_region_with_o ((first
        | (refine ⟨trivial, ?_⟩
           gi_at_call 34
           go_must (
             (refine (callsIn_wide.2 (FlashA.clone_calls _ _ lk _ (Kd.C_drew HCB.out) hlk1)).mono ?_)
             rintro e w2 ⟨v, rfl, hR2, hb2⟩
             have hbx := ((Below.refl wr.heap.size wr).drew).trans hb2
             obtain ⟨A2, cp2, rfl⟩ := Kd.R_slice hR2
             have hFr : Frc l0.length many b pre (.slice A2 lk.length cp2, lk) w2 := ⟨by have := congrArg List.length HPRE.out; rw [List.length_map, List.length_map, List.length_range] at this; omega, Nat.le_trans HSK.out hbx.size, HLEN.out, Kd.R_lower hR2 HSK.out⟩
             have hJ2 : J b pre w2 := (HJ.out b).below HJK.out hbx
             have hN3 : Now w2 Bn Bd S lk := ⟨blk_below HNK.out.1 hbx, HNK.out.2.below hbx⟩
             have c2_ : w2.cell? ⟨Bn, 0, none⟩ = some (.int .i64 S) := by rw [blk_cell hN3.1]; rfl
             have hB2 : Below w1.heap.size w1 w2 := HBK.out.trans (hbx.mono HBK.out.size)
             have hS2 : b ≤ w2.heap.size := Nat.le_trans HSK.out hbx.size
             obtain ⟨fn, tmps, assign, body, hy, hRR⟩ := HY.out b pre (.slice A2 lk.length cp2, lk) w2 hbW hJ2 hFr
             dsimp only at hy hRR
             have HRR := Lib.hid hRR
             have HN3 := Lib.hid hN3
             have HB2 := Lib.hid hB2
             have HS2 := Lib.hid hS2
             clear hRR hN3 hB2 hS2 hJ2 hFr hR2 hb2 hbx))
        | (refine HRR.out.mono ?_
           go_must (
             rintro e w3 (⟨rfl, hJ3, hk3⟩ | ⟨rfl, hx⟩)
             rotate_left
             exact (HNO.out id _ _ _ hx).elim
             have hN4 : Now w3 Bn Bd S lk := ⟨hk3.2 _ _ HN3.out.1 rfl (by omega) (by omega), HN3.out.2.kp hk3 (by omega) (by omega)⟩
             have hB3 : Below w1.heap.size w1 w3 := HB2.out.trans hk3.1
             have c3_ : w3.cell? ⟨Bm, 0, none⟩ = some (.int .i64 many) := by rw [blk_cell ((hB3.block _ hbm).trans ((HB1.out.block _ hbm).symm.trans HCAP.out.2.2.1))]; rfl
             have HN4 := Lib.hid hN4
             have HB3 := Lib.hid hB3
             have HS3 := Lib.hid (Nat.le_trans HS2.out hk3.1.size)
             have HJ3 := Lib.hid hJ3
             clear hy hk3 hN4 hB3 hJ3))))
      all_goals
        go_simp
        gi_wp2_with fail
        go_meet
        exact ⟨_, rfl, HJ3, HN4, HB3, HS3⟩
    case rest =>
    obtain ⟨v, rfl, HJ4, HN4, HB4, HS4⟩ := hcut
    have hpre : (pre ++ [(v, lk)]).map (·.2) = (List.range (k + 1)).map (stL bc at_ l0) := by
      rw [List.map_append, HPRE.out, List.range_succ, List.map_append, List.map_cons, List.map_cons, List.map_nil, List.map_nil, HLK.out]
    have HPRE4 := Lib.hid hpre
    clear HJK HNK HBK HSK hpre HPRE
    by_cases hlt : k < many
    · rw [decide_eq_true hlt]
      gi_upto_region 5 with fail
      refine wpIn_wide.2 ?_
      have k0 : (0 : Int) ≤ (k : Int) := Int.natCast_nonneg _
      have k1 : (k : Int) < (many : Int) := by omega
      have c0_ : wc.cell? ⟨Bn, 1, none⟩ = some (.slice (some ⟨Bd, 0, none⟩) lk.length lk.length) := by rw [blk_cell HN4.out.1]; rfl
      have hblk : ∀ B, B < w1.heap.size → wc.heap[B]? = W.heap[B]? := fun B hB => (HB4.out.block B hB).trans (HB1.out.block B hB).symm
      have c1_ : wc.cell? ⟨Ba, 0, none⟩ = some (.int .i64 at_) := by rw [blk_cell ((hblk _ hba).trans HCAP.out.2.1)]; rfl
      have c2_ : wc.cell? ⟨Bb, 0, none⟩ = some (.func (.func gf) #[] fs) := by rw [blk_cell ((hblk _ hbb).trans HCAP.out.2.2.2)]; rfl
      have hlen := HLEN.out
      have g0 : (0 : Int) ≤ at_ + (k : Int) := by omega
      have g1 : at_ + (k : Int) < (lk.length : Int) := by omega
      have tw : IntKind.i64.wrap (at_ + (k : Int)) = at_ + (k : Int) := Go.IntWalk.i64_in _ (by omega)
      have hget := HN4.out.2.get (at_ + k) g0 g1
      have hfr := HN4.out.2.open_ (at_ + (k : Int)).toNat
      have hput := HN4.out.2.put (at_ + (k : Int)).toNat (bc k (rd lk (at_ + k)))
      have hcall := HBC.out k (rd lk (at_ + k)) wc.drew k0 k1 (HB4.out.drew)
      generalize hr : rd lk (at_ + (k : Int)) = r at *
      have HPUT := Lib.hid hput
      have HCALL := Lib.hid hcall
      have HR := Lib.hid hr
      clear hblk hput hcall hr hlen
      refine wp_region_still_tail 16 (by kernel_rfl) (by kernel_rfl) ?_
      simp only [List.take_succ_cons, List.take_zero, List.drop_succ_cons, List.drop_zero]
      repeat still_step
      still_call HCALL.out
      repeat still_step
      refine wpStill_nil ?_
      change wpList _ _ _ _ _ (World.drew _)
      go_wp2_with fail
      gi_wp2_with fail
      have hfin : Now ((wc.setCell ⟨Bd, (at_ + (k : Int)).toNat, none⟩ (.int .u8 (bc k r))).drew) Bn Bd S (stL bc at_ l0 (k + 1)) := by
        have e : stL bc at_ l0 (k + 1) = lk.set (at_ + (k : Int)).toNat (bc k r) := by
          show stepL bc at_ (stL bc at_ l0 k) k = _
          rw [HLK.out]; unfold stepL; rw [HR.out]
        refine ⟨?_, ?_⟩
        · rw [e, List.length_set]
          exact (Below.heap_setCell _ _ _ _ hne).trans HN4.out.1
        · rw [e]; exact HPUT.out
      have hJ5 : J b (pre ++ [(v, lk)]) ((wc.setCell ⟨Bd, (at_ + (k : Int)).toNat, none⟩ (.int .u8 (bc k r))).drew) := (HJ.out b).below ((HJ.out b).set Bd _ _ HJ4.out hBd hBdb) ((Below.refl _ _).drew)
      go_roundw
      case rel => exact ⟨k + 1, pre ++ [(v, lk)], by omega, by go_num, HPRE4, Lib.hid hJ5, Lib.hid hfin, Lib.hid ((HB4.out.setCell (p := ⟨Bd, (at_ + (k : Int)).toNat, none⟩) (by show w1.heap.size ≤ Bd; omega) _).drew), Lib.hid (by have := HS4.out; simpa [World.size_setCell] using this)⟩
      case measure => simp [intOf]; omega
    · obtain rfl : k = many := by omega
      gi_wp2_with fail
      go_end0
      exact ⟨⟨_, rfl⟩, b, .inl ⟨_, HPRE4.out, HJ4.out⟩⟩
end Go.Proofs.Ytdblbilgnfomaaa.FlashB
