/-
  The walk of lease.until: the iterator over the leases that may be alive.
-/
import Derived.Test.YtpngiddelhcepaaLeaseGrant
import Derived.Test.YtpngiddelhcepaaClockWait
import Derived.RangeFuncNested
import Derived.RangeFuncBound
import Derived.RangeFuncCalls
import Derived.RangeFuncLeaves
import Derived.Shelf.Abstract
import Derived.Shelf.RegionOpen
import Derived.WalkKit
import Derived.OwnWalkIn
import Derived.TacticsInMore
import Derived.LoopNIn
import Derived.LoopIn
import Derived.Maps.AppendAt
namespace Go.Proofs.Ytpngiddelhcepaa.LeaseWalk
open Go.RowKit Go.Shelf Go.Proofs.Ytpngiddelhcepaa.Kit Go.Proofs.Ytpngiddelhcepaa.PAll
open Go.Proofs.YtpngiddelhcepaaW.PrintWords hiding below_alloc below_drew
set_option linter.unusedVariables false
set_option linter.unusedSimpArgs false
attribute [local go_sem] Oper.semAt_some

def waitN (t : Int) : Int := (t * 1000000 + 999799) / 999800
def endL (x : Ls) : Int := x.f3 + 10 + waitN x.f4
def aliveL (tick : Int) (l : List Ls) : List Ls := l.filter fun x => decide (endL x > tick)
theorem aliveL_hit {tick : Int} {l : List Ls} {x : Ls} (h : tick < endL x) : aliveL tick (l ++ [x]) = aliveL tick l ++ [x] := by simp [aliveL, h]
theorem aliveL_miss {tick : Int} {l : List Ls} {x : Ls} (h : ¬ tick < endL x) : aliveL tick (l ++ [x]) = aliveL tick l := by simp [aliveL, show ¬ (endL x > tick) from h]

def KpT (n1 Bt : Nat) (W W' : World) : Prop := Below n1 W W' ∧ ∀ v, Boxed W Bt 3 v → Boxed W' Bt 3 v
theorem KpT.trans {n1 Bt : Nat} {A B C : World} (h : KpT n1 Bt A B) (k : KpT n1 Bt B C) : KpT n1 Bt A C := ⟨h.1.trans k.1, fun v hv => k.2 v (h.2 v hv)⟩
theorem KpT.put {n1 Bt : Nat} {w : World} (hn : n1 ≤ w.heap.size) (hB : Bt < w.heap.size) (W : World) (l : Nat) (o o' : Obj) (hl : w.heap.size ≤ l) (h : W.heap[l]? = some o) (_ : o.isCells = false) (_ : o.isWalk = false) : KpT n1 Bt W (W.putObj l o') :=
  ⟨belowK_b hn W l o o' hl h ‹_› ‹_›, fun v hv => (World.putObj_heap_other (show Bt ≠ l by omega)).trans hv⟩
theorem boxed_below {W W' : World} {B : Nat} {t : TypeId} {v : Value} (h : Boxed W B t v) (hb : Below W.heap.size W W') : Boxed W' B t v := blk_below h hb

theorem oneL_bounds {x : Ls} (h : oneL x = true) : (1 ≤ x.f0 ∧ x.f0 ≤ 1000000) ∧ (0 ≤ x.f1 ∧ x.f1 ≤ 15) ∧ (0 ≤ x.f2 ∧ x.f2 ≤ 80) ∧ (0 ≤ x.f3 ∧ x.f3 ≤ 1000000) ∧ (1 ≤ x.f4 ∧ x.f4 ≤ 1000) := by
  unfold oneL inI at h
  simp only [Bool.and_eq_true, decide_eq_true_eq, ge_iff_le] at h
  omega

set_option maxRecDepth 100000 in
set_option maxHeartbeats 2000000 in
theorem until1_in (n : Nat) (hn : 1 ≤ n) (lp Bl Bt : Nat) (A0 : Option Addr) (c0 : Nat) (l0 : List Ls) (tick : Int) (w0 : World) (hr0 : Kd.C kL w0 A0 l0.length l0) (hone : ∀ x ∈ l0, oneL x = true) (hl : l0.length ≤ 64)
    (ht : 0 ≤ tick ∧ tick ≤ 1100000) (J Jx : List Ls → World → Prop) (W : World) (hB0 : Below w0.heap.size w0 W) (hJ : AbidesFrom W.heap.size J)
    (hY : ∀ pre x W1, x ∈ l0 → J pre W1 → pre.length < l0.length → YieldAt Fence.wide (n - 1) Try.prog lp #[.agg #[.int .i64 x.f0, .int .i64 x.f1, .int .i64 x.f2, .int .i64 x.f3, .int .i64 x.f4]] W1 fun e W' =>
      (e = .returned (.bool true) ∧ J (pre ++ [x]) W' ∧ KpT w0.heap.size Bt W1 W') ∨ (e = .returned (.bool false) ∧ Jx (pre ++ [x]) W'))
    (hbl : W.cell? ⟨Bl, 0, none⟩ = some (.slice A0 l0.length c0)) (hbt : Boxed W Bt 3 (.int .i64 tick)) (h0 : J [] W) :
    CallsIn Fence.wide n Try.prog 38 #[.func (.yield lp) #[] #[], .pointer (some ⟨Bl, 0, none⟩), .pointer (some ⟨Bt, 0, none⟩)] W fun e W' => (∃ v, e = .returned v) ∧
      ((∃ ys, ys = aliveL tick l0 ∧ J ys W') ∨ (∃ pre, pre <+: aliveL tick l0 ∧ Jx pre W')) := by
  have HR := Lib.hid hr0
  have HONE := Lib.hid hone
  have HJ := Lib.hid hJ
  have HY := Lib.hid hY
  have H0 := Lib.hid h0
  have HBT := Lib.hid hbt
  obtain ⟨ht0, ht1⟩ := ht
  clear hr0 hone hJ hY h0 hbt
  refine callsIn_of_wp Try.func38 rfl trivial ?_ rfl
  simp only [Try.ntmps38, List.size_toArray, List.length_cons, List.length_nil, Nat.reduceAdd, Nat.reduceSub, Array.replicate_succ, Array.replicate_zero, List.push_toArray, List.append_toArray, List.nil_append, List.cons_append]
  gi_wp2
  gi_loopw [10] (fun s10 wr => ∃ k : Nat, k ≤ l0.length ∧ s10 = .int .i64 k ∧ Hid (J (aliveL tick (l0.take k)) wr) ∧ Hid (Below w0.heap.size w0 wr) ∧ Hid (Boxed wr Bt 3 (.int .i64 tick)) ∧ Hid (W.heap.size ≤ wr.heap.size))
    (fun s10 _ => l0.length - (intOf s10).toNat)
  case atStart => exact ⟨0, Nat.zero_le _, rfl, H0, hB0, HBT, Nat.le_refl _⟩
  case round =>
    obtain ⟨k, hk, rfl, HJs, HB, HT, HS⟩ := hrel
    by_cases hlt : k < l0.length
    · have hC := Kd.C_below HR.out HB.out
      obtain ⟨ad, rfl, x0, x1, x2, x3, x4⟩ := at_T24 hC k (Int.natCast_nonneg _) (by omega)
      generalize hrr : rd_T24 l0 (k : Int) = r at *
      simp only [Int.toNat_natCast] at x0 x1 x2 x3 x4
      have hr : l0[k]? = some r := by
        rw [← hrr]; unfold rd_T24
        rw [List.getD_eq_getElem?_getD, Int.toNat_natCast, List.getElem?_eq_getElem hlt]; rfl
      have hmem := List.mem_of_getElem? hr
      have hb := oneL_bounds (HONE.out r hmem)
      obtain ⟨_, _, _, ⟨f30, f31⟩, f40, f41⟩ := hb
      have htk : l0.take (k + 1) = l0.take k ++ [r] := by rw [List.take_add_one, hr]; rfl
      have j0 : (0 : Int) ≤ (k : Int) := Int.natCast_nonneg _
      have j1 : (k : Int) < (l0.length : Int) := by omega
      have hw : ClockWait.waitF r.f4 = some (waitN r.f4, 0) := by unfold ClockWait.waitF waitN; rw [if_pos ⟨by omega, by omega⟩]
      have hwb : 0 ≤ waitN r.f4 ∧ waitN r.f4 ≤ 2000 := by unfold waitN; omega
      have hE : endL r = r.f3 + 10 + waitN r.f4 := rfl
      generalize waitN r.f4 = wv at *
      obtain ⟨w0_, w1_⟩ := hwb
      have HW := Lib.hid hw
      have HTK := Lib.hid htk
      have HE := Lib.hid hE
      have HMEM := Lib.hid hmem
      clear hrr hr hmem hC hw htk hE
      gi_wp2_with fail
      refine ⟨trivial, ?_⟩
      refine (callsIn_wide.2 (ClockWait.wait_calls r.f4 wv 0 _ HW.out)).mono ?_
      rintro e w2 ⟨rfl, hb2⟩
      have hbx : Below wr.heap.size wr w2 := (below_alloc (Below.refl _ _) _).trans (hb2.mono (by simp))
      have g1 := blk_below (blk_new wr _) hb2
      have z0 : w2.cell? ⟨wr.heap.size, 0, none⟩ = some (.int .i64 r.f0) := by rw [blk_cell g1]; rfl
      have z1 : w2.cell? ⟨wr.heap.size, 1, none⟩ = some (.int .i64 r.f1) := by rw [blk_cell g1]; rfl
      have z2 : w2.cell? ⟨wr.heap.size, 2, none⟩ = some (.int .i64 r.f2) := by rw [blk_cell g1]; rfl
      have z3 : w2.cell? ⟨wr.heap.size, 3, none⟩ = some (.int .i64 r.f3) := by rw [blk_cell g1]; rfl
      have z4 : w2.cell? ⟨wr.heap.size, 4, none⟩ = some (.int .i64 r.f4) := by rw [blk_cell g1]; rfl
      have hT2 := boxed_below HT.out hbx
      have cT := hT2.cell
      have hJ2 : J (aliveL tick (l0.take k)) w2 := HJ.out _ _ _ none HJs.out (grown_of_below hbx none) (fun r e => by cases e)
      have hB2 : Below w0.heap.size w0 w2 := HB.out.trans (hbx.mono HB.out.size)
      have hS2 : W.heap.size ≤ w2.heap.size := Nat.le_trans HS.out hbx.size
      have HT2 := Lib.hid hT2
      have HJ2 := Lib.hid hJ2
      have HB2 := Lib.hid hB2
      have HS2 := Lib.hid hS2
      clear hb2 hbx g1 hT2 hJ2 hB2 hS2 x0 x1 x2 x3 x4
      by_cases hal : tick < r.f3 + 10 + wv
      · have hal' : tick < endL r := by rw [HE.out]; exact hal
        have hHIT := aliveL_hit (l := l0.take k) hal'
        have hpre : aliveL tick (l0.take (k + 1)) <+: aliveL tick l0 := (List.take_prefix _ _).filter _
        rw [HTK.out, hHIT] at hpre
        have hlen : (aliveL tick (l0.take k)).length < l0.length := by
          have := List.length_filter_le (fun x => decide (endL x > tick)) (l0.take k)
          have h2 := List.length_take_le k l0
          unfold aliveL; omega
        obtain ⟨fn, tmps, assign, body, hy, hRR⟩ := HY.out _ r w2 HMEM.out HJ2.out hlen
        have HRR := Lib.hid hRR
        have HHIT := Lib.hid hHIT
        have HPRE := Lib.hid hpre
        clear hRR hHIT hpre hal' hlen
        gi_wp2
        refine HRR.out.mono ?_
        rintro e w3 (⟨rfl, hJ3, hk3⟩ | ⟨rfl, hJx3⟩)
        · have HJ3 := Lib.hid hJ3
          have HK3 := Lib.hid hk3
          clear hJ3 hk3 hy
          gi_wp2
          go_roundw
          case rel => exact ⟨k + 1, by omega, by go_num, by rw [HTK.out, HHIT.out]; exact HJ3.out, HB2.out.trans HK3.out.1, HK3.out.2 _ HT2.out, Nat.le_trans HS2.out HK3.out.1.size⟩
          case measure => simp [intOf]; omega
        · have HJx3 := Lib.hid hJx3
          clear hJx3 hy
          gi_wp2
          refine bodyPost_ret (results_none rfl _ _ _) rfl ?_
          exact ⟨⟨_, rfl⟩, .inr ⟨_, HPRE.out, HJx3.out⟩⟩
      · have hal' : ¬ tick < endL r := by rw [HE.out]; exact hal
        have hMISS := aliveL_miss (l := l0.take k) hal'
        have HMISS := Lib.hid hMISS
        clear hMISS hal'
        gi_wp2
        refine ⟨fun _ h => (by cases h), ?_⟩
        gi_wp2
        go_roundw
        case rel => exact ⟨k + 1, by omega, by go_num, by rw [HTK.out, HMISS.out]; exact HJ2.out, HB2.out, HT2.out, HS2.out⟩
        case measure => simp [intOf]; omega
    · obtain rfl : k = l0.length := by omega
      gi_wp2
      go_end0
      exact ⟨⟨_, rfl⟩, .inl ⟨_, by rw [List.take_length], HJs.out⟩⟩

/-- until: both arguments are boxed; the closure has both boxes. -/
theorem until_calls (A0 : Option Addr) (n0 c0 : Nat) (tick : Int) (w : World) :
    Calls Try.prog 30 #[.slice A0 n0 c0, .int .i64 tick] w fun e w' => e = .returned (.func (.func 38) #[] #[.pointer (some ⟨w.heap.size, 0, none⟩), .pointer (some ⟨w.heap.size + 1, 0, none⟩)]) ∧ w' = (w.alloc (.cells #[.slice A0 n0 c0] 22)).alloc (.cells #[.int .i64 tick] 3) := by
  have hmf : ∀ (fn : Fn) (first cap : Array Value) (w : World), (Instr.makeFunc fn first cap).run Try.prog w = .ok (.func fn first cap) w := fun _ _ _ _ => rfl
  go_enter Try.func30, Try.ntmps30
  go_wp2
  go_ret
  exact ⟨rfl, rfl⟩

/-- until's closure yields the leases that may be alive, in their order. -/
theorem until_stops (n : Nat) (hn : 1 ≤ n) (Bl Bt : Nat) (A0 : Option Addr) (c0 : Nat) (l0 : List Ls) (tick : Int) (w0 w : World) (hr0 : Kd.C kL w0 A0 l0.length l0) (hone : ∀ x ∈ l0, oneL x = true) (hl : l0.length ≤ 64)
    (ht : 0 ≤ tick ∧ tick ≤ 1100000) (hB0 : Below w0.heap.size w0 w) (hBl : Bl < w.heap.size) (hBt : Bt < w.heap.size)
    (hbl : w.cell? ⟨Bl, 0, none⟩ = some (.slice A0 l0.length c0)) (hbt : Boxed w Bt 3 (.int .i64 tick)) :
    SeqStopsK Fence.wide n Try.prog 38 #[.pointer (some ⟨Bl, 0, none⟩), .pointer (some ⟨Bt, 0, none⟩)] (fun x : Ls => #[.agg #[.int .i64 x.f0, .int .i64 x.f1, .int .i64 x.f2, .int .i64 x.f3, .int .i64 x.f4]])
      (KpT w0.heap.size Bt) (fun ys => ys = aliveL tick l0) (fun pre => pre <+: aliveL tick l0) l0.length w := fun l J Jx W hW hJ _ hY h0 =>
  until1_in n hn l Bl Bt A0 c0 l0 tick w0 hr0 hone hl ht J Jx W (hB0.trans (hW.mono hB0.size)) hJ (fun pre x W1 _ => hY pre x W1) ((hW.cell (p := ⟨Bl, 0, none⟩) hBl).trans hbl) (boxed_below hbt hW) h0

/-- The same, where what is known of each lease is told with it. -/
theorem until_stopsP (Px : Ls → Prop) (n : Nat) (hn : 1 ≤ n) (Bl Bt : Nat) (A0 : Option Addr) (c0 : Nat) (l0 : List Ls) (tick : Int) (w0 w : World) (hr0 : Kd.C kL w0 A0 l0.length l0) (hone : ∀ x ∈ l0, oneL x = true) (hP : ∀ x ∈ l0, Px x) (hl : l0.length ≤ 64)
    (ht : 0 ≤ tick ∧ tick ≤ 1100000) (hB0 : Below w0.heap.size w0 w) (hBl : Bl < w.heap.size) (hBt : Bt < w.heap.size)
    (hbl : w.cell? ⟨Bl, 0, none⟩ = some (.slice A0 l0.length c0)) (hbt : Boxed w Bt 3 (.int .i64 tick)) :
    SeqStopsK Fence.wide n Try.prog 38 #[.pointer (some ⟨Bl, 0, none⟩), .pointer (some ⟨Bt, 0, none⟩)] (fun x : { x : Ls // Px x } => #[.agg #[.int .i64 x.1.f0, .int .i64 x.1.f1, .int .i64 x.1.f2, .int .i64 x.1.f3, .int .i64 x.1.f4]])
      (KpT w0.heap.size Bt) (fun ys => ys.map (·.1) = aliveL tick l0) (fun pre => pre.map (·.1) <+: aliveL tick l0) l0.length w := fun l J Jx W hW hJ hJx hY h0 => by
  refine (until1_in n hn l Bl Bt A0 c0 l0 tick w0 hr0 hone hl ht (fun L W => ∃ l' : List { x : Ls // Px x }, l'.map (·.1) = L ∧ J l' W) (fun L W => ∃ l' : List { x : Ls // Px x }, l'.map (·.1) = L ∧ Jx l' W) W (hB0.trans (hW.mono hB0.size))
    (fun s X Y row ⟨l', e, h⟩ hg hr => ⟨l', e, hJ _ X Y row h hg hr⟩) ?_ ((hW.cell (p := ⟨Bl, 0, none⟩) hBl).trans hbl) (boxed_below hbt hW) ⟨[], rfl, h0⟩).mono ?_
  · rintro pre x W1 hx ⟨l', rfl, h⟩ hlen
    refine YieldAt.mono (hY l' ⟨x, hP x hx⟩ W1 h (by simpa using hlen)) ?_
    rintro e W' (⟨he, h1, h2⟩ | ⟨he, h1⟩)
    · exact .inl ⟨he, ⟨_, by simp, h1⟩, h2⟩
    · exact .inr ⟨he, _, by simp, h1⟩
  · rintro e W' ⟨he, ⟨ys, rfl, l', e1, h⟩ | ⟨pre, hp, l', rfl, h⟩⟩
    · exact ⟨he, .inl ⟨l', e1, h⟩⟩
    · exact ⟨he, .inr ⟨l', hp, h⟩⟩
end Go.Proofs.Ytpngiddelhcepaa.LeaseWalk
