/-
  The walk of plate.Distance: the distance of two plates, as a recurrence over beginnings.
-/
import Derived.Test.YtcpiapenagbapaaDoorPlateWalk
import Derived.Test.YtcpiapenagbapaaDoorWMore
import Derived.Lib.OthersKept
import Derived.Deep.RegionHeld3
import Derived.Laws.ByValue
import Derived.Laws.Rows
import Derived.IntWalk
import Derived.Laws.CopyOwn
namespace Go.Proofs.YtcpiapenagbapaaDoor.PlateDist
open Go.RowKit Go.Proofs.YtcpiapenagbapaaDoor.Kit Go.Proofs.YtcpiapenagbapaaDoor.PlateWalk Go.Proofs.YtcpiapenagbapaaDoorW.PrintMore
open Go.Proofs.YtcpiapenagbapaaDoorW.PrintWords (blk_put blk_set blk_far blk_cell blk_frozen blk_alloc blk_below blk_lt blk_new)
set_option linter.unusedVariables false
set_option linter.unusedSimpArgs false

/-- The sign of a text at a place. -/
def chr (s : ByteArray) (i : Nat) : Int := ((s.data.toList.getD i 0).toNat : Int)

/-- The least of three, as the built-in min finds it. -/
def min3 (x y z : Int) : Int := if z < (if y < x then y else x) then z else (if y < x then y else x)

/-- The distance of the first i signs of one text to the first k of another. -/
def D (a b : Nat → Int) : Nat → Nat → Int
  | 0, k => 2 * k
  | i + 1, 0 => 2 * (i + 1)
  | i + 1, k + 1 => min3 (D a b i k + exchangeI (a i) (b k)) (D a b i (k + 1) + 2) (D a b (i + 1) k + 2)

theorem min_run (ats : Array TypeId) (ty : TypeId) (x y z : Int) : Builtin.min_ ats ty #[.int .i64 x, .int .i64 y, .int .i64 z] = pure (.int .i64 (min3 x y z)) := by
  rw [min_three, min2_int]
  simp only [pure_bind, min2_int, min3]

theorem ex_bounds (x y : Int) : 0 ≤ exchangeI x y ∧ exchangeI x y ≤ 2 := by
  unfold exchangeI; split <;> (try split) <;> omega

theorem D_bounds (a b : Nat → Int) : ∀ i k, 0 ≤ D a b i k ∧ D a b i k ≤ 2 * (i + k)
  | 0, k => by unfold D; omega
  | i + 1, 0 => by unfold D; omega
  | i + 1, k + 1 => by
    have h1 := D_bounds a b i k
    have h2 := D_bounds a b i (k + 1)
    have h3 := D_bounds a b (i + 1) k
    have h4 := ex_bounds (a i) (b k)
    unfold D min3
    split <;> (try split) <;> omega

/-- Block B holds a row: f's values below n, and numbers beyond. -/
def IsRow (W : World) (B : Nat) (f : Nat → Int) (n : Nat) : Prop :=
  ∃ cs : Array Value, W.heap[B]? = some (.cells cs 38 (0, 0)) ∧ cs.size = 11 ∧ (∀ j, j < n → cs[j]? = some (.int .i64 (f j))) ∧ ∀ j, j < 11 → ∃ z, cs[j]? = some (.int .i64 z)

theorem IsRow.get {W : World} {B : Nat} {f : Nat → Int} {n : Nat} (h : IsRow W B f n) (j : Nat) (hj : j < n) : W.cell? ⟨B, j, none⟩ = some (.int .i64 (f j)) := by
  obtain ⟨cs, hb, hs, hf, hz⟩ := h
  rw [blk_cell hb]; exact hf j hj
theorem IsRow.any {W : World} {B : Nat} {f : Nat → Int} {n : Nat} (h : IsRow W B f n) (j : Nat) (hj : j < 11) : ∃ z, W.cell? ⟨B, j, none⟩ = some (.int .i64 z) := by
  obtain ⟨cs, hb, hs, hf, hz⟩ := h
  rw [blk_cell hb]; exact hz j hj
theorem IsRow.open_ {W : World} {B : Nat} {f : Nat → Int} {n : Nat} (h : IsRow W B f n) (j : Nat) : W.frozen? ⟨B, j, none⟩ = false := by
  obtain ⟨cs, hb, hs, hf, hz⟩ := h
  exact blk_frozen hb j
theorem IsRow.lt {W : World} {B : Nat} {f : Nat → Int} {n : Nat} (h : IsRow W B f n) : B < W.heap.size := by
  obtain ⟨cs, hb, hs, hf, hz⟩ := h
  exact blk_lt hb
theorem IsRow.put {W : World} {B : Nat} {f : Nat → Int} {n : Nat} (h : IsRow W B f n) (hn : n < 11) (z : Int) (hz : z = f n) : IsRow (W.setCell ⟨B, n, none⟩ (.int .i64 z)) B f (n + 1) := by
  subst hz
  obtain ⟨cs, hb, hs, hf, hz⟩ := h
  refine ⟨_, blk_set hb n _, by simpa using hs, fun j hj => ?_, fun j hj => ?_⟩
  · rw [Array.getElem?_setIfInBounds]
    by_cases e : n = j
    · subst e; simp [hs, hn]
    · rw [if_neg e]; exact hf j (by omega)
  · rw [Array.getElem?_setIfInBounds]
    by_cases e : n = j
    · subst e; simp [hs, hn]
    · rw [if_neg e]; exact hz j hj
theorem IsRow.heap {W W' : World} {B : Nat} {f : Nat → Int} {n : Nat} (h : IsRow W B f n) (e : W'.heap[B]? = W.heap[B]?) : IsRow W' B f n := by
  obtain ⟨cs, hb, r⟩ := h
  exact ⟨cs, e.trans hb, r⟩
theorem IsRow.below {W W' : World} {B : Nat} {f : Nat → Int} {n : Nat} (h : IsRow W B f n) (hb : Below W.heap.size W W') : IsRow W' B f n := h.heap (hb.block B h.lt)
theorem IsRow.mono {W : World} {B : Nat} {f g : Nat → Int} {n m : Nat} (h : IsRow W B f n) (hm : m ≤ n) (e : ∀ j, j < m → g j = f j) : IsRow W B g m := by
  obtain ⟨cs, hb, hs, hf, hz⟩ := h
  exact ⟨cs, hb, hs, fun j hj => by rw [e j hj]; exact hf j (by omega), hz⟩
theorem IsRow.fresh (W : World) (f : Nat → Int) : IsRow (W.alloc (.cells #[.int .i64 0, .int .i64 0, .int .i64 0, .int .i64 0, .int .i64 0, .int .i64 0, .int .i64 0, .int .i64 0, .int .i64 0, .int .i64 0, .int .i64 0] 38)) W.heap.size f 0 :=
  ⟨_, blk_new _ _, rfl, fun j hj => by omega, fun j hj => ⟨0, by
    match j, hj with
    | 0, _ => rfl
    | 1, _ => rfl
    | 2, _ => rfl
    | 3, _ => rfl
    | 4, _ => rfl
    | 5, _ => rfl
    | 6, _ => rfl
    | 7, _ => rfl
    | 8, _ => rfl
    | 9, _ => rfl
    | 10, _ => rfl⟩⟩

theorem IsRow.first (W : World) (f : Nat → Int) (z : Int) (hz : z = f 0) : IsRow (W.alloc (.cells #[.int .i64 z, .int .i64 0, .int .i64 0, .int .i64 0, .int .i64 0, .int .i64 0, .int .i64 0, .int .i64 0, .int .i64 0, .int .i64 0, .int .i64 0] 38)) W.heap.size f 1 :=
  ⟨_, blk_new _ _, rfl, fun j hj => by obtain rfl : j = 0 := by omega
                                       rw [← hz]; rfl, fun j hj => by
    match j, hj with
    | 0, _ => exact ⟨z, rfl⟩
    | 1, _ => exact ⟨0, rfl⟩
    | 2, _ => exact ⟨0, rfl⟩
    | 3, _ => exact ⟨0, rfl⟩
    | 4, _ => exact ⟨0, rfl⟩
    | 5, _ => exact ⟨0, rfl⟩
    | 6, _ => exact ⟨0, rfl⟩
    | 7, _ => exact ⟨0, rfl⟩
    | 8, _ => exact ⟨0, rfl⟩
    | 9, _ => exact ⟨0, rfl⟩
    | 10, _ => exact ⟨0, rfl⟩⟩

theorem chr_get (s : ByteArray) (i : Nat) (h : i < s.size) : ((s[i]'h).toNat : Int) = chr s i := by
  unfold chr
  rw [List.getD_eq_getElem?_getD, List.getElem?_eq_getElem (by simpa using h)]
  rfl

theorem validP_ascii (p : ByteArray) (h : validP p = true) (i : Nat) (hi : i < p.size) : (p[i]'hi).toNat < 128 := by
  unfold validP at h
  simp only [Bool.and_eq_true, List.all_eq_true] at h
  have h1 := h.1 (p[i]'hi) (by rw [ByteArray.getElem_eq_getElem_data]; exact Array.getElem_mem_toList _)
  rw [okN_eq] at h1
  omega
theorem validP_size (p : ByteArray) (h : validP p = true) : 1 ≤ p.size ∧ p.size ≤ 10 := by
  unfold validP at h
  simp only [Bool.and_eq_true, decide_eq_true_eq] at h
  exact h.2

theorem iterPos_of {W : World} {k : Nat} {s : ByteArray} {p : Nat} (h : W.heap[k]? = some (.stringIter s p)) : W.iterPos k = p := by
  unfold World.iterPos; rw [h]

theorem size38 : (Tryd.prog.info? 38).map (·.size) = some 11 := by kernel_rfl

theorem IsRow.setRow {W : World} {B : Nat} {g : Nat → Int} {k : Nat} (h : IsRow W B g k) {f : Nat → Int} {n : Nat} (cs : Array Value) (hs : cs.size = 11) (hf : ∀ j, j < n → cs[j]? = some (.int .i64 (f j))) (hz : ∀ j, j < 11 → ∃ z, cs[j]? = some (.int .i64 z)) : IsRow (W.setRow B cs) B f n := by
  obtain ⟨c0, hb, _⟩ := h
  exact ⟨cs, setRow_heap _ _ _ _ _ _ hb, hs, hf, hz⟩

theorem ints_one {cs : Array Value} (hs : cs.size = 11) (hz : ∀ j, j < 11 → ∃ z, cs[j]? = some (.int .i64 z)) : cs.all (·.oneCell') = true := by
  rw [Array.all_eq_true]
  intro i hi
  obtain ⟨z, h⟩ := hz i (by omega)
  rw [Array.getElem?_eq_getElem hi] at h
  rw [Option.some.inj h]; rfl

set_option maxRecDepth 100000 in
theorem distance_good (a b : ByteArray) (w : World) (va : validP a = true) (vb : validP b = true) (hL : Laid w) :
    Calls Tryd.prog 10 #[.string a, .string b] w fun e w' => e = .returned (.tuple #[.int .i64 (D (chr a) (chr b) a.size b.size), .int .i64 0]) ∧ Below w.heap.size w w' := by
  have sa := validP_size a va
  have sb := validP_size b vb
  have asa := validP_ascii a va
  have asb := validP_ascii b vb
  have HSA := Lib.hid asa
  have HSB := Lib.hid asb
  have hva := fun w => valid_calls a w
  have hvb := fun w => valid_calls b w
  rw [va] at hva
  rw [vb] at hvb
  have HVA := Lib.hid hva
  have HVB := Lib.hid hvb
  have HL := Lib.hid hL
  clear va vb hva hvb hL asa asb
  go_enter Tryd.func10, Tryd.ntmps10
  go_wp2_with fail
  refine (HVA.out _).mono ?_
  rintro e w1 ⟨rfl, hb1⟩
  have H1 := Lib.hid hb1
  clear hb1
  go_wp2_with fail
  refine (HVB.out _).mono ?_
  rintro e w2 ⟨rfl, hb2⟩
  have hB2 := below_trans H1.out hb2
  clear hb2
  have HB2 := Lib.hid hB2
  clear hB2
  go_wp2_with fail
  go_loopw [21] (fun i wr => ∃ k : Nat, k ≤ 11 ∧ i = .int .i64 k ∧ IsRow wr w2.heap.size (fun j => 2 * j) k ∧ Below w2.heap.size w2 wr) (fun i _ => 11 - (intOf i).toNat)
  case atStart => exact ⟨0, by omega, rfl, IsRow.fresh _ _, below_alloc (Below.refl _ _) _⟩
  case round =>
    obtain ⟨k, hk, rfl, hrow, hbr⟩ := hrel
    by_cases hlt : k < 11
    · obtain ⟨z, hz⟩ := hrow.any k hlt
      have hfz := hrow.open_ k
      go_wp2_with fail
      go_roundw
      case rel => exact ⟨k + 1, by omega, by go_num, hrow.put hlt _ rfl, hbr.setCell (Nat.le_refl _) _⟩
      case measure => simp [intOf]; omega
    · obtain rfl : k = 11 := by omega
      clear hlt hk
      have hbw := HB2.out.trans (hbr.mono HB2.out.size)
      have hLr := HL.out.below hbw
      have hBlt := hrow.lt
      have HR := Lib.hid hrow
      have HBW := Lib.hid hbw
      have HLR := Lib.hid hLr
      have hBge := HB2.out.size
      obtain ⟨B, hB⟩ : ∃ B, w2.heap.size = B := ⟨_, rfl⟩
      rw [hB] at HR hBlt hBge
      clear hrow hbw hLr hbr
      go_wp2_with fail
      rw [hB]
      clear hB HB2 H1 HVA HVB
      have hn := HR.out.lt
      have hit0 : (wr.iter a 0).heap[wr.heap.size]? = some (.stringIter a 0) := World.iter_heap _ _ _
      have hrow0 : IsRow (wr.iter a 0) B (D (chr a) (chr b) 0) (b.size + 1) := (HR.out.below (iter_below wr a 0)).mono (by omega) (fun j hj => by unfold D; rfl)
      have hbq0 : Below w.heap.size w (wr.iter a 0) := below_trans HBW.out (iter_below wr a 0)
      obtain ⟨IA, hIA⟩ : ∃ IA, wr.heap.size = IA := ⟨_, rfl⟩
      rw [hIA] at hn hit0 ⊢
      have hIAge : w.heap.size ≤ IA := by rw [← hIA]; exact HBW.out.size
      obtain ⟨W0, hW0⟩ : ∃ W0, wr.iter a 0 = W0 := ⟨_, rfl⟩
      rw [hW0] at hit0 hrow0 hbq0 ⊢
      have HIT0 := Lib.hid hit0
      have HROW0 := Lib.hid hrow0
      have HBQ0 := Lib.hid hbq0
      have HLW := HL
      clear hW0 hIA hit0 hrow0 hbq0 HR HBW HLR
      go_loopw [] (fun wq => ∃ pos : Nat, pos ≤ a.size ∧ Hid (wq.heap[IA]? = some (.stringIter a pos)) ∧ IsRow wq B (D (chr a) (chr b) pos) (b.size + 1) ∧ Below w.heap.size w wq) (fun wq => a.size - wq.iterPos IA)
      case atStart => exact ⟨0, by omega, HIT0, HROW0.out, HBQ0.out⟩
      case round =>
        obtain ⟨pos, hpos, hit, hrow, hbq⟩ := hrel
        have hne : B ≠ IA := by omega
        by_cases hlt2 : pos < a.size
        · have ha := HSA.out pos hlt2
          have hnx : ∀ ty, (Instr.next (.pointer (some ⟨IA, 0, none⟩)) true ty).run Tryd.prog wr = _ := fun ty => Lib.run_next_ascii_at wr IA a pos ty hit.out hlt2 ha
          rw [chr_get a pos hlt2] at hnx
          have hit1 := Lib.iterAt_heap wr IA a pos (pos + 1) hit.out
          have HIT1 := Lib.hid hit1
          clear hit1
          go_wp2_with fail
          obtain ⟨W1, hW1⟩ : ∃ W1, wr.iterAt IA a (pos + 1) = W1 := ⟨_, rfl⟩
          have hB1 : Below w.heap.size w W1 := by rw [← hW1]; exact Lib.below_iterAt hbq hIAge a _
          have hR1 : IsRow W1 B (D (chr a) (chr b) pos) (b.size + 1) := hrow.heap (by rw [← hW1]; exact Lib.iterAt_other wr IA B a _ hne)
          rw [hW1] at HIT1 ⊢
          clear hnx hbq hrow hW1
          obtain ⟨Bn, hBn⟩ : ∃ Bn, W1.heap.size = Bn := ⟨_, rfl⟩
          obtain ⟨W2, hW2⟩ : ∃ W2, W1.alloc (.cells #[.int .i64 (2 * ((pos : Int) + 1)), .int .i64 0, .int .i64 0, .int .i64 0, .int .i64 0, .int .i64 0, .int .i64 0, .int .i64 0, .int .i64 0, .int .i64 0, .int .i64 0] 38) = W2 := ⟨_, rfl⟩
          have hB12 : Below W1.heap.size W1 W2 := by rw [← hW2]; exact below_alloc (Below.refl _ _) _
          have hRn : IsRow W2 Bn (D (chr a) (chr b) (pos + 1)) 1 := by rw [← hW2, ← hBn]; exact IsRow.first W1 _ _ (by simp [D])
          have hIBs : W2.heap.size = Bn + 1 := by rw [← hW2, ← hBn]; simp
          have hBnB : B < Bn := by rw [← hBn]; exact hR1.lt
          have hIAB : IA < Bn := by rw [← hBn]; exact blk_lt HIT1.out
          have hBnge : w.heap.size ≤ Bn := by rw [← hBn]; exact hB1.size
          have hB2 := below_trans hB1 hB12
          have hRB2 := hR1.below hB12
          have hIA2 := blk_below HIT1.out hB12
          rw [hW2, hBn]
          have hW3b := iter_below W2 b 0
          have hIB3 : (W2.iter b 0).heap[Bn + 1]? = some (.stringIter b 0) := by rw [← hIBs]; exact World.iter_heap _ _ _
          have hB3 := below_trans hB2 hW3b
          have hRB3 := hRB2.below hW3b
          have hRn3 := hRn.below hW3b
          have hIA3 := blk_below hIA2 hW3b
          obtain ⟨W3, hW3⟩ : ∃ W3, W2.iter b 0 = W3 := ⟨_, rfl⟩
          rw [hW3] at hIB3 hB3 hRB3 hRn3 hIA3 ⊢
          have G1 := Lib.hid hIB3
          have G2 := Lib.hid hB3
          have G3 := Lib.hid hRB3
          have G4 := Lib.hid hRn3
          have G5 := Lib.hid hIA3
          clear hW3 hIB3 hB3 hRB3 hRn3 hIA3 hW3b hRB2 hIA2 hB2 hW2 hBn hB12 hRn hIBs HIT1 hB1 hR1
          go_loopw [] (fun wz => ∃ q : Nat, q ≤ b.size ∧ Hid (wz.heap[Bn + 1]? = some (.stringIter b q)) ∧ Hid (wz.heap[IA]? = some (.stringIter a (pos + 1))) ∧ IsRow wz B (D (chr a) (chr b) pos) (b.size + 1) ∧ IsRow wz Bn (D (chr a) (chr b) (pos + 1)) (q + 1) ∧ Below w.heap.size w wz) (fun wz => b.size - wz.iterPos (Bn + 1))
          case atStart => exact ⟨0, by omega, G1, G5, G3.out, G4.out, G2.out⟩
          case round =>
            obtain ⟨q, hq, hitB, hitA, hrB, hrN, hbz⟩ := hrel
            by_cases hlt3 : q < b.size
            · have hbq := HSB.out q hlt3
              have hnx : ∀ ty, (Instr.next (.pointer (some ⟨Bn + 1, 0, none⟩)) true ty).run Tryd.prog wr = _ := fun ty => Lib.run_next_ascii_at wr (Bn + 1) b q ty hitB.out hlt3 hbq
              rw [chr_get b q hlt3] at hnx
              have hit2 := Lib.iterAt_heap wr (Bn + 1) b q (q + 1) hitB.out
              have hrB2 : IsRow (wr.iterAt (Bn + 1) b (q + 1)) B (D (chr a) (chr b) pos) (b.size + 1) := hrB.heap (Lib.iterAt_other wr (Bn + 1) B b _ (by omega))
              have hrN2 : IsRow (wr.iterAt (Bn + 1) b (q + 1)) Bn (D (chr a) (chr b) (pos + 1)) (q + 1) := hrN.heap (Lib.iterAt_other wr (Bn + 1) Bn b _ (by omega))
              have hia2 : (wr.iterAt (Bn + 1) b (q + 1)).heap[IA]? = some (.stringIter a (pos + 1)) := (Lib.iterAt_other wr (Bn + 1) IA b _ (by omega)).trans hitA.out
              have hbz2 : Below w.heap.size w (wr.iterAt (Bn + 1) b (q + 1)) := Lib.below_iterAt hbz (by omega) b _
              have K1 := Lib.hid hit2
              have K2 := Lib.hid hrB2
              have K3 := Lib.hid hrN2
              have K4 := Lib.hid hia2
              have K5 := Lib.hid hbz2
              clear hit2 hrB2 hrN2 hia2 hbz2 hitA hrB hrN hbz
              go_wp2_with fail
              obtain ⟨W4, hW4⟩ : ∃ W4, wr.iterAt (Bn + 1) b (q + 1) = W4 := ⟨_, rfl⟩
              rw [hW4] at K1 K2 K3 K4 K5 ⊢
              clear hnx hW4
              have hLz : Laid W4 := HLW.out.below K5.out
              have c1 := K2.out.get q (by omega)
              have c2 := K2.out.get (q + 1) (by omega)
              have c3 := K3.out.get q (by omega)
              obtain ⟨z, c4⟩ := K3.out.any (q + 1) (by omega)
              have f4 := K3.out.open_ (q + 1)
              have d1 := D_bounds (chr a) (chr b) pos q
              have d2 := D_bounds (chr a) (chr b) pos (q + 1)
              have d3 := D_bounds (chr a) (chr b) (pos + 1) q
              have d4 := ex_bounds (chr a pos) (chr b q)
              have hD : D (chr a) (chr b) (pos + 1) (q + 1) = min3 (D (chr a) (chr b) pos q + exchangeI (chr a pos) (chr b q)) (D (chr a) (chr b) pos (q + 1) + 2) (D (chr a) (chr b) (pos + 1) q + 2) := by rw [D]
              have hex := fun w h => exchange_calls (chr a pos) (chr b q) w h
              obtain ⟨v0, hv0⟩ : ∃ v, exchangeI (chr a pos) (chr b q) = v := ⟨_, rfl⟩
              obtain ⟨v1, hv1⟩ : ∃ v, D (chr a) (chr b) pos q = v := ⟨_, rfl⟩
              obtain ⟨v2, hv2⟩ : ∃ v, D (chr a) (chr b) pos (q + 1) = v := ⟨_, rfl⟩
              obtain ⟨v3, hv3⟩ : ∃ v, D (chr a) (chr b) (pos + 1) q = v := ⟨_, rfl⟩
              rw [hv1] at c1 d1 hD
              rw [hv2] at c2 d2 hD
              rw [hv3] at c3 d3 hD
              rw [hv0] at d4 hD
              simp only [hv0] at hex
              have HD := Lib.hid hD
              have HEX := Lib.hid hex
              have HLZ := Lib.hid hLz
              clear hD hex hv0 hv1 hv2 hv3 hLz
              obtain ⟨l1, l2⟩ := d1
              obtain ⟨l3, l4⟩ := d2
              obtain ⟨l5, l6⟩ := d3
              obtain ⟨l7, l8⟩ := d4
              have q0 : (0 : Int) ≤ (q : Int) := Int.natCast_nonneg _
              have q1 : (q : Int) < 10 := by omega
              have q2 : ((q : Int) + 1).toNat = q + 1 := by omega
              have q3 : (0 : Int) ≤ (q : Int) + 1 := by omega
              have q4 : (q : Int) + 1 < 11 := by omega
              have q5 : (q : Int) < 11 := by omega
              have hw1 : IntKind.i64.wrap ((q : Int) + 1) = (q : Int) + 1 := IntWalk.i64_in _ (by omega)
              have hw2 : IntKind.i64.wrap (v1 + v0) = v1 + v0 := IntWalk.i64_in _ (by omega)
              have hw3 : IntKind.i64.wrap (v2 + 2) = v2 + 2 := IntWalk.i64_in _ (by omega)
              have hw4 : IntKind.i64.wrap (v3 + 2) = v3 + 2 := IntWalk.i64_in _ (by omega)
              obtain ⟨m, hm⟩ : ∃ m, min3 (v1 + v0) (v2 + 2) (v3 + 2) = m := ⟨_, rfl⟩
              have hmin : ∀ ats ty, Builtin.min_ ats ty #[.int .i64 (v1 + v0), .int .i64 (v2 + 2), .int .i64 (v3 + 2)] = pure (.int .i64 m) := fun ats ty => by rw [min_run, hm]
              have HM := Lib.hid hm
              clear hm
              have n1 : (⟨Bn, q + 1, none⟩ : Addr) ≠ ⟨B, q, none⟩ := by intro e; injection e with e1; omega
              have n2 : (⟨Bn, q + 1, none⟩ : Addr) ≠ ⟨B, q + 1, none⟩ := by intro e; injection e with e1; omega
              have n3 : (⟨Bn, q + 1, none⟩ : Addr) ≠ ⟨Bn, q, none⟩ := by intro e; injection e with e1 e2; omega
              go_region_held3 (fun w' => w'.cell? ⟨B, q, none⟩ = some (.int .i64 v1) ∧ w'.cell? ⟨B, q + 1, none⟩ = some (.int .i64 v2) ∧ w'.cell? ⟨Bn, q, none⟩ = some (.int .i64 v3))
                (first
                  | (refine ⟨?_, ?_, ?_⟩ <;> first | assumption | (simp only [World.cell?_drew, World.frozen?_drew]; assumption))
                  | (refine ⟨below_cell hbx c1, below_cell hbx c2, below_cell hbx c3⟩)
                  | (refine ⟨(World.cell?_setCell_other _ _ _ _ n1).trans (below_cell hbx c1), (World.cell?_setCell_other _ _ _ _ n2).trans (below_cell hbx c2), (World.cell?_setCell_other _ _ _ _ n3).trans (below_cell hbx c3)⟩))
                (first | (go_at_call 19; refine (HEX.out _ ?_).mono ?_; (exact HLZ.out.below (Below.refl _ _).drew); rintro e w' ⟨rfl, hbx⟩; have c4' := below_cell hbx c4; have f4' := below_frozen hbx c4 f4))
              have hbx4 : Below W4.heap.size W4 w' := below_trans (Below.refl _ _).drew hbx
              have r1 := K2.out.below hbx4
              have r2 := K3.out.below hbx4
              have r3 := blk_below K4.out hbx4
              have r4 := blk_below K1.out hbx4
              have r5 := below_trans K5.out hbx4
              have hrel : ∃ q' : Nat, q' ≤ b.size ∧ Hid ((w'.setCell ⟨Bn, q + 1, none⟩ (.int .i64 m)).heap[Bn + 1]? = some (.stringIter b q')) ∧ Hid ((w'.setCell ⟨Bn, q + 1, none⟩ (.int .i64 m)).heap[IA]? = some (.stringIter a (pos + 1))) ∧ IsRow (w'.setCell ⟨Bn, q + 1, none⟩ (.int .i64 m)) B (D (chr a) (chr b) pos) (b.size + 1) ∧ IsRow (w'.setCell ⟨Bn, q + 1, none⟩ (.int .i64 m)) Bn (D (chr a) (chr b) (pos + 1)) (q' + 1) ∧ Below w.heap.size w (w'.setCell ⟨Bn, q + 1, none⟩ (.int .i64 m)) :=
                ⟨q + 1, by omega, (Below.heap_setCell _ _ _ _ (by show Bn + 1 ≠ Bn; omega)).trans r4, (Below.heap_setCell _ _ _ _ (by show IA ≠ Bn; omega)).trans r3, r1.heap (Below.heap_setCell _ _ _ _ (by show B ≠ Bn; omega)), r2.put (by omega) _ (by rw [HD.out, HM.out]), r5.setCell hBnge _⟩
              have HREL := Lib.hid hrel
              have hm1 : (w'.setCell ⟨Bn, q + 1, none⟩ (.int .i64 m)).iterPos (Bn + 1) = q + 1 := by
                unfold World.iterPos; rw [Below.heap_setCell _ _ _ _ (by show Bn + 1 ≠ Bn; omega), r4]
              have HM1 := Lib.hid hm1
              clear hrel hm1 c4' f4' hmin hw1 hw2 hw3 hw4 c1 c2 c3 c4 f4 r1 r2 r3 r4 r5
              go_roundw
              case rel =>
                (repeat apply Exists.intro)
                exact ⟨HREL.out, rfl⟩
              case measure => rw [HM1.out, iterPos_of hitB.out]; omega
            · obtain rfl : q = b.size := by omega
              have hnx : ∀ ty, (Instr.next (.pointer (some ⟨Bn + 1, 0, none⟩)) true ty).run Tryd.prog wr = _ := fun ty => Lib.run_next_end_at wr (Bn + 1) b b.size ty hitB.out hlt3
              obtain ⟨cN, hN1, hN2, hN3, hN4⟩ := hrN
              obtain ⟨cB, hX1, hX2, hX3, hX4⟩ := hrB
              have hone := ints_one hN2 hN4
              have hrow' : IsRow (wr.setRow B cN) B (D (chr a) (chr b) (pos + 1)) (b.size + 1) := ⟨cN, setRow_heap _ _ _ _ _ _ hX1, hN2, hN3, hN4⟩
              have hA' : (wr.setRow B cN).heap[IA]? = some (.stringIter a (pos + 1)) := (setRow_other _ _ _ _ (Ne.symm hne)).trans hitA.out
              have hW' : Below w.heap.size w (wr.setRow B cN) := below_setRow hbz hBge cN
              have S1 := Lib.hid hrow'
              have S2 := Lib.hid hA'
              have S3 := Lib.hid hW'
              have S4 := Lib.hid hN1
              have S5 := Lib.hid hX1
              have S6 := Lib.hid hN2
              have S7 := Lib.hid hX2
              have S8 := Lib.hid hone
              clear hrow' hA' hW' hN1 hN2 hN3 hN4 hX1 hX2 hX3 hX4 hone
              go_wp2_with (first | (refine wpList_load_row rfl 38 _ rfl Bn rfl 38 cN (0, 0) _ S4.out Tryd.underlying38 rfl (by rw [size38, S6.out]) ?_) | (refine wpList_store_row rfl 38 _ _ rfl B cN rfl rfl 38 cB S5.out (by rw [size38, S6.out]) (by rw [S6.out, S7.out]) S8.out ?_))
              go_roundw
              case rel =>
                (repeat apply Exists.intro)
                exact ⟨⟨pos + 1, by omega, S2, S1.out, S3.out⟩, rfl⟩
              case measure => rw [iterPos_of S2.out, iterPos_of hit.out]; omega
        · obtain rfl : pos = a.size := by omega
          have hnx : ∀ ty, (Instr.next (.pointer (some ⟨IA, 0, none⟩)) true ty).run Tryd.prog wr = _ := fun ty => Lib.run_next_end_at wr IA a a.size ty hit.out hlt2
          have c1 := hrow.get b.size (by omega)
          have b1 : (0 : Int) ≤ (b.size : Int) := Int.natCast_nonneg _
          have b2 : (b.size : Int) < 11 := by omega
          go_wp2_with fail
          go_ret2
          exact ⟨rfl, hbq⟩

/-- plate.Distance of what is no plate. -/
theorem distance_bad (a b : ByteArray) (w : World) (h : validP a = false ∨ validP b = false) :
    Calls Tryd.prog 10 #[.string a, .string b] w fun e w' => e = .returned (.tuple #[.int .i64 0, .int .i64 1]) ∧ Below w.heap.size w w' := by
  have hva := fun w => valid_calls a w
  have hvb := fun w => valid_calls b w
  cases va : validP a
  · rw [va] at hva
    have HVA := Lib.hid hva
    clear va hva hvb h
    go_enter Tryd.func10, Tryd.ntmps10
    go_wp2_with fail
    refine (HVA.out _).mono ?_
    rintro e w1 ⟨rfl, hb1⟩
    go_wp2_with fail
    go_ret2
    exact ⟨rfl, hb1⟩
  · have vb : validP b = false := by rcases h with h | h; rw [va] at h; cases h; exact h
    rw [va] at hva
    rw [vb] at hvb
    have HVA := Lib.hid hva
    have HVB := Lib.hid hvb
    clear va vb hva hvb h
    go_enter Tryd.func10, Tryd.ntmps10
    go_wp2_with fail
    refine (HVA.out _).mono ?_
    rintro e w1 ⟨rfl, hb1⟩
    go_wp2_with fail
    refine (HVB.out _).mono ?_
    rintro e w2 ⟨rfl, hb2⟩
    go_wp2_with fail
    go_ret2
    exact ⟨rfl, below_trans hb1 hb2⟩

/-- plate.Distance, as a function of texts. -/
def distF (a b : ByteArray) : Option (Int × Int) := if validP a && validP b then some (D (chr a) (chr b) a.size b.size, 0) else some (0, 1)

theorem dist_calls (a b : ByteArray) (r1 r2 : Int) (w : World) (hL : Laid w) (h : distF a b = some (r1, r2)) :
    Calls Tryd.prog 10 #[.string a, .string b] w (fun e w' => e = .returned (.tuple #[.int .i64 r1, .int .i64 r2]) ∧ Below w.heap.size w w') := by
  unfold distF at h
  cases hv : (validP a && validP b)
  · rw [hv] at h
    obtain ⟨rfl, rfl⟩ : 0 = r1 ∧ 1 = r2 := by simpa using h
    exact distance_bad a b w (by rwa [Bool.and_eq_false_iff] at hv)
  · rw [hv] at h
    obtain ⟨rfl, rfl⟩ : D (chr a) (chr b) a.size b.size = r1 ∧ 0 = r2 := by simpa using h
    rw [Bool.and_eq_true] at hv
    exact distance_good a b w hv.1 hv.2 hL
end Go.Proofs.YtcpiapenagbapaaDoor.PlateDist
