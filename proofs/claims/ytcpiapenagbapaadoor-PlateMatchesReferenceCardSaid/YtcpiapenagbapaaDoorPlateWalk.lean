/-
  The walk of package plate: Valid and exchange, for every text.
-/
import Derived.Test.YtcpiapenagbapaaDoorKit
import Derived.Laws.RangeString
import Derived.Laws.RangeAny
import Derived.WalkLawsBesides
import Derived.ChangeKeysEq
namespace Go.Proofs.YtcpiapenagbapaaDoor.PlateWalk
open Go.RowKit Go.Proofs.YtcpiapenagbapaaDoor.Kit
set_option linter.unusedVariables false
set_option linter.unusedSimpArgs false

/-- Is this a sign of a plate. -/
def okN (c : Nat) : Bool := (decide (65 ≤ c) && decide (c ≤ 90)) || (decide (48 ≤ c) && decide (c ≤ 57))
def validP (p : ByteArray) : Bool := p.data.toList.all (fun b => okN b.toNat) && (decide (1 ≤ p.size) && decide (p.size ≤ 10))

theorem okN_eq (c : Nat) : okN c = true ↔ (65 ≤ c ∧ c ≤ 90) ∨ (48 ≤ c ∧ c ≤ 57) := by simp [okN]

theorem bad_of_decode (p : ByteArray) (pos : Nat) (h : pos < p.size) (hc : ¬ ((65 ≤ (Utf8.decode p pos).1 ∧ (Utf8.decode p pos).1 ≤ 90) ∨ (48 ≤ (Utf8.decode p pos).1 ∧ (Utf8.decode p pos).1 ≤ 57))) : okN (p[pos]'h).toNat = false := by
  rw [Bool.eq_false_iff]
  intro ho
  rw [okN_eq] at ho
  by_cases ha : (p[pos]'h).toNat < 128
  · rw [decode_ascii p pos h ha] at hc
    exact hc ho
  · omega

theorem good_of_decode (p : ByteArray) (pos : Nat) (h : pos < p.size) (hc : (65 ≤ (Utf8.decode p pos).1 ∧ (Utf8.decode p pos).1 ≤ 90) ∨ (48 ≤ (Utf8.decode p pos).1 ∧ (Utf8.decode p pos).1 ≤ 57)) : okN (p[pos]'h).toNat = true ∧ (Utf8.decode p pos).2 = 1 := by
  by_cases ha : (p[pos]'h).toNat < 128
  · rw [decode_ascii p pos h ha] at hc ⊢
    exact ⟨(okN_eq _).2 hc, rfl⟩
  · have := (decode_high p pos h (by omega)).1
    omega

theorem validP_bad (p : ByteArray) (pos : Nat) (h : pos < p.size) (hb : okN (p[pos]'h).toNat = false) : validP p = false := by
  unfold validP
  rw [Bool.and_eq_false_iff]
  left
  rw [List.all_eq_false]
  exact ⟨p[pos]'h, by rw [ByteArray.getElem_eq_getElem_data]; exact Array.getElem_mem_toList _, by rw [hb]; decide⟩

theorem validP_all (p : ByteArray) (h : ∀ i (h : i < p.size), okN (p[i]'h).toNat = true) : p.data.toList.all (fun b => okN b.toNat) = true := by
  rw [List.all_eq_true]
  intro b hb
  obtain ⟨i, hi, rfl⟩ := List.getElem_of_mem hb
  exact h i (by simpa using hi)

theorem iter_below (w : World) (s : ByteArray) (pos : Nat) : Below w.heap.size w (w.iter s pos) := (Below.refl _ _).alloc (Nat.le_refl _) _

set_option maxRecDepth 100000 in
/-- plate.Valid, for every text. -/
theorem valid_calls (p : ByteArray) (w : World) :
    Calls Tryd.prog 12 #[.string p] w fun e w' => e = .returned (.bool (validP p)) ∧ Below w.heap.size w w' := by
  go_enter Tryd.func12, Tryd.ntmps12
  go_wp2
  go_loopw [] (fun w' => ∃ pos : Nat, w' = w.iter p pos ∧ pos ≤ p.size ∧ ∀ i (h : i < p.size), i < pos → okN (p[i]'h).toNat = true) (fun w' => p.size - w'.iterPos w.heap.size)
  case atStart => exact ⟨0, rfl, by omega, fun i h h2 => by omega⟩
  case round =>
    obtain ⟨pos, rfl, hpos, hall⟩ := hrel
    have HA := Lib.hid hall
    clear hall
    by_cases hlt : pos < p.size
    · have hnx : ∀ ty, (Instr.next (.pointer (some ⟨w.heap.size, 0, none⟩)) true ty).run Tryd.prog (w.iter p pos) = _ := fun ty => run_next_any w p pos ty hlt
      go_wp2
      all_goals clear hnx
      all_goals first
        | (go_ret; exact ⟨ret_val (congrArg Value.bool (validP_bad p pos hlt (bad_of_decode p pos hlt (by omega))).symm), iter_below _ _ _⟩)
        | (have hg := good_of_decode p pos hlt (by omega)
           go_roundw
           case rel => exact ⟨pos + 1, by rw [hg.2], by omega, fun i h h2 => by
             by_cases e : i = pos
             · subst e; exact hg.1
             · exact HA.out i h (by omega)⟩
           case measure => rw [hg.2]; simp; omega)
    · have hnx : ∀ ty, (Instr.next (.pointer (some ⟨w.heap.size, 0, none⟩)) true ty).run Tryd.prog (w.iter p pos) = _ := fun ty => run_next_end w p pos ty hlt
      have hv : validP p = (decide (1 ≤ p.size) && decide (p.size ≤ 10)) := by
        unfold validP
        rw [validP_all p (fun i h => HA.out i h (by omega)), Bool.true_and]
      have HV := Lib.hid hv
      clear hv
      by_cases h1 : 1 ≤ p.size
      · by_cases h2 : p.size ≤ 10
        · have h3 : validP p = true := by rw [HV.out, decide_eq_true h1, decide_eq_true h2]; rfl
          have H3 := Lib.hid h3
          clear h3
          go_wp2
          go_ret
          exact ⟨by rw [H3.out]; simp; omega, iter_below _ _ _⟩
        · have h3 : validP p = false := by rw [HV.out, decide_eq_false h2, Bool.and_false]
          have H3 := Lib.hid h3
          clear h3
          go_wp2
          go_ret
          exact ⟨by rw [H3.out]; simp; omega, iter_below _ _ _⟩
      · have h3 : validP p = false := by rw [HV.out, decide_eq_false h1, Bool.false_and]
        have H3 := Lib.hid h3
        clear h3
        go_wp2
        go_ret
        exact ⟨by rw [H3.out]; rfl, iter_below _ _ _⟩

/-- The pairs of confusable signs, as the program's table has them. -/
def pairs : List (Int × Int) := [(79, 48), (73, 49), (66, 56), (83, 53), (90, 50)]
def pairHit (a b : Int) (t : Int × Int) : Bool := ((t.1 == a) && (t.2 == b)) || ((t.1 == b) && (t.2 == a))
def twinsOf (a b : Int) : Bool := pairs.any (pairHit a b)
def exchangeI (a b : Int) : Int := if a = b then 0 else if twinsOf a b then 1 else 2

/-- The table's cells. -/
def twinCells : Array Value := #[.int .i32 79, .int .i32 48, .int .i32 73, .int .i32 49, .int .i32 66, .int .i32 56, .int .i32 83, .int .i32 53, .int .i32 90, .int .i32 50]
/-- The world holds the table. -/
def Laid (w : World) : Prop := ∃ t fr, w.heap[0]? = some (.cells twinCells t fr)
theorem Laid.below {w w' : World} (h : Laid w) (hb : Below w.heap.size w w') : Laid w' := by
  obtain ⟨t, fr, h⟩ := h
  refine ⟨t, fr, ?_⟩
  rw [hb.block _ (by rcases Nat.lt_or_ge 0 w.heap.size with h2 | h2; exact h2; rw [Array.getElem?_eq_none h2] at h; cases h)]
  exact h

theorem index_0 (w : World) : (Instr.index 47 (.agg twinCells) (.int .i64 0)).run Tryd.prog w = .ok (.agg #[.int .i32 79, .int .i32 48]) w := by kernel_rfl
theorem index_1 (w : World) : (Instr.index 47 (.agg twinCells) (.int .i64 1)).run Tryd.prog w = .ok (.agg #[.int .i32 73, .int .i32 49]) w := by kernel_rfl
theorem index_2 (w : World) : (Instr.index 47 (.agg twinCells) (.int .i64 2)).run Tryd.prog w = .ok (.agg #[.int .i32 66, .int .i32 56]) w := by kernel_rfl
theorem index_3 (w : World) : (Instr.index 47 (.agg twinCells) (.int .i64 3)).run Tryd.prog w = .ok (.agg #[.int .i32 83, .int .i32 53]) w := by kernel_rfl
theorem index_4 (w : World) : (Instr.index 47 (.agg twinCells) (.int .i64 4)).run Tryd.prog w = .ok (.agg #[.int .i32 90, .int .i32 50]) w := by kernel_rfl
theorem index_pair (k : Nat) (x y : Int) (h : pairs[k]? = some (x, y)) (w : World) :
    (Instr.index 47 (.agg twinCells) (.int .i64 k)).run Tryd.prog w = .ok (.agg #[.int .i32 x, .int .i32 y]) w := by
  match k, h with
  | 0, h => obtain ⟨rfl, rfl⟩ : 79 = x ∧ 48 = y := (by simpa [pairs] using h); exact index_0 w
  | 1, h => obtain ⟨rfl, rfl⟩ : 73 = x ∧ 49 = y := (by simpa [pairs] using h); exact index_1 w
  | 2, h => obtain ⟨rfl, rfl⟩ : 66 = x ∧ 56 = y := (by simpa [pairs] using h); exact index_2 w
  | 3, h => obtain ⟨rfl, rfl⟩ : 83 = x ∧ 53 = y := (by simpa [pairs] using h); exact index_3 w
  | 4, h => obtain ⟨rfl, rfl⟩ : 90 = x ∧ 50 = y := (by simpa [pairs] using h); exact index_4 w
  | n + 5, h => simp [pairs] at h

theorem eq2 (x y a b : Int) (w : World) : (binOp .eql 46 (.agg #[.int .i32 x, .int .i32 y]) (.agg #[.int .i32 a, .int .i32 b])).run Tryd.prog w = .ok (.bool ((x == a) && (y == b))) w := by
  have hn : ∃ i, Tryd.prog.info? 21 = some i := by
    cases h : Tryd.prog.info? 21 with
    | some i => exact ⟨i, rfl⟩
    | none => exact absurd h (by have : (Tryd.prog.info? 21).isSome = true := by kernel_rfl
                                 intro e; rw [e] at this; cases this)
  obtain ⟨i, hi⟩ := hn
  have hc : Tryd.prog.cellsOf 21 = 1 := by kernel_rfl
  rw [run_eql_struct, run_equalIn_array w 9999 _ _ Tryd.underlying46 hi, hc]
  simp only [show List.range 2 = [0, 1] from rfl, Op.eqItems]
  go_simp
  by_cases h1 : x = a <;> by_cases h2 : y = b <;> simp [h1, h2]

theorem take_any (f : Int × Int → Bool) (k : Nat) (t : Int × Int) (h : pairs[k]? = some t) : (pairs.take (k + 1)).any f = ((pairs.take k).any f || f t) := by
  obtain ⟨hk, ht⟩ := List.getElem?_eq_some_iff.1 h
  rw [List.take_succ_eq_append_getElem hk, List.any_append, ht]
  simp
theorem any_hit (f : Int × Int → Bool) (k : Nat) (t : Int × Int) (h : pairs[k]? = some t) (hf : f t = true) : pairs.any f = true := by
  obtain ⟨hk, ht⟩ := List.getElem?_eq_some_iff.1 h
  exact List.any_eq_true.2 ⟨t, ht ▸ List.getElem_mem hk, hf⟩

set_option maxRecDepth 100000 in
theorem exchange_calls (a b : Int) (w : World) (hL : Laid w) :
    Calls Tryd.prog 19 #[.int .i32 a, .int .i32 b] w fun e w' => e = .returned (.int .i64 (exchangeI a b)) ∧ Below w.heap.size w w' := by
  obtain ⟨tt, fr, hg⟩ := hL
  by_cases hab : a = b
  · subst hab
    have h : exchangeI a a = 0 := if_pos rfl
    have H := Lib.hid h
    clear h
    go_enter Tryd.func19, Tryd.ntmps19
    go_wp2
    go_ret
    exact ⟨by rw [H.out]; rfl, Below.refl _ _⟩
  · have h : exchangeI a b = if twinsOf a b then 1 else 2 := if_neg hab
    have H := Lib.hid h
    clear h
    have h1 : (a == b) = false := beq_eq_false_iff_ne.2 hab
    clear hab
    go_enter Tryd.func19, Tryd.ntmps19
    go_wp2_with (refine wpList_load_row rfl 47 _ rfl 0 rfl tt _ fr _ hg Tryd.underlying47 rfl (by kernel_rfl) ?_)
    go_loopw [11] (fun i wr => ∃ k : Nat, k ≤ 5 ∧ i = .int .i64 k ∧ Hid ((pairs.take k).any (pairHit a b) = false) ∧ Below w.heap.size w wr) (fun i _ => 5 - (intOf i).toNat)
    case atStart => exact ⟨0, by omega, rfl, rfl, Below.refl _ _⟩
    case round =>
      obtain ⟨k, hk, rfl, hno, hb⟩ := hrel
      by_cases hlt : k < 5
      · obtain ⟨x, y, hxy⟩ : ∃ x y, pairs[k]? = some (x, y) := ⟨(pairs[k]'(by simpa [pairs] using hlt)).1, (pairs[k]'(by simpa [pairs] using hlt)).2, by rw [List.getElem?_eq_getElem (by simpa [pairs] using hlt)]⟩
        have hix := index_pair k x y hxy
        have HXY := Lib.hid hxy
        clear hxy
        obtain ⟨v1, hv1⟩ : ∃ v, v = ((x == a) && (y == b)) := ⟨_, rfl⟩
        obtain ⟨v2, hv2⟩ : ∃ v, v = ((x == b) && (y == a)) := ⟨_, rfl⟩
        have he1 : ∀ w, (binOp .eql 46 (.agg #[.int .i32 x, .int .i32 y]) (.agg #[.int .i32 a, .int .i32 b])).run Tryd.prog w = .ok (.bool v1) w := fun w => by rw [hv1]; exact eq2 x y a b w
        have he2 : ∀ w, (binOp .eql 46 (.agg #[.int .i32 x, .int .i32 y]) (.agg #[.int .i32 b, .int .i32 a])).run Tryd.prog w = .ok (.bool v2) w := fun w => by rw [hv2]; exact eq2 x y b a w
        have hpk : pairHit a b (x, y) = (v1 || v2) := by rw [hv1, hv2]; rfl
        have HPK := Lib.hid hpk
        clear hpk hv1 hv2
        cases v1
        · cases v2
          · have ht : (pairs.take (k + 1)).any (pairHit a b) = false := by rw [take_any _ k (x, y) HXY.out, hno.out, HPK.out]; rfl
            have HT := Lib.hid ht
            clear ht hno
            go_wp2
            go_roundw
            case rel => exact ⟨k + 1, by omega, by go_num, HT, by repeat (first | exact hb | apply below_alloc)⟩
            case measure => simp [intOf]; omega
          · have ht : exchangeI a b = 1 := by rw [H.out, if_pos (show twinsOf a b = true from any_hit _ k (x, y) HXY.out HPK.out)]
            have HT := Lib.hid ht
            clear ht
            go_wp2
            go_ret
            exact ⟨by rw [HT.out]; rfl, by repeat (first | exact hb | apply below_alloc)⟩
        · have ht : exchangeI a b = 1 := by rw [H.out, if_pos (show twinsOf a b = true from any_hit _ k (x, y) HXY.out HPK.out)]
          have HT := Lib.hid ht
          clear ht
          go_wp2
          go_ret
          exact ⟨by rw [HT.out]; rfl, by repeat (first | exact hb | apply below_alloc)⟩
      · obtain rfl : k = 5 := by omega
        have ht : exchangeI a b = 2 := by rw [H.out, if_neg (by rw [show twinsOf a b = false from hno.out]; decide)]
        have HT := Lib.hid ht
        clear ht hno
        go_wp2
        go_ret
        exact ⟨by rw [HT.out]; rfl, hb⟩
end Go.Proofs.YtcpiapenagbapaaDoor.PlateWalk
