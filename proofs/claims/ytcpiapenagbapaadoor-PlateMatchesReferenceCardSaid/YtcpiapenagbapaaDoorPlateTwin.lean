/-
  The walks of the reference's Twin, and of the law's exchanged (for plates).
-/
import Derived.Test.YtcpiapenagbapaaDoorPlateDist
import Derived.Lib.ConvBytes
import Derived.Laws.BytesString
import Derived.Laws.ShiftsVarLaws
import Derived.Laws.BitsLemmas
import Derived.Laws.Slices
namespace Go.Proofs.YtcpiapenagbapaaDoor.PlateTwin
open Go.RowKit Go.Proofs.YtcpiapenagbapaaDoor.Kit Go.Proofs.YtcpiapenagbapaaDoor.PlateDist
set_option linter.unusedVariables false
set_option linter.unusedSimpArgs false

/-- The sign with which a sign is confusable, or 0. -/
def twinI (c : Int) : Int := if c = 79 then 48 else if c = 73 then 49 else if c = 66 then 56 else if c = 83 then 53 else if c = 90 then 50 else if c = 48 then 79 else if c = 49 then 73 else if c = 56 then 66 else if c = 53 then 83 else if c = 50 then 90 else 0

def lefts : List Int := [79, 73, 66, 83, 90, 48, 49, 56, 53, 50]
def rights : List Int := [48, 49, 56, 53, 50, 79, 73, 66, 83, 90]

theorem twin_hit (c : Int) (k : Nat) (hk : k < 10) (h : lefts.getD k 0 = c) : twinI c = rights.getD k 0 := by
  subst h
  match k, hk with
  | 0, _ => rfl
  | 1, _ => rfl
  | 2, _ => rfl
  | 3, _ => rfl
  | 4, _ => rfl
  | 5, _ => rfl
  | 6, _ => rfl
  | 7, _ => rfl
  | 8, _ => rfl
  | 9, _ => rfl
theorem twin_none (c : Int) (h : ∀ k, k < 10 → lefts.getD k 0 ≠ c) : twinI c = 0 := by
  have h0 := h 0 (by omega)
  have h1 := h 1 (by omega)
  have h2 := h 2 (by omega)
  have h3 := h 3 (by omega)
  have h4 := h 4 (by omega)
  have h5 := h 5 (by omega)
  have h6 := h 6 (by omega)
  have h7 := h 7 (by omega)
  have h8 := h 8 (by omega)
  have h9 := h 9 (by omega)
  simp [lefts] at h0 h1 h2 h3 h4 h5 h6 h7 h8 h9
  unfold twinI
  rw [if_neg (Ne.symm h0), if_neg (Ne.symm h1), if_neg (Ne.symm h2), if_neg (Ne.symm h3), if_neg (Ne.symm h4), if_neg (Ne.symm h5), if_neg (Ne.symm h6), if_neg (Ne.symm h7), if_neg (Ne.symm h8), if_neg (Ne.symm h9)]

theorem left_at (k : Nat) (h : k < 10) : ((({ data := #[79, 73, 66, 83, 90, 48, 49, 56, 53, 50] } : ByteArray)[k]'h).toNat : Int) = lefts.getD k 0 := by
  match k, h with
  | 0, _ => rfl
  | 1, _ => rfl
  | 2, _ => rfl
  | 3, _ => rfl
  | 4, _ => rfl
  | 5, _ => rfl
  | 6, _ => rfl
  | 7, _ => rfl
  | 8, _ => rfl
  | 9, _ => rfl
theorem right_at (k : Nat) (h : k < 10) : ((({ data := #[48, 49, 56, 53, 50, 79, 73, 66, 83, 90] } : ByteArray)[k]'h).toNat : Int) = rights.getD k 0 := by
  match k, h with
  | 0, _ => rfl
  | 1, _ => rfl
  | 2, _ => rfl
  | 3, _ => rfl
  | 4, _ => rfl
  | 5, _ => rfl
  | 6, _ => rfl
  | 7, _ => rfl
  | 8, _ => rfl
  | 9, _ => rfl

set_option maxRecDepth 100000 in
theorem twin_calls (c : Int) (w : World) :
    Calls Tryd.prog 21 #[.int .u8 c] w fun e w' => e = .returned (.int .u8 (twinI c)) ∧ ∃ m, w' = w.drewN m := by
  go_enter Tryd.func21, Tryd.ntmps21
  go_wp2
  go_loopw [5] (fun i wr => ∃ k : Nat, k ≤ 10 ∧ i = .int .i64 k ∧ Hid (∀ j, j < k → lefts.getD j 0 ≠ c) ∧ ∃ m, wr = w.drewN m) (fun i _ => 10 - (intOf i).toNat)
  case atStart => exact ⟨0, by omega, rfl, fun j hj => by omega, 0, rfl⟩
  case round =>
    obtain ⟨k, hk, rfl, hno, m, rfl⟩ := hrel
    by_cases hlt : k < 10
    · go_wp2
      · have hx : (((({ data := #[79, 73, 66, 83, 90, 48, 49, 56, 53, 50] } : ByteArray)[k]'hlt).toNat : Int) == c) = true := by assumption
        rw [left_at k hlt, beq_iff_eq] at hx
        go_ret
        exact ⟨by rw [twin_hit c k hlt hx, ← right_at k hlt]; rfl, m, rfl⟩
      · have hx : (((({ data := #[79, 73, 66, 83, 90, 48, 49, 56, 53, 50] } : ByteArray)[k]'hlt).toNat : Int) == c) = false := by assumption
        rw [left_at k hlt, beq_eq_false_iff_ne] at hx
        go_roundw
        case rel =>
          exact ⟨k + 1, by omega, by go_num, fun j hj => by
            by_cases e : j = k
            · subst e; exact hx
            · exact hno.out j (by omega), m, rfl⟩
        case measure => simp [intOf]; omega
    · obtain rfl : k = 10 := by omega
      have ht : twinI c = 0 := twin_none c hno.out
      have HT := Lib.hid ht
      clear ht hno
      go_wp2
      go_ret
      exact ⟨by rw [HT.out]; rfl, m, rfl⟩

/-- Is the sign at a place to be replaced. -/
def hit (a : Nat → Int) (set : Int) (i : Nat) : Bool := decide (bits BinOp.and IntKind.i64 (set / 2 ^ i) 1 = 1) && twinI (a i) != 0
def nsign (a : Nat → Int) (set : Int) (i : Nat) : Int := if hit a set i then twinI (a i) else a i
def hits (a : Nat → Int) (set : Int) (n : Nat) : Nat := (List.range n).countP (hit a set)
def textOf (ns : List Int) : ByteArray := ns.foldl (fun r n => r.push (UInt8.ofNat n.toNat)) ByteArray.empty
def exchF (a : ByteArray) (set : Int) : Option (ByteArray × Int) := if 0 ≤ set ∧ set < 9223372036854775808 ∧ a.size ≤ 10 then some (textOf ((List.range a.size).map (nsign (chr a) set)), (hits (chr a) set a.size : Int)) else none

theorem hits_succ (a : Nat → Int) (set : Int) (k : Nat) : hits a set (k + 1) = hits a set k + if hit a set k then 1 else 0 := by
  unfold hits
  rw [List.range_succ, List.countP_append, List.countP_cons, List.countP_nil]
  simp

/-- Block G holds a row of bytes. -/
def ByteRow (W : World) (G n : Nat) (f : Nat → Int) : Prop :=
  ∃ cs lo hi, W.heap[G]? = some (.cells cs 5 (lo, hi)) ∧ n ≤ lo ∧ n ≤ cs.size ∧ ∀ j, j < n → cs[j]? = some (.int .u8 (f j))
theorem ByteRow.get {W : World} {G n : Nat} {f : Nat → Int} (h : ByteRow W G n f) (j : Nat) (hj : j < n) : W.cell? ⟨G, j, none⟩ = some (.int .u8 (f j)) := by
  obtain ⟨cs, lo, hi, hb, hl, hs, hf⟩ := h
  rw [cell_of_row W G j cs _ _ hb]; exact hf j hj
theorem ByteRow.open_ {W : World} {G n : Nat} {f : Nat → Int} (h : ByteRow W G n f) (j : Nat) (hj : j < n) : W.frozen? ⟨G, j, none⟩ = false := by
  obtain ⟨cs, lo, hi, hb, hl, hs, hf⟩ := h
  simp [World.frozen?, hb]; omega
theorem ByteRow.put {W : World} {G n : Nat} {f g : Nat → Int} (h : ByteRow W G n f) (i : Nat) (hi : i < n) (e : ∀ j, j < n → j ≠ i → g j = f j) : ByteRow (W.setCell ⟨G, i, none⟩ (.int .u8 (g i))) G n g := by
  obtain ⟨cs, lo, hi2, hb, hl, hs, hf⟩ := h
  have hw : (W.setCell ⟨G, i, none⟩ (.int .u8 (g i))).heap[G]? = some (.cells (cs.setIfInBounds i (.int .u8 (g i))) 5 (lo, hi2)) := by
    simp [World.setCell, Array.getElem?_modify, hb]
  refine ⟨_, lo, hi2, hw, hl, by simpa using hs, fun j hj => ?_⟩
  rw [Array.getElem?_setIfInBounds]
  by_cases c : i = j
  · subst c; simp; omega
  · rw [if_neg c, e j hj (Ne.symm c)]; exact hf j hj
theorem ByteRow.heap {W W' : World} {G n : Nat} {f : Nat → Int} (h : ByteRow W G n f) (e : W'.heap[G]? = W.heap[G]?) : ByteRow W' G n f := by
  obtain ⟨cs, lo, hi, hb, r⟩ := h
  exact ⟨cs, lo, hi, e.trans hb, r⟩
theorem ByteRow.congr {W : World} {G n : Nat} {f g : Nat → Int} (h : ByteRow W G n f) (e : ∀ j, j < n → g j = f j) : ByteRow W G n g := by
  obtain ⟨cs, lo, hi, hb, hl, hs, hf⟩ := h
  exact ⟨cs, lo, hi, hb, hl, hs, fun j hj => by rw [e j hj]; exact hf j hj⟩

set_option maxRecDepth 100000 in
theorem exch_calls (a : ByteArray) (set : Int) (w : World) (h0 : 0 ≤ set) (h1 : set < 9223372036854775808) (hs : a.size ≤ 10) :
    Calls Tryd.prog 17 #[.string a, .int .i64 set] w fun e w' => e = .returned (.tuple #[.string (textOf ((List.range a.size).map (nsign (chr a) set))), .int .i64 (hits (chr a) set a.size : Int)]) ∧ Below w.heap.size w w' := by
  have hconv := fun (w : World) => Lib.run_convert_string_bytes (P := Tryd.prog) w 9 44 5 a Tryd.underlying9 Tryd.underlying44 Tryd.underlying5
  go_enter Tryd.func17, Tryd.ntmps17
  go_wp2
  have hrow0 : ByteRow (Lib.bytesWorld w 5 a) w.heap.size a.size (chr a) := by
    refine ⟨_, _, _, Lib.bytesWorld_at_new w 5 a, by simp [Lib.bytesCells], by simp [Lib.bytesCells], fun j hj => ?_⟩
    simp [Lib.bytesCells, Array.getElem?_append, hj, chr, List.getD]
  have hbel0 : Below w.heap.size w (Lib.bytesWorld w 5 a) := ⟨rfl, rfl, rfl, by rw [Lib.bytesWorld_size]; omega, fun j hj => Lib.bytesWorld_at_old w _ a j hj⟩
  obtain ⟨W0, hW0⟩ : ∃ W0, Lib.bytesWorld w 5 a = W0 := ⟨_, rfl⟩
  obtain ⟨cap, hcap⟩ : ∃ cap, grownCap w a.size 0 5 = cap := ⟨_, rfl⟩
  obtain ⟨G, hG⟩ : ∃ G, w.heap.size = G := ⟨_, rfl⟩
  rw [hW0] at hrow0 hbel0 ⊢
  rw [hcap]
  rw [hG] at hrow0 ⊢
  have hGge : w.heap.size ≤ G := by omega
  have R0 := Lib.hid hrow0
  have R1 := Lib.hid hbel0
  clear hconv hW0 hcap hG hrow0 hbel0
  go_loopw [7, 8] (fun n i wr => ∃ k : Nat, k ≤ a.size ∧ i = .int .i64 k ∧ n = .int .i64 (hits (chr a) set k : Int) ∧ ByteRow wr G a.size (fun j => if j < k then nsign (chr a) set j else chr a j) ∧ Below w.heap.size w wr) (fun _ i _ => a.size - (intOf i).toNat)
  case atStart => exact ⟨0, by omega, rfl, rfl, R0.out.congr (fun j hj => by simp), R1.out⟩
  case round =>
    obtain ⟨k, hk, rfl, rfl, hrow, hbel⟩ := hrel
    by_cases hlt : k < a.size
    · have hc := hrow.get k hlt
      rw [if_neg (by omega)] at hc
      have hf := hrow.open_ k hlt
      have hcnt : hits (chr a) set k ≤ k := by unfold hits; have := List.countP_le_length (p := hit (chr a) set) (l := List.range k); simpa using this
      have HROW := Lib.hid hrow
      clear hrow
      go_wp2_with (go_at_call 21; refine (twin_calls (chr a k) _).mono ?_; rintro e w' ⟨rfl, m, rfl⟩)
      · have hx : twinI (chr a k) != 0 := by assumption
        have hb : bits BinOp.and IntKind.i64 (set / 2 ^ k) 1 = 1 := by assumption
        have hh : hit (chr a) set k = true := by unfold hit; rw [decide_eq_true hb, Bool.true_and]; exact hx
        have hn : nsign (chr a) set k = twinI (chr a k) := by unfold nsign; rw [if_pos hh]
        go_roundw
        case rel =>
          refine ⟨k + 1, by omega, by go_num, by rw [hits_succ, hh]; go_num, ?_, (below_drewN hbel m).setCell hGge _⟩
          have := (HROW.out.heap (W' := wr.drewN m) rfl).put (g := fun j => if j < k + 1 then nsign (chr a) set j else chr a j) k hlt (fun j hj hjk => by
            by_cases e : j < k
            · rw [if_pos e, if_pos (by omega)]
            · rw [if_neg e, if_neg (by omega)])
          rwa [if_pos (by omega), hn] at this
        case measure => simp [intOf]; omega
      · have hx : (twinI (chr a k) != 0) = false := by assumption
        have hh : hit (chr a) set k = false := by unfold hit; rw [hx, Bool.and_false]
        have hn : nsign (chr a) set k = chr a k := by unfold nsign; rw [if_neg (by rw [hh]; decide)]
        go_roundw
        case rel =>
          refine ⟨k + 1, by omega, by go_num, by rw [hits_succ, hh]; rfl, ?_, below_drewN hbel m⟩
          exact (HROW.out.heap (W' := wr.drewN m) rfl).congr (fun j hj => by
            by_cases e : j < k
            · rw [if_pos e, if_pos (by omega)]
            · rw [if_neg e]
              by_cases e2 : j = k
              · subst e2; rw [if_pos (by omega), hn]
              · rw [if_neg (by omega)])
        case measure => simp [intOf]; omega
      · have hb : ¬ bits BinOp.and IntKind.i64 (set / 2 ^ k) 1 = 1 := by assumption
        have hh : hit (chr a) set k = false := by unfold hit; rw [decide_eq_false hb, Bool.false_and]
        have hn : nsign (chr a) set k = chr a k := by unfold nsign; rw [if_neg (by rw [hh]; decide)]
        go_roundw
        case rel =>
          refine ⟨k + 1, by omega, by go_num, by rw [hits_succ, hh]; rfl, ?_, below_drewN hbel m⟩
          exact (HROW.out.heap (W' := wr.drewN m) rfl).congr (fun j hj => by
            by_cases e : j < k
            · rw [if_pos e, if_pos (by omega)]
            · rw [if_neg e]
              by_cases e2 : j = k
              · subst e2; rw [if_pos (by omega), hn]
              · rw [if_neg (by omega)])
        case measure => simp [intOf]; omega
    · obtain rfl : k = a.size := by omega
      have hrow2 : ByteRow wr G a.size (nsign (chr a) set) := hrow.congr (fun j hj => by rw [if_pos hj])
      have hld : (loadCells ⟨G, 0, none⟩ a.size).run Tryd.prog wr = .ok (((List.range a.size).map (nsign (chr a) set)).map (Value.int .u8)).toArray wr := by
        have := run_loadCells_list (P := Tryd.prog) wr ⟨G, 0, none⟩ (((List.range a.size).map (nsign (chr a) set)).map (Value.int .u8)) (fun j v hv => by
          obtain ⟨hj, e⟩ := List.getElem?_eq_some_iff.1 hv
          simp at hj
          rw [← e]
          simp only [List.getElem_map, List.getElem_range]
          have := hrow2.get j hj
          by_cases e : j = 0
          · subst e; simpa [Addr.add] using this
          · simpa [Addr.add, e] using this)
        simpa using this
      have hcv := fun (cap : Nat) => run_convert_bytes_string (P := Tryd.prog) wr 44 9 5 (some ⟨G, 0, none⟩) a.size cap Tryd.underlying44 Tryd.underlying5 Tryd.underlying9
      have hcv2 := fun (cap : Nat) => (hcv cap).trans (run_bytesToString (P := Tryd.prog) wr ⟨G, 0, none⟩ a.size cap _ hld)
      clear hcv hld hrow hrow2
      go_wp2
      go_ret2
      exact ⟨rfl, hbel⟩

theorem exch_ext (a : ByteArray) (set : Int) (r1 : ByteArray) (r2 : Int) (w : World) (h : exchF a set = some (r1, r2)) :
    Calls Tryd.prog 17 #[.string a, .int .i64 set] w (fun e w' => e = .returned (.tuple #[.string r1, .int .i64 r2]) ∧ Below w.heap.size w w') := by
  unfold exchF at h
  by_cases c : 0 ≤ set ∧ set < 9223372036854775808 ∧ a.size ≤ 10
  · rw [if_pos c] at h
    obtain ⟨rfl, rfl⟩ : textOf ((List.range a.size).map (nsign (chr a) set)) = r1 ∧ (hits (chr a) set a.size : Int) = r2 := by simpa using h
    exact exch_calls a set w c.1 c.2.1 c.2.2
  · rw [if_neg c] at h; cases h

theorem twin_ext (c r : Int) (w : World) (h : some (twinI c) = some r) :
    Calls Tryd.prog 21 #[.int .u8 c] w (fun e w' => e = .returned (.int .u8 r) ∧ Below w.heap.size w w') := by
  obtain rfl := Option.some.inj h
  exact (twin_calls c w).mono fun _ _ ⟨he, m, hm⟩ => ⟨he, by rw [hm]; exact below_drewN (Below.refl _ _) m⟩
end Go.Proofs.YtcpiapenagbapaaDoor.PlateTwin
