/-
  Small lemmas on worlds, cells and draws that the walks share.
-/
import Derived.Test.YtdblbilgnfomaaaProg
import Derived.WalkKit
import Derived.Below
import Derived.Lib.Hide
import Derived.Deep.LoopGhost
import Derived.Deep.Draws
import Derived.Deep.QuietTactic
import Derived.BigQuiet
import Derived.Shelf.Abstract
import Derived.Deep.RegionHeld
namespace Go.Proofs.Ytdblbilgnfomaaa.Kit
open Go.RowKit

theorem ret_int {k : IntKind} {a b : Int} (h : a = b) : Ending.returned (.int k a) = .returned (.int k b) := by rw [h]
theorem ret_val {a b : Value} (h : a = b) : Ending.returned a = .returned b := by rw [h]

theorem cell_new (W : World) (v : Value) (t : TypeId) : (W.alloc (.cells #[v] t)).cell? ⟨W.heap.size, 0, none⟩ = some v := by
  rw [World.cell?_alloc_at _ _ _ _ (by simp)]; rfl

/-- A new block's one cell, where the heap's size has another spelling. -/
theorem cell_new_at (W : World) (v : Value) (t : TypeId) (n : Nat) (h : n = W.heap.size) : (W.alloc (.cells #[v] t)).cell? ⟨n, 0, none⟩ = some v := by
  rw [h]; exact cell_new W v t

theorem cell_alloc {W : World} {a : Addr} {v : Value} (o : Obj) (h : W.cell? a = some v) : (W.alloc o).cell? a = some v :=
  (World.cell?_alloc_lt W _ _ (World.block_lt_of_cell? _ _ h)).trans h

theorem below_drewN {B : Nat} {a w : World} (h : Below B a w) (n : Nat) : Below B a (w.drewN n) := ⟨h.os, h.tape, h.output, h.size, h.block⟩

theorem below_cell {W W' : World} (h : Below W.heap.size W W') {a : Addr} {v : Value} (hc : W.cell? a = some v) : W'.cell? a = some v :=
  (h.cell (World.block_lt_of_cell? _ _ hc)).trans hc

theorem below_frozen {W W' : World} (h : Below W.heap.size W W') {a : Addr} {v : Value} (hc : W.cell? a = some v) (hf : W.frozen? a = false) : W'.frozen? a = false :=
  (h.frozen (World.block_lt_of_cell? _ _ hc)).trans hf

theorem below_trans {a b c : World} (h : Below a.heap.size a b) (k : Below b.heap.size b c) : Below a.heap.size a c := h.trans (k.mono h.size)

theorem below_alloc {a w : World} (h : Below a.heap.size a w) (o : Obj) : Below a.heap.size a (w.alloc o) := h.alloc h.size o

end Go.Proofs.Ytdblbilgnfomaaa.Kit
