/-
  A store of a value whose form is not laid open.
-/
import Derived.Test.YtcpiapenagbapaaDoorWMore
namespace Go.Proofs.YtcpiapenagbapaaDoor.KitW
open Go.RowKit

theorem setCells_one (w : World) (g o : Nat) (v : Value) : w.setCells g o [v] = w.setCell ⟨g, o, none⟩ v := rfl

theorem hr_val {P : Program} {w : World} {t : TypeId} {g o : Nat} {u v : Value} (hv : v.cells.toList = [v] ∧ v.oneCell' = true) (hc : w.cell? ⟨g, o, none⟩ = some u) (hf : w.frozen? ⟨g, o, none⟩ = false) (hi : (P.info? t).map (·.size) = some 1) :
    (Instr.storeAt t (.pointer (some ⟨g, o, none⟩)) v).run P w = .ok () (w.setCell ⟨g, o, none⟩ v) := by
  obtain ⟨i, hi, hsz⟩ := Option.map_eq_some_iff.1 hi
  have hc2 : v.cells.size = i.size := by rw [hsz, ← Array.length_toList, hv.1]; rfl
  have hst := run_storeCells_cells (P := P) g o [v] 0 w (fun j hj => by
    obtain rfl : j = 0 := by simpa using hj
    simp [hc]) (fun j hj => by
    obtain rfl : j = 0 := by simpa using hj
    simpa using hf) (by intro q hq; obtain rfl : q = v := by simpa using hq
                        exact hv.2)
  simp only [Nat.add_zero] at hst
  simp [Instr.storeAt, Instr.sureAddr, storeVar, sizeOf, typeInfo, hi, hc2, hv.1, hst, setCells_one]

theorem hr_exec {P : Program} {ρ : Operand → Value} {oper : Oper} {w : World} {t : TypeId} {a x : Operand} {g o : Nat} {u v : Value} (hop : oper.op = .store t a x) (ha : ρ a = .pointer (some ⟨g, o, none⟩)) (hx : ρ x = v)
    (hv : v.cells.toList = [v] ∧ v.oneCell' = true) (hc : w.cell? ⟨g, o, none⟩ = some u) (hf : w.frozen? ⟨g, o, none⟩ = false) (hi : (P.info? t).map (·.size) = some 1) :
    (execOp ρ oper).run P w = .ok .skip (w.setCell ⟨g, o, none⟩ v) := by
  have h := hr_val (P := P) (t := t) hv hc hf hi
  unfold execOp
  rw [hop]
  simp [ha, hx, h]
end Go.Proofs.YtcpiapenagbapaaDoor.KitW
