/-
  What the row's list gives: the table of confusable signs lies in memory.
-/
import Derived.Test.YtcpiapenagbapaaDoorRows
import Derived.Test.YtcpiapenagbapaaDoorPlateWalk
import Derived.OpenShut
import Derived.Lib.LaidTab
namespace Go.Proofs.YtcpiapenagbapaaDoor.PlateLaid
open Go.Proofs.YtcpiapenagbapaaDoor.PlateWalk

theorem gTab : Tryd.prog.globalNamed "chargepark/plate.twins" = some 0 := by kernel_rfl
theorem gTabType : (Tryd.prog.globals[0]?).map (·.type) = some 47 := by kernel_rfl
theorem cells5 : Tryd.prog.cellsOf 47 = 10 := by kernel_rfl
theorem cells2 : Tryd.prog.cellsOf 46 = 2 := by kernel_rfl
theorem cells1 : Tryd.prog.cellsOf 21 = 1 := by kernel_rfl

theorem laid_of (W : World) (h : laidMet Tryd.prog [("chargepark/plate.twins", Rows.laid_chargepark_plate_twins)] W) : Laid W := by
  obtain ⟨ps, ⟨g', t', cs, fuel, p, q, hg', ht', hvar, hd, _, _⟩, _⟩ := h
  obtain rfl := Option.some.inj (gTab.symm.trans hg')
  obtain rfl := Option.some.inj (gTabType.symm.trans ht')
  obtain ⟨xs, m, rfl, hx, hcl, hxl, hr⟩ := DataW.trod_array Tryd.underlying47 hd
  rw [cells5] at hcl
  simp only [cells2] at hr
  have hxs := congrArg Prod.fst hx
  simp only [Rows.laid_chargepark_plate_twins, DataW.agg.injEq] at hxs
  have item : ∀ (i : Nat) (x y : Int), (xs.map (·.1))[i]? = some (.agg [.lit (.int .i32 x), .lit (.int .i32 y)]) → (cs.toList.drop (i * 2)).take 2 = [Value.int .i32 x, Value.int .i32 y] := by
    intro i x y hi
    rw [List.getElem?_map] at hi
    obtain ⟨b, hb, hb2⟩ := Option.map_eq_some_iff.1 hi
    have hlt : i < 5 := by have := (List.getElem?_eq_some_iff.1 hb).1; omega
    have h1 := hr i hlt
    rw [hb] at h1
    obtain ⟨b1, b2⟩ := b
    simp only at hb2
    subst hb2
    exact Lib.cells_of_tab (zs := [x, y]) Tryd.underlying46 Tryd.underlying21 cells1 cells2 h1
  have i0 := item 0 79 48 (by rw [← hxs]; rfl)
  have i1 := item 1 73 49 (by rw [← hxs]; rfl)
  have i2 := item 2 66 56 (by rw [← hxs]; rfl)
  have i3 := item 3 83 53 (by rw [← hxs]; rfl)
  have i4 := item 4 90 50 (by rw [← hxs]; rfl)
  have hcs : cs = twinCells := by
    apply Array.toList_inj.1
    generalize cs.toList = l at *
    match l, hcl with
    | [c0, c1, c2, c3, c4, c5, c6, c7, c8, c9], _ =>
      simp at i0 i1 i2 i3 i4
      obtain ⟨rfl, rfl⟩ := i0
      obtain ⟨rfl, rfl⟩ := i1
      obtain ⟨rfl, rfl⟩ := i2
      obtain ⟨rfl, rfl⟩ := i3
      obtain ⟨rfl, rfl⟩ := i4
      rfl
  unfold World.var? at hvar
  rw [gTab] at hvar
  simp only [Option.bind_some] at hvar
  unfold Laid
  split at hvar
  · rename_i c t fr hh
    obtain rfl := Option.some.inj hvar
    exact ⟨t, fr, by rw [hh, hcs]⟩
  · cases hvar
end Go.Proofs.YtcpiapenagbapaaDoor.PlateLaid
