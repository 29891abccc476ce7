/-
  The law's edited, for plates, as one function.
-/
import Derived.Test.YtcpiapenagbapaaDoorPlateEdited
namespace Go.Proofs.YtcpiapenagbapaaDoor.PlateEdited
open Go.RowKit Go.Proofs.YtcpiapenagbapaaDoor.Kit Go.Proofs.YtcpiapenagbapaaDoor.PlateDist Go.Proofs.YtcpiapenagbapaaDoor.PlateTwin

def editF (a : ByteArray) (at_ kind sign : Int) : Option (ByteArray × Int) :=
  if 1 ≤ a.size ∧ a.size ≤ 10 ∧ 0 ≤ at_ ∧ 0 ≤ kind ∧ 0 ≤ sign ∧ sign < 256 then
    some (if kind.tmod 3 = 0 then (a.extract 0 (at_.tmod a.size).toNat ++ a.extract ((at_.tmod a.size).toNat + 1) a.size, 2)
      else if kind.tmod 3 = 1 then (a.extract 0 (at_.tmod a.size).toNat ++ strOfNums [sign] ++ a.extract (at_.tmod a.size).toNat a.size, 2)
      else (a.extract 0 (at_.tmod a.size).toNat ++ strOfNums [sign] ++ a.extract ((at_.tmod a.size).toNat + 1) a.size, costI (chr a (at_.tmod a.size).toNat) sign))
  else none

theorem edit_ext (a0 : ByteArray) (a1 a2 a3 : Int) (r1 : ByteArray) (r2 : Int) (w : World) (h : editF a0 a1 a2 a3 = some (r1, r2)) :
    Calls Tryd.prog 15 #[.string a0, .int .i64 a1, .int .i64 a2, .int .u8 a3] w fun e w' => e = .returned (.tuple #[.string r1, .int .i64 r2]) ∧ Below w.heap.size w w' := by
  unfold editF at h
  split at h
  · rename_i c
    obtain ⟨c1, c2, c3, c4, c5, c6⟩ := c
    have h0 := Int.tmod_nonneg (a0.size : Int) c3
    have h1 := Int.tmod_lt_of_pos a1 (show (0 : Int) < (a0.size : Int) by omega)
    have hk : a1.tmod a0.size = ((a1.tmod a0.size).toNat : Int) := by omega
    have g0 := Int.tmod_nonneg (3 : Int) c4
    have g1 := Int.tmod_lt_of_pos a2 (show (0 : Int) < 3 by omega)
    have h := Option.some.inj h
    by_cases m0 : a2.tmod 3 = 0
    · rw [if_pos m0] at h
      obtain ⟨rfl, rfl⟩ := Prod.mk.inj h
      exact edited0 a0 a1 a2 a3 _ w c1 c2 hk (by omega) m0
    · rw [if_neg m0] at h
      by_cases m1 : a2.tmod 3 = 1
      · rw [if_pos m1] at h
        obtain ⟨rfl, rfl⟩ := Prod.mk.inj h
        exact edited1 a0 a1 a2 a3 _ w c1 c2 hk (by omega) m1 c5 c6
      · rw [if_neg m1] at h
        obtain ⟨rfl, rfl⟩ := Prod.mk.inj h
        exact edited2 a0 a1 a2 a3 _ w c1 c2 hk (by omega) (by omega) c5 c6
  · cases h
end Go.Proofs.YtcpiapenagbapaaDoor.PlateEdited
