/-
  The walks of what car.Draw calls (2): common, OnesCount, currents and its closures.
-/
import Derived.Test.YtojjdpbjcaedpaaCarWalk
import Derived.Maps.OwnSet
import Derived.Maps.Views
import Derived.DeepKeys4
namespace Go.Proofs.Ytojjdpbjcaedpaa.CarA
open Go.RowKit Go.Proofs.Ytojjdpbjcaedpaa.Kit Go.Proofs.Ytojjdpbjcaedpaa.PAll Go.Proofs.Ytojjdpbjcaedpaa.CarWalk
open Go.Proofs.YtojjdpbjcaedpaaW.PrintWords hiding below_alloc below_drew
set_option linter.unusedVariables false
set_option linter.unusedSimpArgs false

/-! OnesCount of a small number -/
def cnt (n : Int) : Int := n % 2 + n / 2 % 2 + n / 4 % 2
set_option maxRecDepth 100000 in
theorem ones64_calls (n : Int) (h0 : 0 ≤ n) (h7 : n ≤ 7) (w : World) : Calls Try.prog 35 #[.int .u64 n] w fun e w' => e = .returned (.int .i64 (cnt n)) ∧ w' = w := by
  have h : n = 0 ∨ n = 1 ∨ n = 2 ∨ n = 3 ∨ n = 4 ∨ n = 5 ∨ n = 6 ∨ n = 7 := by omega
  clear h0 h7
  rcases h with rfl | rfl | rfl | rfl | rfl | rfl | rfl | rfl
  all_goals
    go_enter Try.func35, Try.ntmps35
    go_wp2
    go_ret
    exact ⟨by kernel_rfl, rfl⟩
theorem ones_calls (n : Int) (h0 : 0 ≤ n) (h7 : n ≤ 7) (w : World) : Calls Try.prog 23 #[.int .u64 n] w fun e w' => e = .returned (.int .i64 (cnt n)) ∧ w' = w := by
  have hc := fun w => ones64_calls n h0 h7 w
  have HC := Lib.hid hc
  clear hc
  go_enter Try.func23, Try.ntmps23
  go_wp2_with fail
  refine (HC.out _).mono ?_
  rintro e w1 ⟨rfl, rfl⟩
  go_wp2_with fail
  go_ret
  exact ⟨rfl, rfl⟩

/-! common -/
def comm (kind ph phases : Int) : Int := if kind = 2 then Go.bits .and .i64 (Go.bits .and .i64 ph phases) (wrap64 (-(Go.bits .and .i64 ph phases))) else Go.bits .and .i64 ph phases
set_option maxRecDepth 100000 in
theorem common_calls (c : Car) (A0 : Option Addr) (c0 : Nat) (l0 : List Int) (ticks got phases : Int) (w : World) :
    Calls Try.prog 20 #[.agg #[.int .i64 c.f0, .int .i64 c.f1, .int .i64 c.f2, .int .i64 c.f3, .int .i64 c.f4, .slice A0 l0.length c0, .int .i64 ticks, .int .i64 got], .int .i64 phases] w
      fun e w' => e = .returned (.int .i64 (comm c.f0 c.f1 phases)) ∧ Below w.heap.size w w' := by
  by_cases h : c.f0 = 2
  · have e : comm c.f0 c.f1 phases = Go.bits .and .i64 (Go.bits .and .i64 c.f1 phases) (wrap64 (-(Go.bits .and .i64 c.f1 phases))) := if_pos h
    have E := Lib.hid e
    clear e
    go_enter Try.func20, Try.ntmps20
    go_wp2
    go_ret
    exact ⟨by rw [E.out]; rfl, by repeat (first | exact Below.refl _ _ | apply below_drewN | apply below_alloc)⟩
  · have e : comm c.f0 c.f1 phases = Go.bits .and .i64 c.f1 phases := if_neg h
    have E := Lib.hid e
    clear e
    go_enter Try.func20, Try.ntmps20
    go_wp2
    go_ret
    exact ⟨by rw [E.out]; rfl, by repeat (first | exact Below.refl _ _ | apply below_drewN | apply below_alloc)⟩

/-! the closures -/
set_option maxRecDepth 100000 in
theorem good_calls (v : Value) (cs : Array Value) (hv : v = .agg cs) (hs : cs.size = 8) (al : Int) (w : World) : Calls Try.prog 29 #[v, .int .i64 al] w fun e w' => e = .returned (.int .i64 al) ∧ Below w.heap.size w w' := by
  subst hv
  go_enter Try.func29, Try.ntmps29
  go_wp2
  go_ret
  exact ⟨rfl, by repeat (first | exact Below.refl _ _ | apply below_drewN | apply below_alloc)⟩

/-! currents: a map of functions -/
abbrev MT : TypeId := 42
abbrev FT : TypeId := 41
def Rf : Value → Option (DataW Unit × List MemPlace)
  | .func (.func n) a b => if a.size = 0 ∧ b.size = 0 then some (.lit (.int .i64 n), []) else some (.lit (.bool true), [])
  | _ => some (.lit (.bool false), [])
theorem Rf_mk (n : Nat) : Rf (.func (.func n) #[] #[]) = some (.lit (.int .i64 n), []) := rfl
theorem Rf_inv {v : Value} {n : Nat} {ps : List MemPlace} (h : Rf v = some (.lit (.int .i64 n), ps)) : v = .func (.func n) #[] #[] := by
  unfold Rf at h
  split at h
  · rename_i m a b
    split at h
    · rename_i hab
      simp at h
      have h2 : m = n := Int.ofNat.inj h.1
      subst h2
      rw [Array.eq_empty_of_size_eq_zero hab.1, Array.eq_empty_of_size_eq_zero hab.2]
    · simp at h
  · simp at h
theorem keyed : Maps.Keyed Try.prog 3 := Maps.int_keyed Try.underlying3
theorem key_of (k : Int) (h : (Lit.int .i64 k).wf = true) : keyOf Try.prog 3 (.int .i64 k) = some (.int .i64 k) := by
  simp [keyOf, Try.underlying3, mapKey, h]
theorem zero_fn (W : World) : (zeroValue FT).run Try.prog W = .ok .nilFunc W := by
  go_simp
def fnOf (k : Int) : Nat := if k = 1 then 30 else if k = 3 then 31 else if k = 4 then 32 else 29
def put (D : DataW Unit) (k : Int) (n : Nat) : DataW Unit := D.put (.int .i64 k) (.lit (.int .i64 n))
def D5 : DataW Unit := put (put (put (put (put (.map []) 0 29) 2 29) 1 30) 3 31) 4 32
theorem D5_at (k : Int) (h0 : 0 ≤ k) (h4 : k ≤ 4) : D5.atKey (.int .i64 k) (.lit (.bool false)) = .lit (.int .i64 (fnOf k)) := by
  have h : k = 0 ∨ k = 1 ∨ k = 2 ∨ k = 3 ∨ k = 4 := by omega
  rcases h with rfl | rfl | rfl | rfl | rfl <;> rfl
theorem put_run {W : World} {B n : Nat} {D : DataW Unit} (h : W.ownsMap Try.prog 3 Rf B n D) (hn : n < 1000) (k : Int) (hk : (Lit.int .i64 k).wf = true) (f : Nat) :
    ∃ W', (Instr.mapUpdate MT (.map (some B)) (.int .i64 k) (.func (.func f) #[] #[])).run Try.prog W = .ok () W' ∧ W'.ownsMap Try.prog 3 Rf B (n + 1) (put D k f) ∧ W.grownBy W' (some B) :=
  h.update keyed Try.underlying42 (by unfold maxLen; omega) (key_of k hk) (Rf_mk f)
theorem wf_small (k : Int) (h0 : 0 ≤ k) (h4 : k ≤ 4) : (Lit.int .i64 k).wf = true := by
  have h : k = 0 ∨ k = 1 ∨ k = 2 ∨ k = 3 ∨ k = 4 := by omega
  rcases h with rfl | rfl | rfl | rfl | rfl <;> rfl
theorem look {W : World} {B n : Nat} (h : W.ownsMap Try.prog 3 Rf B n D5) (k : Int) (h0 : 0 ≤ k) (h4 : k ≤ 4) :
    (Instr.lookup MT (.map (some B)) (.int .i64 k) false).run Try.prog W = .ok (.func (.func (fnOf k)) #[] #[]) W := by
  obtain ⟨v, ps, hrun, hv⟩ := h.lookup keyed Try.underlying42 (zero_fn W) (zd := .lit (.bool false)) rfl (key_of k (wf_small k h0 h4))

  rw [D5_at k h0 h4] at hv
  rw [Rf_inv hv] at hrun
  exact hrun
theorem mm_run (W : World) : (Instr.makeMap MT none).run Try.prog W = .ok (.map (some W.heap.size)) (W.alloc (.map #[] 0)) := by
  simp [Instr.makeMap]

set_option maxRecDepth 100000 in
theorem currents_calls (w : World) : Calls Try.prog 21 #[] w fun e w' => ∃ B n, e = .returned (.map (some B)) ∧ w'.ownsMap Try.prog 3 Rf B n D5 ∧ Below w.heap.size w w' := by
  have hmm := mm_run w
  have o0 := World.ownsMap_made w Try.prog 3 Rf
  obtain ⟨W1, r1, o1, g1⟩ := put_run o0 (by omega) 0 rfl 29
  obtain ⟨W2, r2, o2, g2⟩ := put_run o1 (by omega) 2 rfl 29
  obtain ⟨W3, r3, o3, g3⟩ := put_run o2 (by omega) 1 rfl 30
  obtain ⟨W4, r4, o4, g4⟩ := put_run o3 (by omega) 3 rfl 31
  obtain ⟨W5, r5, o5, g5⟩ := put_run o4 (by omega) 4 rfl 32
  have hb : Below w.heap.size w W5 := by
    have b0 : Below w.heap.size w (w.alloc (.map #[] 0)) := below_alloc (Below.refl _ _) _
    have st : ∀ {W W' : World}, Below w.heap.size w W → W.grownBy W' (some w.heap.size) → Below w.heap.size w W' := fun h g => h.grown g h.size (fun k e => by cases e; exact Nat.le_refl _)
    exact st (st (st (st (st b0 g1) g2) g3) g4) g5
  have HO := Lib.hid o5
  have HB := Lib.hid hb
  clear o0 o1 o2 o3 o4 o5 g1 g2 g3 g4 g5 hb
  go_enter Try.func21, Try.ntmps21
  go_wp2
  go_ret
  exact ⟨_, _, rfl, HO.out, HB.out⟩
end Go.Proofs.Ytojjdpbjcaedpaa.CarA
