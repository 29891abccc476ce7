/-
  The walk of settle.Net.
-/
import Derived.Test.YtanaaphabeonoaaPAllx0
import Derived.Test.YtanaaphabeonoaaKit
import Derived.Maps.OwnSet
import Derived.Maps.Views
import Derived.DeepKeys4
import Derived.Laws.MakeOwn
import Derived.Deep.RegionHeld3
import Derived.IntWalk
import Derived.BigRegion
namespace Go.Proofs.Ytanaaphabeonoaa.SettleNet
open Go.RowKit Go.Proofs.Ytanaaphabeonoaa.Kit Go.Proofs.Ytanaaphabeonoaa.PAll Go.Proofs.YtanaaphabeonoaaW.PrintWords
set_option linter.unusedVariables false
set_option linter.unusedSimpArgs false

abbrev Rec := S40

def inI (n lo hi : Int) : Bool := decide (n ≥ lo) && decide (n ≤ hi)

theorem in_calls (n lo hi : Int) (w : World) :
    Calls Try.prog 21 #[.int .i64 n, .int .i64 lo, .int .i64 hi] w fun e w' => e = .returned (.bool (inI n lo hi)) ∧ ∃ m, w' = w.drewN m := by
  by_cases h1 : n ≥ lo
  · have h : inI n lo hi = decide (n ≤ hi) := by unfold inI; rw [decide_eq_true h1, Bool.true_and]
    have H := Lib.hid h
    clear h
    go_enter Try.func21, Try.ntmps21
    go_wp2
    go_ret
    exact ⟨by rw [H.out]; rfl, 0, rfl⟩
  · have h : inI n lo hi = false := by unfold inI; rw [decide_eq_false h1, Bool.false_and]
    have H := Lib.hid h
    clear h
    go_enter Try.func21, Try.ntmps21
    go_wp2
    go_ret
    exact ⟨by rw [H.out]; rfl, 0, rfl⟩

/-! ### what it computes -/
def goodR (n : Int) (r : Rec) : Bool := inI r.f3 0 (n - 1) && inI r.f4 0 (n - 1) && inI r.f8 0 1000000000
def upd (out : List Int) (r : Rec) : List Int :=
  (out.set r.f4.toNat (wrap64 (rd out r.f4 + r.f8))).set r.f3.toNat (wrap64 (rd (out.set r.f4.toNat (wrap64 (rd out r.f4 + r.f8))) r.f3 - r.f8))
def netL (n : Int) : List Rec → List (Int × Int) → List Int → Bool → List Int × Int
  | [], _, out, tw => if tw then ([], 5) else (out, 0)
  | r :: l, seen, out, tw => if goodR n r then netL n l (seen ++ [(r.f4, r.f0)]) (upd out r) (tw || seen.contains (r.f4, r.f0)) else ([], 1)
def wfR (r : Rec) : Bool := (Lit.int .i64 r.f4).wf && (Lit.int .i64 r.f0).wf
def netF (l : List Rec) (n : Int) : Option (List Int × Int) :=
  if l.all wfR then some (if l.length > 64 then ([], 2) else if inI n 1 8 then netL n l [] (List.replicate n.toNat 0) false else ([], 1)) else none

/-! ### the map -/
abbrev KT : TypeId := 54
abbrev MT : TypeId := 52
abbrev BT : TypeId := 4
theorem laidOut : laidOutB Try.prog = true := by kernel_rfl
theorem wideK : (match Try.prog.underlying KT with | some (.array _ _) | some (.struct _) => true | _ => false) = true := by kernel_rfl
theorem rowK : KT < Try.prog.types.size := of_decide_eq_true (by kernel_rfl)
theorem law : WideMaps.KeyLaw Try.prog KT := deep_law_laid laidOut (m := 3) (by omega) rowK (by kernel_rfl) wideK
theorem keyed : Maps.Keyed Try.prog KT := Maps.Keyed.of_law law

noncomputable def keyV (p : Int × Int) : Value := .agg #[.int .i64 p.1, .int .i64 p.2]
def wfP (p : Int × Int) : Prop := (Lit.int .i64 p.1).wf = true ∧ (Lit.int .i64 p.2).wf = true
noncomputable def kl (p : Int × Int) : Lit := (keyOf Try.prog KT (keyV p)).getD (.bool false)

theorem keyLits_pair (d : Nat) (p : Int × Int) (h : wfP p) : Try.prog.keyLits (d + 2) KT [.int .i64 p.1, .int .i64 p.2] = some [.int .i64 p.1, .int .i64 p.2] := by
  have h1 : ∀ x : Int, (Lit.int .i64 x).wf = true → Try.prog.keyLits (d + 1) 3 [.int .i64 x] = some [.int .i64 x] := fun x hx => by
    unfold Program.keyLits
    rw [Try.underlying3]
    simp [hx]
  unfold Program.keyLits
  rw [Try.underlying54]
  simp [show Try.prog.cellsOf KT = 2 by kernel_rfl, show Try.prog.cellsOf 3 = 1 by kernel_rfl, h1 _ h.1, h1 _ h.2]

theorem key_some (p : Int × Int) (h : wfP p) : keyOf Try.prog KT (keyV p) = some (kl p) := by
  have : (keyOf Try.prog KT (keyV p)).isSome = true := by
    unfold keyOf
    rw [Try.underlying54]
    have hs : ∃ m, Try.prog.types.size + 1 = m + 2 := by
      have : 1 ≤ Try.prog.types.size := of_decide_eq_true (by kernel_rfl)
      exact ⟨Try.prog.types.size - 1, by omega⟩
    obtain ⟨m, hm⟩ := hs
    have hf : (keyV p).formed Try.prog KT = true := by
      simp [keyV, Value.formed, Try.underlying54, show Try.prog.cellsOf KT = 2 by kernel_rfl]
    rw [hm, hf, show Try.prog.keyType KT = true by kernel_rfl]
    simp [keyV, Value.cells, keyLits_pair m p h]
  unfold kl
  obtain ⟨z, hz⟩ := Option.isSome_iff_exists.1 this
  rw [hz]; rfl

/-- What the map reads as when some names have been seen. -/
noncomputable def seenD (S : List (Int × Int)) : DataW Unit := S.foldl (fun D p => D.put (kl p) (.lit (.bool true))) (.map [])
theorem seenD_snoc (S : List (Int × Int)) (p : Int × Int) : seenD (S ++ [p]) = (seenD S).put (kl p) (.lit (.bool true)) := by simp [seenD, List.foldl_append]
theorem seen_isMap : ∀ S, Maps.IsMap (seenD S) := by
  intro S
  suffices H : ∀ (S : List (Int × Int)) (D : DataW Unit), Maps.IsMap D → Maps.IsMap (S.foldl (fun D p => D.put (kl p) (.lit (.bool true))) D) from H S _ Maps.isMap_empty
  intro S
  induction S with
  | nil => intro D h; exact h
  | cons p S ih => intro D h; exact ih _ (h.put _ _)
theorem kl_ne {p q : Int × Int} (hp : wfP p) (hq : wfP q) (h : p ≠ q) : kl p ≠ kl q := by
  intro e
  have := keyed.inj (key_some p hp) (by rw [key_some q hq, e])
  apply h
  unfold keyV at this
  simp at this
  exact Prod.ext this.1 this.2
theorem atKey_fold (q : Int × Int) (hq : wfP q) (z : DataW Unit) : ∀ (S : List (Int × Int)) (D : DataW Unit), Maps.IsMap D → (∀ p ∈ S, wfP p) → (S.foldl (fun D p => D.put (kl p) (.lit (.bool true))) D).atKey (kl q) z = if S.contains q then .lit (.bool true) else D.atKey (kl q) z := by
  intro S
  induction S with
  | nil => intro D _ _; rfl
  | cons p S ih =>
    intro D hD h
    have hp := h p List.mem_cons_self
    rw [List.foldl_cons, ih _ (hD.put _ _) (fun x hx => h x (List.mem_cons_of_mem _ hx))]
    by_cases e : p = q
    · subst e
      rw [Maps.atKey_put_same hD (keyed.key (key_some p hp))]
      simp
    · rw [Maps.atKey_put_other (Ne.symm (kl_ne hp hq e))]
      simp [show ¬ q = p from fun k => e k.symm]
theorem atKey_seen (q : Int × Int) (hq : wfP q) (S : List (Int × Int)) (h : ∀ p ∈ S, wfP p) : (seenD S).atKey (kl q) (.lit (.bool false)) = .lit (.bool (S.contains q)) := by
  unfold seenD
  rw [atKey_fold q hq _ S _ Maps.isMap_empty h]
  cases S.contains q <;> rfl

def Owns (W : World) (B n : Nat) (S : List (Int × Int)) : Prop := W.ownsMap Try.prog KT (plainElem Try.prog BT) B n (seenD S) ∧ ∀ p ∈ S, wfP p

theorem zero_bool (W : World) : (zeroValue BT).run Try.prog W = .ok (.bool false) W := by
  go_simp
theorem look {W : World} {B n : Nat} {S : List (Int × Int)} (h : Owns W B n S) (q : Int × Int) (hq : wfP q) : (Instr.lookup MT (.map (some B)) (.agg #[.int .i64 q.1, .int .i64 q.2]) false).run Try.prog W = .ok (.bool (S.contains q)) W := by
  obtain ⟨v, ps, hrun, hv⟩ := h.1.lookup keyed Try.underlying52 (zero_bool W) (plainElem_bool Try.underlying4 false) (key_some q hq)
  rw [atKey_seen q hq S h.2] at hv
  have : v = .bool (S.contains q) := by
    unfold plainElem at hv
    rw [Try.underlying4] at hv
    cases v <;> simp at hv
    rw [hv.1]
    simp
  rw [this] at hrun
  exact hrun
theorem put_run {W : World} {B n : Nat} {S : List (Int × Int)} (h : Owns W B n S) (hn : n < 1000) (q : Int × Int) (hq : wfP q) :
    ∃ W', (Instr.mapUpdate MT (.map (some B)) (.agg #[.int .i64 q.1, .int .i64 q.2]) (.bool true)).run Try.prog W = .ok () W' ∧ Owns W' B (n + 1) (S ++ [q]) ∧ W.grownBy W' (some B) := by
  obtain ⟨W', hrun, ho, hg⟩ := h.1.update keyed Try.underlying52 (by unfold maxLen; omega) (key_some q hq) (plainElem_bool Try.underlying4 true)
  refine ⟨W', hrun, ⟨by rw [seenD_snoc]; exact ho, fun p hp => ?_⟩, hg⟩
  rcases List.mem_append.1 hp with h1 | h1
  · exact h.2 p h1
  · obtain rfl : p = q := by simpa using h1
    exact hq
end Go.Proofs.Ytanaaphabeonoaa.SettleNet
