/-
  What the laws of settle share: the head (a computation), lists that are equal, a loop over a list.
-/
import Derived.Test.YtanaaphabeonoaaPAllx4
import Derived.Test.YtanaaphabeonoaaSettlePlain
namespace Go.Proofs.Ytanaaphabeonoaa.Pure
open Go.RowKit Go.Proofs.Ytanaaphabeonoaa.PAll Go.Proofs.Ytanaaphabeonoaa.SettleNet Go.Proofs.Ytanaaphabeonoaa.SettlePlain Go.Proofs.YtanaaphabeonoaaW.PrintWords Go.Proofs.YtanaaphabeonoaaW.PrintLast Go.Proofs.YtanaaphabeonoaaW.PrintMore
set_option linter.unusedSimpArgs false

theorem evs {α : Type} {g : Nat → Option α} {r : α} (h : Ev (fun k => g (k + 1)) r) : Ev g r := Ev.step (fun _ => rfl) h

theorem st_head : Ev (fun k => chargeparklaw42_head.f k) true :=
  Ev.of chargeparklaw42_head.mono (k := 12) (by decide +kernel)

theorem st_ints_l (a : List Int) (ha : a.length ≤ 1000) : ∀ d i : Nat, a.length - i = d → i ≤ a.length → Ev (fun k => chargeparkref42_Ints.l0 k a a (i : Int)) true := by
  intro d
  induction d with
  | zero =>
    intro i hd hi
    refine evs ?_
    simp only [chargeparkref42_Ints.l0, if_neg (show ¬ (i : Int) < (a.length : Int) by omega)]
    exact Ev.now _
  | succ d ih =>
    intro i hd hi
    refine evs ?_
    simp only [chargeparkref42_Ints.l0, if_pos (show (i : Int) < (a.length : Int) by omega), if_pos (show (0 : Int) ≤ (i : Int) by omega), if_true, st_wrap (x := (i : Int) + 1) (by omega) (by omega)]
    exact ih (i + 1) (by omega) (by omega)
theorem st_ints (a : List Int) (ha : a.length ≤ 1000) : Ev (fun k => chargeparkref42_Ints.f k a a) true := by
  unfold chargeparkref42_Ints.f
  simp only [if_true]
  exact st_ints_l a ha a.length 0 (by omega) (by omega)

theorem st_rd (l : List Rec) (i : Nat) (h : i < l.length) : rd_T40 l (i : Int) = l[i] := by
  unfold rd_T40
  rw [List.getD_eq_getElem?_getD, Int.toNat_natCast, List.getElem?_eq_getElem h]; rfl
theorem st_rdi (l : List Int) (i : Nat) (h : i < l.length) : rd l (i : Int) = l[i] := by
  unfold rd
  rw [List.getD_eq_getElem?_getD, Int.toNat_natCast, List.getElem?_eq_getElem h]; rfl

theorem ok_wf {l : List Rec} (h : ∀ y ∈ l, ok40 y) : ∀ r ∈ l, wfR r = true := by
  intro r hr
  have := h r hr
  unfold ok40 at this
  unfold wfR
  rw [Bool.and_eq_true]
  exact ⟨this.2.2.2.2.1, this.1⟩
theorem net_is (l : List Rec) (n : Int) : settle_Net.f l n = netF l n := rfl
theorem sum_take_bound (a : List Int) (h : ∀ x ∈ a, -1000000000000 ≤ x ∧ x ≤ 1000000000000) : -(1000000000000 * (a.length : Int)) ≤ a.sum ∧ a.sum ≤ 1000000000000 * (a.length : Int) := by
  induction a with
  | nil => simp
  | cons x a ih =>
    have h1 := h x List.mem_cons_self
    have h2 := ih (fun y hy => h y (List.mem_cons_of_mem _ hy))
    rw [List.sum_cons, List.length_cons]
    omega
theorem take_snoc {α : Type} (l : List α) (i : Nat) (h : i < l.length) : l.take (i + 1) = l.take i ++ [l[i]] := by
  rw [List.take_add_one, List.getElem?_eq_getElem h]; rfl
theorem vec_bounds {l : List Rec} {n : Int} (h : Fine l n) : ∀ x ∈ vec n.toNat (gets l), -1000000000000 ≤ x ∧ x ≤ 1000000000000 := by
  intro x hx
  unfold vec at hx
  obtain ⟨v, _, rfl⟩ := List.mem_map.1 hx
  have := gets_bound h.2.2.2.1 (v : Int)
  have := h.1
  omega
end Go.Proofs.Ytanaaphabeonoaa.Pure
