/-
  The walk of the law LeaseLonger, by hand (it takes the address of a row's element).
-/
import Derived.Test.YtpngiddelhcepaaLeaseRefA
import Derived.Deep.DeepCutAuto
import Derived.IntWalk
namespace Go.Proofs.Ytpngiddelhcepaa.LeaseLonger
open Go.RowKit Go.Proofs.Ytpngiddelhcepaa.Kit Go.Proofs.Ytpngiddelhcepaa.PAll Go.Proofs.Ytpngiddelhcepaa.LeaseWalk Go.Proofs.Ytpngiddelhcepaa.LeasePlain Go.Proofs.Ytpngiddelhcepaa.LeaseRef
open Go.Proofs.YtpngiddelhcepaaW.PrintWords hiding below_alloc below_drew
open Go.Proofs.YtpngiddelhcepaaW.PrintLast Go.Proofs.YtpngiddelhcepaaW.PrintMore
set_option linter.unusedVariables false
set_option linter.unusedSimpArgs false

/-! ### plain -/
def longer (x : Ls) (a t : Int) : Ls := ⟨x.f0, x.f1, mn 80 (x.f2 + a), x.f3, mn 1000 (x.f4 + t)⟩
theorem longer_one {x : Ls} {a t : Int} (h : oneL x = true) (ha : 0 ≤ a) (ht : 0 ≤ t) : oneL (longer x a t) = true := by
  have hb := oneL_bounds h
  unfold oneL longer inI
  simp only [Bool.and_eq_true, decide_eq_true_eq]
  unfold mn
  obtain ⟨h0, h1, h2, h3, h4, h5⟩ := hb
  refine ⟨⟨by omega, by omega⟩, ⟨by omega, by omega⟩, ⟨?_, ?_⟩, ⟨by omega, by omega⟩, ?_, ?_⟩
  all_goals (split <;> omega)
theorem longer_fol {x y : Ls} {a t : Int} : (Fol (longer x a t) y ↔ Fol x y) ∧ (Fol y (longer x a t) ↔ Fol y x) := ⟨Iff.rfl, Iff.rfl⟩
theorem wait_mono {x y : Int} (h : x ≤ y) : waitN x ≤ waitN y := by
  unfold waitN
  omega
theorem longer_gv {x : Ls} {a t : Int} (h : oneL x = true) (ha : 0 ≤ a) (ht : 0 ≤ t) (tick v : Int) : gv tick x v ≤ gv tick (longer x a t) v := by
  have hb := oneL_bounds h
  have h0 := gv_nonneg (longer_one h ha ht) tick v
  have hf2 : x.f2 ≤ (longer x a t).f2 := by show x.f2 ≤ mn 80 (x.f2 + a); unfold mn; split <;> omega
  have hf4 : x.f4 ≤ (longer x a t).f4 := by show x.f4 ≤ mn 1000 (x.f4 + t); unfold mn; split <;> omega
  have he : endL x ≤ endL (longer x a t) := by
    have := wait_mono hf4
    unfold endL
    show x.f3 + 10 + waitN x.f4 ≤ x.f3 + 10 + waitN (longer x a t).f4
    omega
  by_cases c : x.f3 ≤ tick ∧ tick < endL x ∧ x.f1 = v
  · unfold gv
    rw [if_pos c, if_pos ⟨c.1, by omega, c.2.2⟩]
    exact hf2
  · unfold gv at h0 ⊢
    rw [if_neg c]
    exact h0
theorem longer_mv {a t : Int} (ha : 0 ≤ a) (ht : 0 ≤ t) (tick v : Int) : ∀ (l : List Ls) (i : Nat) (hi : i < l.length), (∀ x ∈ l, oneL x = true) → mv tick l v ≤ mv tick (l.set i (longer l[i] a t)) v := by
  intro l
  induction l with
  | nil => intro i hi; cases hi
  | cons x l ih =>
    intro i hi h
    cases i with
    | zero =>
      have := longer_gv (h x List.mem_cons_self) ha ht tick v
      show max (gv tick x v) (mv tick l v) ≤ max (gv tick (longer x a t) v) (mv tick l v)
      omega
    | succ i =>
      have hi' : i < l.length := by simpa using hi
      have := ih i hi' (fun y hy => h y (List.mem_cons_of_mem _ hy))
      show max (gv tick x v) (mv tick l v) ≤ max (gv tick x v) (mv tick (l.set i (longer l[i] a t)) v)
      omega
theorem longer_valid {l : List Ls} {a t : Int} (ha : 0 ≤ a) (ht : 0 ≤ t) (i : Nat) (hi : i < l.length) (h : validL l = true) : validL (l.set i (longer l[i] a t)) = true := by
  obtain ⟨h64, h1, h2⟩ := (validL_iff l).1 h
  rw [validL_iff]
  refine ⟨by rw [List.length_set]; exact h64, fun x hx => ?_, ?_⟩
  · rcases List.mem_or_eq_of_mem_set hx with hx | rfl
    · exact h1 x hx
    · exact longer_one (h1 _ (List.getElem_mem hi)) ha ht
  · rw [List.pairwise_iff_getElem] at h2 ⊢
    intro p q hp hq hpq
    rw [List.length_set] at hp hq
    have := h2 p q hp hq hpq
    rw [List.getElem_set, List.getElem_set]
    by_cases e1 : i = p
    · subst e1
      rw [if_pos rfl, if_neg (by omega)]
      exact this
    · rw [if_neg e1]
      by_cases e2 : i = q
      · subst e2
        rw [if_pos rfl]
        exact this
      · rw [if_neg e2]
        exact this
/-- A row in a block, told by its cells. -/
theorem row_C {W : World} {g : Nat} {l : List Ls} (hl : l.length ≤ 1000) (h : ∀ (j : Nat) (x : Ls), l[j]? = some x → W.cell? ⟨g, j * 5, none⟩ = some (.int .i64 x.f0) ∧ W.cell? ⟨g, j * 5 + 1, none⟩ = some (.int .i64 x.f1) ∧ W.cell? ⟨g, j * 5 + 2, none⟩ = some (.int .i64 x.f2) ∧ W.cell? ⟨g, j * 5 + 3, none⟩ = some (.int .i64 x.f3) ∧ W.cell? ⟨g, j * 5 + 4, none⟩ = some (.int .i64 x.f4)) :
    Kd.C k24 W (some ⟨g, 0, none⟩) l.length l := by
  refine ⟨rfl, by omega, fun _ => ⟨⟨g, 0, none⟩, rfl, fun j p hj => ?_⟩⟩
  obtain ⟨c0, c1, c2, c3, c4⟩ := h j p hj
  refine ⟨_, rfl, k24_mk W p, fun q u hu => ?_⟩
  rw [add_plain]
  show W.cell? ⟨g, j * 5 + q, none⟩ = some u
  match q, hu with
  | 0, hu => rw [show j * 5 + 0 = j * 5 from rfl]; exact c0.trans hu
  | 1, hu => exact c1.trans hu
  | 2, hu => exact c2.trans hu
  | 3, hu => exact c3.trans hu
  | 4, hu => exact c4.trans hu
  | q + 5, hu => simp at hu
/-- The cells of a row in a block. -/
def Cells (W : World) (g : Nat) (l : List Ls) : Prop := ∀ (j : Nat) (x : Ls), l[j]? = some x → W.cell? ⟨g, j * 5, none⟩ = some (.int .i64 x.f0) ∧ W.cell? ⟨g, j * 5 + 1, none⟩ = some (.int .i64 x.f1) ∧ W.cell? ⟨g, j * 5 + 2, none⟩ = some (.int .i64 x.f2) ∧ W.cell? ⟨g, j * 5 + 3, none⟩ = some (.int .i64 x.f3) ∧ W.cell? ⟨g, j * 5 + 4, none⟩ = some (.int .i64 x.f4)
theorem C_row {W : World} {g : Nat} {l : List Ls} (h : Kd.C k24 W (some ⟨g, 0, none⟩) l.length l) : Cells W g l := by
  intro j x hj
  obtain ⟨hjl, hx⟩ := List.getElem?_eq_some_iff.1 hj
  obtain ⟨ad, e, x0, x1, x2, x3, x4⟩ := at_T24 h (j : Int) (Int.natCast_nonneg _) (by omega)
  have e := Option.some.inj e
  subst e
  rw [rd_at l j hjl, hx] at x0 x1 x2 x3 x4
  rw [Int.toNat_natCast, add_plain] at x0 x1 x2 x3 x4
  exact ⟨x0, x1, x2, x3, x4⟩
theorem cell_ne {W : World} {g a b : Nat} (h : a ≠ b) (u : Value) : (W.setCell ⟨g, a, none⟩ u).cell? ⟨g, b, none⟩ = W.cell? ⟨g, b, none⟩ := World.cell?_setCell_other _ _ _ _ (fun e => h (congrArg Addr.off e))
theorem Cells.set2 {W : World} {g : Nat} {l : List Ls} (h : Cells W g l) (i : Nat) (hi : i < l.length) (u v : Int) : Cells ((W.setCell ⟨g, i * 5 + 2, none⟩ (.int .i64 u)).setCell ⟨g, i * 5 + 4, none⟩ (.int .i64 v)) g (l.set i ⟨l[i].f0, l[i].f1, u, l[i].f3, v⟩) := by
  intro j x hj
  obtain ⟨hjl, hx⟩ := List.getElem?_eq_some_iff.1 hj
  rw [List.length_set] at hjl
  rw [List.getElem_set] at hx
  have hh := h j l[j] (List.getElem?_eq_getElem hjl)
  by_cases e : i = j
  · subst e
    rw [if_pos rfl] at hx
    subst hx
    obtain ⟨c0, c1, c2, c3, c4⟩ := hh
    refine ⟨?_, ?_, ?_, ?_, ?_⟩
    · rw [cell_ne (by omega), cell_ne (by omega)]; exact c0
    · rw [cell_ne (by omega), cell_ne (by omega)]; exact c1
    · rw [cell_ne (by omega)]; exact World.cell?_setCell_same' _ _ _ (by rw [c2]; rfl)
    · rw [cell_ne (by omega), cell_ne (by omega)]; exact c3
    · exact World.cell?_setCell_same' _ _ _ (by rw [cell_ne (by omega), c4]; rfl)
  · rw [if_neg e] at hx
    subst hx
    obtain ⟨c0, c1, c2, c3, c4⟩ := hh
    refine ⟨?_, ?_, ?_, ?_, ?_⟩ <;> (rw [cell_ne (by omega), cell_ne (by omega)]; assumption)
theorem alive_pair {l m : List Ls} (tick : Int) (hl : validL l = true) (hm : validL m = true) (hle : ∀ v, mv tick l v ≤ mv tick m v) :
    ∃ L1 L2 cd, aliveR l 16 tick = (L1, cd) ∧ aliveR m 16 tick = (L2, cd) ∧ L1.length = L2.length ∧ L1.length ≤ 16 ∧ ∀ v : Nat, v < L1.length → rd L1 v ≤ rd L2 v := by
  by_cases t : 0 ≤ tick ∧ tick ≤ 1100000
  · refine ⟨_, _, 0, alive_16 hl t, alive_16 hm t, by rw [vec_length, vec_length], by rw [vec_length]; exact Nat.le_refl _, fun v hv => ?_⟩
    rw [vec_length] at hv
    rw [vec_rd 16 _ v (by omega) (by omega), vec_rd 16 _ v (by omega) (by omega)]
    exact hle v
  · exact ⟨[], [], 1, alive_bad t, alive_bad t, rfl, by simp, fun v hv => by cases hv⟩
end Go.Proofs.Ytpngiddelhcepaa.LeaseLonger
