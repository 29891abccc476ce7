/-
  What package lease computes, in plain words: which leases are alive, and for each charger the greatest of their amperes.
-/
import Derived.Test.YtpngiddelhcepaaLeaseAlive
namespace Go.Proofs.Ytpngiddelhcepaa.LeasePlain
open Go.RowKit Go.Proofs.Ytpngiddelhcepaa.PAll Go.Proofs.Ytpngiddelhcepaa.LeaseWalk Go.Proofs.YtpngiddelhcepaaW.PrintWords
set_option linter.unusedSimpArgs false
set_option linter.unusedVariables false

theorem lp_wrap {x : Int} (h0 : -9000000000000000000 ≤ x) (h1 : x ≤ 9000000000000000000) : wrap64 x = x := by unfold wrap64; omega

/-- Valid leases. -/
def Fol (y x : Ls) : Prop := y.f0 < x.f0 ∧ y.f3 ≤ x.f3
def okL (l : List Ls) : Prop := (∀ x ∈ l, oneL x = true) ∧ l.Pairwise Fol
theorem afterL_iff (x y : Ls) : afterL x y = true ↔ Fol y x := by
  unfold afterL Fol
  rw [Bool.and_eq_true, decide_eq_true_eq, decide_eq_true_eq]
theorem Fol.trans {x y z : Ls} (h : Fol x y) (k : Fol y z) : Fol x z := ⟨by have := h.1; have := k.1; omega, by have := h.2; have := k.2; omega⟩
theorem validFrom_iff : ∀ (l : List Ls) (p : Option Ls), validFrom p l = true ↔ (∀ x ∈ l, oneL x = true) ∧ l.Pairwise Fol ∧ ∀ y, p = some y → ∀ x ∈ l, Fol y x
  | [], p => by simp [validFrom]
  | x :: l, p => by
    rw [validFrom_cons, Bool.and_eq_true, Bool.and_eq_true, validFrom_iff l (some x)]
    constructor
    · rintro ⟨h1, h2, h3, h4, h5⟩
      have h5' := h5 x rfl
      refine ⟨?_, List.pairwise_cons.2 ⟨h5', h4⟩, ?_⟩
      · intro z hz
        rcases List.mem_cons.1 hz with rfl | hz
        · exact h1
        · exact h3 z hz
      · rintro y rfl z hz
        have hyx : Fol y x := (afterL_iff x y).1 h2
        rcases List.mem_cons.1 hz with rfl | hz
        · exact hyx
        · exact hyx.trans (h5' z hz)
    · rintro ⟨h1, h2, h3⟩
      obtain ⟨h4, h5⟩ := List.pairwise_cons.1 h2
      refine ⟨h1 x List.mem_cons_self, ?_, fun z hz => h1 z (List.mem_cons_of_mem _ hz), h5, ?_⟩
      · cases p with
        | none => rfl
        | some y => exact (afterL_iff x y).2 (h3 y rfl x List.mem_cons_self)
      · rintro y e z hz
        cases e
        exact h4 z hz
theorem validL_iff (l : List Ls) : validL l = true ↔ l.length ≤ 64 ∧ okL l := by
  unfold validL okL
  rw [Bool.and_eq_true, decide_eq_true_eq, validFrom_iff]
  exact ⟨fun ⟨a, b, c, _⟩ => ⟨a, b, c⟩, fun ⟨a, b, c⟩ => ⟨a, b, c, fun y e => by cases e⟩⟩
theorem okL.sub {l m : List Ls} (h : okL l) (k : m.Sublist l) : okL m := ⟨fun x hx => h.1 x (k.subset hx), h.2.sublist k⟩
theorem validL_sub {l m : List Ls} (h : validL l = true) (k : m.Sublist l) : validL m = true := by
  rw [validL_iff] at h ⊢
  exact ⟨Nat.le_trans k.length_le h.1, h.2.sub k⟩

/-- The amperes that a lease gives to a charger in a tick. -/
def gv (tick : Int) (x : Ls) (i : Int) : Int := if x.f3 ≤ tick ∧ tick < endL x ∧ x.f1 = i then x.f2 else 0
/-- What is alive. -/
def mv (tick : Int) : List Ls → Int → Int
  | [], _ => 0
  | x :: l, i => max (gv tick x i) (mv tick l i)
theorem gv_nonneg {x : Ls} (h : oneL x = true) (tick i : Int) : 0 ≤ gv tick x i := by
  have := oneL_bounds h
  unfold gv
  split <;> omega
theorem gv_le {x : Ls} (h : oneL x = true) (tick i : Int) : gv tick x i ≤ 80 := by
  have := oneL_bounds h
  unfold gv
  split <;> omega
theorem mv_nonneg {l : List Ls} (tick i : Int) : 0 ≤ mv tick l i := by
  induction l with
  | nil => exact Int.le_refl _
  | cons x l ih => unfold mv; omega
theorem mv_le {l : List Ls} (h : ∀ x ∈ l, oneL x = true) (tick i : Int) : mv tick l i ≤ 80 := by
  induction l with
  | nil => show (0 : Int) ≤ 80; decide
  | cons x l ih =>
    have h1 := gv_le (h x List.mem_cons_self) tick i
    have h2 := ih (fun y hy => h y (List.mem_cons_of_mem _ hy))
    unfold mv; omega
theorem mv_append (tick : Int) (l m : List Ls) (i : Int) : mv tick (l ++ m) i = max (mv tick l i) (mv tick m i) := by
  induction l with
  | nil => have := mv_nonneg (l := m) tick i; show mv tick m i = max 0 _; omega
  | cons x l ih => show max _ (mv tick (l ++ m) i) = max (max _ _) _; rw [ih]; omega
theorem mv_mem {tick : Int} {l : List Ls} {x : Ls} (h : x ∈ l) (i : Int) : gv tick x i ≤ mv tick l i := by
  induction l with
  | nil => cases h
  | cons y l ih =>
    rcases List.mem_cons.1 h with rfl | h
    · unfold mv; omega
    · have := ih h; unfold mv; omega
theorem mv_zero {tick : Int} {l : List Ls} (h : ∀ x ∈ l, endL x ≤ tick) (i : Int) : mv tick l i = 0 := by
  induction l with
  | nil => rfl
  | cons x l ih =>
    have h1 := h x List.mem_cons_self
    unfold mv
    rw [ih (fun y hy => h y (List.mem_cons_of_mem _ hy))]
    unfold gv
    rw [if_neg (by omega)]
    rfl
theorem mv_alive {tick later : Int} (h : tick ≤ later) (l : List Ls) (hl : ∀ x ∈ l, oneL x = true) (i : Int) : mv later (aliveL tick l) i = mv later l i := by
  induction l with
  | nil => rfl
  | cons x l ih =>
    have ih := ih (fun y hy => hl y (List.mem_cons_of_mem _ hy))
    unfold aliveL at ih ⊢
    rw [List.filter_cons]
    split
    · unfold mv; rw [ih]
    · rename_i c
      simp only [decide_eq_true_eq] at c
      have hg : gv later x i = 0 := by unfold gv; rw [if_neg (by omega)]
      rw [ih]
      have := mv_nonneg (l := l) later i
      show _ = max (gv later x i) _
      rw [hg]; omega

/-- The list of what all chargers have. -/
def vec (n : Nat) (f : Int → Int) : List Int := (List.range n).map fun v : Nat => f (v : Int)
theorem vec_length (n : Nat) (f : Int → Int) : (vec n f).length = n := by simp [vec]
theorem vec_rd (n : Nat) (f : Int → Int) (i : Int) (h0 : 0 ≤ i) (h1 : i < n) : rd (vec n f) i = f i := by
  unfold rd vec
  rw [List.getD_eq_getElem?_getD, List.getElem?_map, List.getElem?_range (show i.toNat < n by omega)]
  show f ((i.toNat : Nat) : Int) = f i
  rw [Int.toNat_of_nonneg h0]
theorem vec_set (n : Nat) (f : Int → Int) (i : Int) (h0 : 0 ≤ i) (h1 : i < n) (x : Int) : (vec n f).set i.toNat x = vec n (fun v => if v = i then x else f v) := by
  unfold vec
  apply List.ext_getElem
  · simp
  · intro j h2 h3
    rw [List.getElem_set]
    simp only [List.getElem_map, List.getElem_range]
    by_cases e : i.toNat = j
    · rw [if_pos e, if_pos (by omega)]
    · rw [if_neg e, if_neg (by omega)]
theorem vec_congr (n : Nat) {f g : Int → Int} (h : ∀ v : Nat, v < n → f (v : Int) = g (v : Int)) : vec n f = vec n g := by
  unfold vec
  exact List.map_congr_left (fun v hv => h v (by simpa using hv))
theorem vec_zero (n : Nat) : List.replicate n (0 : Int) = vec n (fun _ => 0) := by
  unfold vec
  apply List.ext_getElem <;> simp

/-- One lease more, as the program and as the reference do it. -/
theorem step_vec {n : Nat} {tick : Int} {x : Ls} (hx : oneL x = true) (hn : x.f1 < n) (f : Int → Int) (hf : ∀ v, 0 ≤ f v) (hal : tick < endL x) : outStep tick (vec n f) x = vec n (fun v => max (f v) (gv tick x v)) := by
  obtain ⟨_, ⟨h1, _⟩, ⟨h2, _⟩, _, _⟩ := oneL_bounds hx
  unfold outStep
  by_cases c : x.f3 ≤ tick
  · rw [if_pos c, vec_rd n f x.f1 h1 hn, vec_set n f x.f1 h1 hn]
    refine vec_congr n (fun v _ => ?_)
    unfold gv
    have := hf (v : Int)
    by_cases e : (v : Int) = x.f1
    · rw [if_pos e, if_pos ⟨c, hal, e.symm⟩, e]
    · rw [if_neg e, if_neg (fun k => e k.2.2.symm)]; omega
  · rw [if_neg c]
    refine vec_congr n (fun v _ => ?_)
    unfold gv
    have := hf (v : Int)
    rw [if_neg (fun k => c k.1)]; omega
theorem fold_vec {n : Nat} {tick : Int} : ∀ (l : List Ls), (∀ x ∈ l, oneL x = true ∧ x.f1 < n) → (∀ x ∈ l, tick < endL x) → ∀ f : Int → Int, (∀ v, 0 ≤ f v) → l.foldl (outStep tick) (vec n f) = vec n (fun v => max (f v) (mv tick l v))
  | [], _, _, f, hf => vec_congr n (fun v _ => by have := hf (v : Int); show _ = max _ 0; omega)
  | x :: l, h, hal, f, hf => by
    have hx := h x List.mem_cons_self
    rw [List.foldl_cons, step_vec hx.1 hx.2 f hf (hal x List.mem_cons_self), fold_vec l (fun y hy => h y (List.mem_cons_of_mem _ hy)) (fun y hy => hal y (List.mem_cons_of_mem _ hy)) _ (fun v => by have := hf v; omega)]
    refine vec_congr n (fun v _ => ?_)
    show _ = max _ (max _ _)
    omega
theorem out_vec {n : Nat} {tick : Int} {l : List Ls} (h : ∀ x ∈ l, oneL x = true ∧ x.f1 < n) : outOf n tick (aliveL tick l) = vec n (mv tick l) := by
  unfold outOf
  rw [vec_zero, fold_vec (aliveL tick l) (fun x hx => h x (List.mem_filter.1 hx).1) (fun x hx => by have := (List.mem_filter.1 hx).2; simpa using this) _ (fun _ => Int.le_refl _)]
  refine vec_congr n (fun v _ => ?_)
  rw [mv_alive (Int.le_refl _) l (fun x hx => (h x hx).1)]
  have := mv_nonneg (l := l) tick v
  omega

/-- Alive, in all. -/
theorem alive_yes {l : List Ls} {ch tick : Int} (hv : validL l = true) (h0 : 0 ≤ ch) (h1 : ch ≤ 16) (hc : ∀ x ∈ l, x.f1 < ch) (ht : 0 ≤ tick ∧ tick ≤ 1100000) : aliveR l ch tick = (vec ch.toNat (mv tick l), 0) := by
  have hok := ((validL_iff l).1 hv).2.1
  have ha : anyFrom ch l = false := by
    unfold anyFrom
    rw [List.any_eq_false]
    intro x hx
    have := hc x hx
    simp; omega
  have hi : inI ch 0 16 = true := by unfold inI; simp; omega
  have hj : inI tick 0 1100000 = true := by unfold inI; simp; omega
  unfold aliveR
  rw [hv, hi, ha, hj]
  show (outOf _ _ _, _) = _
  rw [out_vec (fun x hx => ⟨hok x hx, by have := hc x hx; omega⟩)]
theorem alive_16 {l : List Ls} {tick : Int} (hv : validL l = true) (ht : 0 ≤ tick ∧ tick ≤ 1100000) : aliveR l 16 tick = (vec 16 (mv tick l), 0) :=
  alive_yes hv (by decide) (by decide) (fun x hx => by have := oneL_bounds (((validL_iff l).1 hv).2.1 x hx); omega) ht
theorem alive_bad {l : List Ls} {ch tick : Int} (h : ¬ (0 ≤ tick ∧ tick ≤ 1100000)) : aliveR l ch tick = ([], 1) := by
  have hj : inI tick 0 1100000 = false := by unfold inI; simp; omega
  unfold aliveR
  rw [hj, Bool.and_false, Bool.and_false, Bool.and_false]
  rfl
theorem expire_yes {l : List Ls} {tick : Int} (hv : validL l = true) (ht : 0 ≤ tick ∧ tick ≤ 1100000) : expireL l tick = (aliveL tick l, 0) := by
  have hj : inI tick 0 1100000 = true := by unfold inI; simp; omega
  unfold expireL
  rw [hv, hj]
  rfl
end Go.Proofs.Ytpngiddelhcepaa.LeasePlain
