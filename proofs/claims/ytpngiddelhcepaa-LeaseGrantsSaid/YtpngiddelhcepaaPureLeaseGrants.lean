/-
  For any leases and a further one that is granted (up to 100 leases), the leases are valid, the further one is the last one, and nothing is alive that was not alive before, apart from at most its amperes for its charger.
-/
import Derived.Test.YtpngiddelhcepaaPAllx9
import Derived.Test.YtpngiddelhcepaaLeaseRefG
namespace Go.Proofs.Ytpngiddelhcepaa.Pure
open Go.RowKit Go.Proofs.Ytpngiddelhcepaa.PAll Go.Proofs.Ytpngiddelhcepaa.LeaseWalk Go.Proofs.Ytpngiddelhcepaa.LeasePlain Go.Proofs.Ytpngiddelhcepaa.LeaseRefG Go.Proofs.YtpngiddelhcepaaW.PrintWords Go.Proofs.YtpngiddelhcepaaW.PrintLast Go.Proofs.YtpngiddelhcepaaW.PrintMore
set_option linter.unusedSimpArgs false
set_option linter.unusedVariables false

theorem gr_loop (a b : List Int) (c amps : Int) (x0 x3 x4 : Int) (n : Nat) (ha : a.length = n) (hb : b.length = n) (hn : n ≤ 1000) (h : ∀ i (h1 : i < n), a[i]'(by omega) ≤ b[i]'(by omega) ∧ (a[i]'(by omega) < b[i]'(by omega) → (i : Int) = c ∧ b[i]'(by omega) = amps)) :
    ∀ d i : Nat, n - i = d → i ≤ n → Ev (fun k => chargeparklaw16_LeaseGrants.l0 k true a b (n : Int) (i : Int) x0 c amps x3 x4) true := by
  intro d
  induction d with
  | zero =>
    intro i hd hi
    refine evs ?_
    simp only [chargeparklaw16_LeaseGrants.l0, if_neg (show ¬ (i : Int) < (n : Int) by omega)]
    exact Ev.now _
  | succ d ih =>
    intro i hd hi
    have hlt : i < n := by omega
    obtain ⟨h1, h2⟩ := h i hlt
    refine evs ?_
    simp only [chargeparklaw16_LeaseGrants.l0, if_pos (show (i : Int) < (n : Int) by omega), if_pos (show (0 : Int) ≤ (i : Int) by omega), if_pos (show (i : Int) < (b.length : Int) by omega), if_pos (show (i : Int) < (a.length : Int) by omega), rd_int a i (by omega), rd_int b i (by omega), if_neg (show ¬ b[i] < a[i] by omega), lp_wrap (x := (i : Int) + 1) (by omega) (by omega)]
    by_cases e : b[i] > a[i]
    · obtain ⟨e1, e2⟩ := h2 e
      simp only [if_pos e, if_pos e1, if_pos e2]
      exact ih (i + 1) (by omega) (by omega)
    · simp only [if_neg e]
      exact ih (i + 1) (by omega) (by omega)

theorem LeaseGrants : chargeparklaw16_LeaseGrants.Pure := by
  intro l x tick hm ho hx ht
  unfold chargeparklaw16_LeaseGrants.f
  refine Ev.rounds (Ev.bind ref_head (evb (grant_is l x) ?_))
  have hout : ∀ m, Ev (fun k => chargeparklaw16_LeaseGrants.j0 k l tick true m true x.f0 x.f1 x.f2 x.f3 x.f4) true := by
    intro m
    refine evs ?_
    simp only [chargeparklaw16_LeaseGrants.j0, if_true]
    exact Ev.now _
  by_cases c : (l.length : Int) > 100
  · split
    · rw [decide_eq_true c]; exact hout _
    · exact hout _
  · by_cases g : (grantL l x).2 = 0
    · simp only [if_pos g, decide_eq_false c]
      have hb : validL l = true ∧ oneL x = true ∧ (l.length > 0 → afterL x (l.getD (l.length - 1) x) = true) ∧ l.length ≠ 64 := by
        unfold grantL at g
        cases b1 : validL l
        · rw [b1] at g; simp at g
        · cases b2 : oneL x
          · rw [b1, b2] at g; simp at g
          · rw [b1, b2] at g
            refine ⟨rfl, rfl, fun h => ?_, fun h => ?_⟩
            · cases b3 : afterL x (l.getD (l.length - 1) x)
              · rw [b3] at g; simp [h] at g
              · rfl
            · by_cases e : l.length > 0 ∧ afterL x (l.getD (l.length - 1) x) = false
              · rw [Bool.true_and, if_pos rfl, if_pos e] at g; cases g
              · rw [Bool.true_and, if_pos rfl, if_neg e, if_pos h] at g; cases g
      obtain ⟨b1, b2, b3, b4⟩ := hb
      have hg : (grantL l x).1 = l ++ [x] := by
        unfold grantL
        rw [b1, b2, Bool.true_and, if_pos rfl, if_neg (fun h => by have := b3 h.1; rw [h.2] at this; cases this), if_neg b4]
      rw [hg]
      obtain ⟨h64, hok, hpw⟩ := (validL_iff l).1 b1
      have bm : validL (l ++ [x]) = true := by
        rw [validL_iff]
        refine ⟨by rw [List.length_append]; simp; omega, ?_, ?_⟩
        · intro y hy
          rcases List.mem_append.1 hy with hy | hy
          · exact hok y hy
          · obtain rfl : y = x := by simpa using hy
            exact b2
        · rw [List.pairwise_append]
          refine ⟨hpw, by simp, ?_⟩
          intro y hy z hz
          obtain rfl : z = x := by simpa using hz
          obtain ⟨j, hj, rfl⟩ := List.getElem_of_mem hy
          have hj2 : l.length - 1 < l.length := by omega
          have h3 := b3 (by omega)
          rw [List.getD_eq_getElem?_getD, List.getElem?_eq_getElem hj2] at h3
          have h3 := (afterL_iff _ _).1 h3
          by_cases e : j = l.length - 1
          · subst e; exact h3
          · exact (List.pairwise_iff_getElem.1 hpw j (l.length - 1) hj hj2 (by omega)).trans h3
      refine evs ?_
      have hle : (l ++ [x]).length = l.length + 1 := by simp
      have hrd : rd_T24 (l ++ [x]) (l.length : Int) = x := by rw [rd_at _ _ (by omega)]; simp
      simp only [chargeparklaw16_LeaseGrants.j0, if_neg (show ¬ (false = true) by decide), lp_wrap (x := (l.length : Int) + 1) (by omega) (by omega), hle, if_pos (show ((l.length + 1 : Nat) : Int) = (l.length : Int) + 1 by omega), if_pos (show (0 : Int) ≤ (l.length : Int) by omega), if_pos (show (l.length : Int) ≤ ((l.length + 1 : Nat) : Int) by omega), Int.toNat_natCast, List.take_left]
      refine Ev.bind (ref_same l (by omega)) ?_
      simp only [if_true, if_pos (show (l.length : Int) < ((l.length + 1 : Nat) : Int) by omega), hrd, beq_self_eq_true, Bool.not_true, Bool.or_false, if_neg (show ¬ (false = true) by decide)]
      refine evb ((valid_is _).trans (congrArg some bm)) ?_
      simp only [if_true]
      refine evb ((valid_is _).trans (congrArg some b1)) ?_
      refine evs ?_
      simp only [chargeparklaw16_LeaseGrants.j1, Bool.not_true, if_neg (show ¬ (false = true) by decide)]
      by_cases t : 0 ≤ tick ∧ tick ≤ 1100000
      · refine evb ((alive_is l 16 tick).trans (congrArg some (alive_16 b1 t))) (evb ((alive_is _ 16 tick).trans (congrArg some (alive_16 bm t))) ?_)
        simp only [if_true, vec_length, bne_self_eq_false]
        refine evs ?_
        simp only [chargeparklaw16_LeaseGrants.j2, if_neg (show ¬ (false = true) by decide), vec_length]
        refine gr_loop _ _ _ _ _ _ _ 16 (vec_length _ _) (vec_length _ _) (by decide) (fun i h1 => ?_) 16 0 rfl (by decide)
        simp only [vec, List.getElem_map, List.getElem_range, mv_append]
        have h0 := mv_nonneg (l := l) tick (i : Int)
        have h2 : mv tick [x] (i : Int) = max (gv tick x i) 0 := rfl
        rw [h2]
        unfold gv
        by_cases e : x.f3 ≤ tick ∧ tick < endL x ∧ x.f1 = (i : Int)
        · rw [if_pos e]
          have := oneL_bounds b2
          exact ⟨by omega, fun h => ⟨e.2.2.symm, by omega⟩⟩
        · rw [if_neg e]
          exact ⟨by omega, fun h => by omega⟩
      · refine evb ((alive_is l 16 tick).trans (congrArg some (alive_bad t))) (evb ((alive_is _ 16 tick).trans (congrArg some (alive_bad t))) ?_)
        simp only [if_true, bne_self_eq_false]
        refine evs ?_
        simp only [chargeparklaw16_LeaseGrants.j2, if_neg (show ¬ (false = true) by decide), List.length_nil]
        exact gr_loop [] [] _ _ _ _ _ 0 rfl rfl (by decide) (fun i h1 => by omega) 0 0 rfl (by decide)
    · simp only [if_neg g]; exact hout _

end Go.Proofs.Ytpngiddelhcepaa.Pure
