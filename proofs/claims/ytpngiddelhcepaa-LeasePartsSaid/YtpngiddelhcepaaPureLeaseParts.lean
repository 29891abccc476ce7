/-
  For any valid leases (up to 100), what is alive is, for each charger, the greater one of what is alive of the first of them, and of the others.
-/
import Derived.Test.YtpngiddelhcepaaPAllx8
import Derived.Test.YtpngiddelhcepaaLeaseRef
namespace Go.Proofs.Ytpngiddelhcepaa.Pure
open Go.RowKit Go.Proofs.Ytpngiddelhcepaa.PAll Go.Proofs.Ytpngiddelhcepaa.LeaseWalk Go.Proofs.Ytpngiddelhcepaa.LeasePlain Go.Proofs.Ytpngiddelhcepaa.LeaseRef Go.Proofs.YtpngiddelhcepaaW.PrintWords Go.Proofs.YtpngiddelhcepaaW.PrintLast Go.Proofs.YtpngiddelhcepaaW.PrintMore
set_option linter.unusedSimpArgs false
set_option linter.unusedVariables false

theorem pa_loop (a b c : List Int) (n : Nat) (ha : a.length = n) (hb : b.length = n) (hc : c.length = n) (hn : n ≤ 1000) (h : ∀ i (h1 : i < n), a[i]'(by omega) = max (b[i]'(by omega)) (c[i]'(by omega))) :
    ∀ d i : Nat, n - i = d → i ≤ n → Ev (fun k => chargeparklaw16_LeaseParts.l0 k true a b c (n : Int) (i : Int)) true := by
  intro d
  induction d with
  | zero =>
    intro i hd hi
    refine evs ?_
    simp only [chargeparklaw16_LeaseParts.l0, if_neg (show ¬ (i : Int) < (n : Int) by omega)]
    exact Ev.now _
  | succ d ih =>
    intro i hd hi
    have hlt : i < n := by omega
    have h1 := h i hlt
    have hmx : mx b[i] c[i] = max b[i] c[i] := by unfold mx; omega
    refine evs ?_
    simp only [chargeparklaw16_LeaseParts.l0, if_pos (show (i : Int) < (n : Int) by omega), if_pos (show (0 : Int) ≤ (i : Int) by omega), if_pos (show (i : Int) < (a.length : Int) by omega), if_pos (show (i : Int) < (b.length : Int) by omega), if_pos (show (i : Int) < (c.length : Int) by omega), rd_int a i (by omega), rd_int b i (by omega), rd_int c i (by omega), hmx, h1, lp_wrap (x := (i : Int) + 1) (by omega) (by omega), if_true]
    exact ih (i + 1) (by omega) (by omega)

theorem LeaseParts : chargeparklaw16_LeaseParts.Pure := by
  intro l a tick hm ho ha ht
  unfold chargeparklaw16_LeaseParts.f
  refine Ev.rounds (Ev.bind ref_head ?_)
  have hout : Ev (fun k => chargeparklaw16_LeaseParts.j0 k l a tick true true) true := by
    refine evs ?_
    simp only [chargeparklaw16_LeaseParts.j0, if_true]
    exact Ev.now _
  by_cases c : (l.length : Int) > 100
  · simp only [if_pos c]; exact hout
  · simp only [if_neg c]
    refine Ev.bind (ref_valid l (by omega)) ?_
    cases b : validL l
    · exact hout
    · have hu : 0 ≤ a ∧ a < 256 := by
        have := ha
        simp [Lit.wf] at this
        have e1_ : IntKind.u8.min = 0 := rfl
        have e2_ : IntKind.u8.max = 255 := rfl
        omega
      have w1 : wrap64 ((l.length : Int) + 1) = ((l.length + 1 : Nat) : Int) := by rw [lp_wrap (by omega) (by omega)]; omega
      have w2 : wrap64 a = a := lp_wrap (by omega) (by omega)
      have h0 := Int.tmod_nonneg ((l.length + 1 : Nat) : Int) (show 0 ≤ a by omega)
      have h1 := Int.tmod_lt_of_pos a (show (0 : Int) < ((l.length + 1 : Nat) : Int) by omega)
      refine evs ?_
      simp only [chargeparklaw16_LeaseParts.j0, Bool.not_true, if_neg (show ¬ (false = true) by decide), w1, w2, if_neg (show ¬ ((l.length + 1 : Nat) : Int) = 0 by omega)]
      generalize a.tmod ((l.length + 1 : Nat) : Int) = t at h0 h1
      obtain ⟨n, rfl⟩ := Int.eq_ofNat_of_zero_le h0
      have hn : n ≤ l.length := by omega
      have b1 := validL_sub b (List.take_sublist n l)
      have b2 := validL_sub b (List.drop_sublist n l)
      by_cases t : 0 ≤ tick ∧ tick ≤ 1100000
      · refine evb ((alive_is l 16 tick).trans (congrArg some (alive_16 b t))) ?_
        simp only [if_pos (show (0 : Int) ≤ (n : Int) by omega), if_pos (show (n : Int) ≤ (l.length : Int) by omega), Int.toNat_natCast]
        refine evb ((alive_is _ 16 tick).trans (congrArg some (alive_16 b1 t))) (evb ((alive_is _ 16 tick).trans (congrArg some (alive_16 b2 t))) ?_)
        simp only [if_true, vec_length, bne_self_eq_false]
        refine evs ?_
        simp only [chargeparklaw16_LeaseParts.j1, if_neg (show ¬ (false = true) by decide), vec_length]
        refine pa_loop _ _ _ 16 (vec_length _ _) (vec_length _ _) (vec_length _ _) (by decide) (fun i h1 => ?_) 16 0 rfl (by decide)
        simp only [vec, List.getElem_map, List.getElem_range]
        rw [← mv_append, List.take_append_drop]
      · refine evb ((alive_is l 16 tick).trans (congrArg some (alive_bad t))) ?_
        simp only [if_pos (show (0 : Int) ≤ (n : Int) by omega), if_pos (show (n : Int) ≤ (l.length : Int) by omega), Int.toNat_natCast]
        refine evb ((alive_is _ 16 tick).trans (congrArg some (alive_bad t))) (evb ((alive_is _ 16 tick).trans (congrArg some (alive_bad t))) ?_)
        simp only [if_true, bne_self_eq_false]
        refine evs ?_
        simp only [chargeparklaw16_LeaseParts.j1, if_neg (show ¬ (false = true) by decide), List.length_nil]
        exact pa_loop [] [] [] 0 rfl rfl rfl (by decide) (fun i h1 => by omega) 0 0 rfl (by decide)

end Go.Proofs.Ytpngiddelhcepaa.Pure
