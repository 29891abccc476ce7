/-
  For any valid leases (up to 100), nothing is alive from 10 + clock.Wait(1000) ticks after the last one was given on, and Expire leaves none (up to 90000 ticks later).
-/
import Derived.Test.YtpngiddelhcepaaPAllx8
import Derived.Test.YtpngiddelhcepaaLeaseRef
namespace Go.Proofs.Ytpngiddelhcepaa.Pure
open Go.RowKit Go.Proofs.Ytpngiddelhcepaa.PAll Go.Proofs.Ytpngiddelhcepaa.LeaseWalk Go.Proofs.Ytpngiddelhcepaa.LeasePlain Go.Proofs.Ytpngiddelhcepaa.LeaseRef Go.Proofs.YtpngiddelhcepaaW.PrintWords Go.Proofs.YtpngiddelhcepaaW.PrintLast Go.Proofs.YtpngiddelhcepaaW.PrintMore
set_option linter.unusedSimpArgs false
set_option linter.unusedVariables false

theorem LeaseEnds : chargeparklaw16_LeaseEnds.Pure := by
  intro l later hm ho hlt
  unfold chargeparklaw16_LeaseEnds.f
  refine Ev.rounds (Ev.bind ref_head ?_)
  have hout : Ev (fun k => chargeparklaw16_LeaseEnds.j0 k l later true true) true := by
    refine evs ?_
    simp only [chargeparklaw16_LeaseEnds.j0, if_true]
    exact Ev.now _
  by_cases c : (l.length : Int) > 100
  · simp only [if_pos c]; exact hout
  · simp only [if_neg c]
    refine Ev.bind (ref_valid l (by omega)) ?_
    cases b : validL l
    · simp only [if_neg (show ¬ (false = true) by decide)]; exact hout
    · simp only [if_true]
      by_cases c1 : (l.length : Int) = 0
      · simp only [if_pos c1]; exact hout
      · by_cases c2 : later < 0
        · simp only [if_neg c1, if_pos c2]; exact hout
        · by_cases c3 : later > 90000
          · simp only [if_neg c1, if_neg c2, decide_eq_true c3]; exact hout
          · simp only [if_neg c1, if_neg c2, decide_eq_false c3]
            obtain ⟨h64, hok, hpw⟩ := (validL_iff l).1 b
            have hj : l.length - 1 < l.length := by omega
            have w1 : wrap64 ((l.length : Int) - 1) = ((l.length - 1 : Nat) : Int) := by rw [lp_wrap (by omega) (by omega)]; omega
            have hx := hok l[l.length - 1] (List.getElem_mem hj)
            obtain ⟨_, _, _, ⟨f1, f2⟩, _⟩ := oneL_bounds hx
            have hW : clock_Wait.f 1000 = some ((1000 * 1000000 + 999799) / 999800, 0) := rfl
            have hend : ∀ y ∈ l, endL y ≤ l[l.length - 1].f3 + 10 + (1000 * 1000000 + 999799) / 999800 + later := by
              intro y hy
              obtain ⟨j, hjl, rfl⟩ := List.getElem_of_mem hy
              have hb := oneL_bounds (hok l[j] (List.getElem_mem hjl))
              have h3 : l[j].f3 ≤ l[l.length - 1].f3 := by
                by_cases e : j = l.length - 1
                · subst e; omega
                · exact (List.pairwise_iff_getElem.1 hpw j (l.length - 1) hjl hj (by omega)).2
              unfold endL waitN
              omega
            have hT : 0 ≤ l[l.length - 1].f3 + 10 + (1000 * 1000000 + 999799) / 999800 + later ∧ l[l.length - 1].f3 + 10 + (1000 * 1000000 + 999799) / 999800 + later ≤ 1100000 := by omega
            refine evs ?_
            simp only [chargeparklaw16_LeaseEnds.j0, if_neg (show ¬ (false = true) by decide)]
            refine evb hW ?_
            simp only [w1, if_pos (show (0 : Int) ≤ ((l.length - 1 : Nat) : Int) by omega), if_pos (show ((l.length - 1 : Nat) : Int) < (l.length : Int) by omega), rd_at l (l.length - 1) hj]
            rw [lp_wrap (x := l[l.length - 1].f3 + 10) (by omega) (by omega), lp_wrap (x := l[l.length - 1].f3 + 10 + (1000 * 1000000 + 999799) / 999800) (by omega) (by omega), lp_wrap (x := l[l.length - 1].f3 + 10 + (1000 * 1000000 + 999799) / 999800 + later) (by omega) (by omega)]
            generalize l[l.length - 1].f3 + 10 + (1000 * 1000000 + 999799) / 999800 + later = T at *
            have hdead : aliveL T l = [] := by
              unfold aliveL
              rw [List.filter_eq_nil_iff]
              intro y hy
              have := hend y hy
              simp; omega
            have hz : vec 16 (mv T l) = List.replicate 16 0 := by rw [vec_zero]; exact vec_congr _ (fun v _ => mv_zero hend v)
            refine evb ((alive_is l 16 T).trans (congrArg some (alive_16 b hT))) (evb ((expire_is l T).trans (congrArg some (expire_yes b hT))) ?_)
            simp only [if_true, hdead, hz, List.length_nil, Int.natCast_zero, if_pos (show (16 : Nat) ≤ 35184372088832 by decide)]
            exact Ev.bind (ref_ints _ (by simp)) (Ev.now _)

end Go.Proofs.Ytpngiddelhcepaa.Pure
