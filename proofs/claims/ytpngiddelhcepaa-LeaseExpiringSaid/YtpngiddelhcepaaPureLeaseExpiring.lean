/-
  For any valid leases (up to 100), what is alive in a tick, or in a later one, is the same for those that Expire leaves.
-/
import Derived.Test.YtpngiddelhcepaaPAllx6
import Derived.Test.YtpngiddelhcepaaLeaseRef
namespace Go.Proofs.Ytpngiddelhcepaa.Pure
open Go.RowKit Go.Proofs.Ytpngiddelhcepaa.PAll Go.Proofs.Ytpngiddelhcepaa.LeaseWalk Go.Proofs.Ytpngiddelhcepaa.LeasePlain Go.Proofs.Ytpngiddelhcepaa.LeaseRef Go.Proofs.YtpngiddelhcepaaW.PrintWords Go.Proofs.YtpngiddelhcepaaW.PrintLast Go.Proofs.YtpngiddelhcepaaW.PrintMore
set_option linter.unusedSimpArgs false
set_option linter.unusedVariables false

theorem LeaseExpiring : chargeparklaw16_LeaseExpiring.Pure := by
  intro l tick later hm ho ht hlt
  unfold chargeparklaw16_LeaseExpiring.f
  refine Ev.rounds (Ev.bind ref_head ?_)
  have hout : Ev (fun k => chargeparklaw16_LeaseExpiring.j0 k l tick later true true) true := by
    refine evs ?_
    simp only [chargeparklaw16_LeaseExpiring.j0, if_true]
    exact Ev.now _
  by_cases c : (l.length : Int) > 100
  · simp only [if_pos c]; exact hout
  · simp only [if_neg c]
    refine Ev.bind (ref_valid l (by omega)) ?_
    cases b : validL l
    · simp only [if_neg (show ¬ (false = true) by decide)]; exact hout
    · simp only [if_true]
      by_cases c1 : tick < 0
      · simp only [if_pos c1]; exact hout
      · by_cases c2 : later < tick
        · simp only [if_neg c1, if_pos c2]; exact hout
        · by_cases c3 : later > 1100000
          · simp only [if_neg c1, if_neg c2, decide_eq_true c3]; exact hout
          · simp only [if_neg c1, if_neg c2, decide_eq_false c3]
            have hok := ((validL_iff l).1 b).2.1
            have hs : (aliveL tick l).Sublist l := List.filter_sublist
            have b2 := validL_sub b hs
            have hv : vec 16 (mv later (aliveL tick l)) = vec 16 (mv later l) := vec_congr _ (fun v _ => mv_alive (by omega) l hok v)
            refine evs ?_
            simp only [chargeparklaw16_LeaseExpiring.j0, if_neg (show ¬ (false = true) by decide)]
            refine evb ((expire_is l tick).trans (congrArg some (expire_yes b (by omega)))) (evb ((alive_is l 16 later).trans (congrArg some (alive_16 b (by omega)))) (evb ((alive_is _ 16 later).trans (congrArg some (alive_16 b2 (by omega)))) ?_))
            simp only [if_true, hv, if_pos (show ((aliveL tick l).length : Int) ≤ (l.length : Int) by have := hs.length_le; omega)]
            exact Ev.bind (ref_ints _ (by rw [vec_length]; decide)) (Ev.now _)

end Go.Proofs.Ytpngiddelhcepaa.Pure
