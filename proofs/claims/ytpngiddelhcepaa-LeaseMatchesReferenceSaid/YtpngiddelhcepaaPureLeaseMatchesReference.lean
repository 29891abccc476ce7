/-
  For any leases, valid or not, a further lease and numbers (up to 100 leases), all functions return what the reference implementation returns.
-/
import Derived.Test.YtpngiddelhcepaaPAllx6
import Derived.Test.YtpngiddelhcepaaLeaseRef
namespace Go.Proofs.Ytpngiddelhcepaa.Pure
open Go.RowKit Go.Proofs.Ytpngiddelhcepaa.PAll Go.Proofs.Ytpngiddelhcepaa.LeaseWalk Go.Proofs.Ytpngiddelhcepaa.LeasePlain Go.Proofs.Ytpngiddelhcepaa.LeaseRef Go.Proofs.YtpngiddelhcepaaW.PrintWords Go.Proofs.YtpngiddelhcepaaW.PrintLast Go.Proofs.YtpngiddelhcepaaW.PrintMore
set_option linter.unusedSimpArgs false
set_option linter.unusedVariables false

theorem LeaseMatchesReference : chargeparklaw16_LeaseMatchesReference.Pure := by
  intro l x ch tick hm ho hx hch ht
  unfold chargeparklaw16_LeaseMatchesReference.f
  refine Ev.rounds (Ev.bind ref_head ?_)
  by_cases c : (l.length : Int) > 100
  · simp only [if_pos c]; exact Ev.now _
  · simp only [if_neg c]
    have hl : l.length ≤ 1000 := by omega
    refine evb (grant_is l x) (Ev.bind (ref_grant l x hl) (evb (alive_is l ch tick) (Ev.bind (ref_alive l ch tick hl) (evb (expire_is l tick) (Ev.bind (ref_expire l tick hl) ?_)))))
    simp only [if_true]
    refine evb (valid_is l) (Ev.bind (ref_valid l hl) ?_)
    simp only [beq_self_eq_true, if_true]
    refine Ev.bind (ref_same (grantL l x).1 (by have := grant_len l x; omega)) ?_
    simp only [if_true]
    refine Ev.bind (ref_ints (aliveR l ch tick).1 (by have := alive_len l ch tick; omega)) ?_
    simp only [if_true]
    refine Ev.bind (ref_same (expireL l tick).1 (by have := expire_len l tick; omega)) ?_
    simp only [if_true]
    exact Ev.now _

end Go.Proofs.Ytpngiddelhcepaa.Pure
