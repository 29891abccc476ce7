/-
  For any valid leases (up to 100), each of which arrives up to 10 ticks late, or never, and any drift of the clocks of their chargers: in every tick, each lease that has arrived, and of whose ticks the charger's clock has not counted all, has at most the amperes that Alive says.
-/
import Derived.Test.YtpngiddelhcepaaPAllx9
import Derived.Test.YtpngiddelhcepaaLeaseRefA
namespace Go.Proofs.Ytpngiddelhcepaa.Pure
open Go.RowKit Go.Proofs.Ytpngiddelhcepaa.PAll Go.Proofs.Ytpngiddelhcepaa.LeaseWalk Go.Proofs.Ytpngiddelhcepaa.LeasePlain Go.Proofs.Ytpngiddelhcepaa.LeaseRef Go.Proofs.YtpngiddelhcepaaW.PrintWords Go.Proofs.YtpngiddelhcepaaW.PrintLast Go.Proofs.YtpngiddelhcepaaW.PrintMore
set_option linter.unusedSimpArgs false
set_option linter.unusedVariables false

theorem shown_is (t d : Int) (h0 : 0 ≤ t) (h1 : t ≤ 1000000) (d0 : -200 ≤ d) (d1 : d ≤ 200) : clock_Shown.f t d = some (t * (1000000 + d) / 1000000, 0) := by
  have hm : 0 ≤ t * (1000000 + d) := Int.mul_nonneg h0 (by omega)
  have hm2 : t * (1000000 + d) ≤ 1000000 * 2000000 := by
    calc t * (1000000 + d) ≤ 1000000 * (1000000 + d) := Int.mul_le_mul_of_nonneg_right h1 (by omega)
      _ ≤ 1000000 * 2000000 := by omega
  unfold clock_Shown.f clock_isTicks_int.f clock_rate_down.f
  rw [if_pos (show t ≥ 0 by omega), decide_eq_true h1]
  simp only [Option.bind_some, if_true]
  rw [if_neg (show ¬ d < -200 by omega), if_neg (show ¬ d > 200 by omega), lp_wrap (x := 1000000 + d) (by omega) (by omega)]
  rw [lp_wrap (x := t * (1000000 + d)) (by omega) (by omega), Int.tdiv_eq_ediv_of_nonneg hm, lp_wrap (by omega) (by omega)]

theorem tr_still {x : Ls} (hx : oneL x = true) (late tick drift : Int) (l0 : 0 ≤ late) (l1 : late ≤ 10) (h : x.f3 + late ≤ tick) (d0 : -200 ≤ drift) (d1 : drift ≤ 200) (hc : (tick - (x.f3 + late)) * (1000000 + drift) / 1000000 < x.f4) : tick < endL x := by
  unfold endL waitN
  by_cases e : tick < x.f3 + 10 + (x.f4 * 1000000 + 999799) / 999800
  · exact e
  · exfalso
    have hb := oneL_bounds hx
    have hw : (x.f4 * 1000000 + 999799) / 999800 ≤ tick - (x.f3 + late) := by omega
    have h1 : x.f4 * 1000000 ≤ (tick - (x.f3 + late)) * 999800 := by omega
    have h2 : (tick - (x.f3 + late)) * 999800 ≤ (tick - (x.f3 + late)) * (1000000 + drift) := Int.mul_le_mul_of_nonneg_left (by omega) (by omega)
    omega

theorem LeaseTruth : chargeparklaw16_LeaseTruth.Pure := by
  intro l late drift tick hm ho hm2 hr hw hd ht
  unfold chargeparklaw16_LeaseTruth.f
  refine Ev.rounds (Ev.bind ref_head ?_)
  have hout : Ev (fun k => chargeparklaw16_LeaseTruth.j0 k l late drift tick true true) true := by
    refine evs ?_
    simp only [chargeparklaw16_LeaseTruth.j0, if_true]
    exact Ev.now _
  by_cases c : (l.length : Int) > 100
  · simp only [if_pos c]; exact hout
  · simp only [if_neg c]
    refine Ev.bind (ref_valid l (by omega)) ?_
    cases b : validL l
    · simp only [if_neg (show ¬ (false = true) by decide)]; exact hout
    · simp only [if_true]
      by_cases c1 : (late.length : Int) < (l.length : Int)
      · simp only [if_pos c1]; exact hout
      · by_cases c2 : tick < 0
        · simp only [if_neg c1, if_pos c2]; exact hout
        · by_cases c3 : tick > 1100000
          · simp only [if_neg c1, if_neg c2, if_pos c3]; exact hout
          · by_cases c4 : drift < -200
            · simp only [if_neg c1, if_neg c2, if_neg c3, if_pos c4]; exact hout
            · by_cases c5 : drift > 200
              · simp only [if_neg c1, if_neg c2, if_neg c3, if_neg c4, decide_eq_true c5]; exact hout
              · simp only [if_neg c1, if_neg c2, if_neg c3, if_neg c4, decide_eq_false c5]
                obtain ⟨h64, hok, hpw⟩ := (validL_iff l).1 b
                refine evs ?_
                simp only [chargeparklaw16_LeaseTruth.j0, if_neg (show ¬ (false = true) by decide)]
                refine evb ((alive_is l 16 tick).trans (congrArg some (alive_16 b (by omega)))) ?_
                simp only [if_true, vec_length, show ((16 : Nat) : Int) = 16 from rfl, bne_self_eq_false]
                refine evs ?_
                simp only [chargeparklaw16_LeaseTruth.j1, if_neg (show ¬ (false = true) by decide)]
                suffices H : ∀ d i : Nat, l.length - i = d → i ≤ l.length → Ev (fun k => chargeparklaw16_LeaseTruth.l0 k late drift tick true (vec 16 (mv tick l)) l (l.length : Int) (i : Int)) true from H l.length 0 (by omega) (by omega)
                intro d
                induction d with
                | zero =>
                  intro i hd hi
                  refine evs ?_
                  simp only [chargeparklaw16_LeaseTruth.l0, if_neg (show ¬ (i : Int) < (l.length : Int) by omega)]
                  exact Ev.now _
                | succ d ih =>
                  intro i hd hi
                  have hlt : i < l.length := by omega
                  have hll : i < late.length := by omega
                  have hx := hok l[i] (List.getElem_mem hlt)
                  have hb := oneL_bounds hx
                  have hu := hw late[i] (List.getElem_mem hll)
                  have hu : 0 ≤ late[i] ∧ late[i] < 256 := by
                    simp [Lit.wf] at hu
                    have e1_ : IntKind.u8.min = 0 := rfl
                    have e2_ : IntKind.u8.max = 255 := rfl
                    omega
                  have ih := ih (i + 1) (by omega) (by omega)
                  rw [show ((i + 1 : Nat) : Int) = (i : Int) + 1 from rfl] at ih
                  have hmem := mv_mem (tick := tick) (List.getElem_mem hlt) l[i].f1
                  have hskip : Ev (fun k => chargeparklaw16_LeaseTruth.j3 k late drift tick true (vec 16 (mv tick l)) (l[i].f3 + late[i]) l (l.length : Int) (i : Int) true l[i].f0 l[i].f1 l[i].f2 l[i].f3 l[i].f4) true := by
                    refine evs ?_
                    simp only [chargeparklaw16_LeaseTruth.j3, if_true, lp_wrap (x := (i : Int) + 1) (by omega) (by omega)]
                    exact ih
                  refine evs ?_
                  simp only [chargeparklaw16_LeaseTruth.l0, if_pos (show (i : Int) < (l.length : Int) by omega), if_pos (show (0 : Int) ≤ (i : Int) by omega), if_pos (show (i : Int) < (late.length : Int) by omega), rd_at l i hlt, rd_int late i hll]
                  rw [lp_wrap (x := late[i]) (by omega) (by omega), lp_wrap (x := l[i].f3 + late[i]) (by omega) (by omega)]
                  by_cases e1 : late[i] > 10
                  · simp only [if_pos e1]; exact hskip
                  · by_cases e2 : tick < l[i].f3 + late[i]
                    · simp only [if_neg e1, if_pos e2]; exact hskip
                    · simp only [if_neg e1, if_neg e2]
                      rw [lp_wrap (x := tick - (l[i].f3 + late[i])) (by omega) (by omega)]
                      by_cases e3 : tick - (l[i].f3 + late[i]) > 1000000
                      · rw [decide_eq_true e3]; exact hskip
                      · rw [decide_eq_false e3]
                        refine evs ?_
                        simp only [chargeparklaw16_LeaseTruth.j3, if_neg (show ¬ (false = true) by decide), lp_wrap (x := tick - (l[i].f3 + late[i])) (by omega) (by omega), lp_wrap (x := (i : Int) + 1) (by omega) (by omega)]
                        refine evb (shown_is _ drift (by omega) (by omega) (by omega) (by omega)) ?_
                        simp only [if_true]
                        by_cases e4 : (tick - (l[i].f3 + late[i])) * (1000000 + drift) / 1000000 < l[i].f4
                        · have hal := tr_still hx late[i] tick drift (by omega) (by omega) (by omega) (by omega) (by omega) e4
                          have hgv : gv tick l[i] l[i].f1 = l[i].f2 := by unfold gv; rw [if_pos ⟨by omega, hal, rfl⟩]
                          rw [hgv] at hmem
                          simp only [if_pos e4, if_pos (show (0 : Int) ≤ l[i].f1 by omega), vec_length, if_pos (show l[i].f1 < ((16 : Nat) : Int) by omega), vec_rd 16 (mv tick l) l[i].f1 (by omega) (by omega), if_neg (show ¬ l[i].f2 > mv tick l l[i].f1 by omega)]
                          exact ih
                        · simp only [if_neg e4]
                          exact ih

end Go.Proofs.Ytpngiddelhcepaa.Pure
