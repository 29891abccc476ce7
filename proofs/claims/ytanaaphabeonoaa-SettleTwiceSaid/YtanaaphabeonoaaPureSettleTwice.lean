/-
  For all records that can be settled, with a further record with the host and the session of one of them Net returns ErrTwice, and without it what it returned before.
-/
import Derived.Test.YtanaaphabeonoaaPAllx10
import Derived.Test.YtanaaphabeonoaaSettleHead
namespace Go.Proofs.Ytanaaphabeonoaa.Pure
open Go.RowKit Go.Proofs.Ytanaaphabeonoaa.PAll Go.Proofs.Ytanaaphabeonoaa.SettleNet Go.Proofs.Ytanaaphabeonoaa.SettlePlain Go.Proofs.YtanaaphabeonoaaW.PrintWords Go.Proofs.YtanaaphabeonoaaW.PrintLast Go.Proofs.YtanaaphabeonoaaW.PrintMore
set_option linter.unusedSimpArgs false

/-- The further record. -/
def further (session home host amount : Int) : Rec := ⟨session, 0, 0, home, host, 0, 0, 0, amount, ⟨0, 0, 0, 0⟩⟩
theorem record_is (session home host amount : Int) : chargeparklaw42_record.f session home host amount = some (session, 0, 0, home, host, 0, 0, 0, amount, 0, 0, 0, 0) := rfl

theorem settles_is (session home host amount n : Int) : chargeparkref42_Settles.f session 0 0 home host 0 0 0 amount 0 0 0 0 n = some (decide (SettlePlain.Good n (further session home host amount))) := by
  unfold chargeparkref42_Settles.f
  by_cases g : SettlePlain.Good n (further session home host amount)
  · rw [decide_eq_true g]
    unfold SettlePlain.Good further at g
    simp only at g
    rw [if_pos g.1, if_pos g.2.1, if_pos g.2.2.1, if_pos g.2.2.2.1, if_pos g.2.2.2.2.1, decide_eq_true g.2.2.2.2.2]
  · rw [decide_eq_false g]
    repeat' split
    all_goals first
      | rfl
      | (congr 1; apply decide_eq_false; intro h; apply g; unfold SettlePlain.Good further; simp only; omega)

theorem SettleTwice : chargeparklaw42_SettleTwice.Pure := by
  intro l n which home amount hm hok hn hwh hho ham
  have hw := ok_wf hok
  unfold chargeparklaw42_SettleTwice.f
  refine Ev.rounds (Ev.bind st_head ?_)
  have hout : Ev (fun k => chargeparklaw42_SettleTwice.j0 k l n which home amount true true) true := by
    refine evs ?_
    exact Ev.now _
  by_cases c : (l.length : Int) = 0
  · simp only [if_pos c]; exact hout
  · simp only [if_neg c]
    by_cases c1 : (l.length : Int) > 63
    · simp only [if_pos c1]; exact hout
    · simp only [if_neg c1]
      by_cases c2 : which < 0
      · simp only [decide_eq_true c2]; exact hout
      · simp only [decide_eq_false c2]
        refine evs ?_
        have h0 := Int.tmod_nonneg (l.length : Int) (show 0 ≤ which by omega)
        have h1 := Int.tmod_lt_of_pos which (show (0 : Int) < (l.length : Int) by omega)
        simp only [chargeparklaw42_SettleTwice.j0, if_neg (show ¬ (false = true) by decide), net_is, if_neg c]
        generalize which.tmod (l.length : Int) = t at h0 h1
        obtain ⟨i, rfl⟩ := Int.eq_ofNat_of_zero_le h0
        have hi : i < l.length := by omega
        simp only [if_pos (show (0 : Int) ≤ (i : Int) by omega), if_pos (show (i : Int) < (l.length : Int) by omega), st_rd l i hi, record_is, Option.bind_some, settles_is]
        have hend : ∀ a x0 x1 x2 x3 x4 x5 x6 x7 x8 x9 x10 x11 x12, Ev (fun k => chargeparklaw42_SettleTwice.j1 k l n true a true x0 x1 x2 x3 x4 x5 x6 x7 x8 x9 x10 x11 x12) true := by
          intros
          refine evs ?_
          exact Ev.now _
        rcases net_some n hw with ⟨hF, e⟩ | ⟨x, hx, e⟩
        · simp only [e, Option.bind_some, if_true]
          by_cases hg : SettlePlain.Good n (further (l[i]).f0 home (l[i]).f4 amount)
          · rw [decide_eq_true hg]
            refine evs ?_
            have hvl : (vec n.toNat (gets l)).length ≤ 1000 := by rw [vec_length]; have := hF.2.2.1; omega
            have hmem : l[i] ∈ l := List.getElem_mem hi
            have hwm : ∀ r ∈ l ++ [further (l[i]).f0 home (l[i]).f4 amount], wfR r = true := by
              intro r hr
              rcases List.mem_append.1 hr with h | h
              · exact hw r h
              · obtain rfl : r = _ := by simpa using h
                have := hw _ hmem
                unfold wfR at this ⊢
                exact this
            have ht : netF (l ++ [further (l[i]).f0 home (l[i]).f4 amount]) n = some ([], 5) := by
              refine net_twice hwm (by simp; omega) hF.2.1 hF.2.2.1 (fun r hr => ?_) (fun hd => ?_)
              · rcases List.mem_append.1 hr with h | h
                · exact hF.2.2.2.1 r h
                · obtain rfl : r = _ := by simpa using h
                  exact hg
              · rw [List.map_append, List.nodup_append] at hd
                exact hd.2.2 (nm (l[i])) (List.mem_map_of_mem hmem) (nm (l[i])) (by simp [nm, further]) rfl
            have hml : (l ++ [further (l[i]).f0 home (l[i]).f4 amount]).take l.length = l := List.take_left
            have hfe : (⟨(l[i]).f0, 0, 0, home, (l[i]).f4, 0, 0, 0, amount, ⟨0, 0, 0, 0⟩⟩ : Rec) = further (l[i]).f0 home (l[i]).f4 amount := rfl
            simp only [chargeparklaw42_SettleTwice.j1, Bool.not_true, if_neg (show ¬ (false = true) by decide), if_pos (show 64 ≤ 2706490160679 by decide), Option.bind_some, List.length_nil, Nat.zero_add, List.nil_append, if_pos (show l.length < 1353245080339 by omega), List.length_singleton, if_pos (show l.length + 1 < 1353245080339 by omega), hfe, net_is, ht,
              if_pos (show (0 : Int) ≤ (l.length : Int) by omega), if_pos (show (l.length : Int) ≤ ((l ++ [further (l[i]).f0 home (l[i]).f4 amount]).length : Int) by rw [List.length_append, List.length_singleton]; omega), Int.toNat_natCast, hml, e, if_true, if_pos (show (((0 : Nat) : Int) = 0) by rfl)]
            refine Ev.bind (st_ints _ hvl) ?_
            exact Ev.now _
          · rw [decide_eq_false hg]
            exact hend _ _ _ _ _ _ _ _ _ _ _ _ _ _
        · simp only [e, Option.bind_some, if_neg hx]
          exact hend _ _ _ _ _ _ _ _ _ _ _ _ _ _
end Go.Proofs.Ytanaaphabeonoaa.Pure
