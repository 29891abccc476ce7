/-
  For all records and networks for which Net has no error, the order of the records does not matter; and what the networks get by the first ones and by the others adds up.
-/
import Derived.Test.YtanaaphabeonoaaPAllx9
import Derived.Test.YtanaaphabeonoaaSettleHead
namespace Go.Proofs.Ytanaaphabeonoaa.Pure
open Go.RowKit Go.Proofs.Ytanaaphabeonoaa.PAll Go.Proofs.Ytanaaphabeonoaa.SettleNet Go.Proofs.Ytanaaphabeonoaa.SettlePlain Go.Proofs.YtanaaphabeonoaaW.PrintWords Go.Proofs.YtanaaphabeonoaaW.PrintLast Go.Proofs.YtanaaphabeonoaaW.PrintMore
set_option linter.unusedSimpArgs false

theorem parts_l0 (a b c : List Int) (ha : a.length ≤ 1000) (hb : b.length = a.length) (hc : c.length = a.length) (h : ∀ i (h1 : i < a.length), wrap64 (b[i]'(by omega) + c[i]'(by omega)) = a[i]) :
    ∀ d i : Nat, a.length - i = d → i ≤ a.length → Ev (fun k => chargeparklaw42_SettleParts.l0 k true a b c (i : Int)) true := by
  intro d
  induction d with
  | zero =>
    intro i hd hi
    refine evs ?_
    simp only [chargeparklaw42_SettleParts.l0, if_neg (show ¬ (i : Int) < (a.length : Int) by omega)]
    exact Ev.now _
  | succ d ih =>
    intro i hd hi
    have hlt : i < a.length := by omega
    refine evs ?_
    simp only [chargeparklaw42_SettleParts.l0, if_pos (show (i : Int) < (a.length : Int) by omega), if_true, if_pos (show (0 : Int) ≤ (i : Int) by omega), if_pos (show (i : Int) < (b.length : Int) by omega), if_pos (show (i : Int) < (c.length : Int) by omega),
      st_rdi a i hlt, st_rdi b i (by omega), st_rdi c i (by omega), h i hlt, beq_self_eq_true, st_wrap (x := (i : Int) + 1) (by omega) (by omega)]
    exact ih (i + 1) (by omega) (by omega)

theorem SettleParts : chargeparklaw42_SettleParts.Pure := by
  intro l n at_ hm hok hn hat
  have hw := ok_wf hok
  unfold chargeparklaw42_SettleParts.f
  refine Ev.rounds (Ev.bind st_head ?_)
  have hout : Ev (fun k => chargeparklaw42_SettleParts.j0 k l n at_ true true) true := by
    refine evs ?_
    exact Ev.now _
  by_cases c : (l.length : Int) > 64
  · simp only [if_pos c]; exact hout
  · simp only [if_neg c]
    by_cases c2 : at_ < 0
    · simp only [decide_eq_true c2]; exact hout
    · simp only [decide_eq_false c2]
      refine evs ?_
      have w1 : wrap64 ((l.length : Int) + 1) = ((l.length + 1 : Nat) : Int) := by rw [st_wrap (by omega) (by omega)]; omega
      have h0 := Int.tmod_nonneg ((l.length + 1 : Nat) : Int) (show 0 ≤ at_ by omega)
      have h1 := Int.tmod_lt_of_pos at_ (show (0 : Int) < ((l.length + 1 : Nat) : Int) by omega)
      simp only [chargeparklaw42_SettleParts.j0, if_neg (show ¬ (false = true) by decide), net_is, w1]
      generalize at_.tmod ((l.length + 1 : Nat) : Int) = t at h0 h1
      obtain ⟨k, rfl⟩ := Int.eq_ofNat_of_zero_le h0
      have hk : k ≤ l.length := by omega
      rcases net_some n hw with ⟨hF, e⟩ | ⟨x, hx, e⟩
      · have hT : Fine (l.take k) n := hF.sub (List.take_sublist _ _)
        have hD : Fine (l.drop k) n := hF.sub (List.drop_sublist _ _)
        have hp : l.Perm (l.drop k ++ l.take k) := by
          have := List.perm_append_comm (l₁ := l.take k) (l₂ := l.drop k)
          rwa [List.take_append_drop] at this
        have hP : Fine (l.drop k ++ l.take k) n := hF.perm hp
        have hwT : ∀ r ∈ l.take k, wfR r = true := fun r hr => hw r (List.mem_of_mem_take hr)
        have hwD : ∀ r ∈ l.drop k, wfR r = true := fun r hr => hw r (List.mem_of_mem_drop hr)
        have hwP : ∀ r ∈ l.drop k ++ l.take k, wfR r = true := fun r hr => hw r (hp.mem_iff.2 hr)
        have hg : gets (l.drop k ++ l.take k) = gets l := by funext v; exact (gets_perm hp v).symm
        have hvl : (vec n.toNat (gets l)).length ≤ 1000 := by rw [vec_length]; have := hF.2.2.1; omega
        have hld : (l.drop k).length ≤ 64 := by rw [List.length_drop]; omega
        have hlt : (l.take k).length ≤ 64 := by rw [List.length_take]; omega
        simp only [e, Option.bind_some, if_true, if_neg (show ¬ ((l.length + 1 : Nat) : Int) = 0 by omega), if_pos (show (0 : Int) ≤ (k : Int) by omega), if_pos (show (k : Int) ≤ (l.length : Int) by omega), Int.toNat_natCast, net_fine hwT hT, net_fine hwD hD,
          if_pos (show (0 : Int) ≤ (l.length : Int) by omega), if_pos (show l.length ≤ 2706490160679 by omega), List.length_nil, Nat.zero_add, List.nil_append, if_pos (show (l.drop k).length < 1353245080339 by omega), if_pos (show (l.drop k).length + (l.take k).length < 1353245080339 by omega), net_fine hwP hP, vec_length, hg]
        refine Ev.bind (st_ints _ hvl) ?_
        refine evs ?_
        simp only [chargeparklaw42_SettleParts.j1, Bool.not_true, if_neg (show ¬ (false = true) by decide)]
        refine parts_l0 _ _ _ hvl (by rw [vec_length, vec_length]) (by rw [vec_length, vec_length]) (fun i hi => ?_) _ 0 rfl (Nat.zero_le _)
        have hs : gets l = fun v => gets (l.take k) v + gets (l.drop k) v := by
          funext v; rw [← gets_append, List.take_append_drop]
        have b1 := gets_bound hT.2.2.2.1 (i : Int)
        have b2 := gets_bound hD.2.2.2.1 (i : Int)
        simp only [vec, List.getElem_map, List.getElem_range, hs]
        exact st_wrap (by omega) (by omega)
      · simp only [e, Option.bind_some, if_neg hx]
        exact Ev.now _
end Go.Proofs.Ytanaaphabeonoaa.Pure
