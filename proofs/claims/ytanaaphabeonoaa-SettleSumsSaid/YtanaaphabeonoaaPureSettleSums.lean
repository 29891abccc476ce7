/-
  For all records and networks for which Net has no error, what all networks get adds up to 0; and without the records whose home is their host, it is the same.
-/
import Derived.Test.YtanaaphabeonoaaPAllx8
import Derived.Test.YtanaaphabeonoaaSettleHead
namespace Go.Proofs.Ytanaaphabeonoaa.Pure
open Go.RowKit Go.Proofs.Ytanaaphabeonoaa.PAll Go.Proofs.Ytanaaphabeonoaa.SettleNet Go.Proofs.Ytanaaphabeonoaa.SettlePlain Go.Proofs.YtanaaphabeonoaaW.PrintWords Go.Proofs.YtanaaphabeonoaaW.PrintLast Go.Proofs.YtanaaphabeonoaaW.PrintMore
set_option linter.unusedSimpArgs false

def away (l : List Rec) : List Rec := l.filter fun r => !(r.f3 == r.f4)

theorem sums_l1 (l : List Rec) (n : Int) (hl : l.length ≤ 64) (a : List Int) (s : Int) (r : Bool)
    (hend : Ev (fun k => (settle_Net.f (away l) n).bind fun bt => if (true : Bool) = true then (if (a.length : Int) = n then (if s = 0 then (if bt.2 = 0 then ((chargeparkref42_Ints.f k a bt.1).bind fun t => some t) else none) else none) else none) else none) r) :
    ∀ d i : Nat, l.length - i = d → i ≤ l.length → Ev (fun k => chargeparklaw42_SettleSums.l1 k l n true a s (away (l.take i)) (i : Int)) r := by
  intro d
  induction d with
  | zero =>
    intro i hd hi
    refine evs ?_
    simp only [chargeparklaw42_SettleSums.l1, if_neg (show ¬ (i : Int) < (l.length : Int) by omega)]
    rw [List.take_of_length_le (by omega)]
    exact hend
  | succ d ih =>
    intro i hd hi
    have hlt : i < l.length := by omega
    refine evs ?_
    simp only [chargeparklaw42_SettleSums.l1, if_pos (show (i : Int) < (l.length : Int) by omega), if_pos (show (0 : Int) ≤ (i : Int) by omega), st_rd l i hlt, st_wrap (x := (i : Int) + 1) (by omega) (by omega)]
    have hlen : (away (l.take i)).length ≤ 64 := by
      unfold away
      have := List.length_filter_le (fun r : Rec => !(r.f3 == r.f4)) (l.take i)
      have := List.length_take_le i l
      omega
    have step := ih (i + 1) (by omega) (by omega)
    rw [take_snoc l i hlt] at step
    by_cases e : (l[i]).f3 = (l[i]).f4
    · simp only [if_pos e]
      have : away (l.take i ++ [l[i]]) = away (l.take i) := by unfold away; rw [List.filter_append]; simp [e]
      rw [this] at step
      exact step
    · simp only [if_neg e, if_pos (show (away (l.take i)).length < 1353245080339 by omega)]
      have : away (l.take i ++ [l[i]]) = away (l.take i) ++ [l[i]] := by unfold away; rw [List.filter_append]; simp [e]
      rw [this] at step
      exact step

theorem sums_l0 (l : List Rec) (n : Int) (a : List Int) (ha : a.length ≤ 1000) (hb : ∀ x ∈ a, -1000000000000 ≤ x ∧ x ≤ 1000000000000) (r : Bool)
    (hend : Ev (fun k => chargeparklaw42_SettleSums.l1 k l n true a a.sum [] 0) r) :
    ∀ d i : Nat, a.length - i = d → i ≤ a.length → Ev (fun k => chargeparklaw42_SettleSums.l0 k l n true a (a.take i).sum (i : Int)) r := by
  intro d
  induction d with
  | zero =>
    intro i hd hi
    refine evs ?_
    simp only [chargeparklaw42_SettleSums.l0, if_neg (show ¬ (i : Int) < (a.length : Int) by omega)]
    rw [List.take_of_length_le (by omega)]
    exact hend
  | succ d ih =>
    intro i hd hi
    have hlt : i < a.length := by omega
    refine evs ?_
    have step := ih (i + 1) (by omega) (by omega)
    have b1 := sum_take_bound (a.take (i + 1)) (fun x hx => hb x (List.mem_of_mem_take hx))
    have b2 : (a.take (i + 1)).length ≤ 1000 := by have := List.length_take_le (i + 1) a; rw [List.length_take]; omega
    have hs : (a.take (i + 1)).sum = (a.take i).sum + a[i] := by rw [take_snoc a i hlt, List.sum_append]; simp
    rw [hs] at b1 step
    simp only [chargeparklaw42_SettleSums.l0, if_pos (show (i : Int) < (a.length : Int) by omega), if_pos (show (0 : Int) ≤ (i : Int) by omega), st_rdi a i hlt, st_wrap (x := (i : Int) + 1) (by omega) (by omega)]
    rw [st_wrap (by omega) (by omega)]
    exact step

theorem SettleSums : chargeparklaw42_SettleSums.Pure := by
  intro l n hm hok hn
  have hw := ok_wf hok
  unfold chargeparklaw42_SettleSums.f
  refine Ev.rounds (Ev.bind st_head ?_)
  by_cases c : (l.length : Int) > 64
  · simp only [if_pos c]; exact Ev.now _
  · simp only [if_neg c, net_is]
    rcases net_some n hw with ⟨hF, e⟩ | ⟨x, hx, e⟩
    · rw [e]
      simp only [Option.bind_some, if_true]
      have hvl : (vec n.toNat (gets l)).length ≤ 1000 := by rw [vec_length]; have := hF.2.2.1; omega
      have := sums_l0 l n (vec n.toNat (gets l)) hvl (vec_bounds hF) true (by
        have hn2 : ((n.toNat : Nat) : Int) = n := by have := hF.2.1; omega
        have hs := sum_gets (n := n.toNat) (l := l) (by rw [hn2]; exact hF.2.2.2.1)
        refine sums_l1 l n hF.1 _ _ true ?_ l.length 0 (by omega) (by omega)
        have hF2 : Fine (away l) n := hF.sub List.filter_sublist
        rw [net_is, net_fine (l := away l) (fun r hr => hw r (List.mem_filter.1 hr).1) hF2]
        have hg : gets (away l) = gets l := by funext v; exact gets_away v l
        simp only [Option.bind_some, if_true, vec_length, if_pos hn2, if_pos hs, hg]
        refine Ev.bind (st_ints _ hvl) ?_
        exact Ev.now _) (vec n.toNat (gets l)).length 0 (by omega) (by omega)
      exact this
    · rw [e]
      simp only [Option.bind_some, if_neg hx, if_true]
      exact Ev.now _
end Go.Proofs.Ytanaaphabeonoaa.Pure
