/-
  For all records, networks, balances and readings (up to 100 of each), the functions return what the reference implementation returns.
-/
import Derived.Test.YtanaaphabeonoaaPAllx7
import Derived.Test.YtanaaphabeonoaaPureSettlePayments
namespace Go.Proofs.Ytanaaphabeonoaa.Pure
open Go.RowKit Go.Proofs.Ytanaaphabeonoaa.PAll Go.Proofs.Ytanaaphabeonoaa.SettleNet Go.Proofs.Ytanaaphabeonoaa.SettlePay Go.Proofs.Ytanaaphabeonoaa.SettlePlain Go.Proofs.YtanaaphabeonoaaW.PrintWords Go.Proofs.YtanaaphabeonoaaW.PrintLast Go.Proofs.YtanaaphabeonoaaW.PrintMore
set_option linter.unusedSimpArgs false
set_option linter.unusedVariables false

/-! Net -/
theorem mr_settles (r : Rec) (n : Int) : chargeparkref42_Settles.f r.f0 r.f1 r.f2 r.f3 r.f4 r.f5 r.f6 r.f7 r.f8 r.f9.f0 r.f9.f1 r.f9.f2 r.f9.f3 n = some (decide (SettlePlain.Good n r)) := by
  unfold chargeparkref42_Settles.f
  by_cases g : SettlePlain.Good n r
  · rw [decide_eq_true g]
    unfold SettlePlain.Good at g
    rw [if_pos g.1, if_pos g.2.1, if_pos g.2.2.1, if_pos g.2.2.2.1, if_pos g.2.2.2.2.1, decide_eq_true g.2.2.2.2.2]
  · rw [decide_eq_false g]
    repeat' split
    all_goals first
      | rfl
      | (congr 1; apply decide_eq_false; intro h; apply g; unfold SettlePlain.Good; omega)

theorem mr_twice_l (l : List Rec) (hl : l.length ≤ 64) : ∀ d i : Nat, l.length - i = d → i ≤ l.length → ((l.take i).map nm).Nodup → Ev (fun k => chargeparkref42_Twice.l0 k l (i : Int)) (!decide ((l.map nm).Nodup)) := by
  intro d
  induction d with
  | zero =>
    intro i hd hi hn
    rw [List.take_of_length_le (by omega)] at hn
    refine evs ?_
    simp only [chargeparkref42_Twice.l0, if_neg (show ¬ (i : Int) < (l.length : Int) by omega)]
    rw [decide_eq_true hn]
    exact Ev.now _
  | succ d ih =>
    intro i hd hi hn
    have hlt : i < l.length := by omega
    have inner : ∀ e j : Nat, i - j = e → j ≤ i → (∀ q (h : q < j) (hq : q < l.length), nm l[q] ≠ nm l[i]) → Ev (fun k => chargeparkref42_Twice.l1 k l (i : Int) (j : Int)) (!decide ((l.map nm).Nodup)) := by
      intro e
      induction e with
      | zero =>
        intro j he hj hq
        obtain rfl : j = i := by omega
        refine evs ?_
        simp only [chargeparkref42_Twice.l1, if_neg (Int.lt_irrefl _), st_wrap (x := (j : Int) + 1) (by omega) (by omega)]
        refine ih (j + 1) (by omega) (by omega) ?_
        rw [take_snoc l j hlt, List.map_append, List.nodup_append]
        refine ⟨hn, by simp, fun a ha b hb => ?_⟩
        obtain ⟨r, hr, rfl⟩ := List.mem_map.1 ha
        obtain ⟨q, hq2, rfl⟩ := List.getElem_of_mem hr
        rw [List.length_take] at hq2
        simp only [List.map_cons, List.map_nil, List.mem_singleton] at hb
        subst hb
        rw [List.getElem_take]
        exact hq q (by omega) (by omega)
      | succ e ihe =>
        intro j he hj hq
        have hji : j < i := by omega
        have hjl : j < l.length := by omega
        refine evs ?_
        simp only [chargeparkref42_Twice.l1, if_pos (show (j : Int) < (i : Int) by omega), if_pos (show (0 : Int) ≤ (i : Int) by omega), if_pos (show (i : Int) < (l.length : Int) by omega), if_pos (show (0 : Int) ≤ (j : Int) by omega), if_pos (show (j : Int) < (l.length : Int) by omega), st_rd l i hlt, st_rd l j hjl, st_wrap (x := (j : Int) + 1) (by omega) (by omega)]
        have step : nm l[j] ≠ nm l[i] → Ev (fun k => chargeparkref42_Twice.l1 k l (i : Int) ((j : Int) + 1)) (!decide ((l.map nm).Nodup)) := fun hne =>
          ihe (j + 1) (by omega) (by omega) (fun q hq2 hq3 => by
            by_cases c : q = j
            · subst c; exact hne
            · exact hq q (by omega) hq3)
        by_cases c1 : (l[i]).f4 = (l[j]).f4
        · simp only [if_pos c1]
          by_cases c2 : (l[i]).f0 = (l[j]).f0
          · simp only [if_pos c2]
            have : ¬ (l.map nm).Nodup := by
              intro hd2
              have h1 : (l.map nm)[j]'(by simpa using hjl) = (l.map nm)[i]'(by simpa using hlt) := by
                simp only [List.getElem_map, nm, c1, c2]
              have := (List.getElem_inj hd2).1 h1
              omega
            rw [decide_eq_false this]
            exact Ev.now _
          · simp only [if_neg c2]
            exact step (by unfold nm; intro h; exact c2 (Prod.mk.inj h).2.symm)
        · simp only [if_neg c1]
          exact step (by unfold nm; intro h; exact c1 (Prod.mk.inj h).1.symm)
    refine evs ?_
    simp only [chargeparkref42_Twice.l0, if_pos (show (i : Int) < (l.length : Int) by omega)]
    exact inner i 0 (by omega) (by omega) (fun q hq _ => by omega)
theorem mr_twice (l : List Rec) (hl : l.length ≤ 64) : Ev (fun k => chargeparkref42_Twice.f k l) (!decide ((l.map nm).Nodup)) := by
  unfold chargeparkref42_Twice.f
  exact mr_twice_l l hl l.length 0 (by omega) (by omega) (by simp)

theorem mr_gets (l : List Rec) (n : Int) (hl : l.length ≤ 64) (hg : ∀ r ∈ l, SettlePlain.Good n r) (v : Int) : Ev (fun k => chargeparkref42_Gets.f k l v) (gets l v) := by
  suffices H : ∀ d i : Nat, l.length - i = d → i ≤ l.length → Ev (fun k => chargeparkref42_Gets.l0 k l v (gets (l.take i) v) (i : Int)) (gets l v) by
    unfold chargeparkref42_Gets.f
    exact H l.length 0 (by omega) (by omega)
  intro d
  induction d with
  | zero =>
    intro i hd hi
    refine evs ?_
    simp only [chargeparkref42_Gets.l0, if_neg (show ¬ (i : Int) < (l.length : Int) by omega)]
    rw [List.take_of_length_le (by omega)]
    exact Ev.now _
  | succ d ih =>
    intro i hd hi
    have hlt : i < l.length := by omega
    have hgt := gets_bound (l := l.take i) (n := n) (fun r hr => hg r (List.mem_of_mem_take hr)) v
    have hlen : ((l.take i).length : Int) ≤ 64 := by rw [List.length_take]; omega
    have hr := hg _ (List.getElem_mem hlt)
    have step := ih (i + 1) (by omega) (by omega)
    rw [take_snoc l i hlt, gets_append, gets_cons, gets_nil, Int.add_zero] at step
    obtain ⟨g1, g2, g3, g4, g5, g6⟩ := hr
    refine evs ?_
    simp only [chargeparkref42_Gets.l0, if_pos (show (i : Int) < (l.length : Int) by omega), if_pos (show (0 : Int) ≤ (i : Int) by omega), st_rd l i hlt, st_wrap (x := (i : Int) + 1) (by omega) (by omega)]
    unfold give at step
    by_cases c4 : (l[i]).f4 = v
    · simp only [if_pos c4] at step ⊢
      by_cases c3 : (l[i]).f3 = v
      · simp only [if_pos c3] at step ⊢
        rw [st_wrap (x := gets (l.take i) v + (l[i]).f8) (by omega) (by omega), st_wrap (by omega) (by omega)]
        exact (show gets (l.take i) v + ((l[i]).f8 - (l[i]).f8) = gets (l.take i) v + (l[i]).f8 - (l[i]).f8 by omega) ▸ step
      · simp only [if_neg c3] at step ⊢
        rw [st_wrap (x := gets (l.take i) v + (l[i]).f8) (by omega) (by omega)]
        rw [Int.sub_zero] at step
        exact step
    · simp only [if_neg c4] at step ⊢
      by_cases c3 : (l[i]).f3 = v
      · simp only [if_pos c3] at step ⊢
        rw [st_wrap (x := gets (l.take i) v - (l[i]).f8) (by omega) (by omega)]
        rw [Int.zero_sub, ← Int.sub_eq_add_neg] at step
        exact step
      · simp only [if_neg c3] at step ⊢
        rw [Int.sub_zero, Int.add_zero] at step
        exact step

theorem mr_vec (l : List Rec) (n : Int) (hF : Fine l n) : ∀ d i : Nat, n.toNat - i = d → i ≤ n.toNat → Ev (fun k => chargeparkref42_Net.l1 k l n (vec i (gets l)) (i : Int)) (vec n.toNat (gets l), (0 : Int)) := by
  obtain ⟨h1, h2, h3, h4, h5⟩ := hF
  intro d
  induction d with
  | zero =>
    intro i hd hi
    refine evs ?_
    simp only [chargeparkref42_Net.l1, if_neg (show ¬ (i : Int) < n by omega)]
    rw [show i = n.toNat by omega]
    exact Ev.now _
  | succ d ih =>
    intro i hd hi
    refine evs ?_
    simp only [chargeparkref42_Net.l1, if_pos (show (i : Int) < n by omega)]
    refine Ev.bind (mr_gets l n h1 h4 (i : Int)) ?_
    simp only [vec_length, if_pos (show i < 17592186044416 by omega), st_wrap (x := (i : Int) + 1) (by omega) (by omega)]
    have := ih (i + 1) (by omega) (by omega)
    rw [show vec (i + 1) (gets l) = vec i (gets l) ++ [gets l (i : Int)] by unfold vec; rw [List.range_succ, List.map_append]; rfl] at this
    exact this

theorem mr_net (l : List Rec) (n : Int) (hw : ∀ r ∈ l, wfR r = true) (hl : l.length ≤ 100) : ∃ v, netF l n = some v ∧ Ev (fun k => chargeparkref42_Net.f k l n) v ∧ v.1.length ≤ 8 := by
  unfold chargeparkref42_Net.f
  by_cases c0 : l.length ≤ 64
  · simp only [if_neg (show ¬ (l.length : Int) > 64 by omega)]
    have hbad : ¬ (1 ≤ n ∧ n ≤ 8) → ∃ v, netF l n = some v ∧ Ev (fun k => chargeparkref42_Net.j0 k l n true) v ∧ v.1.length ≤ 8 := fun hn => by
      refine ⟨_, net_bad hw c0 (.inl hn), evs ?_, by simp⟩
      exact Ev.now _
    by_cases c1 : n < 1
    · simp only [if_pos c1]
      exact hbad (by omega)
    · simp only [if_neg c1]
      by_cases c2 : n > 8
      · simp only [decide_eq_true c2]
        exact hbad (by omega)
      · simp only [decide_eq_false c2]
        have loop : ∀ d i : Nat, l.length - i = d → i ≤ l.length → (∀ r ∈ l.take i, SettlePlain.Good n r) → ∃ v, netF l n = some v ∧ Ev (fun k => chargeparkref42_Net.l0 k l n (i : Int)) v ∧ v.1.length ≤ 8 := by
          intro d
          induction d with
          | zero =>
            intro i hd hi hg
            rw [List.take_of_length_le (by omega)] at hg
            have ht := mr_twice l c0
            by_cases c3 : (l.map nm).Nodup
            · rw [decide_eq_true c3] at ht
              have hF : Fine l n := ⟨c0, by omega, by omega, hg, c3⟩
              refine ⟨_, net_fine hw hF, evs ?_, by rw [vec_length]; omega⟩
              simp only [chargeparkref42_Net.l0, if_neg (show ¬ (i : Int) < (l.length : Int) by omega)]
              refine Ev.bind ht ?_
              simp only [Bool.not_true, if_neg (show ¬ (false = true) by decide)]
              exact mr_vec l n hF n.toNat 0 (by omega) (by omega)
            · rw [decide_eq_false c3] at ht
              refine ⟨_, net_twice hw c0 (by omega) (by omega) hg c3, evs ?_, by simp⟩
              simp only [chargeparkref42_Net.l0, if_neg (show ¬ (i : Int) < (l.length : Int) by omega)]
              refine Ev.bind ht ?_
              simp only [Bool.not_false, if_true]
              exact Ev.now _
          | succ d ih =>
            intro i hd hi hg
            have hlt : i < l.length := by omega
            by_cases c3 : SettlePlain.Good n l[i]
            · obtain ⟨v, h1, h2, h3⟩ := ih (i + 1) (by omega) (by omega) (fun r hr => by
                rw [take_snoc l i hlt] at hr
                rcases List.mem_append.1 hr with h | h
                · exact hg r h
                · obtain rfl : r = l[i] := by simpa using h
                  exact c3)
              refine ⟨v, h1, evs ?_, h3⟩
              simp only [chargeparkref42_Net.l0, if_pos (show (i : Int) < (l.length : Int) by omega), if_pos (show (0 : Int) ≤ (i : Int) by omega), st_rd l i hlt, mr_settles, Option.bind_some, decide_eq_true c3, if_true, st_wrap (x := (i : Int) + 1) (by omega) (by omega)]
              exact h2
            · refine ⟨_, net_bad hw c0 (.inr ⟨_, List.getElem_mem hlt, c3⟩), evs ?_, by simp⟩
              simp only [chargeparkref42_Net.l0, if_pos (show (i : Int) < (l.length : Int) by omega), if_pos (show (0 : Int) ≤ (i : Int) by omega), st_rd l i hlt, mr_settles, Option.bind_some, decide_eq_false c3, if_neg (show ¬ (false = true) by decide)]
              exact Ev.now _
        obtain ⟨v, h1, h2, h3⟩ := loop l.length 0 (by omega) (by omega) (by simp)
        refine ⟨v, h1, evs ?_, h3⟩
        simp only [chargeparkref42_Net.j0, if_neg (show ¬ (false = true) by decide)]
        exact h2
  · simp only [if_pos (show (l.length : Int) > 64 by omega)]
    exact ⟨_, net_long hw (by omega), Ev.now _, by simp⟩

/-! Dispute -/
abbrev Rdg := S49
def eqR (x y : Rdg) : Bool := (x.f0 == y.f0) && ((x.f1 == y.f1) && ((x.f2 == y.f2) && ((x.f3 == y.f3) && (x.f4 == y.f4))))
theorem mr_ne (x y : Rdg) : (!(x.f0 == y.f0) || (!(x.f1 == y.f1) || (!(x.f2 == y.f2) || (!(x.f3 == y.f3) || (!(x.f4 == y.f4)))))) = !eqR x y := by
  unfold eqR
  simp only [Bool.not_and]
theorem mr_dispute (a b : List Rdg) (ha : a.length ≤ 100) (hb : b.length ≤ 100) : ∃ v, Ev (fun k => settle_Dispute.f k a b) v ∧ Ev (fun k => chargeparkref42_Dispute.f k a b) v := by
  have hmx : (mx (a.length : Int) (b.length : Int) > 64) ↔ (a.length > 64 ∨ b.length > 64) := by unfold mx; split <;> omega
  have hmn : mn (a.length : Int) (b.length : Int) = ((min a.length b.length : Nat) : Int) := by unfold mn; split <;> omega
  unfold settle_Dispute.f chargeparkref42_Dispute.f
  have hlong : Ev (fun k => chargeparkref42_Dispute.j0 k a b true) ((0 : Int), false, (2 : Int)) := by
    refine evs ?_
    exact Ev.now _
  by_cases c : a.length > 64 ∨ b.length > 64
  · refine ⟨((0 : Int), false, (2 : Int)), ?_, ?_⟩
    · simp only [if_pos (hmx.2 c)]; exact Ev.now _
    · by_cases c1 : (a.length : Int) > 64
      · simp only [if_pos c1]; exact hlong
      · simp only [if_neg c1, decide_eq_true (show (b.length : Int) > 64 by omega)]; exact hlong
  · simp only [if_neg (show ¬ mx (a.length : Int) (b.length : Int) > 64 from fun h => c (hmx.1 h)), if_neg (show ¬ (a.length : Int) > 64 by omega), decide_eq_false (show ¬ (b.length : Int) > 64 by omega), hmn]
    suffices H : ∀ d i : Nat, min a.length b.length - i = d → i ≤ min a.length b.length → ∃ v, Ev (fun k => settle_Dispute.l0 k a b ((min a.length b.length : Nat) : Int) (i : Int)) v ∧ Ev (fun k => chargeparkref42_Dispute.l0 k a b (i : Int)) v by
      obtain ⟨v, h1, h2⟩ := H _ 0 rfl (by omega)
      refine ⟨v, h1, evs ?_⟩
      simp only [chargeparkref42_Dispute.j0, if_neg (show ¬ (false = true) by decide)]
      exact h2
    intro d
    induction d with
    | zero =>
      intro i hd hi
      have hend : ∃ v, Ev (fun _ : Nat => if (a.length : Int) = (b.length : Int) then some ((0 : Int), false, (0 : Int)) else some (mn (a.length : Int) (b.length : Int), true, (0 : Int))) v ∧ Ev (fun _ : Nat => if (i : Int) = (a.length : Int) then (if (i : Int) = (b.length : Int) then some ((0 : Int), false, (0 : Int)) else some ((i : Int), true, (0 : Int))) else some ((i : Int), true, (0 : Int))) v := by
        by_cases e : a.length = b.length
        · refine ⟨((0 : Int), false, (0 : Int)), ?_, ?_⟩
          · simp only [if_pos (show (a.length : Int) = (b.length : Int) by omega)]; exact Ev.now _
          · simp only [if_pos (show (i : Int) = (a.length : Int) by omega), if_pos (show (i : Int) = (b.length : Int) by omega)]; exact Ev.now _
        · refine ⟨((i : Int), true, (0 : Int)), ?_, ?_⟩
          · simp only [if_neg (show ¬ (a.length : Int) = (b.length : Int) by omega), hmn, show ((min a.length b.length : Nat) : Int) = (i : Int) by omega]; exact Ev.now _
          · by_cases e1 : (i : Int) = (a.length : Int)
            · simp only [if_pos e1, if_neg (show ¬ (i : Int) = (b.length : Int) by omega)]; exact Ev.now _
            · simp only [if_neg e1]; exact Ev.now _
      obtain ⟨v, h1, h2⟩ := hend
      refine ⟨v, evs ?_, evs ?_⟩
      · simp only [settle_Dispute.l0, if_neg (show ¬ (i : Int) < ((min a.length b.length : Nat) : Int) by omega)]
        exact h1
      · by_cases e1 : (i : Int) < (a.length : Int)
        · simp only [chargeparkref42_Dispute.l0, if_pos e1, if_neg (show ¬ (i : Int) < (b.length : Int) by omega)]
          exact h2
        · simp only [chargeparkref42_Dispute.l0, if_neg e1]
          exact h2
    | succ d ih =>
      intro i hd hi
      cases q : eqR (rd_T49 a (i : Int)) (rd_T49 b (i : Int))
      · refine ⟨((i : Int), true, (0 : Int)), evs ?_, evs ?_⟩
        · simp only [settle_Dispute.l0, if_pos (show (i : Int) < ((min a.length b.length : Nat) : Int) by omega), if_pos (show (0 : Int) ≤ (i : Int) by omega), if_pos (show (i : Int) < (a.length : Int) by omega), if_pos (show (i : Int) < (b.length : Int) by omega), mr_ne, q, Bool.not_false, if_true]
          exact Ev.now _
        · unfold eqR at q
          simp only [chargeparkref42_Dispute.l0, if_pos (show (0 : Int) ≤ (i : Int) by omega), if_pos (show (i : Int) < (a.length : Int) by omega), if_pos (show (i : Int) < (b.length : Int) by omega), q, if_neg (show ¬ (false = true) by decide), if_neg (show ¬ (i : Int) = (a.length : Int) by omega)]
          exact Ev.now _
      · obtain ⟨v, h1, h2⟩ := ih (i + 1) (by omega) (by omega)
        refine ⟨v, evs ?_, evs ?_⟩
        · simp only [settle_Dispute.l0, if_pos (show (i : Int) < ((min a.length b.length : Nat) : Int) by omega), if_pos (show (0 : Int) ≤ (i : Int) by omega), if_pos (show (i : Int) < (a.length : Int) by omega), if_pos (show (i : Int) < (b.length : Int) by omega), mr_ne, q, Bool.not_true, if_neg (show ¬ (false = true) by decide), st_wrap (x := (i : Int) + 1) (by omega) (by omega)]
          exact h1
        · unfold eqR at q
          simp only [chargeparkref42_Dispute.l0, if_pos (show (0 : Int) ≤ (i : Int) by omega), if_pos (show (i : Int) < (a.length : Int) by omega), if_pos (show (i : Int) < (b.length : Int) by omega), q, if_true, st_wrap (x := (i : Int) + 1) (by omega) (by omega)]
          exact h2

/-! Payments -/
theorem mr_bal (l : List Int) (hl : l.length ≤ 100) : ∃ b, Ev (fun k => chargeparkref42_Balances.f k l) b ∧ Ev (fun k => settle_areBalances.f k l) b ∧ (b = true → Bal l) := by
  suffices H : ∀ d i : Nat, l.length - i = d → i ≤ l.length → (∀ j, j < i → -64000000000 ≤ at_ l j ∧ at_ l j ≤ 64000000000) → ∃ b, Ev (fun k => chargeparkref42_Balances.l0 k l (l.take i).sum (i : Int)) b ∧ Ev (fun k => settle_areBalances.l0 k l (l.take i).sum l (l.length : Int) (i : Int)) b ∧ (b = true → Bal l) by
    exact H l.length 0 (by omega) (by omega) (fun j hj => by omega)
  intro d
  induction d with
  | zero =>
    intro i hd hi hb
    obtain rfl : i = l.length := by omega
    rw [List.take_length]
    by_cases c1 : 1 ≤ l.length ∧ l.length ≤ 8
    · refine ⟨l.sum == 0, evs ?_, evs ?_, fun e => ⟨by omega, c1.2, by simpa using e, hb⟩⟩
      · simp only [chargeparkref42_Balances.l0, if_neg (Int.lt_irrefl _), if_pos (show (l.length : Int) ≥ 1 by omega), if_pos (show (l.length : Int) ≤ 8 by omega)]
        exact Ev.now _
      · simp only [settle_areBalances.l0, if_neg (Int.lt_irrefl _), sp_in, Option.bind_some]
        rw [show (decide ((l.length : Int) ≥ 1) && decide ((l.length : Int) ≤ 8)) = true by simp; omega]
        exact Ev.now _
    · refine ⟨false, evs ?_, evs ?_, fun e => by cases e⟩
      · by_cases c2 : (l.length : Int) ≥ 1
        · simp only [chargeparkref42_Balances.l0, if_neg (Int.lt_irrefl _), if_pos c2, if_neg (show ¬ (l.length : Int) ≤ 8 by omega)]
          exact Ev.now _
        · simp only [chargeparkref42_Balances.l0, if_neg (Int.lt_irrefl _), if_neg c2]
          exact Ev.now _
      · simp only [settle_areBalances.l0, if_neg (Int.lt_irrefl _), sp_in, Option.bind_some]
        rw [show (decide ((l.length : Int) ≥ 1) && decide ((l.length : Int) ≤ 8)) = false by
          rw [Bool.and_eq_false_iff, decide_eq_false_iff_not, decide_eq_false_iff_not]; omega]
        exact Ev.now _
  | succ d ih =>
    intro i hd hi hb
    have hlt : i < l.length := by omega
    have hat : l[i] = at_ l i := by unfold at_; rw [List.getD_eq_getElem?_getD, List.getElem?_eq_getElem hlt]; rfl
    by_cases c : -64000000000 ≤ at_ l i ∧ at_ l i ≤ 64000000000
    · obtain ⟨b, h1, h2, h3⟩ := ih (i + 1) (by omega) (by omega) (fun j hj => by
        by_cases e : j = i
        · subst e; exact c
        · exact hb j (by omega))
      have hsb := sum_take_bound (l.take i) (fun x hx => by
        obtain ⟨j, hj, rfl⟩ := (at_mem _ x).1 hx
        have hj2 : j < i := by rw [List.length_take] at hj; omega
        have := hb j hj2
        unfold at_ at this ⊢
        rw [List.getD_eq_getElem?_getD, List.getElem?_take, if_pos hj2]
        rw [List.getD_eq_getElem?_getD] at this
        omega)
      have hlen : ((l.take i).length : Int) ≤ 100 := by rw [List.length_take]; omega
      have hs : (l.take (i + 1)).sum = (l.take i).sum + at_ l i := by rw [take_snoc l i hlt, List.sum_append, hat]; simp
      rw [hs] at h1 h2
      refine ⟨b, evs ?_, evs ?_, h3⟩
      · simp only [chargeparkref42_Balances.l0, if_pos (show (i : Int) < (l.length : Int) by omega), if_pos (show (0 : Int) ≤ (i : Int) by omega), sp_rd, if_neg (show ¬ at_ l i < -64000000000 by omega), if_neg (show ¬ at_ l i > 64000000000 by omega), st_wrap (x := (i : Int) + 1) (by omega) (by omega), st_wrap (x := (l.take i).sum + at_ l i) (by omega) (by omega)]
        exact h1
      · simp only [settle_areBalances.l0, if_pos (show (i : Int) < (l.length : Int) by omega), if_pos (show (0 : Int) ≤ (i : Int) by omega), sp_rd, sp_in, Option.bind_some]
        rw [show (decide (at_ l i ≥ -64000000000) && decide (at_ l i ≤ 64000000000)) = true by simp; omega]
        simp only [if_true, st_wrap (x := (i : Int) + 1) (by omega) (by omega), st_wrap (x := (l.take i).sum + at_ l i) (by omega) (by omega)]
        exact h2
    · refine ⟨false, evs ?_, evs ?_, fun e => by cases e⟩
      · by_cases c1 : at_ l i < -64000000000
        · simp only [chargeparkref42_Balances.l0, if_pos (show (i : Int) < (l.length : Int) by omega), if_pos (show (0 : Int) ≤ (i : Int) by omega), sp_rd, if_pos c1]
          exact Ev.now _
        · simp only [chargeparkref42_Balances.l0, if_pos (show (i : Int) < (l.length : Int) by omega), if_pos (show (0 : Int) ≤ (i : Int) by omega), sp_rd, if_neg c1, if_pos (show at_ l i > 64000000000 by omega)]
          exact Ev.now _
      · simp only [settle_areBalances.l0, if_pos (show (i : Int) < (l.length : Int) by omega), if_pos (show (0 : Int) ≤ (i : Int) by omega), sp_rd, sp_in, Option.bind_some]
        rw [show (decide (at_ l i ≥ -64000000000) && decide (at_ l i ≤ 64000000000)) = false by
          rw [Bool.and_eq_false_iff, decide_eq_false_iff_not, decide_eq_false_iff_not]; omega]
        exact Ev.now _

/-- The reference's search for both places. -/
theorem mr_l1 (l : List Int) (hl : l.length ≤ 100) (out : List Pay) (v : List Pay × Int) (hp : 0 < l.length)
    (hend : ∀ j : Int, ¬ j < (l.length : Int) → Ev (fun k => chargeparkref42_Payments.l1 (k + 1) l out (lo l : Int) (hi l : Int) j) v) :
    ∀ d i : Nat, ∀ f t : Nat, l.length - i = d → i ≤ l.length → f < l.length → t < l.length → firstL lt l ((List.range l.length).drop i) f = lo l → firstL gt l ((List.range l.length).drop i) t = hi l → Ev (fun k => chargeparkref42_Payments.l1 k l out (f : Int) (t : Int) (i : Int)) v := by
  intro d
  induction d with
  | zero =>
    intro i f t hd hi hf ht e1 e2
    rw [List.drop_of_length_le (by simp; omega), firstL] at e1 e2
    subst e1
    subst e2
    exact evs (hend _ (by omega))
  | succ d ih =>
    intro i f t hd hi hf ht e1 e2
    have hlt : i < l.length := by omega
    have hdrop : (List.range l.length).drop i = i :: (List.range l.length).drop (i + 1) := by
      rw [List.drop_eq_getElem_cons (by simpa using hlt)]; simp
    rw [hdrop, firstL] at e1 e2
    refine evs ?_
    have k1 : lt (l.getD i 0) (l.getD f 0) = decide (at_ l i < at_ l f) := rfl
    have k2 : gt (l.getD i 0) (l.getD t 0) = decide (at_ l t < at_ l i) := rfl
    rw [k1] at e1
    rw [k2] at e2
    simp only [chargeparkref42_Payments.l1, if_pos (show (i : Int) < (l.length : Int) by omega), if_pos (show (0 : Int) ≤ (i : Int) by omega), if_pos (show (0 : Int) ≤ (f : Int) by omega), if_pos (show (f : Int) < (l.length : Int) by omega), if_pos (show (0 : Int) ≤ (t : Int) by omega), if_pos (show (t : Int) < (l.length : Int) by omega), sp_rd, st_wrap (x := (i : Int) + 1) (by omega) (by omega)]
    by_cases c1 : at_ l i < at_ l f
    · simp only [if_pos c1]
      rw [decide_eq_true c1, if_pos rfl] at e1
      by_cases c2 : at_ l i > at_ l t
      · simp only [if_pos c2]
        rw [decide_eq_true c2, if_pos rfl] at e2
        exact ih (i + 1) i i (by omega) (by omega) hlt hlt e1 e2
      · simp only [if_neg c2]
        rw [decide_eq_false c2, if_neg (by decide)] at e2
        exact ih (i + 1) i t (by omega) (by omega) hlt ht e1 e2
    · simp only [if_neg c1]
      rw [decide_eq_false c1, if_neg (by decide)] at e1
      by_cases c2 : at_ l i > at_ l t
      · simp only [if_pos c2]
        rw [decide_eq_true c2, if_pos rfl] at e2
        exact ih (i + 1) f i (by omega) (by omega) hf hlt e1 e2
      · simp only [if_neg c2]
        rw [decide_eq_false c2, if_neg (by decide)] at e2
        exact ih (i + 1) f t (by omega) (by omega) hf ht e1 e2

theorem mr_start (better : Int → Int → Bool) (hb : ∀ x, better x x = false) (l : List Int) (hp : 0 < l.length) : firstL better l ((List.range l.length).drop 1) 0 = firstL better l (List.range l.length) 0 := by
  have hr : List.range l.length = 0 :: (List.range l.length).drop 1 := by
    have := List.drop_eq_getElem_cons (l := List.range l.length) (i := 0) (by simpa using hp)
    simpa using this
  conv => rhs; rw [hr]
  rw [firstL, hb, if_neg (by decide)]

theorem mr_round (l : List Int) (h : Bal l) (out : List Pay) (ho : out.length < 8) (v : List Pay × Int) (h0 : amt l = 0 → v = (out, 0)) (h1 : amt l ≠ 0 → Ev (fun k => chargeparkref42_Payments.l0 k (SettlePlain.step l) (out ++ [pay l])) v) :
    Ev (fun k => chargeparkref42_Payments.l0 k l out) v := by
  have hp := h.pos
  have hl := h.len
  obtain ⟨l1, _⟩ := lo_spec l h.pos
  obtain ⟨g1, _⟩ := hi_spec l h.pos
  obtain ⟨s1, s2, s3, s4⟩ := h.signs
  have b1 := h.big _ l1
  have b2 := h.big _ g1
  refine evs ?_
  simp only [chargeparkref42_Payments.l0, if_pos (show (out.length : Int) < 8 by omega)]
  refine mr_l1 l (by omega) out v hp (fun j hj => ?_) (l.length - 1) 1 0 0 rfl (by omega) hp hp (mr_start lt (fun x => by unfold lt; simp) l hp) (mr_start gt (fun x => by unfold gt; simp) l hp)
  simp only [chargeparkref42_Payments.l1, if_neg hj, if_pos (show (0 : Int) ≤ (hi l : Int) by omega), if_pos (show (hi l : Int) < (l.length : Int) by omega), if_pos (show (0 : Int) ≤ (lo l : Int) by omega), if_pos (show (lo l : Int) < (l.length : Int) by omega), sp_rd, Int.toNat_natCast, Option.bind_some, if_pos (show out.length < 5864062014805 by omega), st_wrap (x := -at_ l (lo l)) (by omega) (by omega)]
  by_cases c : at_ l (hi l) = 0
  · simp only [if_pos c]
    have ha : amt l = 0 := h.amt_zero.2.2 (s4.1 c)
    rw [h0 ha]
    exact Ev.now _
  · simp only [if_neg c]
    have ha : amt l ≠ 0 := fun e => c (s4.2 (h.amt_zero.2.1 e))
    have hn := h1 ha
    obtain ⟨_, _, h3, h4, h5, h6, h7, h8⟩ := h.step ha
    have hh : ∀ x, at_ (l.set (lo l) x) (hi l) = at_ l (hi l) := fun x => by rw [at_set _ _ _ _ l1, if_neg (fun e => h8 e.symm)]
    by_cases c2 : -at_ l (lo l) < at_ l (hi l)
    · have e : amt l = -at_ l (lo l) := by unfold amt; rw [if_neg (by omega)]
      have c2' : amt l < at_ l (hi l) := by omega
      simp only [← e, if_pos c2', hh, st_wrap (x := at_ l (lo l) + amt l) (by omega) (by omega), st_wrap (x := at_ l (hi l) - amt l) (by omega) (by omega)]
      exact hn
    · have e : amt l = at_ l (hi l) := by unfold amt; split <;> omega
      simp only [if_neg c2, hh]
      rw [st_wrap (x := at_ l (lo l) + at_ l (hi l)) (by omega) (by omega), st_wrap (x := at_ l (hi l) - at_ l (hi l)) (by omega) (by omega)]
      have e2 : SettlePlain.step l = (l.set (lo l) (at_ l (lo l) + at_ l (hi l))).set (hi l) (at_ l (hi l) - at_ l (hi l)) := by unfold SettlePlain.step; rw [e]
      have e3 : pay l = ⟨(lo l : Int), (hi l : Int), at_ l (hi l)⟩ := by unfold pay; rw [e]
      rw [e2, e3] at hn
      exact hn

theorem mr_loop : ∀ (m : Nat) (l : List Int) (out : List Pay), Bal l → nz l ≤ m → out.length + m ≤ 8 → Ev (fun k => chargeparkref42_Payments.l0 k l out) (out ++ pays m l, (0 : Int)) := by
  intro m
  induction m with
  | zero =>
    intro l out h hm ho
    have ha : amt l = 0 := h.amt_zero.2.2 (Bal.nz_zero.1 (by omega))
    by_cases c : out.length < 8
    · exact mr_round l h out c _ (fun _ => by rw [pays, List.append_nil]) (fun k => absurd ha k)
    · refine evs ?_
      simp only [chargeparkref42_Payments.l0, if_neg (show ¬ (out.length : Int) < 8 by omega), pays, List.append_nil]
      exact Ev.now _
  | succ m ih =>
    intro l out h hm ho
    refine mr_round l h out (by omega) _ (fun ha => by rw [pays, if_pos ha, List.append_nil]) (fun ha => ?_)
    obtain ⟨h1, h2, _⟩ := h.step ha
    have := ih (SettlePlain.step l) (out ++ [pay l]) h1 (by omega) (by simp; omega)
    rw [List.append_assoc] at this
    rw [pays, if_neg ha]
    exact this

theorem mr_payments (l : List Int) (hl : l.length ≤ 100) : ∃ v, Ev (fun k => settle_Payments.f k l) v ∧ Ev (fun k => chargeparkref42_Payments.f k l) v ∧ v.1.length ≤ 100 := by
  obtain ⟨b, h1, h2, h3⟩ := mr_bal l hl
  cases b
  · refine ⟨([], 1), ?_, ?_, by simp⟩
    · unfold settle_Payments.f
      refine Ev.bind h2 ?_
      exact Ev.now _
    · unfold chargeparkref42_Payments.f
      refine Ev.bind h1 ?_
      exact Ev.now _
  · have h := h3 rfl
    have h8 := h.len
    have hn : nz l ≤ l.length := List.countP_le_length
    refine ⟨_, sp_payments h, ?_, ?_⟩
    · unfold chargeparkref42_Payments.f
      refine Ev.bind h1 ?_
      simp only [if_true, List.length_nil, Nat.zero_add, if_pos (show l.length < 17592186044416 by omega), List.nil_append]
      have := mr_loop (nz l) l [] h (Nat.le_refl _) (by simp; omega)
      rwa [List.nil_append] at this
    · rcases pays_len (l := l) (nz l) h (Nat.le_refl _) with k | k
      · show (pays (nz l) l).length ≤ 100; omega
      · show (pays (nz l) l).length ≤ 100; rw [k]; simp

theorem mr_same (a : List Pay) (ha : a.length ≤ 1000) : Ev (fun k => chargeparkref42_Same.f k a a) true := by
  unfold chargeparkref42_Same.f
  simp only [if_true]
  suffices H : ∀ d i : Nat, a.length - i = d → i ≤ a.length → Ev (fun k => chargeparkref42_Same.l0 k a a (i : Int)) true from H a.length 0 (by omega) (by omega)
  intro d
  induction d with
  | zero =>
    intro i hd hi
    refine evs ?_
    simp only [chargeparkref42_Same.l0, if_neg (show ¬ (i : Int) < (a.length : Int) by omega)]
    exact Ev.now _
  | succ d ih =>
    intro i hd hi
    refine evs ?_
    simp only [chargeparkref42_Same.l0, if_pos (show (i : Int) < (a.length : Int) by omega), if_pos (show (0 : Int) ≤ (i : Int) by omega), beq_self_eq_true, Bool.not_true, Bool.or_false, if_neg (show ¬ (false = true) by decide), st_wrap (x := (i : Int) + 1) (by omega) (by omega)]
    exact ih (i + 1) (by omega) (by omega)

theorem SettleMatchesReference : chargeparklaw42_SettleMatchesReference.Pure := by
  intro l n p x y h1 h2 h3 h4 h5 h6 h7 h8 h9 h10
  have hw := ok_wf h2
  unfold chargeparklaw42_SettleMatchesReference.f
  refine Ev.rounds (Ev.bind st_head ?_)
  have hout : Ev (fun k => chargeparklaw42_SettleMatchesReference.j0 k l n p x y true true) true := by
    refine evs ?_
    exact Ev.now _
  by_cases c1 : (l.length : Int) > 100
  · simp only [if_pos c1]; exact hout
  · simp only [if_neg c1]
    by_cases c2 : (p.length : Int) > 100
    · simp only [if_pos c2]; exact hout
    · simp only [if_neg c2]
      by_cases c3 : (x.length : Int) > 100
      · simp only [if_pos c3]; exact hout
      · simp only [if_neg c3]
        by_cases c4 : (y.length : Int) > 100
        · simp only [decide_eq_true c4]; exact hout
        · simp only [decide_eq_false c4]
          obtain ⟨v, e1, e2, e3⟩ := mr_net l n hw (by omega)
          obtain ⟨q, q1, q2, q3⟩ := mr_payments p (by omega)
          obtain ⟨u, u1, u2⟩ := mr_dispute x y (by omega) (by omega)
          refine evs ?_
          simp only [chargeparklaw42_SettleMatchesReference.j0, if_neg (show ¬ (false = true) by decide), net_is, e1, Option.bind_some]
          refine Ev.bind e2 (Ev.bind q1 (Ev.bind q2 (Ev.bind u1 (Ev.bind u2 ?_))))
          simp only [if_true]
          refine Ev.bind (st_ints v.1 (by omega)) ?_
          simp only [if_true]
          refine Ev.bind (mr_same q.1 (by omega)) ?_
          simp only [if_true, beq_self_eq_true]
          exact Ev.now _
end Go.Proofs.Ytanaaphabeonoaa.Pure
