/-
  For any readings: the dispute of two lists of readings is told at the first reading that differs, and both ways alike.
-/
import Derived.Test.YtanaaphabeonoaaPAllx12
import Derived.Test.YtanaaphabeonoaaSettleHead
namespace Go.Proofs.Ytanaaphabeonoaa.Pure
open Go.RowKit Go.Proofs.Ytanaaphabeonoaa.PAll Go.Proofs.Ytanaaphabeonoaa.SettleNet Go.Proofs.Ytanaaphabeonoaa.SettlePay Go.Proofs.Ytanaaphabeonoaa.SettlePlain Go.Proofs.YtanaaphabeonoaaW.PrintWords Go.Proofs.YtanaaphabeonoaaW.PrintLast Go.Proofs.YtanaaphabeonoaaW.PrintMore
set_option linter.unusedSimpArgs false
set_option linter.unusedVariables false

abbrev Rdg := S49
def dq (x y : Rdg) : Bool := (x.f0 == y.f0) && ((x.f1 == y.f1) && ((x.f2 == y.f2) && ((x.f3 == y.f3) && (x.f4 == y.f4))))
theorem dq_ne (x y : Rdg) : (!(x.f0 == y.f0) || (!(x.f1 == y.f1) || (!(x.f2 == y.f2) || (!(x.f3 == y.f3) || (!(x.f4 == y.f4)))))) = !dq x y := by
  unfold dq
  simp only [Bool.not_and]
abbrev ra (l : List Rdg) (i : Nat) : Rdg := rd_T49 l (i : Int)
theorem dq_comm (x y : Rdg) : dq x y = dq y x := by
  unfold dq
  rw [BEq.comm (a := x.f0), BEq.comm (a := x.f1), BEq.comm (a := x.f2), BEq.comm (a := x.f3), BEq.comm (a := x.f4)]
theorem ra_take (l : List Rdg) (n i : Nat) (h : i < n) : ra (l.take n) i = ra l i := by
  unfold ra rd_T49
  rw [List.getD_eq_getElem?_getD, List.getD_eq_getElem?_getD, Int.toNat_natCast, List.getElem?_take, if_pos h]
theorem di_mn (a b : List Rdg) : mn (a.length : Int) (b.length : Int) = ((min a.length b.length : Nat) : Int) := by unfold mn; split <;> omega
theorem di_mx (a b : List Rdg) (ha : a.length ≤ 65) (hb : b.length ≤ 65) (h : ¬ (a.length > 64 ∨ b.length > 64)) : ¬ mx (a.length : Int) (b.length : Int) > 64 := by unfold mx; split <;> omega

/-- a difference at i. -/
theorem di_diff (a b : List Rdg) (ha : a.length ≤ 64) (hb : b.length ≤ 64) (i : Nat) (hia : i < a.length) (hib : i < b.length) (heq : ∀ j, j < i → dq (ra a j) (ra b j) = true) (hne : dq (ra a i) (ra b i) = false) :
    Ev (fun k => settle_Dispute.f k a b) ((i : Int), true, (0 : Int)) := by
  unfold settle_Dispute.f
  simp only [if_neg (di_mx a b (by omega) (by omega) (by omega)), di_mn]
  suffices H : ∀ d j : Nat, i - j = d → j ≤ i → Ev (fun k => settle_Dispute.l0 k a b ((min a.length b.length : Nat) : Int) (j : Int)) ((i : Int), true, (0 : Int)) from H _ 0 rfl (by omega)
  intro d
  induction d with
  | zero =>
    intro j hd hj
    obtain rfl : j = i := by omega
    refine evs ?_
    simp only [settle_Dispute.l0, if_pos (show (j : Int) < ((min a.length b.length : Nat) : Int) by omega), if_pos (show (0 : Int) ≤ (j : Int) by omega), if_pos (show (j : Int) < (a.length : Int) by omega), if_pos (show (j : Int) < (b.length : Int) by omega), dq_ne, hne, Bool.not_false, if_true]
    exact Ev.now _
  | succ d ih =>
    intro j hd hj
    refine evs ?_
    simp only [settle_Dispute.l0, if_pos (show (j : Int) < ((min a.length b.length : Nat) : Int) by omega), if_pos (show (0 : Int) ≤ (j : Int) by omega), if_pos (show (j : Int) < (a.length : Int) by omega), if_pos (show (j : Int) < (b.length : Int) by omega), dq_ne, heq j (by omega), Bool.not_true, if_neg (show ¬ (false = true) by decide), st_wrap (x := (j : Int) + 1) (by omega) (by omega)]
    exact ih (j + 1) (by omega) (by omega)
/-- no difference as far as both reach. -/
theorem di_same (a b : List Rdg) (ha : a.length ≤ 64) (hb : b.length ≤ 64) (heq : ∀ j, j < min a.length b.length → dq (ra a j) (ra b j) = true) :
    Ev (fun k => settle_Dispute.f k a b) (if (a.length : Int) = (b.length : Int) then ((0 : Int), false, (0 : Int)) else (((min a.length b.length : Nat) : Int), true, (0 : Int))) := by
  unfold settle_Dispute.f
  simp only [if_neg (di_mx a b (by omega) (by omega) (by omega)), di_mn]
  suffices H : ∀ d j : Nat, min a.length b.length - j = d → j ≤ min a.length b.length → Ev (fun k => settle_Dispute.l0 k a b ((min a.length b.length : Nat) : Int) (j : Int)) (if (a.length : Int) = (b.length : Int) then ((0 : Int), false, (0 : Int)) else (((min a.length b.length : Nat) : Int), true, (0 : Int))) from H _ 0 rfl (by omega)
  intro d
  induction d with
  | zero =>
    intro j hd hj
    refine evs ?_
    by_cases e : (a.length : Int) = (b.length : Int)
    · simp only [settle_Dispute.l0, if_neg (show ¬ (j : Int) < ((min a.length b.length : Nat) : Int) by omega), if_pos e]
      exact Ev.now _
    · simp only [settle_Dispute.l0, if_neg (show ¬ (j : Int) < ((min a.length b.length : Nat) : Int) by omega), if_neg e, di_mn]
      exact Ev.now _
  | succ d ih =>
    intro j hd hj
    refine evs ?_
    simp only [settle_Dispute.l0, if_pos (show (j : Int) < ((min a.length b.length : Nat) : Int) by omega), if_pos (show (0 : Int) ≤ (j : Int) by omega), if_pos (show (j : Int) < (a.length : Int) by omega), if_pos (show (j : Int) < (b.length : Int) by omega), dq_ne, heq j (by omega), Bool.not_true, if_neg (show ¬ (false = true) by decide), st_wrap (x := (j : Int) + 1) (by omega) (by omega)]
    exact ih (j + 1) (by omega) (by omega)

theorem di_first (a b : List Rdg) : ∀ m, (∃ i, i < m ∧ dq (ra a i) (ra b i) = false ∧ ∀ j, j < i → dq (ra a j) (ra b j) = true) ∨ (∀ j, j < m → dq (ra a j) (ra b j) = true) := by
  intro m
  induction m with
  | zero => exact .inr (fun j h => by omega)
  | succ m ih =>
    rcases ih with ⟨i, h1, h2⟩ | h
    · exact .inl ⟨i, by omega, h2⟩
    · cases e : dq (ra a m) (ra b m)
      · exact .inl ⟨m, by omega, e, h⟩
      · refine .inr (fun j hj => ?_)
        by_cases q : j = m
        · rw [q]; exact e
        · exact h j (by omega)

/-- the law's last loop: up to n all agree; what follows is `out`. -/
theorem di_l1 (a b : List Rdg) (ha : a.length ≤ 64) (hb : b.length ≤ 64) (n : Nat) (hna : n ≤ a.length) (hnb : n ≤ b.length) (heq : ∀ j, j < n → dq (ra a j) (ra b j) = true)
    (hn : n = a.length ∨ n = b.length ∨ (n < a.length ∧ n < b.length ∧ dq (ra a n) (ra b n) = false))
    (hd : Ev (fun k => settle_Dispute.f k (a.take (min a.length (n + 1))) (b.take (min b.length (n + 1)))) ((n : Int), true, (0 : Int))) :
    ∀ d j : Nat, n - j = d → j ≤ n → Ev (fun k => chargeparklaw42_SettleDispute.l1 k a b true (n : Int) (j : Int)) true := by
  have m1 : mn (a.length : Int) (wrap64 ((n : Int) + 1)) = ((min a.length (n + 1) : Nat) : Int) := by
    rw [st_wrap (x := (n : Int) + 1) (by omega) (by omega)]; unfold mn; split <;> omega
  have m2 : mn (b.length : Int) (wrap64 ((n : Int) + 1)) = ((min b.length (n + 1) : Nat) : Int) := by
    rw [st_wrap (x := (n : Int) + 1) (by omega) (by omega)]; unfold mn; split <;> omega
  intro d
  induction d with
  | zero =>
    intro j hd0 hj
    obtain rfl : j = n := by omega
    refine evs ?_
    simp only [chargeparklaw42_SettleDispute.l1, if_neg (Int.lt_irrefl _), m1, m2, if_pos (Int.natCast_nonneg _), Int.toNat_natCast,
      if_pos (show ((min a.length (j + 1) : Nat) : Int) ≤ (a.length : Int) by omega), if_pos (show ((min b.length (j + 1) : Nat) : Int) ≤ (b.length : Int) by omega)]
    refine Ev.bind hd ?_
    simp only [if_true]
    by_cases e1 : (j : Int) = (a.length : Int)
    · simp only [if_pos e1]
      exact Ev.now _
    · by_cases e2 : (j : Int) = (b.length : Int)
      · simp only [if_neg e1, if_pos e2]
        exact Ev.now _
      · obtain ⟨q1, q2, q3⟩ : j < a.length ∧ j < b.length ∧ dq (ra a j) (ra b j) = false := by
          rcases hn with h | h | h
          · omega
          · omega
          · exact h
        simp only [if_neg e1, if_neg e2, if_pos (Int.natCast_nonneg _), if_pos (show (j : Int) < (a.length : Int) by omega), if_pos (show (j : Int) < (b.length : Int) by omega), dq_ne, q3, Bool.not_false, if_true]
        exact Ev.now _
  | succ d ih =>
    intro j hd0 hj
    have q := heq j (by omega)
    unfold dq at q
    refine evs ?_
    simp only [chargeparklaw42_SettleDispute.l1, if_pos (show (j : Int) < (n : Int) by omega), if_true, if_pos (Int.natCast_nonneg _), if_pos (show (j : Int) < (a.length : Int) by omega), if_pos (show (j : Int) < (b.length : Int) by omega), q, st_wrap (x := (j : Int) + 1) (by omega) (by omega)]
    exact ih (j + 1) (by omega) (by omega)

theorem di_l0 (a b : List Rdg) (ha : a.length ≤ 64) (hab : a.length = b.length) (heq : ∀ j, j < a.length → dq (ra a j) (ra b j) = true) :
    ∀ d j : Nat, a.length - j = d → j ≤ a.length → Ev (fun k => chargeparklaw42_SettleDispute.l0 k a b true 0 (j : Int)) true := by
  intro d
  induction d with
  | zero =>
    intro j hd hj
    refine evs ?_
    simp only [chargeparklaw42_SettleDispute.l0, if_neg (show ¬ (j : Int) < (a.length : Int) by omega), if_true, if_pos (show (a.length : Int) = (b.length : Int) by omega)]
    exact Ev.now _
  | succ d ih =>
    intro j hd hj
    have q := heq j (by omega)
    unfold dq at q
    refine evs ?_
    simp only [chargeparklaw42_SettleDispute.l0, if_true, if_pos (Int.natCast_nonneg _), if_pos (show (j : Int) < (a.length : Int) by omega), if_pos (show (j : Int) < (b.length : Int) by omega), q, st_wrap (x := (j : Int) + 1) (by omega) (by omega)]
    exact ih (j + 1) (by omega) (by omega)

theorem SettleDispute : chargeparklaw42_SettleDispute.Pure := by
  intro a b hma hoa hmb hob
  unfold chargeparklaw42_SettleDispute.f
  refine Ev.rounds (Ev.bind st_head ?_)
  have hlong : Ev (fun k => chargeparklaw42_SettleDispute.j0 k a b true true) true := by
    refine evs ?_
    simp only [chargeparklaw42_SettleDispute.j0, if_true]
    exact Ev.now _
  by_cases c1 : (a.length : Int) > 64
  · simp only [if_pos c1]; exact hlong
  by_cases c2 : (b.length : Int) > 64
  · simp only [if_neg c1, decide_eq_true c2]; exact hlong
  have ha : a.length ≤ 64 := by omega
  have hb : b.length ≤ 64 := by omega
  simp only [if_neg c1, decide_eq_false c2]
  refine evs ?_
  simp only [chargeparklaw42_SettleDispute.j0, if_neg (show ¬ (false = true) by decide)]
  have hdiff : ∀ n : Nat, n ≤ a.length → n ≤ b.length → (∀ j, j < n → dq (ra a j) (ra b j) = true) → (n = a.length ∨ n = b.length ∨ (n < a.length ∧ n < b.length ∧ dq (ra a n) (ra b n) = false)) → ¬ (n = a.length ∧ n = b.length) →
      Ev (fun k => settle_Dispute.f k (a.take (min a.length (n + 1))) (b.take (min b.length (n + 1)))) ((n : Int), true, (0 : Int)) →
      Ev (fun k => settle_Dispute.f k a b) ((n : Int), true, (0 : Int)) → Ev (fun k => settle_Dispute.f k b a) ((n : Int), true, (0 : Int)) →
      Ev (fun k => (settle_Dispute.f k a b).bind fun bt448 => ((settle_Dispute.f k b a).bind fun bt451 => (if bt448.2.2 = 0 then (if bt451.2.2 = 0 then (if bt448.1 = bt451.1 then (if (bt448.2.1 != bt451.2.1) = true then (chargeparklaw42_SettleDispute.j1 k a b true bt448.1 bt448.2.1 true) else (chargeparklaw42_SettleDispute.j1 k a b true bt448.1 bt448.2.1 (decide (bt448.1 < 0)))) else (chargeparklaw42_SettleDispute.j1 k a b true bt448.1 bt448.2.1 true)) else (chargeparklaw42_SettleDispute.j1 k a b true bt448.1 bt448.2.1 true)) else (chargeparklaw42_SettleDispute.j1 k a b true bt448.1 bt448.2.1 true)))) true := by
    intro n hna hnb heq hn hnn hd h1 h2
    refine Ev.bind h1 (Ev.bind h2 ?_)
    simp only [if_true, show (true != true) = false from rfl, if_neg (show ¬ (false = true) by decide), decide_eq_false (show ¬ (n : Int) < 0 by omega)]
    refine evs ?_
    have hl1 := di_l1 a b ha hb n hna hnb heq hn hd n 0 (by omega) (by omega)
    have hj3 : Ev (fun k => chargeparklaw42_SettleDispute.j3 k a b true (n : Int) false) true := by
      refine evs ?_
      simp only [chargeparklaw42_SettleDispute.j3, if_neg (show ¬ (false = true) by decide)]
      exact hl1
    by_cases e1 : (n : Int) = (a.length : Int)
    · simp only [chargeparklaw42_SettleDispute.j1, if_neg (show ¬ (false = true) by decide), if_true, if_neg (show ¬ (n : Int) > (a.length : Int) by omega), if_neg (show ¬ (n : Int) > (b.length : Int) by omega), if_pos e1, show ((n : Int) == (b.length : Int)) = false by simp; omega]
      exact hj3
    · simp only [chargeparklaw42_SettleDispute.j1, if_neg (show ¬ (false = true) by decide), if_true, if_neg (show ¬ (n : Int) > (a.length : Int) by omega), if_neg (show ¬ (n : Int) > (b.length : Int) by omega), if_neg e1]
      exact hj3
  rcases di_first a b (min a.length b.length) with ⟨i, hi, hne, heq⟩ | heq
  · refine hdiff i (by omega) (by omega) heq (.inr (.inr ⟨by omega, by omega, hne⟩)) (by omega) ?_ (di_diff a b ha hb i (by omega) (by omega) heq hne) (di_diff b a hb ha i (by omega) (by omega) (fun j hj => by rw [dq_comm]; exact heq j hj) (by rw [dq_comm]; exact hne))
    rw [show min a.length (i + 1) = i + 1 by omega, show min b.length (i + 1) = i + 1 by omega]
    refine di_diff _ _ (by rw [List.length_take]; omega) (by rw [List.length_take]; omega) i (by rw [List.length_take]; omega) (by rw [List.length_take]; omega) (fun j hj => ?_) ?_
    · rw [ra_take _ _ _ (by omega), ra_take _ _ _ (by omega)]; exact heq j hj
    · rw [ra_take _ _ _ (by omega), ra_take _ _ _ (by omega)]; exact hne
  · have h1 := di_same a b ha hb heq
    have h2 := di_same b a hb ha (fun j hj => by rw [dq_comm]; exact heq j (by omega))
    by_cases e : (a.length : Int) = (b.length : Int)
    · rw [if_pos e] at h1
      rw [if_pos e.symm] at h2
      refine Ev.bind h1 (Ev.bind h2 ?_)
      simp only [if_true, show (false != false) = false from rfl, if_neg (show ¬ (false = true) by decide), decide_eq_false (show ¬ (0 : Int) < 0 by omega)]
      refine evs ?_
      simp only [chargeparklaw42_SettleDispute.j1, if_neg (show ¬ (false = true) by decide)]
      exact di_l0 a b ha (by omega) (fun j hj => heq j (by omega)) a.length 0 (by omega) (by omega)
    · rw [if_neg e] at h1
      rw [if_neg (fun h => e h.symm), Nat.min_comm] at h2
      refine hdiff (min a.length b.length) (by omega) (by omega) heq (by omega) (by omega) ?_ h1 h2
      have h3 := di_same (a.take (min a.length (min a.length b.length + 1))) (b.take (min b.length (min a.length b.length + 1))) (by rw [List.length_take]; omega) (by rw [List.length_take]; omega) (fun j hj => by
        rw [List.length_take, List.length_take] at hj
        rw [ra_take _ _ _ (by omega), ra_take _ _ _ (by omega)]; exact heq j (by omega))
      rw [List.length_take, List.length_take, if_neg (by omega), show min (min (min a.length (min a.length b.length + 1)) a.length) (min (min b.length (min a.length b.length + 1)) b.length) = min a.length b.length by omega] at h3
      exact h3
end Go.Proofs.Ytanaaphabeonoaa.Pure
