/-
  What the reference of chapter 16 computes, by its printed text.
-/
import Derived.Test.YtpngiddelhcepaaLeasePlain
import Derived.Test.YtpngiddelhcepaaPAllx2
import Derived.Test.YtpngiddelhcepaaPAllx3
import Derived.Test.YtpngiddelhcepaaPAllx4
import Derived.Test.YtpngiddelhcepaaPAllx5
import Derived.Test.YtpngiddelhcepaaPAllx6
import Derived.Test.YtpngiddelhcepaaPAllx6
namespace Go.Proofs.Ytpngiddelhcepaa.LeaseRef
open Go.RowKit Go.Proofs.Ytpngiddelhcepaa.PAll Go.Proofs.Ytpngiddelhcepaa.LeaseWalk Go.Proofs.Ytpngiddelhcepaa.LeasePlain Go.Proofs.YtpngiddelhcepaaW.PrintWords Go.Proofs.YtpngiddelhcepaaW.PrintLast Go.Proofs.YtpngiddelhcepaaW.PrintMore
set_option linter.unusedSimpArgs false
set_option linter.unusedVariables false

theorem evs {α : Type} {g : Nat → Option α} {r : α} (h : Ev (fun k => g (k + 1)) r) : Ev g r := Ev.step (fun _ => rfl) h
theorem evn {α : Type} {o : Option α} {r : α} (h : o = some r) : Ev (fun _ => o) r := ⟨0, fun _ _ => h⟩
theorem evb {α β : Type} {o : Option α} {f : Nat → α → Option β} {a : α} {r : β} (h : o = some a) (k : Ev (fun n => f n a) r) : Ev (fun n => o.bind (f n)) r := by
  obtain ⟨K, hK⟩ := k
  exact ⟨K, fun n hn => by rw [h]; exact hK n hn⟩

theorem rd_at (l : List Ls) (i : Nat) (h : i < l.length) : rd_T24 l (i : Int) = l[i] := by
  unfold rd_T24
  rw [List.getD_eq_getElem?_getD, Int.toNat_natCast, List.getElem?_eq_getElem h]; rfl
theorem rd_int (l : List Int) (i : Nat) (h : i < l.length) : rd l (i : Int) = l[i] := by
  unfold rd
  rw [List.getD_eq_getElem?_getD, Int.toNat_natCast, List.getElem?_eq_getElem h]; rfl
theorem ls_eta (x : Ls) : (⟨x.f0, x.f1, x.f2, x.f3, x.f4⟩ : Ls) = x := rfl

theorem one_ev (x : Ls) : chargeparkref16_One.f x.f0 x.f1 x.f2 x.f3 x.f4 = some (oneL x) := by
  unfold chargeparkref16_One.f oneL inI
  by_cases h0 : x.f0 ≥ 1
  · by_cases h1 : x.f0 ≤ 1000000
    · by_cases h2 : x.f1 ≥ 0
      · by_cases h3 : x.f1 < 16
        · by_cases h4 : x.f2 ≥ 0
          · by_cases h5 : x.f2 ≤ 80
            · by_cases h6 : x.f3 ≥ 0
              · by_cases h7 : x.f3 ≤ 1000000
                · by_cases h8 : x.f4 ≥ 1
                  · simp [h0, h1, h2, h3, h4, h5, h6, h7, h8, show x.f1 ≤ 15 by omega]
                  · simp [h0, h1, h2, h3, h4, h5, h6, h7, h8]
                · simp [h0, h1, h2, h3, h4, h5, h6, h7]
              · simp [h0, h1, h2, h3, h4, h5, h6]
            · simp [h0, h1, h2, h3, h4, h5]
          · simp [h0, h1, h2, h3, h4]
        · simp [h0, h1, h2, h3, show ¬ x.f1 ≤ 15 by omega]
      · simp [h0, h1, h2]
    · simp [h0, h1]
  · simp [h0]

theorem ref_valid (l : List Ls) (hl : l.length ≤ 1000) : Ev (fun k => chargeparkref16_Valid.f k l) (validL l) := by
  unfold chargeparkref16_Valid.f
  suffices H : ∀ d i : Nat, l.length - i = d → i ≤ l.length → Ev (fun k => chargeparkref16_Valid.l0 k l (i : Int)) (validFrom (pv l i) (l.drop i) && decide (l.length ≤ 64)) by
    have := H l.length 0 (by omega) (by omega)
    rw [List.drop_zero, show pv l 0 = none from rfl, Bool.and_comm] at this
    exact this
  intro d
  induction d with
  | zero =>
    intro i hd hi
    obtain rfl : i = l.length := by omega
    refine evs ?_
    simp only [chargeparkref16_Valid.l0, if_neg (show ¬ (l.length : Int) < (l.length : Int) by omega), List.drop_length, validFrom, Bool.true_and]
    refine evn ?_
    congr 1
    exact decide_eq_decide.2 (by omega)
  | succ d ih =>
    intro i hd hi
    have hlt : i < l.length := by omega
    have hnext := ih (i + 1) (by omega) (by omega)
    have hp : pv l (i + 1) = some l[i] := by unfold pv; rw [if_neg (by omega)]; simp [hlt]
    rw [hp] at hnext
    refine evs ?_
    rw [List.drop_eq_getElem_cons hlt, validFrom_cons]
    simp only [chargeparkref16_Valid.l0, if_pos (show (i : Int) < (l.length : Int) by omega), if_pos (show (0 : Int) ≤ (i : Int) by omega), rd_at l i hlt]
    refine evb (one_ev l[i]) ?_
    cases b : oneL l[i]
    · simp only [if_neg (show ¬ (false = true) by decide), Bool.false_and]
      exact Ev.now _
    · simp only [if_true, Bool.true_and]
      rw [show ((i : Int) + 1) = ((i + 1 : Nat) : Int) from rfl] at *
      by_cases c : i = 0
      · subst c
        simp only [if_neg (show ¬ ((0 : Nat) : Int) > 0 by omega), show pv l 0 = none from rfl, okAfter, Bool.true_and, lp_wrap (x := ((0 + 1 : Nat) : Int)) (by omega) (by omega)]
        exact hnext
      · have hj : i - 1 < l.length := by omega
        have w1 : wrap64 ((i : Int) - 1) = ((i - 1 : Nat) : Int) := by rw [lp_wrap (by omega) (by omega)]; omega
        have hp2 : pv l i = some l[i - 1] := by unfold pv; rw [if_neg c]; simp [hj]
        simp only [if_pos (show (i : Int) > 0 by omega), w1, if_pos (show (0 : Int) ≤ ((i - 1 : Nat) : Int) by omega), if_pos (show ((i - 1 : Nat) : Int) < (l.length : Int) by omega), rd_at l (i - 1) hj, hp2, okAfter, lp_wrap (x := ((i + 1 : Nat) : Int)) (by omega) (by omega)]
        unfold afterL
        by_cases e1 : l[i].f0 ≤ l[i - 1].f0
        · simp only [if_pos e1, decide_eq_false (show ¬ l[i].f0 > l[i - 1].f0 by omega), Bool.false_and]
          exact Ev.now _
        · by_cases e2 : l[i].f3 < l[i - 1].f3
          · simp only [if_neg e1, if_pos e2, decide_eq_true (show l[i].f0 > l[i - 1].f0 by omega), decide_eq_false (show ¬ l[i].f3 ≥ l[i - 1].f3 by omega), Bool.and_false, Bool.false_and]
            exact Ev.now _
          · simp only [if_neg e1, if_neg e2, decide_eq_true (show l[i].f0 > l[i - 1].f0 by omega), decide_eq_true (show l[i].f3 ≥ l[i - 1].f3 by omega), Bool.true_and]
            exact hnext

theorem ref_end {x : Ls} (h : oneL x = true) : chargeparkref16_End.f x.f0 x.f1 x.f2 x.f3 x.f4 = some (endL x) := by
  obtain ⟨_, _, _, ⟨h1, h2⟩, h3, h4⟩ := oneL_bounds h
  have e1 : chargeparkref15_Wait.f x.f4 = some (waitN x.f4, 0) := by
    unfold chargeparkref15_Wait.f chargeparkref15_Ticks.f waitN
    rw [if_pos (show x.f4 ≥ 0 by omega), decide_eq_true (show x.f4 ≤ 1000000 by omega)]
    simp only [Option.bind_some, if_true]
    rw [lp_wrap (x := x.f4 * 1000000) (by omega) (by omega), lp_wrap (x := x.f4 * 1000000 + 999799) (by omega) (by omega), Int.tdiv_eq_ediv_of_nonneg (by omega), lp_wrap (by omega) (by omega)]
  unfold chargeparkref16_End.f
  rw [e1]
  have hw : 0 ≤ waitN x.f4 ∧ waitN x.f4 ≤ 2000 := by unfold waitN; omega
  simp only [Option.bind_some]
  rw [lp_wrap (x := x.f3 + 10) (by omega) (by omega), lp_wrap (by omega) (by omega)]
  rfl

theorem ref_ints (a : List Int) (ha : a.length ≤ 1000) : Ev (fun k => chargeparkref16_Ints.f k a a) true := by
  unfold chargeparkref16_Ints.f
  simp only [if_true]
  suffices H : ∀ d i : Nat, a.length - i = d → i ≤ a.length → Ev (fun k => chargeparkref16_Ints.l0 k a a (i : Int)) true from H a.length 0 (by omega) (by omega)
  intro d
  induction d with
  | zero =>
    intro i hd hi
    refine evs ?_
    simp only [chargeparkref16_Ints.l0, if_neg (show ¬ (i : Int) < (a.length : Int) by omega)]
    exact Ev.now _
  | succ d ih =>
    intro i hd hi
    refine evs ?_
    simp only [chargeparkref16_Ints.l0, if_pos (show (i : Int) < (a.length : Int) by omega), if_pos (show (0 : Int) ≤ (i : Int) by omega), if_true, lp_wrap (x := (i : Int) + 1) (by omega) (by omega)]
    exact ih (i + 1) (by omega) (by omega)
theorem ref_same (a : List Ls) (ha : a.length ≤ 1000) : Ev (fun k => chargeparkref16_Same.f k a a) true := by
  unfold chargeparkref16_Same.f
  simp only [if_true]
  suffices H : ∀ d i : Nat, a.length - i = d → i ≤ a.length → Ev (fun k => chargeparkref16_Same.l0 k a a (i : Int)) true from H a.length 0 (by omega) (by omega)
  intro d
  induction d with
  | zero =>
    intro i hd hi
    refine evs ?_
    simp only [chargeparkref16_Same.l0, if_neg (show ¬ (i : Int) < (a.length : Int) by omega)]
    exact Ev.now _
  | succ d ih =>
    intro i hd hi
    refine evs ?_
    simp only [chargeparkref16_Same.l0, if_pos (show (i : Int) < (a.length : Int) by omega), if_pos (show (0 : Int) ≤ (i : Int) by omega), beq_self_eq_true, Bool.not_true, Bool.or_false, if_neg (show ¬ (false = true) by decide), lp_wrap (x := (i : Int) + 1) (by omega) (by omega)]
    exact ih (i + 1) (by omega) (by omega)

theorem ref_head : Ev (fun k => chargeparklaw16_head.f k) true :=
  Ev.of chargeparklaw16_head.mono (k := 6) (by decide +kernel)

theorem take_snoc {α : Type} (l : List α) (i : Nat) (h : i < l.length) : l.take (i + 1) = l.take i ++ [l[i]] := by
  rw [List.take_add_one, List.getElem?_eq_getElem h]; rfl

theorem ref_grant (l : List Ls) (x : Ls) (hl : l.length ≤ 1000) : Ev (fun k => chargeparkref16_Grant.f k l x.f0 x.f1 x.f2 x.f3 x.f4) (grantL l x) := by
  unfold chargeparkref16_Grant.f grantL
  refine Ev.bind (ref_valid l hl) ?_
  have hno : Ev (fun k => chargeparkref16_Grant.j0 k l true x.f0 x.f1 x.f2 x.f3 x.f4) (([] : List Ls), (1 : Int)) := by
    refine evs ?_
    simp only [chargeparkref16_Grant.j0, if_true]
    exact Ev.now _
  cases b : validL l
  · simp only [if_neg (show ¬ (false = true) by decide), Bool.false_and]
    exact hno
  · simp only [if_true, Bool.true_and]
    refine evb (one_ev x) ?_
    cases b2 : oneL x
    · simp only [Bool.not_false, if_neg (show ¬ (false = true) by decide)]
      exact hno
    · simp only [Bool.not_true, if_true]
      have hloop : ∀ d i : Nat, l.length - i = d → i ≤ l.length → Ev (fun k => chargeparkref16_Grant.l0 k l (l.length : Int) (l.take i) (i : Int) x.f0 x.f1 x.f2 x.f3 x.f4) (l ++ [x], (0 : Int)) := by
        intro d
        induction d with
        | zero =>
          intro i hd hi
          obtain rfl : i = l.length := by omega
          refine evs ?_
          simp only [chargeparkref16_Grant.l0, if_neg (show ¬ (l.length : Int) < (l.length : Int) by omega), List.take_length, if_pos (show l.length < 3518437208883 by omega), ls_eta]
          exact Ev.now _
        | succ d ih =>
          intro i hd hi
          have hlt : i < l.length := by omega
          have := ih (i + 1) (by omega) (by omega)
          rw [take_snoc l i hlt] at this
          refine evs ?_
          simp only [chargeparkref16_Grant.l0, if_pos (show (i : Int) < (l.length : Int) by omega), if_pos (show (0 : Int) ≤ (i : Int) by omega), if_pos (show (l.take i).length < 3518437208883 by rw [List.length_take]; omega), rd_at l i hlt, ls_eta, lp_wrap (x := (i : Int) + 1) (by omega) (by omega)]
          exact this
      have hj1 : ∀ c : Bool, Ev (fun k => chargeparkref16_Grant.j1 k l (l.length : Int) c x.f0 x.f1 x.f2 x.f3 x.f4) (if c = true then ([], 12) else if l.length = 64 then ([], 10) else (l ++ [x], 0)) := by
        intro c
        refine evs ?_
        cases c
        · simp only [chargeparkref16_Grant.j1, if_neg (show ¬ (false = true) by decide)]
          by_cases e : l.length = 64
          · simp only [if_pos (show (l.length : Int) = 64 by omega), if_pos e]
            exact Ev.now _
          · simp only [if_neg (show ¬ (l.length : Int) = 64 by omega), if_neg e]
            exact hloop l.length 0 (by omega) (by omega)
        · simp only [chargeparkref16_Grant.j1, if_true]
          exact Ev.now _
      refine evs ?_
      simp only [chargeparkref16_Grant.j0, if_neg (show ¬ (false = true) by decide)]
      by_cases e : l.length = 0
      · simp only [if_neg (show ¬ (l.length : Int) > 0 by omega), if_neg (show ¬ (l.length > 0 ∧ afterL x (l.getD (l.length - 1) x) = false) from fun h => by omega)]
        have := hj1 false
        simp only [if_neg (show ¬ (false = true) by decide)] at this
        exact this
      · have hj : l.length - 1 < l.length := by omega
        have w1 : wrap64 ((l.length : Int) - 1) = ((l.length - 1 : Nat) : Int) := by rw [lp_wrap (by omega) (by omega)]; omega
        have hg : l.getD (l.length - 1) x = l[l.length - 1] := by rw [List.getD_eq_getElem?_getD, List.getElem?_eq_getElem hj]; rfl
        simp only [if_pos (show (l.length : Int) > 0 by omega), w1, if_pos (show (0 : Int) ≤ ((l.length - 1 : Nat) : Int) by omega), if_pos (show ((l.length - 1 : Nat) : Int) < (l.length : Int) by omega), rd_at l (l.length - 1) hj, hg]
        generalize l[l.length - 1] = y
        unfold afterL
        by_cases e1 : x.f0 ≤ y.f0
        · simp only [if_pos e1, decide_eq_false (show ¬ x.f0 > y.f0 by omega), Bool.false_and]
          rw [if_pos ⟨by omega, trivial⟩]
          exact hj1 true
        · simp only [if_neg e1, decide_eq_true (show x.f0 > y.f0 by omega), Bool.true_and]
          by_cases e2 : x.f3 < y.f3
          · rw [if_pos ⟨by omega, by simp; omega⟩, decide_eq_true e2]
            exact hj1 true
          · rw [if_neg (fun h => by have := h.2; simp at this; omega), decide_eq_false e2]
            exact hj1 false

theorem rd_fold (tick : Int) (l : List Ls) (i : Nat) (h : i < l.length) : True := trivial
/-- The reference's Alive. -/
theorem ref_alive (l : List Ls) (ch tick : Int) (hl : l.length ≤ 1000) : Ev (fun k => chargeparkref16_Alive.f k l ch tick) (aliveR l ch tick) := by
  unfold chargeparkref16_Alive.f
  refine Ev.bind (ref_valid l hl) ?_
  have hno : Ev (fun k => chargeparkref16_Alive.j0 k l ch tick true) (([] : List Int), (1 : Int)) := by
    refine evs ?_
    simp only [chargeparkref16_Alive.j0, if_true]
    exact Ev.now _
  cases b : validL l
  · have e : aliveR l ch tick = ([], 1) := by unfold aliveR; rw [b]; rfl
    rw [e]
    simp only [if_neg (show ¬ (false = true) by decide)]
    exact hno
  · simp only [if_true]
    have hok := ((validL_iff l).1 b).2.1
    by_cases c1 : ch < 0
    · have e : aliveR l ch tick = ([], 1) := by
        have hi : inI ch 0 16 = false := by unfold inI; simp; omega
        unfold aliveR; rw [b, hi]; rfl
      rw [e]; simp only [if_pos c1]; exact hno
    · by_cases c2 : ch > 16
      · have e : aliveR l ch tick = ([], 1) := by
          have hi : inI ch 0 16 = false := by unfold inI; simp; omega
          unfold aliveR; rw [b, hi]; rfl
        rw [e]; simp only [if_neg c1, if_pos c2]; exact hno
      · by_cases c3 : tick < 0
        · rw [alive_bad (by omega)]; simp only [if_neg c1, if_neg c2, if_pos c3]; exact hno
        · by_cases c4 : tick > 1100000
          · rw [alive_bad (by omega)]; simp only [if_neg c1, if_neg c2, if_neg c3, decide_eq_true c4]; exact hno
          · simp only [if_neg c1, if_neg c2, if_neg c3, decide_eq_false c4]
            refine evs ?_
            simp only [chargeparkref16_Alive.j0, if_neg (show ¬ (false = true) by decide), if_pos (show (0 : Int) ≤ ch by omega), if_pos (show ch.toNat ≤ 35184372088832 by omega)]
            have hcn : (ch.toNat : Int) = ch := Int.toNat_of_nonneg (by omega)
            suffices H : ∀ d i : Nat, l.length - i = d → i ≤ l.length → (∀ x ∈ l.take i, x.f1 < ch) → Ev (fun k => chargeparkref16_Alive.l0 k l ch tick (vec ch.toNat (mv tick (l.take i))) (i : Int)) (aliveR l ch tick) by
              have := H l.length 0 (by omega) (by omega) (by simp)
              rw [show l.take 0 = [] from rfl, show vec ch.toNat (mv tick []) = List.replicate ch.toNat 0 from (vec_zero _).symm] at this
              exact this
            intro d
            induction d with
            | zero =>
              intro i hd hi hc
              obtain rfl : i = l.length := by omega
              rw [List.take_length] at hc ⊢
              refine evs ?_
              simp only [chargeparkref16_Alive.l0, if_neg (show ¬ (l.length : Int) < (l.length : Int) by omega)]
              rw [alive_yes b (by omega) (by omega) hc (by omega)]
              exact Ev.now _
            | succ d ih =>
              intro i hd hi hc
              have hlt : i < l.length := by omega
              have hx := hok l[i] (List.getElem_mem hlt)
              obtain ⟨_, ⟨h1, _⟩, ⟨h2, _⟩, _, _⟩ := oneL_bounds hx
              have ih := ih (i + 1) (by omega) (by omega)
              rw [take_snoc l i hlt] at ih
              refine evs ?_
              simp only [chargeparkref16_Alive.l0, if_pos (show (i : Int) < (l.length : Int) by omega), if_pos (show (0 : Int) ≤ (i : Int) by omega), rd_at l i hlt]
              by_cases d1 : l[i].f1 ≥ ch
              · have e : aliveR l ch tick = ([], 1) := by
                  have ha : anyFrom ch l = true := by unfold anyFrom; rw [List.any_eq_true]; exact ⟨l[i], List.getElem_mem hlt, decide_eq_true (by omega)⟩
                  unfold aliveR; rw [b, ha]; simp
                rw [e]
                simp only [if_pos d1]
                exact Ev.now _
              · have ih := ih (fun x hx => by
                  rcases List.mem_append.1 hx with hx | hx
                  · exact hc x hx
                  · obtain rfl : x = l[i] := by simpa using hx
                    omega)
                have hsn : ∀ v, mv tick (l.take i ++ [l[i]]) v = max (mv tick (l.take i) v) (gv tick l[i] v) := fun v => by
                  rw [mv_append]
                  have := gv_nonneg hx tick v
                  show max _ (max _ 0) = _
                  omega
                have hsame : (∀ v, gv tick l[i] v = 0) → vec ch.toNat (mv tick (l.take i ++ [l[i]])) = vec ch.toNat (mv tick (l.take i)) := fun h0 => vec_congr _ (fun v _ => by rw [hsn, h0]; have := mv_nonneg (l := l.take i) tick v; omega)
                simp only [if_neg d1]
                rw [show ((i : Int) + 1) = ((i + 1 : Nat) : Int) from rfl]
                by_cases d2 : l[i].f3 ≤ tick
                · simp only [if_pos d2]
                  refine evb (ref_end hx) ?_
                  by_cases d3 : tick < endL l[i]
                  · have hmx : ∀ a c : Int, mx a c = max a c := fun a c => by unfold mx; omega
                    have hset : vec ch.toNat (mv tick (l.take i ++ [l[i]])) = (vec ch.toNat (mv tick (l.take i))).set l[i].f1.toNat (mx (rd (vec ch.toNat (mv tick (l.take i))) l[i].f1) l[i].f2) := by
                      rw [vec_rd _ _ _ h1 (by omega), vec_set _ _ _ h1 (by omega), hmx]
                      refine vec_congr _ (fun v _ => ?_)
                      rw [hsn]
                      unfold gv
                      have := mv_nonneg (l := l.take i) tick v
                      by_cases e : (v : Int) = l[i].f1
                      · rw [if_pos e, if_pos ⟨d2, d3, e.symm⟩, e]
                      · rw [if_neg e, if_neg (fun k => e k.2.2.symm)]; omega
                    rw [hset] at ih
                    simp only [if_pos d3, if_pos h1, if_pos (show l[i].f1 < ((vec ch.toNat (mv tick (l.take i))).length : Int) by rw [vec_length]; omega), lp_wrap (x := ((i + 1 : Nat) : Int)) (by omega) (by omega)]
                    exact ih
                  · rw [hsame (fun v => by unfold gv; rw [if_neg (fun k => d3 k.2.1)])] at ih
                    simp only [if_neg d3, lp_wrap (x := ((i + 1 : Nat) : Int)) (by omega) (by omega)]
                    exact ih
                · rw [hsame (fun v => by unfold gv; rw [if_neg (fun k => d2 k.1)])] at ih
                  simp only [if_neg d2, lp_wrap (x := ((i + 1 : Nat) : Int)) (by omega) (by omega)]
                  exact ih

/-- The reference's Expire. -/
theorem ref_expire (l : List Ls) (tick : Int) (hl : l.length ≤ 1000) : Ev (fun k => chargeparkref16_Expire.f k l tick) (expireL l tick) := by
  unfold chargeparkref16_Expire.f
  refine Ev.bind (ref_valid l hl) ?_
  have hno : Ev (fun k => chargeparkref16_Expire.j0 k l tick true) (([] : List Ls), (1 : Int)) := by
    refine evs ?_
    simp only [chargeparkref16_Expire.j0, if_true]
    exact Ev.now _
  have hbad : ¬ (0 ≤ tick ∧ tick ≤ 1100000) → expireL l tick = ([], 1) := fun h => by
    have hj : inI tick 0 1100000 = false := by unfold inI; simp; omega
    unfold expireL; rw [hj, Bool.and_false]; rfl
  cases b : validL l
  · have e : expireL l tick = ([], 1) := by unfold expireL; rw [b]; rfl
    rw [e]
    simp only [if_neg (show ¬ (false = true) by decide)]
    exact hno
  · simp only [if_true]
    have hok := ((validL_iff l).1 b).2.1
    by_cases c3 : tick < 0
    · rw [hbad (by omega)]; simp only [if_pos c3]; exact hno
    · by_cases c4 : tick > 1100000
      · rw [hbad (by omega)]; simp only [if_neg c3, decide_eq_true c4]; exact hno
      · simp only [if_neg c3, decide_eq_false c4]
        rw [expire_yes b (by omega)]
        refine evs ?_
        simp only [chargeparkref16_Expire.j0, if_neg (show ¬ (false = true) by decide)]
        suffices H : ∀ d i : Nat, l.length - i = d → i ≤ l.length → Ev (fun k => chargeparkref16_Expire.l0 k l tick (aliveL tick (l.take i)) (i : Int)) (aliveL tick l, (0 : Int)) from H l.length 0 (by omega) (by omega)
        intro d
        induction d with
        | zero =>
          intro i hd hi
          obtain rfl : i = l.length := by omega
          refine evs ?_
          simp only [chargeparkref16_Expire.l0, if_neg (show ¬ (l.length : Int) < (l.length : Int) by omega), List.take_length]
          exact Ev.now _
        | succ d ih =>
          intro i hd hi
          have hlt : i < l.length := by omega
          have hx := hok l[i] (List.getElem_mem hlt)
          have ih := ih (i + 1) (by omega) (by omega)
          have hfl : (aliveL tick (l.take i)).length ≤ 1000 := by
            have := List.length_filter_le (fun x => decide (endL x > tick)) (l.take i)
            have h2 := List.length_take_le i l
            unfold aliveL; omega
          rw [take_snoc l i hlt] at ih
          refine evs ?_
          simp only [chargeparkref16_Expire.l0, if_pos (show (i : Int) < (l.length : Int) by omega), if_pos (show (0 : Int) ≤ (i : Int) by omega), rd_at l i hlt, ls_eta]
          refine evb (ref_end hx) ?_
          rw [show ((i : Int) + 1) = ((i + 1 : Nat) : Int) from rfl]
          by_cases d1 : tick < endL l[i]
          · rw [aliveL_hit d1] at ih
            simp only [if_pos (show endL l[i] > tick from d1), if_pos (show (aliveL tick (l.take i)).length < 3518437208883 by omega), lp_wrap (x := ((i + 1 : Nat) : Int)) (by omega) (by omega)]
            exact ih
          · rw [aliveL_miss d1] at ih
            simp only [if_neg (show ¬ endL l[i] > tick from d1), lp_wrap (x := ((i + 1 : Nat) : Int)) (by omega) (by omega)]
            exact ih

theorem grant_is (l : List Ls) (x : Ls) : lease_Grant.f l x.f0 x.f1 x.f2 x.f3 x.f4 = some (grantL l x) := rfl
theorem alive_is (l : List Ls) (ch tick : Int) : lease_Alive.f l ch tick = some (aliveR l ch tick) := rfl
theorem expire_is (l : List Ls) (tick : Int) : lease_Expire.f l tick = some (expireL l tick) := rfl
theorem valid_is (l : List Ls) : lease_Valid.f l = some (validL l) := rfl
theorem grant_len (l : List Ls) (x : Ls) : (grantL l x).1.length ≤ l.length + 1 := by
  unfold grantL
  split
  · split
    · simp
    · split <;> simp
  · simp
theorem expire_len (l : List Ls) (tick : Int) : (expireL l tick).1.length ≤ l.length := by
  unfold expireL
  split
  · exact List.length_filter_le _ _
  · simp
theorem alive_len (l : List Ls) (ch tick : Int) : (aliveR l ch tick).1.length ≤ 16 := by
  unfold aliveR
  split
  · rename_i h
    simp only [Bool.and_eq_true] at h
    have := h.2.1
    unfold inI at this
    simp only [Bool.and_eq_true, decide_eq_true_eq] at this
    rw [outOf_length]; omega
  · simp
end Go.Proofs.Ytpngiddelhcepaa.LeaseRef
