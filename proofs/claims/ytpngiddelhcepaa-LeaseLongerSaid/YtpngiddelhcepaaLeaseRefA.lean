/-
  What the reference's Valid computes, by its printed text; the head.
-/
import Derived.Test.YtpngiddelhcepaaLeasePlain
import Derived.Test.YtpngiddelhcepaaPAllx2
import Derived.Test.YtpngiddelhcepaaPAllx3
namespace Go.Proofs.Ytpngiddelhcepaa.LeaseRef
open Go.RowKit Go.Proofs.Ytpngiddelhcepaa.PAll Go.Proofs.Ytpngiddelhcepaa.LeaseWalk Go.Proofs.Ytpngiddelhcepaa.LeasePlain Go.Proofs.YtpngiddelhcepaaW.PrintWords Go.Proofs.YtpngiddelhcepaaW.PrintLast Go.Proofs.YtpngiddelhcepaaW.PrintMore
set_option linter.unusedSimpArgs false
set_option linter.unusedVariables false

theorem evs {α : Type} {g : Nat → Option α} {r : α} (h : Ev (fun k => g (k + 1)) r) : Ev g r := Ev.step (fun _ => rfl) h
theorem evn {α : Type} {o : Option α} {r : α} (h : o = some r) : Ev (fun _ => o) r := ⟨0, fun _ _ => h⟩
theorem evb {α β : Type} {o : Option α} {f : Nat → α → Option β} {a : α} {r : β} (h : o = some a) (k : Ev (fun n => f n a) r) : Ev (fun n => o.bind (f n)) r := by
  obtain ⟨K, hK⟩ := k
  exact ⟨K, fun n hn => by rw [h]; exact hK n hn⟩

theorem rd_at (l : List Ls) (i : Nat) (h : i < l.length) : rd_T24 l (i : Int) = l[i] := by
  unfold rd_T24
  rw [List.getD_eq_getElem?_getD, Int.toNat_natCast, List.getElem?_eq_getElem h]; rfl
theorem rd_int (l : List Int) (i : Nat) (h : i < l.length) : rd l (i : Int) = l[i] := by
  unfold rd
  rw [List.getD_eq_getElem?_getD, Int.toNat_natCast, List.getElem?_eq_getElem h]; rfl
theorem ls_eta (x : Ls) : (⟨x.f0, x.f1, x.f2, x.f3, x.f4⟩ : Ls) = x := rfl

theorem one_ev (x : Ls) : chargeparkref16_One.f x.f0 x.f1 x.f2 x.f3 x.f4 = some (oneL x) := by
  unfold chargeparkref16_One.f oneL inI
  by_cases h0 : x.f0 ≥ 1
  · by_cases h1 : x.f0 ≤ 1000000
    · by_cases h2 : x.f1 ≥ 0
      · by_cases h3 : x.f1 < 16
        · by_cases h4 : x.f2 ≥ 0
          · by_cases h5 : x.f2 ≤ 80
            · by_cases h6 : x.f3 ≥ 0
              · by_cases h7 : x.f3 ≤ 1000000
                · by_cases h8 : x.f4 ≥ 1
                  · simp [h0, h1, h2, h3, h4, h5, h6, h7, h8, show x.f1 ≤ 15 by omega]
                  · simp [h0, h1, h2, h3, h4, h5, h6, h7, h8]
                · simp [h0, h1, h2, h3, h4, h5, h6, h7]
              · simp [h0, h1, h2, h3, h4, h5, h6]
            · simp [h0, h1, h2, h3, h4, h5]
          · simp [h0, h1, h2, h3, h4]
        · simp [h0, h1, h2, h3, show ¬ x.f1 ≤ 15 by omega]
      · simp [h0, h1, h2]
    · simp [h0, h1]
  · simp [h0]

theorem ref_valid (l : List Ls) (hl : l.length ≤ 1000) : Ev (fun k => chargeparkref16_Valid.f k l) (validL l) := by
  unfold chargeparkref16_Valid.f
  suffices H : ∀ d i : Nat, l.length - i = d → i ≤ l.length → Ev (fun k => chargeparkref16_Valid.l0 k l (i : Int)) (validFrom (pv l i) (l.drop i) && decide (l.length ≤ 64)) by
    have := H l.length 0 (by omega) (by omega)
    rw [List.drop_zero, show pv l 0 = none from rfl, Bool.and_comm] at this
    exact this
  intro d
  induction d with
  | zero =>
    intro i hd hi
    obtain rfl : i = l.length := by omega
    refine evs ?_
    simp only [chargeparkref16_Valid.l0, if_neg (show ¬ (l.length : Int) < (l.length : Int) by omega), List.drop_length, validFrom, Bool.true_and]
    refine evn ?_
    congr 1
    exact decide_eq_decide.2 (by omega)
  | succ d ih =>
    intro i hd hi
    have hlt : i < l.length := by omega
    have hnext := ih (i + 1) (by omega) (by omega)
    have hp : pv l (i + 1) = some l[i] := by unfold pv; rw [if_neg (by omega)]; simp [hlt]
    rw [hp] at hnext
    refine evs ?_
    rw [List.drop_eq_getElem_cons hlt, validFrom_cons]
    simp only [chargeparkref16_Valid.l0, if_pos (show (i : Int) < (l.length : Int) by omega), if_pos (show (0 : Int) ≤ (i : Int) by omega), rd_at l i hlt]
    refine evb (one_ev l[i]) ?_
    cases b : oneL l[i]
    · simp only [if_neg (show ¬ (false = true) by decide), Bool.false_and]
      exact Ev.now _
    · simp only [if_true, Bool.true_and]
      rw [show ((i : Int) + 1) = ((i + 1 : Nat) : Int) from rfl] at *
      by_cases c : i = 0
      · subst c
        simp only [if_neg (show ¬ ((0 : Nat) : Int) > 0 by omega), show pv l 0 = none from rfl, okAfter, Bool.true_and, lp_wrap (x := ((0 + 1 : Nat) : Int)) (by omega) (by omega)]
        exact hnext
      · have hj : i - 1 < l.length := by omega
        have w1 : wrap64 ((i : Int) - 1) = ((i - 1 : Nat) : Int) := by rw [lp_wrap (by omega) (by omega)]; omega
        have hp2 : pv l i = some l[i - 1] := by unfold pv; rw [if_neg c]; simp [hj]
        simp only [if_pos (show (i : Int) > 0 by omega), w1, if_pos (show (0 : Int) ≤ ((i - 1 : Nat) : Int) by omega), if_pos (show ((i - 1 : Nat) : Int) < (l.length : Int) by omega), rd_at l (i - 1) hj, hp2, okAfter, lp_wrap (x := ((i + 1 : Nat) : Int)) (by omega) (by omega)]
        unfold afterL
        by_cases e1 : l[i].f0 ≤ l[i - 1].f0
        · simp only [if_pos e1, decide_eq_false (show ¬ l[i].f0 > l[i - 1].f0 by omega), Bool.false_and]
          exact Ev.now _
        · by_cases e2 : l[i].f3 < l[i - 1].f3
          · simp only [if_neg e1, if_pos e2, decide_eq_true (show l[i].f0 > l[i - 1].f0 by omega), decide_eq_false (show ¬ l[i].f3 ≥ l[i - 1].f3 by omega), Bool.and_false, Bool.false_and]
            exact Ev.now _
          · simp only [if_neg e1, if_neg e2, decide_eq_true (show l[i].f0 > l[i - 1].f0 by omega), decide_eq_true (show l[i].f3 ≥ l[i - 1].f3 by omega), Bool.true_and]
            exact hnext

theorem ref_ints (a : List Int) (ha : a.length ≤ 1000) : Ev (fun k => chargeparkref16_Ints.f k a a) true := by
  unfold chargeparkref16_Ints.f
  simp only [if_true]
  suffices H : ∀ d i : Nat, a.length - i = d → i ≤ a.length → Ev (fun k => chargeparkref16_Ints.l0 k a a (i : Int)) true from H a.length 0 (by omega) (by omega)
  intro d
  induction d with
  | zero =>
    intro i hd hi
    refine evs ?_
    simp only [chargeparkref16_Ints.l0, if_neg (show ¬ (i : Int) < (a.length : Int) by omega)]
    exact Ev.now _
  | succ d ih =>
    intro i hd hi
    refine evs ?_
    simp only [chargeparkref16_Ints.l0, if_pos (show (i : Int) < (a.length : Int) by omega), if_pos (show (0 : Int) ≤ (i : Int) by omega), if_true, lp_wrap (x := (i : Int) + 1) (by omega) (by omega)]
    exact ih (i + 1) (by omega) (by omega)
theorem ref_head : Ev (fun k => chargeparklaw16_head.f k) true :=
  Ev.of chargeparklaw16_head.mono (k := 6) (by decide +kernel)

theorem take_snoc {α : Type} (l : List α) (i : Nat) (h : i < l.length) : l.take (i + 1) = l.take i ++ [l[i]] := by
  rw [List.take_add_one, List.getElem?_eq_getElem h]; rfl

theorem alive_is (l : List Ls) (ch tick : Int) : lease_Alive.f l ch tick = some (aliveR l ch tick) := rfl
theorem valid_is (l : List Ls) : lease_Valid.f l = some (validL l) := rfl
end Go.Proofs.Ytpngiddelhcepaa.LeaseRef
