/-
  For any late car that is plugged in, and currents that are allowed tick by tick, what it draws is at most what is allowed now, and what was allowed Delay ticks ago; with the delay 0 it draws what a good car draws.
-/
import Derived.Test.YtojjdpbjcaedpaaPAllx8
import Derived.Test.YtojjdpbjcaedpaaCarPlain
namespace Go.Proofs.Ytojjdpbjcaedpaa.Pure
open Go.RowKit Go.Proofs.Ytojjdpbjcaedpaa.PAll Go.Proofs.Ytojjdpbjcaedpaa.CarWalk Go.Proofs.Ytojjdpbjcaedpaa.CarA Go.Proofs.Ytojjdpbjcaedpaa.CarB Go.Proofs.Ytojjdpbjcaedpaa.CarDraw Go.Proofs.Ytojjdpbjcaedpaa.CarGood Go.Proofs.Ytojjdpbjcaedpaa.CarExt Go.Proofs.Ytojjdpbjcaedpaa.CarPlain
open Go.Proofs.YtojjdpbjcaedpaaW.PrintWords Go.Proofs.YtojjdpbjcaedpaaW.PrintLast Go.Proofs.YtojjdpbjcaedpaaW.PrintMore
set_option linter.unusedVariables false
set_option linter.unusedSimpArgs false

/-- What a late car remembers at tick i. -/
def past (l2 : List Int) (i : Nat) : List Int := (l2.take i).drop (i - 21)
theorem past_length (l2 : List Int) (i : Nat) (h : i ≤ l2.length) : (past l2 i).length = min i 21 := by
  unfold past
  rw [List.length_drop, List.length_take]
  omega
theorem past_next (l2 : List Int) (i : Nat) (h : i < l2.length) : (past l2 i ++ [l2[i]]).drop ((past l2 i).length + 1 - 21) = past l2 (i + 1) := by
  have hl := past_length l2 i (by omega)
  have e : past l2 i ++ [l2[i]] = (l2.take (i + 1)).drop (i - 21) := by
    unfold past
    rw [List.take_add_one, List.getElem?_eq_getElem h]
    rw [List.drop_append_of_le_length (by rw [List.length_take]; omega)]
    rfl
  rw [e, hl, List.drop_drop]
  unfold past
  congr 1
  omega
theorem past_rd (l2 : List Int) (i d : Nat) (h : i < l2.length) (hd : d ≤ 20) (hid : d ≤ i) : rd (past l2 i ++ [l2[i]]) (((past l2 i ++ [l2[i]]).length : Int) - 1 - (d : Int)) = l2[i - d] := by
  have hl := past_length l2 i (by omega)
  have e : past l2 i ++ [l2[i]] = (l2.take (i + 1)).drop (i - 21) := by
    unfold past
    rw [List.take_add_one, List.getElem?_eq_getElem h]
    rw [List.drop_append_of_le_length (by rw [List.length_take]; omega)]
    rfl
  have hlen : (past l2 i ++ [l2[i]]).length = min i 21 + 1 := by rw [List.length_append, hl]; rfl
  rw [show ((past l2 i ++ [l2[i]]).length : Int) - 1 - (d : Int) = ((min i 21 - d : Nat) : Int) by rw [hlen]; omega]
  rw [cp_rd _ _ (by rw [hlen]; omega)]
  simp only [e, List.getElem_drop, List.getElem_take]
  congr 1
  omega
theorem late_at (l2 : List Int) (i d : Nat) (h : i < l2.length) (hd : d ≤ 20) : lateI (past l2 i) (d : Int) l2[i] = if d ≤ i then mn l2[i] (l2[i - d]'(by omega)) else 0 := by
  have hl := past_length l2 i (by omega)
  have hlen : (past l2 i ++ [l2[i]]).length = min i 21 + 1 := by rw [List.length_append, hl]; rfl
  unfold lateI
  by_cases hid : d ≤ i
  · rw [if_pos hid, if_neg (by rw [hlen]; omega), past_rd l2 i d h hd hid]
  · rw [if_neg hid, if_pos (by rw [hlen]; omega)]

theorem late_l (c : Car) (hv : Valid c) (hk : c.f0 = 1) (x1 : Int) (l2 : List Int) (hl : l2.length ≤ 100) : ∀ n i : Nat, l2.length - i = n → i ≤ l2.length → ∀ (got : Int), Rem (past l2 i) (i : Int) got → got ≤ 1000552000 →
    Ev (fun k => chargeparklaw13_CarLate.l0 k x1 l2 true l2 (l2.length : Int) (i : Int) c.f0 c.f1 c.f2 c.f3 c.f4 (past l2 i) (i : Int) got 0 c.f1 c.f2 c.f3 c.f4) true := by
  intro n
  induction n with
  | zero =>
    intro i hd hi got hr hg
    refine evs ?_
    simp only [chargeparklaw13_CarLate.l0, if_neg (show ¬ (i : Int) < (l2.length : Int) by omega)]
    exact Ev.now _
  | succ n ih =>
    intro i hd hi got hr hg
    have hlt : i < l2.length := by omega
    obtain ⟨d, hde⟩ : ∃ d : Nat, (d : Int) = c.f4 := ⟨c.f4.toNat, by have := hv.d0; omega⟩
    have hd20 := hv.d20
    refine evs ?_
    simp only [chargeparklaw13_CarLate.l0, if_pos (show (i : Int) < (l2.length : Int) by omega), if_pos (Int.natCast_nonneg _), cp_rd l2 i hlt]
    obtain ⟨al, hal⟩ : ∃ al, l2[i] = al := ⟨_, rfl⟩
    rw [hal]
    by_cases hf : Fine c (past l2 i) (i : Int) got x1 al
    · refine evb (draw_fine hf) ?_
      simp only [show (drawR c (past l2 i) (i : Int) got x1 al).2.2.2.2.2 = 0 from rfl, if_true]
      have hb := amps_bounds hf (comm c.f0 c.f1 x1)
      have hq := on_cnt hf
      have hon := fun h => amps_on (c := c) (l := past l2 i) (t := (i : Int)) (g := got) (al := al) (on := comm c.f0 c.f1 x1) h
      have hst := got_step hb.1 hb.2 hv.m80 hq
      have hg0 := hr.g0
      have hn1 := hv.n1
      have hmax : got + 2300 * amps c (past l2 i) (i : Int) got (comm c.f0 c.f1 x1) al * cnt (onOf c (past l2 i) (i : Int) got x1 al) ≤ 1000552000 := by
        by_cases e : amps c (past l2 i) (i : Int) got (comm c.f0 c.f1 x1) al = 0
        · rw [e]; omega
        · have := (hon e).2; omega
      have hnext := rem_next hf (g' := got + 2300 * amps c (past l2 i) (i : Int) got (comm c.f0 c.f1 x1) al * cnt (onOf c (past l2 i) (i : Int) got x1 al)) (by omega) (by omega)
      have hpn := past_next l2 i hlt
      rw [hal] at hpn
      rw [hpn, show (i : Int) + 1 = ((i + 1 : Nat) : Int) by omega] at hnext
      have hrec : Ev (fun k => chargeparklaw13_CarLate.l0 k x1 l2 true l2 (l2.length : Int) (wrap64 ((i : Int) + 1)) c.f0 c.f1 c.f2 c.f3 c.f4 (drawR c (past l2 i) (i : Int) got x1 al).2.2.1 (drawR c (past l2 i) (i : Int) got x1 al).2.2.2.1 (drawR c (past l2 i) (i : Int) got x1 al).2.2.2.2.1 0 c.f1 c.f2 c.f3 c.f4) true := by
        have := ih (i + 1) (by omega) (by omega) _ hnext hmax
        rw [show wrap64 ((i : Int) + 1) = ((i + 1 : Nat) : Int) by rw [cp_wrap (by omega) (by omega)]; omega]
        show Ev (fun k => chargeparklaw13_CarLate.l0 k x1 l2 true l2 (l2.length : Int) ((i + 1 : Nat) : Int) c.f0 c.f1 c.f2 c.f3 c.f4 ((past l2 i ++ [al]).drop ((past l2 i).length + 1 - 21)) ((i : Int) + 1) (got + 2300 * amps c (past l2 i) (i : Int) got (comm c.f0 c.f1 x1) al * cnt (onOf c (past l2 i) (i : Int) got x1 al)) 0 c.f1 c.f2 c.f3 c.f4) true
        rw [hpn, show (i : Int) + 1 = ((i + 1 : Nat) : Int) by omega]
        exact this
      -- what it draws
      have hcur : curV c (past l2 i) (i : Int) al = lateI (past l2 i) (d : Int) al := by unfold curV; rw [if_pos hk, hde]
      have hla := late_at l2 i d hlt (by omega)
      rw [hal] at hla
      have hA : amps c (past l2 i) (i : Int) got (comm c.f0 c.f1 x1) al ≤ lateI (past l2 i) (d : Int) al := by
        have h0 := cur_nonneg hf
        rw [amps_eq, hcur] at *
        unfold mn
        repeat' split
        all_goals omega
      -- the good car
      have hdg : ∀ bt, car_Draw.f 0 c.f1 c.f2 c.f3 c.f4 (past l2 i) (i : Int) got x1 al = some bt → c.f4 = 0 → bt.2.2.2.2.2 = 0 ∧ bt.1 = amps c (past l2 i) (i : Int) got (comm c.f0 c.f1 x1) al ∧ bt.2.1 = onOf c (past l2 i) (i : Int) got x1 al := by
        intro bt hbt h40
        have hvg : Valid ⟨0, c.f1, c.f2, c.f3, c.f4⟩ := ⟨by show (0 : Int) ≤ 0; decide, by show (0 : Int) ≤ 4; decide, hv.p1, hv.p7, hv.m1, hv.m80, hv.n0, hv.n1, hv.d0, hv.d20, fun e => by cases e⟩
        have hfg : Fine ⟨0, c.f1, c.f2, c.f3, c.f4⟩ (past l2 i) (i : Int) got x1 al := ⟨hvg, hf.r, hf.p1, hf.p7, hf.a0, hf.a80, hf.t⟩
        have h := draw_fine hfg
        have h2 : some bt = some (drawR ⟨0, c.f1, c.f2, c.f3, c.f4⟩ (past l2 i) (i : Int) got x1 al) := hbt.symm.trans h
        have h3 := Option.some.inj h2
        have hcm : comm c.f0 c.f1 x1 = comm 0 c.f1 x1 := by rw [hk]; rfl
        have hcv : curV c (past l2 i) (i : Int) al = curV ⟨0, c.f1, c.f2, c.f3, c.f4⟩ (past l2 i) (i : Int) al := by
          rw [hcur, hla]
          have hd0 : d = 0 := by omega
          subst hd0
          rw [if_pos (Nat.zero_le _)]
          show mn al (l2[i - 0]'(by omega)) = al
          simp only [Nat.sub_zero, hal]
          unfold mn
          split <;> rfl
        have ha : amps ⟨0, c.f1, c.f2, c.f3, c.f4⟩ (past l2 i) (i : Int) got (comm 0 c.f1 x1) al = amps c (past l2 i) (i : Int) got (comm c.f0 c.f1 x1) al := by
          rw [amps_eq, amps_eq, hcv, hcm]
        refine ⟨by rw [h3]; rfl, ?_, ?_⟩
        · rw [h3]; exact ha
        · rw [h3]
          show onOf ⟨0, c.f1, c.f2, c.f3, c.f4⟩ (past l2 i) (i : Int) got x1 al = _
          unfold onOf
          show (if amps ⟨0, c.f1, c.f2, c.f3, c.f4⟩ (past l2 i) (i : Int) got (comm 0 c.f1 x1) al = 0 then 0 else comm 0 c.f1 x1) = _
          rw [ha, hcm]
      obtain ⟨bt, hbt⟩ : ∃ bt, car_Draw.f 0 c.f1 c.f2 c.f3 c.f4 (past l2 i) (i : Int) got x1 al = some bt := ⟨_, rfl⟩
      have hd1 := show (drawR c (past l2 i) (i : Int) got x1 al).1 = amps c (past l2 i) (i : Int) got (comm c.f0 c.f1 x1) al from rfl
      have hd2 := show (drawR c (past l2 i) (i : Int) got x1 al).2.1 = onOf c (past l2 i) (i : Int) got x1 al from rfl
      by_cases hid : d ≤ i
      · rw [if_pos hid] at hla
        have hw : wrap64 ((i : Int) - c.f4) = ((i - d : Nat) : Int) := by rw [cp_wrap (by omega) (by omega)]; omega
        simp only [if_pos (show (i : Int) ≥ c.f4 by omega), hw, if_pos (Int.natCast_nonneg _), if_pos (show ((i - d : Nat) : Int) < (l2.length : Int) by omega), cp_rd l2 (i - d) (by omega)]
        refine evb hbt ?_
        rw [hla] at hA
        simp only [hd1, if_neg (show ¬ amps c (past l2 i) (i : Int) got (comm c.f0 c.f1 x1) al > mn al (l2[i - d]'(by omega)) by omega)]
        by_cases h40 : c.f4 = 0
        · obtain ⟨q1, q2, q3⟩ := hdg bt hbt h40
          simp only [if_pos h40, q1, q2, q3, hd2, if_true]
          exact hrec
        · simp only [if_neg h40]
          exact hrec
      · rw [if_neg hid] at hla
        simp only [if_neg (show ¬ (i : Int) ≥ c.f4 by omega)]
        refine evb hbt ?_
        rw [hla] at hA
        have ha0 := hf.a0
        have hmn : mn al 0 = 0 := by unfold mn; split <;> omega
        simp only [hd1, hmn, if_neg (show ¬ amps c (past l2 i) (i : Int) got (comm c.f0 c.f1 x1) al > 0 by omega), if_neg (show ¬ c.f4 = 0 by omega)]
        exact hrec
    · refine evb (draw_bad hf) ?_
      exact Ev.now _

theorem CarLate : chargeparklaw13_CarLate.Pure := by
  intro c x1 l2 hc hx hm hm8 hw
  unfold chargeparklaw13_CarLate.f
  refine Ev.rounds (Ev.bind head_ev ?_)
  have hout : ∀ a b d, Ev (fun k => chargeparklaw13_CarLate.j0 k x1 l2 true true 1 c.f1 c.f2 c.f3 c.f4 a b d) true := fun a b d => by
    refine evs ?_
    simp only [chargeparklaw13_CarLate.j0, if_true]
    exact Ev.now _
  by_cases hv : Valid ⟨1, c.f1, c.f2, c.f3, c.f4⟩
  · have hp : car_Plug.f 1 c.f1 c.f2 c.f3 c.f4 = some ([], 0, 0, 0) := plug_good hv
    refine evb hp ?_
    simp only [if_true]
    by_cases h : (l2.length : Int) > 100
    · rw [decide_eq_true h]; exact hout _ _ _
    · rw [decide_eq_false h]
      refine evs ?_
      simp only [chargeparklaw13_CarLate.j0, if_neg (show ¬ (false = true) by decide)]
      exact late_l ⟨1, c.f1, c.f2, c.f3, c.f4⟩ hv rfl x1 l2 (by omega) l2.length 0 (by omega) (by omega) 0 ⟨by simp [past], by simp [past], by decide, by decide, by decide, by decide⟩ (by decide)
  · have hp : car_Plug.f 1 c.f1 c.f2 c.f3 c.f4 = some ([], 0, 0, 1) := plug_bad hv
    refine evb hp ?_
    exact hout _ _ _
end Go.Proofs.Ytojjdpbjcaedpaa.Pure
