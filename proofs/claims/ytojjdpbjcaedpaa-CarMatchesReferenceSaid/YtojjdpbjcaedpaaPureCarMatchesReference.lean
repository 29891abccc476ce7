/-
  For all cars, states (up to 40 currents that are remembered), phases and allowed currents, the functions return what the reference implementation returns.
-/
import Derived.Test.YtojjdpbjcaedpaaPAllx6
import Derived.Test.YtojjdpbjcaedpaaPAllx5
import Derived.Test.YtojjdpbjcaedpaaCarPlain
namespace Go.Proofs.Ytojjdpbjcaedpaa.Pure
open Go.RowKit Go.Proofs.Ytojjdpbjcaedpaa.PAll Go.Proofs.Ytojjdpbjcaedpaa.CarWalk Go.Proofs.Ytojjdpbjcaedpaa.CarA Go.Proofs.Ytojjdpbjcaedpaa.CarB Go.Proofs.Ytojjdpbjcaedpaa.CarDraw Go.Proofs.Ytojjdpbjcaedpaa.CarGood Go.Proofs.Ytojjdpbjcaedpaa.CarExt Go.Proofs.Ytojjdpbjcaedpaa.CarPlain
open Go.Proofs.YtojjdpbjcaedpaaW.PrintWords Go.Proofs.YtojjdpbjcaedpaaW.PrintLast Go.Proofs.YtojjdpbjcaedpaaW.PrintMore
set_option linter.unusedVariables false
set_option linter.unusedSimpArgs false

/-! Valid, State -/
theorem ref_valid (c : Car) : chargeparkref13_Valid.f c.f0 c.f1 c.f2 c.f3 c.f4 = some (validP c [] 0 0) := by
  cases hv : validP c [] 0 0
  · have hn : ¬ Valid c := fun h => by rw [(valid_iff c [] 0 0).2 h] at hv; cases hv
    unfold chargeparkref13_Valid.f
    repeat' split
    all_goals first
      | rfl
      | (exfalso; apply hn; exact ⟨by omega, by omega, by omega, by omega, by omega, by omega, by omega, by omega, by omega, by omega, fun e => by omega⟩)
      | (congr 1; apply decide_eq_false; intro h; apply hn; exact ⟨by omega, by omega, by omega, by omega, by omega, by omega, by omega, by omega, by omega, by omega, fun e => by omega⟩)
  · have h := (valid_iff c [] 0 0).1 hv
    obtain ⟨h1, h2, h3, h4, h5, h6, h7, h8, h9, h10, h11⟩ := h
    unfold chargeparkref13_Valid.f
    rw [if_neg (by omega), if_neg (by omega), if_neg (by omega), if_neg (by omega), if_neg (by omega), if_neg (by omega), if_neg (by omega), if_neg (by omega), if_pos (by omega), if_pos (by omega)]
    by_cases e : c.f0 = 3
    · rw [if_pos e, decide_eq_true (h11 e)]
    · rw [if_neg e]
theorem ref_state (l : List Int) (t g : Int) (hl : l.length ≤ 40) : Ev (fun k => chargeparkref13_State.f k l t g) (remP l t g) := by
  unfold chargeparkref13_State.f
  suffices H : ∀ d i : Nat, l.length - i = d → i ≤ l.length → (∀ j (h : j < l.length), j < i → 0 ≤ l[j] ∧ l[j] ≤ 80) → Ev (fun k => chargeparkref13_State.l0 k (i : Int) l t g) (remP l t g) from
    H l.length 0 (by omega) (by omega) (fun j h hj => by omega)
  intro d
  induction d with
  | zero =>
    intro i hd hi hall
    have ha : ∀ x ∈ l, 0 ≤ x ∧ x ≤ 80 := fun x hx => by
      obtain ⟨j, hj, rfl⟩ := List.getElem_of_mem hx
      exact hall j hj (by omega)
    refine evs ?_
    simp only [chargeparkref13_State.l0, if_neg (show ¬ (i : Int) < (l.length : Int) by omega)]
    cases hr : remP l t g
    · have hn : ¬ Rem l t g := fun h => by rw [(rem_iff l t g).2 h] at hr; cases hr
      refine evn ?_
      repeat' split
      all_goals first
        | rfl
        | (congr 1; apply decide_eq_false; intro h; apply hn; exact ⟨by omega, ha, by omega, by omega, by omega, by omega⟩)
    · have h := (rem_iff l t g).1 hr
      obtain ⟨h1, h2, h3, h4, h5, h6⟩ := h
      simp only [if_pos (show (l.length : Int) ≤ 21 by omega), if_pos (show t ≥ 0 by omega), if_pos h4, if_pos (show g ≥ 0 by omega), decide_eq_true h6]
      exact Ev.now _
  | succ d ih =>
    intro i hd hi hall
    have hlt : i < l.length := by omega
    refine evs ?_
    simp only [chargeparkref13_State.l0, if_pos (show (i : Int) < (l.length : Int) by omega), if_pos (Int.natCast_nonneg _), cp_rd l i hlt]
    have hfalse : ¬ (0 ≤ l[i] ∧ l[i] ≤ 80) → remP l t g = false := fun hb => by
      cases hr : remP l t g
      · rfl
      · exact absurd (((rem_iff l t g).1 hr).all _ (List.getElem_mem hlt)) hb
    by_cases e1 : l[i] < 0
    · simp only [if_pos e1, hfalse (by omega)]
      exact Ev.now _
    · by_cases e2 : l[i] > 80
      · simp only [if_neg e1, if_pos e2, hfalse (by omega)]
        exact Ev.now _
      · simp only [if_neg e1, if_neg e2, show wrap64 ((i : Int) + 1) = ((i + 1 : Nat) : Int) by rw [cp_wrap (by omega) (by omega)]; rfl]
        refine ih (i + 1) (by omega) (by omega) (fun j h hj => ?_)
        by_cases q : j = i
        · subst q; omega
        · exact hall j h (by omega)

/-! common -/
theorem common_free (a b c d e f g h : Int) : ∀ k (x1 x5 x6 x7 : Int), chargeparkref13_common.l0 k x1 x5 x6 x7 a b c d e = chargeparkref13_common.l0 k x1 x5 x6 x7 a b f g h := by
  intro k
  induction k with
  | zero => intros; rfl
  | succ k ih =>
    intro x1 x5 x6 x7
    simp only [chargeparkref13_common.l0, ih]
def rOk (k a b : Nat) : Bool := decide (chargeparkref13_common.l0 6 b 0 1 0 k a 0 0 0 = some (comm k a b))
theorem rOk_all : ((List.range 5).all fun k => (List.range 8).all fun a => (List.range 8).all fun b => rOk k a b) = true := by decide +kernel
theorem ref_common {k a b : Int} (hk : 0 ≤ k ∧ k ≤ 4) (ha : 0 ≤ a ∧ a ≤ 7) (hb : 0 ≤ b ∧ b ≤ 7) (c d e : Int) : Ev (fun n => chargeparkref13_common.f n k a c d e b) (comm k a b) := by
  obtain ⟨k', hk', rfl⟩ := small_nat (n := 5) hk.1 (by omega)
  obtain ⟨a', ha', rfl⟩ := small_nat (n := 8) ha.1 (by omega)
  obtain ⟨b', hb', rfl⟩ := small_nat (n := 8) hb.1 (by omega)
  have h := rOk_all
  rw [List.all_eq_true] at h
  have h := h k' hk'
  rw [List.all_eq_true] at h
  have h := h a' ha'
  rw [List.all_eq_true] at h
  have h := h b' hb'
  unfold rOk at h
  have h := of_decide_eq_true h
  refine Ev.of (chargeparkref13_common.mono _ _ _ _ _ _) (k := 6) ?_
  unfold chargeparkref13_common.f
  rw [common_free _ _ c d e 0 0 0]
  exact h

/-! current -/
theorem mn_comm (a b : Int) : mn a b = mn b a := by unfold mn; repeat' split; all_goals omega
theorem ref_current {c : Car} {l : List Int} {t g ph al : Int} (h : Fine c l t g ph al) : chargeparkref13_current.f c.f0 c.f1 c.f2 c.f3 c.f4 l t g al = some (mn c.f2 (curV c l t al)) := by
  have hl := h.r.len
  have hd := h.v.d0
  have hd20 := h.v.d20
  have ha := h.a0
  have hm1 := h.v.m1
  unfold chargeparkref13_current.f curV
  by_cases h1 : c.f0 = 1
  · rw [if_pos h1, if_pos h1]
    obtain ⟨d, hde⟩ : ∃ d : Nat, (d : Int) = c.f4 := ⟨c.f4.toNat, by omega⟩
    have hlen : ((l ++ [al]).length : Int) = (l.length : Int) + 1 := by simp
    unfold lateI
    rw [hlen]
    by_cases h0 : c.f4 > 0
    · rw [if_pos h0]
      by_cases h2 : (l.length : Int) ≥ c.f4
      · have hw : wrap64 ((l.length : Int) - c.f4) = ((l.length - d : Nat) : Int) := by rw [cp_wrap (by omega) (by omega)]; omega
        rw [if_pos h2, hw, if_pos (Int.natCast_nonneg _), if_pos (by omega), if_neg (by omega), show (l.length : Int) + 1 - 1 - c.f4 = ((l.length - d : Nat) : Int) by omega]
        rw [cp_rd l _ (by omega), cp_rd (l ++ [al]) _ (by rw [List.length_append]; simp; omega), List.getElem_append_left (h := by omega), mn_comm]
      · rw [if_neg h2, if_pos (by omega), mn_comm]
        congr 2
        unfold mn
        split <;> omega
    · have hz : c.f4 = 0 := by omega
      rw [if_neg h0, if_neg (by omega), hz, show (l.length : Int) + 1 - 1 - 0 = ((l.length : Nat) : Int) by omega, cp_rd (l ++ [al]) _ (by simp), List.getElem_append_right (by omega), mn_comm]
      simp
  · rw [if_neg h1, if_neg h1]
    by_cases h3 : c.f0 = 3
    · have hp := h.v.pause h3
      have ht0 := h.r.t0
      have ht1 := h.r.t1
      have d0 : t.tdiv c.f4 = t / c.f4 := Int.tdiv_eq_ediv_of_nonneg ht0
      have d1 : 0 ≤ t / c.f4 := Int.ediv_nonneg ht0 (by omega)
      have d3 : t / c.f4 ≤ 1000000 := Int.le_trans (Int.ediv_le_self _ ht0) ht1
      have d2 : (t / c.f4).tmod 2 = (t / c.f4) % 2 := Int.tmod_eq_emod_of_nonneg d1
      rw [if_pos h3, if_pos h3, if_neg (by omega), d0, cp_wrap (by omega) (by omega), d2]
      unfold pauseI
      by_cases q : (t / c.f4) % 2 = 1
      · rw [if_pos q, if_pos q, mn_comm]
      · rw [if_neg q, if_neg q, mn_comm]
    · rw [if_neg h3, if_neg h3]
      by_cases h4 : c.f0 = 4
      · rw [if_pos h4, if_pos h4, greedy_is ha]
        by_cases q : al > 0
        · rw [if_pos q, if_neg (by omega)]
        · rw [if_neg q, if_pos (by omega), show al = 0 by omega, mn_comm]
      · rw [if_neg h4, if_neg h4, mn_comm]

/-! Draw -/
theorem ref_j2 {c : Car} {l : List Int} {t g ph al : Int} (h : Fine c l t g ph al) :
    Ev (fun k => chargeparkref13_Draw.j2 k al (comm c.f0 c.f1 ph) (amps c l t g (comm c.f0 c.f1 ph) al) l t g) (drawR c l t g ph al) := by
  have hb := amps_bounds h (comm c.f0 c.f1 ph)
  have hq := on_cnt h
  have ho := on_bounds h
  have hl := h.r.len
  have ht0 := h.r.t0
  have ht1 := h.r.t1
  have hg0 := h.r.g0
  have hg1 := h.r.g1
  have hm := h.v.m80
  have hcount := count_is ho.1 ho.2
  have hst := got_step hb.1 hb.2 hm hq
  have w0 : wrap64 (t + 1) = t + 1 := cp_wrap (by omega) (by omega)
  have w1 : wrap64 (2300 * amps c l t g (comm c.f0 c.f1 ph) al) = 2300 * amps c l t g (comm c.f0 c.f1 ph) al := cp_wrap (by omega) (by omega)
  have w2 : wrap64 (2300 * amps c l t g (comm c.f0 c.f1 ph) al * cnt (onOf c l t g ph al)) = 2300 * amps c l t g (comm c.f0 c.f1 ph) al * cnt (onOf c l t g ph al) := cp_wrap (by omega) (by omega)
  have w3 : wrap64 (g + 2300 * amps c l t g (comm c.f0 c.f1 ph) al * cnt (onOf c l t g ph al)) = g + 2300 * amps c l t g (comm c.f0 c.f1 ph) al * cnt (onOf c l t g ph al) := cp_wrap (by omega) (by omega)
  have hal : (l ++ [al]).length = l.length + 1 := by simp
  have hn : ([] : List Int).length + l.length < 17592186044416 := by simp; omega
  have hdrop : (if ((l ++ [al]).length : Int) > 21 then (l ++ [al]).drop (1 : Int).toNat else l ++ [al]) = (l ++ [al]).drop (l.length + 1 - 21) := by
    by_cases q : l.length = 21
    · rw [if_pos (by rw [hal]; omega), show l.length + 1 - 21 = 1 by omega]; rfl
    · rw [if_neg (by rw [hal]; omega), show l.length + 1 - 21 = 0 by omega, List.drop_zero]
  unfold drawR
  by_cases hA : amps c l t g (comm c.f0 c.f1 ph) al = 0
  · have hon : onOf c l t g ph al = 0 := (on_zero h).1 hA
    rw [hon] at hcount w2 w3 ⊢
    refine evs ?_
    simp only [chargeparkref13_Draw.j2, if_pos hA, if_pos hn, List.nil_append, Option.bind_some, if_pos (show l.length < 17592186044416 by omega), hcount, w0, w1, w2, w3]
    refine evn ?_
    rw [← hdrop]
    by_cases q : ((l ++ [al]).length : Int) > 21
    · simp only [if_pos q, if_pos (show (1 : Int) ≤ ((l ++ [al]).length : Int) by omega)]
    · simp only [if_neg q]
  · have hon : onOf c l t g ph al = comm c.f0 c.f1 ph := if_neg hA
    rw [hon] at hcount w2 w3 ⊢
    refine evs ?_
    simp only [chargeparkref13_Draw.j2, if_neg hA, if_pos hn, List.nil_append, Option.bind_some, if_pos (show l.length < 17592186044416 by omega), hcount, w0, w1, w2, w3]
    refine evn ?_
    rw [← hdrop]
    by_cases q : ((l ++ [al]).length : Int) > 21
    · simp only [if_pos q, if_pos (show (1 : Int) ≤ ((l ++ [al]).length : Int) by omega)]
    · simp only [if_neg q]

theorem ref_draw (c : Car) (l : List Int) (t g ph al : Int) (hl : l.length ≤ 40) : Ev (fun k => chargeparkref13_Draw.f k c.f0 c.f1 c.f2 c.f3 c.f4 l t g ph al) (if fine c l t g ph al then drawR c l t g ph al else (0, 0, [], 0, 0, 1)) := by
  unfold chargeparkref13_Draw.f
  refine evb (ref_valid c) ?_
  have hbad : ¬ Fine c l t g ph al → Ev (fun k => chargeparkref13_Draw.j0 k ph al true c.f0 c.f1 c.f2 c.f3 c.f4 l t g) (if fine c l t g ph al then drawR c l t g ph al else (0, 0, [], 0, 0, 1)) := fun hn => by
    rw [if_neg (fun e => hn ((fine_iff _ _ _ _ _ _).1 e))]
    refine evs ?_
    simp only [chargeparkref13_Draw.j0, if_true]
    exact Ev.now _
  cases hv : validP c [] 0 0
  · have hn : ¬ Valid c := fun h => by rw [(valid_iff c [] 0 0).2 h] at hv; cases hv
    simp only [if_neg (show ¬ (false = true) by decide)]
    exact hbad (fun h => hn h.v)
  · have hV := (valid_iff c [] 0 0).1 hv
    simp only [if_true]
    refine Ev.bind (ref_state l t g hl) ?_
    cases hr : remP l t g
    · have hn : ¬ Rem l t g := fun h => by rw [(rem_iff l t g).2 h] at hr; cases hr
      simp only [if_neg (show ¬ (false = true) by decide)]
      exact hbad (fun h => hn h.r)
    · have hR := (rem_iff l t g).1 hr
      simp only [if_true]
      by_cases h1 : ph < 1
      · simp only [if_pos h1]; exact hbad (fun h => by have := h.p1; omega)
      by_cases h2 : ph > 7
      · simp only [if_neg h1, if_pos h2]; exact hbad (fun h => by have := h.p7; omega)
      by_cases h3 : al < 0
      · simp only [if_neg h1, if_neg h2, if_pos h3]; exact hbad (fun h => by have := h.a0; omega)
      by_cases h4 : al > 80
      · simp only [if_neg h1, if_neg h2, if_neg h3, if_pos h4]; exact hbad (fun h => by have := h.a80; omega)
      simp only [if_neg h1, if_neg h2, if_neg h3, if_neg h4]
      by_cases h5 : t = 1000000
      · rw [show (t == 1000000) = true by simpa using h5]; exact hbad (fun h => h.t h5)
      have hF : Fine c l t g ph al := ⟨hV, hR, by omega, by omega, by omega, by omega, h5⟩
      rw [show (t == 1000000) = false by simpa using h5, if_pos ((fine_iff _ _ _ _ _ _).2 hF)]
      refine evs ?_
      simp only [chargeparkref13_Draw.j0, if_neg (show ¬ (false = true) by decide)]
      have hj2 := ref_j2 hF
      have cb := comm_bounds (k := c.f0) (a := c.f1) (b := ph) ⟨hV.k0, hV.k4⟩ ⟨by have := hV.p1; omega, hV.p7⟩ ⟨by omega, by omega⟩
      refine Ev.bind (ref_common (k := c.f0) (a := c.f1) (b := ph) ⟨hV.k0, hV.k4⟩ ⟨by have := hV.p1; omega, hV.p7⟩ ⟨by omega, by omega⟩ c.f2 c.f3 c.f4) ?_
      by_cases h6 : comm c.f0 c.f1 ph > 0
      · simp only [if_pos h6]
        by_cases h7 : g < c.f3
        · rw [decide_eq_true h7]
          refine evs ?_
          simp only [chargeparkref13_Draw.j1, if_true]
          refine evb (ref_current hF) ?_
          rw [amps_eq, if_pos ⟨by omega, h7⟩] at hj2
          exact hj2
        · rw [decide_eq_false h7]
          refine evs ?_
          simp only [chargeparkref13_Draw.j1, if_neg (show ¬ (false = true) by decide)]
          rw [amps_eq, if_neg (fun e => h7 e.2)] at hj2
          exact hj2
      · simp only [if_neg h6]
        refine evs ?_
        simp only [chargeparkref13_Draw.j1, if_neg (show ¬ (false = true) by decide)]
        rw [amps_eq, if_neg (fun e => by have := e.1; omega)] at hj2
        exact hj2

theorem ref_plug (c : Car) : chargeparkref13_Plug.f c.f0 c.f1 c.f2 c.f3 c.f4 = car_Plug.f c.f0 c.f1 c.f2 c.f3 c.f4 := by
  unfold chargeparkref13_Plug.f car_Plug.f
  rw [ref_valid, valid_some]
theorem ref_same (l : List Int) (a b : Int) (hl : l.length ≤ 1000) : Ev (fun k => chargeparkref13_Same.f k l a b l a b) true := by
  unfold chargeparkref13_Same.f
  simp only [if_true, bne_self_eq_false]
  refine evs ?_
  simp only [chargeparkref13_Same.j0, if_neg (show ¬ (false = true) by decide)]
  suffices H : ∀ d i : Nat, l.length - i = d → i ≤ l.length → Ev (fun k => chargeparkref13_Same.l0 k (i : Int) l a b l a b) true from H l.length 0 (by omega) (by omega)
  intro d
  induction d with
  | zero =>
    intro i hd hi
    refine evs ?_
    simp only [chargeparkref13_Same.l0, if_neg (show ¬ (i : Int) < (l.length : Int) by omega)]
    exact Ev.now _
  | succ d ih =>
    intro i hd hi
    refine evs ?_
    simp only [chargeparkref13_Same.l0, if_pos (show (i : Int) < (l.length : Int) by omega), if_pos (Int.natCast_nonneg _), if_true, show wrap64 ((i : Int) + 1) = ((i + 1 : Nat) : Int) by rw [cp_wrap (by omega) (by omega)]; rfl]
    exact ih (i + 1) (by omega) (by omega)

theorem CarMatchesReference : chargeparklaw13_CarMatchesReference.Pure := by
  intro c s ph al hc hs hph hal
  unfold chargeparklaw13_CarMatchesReference.f
  refine Ev.rounds (Ev.bind head_ev ?_)
  by_cases h : (s.f0.length : Int) > 40
  · simp only [if_pos h]; exact Ev.now _
  · simp only [if_neg h]
    refine evb (draw_is c s.f0 s.f1 s.f2 ph al) (Ev.bind (ref_draw c s.f0 s.f1 s.f2 ph al (by omega)) ?_)
    rw [ref_plug]
    obtain ⟨p, hp, hpl⟩ : ∃ p, car_Plug.f c.f0 c.f1 c.f2 c.f3 c.f4 = some p ∧ p.1 = [] := by
      by_cases hv : Valid c
      · exact ⟨_, plug_good hv, rfl⟩
      · exact ⟨_, plug_bad hv, rfl⟩
    refine evb hp (evb hp ?_)
    simp only [if_true]
    have hlen : (if fine c s.f0 s.f1 s.f2 ph al then drawR c s.f0 s.f1 s.f2 ph al else (0, 0, [], 0, 0, 1)).2.2.1.length ≤ 1000 := by
      split
      · show ((s.f0 ++ [al]).drop (s.f0.length + 1 - 21)).length ≤ 1000
        rw [List.length_drop, List.length_append]
        simp
        omega
      · simp
    refine Ev.bind (ref_same _ _ _ hlen) ?_
    simp only [if_true]
    refine Ev.bind (ref_same _ _ _ (by rw [hpl]; simp)) ?_
    simp only [if_true, beq_self_eq_true]
    exact Ev.now _
end Go.Proofs.Ytojjdpbjcaedpaa.Pure
