/-
  What the laws of cars share: the head, what Draw and Plug compute, plain facts on currents and phases.
-/
import Derived.Test.YtojjdpbjcaedpaaPAllx3
import Derived.Test.YtojjdpbjcaedpaaPAllx1
namespace Go.Proofs.Ytojjdpbjcaedpaa.CarPlain
open Go.RowKit Go.Proofs.Ytojjdpbjcaedpaa.PAll Go.Proofs.Ytojjdpbjcaedpaa.CarWalk Go.Proofs.Ytojjdpbjcaedpaa.CarA Go.Proofs.Ytojjdpbjcaedpaa.CarB Go.Proofs.Ytojjdpbjcaedpaa.CarDraw Go.Proofs.Ytojjdpbjcaedpaa.CarGood Go.Proofs.Ytojjdpbjcaedpaa.CarExt
open Go.Proofs.YtojjdpbjcaedpaaW.PrintWords Go.Proofs.YtojjdpbjcaedpaaW.PrintLast Go.Proofs.YtojjdpbjcaedpaaW.PrintMore
set_option linter.unusedVariables false
set_option linter.unusedSimpArgs false

theorem evs {α : Type} {g : Nat → Option α} {r : α} (h : Ev (fun k => g (k + 1)) r) : Ev g r := Ev.step (fun _ => rfl) h
theorem evn {α : Type} {o : Option α} {r : α} (h : o = some r) : Ev (fun _ => o) r := ⟨0, fun _ _ => h⟩
theorem evb {α β : Type} {o : Option α} {f : Nat → α → Option β} {a : α} {r : β} (h : o = some a) (k : Ev (fun n => f n a) r) : Ev (fun n => o.bind (f n)) r := by
  obtain ⟨K, hK⟩ := k
  exact ⟨K, fun n hn => by rw [h]; exact hK n hn⟩
theorem cp_wrap {x : Int} (h0 : -9000000000000000000 ≤ x) (h1 : x ≤ 9000000000000000000) : wrap64 x = x := by unfold wrap64; omega
theorem cp_rd (l : List Int) (i : Nat) (h : i < l.length) : rd l (i : Int) = l[i] := by
  unfold rd
  rw [List.getD_eq_getElem?_getD, Int.toNat_natCast, List.getElem?_eq_getElem h]; rfl

theorem head_ev : Ev (fun k => chargeparklaw13_head.f k) true :=
  Ev.of chargeparklaw13_head.mono (k := 8) (by decide +kernel)

theorem draw_is (c : Car) (l : List Int) (t g ph al : Int) : car_Draw.f c.f0 c.f1 c.f2 c.f3 c.f4 l t g ph al = some (if fine c l t g ph al then drawR c l t g ph al else (0, 0, [], 0, 0, 1)) := rfl
theorem draw_fine {c : Car} {l : List Int} {t g ph al : Int} (h : Fine c l t g ph al) : car_Draw.f c.f0 c.f1 c.f2 c.f3 c.f4 l t g ph al = some (drawR c l t g ph al) := by
  rw [draw_is, (fine_iff _ _ _ _ _ _).2 h, if_pos rfl]
theorem draw_bad {c : Car} {l : List Int} {t g ph al : Int} (h : ¬ Fine c l t g ph al) : car_Draw.f c.f0 c.f1 c.f2 c.f3 c.f4 l t g ph al = some (0, 0, [], 0, 0, 1) := by
  rw [draw_is, if_neg (fun e => h ((fine_iff _ _ _ _ _ _).1 e))]
theorem plug_good {c : Car} (h : Valid c) : car_Plug.f c.f0 c.f1 c.f2 c.f3 c.f4 = some ([], 0, 0, 0) := by
  unfold car_Plug.f
  rw [valid_some, (valid_iff _ _ _ _).2 h]; rfl
theorem plug_bad {c : Car} (h : ¬ Valid c) : car_Plug.f c.f0 c.f1 c.f2 c.f3 c.f4 = some ([], 0, 0, 1) := by
  unfold car_Plug.f
  have : validP c [] 0 0 = false := by
    cases e : validP c [] 0 0
    · rfl
    · exact absurd ((valid_iff _ _ _ _).1 e) h
  rw [valid_some, this]; rfl

/-! phases -/
def cOk (k a b : Nat) : Bool :=
  decide (Go.bits .and .i64 (comm k a b) a = comm k a b) && decide (Go.bits .and .i64 (comm k a b) b = comm k a b) && decide (cnt (comm k a b) ≤ cnt (comm 0 a b)) && (decide (comm k a b = 0) == decide (comm 0 a b = 0)) &&
  decide (0 ≤ cnt (comm k a b)) && decide (cnt (comm k a b) ≤ 3) && decide (Go.bits .and .i64 (Go.bits .and .i64 a 7) b = comm 0 a b) && (decide (comm k a b = 0) || decide (1 ≤ cnt (comm k a b)))
theorem cOk_all : ((List.range 5).all fun k => (List.range 8).all fun a => (List.range 8).all fun b => cOk k a b) = true := by kernel_rfl
structure Phases (k a b : Int) : Prop where
  car : Go.bits .and .i64 (comm k a b) a = comm k a b
  here : Go.bits .and .i64 (comm k a b) b = comm k a b
  least : cnt (comm k a b) ≤ cnt (comm 0 a b)
  none : comm k a b = 0 ↔ comm 0 a b = 0
  c0 : 0 ≤ cnt (comm k a b)
  c3 : cnt (comm k a b) ≤ 3
  seven : Go.bits .and .i64 (Go.bits .and .i64 a 7) b = comm 0 a b
  some : comm k a b = 0 ∨ 1 ≤ cnt (comm k a b)
theorem phases {k a b : Int} (hk : 0 ≤ k ∧ k ≤ 4) (ha : 0 ≤ a ∧ a ≤ 7) (hb : 0 ≤ b ∧ b ≤ 7) : Phases k a b := by
  obtain ⟨k', hk', rfl⟩ := small_nat (n := 5) hk.1 (by omega)
  obtain ⟨a', ha', rfl⟩ := small_nat (n := 8) ha.1 (by omega)
  obtain ⟨b', hb', rfl⟩ := small_nat (n := 8) hb.1 (by omega)
  have h := cOk_all
  rw [List.all_eq_true] at h
  have h := h k' hk'
  rw [List.all_eq_true] at h
  have h := h a' ha'
  rw [List.all_eq_true] at h
  have h := h b' hb'
  unfold cOk at h
  simp only [Bool.and_eq_true, decide_eq_true_eq, Bool.or_eq_true, beq_iff_eq, decide_eq_decide] at h
  obtain ⟨⟨⟨⟨⟨⟨⟨h1, h2⟩, h3⟩, h4⟩, h5⟩, h6⟩, h7⟩, h8⟩ := h
  exact ⟨h1, h2, h3, h4, h5, h6, h7, h8⟩
theorem Fine.phases {c : Car} {l : List Int} {t g ph al : Int} (h : Fine c l t g ph al) : Phases c.f0 c.f1 ph :=
  CarPlain.phases ⟨h.v.k0, h.v.k4⟩ ⟨by have := h.v.p1; omega, h.v.p7⟩ ⟨by have := h.p1; omega, h.p7⟩

/-! currents -/
theorem cur_le {c : Car} {l : List Int} {t g ph al : Int} (h : Fine c l t g ph al) (hk : c.f0 ≠ 4) : curV c l t al ≤ al := by
  unfold curV
  have h1 := (late_bounds (d := c.f4) h.r.all ⟨h.a0, h.a80⟩).2
  have h2 := (pause_bounds (t := t) (d := c.f4) h.a0).2
  repeat' split
  all_goals omega
theorem amps_le {c : Car} {l : List Int} {t g ph al : Int} (h : Fine c l t g ph al) (hk : c.f0 ≠ 4) (on : Int) : amps c l t g on al ≤ al := by
  rw [amps_eq]
  have h1 := cur_le h hk
  have h2 := h.a0
  unfold mn
  repeat' split
  all_goals omega
theorem amps_zero {c : Car} {l : List Int} {t g ph al : Int} (h : Fine c l t g ph al) (h0 : al = 0) (on : Int) : amps c l t g on al = 0 := by
  by_cases hk : c.f0 = 4
  · rw [amps_eq]
    have h3 := greedy_is (mx := c.f2) h.a0
    rw [if_pos h0] at h3
    have : curV c l t al = 0 := by unfold curV; rw [if_neg (by omega), if_neg (by omega), if_pos hk, h3]
    rw [this]
    have := h.v.m1
    unfold mn
    repeat' split
    all_goals omega
  · have := amps_le h hk on
    have := (amps_bounds h on).1
    omega
theorem amps_on {c : Car} {l : List Int} {t g al : Int} {on : Int} (h : amps c l t g on al ≠ 0) : on ≠ 0 ∧ g < c.f3 := by
  rw [amps_eq] at h
  by_cases q : on ≠ 0 ∧ g < c.f3
  · exact q
  · rw [if_neg q] at h; exact absurd rfl h
theorem on_zero {c : Car} {l : List Int} {t g ph al : Int} (h : Fine c l t g ph al) : amps c l t g (comm c.f0 c.f1 ph) al = 0 ↔ onOf c l t g ph al = 0 := by
  unfold onOf
  constructor
  · intro e; rw [if_pos e]
  · intro e
    by_cases q : amps c l t g (comm c.f0 c.f1 ph) al = 0
    · exact q
    · rw [if_neg q] at e
      exact absurd e (amps_on q).1
theorem on_cnt {c : Car} {l : List Int} {t g ph al : Int} (h : Fine c l t g ph al) : 0 ≤ cnt (onOf c l t g ph al) ∧ cnt (onOf c l t g ph al) ≤ 3 := by
  have hp := Fine.phases h
  unfold onOf
  split
  · exact ⟨by decide, by decide⟩
  · exact ⟨hp.c0, hp.c3⟩
theorem got_step {A q m : Int} (ha : 0 ≤ A) (hm : A ≤ m) (hm80 : m ≤ 80) (hq : 0 ≤ q ∧ q ≤ 3) : 0 ≤ 2300 * A * q ∧ 2300 * A * q ≤ 6900 * m ∧ 2300 * A * q ≤ 552000 := by
  have h : q = 0 ∨ q = 1 ∨ q = 2 ∨ q = 3 := by omega
  rcases h with rfl | rfl | rfl | rfl <;> omega
theorem count_is {on : Int} (h0 : 0 ≤ on) (h7 : on ≤ 7) : chargeparkref13_Count.f on = some (cnt on) := by
  have h : on = 0 ∨ on = 1 ∨ on = 2 ∨ on = 3 ∨ on = 4 ∨ on = 5 ∨ on = 6 ∨ on = 7 := by omega
  rcases h with rfl | rfl | rfl | rfl | rfl | rfl | rfl | rfl <;> decide +kernel
/-- What a car remembers behind a draw is valid again. -/
theorem rem_next {c : Car} {l : List Int} {t g ph al g' : Int} (h : Fine c l t g ph al) (h0 : 0 ≤ g') (h1 : g' ≤ 2000000000) : Rem ((l ++ [al]).drop (l.length + 1 - 21)) (t + 1) g' := by
  have hl := h.r.len
  have ht := h.t
  have h2 := h.r.t1
  have h3 := h.r.t0
  refine ⟨by rw [List.length_drop, List.length_append]; simp; omega, fun x hx => ?_, by omega, by omega, h0, h1⟩
  rcases List.mem_append.1 (List.mem_of_mem_drop hx) with hx | hx
  · exact h.r.all x hx
  · simp at hx; subst hx; exact ⟨h.a0, h.a80⟩
end Go.Proofs.Ytojjdpbjcaedpaa.CarPlain
