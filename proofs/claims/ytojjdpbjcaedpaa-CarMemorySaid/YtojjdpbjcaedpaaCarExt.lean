/-
  car.Draw's contract, and what it computes, in plain words.
-/
import Derived.Test.YtojjdpbjcaedpaaCarGood
namespace Go.Proofs.Ytojjdpbjcaedpaa.CarExt
open Go.RowKit Go.Proofs.Ytojjdpbjcaedpaa.Kit Go.Proofs.Ytojjdpbjcaedpaa.PAll Go.Proofs.Ytojjdpbjcaedpaa.CarWalk Go.Proofs.Ytojjdpbjcaedpaa.CarA Go.Proofs.Ytojjdpbjcaedpaa.CarB Go.Proofs.Ytojjdpbjcaedpaa.CarDraw Go.Proofs.Ytojjdpbjcaedpaa.CarGood
open Go.Proofs.YtojjdpbjcaedpaaW.PrintWords hiding below_alloc below_drew
open Go.Proofs.YtojjdpbjcaedpaaW.PrintMore
set_option linter.unusedVariables false
set_option linter.unusedSimpArgs false

/-- A car that is valid. -/
structure Valid (c : Car) : Prop where
  k0 : 0 ≤ c.f0
  k4 : c.f0 ≤ 4
  p1 : 1 ≤ c.f1
  p7 : c.f1 ≤ 7
  m1 : 1 ≤ c.f2
  m80 : c.f2 ≤ 80
  n0 : 0 ≤ c.f3
  n1 : c.f3 ≤ 1000000000
  d0 : 0 ≤ c.f4
  d20 : c.f4 ≤ 20
  pause : c.f0 = 3 → 1 ≤ c.f4
theorem valid_iff (c : Car) (l : List Int) (ticks got : Int) : validP c l ticks got = true ↔ Valid c := by
  constructor
  · intro h
    have hs := valid_some c l ticks got
    rw [h] at hs
    unfold car_plugged_valid.f at hs
    by_cases h1 : c.f0 ≥ 0
    · rw [if_pos h1] at hs
      by_cases h2 : c.f0 ≤ 4
      · rw [if_pos h2] at hs
        by_cases h3 : c.f1 ≥ 1
        · rw [if_pos h3] at hs
          by_cases h4 : c.f1 ≤ 7
          · rw [if_pos h4] at hs
            by_cases h5 : c.f2 ≥ 1
            · rw [if_pos h5] at hs
              by_cases h6 : c.f2 ≤ 80
              · rw [if_pos h6] at hs
                by_cases h7 : c.f3 ≥ 0
                · rw [if_pos h7] at hs
                  by_cases h8 : c.f3 ≤ 1000000000
                  · rw [if_pos h8] at hs
                    by_cases h9 : c.f4 ≥ 0
                    · rw [if_pos h9] at hs
                      by_cases h10 : c.f4 ≤ 20
                      · rw [if_pos h10] at hs
                        refine ⟨by omega, by omega, by omega, by omega, by omega, by omega, by omega, by omega, by omega, by omega, fun e => ?_⟩
                        rw [if_pos e] at hs
                        simp at hs
                        omega
                      · rw [if_neg h10] at hs; simp at hs
                    · rw [if_neg h9] at hs; simp at hs
                  · rw [if_neg h8] at hs; simp at hs
                · rw [if_neg h7] at hs; simp at hs
              · rw [if_neg h6] at hs; simp at hs
            · rw [if_neg h5] at hs; simp at hs
          · rw [if_neg h4] at hs; simp at hs
        · rw [if_neg h3] at hs; simp at hs
      · rw [if_neg h2] at hs; simp at hs
    · rw [if_neg h1] at hs; simp at hs
  · intro h
    unfold validP car_plugged_valid.f
    rw [if_pos (show c.f0 ≥ 0 from h.k0), if_pos h.k4, if_pos (show c.f1 ≥ 1 from h.p1), if_pos h.p7, if_pos (show c.f2 ≥ 1 from h.m1), if_pos h.m80, if_pos (show c.f3 ≥ 0 from h.n0), if_pos h.n1, if_pos (show c.f4 ≥ 0 from h.d0), if_pos h.d20]
    by_cases e : c.f0 = 3
    · rw [if_pos e]
      have := h.pause e
      have : (c.f4 == 0) = false := by simp; omega
      rw [this]; rfl
    · rw [if_neg e]; rfl
/-- What a car may remember. -/
structure Rem (l : List Int) (ticks got : Int) : Prop where
  len : l.length ≤ 21
  all : ∀ x ∈ l, 0 ≤ x ∧ x ≤ 80
  t0 : 0 ≤ ticks
  t1 : ticks ≤ 1000000
  g0 : 0 ≤ got
  g1 : got ≤ 2000000000
theorem wrongI_iff (x : Int) : wrongI x = false ↔ 0 ≤ x ∧ x ≤ 80 := by
  unfold wrongI
  simp
theorem rem_iff (l : List Int) (ticks got : Int) : remP l ticks got = true ↔ Rem l ticks got := by
  unfold remP
  simp only [Bool.and_eq_true, decide_eq_true_eq, Bool.not_eq_true']
  have ha : anyWrong l = false ↔ ∀ x ∈ l, 0 ≤ x ∧ x ≤ 80 := by
    unfold anyWrong
    rw [List.any_eq_false]
    constructor
    · intro h x hx
      exact (wrongI_iff x).1 (by simpa using h x hx)
    · intro h x hx
      have := (wrongI_iff x).2 (h x hx)
      simp [this]
  rw [ha]
  constructor
  · rintro ⟨h1, h2, h3, h4, h5, h6⟩
    exact ⟨h1, h2, h3, h4, h5, h6⟩
  · rintro ⟨h1, h2, h3, h4, h5, h6⟩
    exact ⟨h1, h2, h3, h4, h5, h6⟩
/-- A draw that is answered. -/
structure Fine (c : Car) (l : List Int) (ticks got ph al : Int) : Prop where
  v : Valid c
  r : Rem l ticks got
  p1 : 1 ≤ ph
  p7 : ph ≤ 7
  a0 : 0 ≤ al
  a80 : al ≤ 80
  t : ticks ≠ 1000000
theorem fine_iff (c : Car) (l : List Int) (ticks got ph al : Int) : fine c l ticks got ph al = true ↔ Fine c l ticks got ph al := by
  unfold fine
  simp only [Bool.and_eq_true, Bool.not_eq_true', decide_eq_false_iff_not]
  rw [valid_iff, rem_iff, wrongI_iff]
  constructor
  · rintro ⟨⟨⟨⟨⟨h1, h2⟩, h3⟩, h4⟩, h5, h6⟩, h7⟩
    exact ⟨h1, h2, by omega, by omega, h5, h6, h7⟩
  · rintro ⟨h1, h2, h3, h4, h5, h6, h7⟩
    exact ⟨⟨⟨⟨⟨h1, h2⟩, by omega⟩, by omega⟩, h5, h6⟩, h7⟩

/-! common -/
def commOk (k a b : Nat) : Bool := decide (0 ≤ comm k a b) && decide (comm k a b ≤ 7)
theorem comm_all : ((List.range 5).all fun k => (List.range 8).all fun a => (List.range 8).all fun b => commOk k a b) = true := by kernel_rfl
theorem small_nat {x : Int} {n : Nat} (h0 : 0 ≤ x) (h1 : x < n) : ∃ m : Nat, m ∈ List.range n ∧ (m : Int) = x := ⟨x.toNat, by rw [List.mem_range]; omega, by omega⟩
theorem comm_bounds {k a b : Int} (hk : 0 ≤ k ∧ k ≤ 4) (ha : 0 ≤ a ∧ a ≤ 7) (hb : 0 ≤ b ∧ b ≤ 7) : 0 ≤ comm k a b ∧ comm k a b ≤ 7 := by
  obtain ⟨k', hk', rfl⟩ := small_nat (n := 5) hk.1 (by omega)
  obtain ⟨a', ha', rfl⟩ := small_nat (n := 8) ha.1 (by omega)
  obtain ⟨b', hb', rfl⟩ := small_nat (n := 8) hb.1 (by omega)
  have h := comm_all
  rw [List.all_eq_true] at h
  have h := h k' hk'
  rw [List.all_eq_true] at h
  have h := h a' ha'
  rw [List.all_eq_true] at h
  have h := h b' hb'
  unfold commOk at h
  simpa using h

theorem rd_nonneg {l : List Int} (h : ∀ x ∈ l, 0 ≤ x ∧ x ≤ 80) (i : Int) : 0 ≤ rd l i ∧ rd l i ≤ 80 := by
  unfold rd
  rw [List.getD_eq_getElem?_getD]
  cases e : l[i.toNat]? with
  | none => simp
  | some x => exact h x (List.mem_of_getElem? e)
theorem late_bounds {l : List Int} {d al : Int} (h : ∀ x ∈ l, 0 ≤ x ∧ x ≤ 80) (ha : 0 ≤ al ∧ al ≤ 80) : 0 ≤ lateI l d al ∧ lateI l d al ≤ al := by
  have hm : ∀ x ∈ l ++ [al], 0 ≤ x ∧ x ≤ 80 := by
    intro x hx
    rcases List.mem_append.1 hx with hx | hx
    · exact h x hx
    · simp at hx; subst hx; exact ha
  have hr := rd_nonneg hm (((l ++ [al]).length : Int) - 1 - d)
  unfold lateI mn
  repeat' split
  all_goals omega
theorem pause_bounds {t d al : Int} (ha : 0 ≤ al) : 0 ≤ pauseI t d al ∧ pauseI t d al ≤ al := by
  unfold pauseI
  split <;> omega
theorem greedy_is {al mx : Int} (ha : 0 ≤ al) : greedyI al mx = if al = 0 then 0 else mx := by
  unfold greedyI
  by_cases e : al = 0
  · subst e; simp
  · rw [if_neg e]
    by_cases e1 : 1 < al
    · rw [if_pos e1, Int.one_mul]
    · rw [if_neg e1, show al = 1 by omega, Int.one_mul]
theorem cur_nonneg {c : Car} {l : List Int} {ticks got ph al : Int} (h : Fine c l ticks got ph al) : 0 ≤ curV c l ticks al := by
  unfold curV
  have h1 := (late_bounds (d := c.f4) h.r.all ⟨h.a0, h.a80⟩).1
  have h2 := (pause_bounds (t := ticks) (d := c.f4) h.a0).1
  have h3 := greedy_is (mx := c.f2) h.a0
  have h4 := h.a0
  have h5 := h.v.m1
  repeat' split
  · exact h1
  · exact h2
  · rw [h3]; split <;> omega
  · exact h4
theorem amps_bounds {c : Car} {l : List Int} {ticks got ph al : Int} (h : Fine c l ticks got ph al) (on : Int) : 0 ≤ amps c l ticks got on al ∧ amps c l ticks got on al ≤ c.f2 := by
  rw [amps_eq]
  have h1 := cur_nonneg h
  have h5 := h.v.m1
  unfold mn
  repeat' split
  all_goals omega

/-- What Draw answers. -/
def onOf (c : Car) (l : List Int) (ticks got ph al : Int) : Int := if amps c l ticks got (comm c.f0 c.f1 ph) al = 0 then 0 else comm c.f0 c.f1 ph
def drawR (c : Car) (l : List Int) (ticks got ph al : Int) : Int × Int × List Int × Int × Int × Int :=
  (amps c l ticks got (comm c.f0 c.f1 ph) al, onOf c l ticks got ph al, (l ++ [al]).drop (l.length + 1 - 21), ticks + 1, got + 2300 * amps c l ticks got (comm c.f0 c.f1 ph) al * cnt (onOf c l ticks got ph al), 0)
def drawF (a0 a1 a2 a3 a4 : Int) (l : List Int) (ticks got ph al : Int) : Option (Int × Int × List Int × Int × Int × Int) :=
  some (if fine ⟨a0, a1, a2, a3, a4⟩ l ticks got ph al then drawR ⟨a0, a1, a2, a3, a4⟩ l ticks got ph al else (0, 0, [], 0, 0, 1))
theorem on_bounds {c : Car} {l : List Int} {ticks got ph al : Int} (h : Fine c l ticks got ph al) : 0 ≤ onOf c l ticks got ph al ∧ onOf c l ticks got ph al ≤ 7 := by
  have := comm_bounds (k := c.f0) (a := c.f1) (b := ph) ⟨h.v.k0, h.v.k4⟩ ⟨by have := h.v.p1; omega, h.v.p7⟩ ⟨by have := h.p1; omega, h.p7⟩
  unfold onOf
  split <;> omega

theorem draw_ext (a0_0 a0_1 a0_2 a0_3 a0_4 : Int) (A1_0 : Option Addr) (c1_0 : Nat) (l1_0 : List Int) (a1_1 a1_2 a2 a3 r1 r2 : Int) (r3 : List Int) (r4 r5 r6 : Int) (w : World) (hr1_0 : Kd.C (Kd.int .i64) w A1_0 l1_0.length l1_0) (hc1_0 : l1_0.length ≤ c1_0) (h : drawF a0_0 a0_1 a0_2 a0_3 a0_4 l1_0 a1_1 a1_2 a2 a3 = some (r1, r2, r3, r4, r5, r6)) :
    Calls Try.prog 11 #[.agg #[.int .i64 a0_0, .int .i64 a0_1, .int .i64 a0_2, .int .i64 a0_3, .int .i64 a0_4], .agg #[.slice A1_0 l1_0.length c1_0, .int .i64 a1_1, .int .i64 a1_2], .int .i64 a2, .int .i64 a3] w fun e w' => ∃ v2_ : Value, e = .returned (.tuple #[.int .i64 r1, .int .i64 r2, .agg #[v2_, .int .i64 r4, .int .i64 r5], .int .i64 r6]) ∧ Kd.Q (Kd.int .i64) 3 w' w.heap.size (fun _ => True) v2_ r3 ∧ Below w.heap.size w w' := by
  unfold drawF at h
  have h := Option.some.inj h
  cases hf : fine ⟨a0_0, a0_1, a0_2, a0_3, a0_4⟩ l1_0 a1_1 a1_2 a2 a3
  · rw [hf, if_neg (by decide)] at h
    simp only [Prod.mk.injEq] at h
    obtain ⟨rfl, rfl, rfl, rfl, rfl, rfl⟩ := h
    exact bad_calls ⟨a0_0, a0_1, a0_2, a0_3, a0_4⟩ A1_0 c1_0 l1_0 a1_1 a1_2 a2 a3 w hr1_0 hc1_0 hf
  · rw [hf, if_pos rfl] at h
    unfold drawR at h
    simp only [Prod.mk.injEq] at h
    obtain ⟨rfl, rfl, rfl, rfl, rfl, rfl⟩ := h
    have hF := (fine_iff _ _ _ _ _ _).1 hf
    have hcb := comm_bounds (k := a0_0) (a := a0_1) (b := a2) ⟨hF.v.k0, hF.v.k4⟩ ⟨by have := hF.v.p1; simp at this; omega, hF.v.p7⟩ ⟨by have := hF.p1; omega, hF.p7⟩
    have hA := amps_bounds hF (comm a0_0 a0_1 a2)
    have hob := on_bounds hF
    have ht := hF.t
    refine fine_calls ⟨a0_0, a0_1, a0_2, a0_3, a0_4⟩ A1_0 c1_0 l1_0 a1_1 a1_2 a2 a3 w hr1_0 hc1_0 ((valid_iff _ _ _ _).2 hF.v) ((rem_iff _ _ _).2 hF.r) (by have := hF.p1; omega) (by have := hF.p7; omega) ((wrongI_iff _).2 ⟨hF.a0, hF.a80⟩) hF.t ?_ _ rfl hcb.1 hcb.2 _ rfl _ rfl hob.1 hob.2 hA.1 (Int.le_trans hA.2 hF.v.m80)
    exact ⟨hF.v.k0, hF.v.k4, hF.v.m1, hF.v.m80, hF.v.d0, hF.v.d20, hF.v.pause, hF.r.t0, by have := hF.r.t1; omega, hF.r.g0, hF.r.g1, hF.a0, hF.a80, hF.r.len⟩
end Go.Proofs.Ytojjdpbjcaedpaa.CarExt
