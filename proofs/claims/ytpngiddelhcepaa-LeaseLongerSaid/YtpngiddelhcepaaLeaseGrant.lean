/-
  The walk of lease.Grant.
-/
import Derived.Test.YtpngiddelhcepaaLeaseValid
import Derived.Test.YtpngiddelhcepaaConcatLease
namespace Go.Proofs.Ytpngiddelhcepaa.LeaseWalk
open Go.RowKit Go.Proofs.Ytpngiddelhcepaa.Kit Go.Proofs.Ytpngiddelhcepaa.PAll
open Go.Proofs.YtpngiddelhcepaaW.PrintWords hiding below_alloc below_drew
set_option linter.unusedVariables false
set_option linter.unusedSimpArgs false

abbrev kL : Kd Ls := k24
/-- One lease in a block of its own. -/
theorem lit_C {w : World} {B : Nat} {x : Ls} (h : w.heap[B]? = some (.cells #[.int .i64 x.f0, .int .i64 x.f1, .int .i64 x.f2, .int .i64 x.f3, .int .i64 x.f4] 24 (0, 0))) :
    Kd.C kL w (some ⟨B, 0, none⟩) ([x] : List Ls).length [x] := by
  refine ⟨rfl, by simp, fun _ => ⟨⟨B, 0, none⟩, rfl, fun j p hj => ?_⟩⟩
  obtain ⟨rfl, rfl⟩ : j = 0 ∧ x = p := by
    cases j with
    | zero => simp at hj; exact ⟨rfl, hj⟩
    | succ j => simp at hj
  refine ⟨_, rfl, k24_mk w x, fun j u hu => ?_⟩
  rw [add_plain, blk_cell h, ← Array.getElem?_toList, Nat.zero_mul, Nat.zero_add]
  exact hu

/-- The two literals that Concat is handed. -/
theorem two_lit (w : World) (x : Ls) (A : Option Addr) (n c : Nat) :
    ((w.alloc (.cells #[.int .i64 x.f0, .int .i64 x.f1, .int .i64 x.f2, .int .i64 x.f3, .int .i64 x.f4] 24)).alloc (.cells #[.slice A n c, .slice (some ⟨w.heap.size, 0, none⟩) 1 1] 22)).cell? ⟨w.heap.size + 1, 0, none⟩ = some (.slice A n c) ∧
    ((w.alloc (.cells #[.int .i64 x.f0, .int .i64 x.f1, .int .i64 x.f2, .int .i64 x.f3, .int .i64 x.f4] 24)).alloc (.cells #[.slice A n c, .slice (some ⟨w.heap.size, 0, none⟩) 1 1] 22)).cell? ⟨w.heap.size + 1, 1, none⟩ = some (.slice (some ⟨w.heap.size, 0, none⟩) ([x] : List Ls).length 1) ∧
    Kd.C kL ((w.alloc (.cells #[.int .i64 x.f0, .int .i64 x.f1, .int .i64 x.f2, .int .i64 x.f3, .int .i64 x.f4] 24)).alloc (.cells #[.slice A n c, .slice (some ⟨w.heap.size, 0, none⟩) 1 1] 22)) (some ⟨w.heap.size, 0, none⟩) ([x] : List Ls).length [x] := by
  have g := blk_new (w.alloc (.cells #[.int .i64 x.f0, .int .i64 x.f1, .int .i64 x.f2, .int .i64 x.f3, .int .i64 x.f4] 24)) (.cells #[.slice A n c, .slice (some ⟨w.heap.size, 0, none⟩) 1 1] 22)
  rw [World.size_alloc] at g
  exact ⟨by rw [blk_cell g]; rfl, by rw [blk_cell g]; rfl, lit_C (blk_alloc (blk_new w _) _)⟩

def grantL (l : List Ls) (x : Ls) : List Ls × Int :=
  if validL l && oneL x then
    (if l.length > 0 ∧ afterL x (l.getD (l.length - 1) x) = false then ([], 12) else if l.length = 64 then ([], 10) else (l ++ [x], 0))
  else ([], 1)

def GrantPost (w : World) (r : List Ls × Int) (e : Ending) (w' : World) : Prop := ∃ v0_ : Value, e = .returned (.tuple #[v0_, .int .i64 r.2]) ∧ Kd.R kL 24 w' w.heap.size (fun _ => True) v0_ r.1 ∧ Below w.heap.size w w'

set_option maxRecDepth 100000 in
theorem grant_arg (A0 : Option Addr) (c0 : Nat) (l0 : List Ls) (x : Ls) (w : World) (hr0 : Kd.C kL w A0 l0.length l0) (hc0 : l0.length ≤ c0) (h : (validL l0 && oneL x) = false) :
    Calls Try.prog 11 #[.slice A0 l0.length c0, .agg #[.int .i64 x.f0, .int .i64 x.f1, .int .i64 x.f2, .int .i64 x.f3, .int .i64 x.f4]] w (GrantPost w ([], 1)) := by
  have hv := fun w hr => valid_calls A0 c0 l0 w hr hc0
  have ho := fun w => one_calls x w
  have HR := Lib.hid hr0
  clear hr0
  cases b : validL l0
  · rw [b] at hv
    have HV := Lib.hid hv
    clear hv b h ho
    go_enter Try.func11, Try.ntmps11
    go_wp2_with fail
    refine (HV.out _ (Kd.C_alloc HR.out _)).mono ?_
    rintro e w1 ⟨rfl, hb⟩
    have HB := Lib.hid hb
    clear hb
    go_wp2_with fail
    go_ret2
    exact ⟨_, rfl, Kd.R_nil _ _ _ _ _, (below_alloc (Below.refl _ _) _).trans (HB.out.mono (by simp))⟩
  · rw [b, Bool.true_and] at h
    rw [b] at hv
    rw [h] at ho
    have HV := Lib.hid hv
    have HO := Lib.hid ho
    clear hv b h ho
    go_enter Try.func11, Try.ntmps11
    go_wp2_with fail
    refine (HV.out _ (Kd.C_alloc HR.out _)).mono ?_
    rintro e w1 ⟨rfl, hb⟩
    have g1 := blk_below (blk_new w _) hb
    have z0 : w1.cell? ⟨w.heap.size, 0, none⟩ = some (.int .i64 x.f0) := by rw [blk_cell g1]; rfl
    have z1 : w1.cell? ⟨w.heap.size, 1, none⟩ = some (.int .i64 x.f1) := by rw [blk_cell g1]; rfl
    have z2 : w1.cell? ⟨w.heap.size, 2, none⟩ = some (.int .i64 x.f2) := by rw [blk_cell g1]; rfl
    have z3 : w1.cell? ⟨w.heap.size, 3, none⟩ = some (.int .i64 x.f3) := by rw [blk_cell g1]; rfl
    have z4 : w1.cell? ⟨w.heap.size, 4, none⟩ = some (.int .i64 x.f4) := by rw [blk_cell g1]; rfl
    have HB := Lib.hid hb
    clear hb g1
    go_wp2_with fail
    refine (HO.out _).mono ?_
    rintro e w2 ⟨rfl, hb2⟩
    have HB2 := Lib.hid hb2
    clear hb2 z0 z1 z2 z3 z4
    go_wp2_with fail
    go_ret2
    exact ⟨_, rfl, Kd.R_nil _ _ _ _ _, ((below_alloc (Below.refl _ _) _).trans (HB.out.mono (by simp))).trans (HB2.out.mono (by have := HB.out.size; simp at this; omega))⟩

set_option maxRecDepth 100000 in
set_option maxHeartbeats 1000000 in
theorem grant_go (A0 : Option Addr) (c0 : Nat) (l0 : List Ls) (x : Ls) (w : World) (hr0 : Kd.C kL w A0 l0.length l0) (hc0 : l0.length ≤ c0) (hv0 : validL l0 = true) (ho0 : oneL x = true) :
    Calls Try.prog 11 #[.slice A0 l0.length c0, .agg #[.int .i64 x.f0, .int .i64 x.f1, .int .i64 x.f2, .int .i64 x.f3, .int .i64 x.f4]] w (GrantPost w (grantL l0 x)) := by
  have hl64 : l0.length ≤ 64 := by
    unfold validL at hv0
    rw [Bool.and_eq_true] at hv0
    exact of_decide_eq_true hv0.1
  have hv := fun w hr => valid_calls A0 c0 l0 w hr hc0
  have ho := fun w => one_calls x w
  obtain ⟨res, hres⟩ : ∃ res, grantL l0 x = res := ⟨_, rfl⟩
  rw [hres]
  unfold grantL at hres
  rw [hv0, ho0, Bool.true_and, if_pos rfl] at hres
  rw [hv0] at hv
  rw [ho0] at ho
  have HV := Lib.hid hv
  have HO := Lib.hid ho
  have HR := Lib.hid hr0
  have HRES := Lib.hid hres
  clear hv ho hr0 hv0 ho0 hres
  go_enter Try.func11, Try.ntmps11
  go_wp2_with fail
  refine (HV.out _ (Kd.C_alloc HR.out _)).mono ?_
  rintro e w1 ⟨rfl, hb⟩
  have g1 := blk_below (blk_new w _) hb
  have z0 : w1.cell? ⟨w.heap.size, 0, none⟩ = some (.int .i64 x.f0) := by rw [blk_cell g1]; rfl
  have z1 : w1.cell? ⟨w.heap.size, 1, none⟩ = some (.int .i64 x.f1) := by rw [blk_cell g1]; rfl
  have z2 : w1.cell? ⟨w.heap.size, 2, none⟩ = some (.int .i64 x.f2) := by rw [blk_cell g1]; rfl
  have z3 : w1.cell? ⟨w.heap.size, 3, none⟩ = some (.int .i64 x.f3) := by rw [blk_cell g1]; rfl
  have z4 : w1.cell? ⟨w.heap.size, 4, none⟩ = some (.int .i64 x.f4) := by rw [blk_cell g1]; rfl
  have hb1 : Below w.heap.size w w1 := (below_alloc (Below.refl _ _) _).trans (hb.mono (by simp))
  have hs1 : w.heap.size < w1.heap.size := by have := hb.size; simp at this; omega
  have G1 := Lib.hid g1
  have HB1 := Lib.hid hb1
  clear hb g1 hb1
  go_wp2_with fail
  refine (HO.out _).mono ?_
  rintro e w2 ⟨rfl, hb2⟩
  have g2 := blk_below G1.out hb2
  have y0 : w2.cell? ⟨w.heap.size, 0, none⟩ = some (.int .i64 x.f0) := by rw [blk_cell g2]; rfl
  have y1 : w2.cell? ⟨w.heap.size, 1, none⟩ = some (.int .i64 x.f1) := by rw [blk_cell g2]; rfl
  have y2 : w2.cell? ⟨w.heap.size, 2, none⟩ = some (.int .i64 x.f2) := by rw [blk_cell g2]; rfl
  have y3 : w2.cell? ⟨w.heap.size, 3, none⟩ = some (.int .i64 x.f3) := by rw [blk_cell g2]; rfl
  have y4 : w2.cell? ⟨w.heap.size, 4, none⟩ = some (.int .i64 x.f4) := by rw [blk_cell g2]; rfl
  have G2 := Lib.hid g2
  have hB2 : Below w.heap.size w w2 := HB1.out.trans (hb2.mono HB1.out.size)
  have HB2 := Lib.hid hB2
  clear hb2 z0 z1 z2 z3 z4 hs1 G1 HB1 hB2 g2
  generalize hRB : w.heap.size = RB at *
  by_cases hn : l0.length = 0
  · obtain rfl : l0 = [] := List.eq_nil_of_length_eq_zero hn
    have hR := HRES.out
    rw [if_neg (fun h => absurd h.1 (by simp)), if_neg (by simp)] at hR
    subst hR
    clear hn HRES HV HO
    simp only [List.length_nil] at *
    go_wp2_with fail
    go_quiet (fail)
    go_wp2_with fail
    have hz : RB ≤ w2.heap.size := hRB ▸ HB2.out.size
    refine (ConcatLease.concat_calls A0 (some ⟨w2.heap.size, 0, none⟩) c0 1 ([] : List Ls) [x] (w2.heap.size + 1) _ (two_lit (w2.drewN nq) x A0 0 c0).1 (two_lit (w2.drewN nq) x A0 0 c0).2.1 (Kd.C_alloc (Kd.C_alloc (Kd.C_drewN (Kd.C_below HR.out (hRB.symm ▸ HB2.out)) nq) _) _) (two_lit (w2.drewN nq) x A0 0 c0).2.2 (by simp) (by simp)).mono ?_
    rintro e w5 ⟨v5, rfl, ho5, hb5⟩
    have hsz : RB ≤ (((w2.drewN nq).alloc (.cells #[.int .i64 x.f0, .int .i64 x.f1, .int .i64 x.f2, .int .i64 x.f3, .int .i64 x.f4] 24)).alloc (.cells #[.slice A0 0 c0, .slice (some ⟨w2.heap.size, 0, none⟩) 1 1] 22)).heap.size := by simp; omega
    have HO5 := Lib.hid (Kd.R_lower ho5 hsz)
    have HB5 := Lib.hid ((((below_drewN HB2.out nq).alloc hz _).alloc (by simp; omega) _).trans (hb5.mono hsz))
    clear ho5 hb5 hsz
    go_wp2_with fail
    go_ret2
    exact ⟨_, rfl, by rw [hRB]; exact HO5.out, by rw [hRB]; exact HB5.out⟩
  · have hj : l0.length - 1 < l0.length := by omega
    have n0 : 0 < l0.length := by omega
    have n1 : (0 : Int) < (l0.length : Int) := by omega
    have hC := Kd.C_below HR.out (hRB.symm ▸ HB2.out)
    obtain ⟨ad, rfl, q0, q1, q2, q3, q4⟩ := at_T24 hC ((l0.length : Int) - 1) (by omega) (by omega)
    have ht : ((l0.length : Int) - 1).toNat = l0.length - 1 := by omega
    have hq : rd_T24 l0 ((l0.length : Int) - 1) = l0.getD (l0.length - 1) x := by
      unfold rd_T24
      rw [ht, List.getD_eq_getElem?_getD, List.getD_eq_getElem?_getD, List.getElem?_eq_getElem hj]; rfl
    rw [hq] at q0 q1 q2 q3 q4
    clear hq
    generalize hqq : l0.getD (l0.length - 1) x = q at *
    simp only [ht] at q0 q1 q2 q3 q4
    have k0 : (0 : Int) ≤ (l0.length : Int) - 1 := by omega
    have k1 : (l0.length : Int) - 1 < (l0.length : Int) := by omega
    have k2 : (1 : Int) ≤ (l0.length : Int) := by omega
    have k3 : 1 ≤ l0.length := by omega
    have k4 : (l0.length : Int) ≤ 64 := by omega
    have kw : IntKind.i64.wrap ((l0.length : Int) - 1) = (l0.length : Int) - 1 := IntWalk.i64_in _ (by omega)
    have ha := fun w => after_calls x q w
    have hR := HRES.out
    clear hj hC hqq HRES HV HO hn
    cases b : afterL x q
    · rw [b] at ha hR
      have HA := Lib.hid ha
      rw [if_pos ⟨n0, rfl⟩] at hR
      subst hR
      clear ha b
      go_wp2_with fail
      go_region_held3 (fun w' => w'.cell? (ad.add ((l0.length - 1) * 5)) = some (.int .i64 q.f0) ∧ w'.cell? ⟨(ad.add ((l0.length - 1) * 5)).block, (ad.add ((l0.length - 1) * 5)).off + 1, none⟩ = some (.int .i64 q.f1) ∧ w'.cell? ⟨(ad.add ((l0.length - 1) * 5)).block, (ad.add ((l0.length - 1) * 5)).off + 2, none⟩ = some (.int .i64 q.f2) ∧ w'.cell? ⟨(ad.add ((l0.length - 1) * 5)).block, (ad.add ((l0.length - 1) * 5)).off + 3, none⟩ = some (.int .i64 q.f3) ∧ w'.cell? ⟨(ad.add ((l0.length - 1) * 5)).block, (ad.add ((l0.length - 1) * 5)).off + 4, none⟩ = some (.int .i64 q.f4) ∧ w'.cell? ⟨RB, 0, none⟩ = some (.int .i64 x.f0) ∧ w'.cell? ⟨RB, 1, none⟩ = some (.int .i64 x.f1) ∧ w'.cell? ⟨RB, 2, none⟩ = some (.int .i64 x.f2) ∧ w'.cell? ⟨RB, 3, none⟩ = some (.int .i64 x.f3) ∧ w'.cell? ⟨RB, 4, none⟩ = some (.int .i64 x.f4))
        (first
          | (refine ⟨?_, ?_, ?_, ?_, ?_, ?_, ?_, ?_, ?_, ?_⟩ <;> first | assumption | (simp only [World.cell?_drew, World.frozen?_drew]; assumption))
          | (refine ⟨below_cell hby q0, below_cell hby q1, below_cell hby q2, below_cell hby q3, below_cell hby q4, below_cell hby y0, below_cell hby y1, below_cell hby y2, below_cell hby y3, below_cell hby y4⟩))
        (first | (go_at_call 24; refine (HA.out _).mono ?_; rintro e w3 ⟨rfl, hby⟩))
      have hb3 : Below RB w w3 := HB2.out.trans ((below_trans (Below.refl _ _).drew hby).mono (by have := HB2.out.size; rw [hRB] at this; exact this))
      have HB3 := Lib.hid hb3
      clear hb3 hby
      go_wp2_with fail
      go_ret2
      exact ⟨_, rfl, Kd.R_nil _ _ _ _ _, by rw [hRB]; exact HB3.out⟩
    · rw [b] at ha hR
      have HA := Lib.hid ha
      rw [if_neg (fun h => by cases h.2)] at hR
      have HRES := Lib.hid hR
      clear ha hR b
      go_wp2_with fail
      go_region_held3 (fun w' => w'.cell? (ad.add ((l0.length - 1) * 5)) = some (.int .i64 q.f0) ∧ w'.cell? ⟨(ad.add ((l0.length - 1) * 5)).block, (ad.add ((l0.length - 1) * 5)).off + 1, none⟩ = some (.int .i64 q.f1) ∧ w'.cell? ⟨(ad.add ((l0.length - 1) * 5)).block, (ad.add ((l0.length - 1) * 5)).off + 2, none⟩ = some (.int .i64 q.f2) ∧ w'.cell? ⟨(ad.add ((l0.length - 1) * 5)).block, (ad.add ((l0.length - 1) * 5)).off + 3, none⟩ = some (.int .i64 q.f3) ∧ w'.cell? ⟨(ad.add ((l0.length - 1) * 5)).block, (ad.add ((l0.length - 1) * 5)).off + 4, none⟩ = some (.int .i64 q.f4) ∧ w'.cell? ⟨RB, 0, none⟩ = some (.int .i64 x.f0) ∧ w'.cell? ⟨RB, 1, none⟩ = some (.int .i64 x.f1) ∧ w'.cell? ⟨RB, 2, none⟩ = some (.int .i64 x.f2) ∧ w'.cell? ⟨RB, 3, none⟩ = some (.int .i64 x.f3) ∧ w'.cell? ⟨RB, 4, none⟩ = some (.int .i64 x.f4))
        (first
          | (refine ⟨?_, ?_, ?_, ?_, ?_, ?_, ?_, ?_, ?_, ?_⟩ <;> first | assumption | (simp only [World.cell?_drew, World.frozen?_drew]; assumption))
          | (refine ⟨below_cell hby q0, below_cell hby q1, below_cell hby q2, below_cell hby q3, below_cell hby q4, below_cell hby y0, below_cell hby y1, below_cell hby y2, below_cell hby y3, below_cell hby y4⟩))
        (first | (go_at_call 24; refine (HA.out _).mono ?_; rintro e w3 ⟨rfl, hby⟩))
      have hb3 : Below RB w w3 := HB2.out.trans ((below_trans (Below.refl _ _).drew hby).mono (by have := HB2.out.size; rw [hRB] at this; exact this))
      have HB3 := Lib.hid hb3
      clear hb3 hby
      by_cases hf : l0.length = 64
      · have hR := HRES.out
        rw [if_pos hf] at hR
        subst hR
        have kf : ((l0.length : Int) == 64) = true := by rw [hf]; rfl
        clear hf HRES
        go_wp2_with fail
        go_ret2
        exact ⟨_, rfl, Kd.R_nil _ _ _ _ _, by rw [hRB]; exact HB3.out⟩
      · have hR := HRES.out
        rw [if_neg hf] at hR
        subst hR
        have kf : ((l0.length : Int) == 64) = false := by simp; omega
        clear hf HRES
        go_wp2_with fail
        refine (ConcatLease.concat_calls _ (some ⟨_, 0, none⟩) c0 1 _ [x] _ _ (two_lit w3 x _ _ c0).1 (two_lit w3 x _ _ c0).2.1 (Kd.C_alloc (Kd.C_alloc (Kd.C_below HR.out (hRB.symm ▸ HB3.out)) _) _) (two_lit w3 x _ _ c0).2.2 (by first | omega | simp) (by simp)).mono ?_
        rintro e w5 ⟨v5, rfl, ho5, hb5⟩
        have hsz : RB ≤ ((w3.alloc (.cells #[.int .i64 x.f0, .int .i64 x.f1, .int .i64 x.f2, .int .i64 x.f3, .int .i64 x.f4] 24)).alloc (.cells #[.slice (some ad) l0.length c0, .slice (some ⟨w3.heap.size, 0, none⟩) 1 1] 22)).heap.size := by have h_ : RB ≤ w3.heap.size := hRB ▸ HB3.out.size; simp; omega
        have HO5 := Lib.hid (Kd.R_lower ho5 hsz)
        have HB5 := Lib.hid (((HB3.out.alloc (hRB ▸ HB3.out.size) _).alloc (by have h_ : RB ≤ w3.heap.size := hRB ▸ HB3.out.size; simp; omega) _).trans (hb5.mono hsz))
        clear ho5 hb5 hsz
        go_wp2_with fail
        go_ret2
        exact ⟨_, rfl, by rw [hRB]; exact HO5.out, by rw [hRB]; exact HB5.out⟩

def grantF (l : List Ls) (x0 x1 x2 x3 x4 : Int) : Option (List Ls × Int) := some (grantL l ⟨x0, x1, x2, x3, x4⟩)
theorem grant_ext (A0 : Option Addr) (c0 : Nat) (l0 : List Ls) (x0 x1 x2 x3 x4 : Int) (r1 : List Ls) (r2 : Int) (w : World) (hr0 : Kd.C kL w A0 l0.length l0) (hc0 : l0.length ≤ c0) (h : grantF l0 x0 x1 x2 x3 x4 = some (r1, r2)) :
    Calls Try.prog 11 #[.slice A0 l0.length c0, .agg #[.int .i64 x0, .int .i64 x1, .int .i64 x2, .int .i64 x3, .int .i64 x4]] w fun e w' => ∃ v0_ : Value, e = .returned (.tuple #[v0_, .int .i64 r2]) ∧ Kd.R kL 24 w' w.heap.size (fun _ => True) v0_ r1 ∧ Below w.heap.size w w' := by
  have h' := Option.some.inj h
  cases b : (validL l0 && oneL ⟨x0, x1, x2, x3, x4⟩)
  · have hg : grantL l0 ⟨x0, x1, x2, x3, x4⟩ = ([], 1) := by unfold grantL; rw [b]; rfl
    rw [hg] at h'
    cases h'
    exact grant_arg A0 c0 l0 ⟨x0, x1, x2, x3, x4⟩ w hr0 hc0 b
  · rw [Bool.and_eq_true] at b
    have := grant_go A0 c0 l0 ⟨x0, x1, x2, x3, x4⟩ w hr0 hc0 b.1 b.2
    rw [h'] at this
    exact this
end Go.Proofs.Ytpngiddelhcepaa.LeaseWalk
