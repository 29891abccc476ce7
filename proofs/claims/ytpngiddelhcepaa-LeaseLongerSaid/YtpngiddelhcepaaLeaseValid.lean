/-
  The walk of lease.Valid.
-/
import Derived.Test.YtpngiddelhcepaaLeaseOne
import Derived.Deep.RegionHeld3
import Derived.WalkMore
namespace Go.Proofs.Ytpngiddelhcepaa.LeaseWalk
open Go.RowKit Go.Proofs.Ytpngiddelhcepaa.Kit Go.Proofs.Ytpngiddelhcepaa.PAll
open Go.Proofs.YtpngiddelhcepaaW.PrintWords hiding below_alloc below_drew
set_option linter.unusedVariables false
set_option linter.unusedSimpArgs false

/-- Leases are valid behind another one. -/
def okAfter : Option Ls → Ls → Bool
  | none, _ => true
  | some y, x => afterL x y
def validFrom : Option Ls → List Ls → Bool
  | _, [] => true
  | p, x :: l => oneL x && (okAfter p x && validFrom (some x) l)
theorem validFrom_cons (p : Option Ls) (x : Ls) (l : List Ls) : validFrom p (x :: l) = (oneL x && (okAfter p x && validFrom (some x) l)) := by rw [validFrom]
def validL (l : List Ls) : Bool := decide (l.length ≤ 64) && validFrom none l
def pv (l : List Ls) (j : Nat) : Option Ls := if j = 0 then none else l[j - 1]?

set_option maxHeartbeats 2000000 in
set_option maxRecDepth 100000 in
theorem valid_loop (A0 : Option Addr) (c0 : Nat) (l0 : List Ls) (w : World) (hr0 : Kd.C k24 w A0 l0.length l0) (hc0 : l0.length ≤ c0) (hl : l0.length ≤ 64) :
    Calls Try.prog 17 #[.slice A0 l0.length c0] w fun e w' => e = .returned (.bool (validFrom none l0)) ∧ Below w.heap.size w w' := by
  have HR := Lib.hid hr0
  clear hr0
  obtain ⟨res, hres⟩ : ∃ res, validFrom none l0 = res := ⟨_, rfl⟩
  rw [hres]
  have HRES := Lib.hid hres
  clear hres
  go_enter Try.func17, Try.ntmps17
  go_wp2_with fail
  go_step3
  go_wp2_with fail
  go_step3
  go_wp2_with fail
  go_loopw [10] (fun s10 wr => ∃ j : Nat, s10 = .int .i64 j ∧ j ≤ l0.length ∧ Hid (validFrom (pv l0 j) (l0.drop j) = res) ∧ Hid (Below w.heap.size w wr)) (fun s10 wr => l0.length - (intOf s10).toNat)
  case atStart => exact ⟨0, rfl, Nat.zero_le _, HRES, Below.refl _ _⟩
  case round =>
    obtain ⟨j, rfl, hj, HF, HB⟩ := hrel
    by_cases hlt : j < l0.length
    · have hC := Kd.C_below HR.out HB.out
      obtain ⟨ad, rfl, x0, x1, x2, x3, x4⟩ := at_T24 hC j (Int.natCast_nonneg _) (by omega)
      generalize hrr : rd_T24 l0 (j : Int) = r at *
      simp only [Int.toNat_natCast] at x0 x1 x2 x3 x4
      have hr : l0[j]? = some r := by
        rw [← hrr]; unfold rd_T24
        rw [List.getD_eq_getElem?_getD, Int.toNat_natCast, List.getElem?_eq_getElem hlt]; rfl
      have j0 : (0 : Int) ≤ (j : Int) := Int.natCast_nonneg _
      have j1 : (j : Int) < (l0.length : Int) := by omega
      have hdrop : l0.drop j = r :: l0.drop (j + 1) := by
        rw [List.drop_eq_getElem_cons hlt]
        congr 1
        rw [List.getElem?_eq_getElem hlt] at hr
        exact Option.some.inj hr
      have hF := HF.out
      rw [hdrop, validFrom_cons] at hF
      have hpv : pv l0 (j + 1) = some r := by unfold pv; rw [if_neg (by omega)]; exact hr
      have h1 := fun w => one_calls r w
      cases b1 : oneL r
      · rw [b1] at h1 hF
        have H1 := Lib.hid h1
        rw [Bool.false_and] at hF
        subst hF
        clear h1 b1 hrr hr hdrop hpv hC
        go_wp2_with fail
        refine (H1.out _).mono ?_
        rintro e w1 ⟨rfl, hb1⟩
        go_wp2_with fail
        simp only [Exit.noGoto]
        go_ret
        exact ⟨rfl, HB.out.trans ((below_alloc (Below.refl _ _) _).trans (hb1.mono (by simp)) |>.mono HB.out.size)⟩
      · rw [b1, Bool.true_and] at hF
        rw [b1] at h1
        have H1 := Lib.hid h1
        by_cases c : j = 0
        · have hp : pv l0 j = none := by unfold pv; rw [if_pos c]
          have hF2 : validFrom (pv l0 (j + 1)) (l0.drop (j + 1)) = res := by
            rw [hpv, ← hF, hp]
            simp [okAfter]
          have HF2 := Lib.hid hF2
          have kz : ((j : Int) == 0) = true := by simpa using c
          clear h1 b1 hrr hr hdrop hpv hC hF hF2 hp c
          go_wp2_with fail
          refine (H1.out _).mono ?_
          rintro e w1 ⟨rfl, hb1⟩
          have hbx : Below w.heap.size w w1 := HB.out.trans ((below_alloc (Below.refl _ _) _).trans (hb1.mono (by simp)) |>.mono HB.out.size)
          have HBX := Lib.hid hbx
          clear hbx hb1
          go_wp2_with fail
          go_roundw
          case rel => exact ⟨j + 1, by go_num, by omega, HF2, HBX⟩
          case measure => simp [intOf]; omega
        · have hj1 : j - 1 < l0.length := by omega
          obtain ⟨ad', e', y0, y1, y2, y3, y4⟩ := at_T24 hC ((j : Int) - 1) (by omega) (by omega)
          cases e'
          have ht : ((j : Int) - 1).toNat = j - 1 := by omega
          have hqq : rd_T24 l0 ((j : Int) - 1) = rd_T24 l0 ((j - 1 : Nat) : Int) := by congr 1; omega
          rw [hqq] at y0 y1 y2 y3 y4
          clear hqq
          generalize hqq : rd_T24 l0 ((j - 1 : Nat) : Int) = q at *
          simp only [ht] at y0 y1 y2 y3 y4
          have hp : pv l0 j = some q := by
            unfold pv; rw [if_neg c, ← hqq]; unfold rd_T24
            rw [List.getD_eq_getElem?_getD, Int.toNat_natCast, List.getElem?_eq_getElem hj1]; rfl
          rw [hp] at hF
          simp only [okAfter] at hF
          have ha := fun w => after_calls r q w
          have k0 : (0 : Int) ≤ (j : Int) - 1 := by omega
          have k1 : (j : Int) - 1 < (l0.length : Int) := by omega
          have k2 : (1 : Int) ≤ (j : Int) := by omega
          have k3 : (j : Int) ≤ (l0.length : Int) := by omega
          have k4 : 1 ≤ j := by omega
          have k5 : 0 < j := by omega
          have kw : IntKind.i64.wrap ((j : Int) - 1) = (j : Int) - 1 := IntWalk.i64_in _ (by omega)
          have kz : ((j : Int) == 0) = false := by simpa using c
          clear h1 b1 hrr hr hdrop hC hqq hp
          cases b2 : afterL r q
          · rw [b2] at ha hF
            have HA := Lib.hid ha
            clear ha b2
            rw [Bool.false_and] at hF
            subst hF
            clear hpv
            go_wp2_with fail
            refine (H1.out _).mono ?_
            rintro e w1 ⟨rfl, hb1⟩
            have hbx : Below wr.heap.size wr w1 := (below_alloc (Below.refl _ _) _).trans (hb1.mono (by simp))
            have g1 := blk_below (blk_new wr _) hb1
            have z0 := below_cell hbx y0
            have z1 := below_cell hbx y1
            have z2 := below_cell hbx y2
            have z3 := below_cell hbx y3
            have z4 := below_cell hbx y4
            have v0 : w1.cell? ⟨wr.heap.size, 0, none⟩ = some (.int .i64 r.f0) := by rw [blk_cell g1]; rfl
            have v1 : w1.cell? ⟨wr.heap.size, 1, none⟩ = some (.int .i64 r.f1) := by rw [blk_cell g1]; rfl
            have v2 : w1.cell? ⟨wr.heap.size, 2, none⟩ = some (.int .i64 r.f2) := by rw [blk_cell g1]; rfl
            have v3 : w1.cell? ⟨wr.heap.size, 3, none⟩ = some (.int .i64 r.f3) := by rw [blk_cell g1]; rfl
            have v4 : w1.cell? ⟨wr.heap.size, 4, none⟩ = some (.int .i64 r.f4) := by rw [blk_cell g1]; rfl
            have hBw : Below w.heap.size w w1 := HB.out.trans (hbx.mono HB.out.size)
            have HBW := Lib.hid hBw
            clear g1 hbx hb1 hBw x0 x1 x2 x3 x4 y0 y1 y2 y3 y4
            generalize wr.heap.size = RB at *
            go_wp2_with fail
            go_region_held3 (fun w' => w'.cell? (ad.add ((j - 1) * 5)) = some (.int .i64 q.f0) ∧ w'.cell? ⟨(ad.add ((j - 1) * 5)).block, (ad.add ((j - 1) * 5)).off + 1, none⟩ = some (.int .i64 q.f1) ∧ w'.cell? ⟨(ad.add ((j - 1) * 5)).block, (ad.add ((j - 1) * 5)).off + 2, none⟩ = some (.int .i64 q.f2) ∧ w'.cell? ⟨(ad.add ((j - 1) * 5)).block, (ad.add ((j - 1) * 5)).off + 3, none⟩ = some (.int .i64 q.f3) ∧ w'.cell? ⟨(ad.add ((j - 1) * 5)).block, (ad.add ((j - 1) * 5)).off + 4, none⟩ = some (.int .i64 q.f4) ∧ w'.cell? ⟨RB, 0, none⟩ = some (.int .i64 r.f0) ∧ w'.cell? ⟨RB, 1, none⟩ = some (.int .i64 r.f1) ∧ w'.cell? ⟨RB, 2, none⟩ = some (.int .i64 r.f2) ∧ w'.cell? ⟨RB, 3, none⟩ = some (.int .i64 r.f3) ∧ w'.cell? ⟨RB, 4, none⟩ = some (.int .i64 r.f4))
              (first
                | (refine ⟨?_, ?_, ?_, ?_, ?_, ?_, ?_, ?_, ?_, ?_⟩ <;> first | assumption | (simp only [World.cell?_drew, World.frozen?_drew]; assumption))
                | (refine ⟨below_cell hby z0, below_cell hby z1, below_cell hby z2, below_cell hby z3, below_cell hby z4, below_cell hby v0, below_cell hby v1, below_cell hby v2, below_cell hby v3, below_cell hby v4⟩))
              (first | (go_at_call 24; refine (HA.out _).mono ?_; rintro e w2 ⟨rfl, hby⟩))
            have hbz : Below w.heap.size w w2 := HBW.out.trans ((below_trans (Below.refl _ _).drew hby).mono HBW.out.size)
            have HBZ := Lib.hid hbz
            clear hbz hby z0 z1 z2 z3 z4 v0 v1 v2 v3 v4
            go_wp2_with fail
            simp only [Exit.noGoto]
            go_ret
            exact ⟨rfl, HBZ.out⟩
          · rw [b2] at ha hF
            have HA := Lib.hid ha
            clear ha b2
            rw [Bool.true_and, ← hpv] at hF
            clear hpv
            have HF2 := Lib.hid hF
            clear hF
            go_wp2_with fail
            refine (H1.out _).mono ?_
            rintro e w1 ⟨rfl, hb1⟩
            have hbx : Below wr.heap.size wr w1 := (below_alloc (Below.refl _ _) _).trans (hb1.mono (by simp))
            have g1 := blk_below (blk_new wr _) hb1
            have z0 := below_cell hbx y0
            have z1 := below_cell hbx y1
            have z2 := below_cell hbx y2
            have z3 := below_cell hbx y3
            have z4 := below_cell hbx y4
            have v0 : w1.cell? ⟨wr.heap.size, 0, none⟩ = some (.int .i64 r.f0) := by rw [blk_cell g1]; rfl
            have v1 : w1.cell? ⟨wr.heap.size, 1, none⟩ = some (.int .i64 r.f1) := by rw [blk_cell g1]; rfl
            have v2 : w1.cell? ⟨wr.heap.size, 2, none⟩ = some (.int .i64 r.f2) := by rw [blk_cell g1]; rfl
            have v3 : w1.cell? ⟨wr.heap.size, 3, none⟩ = some (.int .i64 r.f3) := by rw [blk_cell g1]; rfl
            have v4 : w1.cell? ⟨wr.heap.size, 4, none⟩ = some (.int .i64 r.f4) := by rw [blk_cell g1]; rfl
            have hBw : Below w.heap.size w w1 := HB.out.trans (hbx.mono HB.out.size)
            have HBW := Lib.hid hBw
            clear g1 hbx hb1 hBw x0 x1 x2 x3 x4 y0 y1 y2 y3 y4
            generalize wr.heap.size = RB at *
            go_wp2_with fail
            go_region_held3 (fun w' => w'.cell? (ad.add ((j - 1) * 5)) = some (.int .i64 q.f0) ∧ w'.cell? ⟨(ad.add ((j - 1) * 5)).block, (ad.add ((j - 1) * 5)).off + 1, none⟩ = some (.int .i64 q.f1) ∧ w'.cell? ⟨(ad.add ((j - 1) * 5)).block, (ad.add ((j - 1) * 5)).off + 2, none⟩ = some (.int .i64 q.f2) ∧ w'.cell? ⟨(ad.add ((j - 1) * 5)).block, (ad.add ((j - 1) * 5)).off + 3, none⟩ = some (.int .i64 q.f3) ∧ w'.cell? ⟨(ad.add ((j - 1) * 5)).block, (ad.add ((j - 1) * 5)).off + 4, none⟩ = some (.int .i64 q.f4) ∧ w'.cell? ⟨RB, 0, none⟩ = some (.int .i64 r.f0) ∧ w'.cell? ⟨RB, 1, none⟩ = some (.int .i64 r.f1) ∧ w'.cell? ⟨RB, 2, none⟩ = some (.int .i64 r.f2) ∧ w'.cell? ⟨RB, 3, none⟩ = some (.int .i64 r.f3) ∧ w'.cell? ⟨RB, 4, none⟩ = some (.int .i64 r.f4))
              (first
                | (refine ⟨?_, ?_, ?_, ?_, ?_, ?_, ?_, ?_, ?_, ?_⟩ <;> first | assumption | (simp only [World.cell?_drew, World.frozen?_drew]; assumption))
                | (refine ⟨below_cell hby z0, below_cell hby z1, below_cell hby z2, below_cell hby z3, below_cell hby z4, below_cell hby v0, below_cell hby v1, below_cell hby v2, below_cell hby v3, below_cell hby v4⟩))
              (first | (go_at_call 24; refine (HA.out _).mono ?_; rintro e w2 ⟨rfl, hby⟩))
            have hbz : Below w.heap.size w w2 := HBW.out.trans ((below_trans (Below.refl _ _).drew hby).mono HBW.out.size)
            have HBZ := Lib.hid hbz
            clear hbz hby z0 z1 z2 z3 z4 v0 v1 v2 v3 v4
            go_wp2_with fail
            go_roundw
            case rel => exact ⟨j + 1, by go_num, by omega, HF2.out, HBZ.out⟩
            case measure => simp [intOf]; omega
    · obtain rfl : j = l0.length := by omega
      have hF := HF.out
      rw [List.drop_length, validFrom] at hF
      subst hF
      go_wp2_with fail
      simp only [Exit.noGoto]
      go_ret
      exact ⟨rfl, HB.out⟩

/-- lease.Valid. -/
theorem valid_calls (A0 : Option Addr) (c0 : Nat) (l0 : List Ls) (w : World) (hr0 : Kd.C k24 w A0 l0.length l0) (hc0 : l0.length ≤ c0) :
    Calls Try.prog 17 #[.slice A0 l0.length c0] w fun e w' => e = .returned (.bool (validL l0)) ∧ Below w.heap.size w w' := by
  by_cases hl : l0.length ≤ 64
  · have h : validL l0 = validFrom none l0 := by unfold validL; rw [decide_eq_true hl, Bool.true_and]
    rw [h]
    exact valid_loop A0 c0 l0 w hr0 hc0 hl
  · have h : validL l0 = false := by unfold validL; rw [decide_eq_false hl, Bool.false_and]
    rw [h]
    have h1 : 64 < l0.length := by omega
    have h2 : (64 : Int) < (l0.length : Int) := by omega
    clear hr0 h hl
    go_enter Try.func17, Try.ntmps17
    go_wp2_with fail
    go_step3
    go_wp2_with fail
    simp only [Exit.noGoto]
    go_ret
    exact ⟨rfl, by repeat (first | exact Below.refl _ _ | apply below_drewN | apply below_alloc)⟩
end Go.Proofs.Ytpngiddelhcepaa.LeaseWalk
