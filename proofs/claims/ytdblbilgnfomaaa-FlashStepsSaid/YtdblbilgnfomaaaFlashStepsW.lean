/-
  The walk of the law FlashSteps, by hand.
-/
import Derived.Test.YtdblbilgnfomaaaFlashStepsP
import Derived.Test.YtdblbilgnfomaaaPAllx4
import Derived.Deep.DeepCutAuto
import Derived.Deep.RegionHeld3
import Derived.Deep.DeepMust
import Derived.StillTailTactics
namespace Go.Proofs.Ytdblbilgnfomaaa.FlashSteps
open Go.RowKit Go.Proofs.Ytdblbilgnfomaaa.Kit Go.Proofs.Ytdblbilgnfomaaa.PAll Go.Proofs.Ytdblbilgnfomaaa.FlashB Go.Proofs.Ytdblbilgnfomaaa.FlashC Go.Proofs.Ytdblbilgnfomaaa.FlashE Go.Proofs.Ytdblbilgnfomaaa.FlashPlain
open Go.Proofs.YtdblbilgnfomaaaW.PrintWords hiding below_alloc below_drew
open Go.Proofs.YtdblbilgnfomaaaW.PrintLast
set_option linter.unusedVariables false
set_option linter.unusedSimpArgs false

theorem prog_cases' (S : Int) (l : List Int) (at_ : Int) (d : List Int) : (∃ e, (e = 1 ∨ e = 3) ∧ progF S l at_ d = some ([], e)) ∨ (∃ P, progF S l at_ d = some (P, 0)) := by
  rcases prog_cases S l at_ d with ⟨e, he, h⟩ | ⟨_, _, _, h⟩
  · refine .inl ⟨e, ?_, h⟩
    have h' : progF S l at_ d = some ([], e) := h
    unfold progF at h'
    cases hb : badP S l at_ <;> rw [hb] at h'
    · cases hf : farP l at_ d <;> rw [hf] at h'
      · exfalso
        have := prog_ok (S := S) (l := l) (at_ := at_) (d := d)
        simp at h'
        omega
      · simp at h'
        exact .inr h'.symm
    · simp at h'
      exact .inl h'.symm
  · exact .inr ⟨_, h⟩

theorem prog_told (S : Int) (l : List Int) (at_ : Int) (d : List Int) (hl : l.length ≤ 300) (hd : d.length ≤ 300) :
    ∃ P e, progF S l at_ d = some (P, e) ∧ P.length ≤ 301 ∧ (∀ i : Nat, 1 ≤ i → i < P.length → 0 ≤ at_ ∧ at_ ≤ 300 ∧ Good l.length (fun x y => Go.bits .andNot .u8 y x = 0) at_ i (P.getD (i - 1) z24) (P.getD i z24)) ∧ (e ≠ 0 ∨ (e = 0 ∧ P.length = d.length + 1 ∧ P.getD 0 z24 = ⟨S, l⟩)) := by
  rcases prog_cases S l at_ d with ⟨e, he, h⟩ | ⟨hv, h0, h1, h⟩
  · exact ⟨[], e, h, Nat.zero_le _, fun i _ hi => by simp at hi, .inl he⟩
  · have hml := memsOf_length S (clearB d) at_ l d.length
    have hget : ∀ i, i ≤ d.length → (memsOf S (clearB d) at_ l d.length).getD i z24 = ⟨S, stL (clearB d) at_ l i⟩ := fun i hi => by
      have := memsOf_rd S (clearB d) at_ l d.length i hi
      unfold rd_T24 at this
      rwa [Int.toNat_natCast] at this
    refine ⟨_, 0, h, by rw [hml]; omega, fun i hi1 hi2 => ⟨h0, by omega, ?_⟩, .inr ⟨rfl, hml, hget 0 (by omega)⟩⟩
    rw [hml] at hi2
    rw [hget (i - 1) (by omega), hget i (by omega)]
    exact good_step S (clearB d) at_ l i d.length _ hv hl h0 h1 hi1 (by omega) (fun j _ => andNot8 _ _)
theorem erase_told (S : Int) (l : List Int) (sec : Int) (hl : l.length ≤ 300) :
    ∃ P e, eraseF S l sec = some (P, e) ∧ P.length ≤ 301 ∧ (∀ i : Nat, 1 ≤ i → i < P.length → 0 ≤ sec * S ∧ sec * S ≤ 300 ∧ Good l.length (fun _ y => y = 255) (sec * S) i (P.getD (i - 1) z24) (P.getD i z24)) ∧ (e ≠ 0 ∨ (e = 0 ∧ (P.length : Int) = S + 1 ∧ (0 ≤ S ∧ S ≤ 300) ∧ P.getD 0 z24 = ⟨S, l⟩)) := by
  rcases erase_cases S l sec with h | ⟨hv, h0, h1, hlt, h⟩
  · exact ⟨[], 1, h, Nat.zero_le _, fun i _ hi => by simp at hi, .inl (by decide)⟩
  · have hS := valF_iff.1 hv
    have hp : 0 ≤ sec * S := Int.mul_nonneg h0 (by omega)
    have hml := memsOf_length S (fun _ _ => 255) (sec * S) l S.toNat
    have hget : ∀ i, i ≤ S.toNat → (memsOf S (fun _ _ => 255) (sec * S) l S.toNat).getD i z24 = ⟨S, stL (fun _ _ => 255) (sec * S) l i⟩ := fun i hi => by
      have := memsOf_rd S (fun _ _ => 255) (sec * S) l S.toNat i hi
      unfold rd_T24 at this
      rwa [Int.toNat_natCast] at this
    refine ⟨_, 0, h, by rw [hml]; omega, fun i hi1 hi2 => ⟨hp, by omega, ?_⟩, .inr ⟨rfl, by rw [hml]; omega, by omega, hget 0 (by omega)⟩⟩
    rw [hml] at hi2
    rw [hget (i - 1) (by omega), hget i (by omega)]
    exact good_step S (fun _ _ => 255) (sec * S) l i S.toNat _ hv hl hp (by omega) hi1 (by omega) (fun j _ => rfl)

def Done (w : World) (e : Ending) (w' : World) : Prop := e = .returned (.bool true) ∧ Below w.heap.size w w'

set_option maxRecDepth 100000 in
set_option maxHeartbeats 8000000 in
theorem steps_calls (S : Int) (A0 : Option Addr) (c0 : Nat) (l : List Int) (at_ : Int) (A2 : Option Addr) (c2 : Nat) (d : List Int) (sec : Int) (w : World) (hr0 : Kd.C (Kd.int .u8) w A0 l.length l) (hc0 : l.length ≤ c0) (hr2 : Kd.C (Kd.int .u8) w A2 d.length d) (hc2 : d.length ≤ c2) :
    Calls Try.prog 4 #[.agg #[.int .i64 S, .slice A0 l.length c0], .int .i64 at_, .slice A2 d.length c2, .int .i64 sec] w (Done w) := by
  obtain ⟨kh, hkh⟩ := Ev.rounds head_tells
  have hh := fun W => chargeparklaw17_head.calls kh true W hkh
  have HH := Lib.hid hh
  have HR := Lib.hid hr0
  have HR2 := Lib.hid hr2
  clear hh hr0 hr2 hkh
  by_cases h1 : l.length > 300
  · have e1 : decide ((300 : Int) < (l.length : Int)) = true := decide_eq_true (by omega)
    go_enter Try.func4, Try.ntmps4
    go_wp2_with fail
    refine (HH.out _).mono ?_
    rintro e w1 ⟨rfl, hb⟩
    have g1 := blk_below (blk_new w (.cells #[.int .i64 S, .slice A0 l.length c0] 24)) hb
    have p1 : w1.cell? ⟨w.heap.size, 1, none⟩ = some (.slice A0 l.length c0) := by rw [blk_cell g1]; rfl
    have HB := Lib.hid (((Below.refl _ w).alloc (Nat.le_refl _) _).trans (hb.mono (by simp)))
    clear hb g1
    go_wp2_with fail
    go_ret
    exact ⟨rfl, HB.out⟩
  have e1 : decide ((300 : Int) < (l.length : Int)) = false := decide_eq_false (by omega)
  by_cases h2 : d.length > 300
  · have e2 : decide ((300 : Int) < (d.length : Int)) = true := decide_eq_true (by omega)
    go_enter Try.func4, Try.ntmps4
    go_wp2_with fail
    refine (HH.out _).mono ?_
    rintro e w1 ⟨rfl, hb⟩
    have g1 := blk_below (blk_new w (.cells #[.int .i64 S, .slice A0 l.length c0] 24)) hb
    have p1 : w1.cell? ⟨w.heap.size, 1, none⟩ = some (.slice A0 l.length c0) := by rw [blk_cell g1]; rfl
    have HB := Lib.hid (((Below.refl _ w).alloc (Nat.le_refl _) _).trans (hb.mono (by simp)))
    clear hb g1
    go_wp2_with fail
    go_ret
    exact ⟨rfl, HB.out⟩
  have e2 : decide ((300 : Int) < (d.length : Int)) = false := decide_eq_false (by omega)
  obtain ⟨P, eP, hP, hPl, hPg, hPe⟩ := prog_told S l at_ d (by omega) (by omega)
  obtain ⟨M, eM, hM, hMl, hMg, hMe⟩ := erase_told S l sec (by omega)
  have hprog := fun W h1 h2 => prog_ext S A0 c0 l at_ A2 c2 d P eP W h1 h2 hP
  have herase := fun W h1 => erase_ext S A0 c0 l sec M eM W h1 hM
  have HPROG := Lib.hid hprog
  have HERASE := Lib.hid herase
  have HPG := Lib.hid hPg
  have HPE := Lib.hid hPe
  have HMG := Lib.hid hMg
  have HME := Lib.hid hMe
  have HEP := Lib.hid hP
  have HEM := Lib.hid hM
  clear hprog herase hPg hPe hMg hMe hP hM
  go_enter Try.func4, Try.ntmps4
  go_wp2_with fail
  refine (HH.out _).mono ?_
  rintro e w1 ⟨rfl, hb⟩
  have g1 := blk_below (blk_new w (.cells #[.int .i64 S, .slice A0 l.length c0] 24)) hb
  have p0 : w1.cell? ⟨w.heap.size, 0, none⟩ = some (.int .i64 S) := by rw [blk_cell g1]; rfl
  have p1 : w1.cell? ⟨w.heap.size, 1, none⟩ = some (.slice A0 l.length c0) := by rw [blk_cell g1]; rfl
  have hB1 := ((Below.refl _ w).alloc (Nat.le_refl _) (.cells #[.int .i64 S, .slice A0 l.length c0] 24)).trans (hb.mono (by simp))
  have HB1 := Lib.hid hB1
  have G1 := Lib.hid g1
  clear hb g1 hB1
  go_wp2_with fail
  refine (HPROG.out _ (Kd.C_below HR.out HB1.out) (Kd.C_below HR2.out HB1.out)).mono ?_
  rintro e w2 ⟨v0, rfl, hN, hb⟩
  obtain ⟨AP, cP, rfl⟩ := Kd.N_slice hN
  have hCP := (Kd.N_reads' hN).2.2
  have hB2 := HB1.out.trans (hb.mono HB1.out.size)
  have hG2 := blk_below G1.out hb
  have HCP := Lib.hid hCP
  have HB2 := Lib.hid hB2
  have G2 := Lib.hid hG2
  clear hb hN hCP hB2 hG2 p0 p1 G1 HB1 HH HPROG e1 e2
  go_wp2_with fail
  go_loopw [12] (fun s12 wr => ∃ k : Nat, 1 ≤ k ∧ (k ≤ P.length ∨ k = 1) ∧ s12 = .int .i64 k ∧ Hid (Below w2.heap.size w2 wr)) (fun s12 _ => P.length - (intOf s12).toNat)
  case atStart => exact ⟨1, Nat.le_refl _, .inr rfl, rfl, Lib.hid (Below.refl _ _)⟩
  case round =>
    obtain ⟨k, hk1, hk, rfl, HB⟩ := hrel
    by_cases hlt : k < P.length
    · as_aux_lemma =>
        obtain ⟨hat0, hat1, g1, g2, g3, r, ⟨ko, hko⟩, hr⟩ := HPG.out k hk1 hlt
        have hC := Kd.C_below HCP.out HB.out
        have km0 : (0 : Int) ≤ ((k - 1 : Nat) : Int) := Int.natCast_nonneg _
        obtain ⟨ad, Aa, ca, rfl, xa0, xa1, hca, hCa⟩ := at_T24 hC ((k - 1 : Nat) : Int) km0 (by omega)
        obtain ⟨ad_, Ab, cb, e_, xb0, xb1, hcb, hCb⟩ := at_T24 hC (k : Int) (Int.natCast_nonneg _) (by omega)
        cases e_
        have ea : rd_T24 P ((k - 1 : Nat) : Int) = P.getD (k - 1) z24 := by unfold rd_T24; rw [Int.toNat_natCast]
        have eb : rd_T24 P (k : Int) = P.getD k z24 := by unfold rd_T24; rw [Int.toNat_natCast]
        rw [ea] at xa0 xa1 hca hCa
        rw [eb] at xb0 xb1 hcb hCb
        generalize P.getD (k - 1) z24 = a at *
        generalize P.getD k z24 = b at *
        simp only [Int.toNat_natCast] at xa0 xa1 xb0 xb1
        have HC := Lib.hid hC
        have HCa := Lib.hid hCa
        have HCb := Lib.hid hCb
        have HG1 := Lib.hid g1
        have HG2 := Lib.hid g2
        have HG3 := Lib.hid g3
        have HKO := Lib.hid hko
        have HRR := Lib.hid hr
        clear hC hCa hCb g1 g2 g3 hko hr ea eb km0
        have d1 : IntKind.i64.wrap ((k : Int) - 1) = ((k - 1 : Nat) : Int) := by rw [Go.IntWalk.i64_in _ (by omega)]; omega
        have d2 : (0 : Int) ≤ ((k - 1 : Nat) : Int) := by omega
        have d3 : ((k - 1 : Nat) : Int) < (P.length : Int) := by omega
        have d4 : k - 1 < P.length := by omega
        go_upto_region 8 with fail
        go_cut [13, 14] (fun s13 s14 wx => ∃ Ba Bb, s13 = .pointer (some ⟨Ba, 0, none⟩) ∧ s14 = .pointer (some ⟨Bb, 0, none⟩) ∧ Hid (wx.heap[Ba]? = some (.cells #[.int .i64 a.f0, .slice Aa a.f1.length ca] 24 (0, 0))) ∧ Hid (wx.heap[Bb]? = some (.cells #[.int .i64 b.f0, .slice Ab b.f1.length cb] 24 (0, 0))) ∧ Hid (Below wr.heap.size wr wx))
        case first =>
          have q0 := World.new_ne wr _ xa0
          have q1 := World.new_ne wr _ xa1
          have q2 := World.new_ne wr _ xb0
          have q3 := World.new_ne wr _ xb1
          go_region_held3 (fun w' => w'.cell? (ad.add ((k - 1) * 2)) = some (.int .i64 a.f0) ∧ w'.cell? ⟨(ad.add ((k - 1) * 2)).block, (ad.add ((k - 1) * 2)).off + 1, none⟩ = some (.slice Aa a.f1.length ca) ∧ w'.cell? (ad.add (k * 2)) = some (.int .i64 b.f0) ∧ w'.cell? ⟨(ad.add (k * 2)).block, (ad.add (k * 2)).off + 1, none⟩ = some (.slice Ab b.f1.length cb)) (go_keep) (fail)
          · go_wp2_with fail
            go_meet
            refine ⟨wr.heap.size, wr.heap.size + 1, rfl, rfl, Lib.hid (blk_alloc (blk_new wr _) _), ?_, Lib.hid (((Below.refl _ wr).alloc (Nat.le_refl _) _).alloc (by simp) _).drew⟩
            have := blk_new (wr.alloc (.cells #[.int .i64 a.f0, .slice Aa a.f1.length ca] 24)) (.cells #[.int .i64 b.f0, .slice Ab b.f1.length cb] 24)
            rw [World.size_alloc] at this
            exact Lib.hid this
          · go_wp2_with fail
            go_meet
            refine ⟨wr.heap.size + 1, wr.heap.size, rfl, rfl, ?_, Lib.hid (blk_alloc (blk_new wr _) _), Lib.hid (((Below.refl _ wr).alloc (Nat.le_refl _) _).alloc (by simp) _).drew⟩
            have := blk_new (wr.alloc (.cells #[.int .i64 b.f0, .slice Ab b.f1.length cb] 24)) (.cells #[.int .i64 a.f0, .slice Aa a.f1.length ca] 24)
            rw [World.size_alloc] at this
            exact Lib.hid this
        case rest =>
        obtain ⟨Ba, Bb, rfl, rfl, GA, GB, HX⟩ := hcut
        clear xa0 xa1 xb0 xb1 d1 d2 d3 d4
        have hG := blk_below (blk_below G2.out HB.out) HX.out
        have pf : wc.cell? ⟨w.heap.size, 1, none⟩ = some (.slice A0 l.length c0) := by rw [blk_cell hG]; rfl
        have pa1 : wc.cell? ⟨Ba, 1, none⟩ = some (.slice Aa a.f1.length ca) := by rw [blk_cell GA.out]; rfl
        have pb0 : wc.cell? ⟨Bb, 0, none⟩ = some (.int .i64 b.f0) := by rw [blk_cell GB.out]; rfl
        have pb1 : wc.cell? ⟨Bb, 1, none⟩ = some (.slice Ab b.f1.length cb) := by rw [blk_cell GB.out]; rfl
        have t1 : ((a.f1.length : Int) != (l.length : Int)) = false := by rw [HG1.out]; simp
        have t2 : ((b.f1.length : Int) != (l.length : Int)) = false := by rw [HG2.out]; simp
        have hval := fun W => valid_calls b.f0 Ab b.f1.length cb W
        rw [valF_self HG3.out HG2.out] at hval
        have HVAL := Lib.hid hval
        have HGG := Lib.hid hG
        clear hval hG
        go_wp2_with fail
        refine (HVAL.out _).mono ?_
        rintro e w4 ⟨rfl, hb4⟩
        have GA4 := Lib.hid (blk_below GA.out hb4)
        have GB4 := Lib.hid (blk_below GB.out hb4)
        have pa1' : w4.cell? ⟨Ba, 1, none⟩ = some (.slice Aa a.f1.length ca) := by rw [blk_cell GA4.out]; rfl
        have pb1' : w4.cell? ⟨Bb, 1, none⟩ = some (.slice Ab b.f1.length cb) := by rw [blk_cell GB4.out]; rfl
        have HX4 := Lib.hid (HX.out.trans (hb4.mono HX.out.size))
        clear hb4 pf pa1 pb0 pb1 GA GB HX t1 t2
        go_wp2_with fail
        refine (chargeparklaw17_one.calls ko Aa ca a.f1 Ab cb b.f1 r.1 r.2 _ (Kd.C_below HCa.out HX4.out) hca (Kd.C_below HCb.out HX4.out) hcb HKO.out).mono ?_
        rintro e w5 ⟨rfl, ⟨nd, rfl⟩⟩
        have HX5 := Lib.hid (below_drewN HX4.out nd)
        have hA5 := blk_drewN GA4.out nd
        have hB5 := blk_drewN GB4.out nd
        have hC5a := Kd.C_below HCa.out HX5.out
        have hC5b := Kd.C_below HCb.out HX5.out
        generalize w4.drewN nd = w5 at *
        have pa := blk_cell hA5 1
        have pb := blk_cell hB5 1
        have HA5 := Lib.hid hA5
        have HB5 := Lib.hid hB5
        have HC5a := Lib.hid hC5a
        have HC5b := Lib.hid hC5b
        clear hA5 hB5 hC5a hC5b pa1' pb1' GA4 GB4 HX4
        have pa' : w5.cell? ⟨Ba, 1, none⟩ = some (.slice Aa a.f1.length ca) := pa
        have pb' : w5.cell? ⟨Bb, 1, none⟩ = some (.slice Ab b.f1.length cb) := pb
        clear pa pb HKO
        obtain ⟨r1, q⟩ := r
        rcases HRR.out with hr | ⟨hr1, hr2, hr3, hr4, hr5⟩
        · obtain ⟨rfl, rfl⟩ := Prod.mk.inj hr
          clear HRR hr
          go_wp2_with fail
          go_quiet (fail)
          go_wp2_with fail
          go_roundw
          case rel => exact ⟨k + 1, by omega, .inl (by omega), by go_num, Lib.hid (below_drewN (HB.out.trans (HX5.out.mono HB.out.size)) _)⟩
          case measure => simp [intOf]; omega
        · dsimp only at hr1 hr2 hr3 hr4 hr5
          subst hr1
          have hqa : q < (a.f1.length : Int) := by rw [HG1.out]; exact hr4
          have hqb : q < (b.f1.length : Int) := by rw [HG2.out]; exact hr4
          obtain ⟨ada, rfl, xa⟩ := Kd.at_int HC5a.out q hr3 hqa
          obtain ⟨adb, rfl, xb⟩ := Kd.at_int HC5b.out q hr3 hqb
          have f1 : IntKind.i64.wrap (at_ + (k : Int)) = at_ + k := Go.IntWalk.i64_in _ (by omega)
          have f2 : IntKind.i64.wrap (at_ + (k : Int) - 1) = at_ + k - 1 := Go.IntWalk.i64_in _ (by omega)
          have f3 : (q != at_ + (k : Int) - 1) = false := by rw [hr2]; simp
          generalize rd a.f1 q = x at *
          generalize rd b.f1 q = y at *
          have HRB := Lib.hid hr2
          clear HRR hr2
          go_wp2_with fail
          go_quiet (fail)
          clear f1 f2
          go_wp2_with fail
          go_roundw
          case rel => exact ⟨k + 1, by omega, .inl (by omega), by go_num, Lib.hid (below_drewN (HB.out.trans (HX5.out.mono HB.out.size)) _)⟩
          case measure => simp [intOf]; omega
    · have e3 : decide ((k : Int) < (P.length : Int)) = false := decide_eq_false (by omega)
      have hG := blk_below G2.out HB.out
      have p0 : wr.cell? ⟨w.heap.size, 0, none⟩ = some (.int .i64 S) := by rw [blk_cell hG]; rfl
      have p1 : wr.cell? ⟨w.heap.size, 1, none⟩ = some (.slice A0 l.length c0) := by rw [blk_cell hG]; rfl
      have hb0 := HB2.out.trans (HB.out.mono HB2.out.size)
      have HBW := Lib.hid hb0
      have HCP3 := Lib.hid (Kd.C_below HCP.out HB.out)
      have G3 := Lib.hid hG
      clear hG hb0
      go_wp2_with fail
      refine (HERASE.out _ (Kd.C_below HR.out HBW.out)).mono ?_
      rintro e w3 ⟨v0, rfl, hN, hb⟩
      obtain ⟨AM, cM, rfl⟩ := Kd.N_slice hN
      have hCM := (Kd.N_reads' hN).2.2
      have hB3 := HBW.out.trans (hb.mono HBW.out.size)
      have hG4 := blk_below G3.out hb
      have HCP4 := Lib.hid (Kd.C_below HCP3.out hb)
      have HCM := Lib.hid hCM
      have HB3 := Lib.hid hB3
      have G4 := Lib.hid hG4
      clear hb hN hCM hB3 hG4 p0 p1 G3 HBW HERASE e3 HCP3 HPG HB2 HB G2 HCP
      clear hk hk1 hlt
      go_wp2_with fail
      go_loopw [19] (fun s19 wr => ∃ k : Nat, 1 ≤ k ∧ (k ≤ M.length ∨ k = 1) ∧ s19 = .int .i64 k ∧ Hid (Below w3.heap.size w3 wr)) (fun s19 _ => M.length - (intOf s19).toNat)
      case atStart => exact ⟨1, Nat.le_refl _, .inr rfl, rfl, Lib.hid (Below.refl _ _)⟩
      case round =>
        obtain ⟨k, hk1, hk, rfl, HB⟩ := hrel
        by_cases hlt : k < M.length
        · as_aux_lemma =>
            obtain ⟨hat0, hat1, g1, g2, g3, r, ⟨ko, hko⟩, hr⟩ := HMG.out k hk1 hlt
            have hC := Kd.C_below HCM.out HB.out
            have km0 : (0 : Int) ≤ ((k - 1 : Nat) : Int) := Int.natCast_nonneg _
            obtain ⟨ad, Aa, ca, rfl, xa0, xa1, hca, hCa⟩ := at_T24 hC ((k - 1 : Nat) : Int) km0 (by omega)
            obtain ⟨ad_, Ab, cb, e_, xb0, xb1, hcb, hCb⟩ := at_T24 hC (k : Int) (Int.natCast_nonneg _) (by omega)
            cases e_
            have ea : rd_T24 M ((k - 1 : Nat) : Int) = M.getD (k - 1) z24 := by unfold rd_T24; rw [Int.toNat_natCast]
            have eb : rd_T24 M (k : Int) = M.getD k z24 := by unfold rd_T24; rw [Int.toNat_natCast]
            rw [ea] at xa0 xa1 hca hCa
            rw [eb] at xb0 xb1 hcb hCb
            generalize M.getD (k - 1) z24 = a at *
            generalize M.getD k z24 = b at *
            simp only [Int.toNat_natCast] at xa0 xa1 xb0 xb1
            have HC := Lib.hid hC
            have HCa := Lib.hid hCa
            have HCb := Lib.hid hCb
            have HG1 := Lib.hid g1
            have HG2 := Lib.hid g2
            have HG3 := Lib.hid g3
            have HKO := Lib.hid hko
            have HRR := Lib.hid hr
            clear hC hCa hCb g1 g2 g3 hko hr ea eb km0
            have d1 : IntKind.i64.wrap ((k : Int) - 1) = ((k - 1 : Nat) : Int) := by rw [Go.IntWalk.i64_in _ (by omega)]; omega
            have d2 : (0 : Int) ≤ ((k - 1 : Nat) : Int) := by omega
            have d3 : ((k - 1 : Nat) : Int) < (M.length : Int) := by omega
            have d4 : k - 1 < M.length := by omega
            go_upto_region 18 with fail
            go_cut [20, 21] (fun s20 s21 wx => ∃ Ba Bb, s20 = .pointer (some ⟨Ba, 0, none⟩) ∧ s21 = .pointer (some ⟨Bb, 0, none⟩) ∧ Hid (wx.heap[Ba]? = some (.cells #[.int .i64 a.f0, .slice Aa a.f1.length ca] 24 (0, 0))) ∧ Hid (wx.heap[Bb]? = some (.cells #[.int .i64 b.f0, .slice Ab b.f1.length cb] 24 (0, 0))) ∧ Hid (Below wr.heap.size wr wx))
            case first =>
              have q0 := World.new_ne wr _ xa0
              have q1 := World.new_ne wr _ xa1
              have q2 := World.new_ne wr _ xb0
              have q3 := World.new_ne wr _ xb1
              go_region_held3 (fun w' => w'.cell? (ad.add ((k - 1) * 2)) = some (.int .i64 a.f0) ∧ w'.cell? ⟨(ad.add ((k - 1) * 2)).block, (ad.add ((k - 1) * 2)).off + 1, none⟩ = some (.slice Aa a.f1.length ca) ∧ w'.cell? (ad.add (k * 2)) = some (.int .i64 b.f0) ∧ w'.cell? ⟨(ad.add (k * 2)).block, (ad.add (k * 2)).off + 1, none⟩ = some (.slice Ab b.f1.length cb)) (go_keep) (fail)
              · go_wp2_with fail
                go_meet
                refine ⟨wr.heap.size, wr.heap.size + 1, rfl, rfl, Lib.hid (blk_alloc (blk_new wr _) _), ?_, Lib.hid (((Below.refl _ wr).alloc (Nat.le_refl _) _).alloc (by simp) _).drew⟩
                have := blk_new (wr.alloc (.cells #[.int .i64 a.f0, .slice Aa a.f1.length ca] 24)) (.cells #[.int .i64 b.f0, .slice Ab b.f1.length cb] 24)
                rw [World.size_alloc] at this
                exact Lib.hid this
              · go_wp2_with fail
                go_meet
                refine ⟨wr.heap.size + 1, wr.heap.size, rfl, rfl, ?_, Lib.hid (blk_alloc (blk_new wr _) _), Lib.hid (((Below.refl _ wr).alloc (Nat.le_refl _) _).alloc (by simp) _).drew⟩
                have := blk_new (wr.alloc (.cells #[.int .i64 b.f0, .slice Ab b.f1.length cb] 24)) (.cells #[.int .i64 a.f0, .slice Aa a.f1.length ca] 24)
                rw [World.size_alloc] at this
                exact Lib.hid this
            case rest =>
            obtain ⟨Ba, Bb, rfl, rfl, GA, GB, HX⟩ := hcut
            clear xa0 xa1 xb0 xb1 d1 d2 d3 d4
            have hG := blk_below (blk_below G4.out HB.out) HX.out
            have pf : wc.cell? ⟨w.heap.size, 1, none⟩ = some (.slice A0 l.length c0) := by rw [blk_cell hG]; rfl
            have pa1 : wc.cell? ⟨Ba, 1, none⟩ = some (.slice Aa a.f1.length ca) := by rw [blk_cell GA.out]; rfl
            have pb0 : wc.cell? ⟨Bb, 0, none⟩ = some (.int .i64 b.f0) := by rw [blk_cell GB.out]; rfl
            have pb1 : wc.cell? ⟨Bb, 1, none⟩ = some (.slice Ab b.f1.length cb) := by rw [blk_cell GB.out]; rfl
            have t1 : ((a.f1.length : Int) != (l.length : Int)) = false := by rw [HG1.out]; simp
            have t2 : ((b.f1.length : Int) != (l.length : Int)) = false := by rw [HG2.out]; simp
            have hval := fun W => valid_calls b.f0 Ab b.f1.length cb W
            rw [valF_self HG3.out HG2.out] at hval
            have HVAL := Lib.hid hval
            have HGG := Lib.hid hG
            clear hval hG
            go_wp2_with fail
            refine (HVAL.out _).mono ?_
            rintro e w4 ⟨rfl, hb4⟩
            have GA4 := Lib.hid (blk_below GA.out hb4)
            have GB4 := Lib.hid (blk_below GB.out hb4)
            have pa1' : w4.cell? ⟨Ba, 1, none⟩ = some (.slice Aa a.f1.length ca) := by rw [blk_cell GA4.out]; rfl
            have pb1' : w4.cell? ⟨Bb, 1, none⟩ = some (.slice Ab b.f1.length cb) := by rw [blk_cell GB4.out]; rfl
            have HX4 := Lib.hid (HX.out.trans (hb4.mono HX.out.size))
            clear hb4 pf pa1 pb0 pb1 GA GB HX t1 t2
            go_wp2_with fail
            refine (chargeparklaw17_one.calls ko Aa ca a.f1 Ab cb b.f1 r.1 r.2 _ (Kd.C_below HCa.out HX4.out) hca (Kd.C_below HCb.out HX4.out) hcb HKO.out).mono ?_
            rintro e w5 ⟨rfl, ⟨nd, rfl⟩⟩
            have HX5 := Lib.hid (below_drewN HX4.out nd)
            have hA5 := blk_drewN GA4.out nd
            have hB5 := blk_drewN GB4.out nd
            have hC5a := Kd.C_below HCa.out HX5.out
            have hC5b := Kd.C_below HCb.out HX5.out
            generalize w4.drewN nd = w5 at *
            have pa := blk_cell hA5 1
            have pb := blk_cell hB5 1
            have HA5 := Lib.hid hA5
            have HB5 := Lib.hid hB5
            have HC5a := Lib.hid hC5a
            have HC5b := Lib.hid hC5b
            clear hA5 hB5 hC5a hC5b pa1' pb1' GA4 GB4 HX4
            have pa' : w5.cell? ⟨Ba, 1, none⟩ = some (.slice Aa a.f1.length ca) := pa
            have pb' : w5.cell? ⟨Bb, 1, none⟩ = some (.slice Ab b.f1.length cb) := pb
            clear pa pb HKO
            obtain ⟨r1, q⟩ := r
            rcases HRR.out with hr | ⟨hr1, hr2, hr3, hr4, hr5⟩
            · obtain ⟨rfl, rfl⟩ := Prod.mk.inj hr
              clear HRR hr
              go_wp2_with fail
              go_roundw
              case rel => exact ⟨k + 1, by omega, .inl (by omega), by go_num, Lib.hid (HB.out.trans (HX5.out.mono HB.out.size))⟩
              case measure => simp [intOf]; omega
            · dsimp only at hr1 hr2 hr3 hr4 hr5
              subst hr1
              have hqa : q < (a.f1.length : Int) := by rw [HG1.out]; exact hr4
              have hqb : q < (b.f1.length : Int) := by rw [HG2.out]; exact hr4
              obtain ⟨ada, rfl, xa⟩ := Kd.at_int HC5a.out q hr3 hqa
              obtain ⟨adb, rfl, xb⟩ := Kd.at_int HC5b.out q hr3 hqb
              have f0 : wrap64 (sec * S) = sec * S := fp_wrap (by omega) (by omega)
              have f3 : (q != sec * S + (k : Int) - 1) = false := by rw [hr2]; simp
              have hg5 := blk_below (blk_below G4.out HB.out) HX5.out
              have pf0 : w5.cell? ⟨w.heap.size, 0, none⟩ = some (.int .i64 S) := by rw [blk_cell hg5]; rfl
              clear hg5
              generalize rd a.f1 q = x at *
              generalize rd b.f1 q = y at *
              have HRB := Lib.hid hr2
              clear HRR hr2
              go_wp2_with fail
              go_roundw
              case rel => exact ⟨k + 1, by omega, .inl (by omega), by go_num, Lib.hid (HB.out.trans (HX5.out.mono HB.out.size))⟩
              case measure => simp [intOf]; omega
        · have e3 : decide ((k : Int) < (M.length : Int)) = false := decide_eq_false (by omega)
          obtain ⟨kS, hkS⟩ := Ev.rounds (same_self S l (by omega))
          have hg := blk_below G4.out HB.out
          have p0 : wr.cell? ⟨w.heap.size, 0, none⟩ = some (.int .i64 S) := by rw [blk_cell hg]; rfl
          have p1 : wr.cell? ⟨w.heap.size, 1, none⟩ = some (.slice A0 l.length c0) := by rw [blk_cell hg]; rfl
          have hbb := HB3.out.trans (HB.out.mono HB3.out.size)
          have HRW := Lib.hid (Kd.C_below HR.out hbb)
          have HCPW := Lib.hid (Kd.C_below HCP4.out HB.out)
          have HCMW := Lib.hid (Kd.C_below HCM.out HB.out)
          have HBW := Lib.hid hbb
          have b1 : IntKind.i64.wrap ((d.length : Int) + 1) = (d.length : Int) + 1 := Go.IntWalk.i64_in _ (by omega)
          clear hg hbb HR HR2 HCM HCP4 HB HB3 G4 HMG hk hk1
          rcases HPE.out with hp | ⟨rfl, hpl, hp0⟩ <;> rcases HME.out with hm | ⟨rfl, hml, hS, hm0⟩
          · as_aux_lemma =>
              have q1 : (eP != 0) = true := by simpa using hp
              have q2 : (eM != 0) = true := by simpa using hm
              clear HPE HME b1
              go_wp2_with fail
              go_quiet (fail)
              go_wp2_with fail
              go_ret
              exact ⟨rfl, below_drewN HBW.out _⟩
          · as_aux_lemma =>
              have hp' : eP = 1 ∨ eP = 3 := by
                rcases prog_cases' S l at_ d with ⟨e, he, h⟩ | ⟨P', h⟩
                · rw [HEP.out] at h; obtain ⟨_, rfl⟩ := Prod.mk.inj (Option.some.inj h); exact he
                · rw [HEP.out] at h; obtain ⟨_, rfl⟩ := Prod.mk.inj (Option.some.inj h); exact absurd rfl hp
              clear hp HPE
              rcases hp' with rfl | rfl
              all_goals
                obtain ⟨bd, Ab, cb, rfl, xb0, xb1, hcb, hCb⟩ := at_T24 HCMW.out 0 (by omega) (by omega)
                have eb : rd_T24 M 0 = ⟨S, l⟩ := by unfold rd_T24; exact hm0
                rw [eb, show bd.add (Int.toNat 0 * 2) = bd from rfl] at xb0
                rw [eb, show bd.add (Int.toNat 0 * 2) = bd from rfl] at xb1
                rw [eb] at hcb hCb
                dsimp only at xb0 xb1 hcb hCb
                have b5b : (0 : Int) < (M.length : Int) := by omega
                have HCB := Lib.hid hCb
                clear hCb eb
                have b7 : (0 : Int) < S + 1 := by omega
                have b2 : IntKind.i64.wrap (S + 1) = S + 1 := Go.IntWalk.i64_in _ (by omega)
                have b4 : ((M.length : Int) == S + 1) = true := by rw [hml]; simp
                clear HME
                go_wp2_with fail
                refine start_ (n := 40) (S := fun w' => Below wr.heap.size wr w') (ds := []) #[false, false, false, false, false, false, false, false, false, false, false, false, false, false, false, false, false, false, false, false, false, false, false, false, false, false, false, false, false, false, false, false, false, false, false, false, false, false, false, false] (by kernel_rfl) rfl rfl ((Below.refl _ wr).drew) (fun hH => ?_)
                refine pure_ (i := 0) (N := some 189) (v := ?_) (a' := ?_) #[true, false, false, false, false, false, false, false, false, false, false, false, false, false, false, false, false, false, false, false, false, false, false, false, false, false, false, false, false, false, false, false, false, false, false, false, false, false, false, false] rfl rfl (by kernel_rfl) (fun _ _ _ h => h) (Or.inl ⟨by rfl, ?_⟩) ?_ ?_
                rotate_left
                · intro w'
                  go_simp
                  try with_reducible rfl
                rotate_left
                · simp only [Act.put, List.setIfInBounds_toArray, List.set_cons_zero, List.set_cons_succ, i64_w, i32_w]
                  rfl
                refine pure_ (i := 1) (N := some 190) (v := ?_) (a' := ?_) #[true, true, false, false, false, false, false, false, false, false, false, false, false, false, false, false, false, false, false, false, false, false, false, false, false, false, false, false, false, false, false, false, false, false, false, false, false, false, false, false] rfl rfl (by kernel_rfl) (fun _ _ _ h => h) (Or.inl ⟨by rfl, ?_⟩) ?_ ?_
                rotate_left
                · intro w'
                  go_simp
                  try with_reducible rfl
                rotate_left
                · simp only [Act.put, List.setIfInBounds_toArray, List.set_cons_zero, List.set_cons_succ, i64_w, i32_w]
                  rfl
                refine pure_ (i := 2) (N := some 191) (v := ?_) (a' := ?_) #[true, true, true, false, false, false, false, false, false, false, false, false, false, false, false, false, false, false, false, false, false, false, false, false, false, false, false, false, false, false, false, false, false, false, false, false, false, false, false, false] rfl rfl (by kernel_rfl) (fun _ _ _ h => h) (Or.inl ⟨by rfl, ?_⟩) ?_ ?_
                rotate_left
                · intro w'
                  go_simp
                  try with_reducible rfl
                rotate_left
                · simp only [Act.put, List.setIfInBounds_toArray, List.set_cons_zero, List.set_cons_succ, i64_w, i32_w]
                  rfl
                refine pure_ (i := 3) (N := some 192) (v := ?_) (a' := ?_) #[true, true, true, true, false, false, false, false, false, false, false, false, false, false, false, false, false, false, false, false, false, false, false, false, false, false, false, false, false, false, false, false, false, false, false, false, false, false, false, false] rfl rfl (by kernel_rfl) (fun _ _ _ h => h) (Or.inl ⟨by rfl, ?_⟩) ?_ ?_
                rotate_left
                · intro w'
                  go_simp
                  try with_reducible rfl
                rotate_left
                · simp only [Act.put, List.setIfInBounds_toArray, List.set_cons_zero, List.set_cons_succ, i64_w, i32_w]
                  rfl
                refine pure_ (i := 4) (N := some 193) (v := ?_) (a' := ?_) #[true, true, true, true, true, false, false, false, false, false, false, false, false, false, false, false, false, false, false, false, false, false, false, false, false, false, false, false, false, false, false, false, false, false, false, false, false, false, false, false] rfl rfl (by kernel_rfl) (fun _ _ _ h => h) (Or.inl ⟨by rfl, ?_⟩) ?_ ?_
                rotate_left
                · intro w'
                  go_simp
                  try with_reducible rfl
                rotate_left
                · simp only [Act.put, List.setIfInBounds_toArray, List.set_cons_zero, List.set_cons_succ, i64_w, i32_w]
                  rfl
                refine pure_ (i := 5) (N := some 194) (v := undef) (a' := ?_) #[true, true, true, true, true, true, false, false, false, false, false, false, false, false, false, false, false, false, false, false, false, false, false, false, false, false, false, false, false, false, false, false, false, false, false, false, false, false, false, false] rfl rfl (by kernel_rfl) (fun _ _ _ h => h) (Or.inr ⟨by rfl, rfl⟩) ?_ ?_
                rotate_left
                · simp only [Act.put, List.setIfInBounds_toArray, List.set_cons_zero, List.set_cons_succ, i64_w, i32_w]
                  rfl
                refine pure_ (i := 6) (N := some 195) (v := undef) (a' := ?_) #[true, true, true, true, true, true, true, false, false, false, false, false, false, false, false, false, false, false, false, false, false, false, false, false, false, false, false, false, false, false, false, false, false, false, false, false, false, false, false, false] rfl rfl (by kernel_rfl) (fun _ _ _ h => h) (Or.inr ⟨by rfl, rfl⟩) ?_ ?_
                rotate_left
                · simp only [Act.put, List.setIfInBounds_toArray, List.set_cons_zero, List.set_cons_succ, i64_w, i32_w]
                  rfl
                refine pure_ (i := 7) (N := some 196) (v := undef) (a' := ?_) #[true, true, true, true, true, true, true, true, false, false, false, false, false, false, false, false, false, false, false, false, false, false, false, false, false, false, false, false, false, false, false, false, false, false, false, false, false, false, false, false] rfl rfl (by kernel_rfl) (fun _ _ _ h => h) (Or.inr ⟨by rfl, rfl⟩) ?_ ?_
                rotate_left
                · simp only [Act.put, List.setIfInBounds_toArray, List.set_cons_zero, List.set_cons_succ, i64_w, i32_w]
                  rfl
                refine pure_ (i := 8) (N := some 197) (v := undef) (a' := ?_) #[true, true, true, true, true, true, true, true, true, false, false, false, false, false, false, false, false, false, false, false, false, false, false, false, false, false, false, false, false, false, false, false, false, false, false, false, false, false, false, false] rfl rfl (by kernel_rfl) (fun _ _ _ h => h) (Or.inr ⟨by rfl, rfl⟩) ?_ ?_
                rotate_left
                · simp only [Act.put, List.setIfInBounds_toArray, List.set_cons_zero, List.set_cons_succ, i64_w, i32_w]
                  rfl
                refine pure_ (i := 9) (N := some 198) (v := undef) (a' := ?_) #[true, true, true, true, true, true, true, true, true, true, false, false, false, false, false, false, false, false, false, false, false, false, false, false, false, false, false, false, false, false, false, false, false, false, false, false, false, false, false, false] rfl rfl (by kernel_rfl) (fun _ _ _ h => h) (Or.inr ⟨by rfl, rfl⟩) ?_ ?_
                rotate_left
                · simp only [Act.put, List.setIfInBounds_toArray, List.set_cons_zero, List.set_cons_succ, i64_w, i32_w]
                  rfl
                refine pure_ (i := 10) (N := some 199) (v := undef) (a' := ?_) #[true, true, true, true, true, true, true, true, true, true, true, false, false, false, false, false, false, false, false, false, false, false, false, false, false, false, false, false, false, false, false, false, false, false, false, false, false, false, false, false] rfl rfl (by kernel_rfl) (fun _ _ _ h => h) (Or.inr ⟨by rfl, rfl⟩) ?_ ?_
                rotate_left
                · simp only [Act.put, List.setIfInBounds_toArray, List.set_cons_zero, List.set_cons_succ, i64_w, i32_w]
                  rfl
                refine pure_ (i := 11) (N := some 200) (v := undef) (a' := ?_) #[true, true, true, true, true, true, true, true, true, true, true, true, false, false, false, false, false, false, false, false, false, false, false, false, false, false, false, false, false, false, false, false, false, false, false, false, false, false, false, false] rfl rfl (by kernel_rfl) (fun _ _ _ h => h) (Or.inr ⟨by rfl, rfl⟩) ?_ ?_
                rotate_left
                · simp only [Act.put, List.setIfInBounds_toArray, List.set_cons_zero, List.set_cons_succ, i64_w, i32_w]
                  rfl
                refine pure_ (i := 12) (N := some 201) (v := undef) (a' := ?_) #[true, true, true, true, true, true, true, true, true, true, true, true, true, false, false, false, false, false, false, false, false, false, false, false, false, false, false, false, false, false, false, false, false, false, false, false, false, false, false, false] rfl rfl (by kernel_rfl) (fun _ _ _ h => h) (Or.inr ⟨by rfl, rfl⟩) ?_ ?_
                rotate_left
                · simp only [Act.put, List.setIfInBounds_toArray, List.set_cons_zero, List.set_cons_succ, i64_w, i32_w]
                  rfl
                refine pure_ (i := 13) (N := some 202) (v := undef) (a' := ?_) #[true, true, true, true, true, true, true, true, true, true, true, true, true, true, false, false, false, false, false, false, false, false, false, false, false, false, false, false, false, false, false, false, false, false, false, false, false, false, false, false] rfl rfl (by kernel_rfl) (fun _ _ _ h => h) (Or.inr ⟨by rfl, rfl⟩) ?_ ?_
                rotate_left
                · simp only [Act.put, List.setIfInBounds_toArray, List.set_cons_zero, List.set_cons_succ, i64_w, i32_w]
                  rfl
                refine pure_ (i := 14) (N := some 203) (v := undef) (a' := ?_) #[true, true, true, true, true, true, true, true, true, true, true, true, true, true, true, false, false, false, false, false, false, false, false, false, false, false, false, false, false, false, false, false, false, false, false, false, false, false, false, false] rfl rfl (by kernel_rfl) (fun _ _ _ h => h) (Or.inr ⟨by rfl, rfl⟩) ?_ ?_
                rotate_left
                · simp only [Act.put, List.setIfInBounds_toArray, List.set_cons_zero, List.set_cons_succ, i64_w, i32_w]
                  rfl
                refine pure_ (i := 15) (N := some 204) (v := undef) (a' := ?_) #[true, true, true, true, true, true, true, true, true, true, true, true, true, true, true, true, false, false, false, false, false, false, false, false, false, false, false, false, false, false, false, false, false, false, false, false, false, false, false, false] rfl rfl (by kernel_rfl) (fun _ _ _ h => h) (Or.inr ⟨by rfl, rfl⟩) ?_ ?_
                rotate_left
                · simp only [Act.put, List.setIfInBounds_toArray, List.set_cons_zero, List.set_cons_succ, i64_w, i32_w]
                  rfl
                refine pure_ (i := 16) (N := some 205) (v := undef) (a' := ?_) #[true, true, true, true, true, true, true, true, true, true, true, true, true, true, true, true, true, false, false, false, false, false, false, false, false, false, false, false, false, false, false, false, false, false, false, false, false, false, false, false] rfl rfl (by kernel_rfl) (fun _ _ _ h => h) (Or.inr ⟨by rfl, rfl⟩) ?_ ?_
                rotate_left
                · simp only [Act.put, List.setIfInBounds_toArray, List.set_cons_zero, List.set_cons_succ, i64_w, i32_w]
                  rfl
                refine pure_ (i := 17) (N := some 206) (v := undef) (a' := ?_) #[true, true, true, true, true, true, true, true, true, true, true, true, true, true, true, true, true, true, false, false, false, false, false, false, false, false, false, false, false, false, false, false, false, false, false, false, false, false, false, false] rfl rfl (by kernel_rfl) (fun _ _ _ h => h) (Or.inr ⟨by rfl, rfl⟩) ?_ ?_
                rotate_left
                · simp only [Act.put, List.setIfInBounds_toArray, List.set_cons_zero, List.set_cons_succ, i64_w, i32_w]
                  rfl
                refine pure_ (i := 18) (N := some 207) (v := ?_) (a' := ?_) #[true, true, true, true, true, true, true, true, true, true, true, true, true, true, true, true, true, true, true, false, false, false, false, false, false, false, false, false, false, false, false, false, false, false, false, false, false, false, false, false] rfl rfl (by kernel_rfl) (fun _ _ _ h => h) (Or.inl ⟨by rfl, ?_⟩) ?_ ?_
                rotate_left
                · intro w'
                  go_simp
                  try with_reducible rfl
                rotate_left
                · simp only [Act.put, List.setIfInBounds_toArray, List.set_cons_zero, List.set_cons_succ, i64_w, i32_w]
                  rfl
                refine pure_ (i := 19) (N := some 208) (v := ?_) (a' := ?_) #[true, true, true, true, true, true, true, true, true, true, true, true, true, true, true, true, true, true, true, true, false, false, false, false, false, false, false, false, false, false, false, false, false, false, false, false, false, false, false, false] rfl rfl (by kernel_rfl) (fun _ _ _ h => h) (Or.inl ⟨by rfl, ?_⟩) ?_ ?_
                rotate_left
                · intro w'
                  go_simp
                  try with_reducible rfl
                rotate_left
                · simp only [Act.put, List.setIfInBounds_toArray, List.set_cons_zero, List.set_cons_succ, i64_w, i32_w]
                  rfl
                refine pure_ (i := 20) (N := some 209) (v := ?_) (a' := ?_) #[true, true, true, true, true, true, true, true, true, true, true, true, true, true, true, true, true, true, true, true, true, false, false, false, false, false, false, false, false, false, false, false, false, false, false, false, false, false, false, false] rfl rfl (by kernel_rfl) (fun _ _ _ h => h) (Or.inl ⟨by rfl, ?_⟩) ?_ ?_
                rotate_left
                · intro w'
                  go_simp
                  try with_reducible rfl
                rotate_left
                · simp only [Act.put, List.setIfInBounds_toArray, List.set_cons_zero, List.set_cons_succ, i64_w, i32_w]
                  rfl
                refine pure_ (i := 21) (N := some 210) (v := ?_) (a' := ?_) #[true, true, true, true, true, true, true, true, true, true, true, true, true, true, true, true, true, true, true, true, true, true, false, false, false, false, false, false, false, false, false, false, false, false, false, false, false, false, false, false] rfl rfl (by kernel_rfl) (fun _ _ _ h => h) (Or.inl ⟨by rfl, ?_⟩) ?_ ?_
                rotate_left
                · intro w'
                  go_simp
                  try with_reducible rfl
                rotate_left
                · simp only [Act.put, List.setIfInBounds_toArray, List.set_cons_zero, List.set_cons_succ, i64_w, i32_w]
                  rfl
                refine pure_ (i := 22) (N := some 211) (v := ?_) (a' := ?_) #[true, true, true, true, true, true, true, true, true, true, true, true, true, true, true, true, true, true, true, true, true, true, true, false, false, false, false, false, false, false, false, false, false, false, false, false, false, false, false, false] rfl rfl (by kernel_rfl) (fun _ _ _ h => h) (Or.inl ⟨by rfl, ?_⟩) ?_ ?_
                rotate_left
                · intro w'
                  go_simp
                  try with_reducible rfl
                rotate_left
                · simp only [Act.put, List.setIfInBounds_toArray, List.set_cons_zero, List.set_cons_succ, i64_w, i32_w]
                  rfl
                refine pure_ (i := 23) (N := some 212) (v := ?_) (a' := ?_) #[true, true, true, true, true, true, true, true, true, true, true, true, true, true, true, true, true, true, true, true, true, true, true, true, false, false, false, false, false, false, false, false, false, false, false, false, false, false, false, false] rfl rfl (by kernel_rfl) (fun _ _ _ h => h) (Or.inl ⟨by rfl, ?_⟩) ?_ ?_
                rotate_left
                · intro w'
                  go_simp
                  try with_reducible rfl
                rotate_left
                · simp only [Act.put, List.setIfInBounds_toArray, List.set_cons_zero, List.set_cons_succ, i64_w, i32_w]
                  rfl
                refine pure_ (i := 24) (N := some 213) (v := ?_) (a' := ?_) #[true, true, true, true, true, true, true, true, true, true, true, true, true, true, true, true, true, true, true, true, true, true, true, true, true, false, false, false, false, false, false, false, false, false, false, false, false, false, false, false] rfl rfl (by kernel_rfl) (fun _ _ _ h => h) (Or.inl ⟨by rfl, ?_⟩) ?_ ?_
                rotate_left
                · intro w'
                  go_simp
                  try with_reducible rfl
                rotate_left
                · simp only [Act.put, List.setIfInBounds_toArray, List.set_cons_zero, List.set_cons_succ, i64_w, i32_w]
                  rfl
                refine pure_ (i := 25) (N := some 214) (v := ?_) (a' := ?_) #[true, true, true, true, true, true, true, true, true, true, true, true, true, true, true, true, true, true, true, true, true, true, true, true, true, true, false, false, false, false, false, false, false, false, false, false, false, false, false, false] rfl rfl (by kernel_rfl) (fun _ _ _ h => h) (Or.inl ⟨by rfl, ?_⟩) ?_ ?_
                rotate_left
                · intro w'
                  go_simp
                  try with_reducible rfl
                rotate_left
                · simp only [Act.put, List.setIfInBounds_toArray, List.set_cons_zero, List.set_cons_succ, i64_w, i32_w]
                  rfl
                refine pure_ (i := 26) (N := some 215) (v := ?_) (a' := ?_) #[true, true, true, true, true, true, true, true, true, true, true, true, true, true, true, true, true, true, true, true, true, true, true, true, true, true, true, false, false, false, false, false, false, false, false, false, false, false, false, false] rfl rfl (by kernel_rfl) (fun _ _ _ h => h) (Or.inl ⟨by rfl, ?_⟩) ?_ ?_
                rotate_left
                · intro w'
                  go_simp
                  try with_reducible rfl
                rotate_left
                · simp only [Act.put, List.setIfInBounds_toArray, List.set_cons_zero, List.set_cons_succ, i64_w, i32_w]
                  rfl
                refine take_ (i := 27) (N := some 216) (v := ?_) (a' := ?_) #[true, true, true, true, true, true, true, true, true, true, true, true, true, true, true, true, true, true, true, true, true, true, true, true, true, true, true, true, false, false, false, false, false, false, false, false, false, false, false, false] rfl rfl (by kernel_rfl) (fun _ _ _ h => h) (Or.inl ⟨by rfl, ?_⟩) hH ?_ ?_
                rotate_left
                · intro w' hW
                  have z0 := below_cell hW xb0; have z1 := below_cell hW xb1; have z2 := below_cell hW p0; have z3 := below_cell hW p1
                  go_simp
                  try with_reducible rfl
                rotate_left
                · simp only [Act.put, List.setIfInBounds_toArray, List.set_cons_zero, List.set_cons_succ, i64_w, i32_w]
                  rfl
                refine pure_ (i := 28) (N := some 217) (v := ?_) (a' := ?_) #[true, true, true, true, true, true, true, true, true, true, true, true, true, true, true, true, true, true, true, true, true, true, true, true, true, true, true, true, true, false, false, false, false, false, false, false, false, false, false, false] rfl rfl (by kernel_rfl) (fun _ _ _ h => h) (Or.inl ⟨by rfl, ?_⟩) ?_ ?_
                rotate_left
                · intro w'
                  go_simp
                  try with_reducible rfl
                rotate_left
                · simp only [Act.put, List.setIfInBounds_toArray, List.set_cons_zero, List.set_cons_succ, i64_w, i32_w]
                  rfl
                refine pure_ (i := 29) (N := some 218) (v := ?_) (a' := ?_) #[true, true, true, true, true, true, true, true, true, true, true, true, true, true, true, true, true, true, true, true, true, true, true, true, true, true, true, true, true, true, false, false, false, false, false, false, false, false, false, false] rfl rfl (by kernel_rfl) (fun _ _ _ h => h) (Or.inl ⟨by rfl, ?_⟩) ?_ ?_
                rotate_left
                · intro w'
                  go_simp
                  try with_reducible rfl
                rotate_left
                · simp only [Act.put, List.setIfInBounds_toArray, List.set_cons_zero, List.set_cons_succ, i64_w, i32_w]
                  rfl
                refine pure_ (i := 30) (N := some 219) (v := ?_) (a' := ?_) #[true, true, true, true, true, true, true, true, true, true, true, true, true, true, true, true, true, true, true, true, true, true, true, true, true, true, true, true, true, true, true, false, false, false, false, false, false, false, false, false] rfl rfl (by kernel_rfl) (fun _ _ _ h => h) (Or.inl ⟨by rfl, ?_⟩) ?_ ?_
                rotate_left
                · intro w'
                  go_simp
                  try with_reducible rfl
                rotate_left
                · simp only [Act.put, List.setIfInBounds_toArray, List.set_cons_zero, List.set_cons_succ, i64_w, i32_w]
                  rfl
                refine pure_ (i := 31) (N := some 220) (v := ?_) (a' := ?_) #[true, true, true, true, true, true, true, true, true, true, true, true, true, true, true, true, true, true, true, true, true, true, true, true, true, true, true, true, true, true, true, true, false, false, false, false, false, false, false, false] rfl rfl (by kernel_rfl) (fun _ _ _ h => h) (Or.inl ⟨by rfl, ?_⟩) ?_ ?_
                rotate_left
                · intro w'
                  go_simp
                  try with_reducible rfl
                rotate_left
                · simp only [Act.put, List.setIfInBounds_toArray, List.set_cons_zero, List.set_cons_succ, i64_w, i32_w]
                  rfl
                refine pure_ (i := 32) (N := some 221) (v := ?_) (a' := ?_) #[true, true, true, true, true, true, true, true, true, true, true, true, true, true, true, true, true, true, true, true, true, true, true, true, true, true, true, true, true, true, true, true, true, false, false, false, false, false, false, false] rfl rfl (by kernel_rfl) (fun _ _ _ h => h) (Or.inl ⟨by rfl, ?_⟩) ?_ ?_
                rotate_left
                · intro w'
                  go_simp
                  try with_reducible rfl
                rotate_left
                · simp only [Act.put, List.setIfInBounds_toArray, List.set_cons_zero, List.set_cons_succ, i64_w, i32_w]
                  rfl
                refine take_ (i := 33) (N := some 222) (v := ?_) (a' := ?_) #[true, true, true, true, true, true, true, true, true, true, true, true, true, true, true, true, true, true, true, true, true, true, true, true, true, true, true, true, true, true, true, true, true, true, false, false, false, false, false, false] rfl rfl (by kernel_rfl) (fun _ _ _ h => h) (Or.inl ⟨by rfl, ?_⟩) hH ?_ ?_
                rotate_left
                · intro w' hW
                  have z0 := below_cell hW xb0; have z1 := below_cell hW xb1; have z2 := below_cell hW p0; have z3 := below_cell hW p1
                  go_simp
                  try with_reducible rfl
                rotate_left
                · simp only [Act.put, List.setIfInBounds_toArray, List.set_cons_zero, List.set_cons_succ, i64_w, i32_w]
                  rfl
                refine take_ (i := 34) (N := some 223) (v := ?_) (a' := ?_) #[true, true, true, true, true, true, true, true, true, true, true, true, true, true, true, true, true, true, true, true, true, true, true, true, true, true, true, true, true, true, true, true, true, true, true, false, false, false, false, false] rfl rfl (by kernel_rfl) (fun _ _ _ h => h) (Or.inl ⟨by rfl, ?_⟩) hH ?_ ?_
                rotate_left
                · intro w' hW
                  have z0 := below_cell hW xb0; have z1 := below_cell hW xb1; have z2 := below_cell hW p0; have z3 := below_cell hW p1
                  go_simp
                  try with_reducible rfl
                rotate_left
                · simp only [Act.put, List.setIfInBounds_toArray, List.set_cons_zero, List.set_cons_succ, i64_w, i32_w]
                  rfl
                refine one_ (i := 35) (N := some 224) #[true, true, true, true, true, true, true, true, true, true, true, true, true, true, true, true, true, true, true, true, true, true, true, true, true, true, true, true, true, true, true, true, true, true, true, true, false, false, false, false] rfl rfl (by kernel_rfl) (by decide) (fun K hK => ?_)
                refine goes_ Try.func13 (by kernel_rfl) rfl #[.agg #[.int .i64 S, .slice Ab l.length cb], .agg #[.int .i64 S, .slice A0 l.length c0]] (by rfl) rfl rfl (by simp [Act.eval]) ?_
                refine (chargeparkref17_Same.calls kS S Ab cb l S A0 c0 l true _ (Kd.C_below HCB.out hH) hcb (Kd.C_below HRW.out hH) hc0 hkS).mono ?_
                rintro e wz ⟨rfl, hz⟩
                have hHz : Below wr.heap.size wr wz := hH.trans (hz.mono hH.size)
                refine ⟨_, rfl, ?_⟩
                clear hz
                refine hK.out _ _ hHz (fun hH => ?_)
                clear hK K
                refine norm_ (a' := ?_) ?_ ?_
                rotate_left
                · show Act.put _ (some 224) _ = _
                  simp only [Act.put, List.setIfInBounds_toArray, List.set_cons_zero, List.set_cons_succ, i64_w, i32_w]
                  rfl
                refine pure_ (i := 36) (N := some 225) (v := ?_) (a' := ?_) #[true, true, true, true, true, true, true, true, true, true, true, true, true, true, true, true, true, true, true, true, true, true, true, true, true, true, true, true, true, true, true, true, true, true, true, true, true, false, false, false] rfl rfl (by kernel_rfl) (fun _ _ _ h => h) (Or.inl ⟨by rfl, ?_⟩) ?_ ?_
                rotate_left
                · intro w'
                  go_simp
                  try with_reducible rfl
                rotate_left
                · simp only [Act.put, List.setIfInBounds_toArray, List.set_cons_zero, List.set_cons_succ, i64_w, i32_w]
                  rfl
                refine pure_ (i := 37) (N := some 226) (v := ?_) (a' := ?_) #[true, true, true, true, true, true, true, true, true, true, true, true, true, true, true, true, true, true, true, true, true, true, true, true, true, true, true, true, true, true, true, true, true, true, true, true, true, true, false, false] rfl rfl (by kernel_rfl) (fun _ _ _ h => h) (Or.inl ⟨by rfl, ?_⟩) ?_ ?_
                rotate_left
                · intro w'
                  go_simp
                  try with_reducible rfl
                rotate_left
                · simp only [Act.put, List.setIfInBounds_toArray, List.set_cons_zero, List.set_cons_succ, i64_w, i32_w]
                  rfl
                refine pure_ (i := 38) (N := some 227) (v := ?_) (a' := ?_) #[true, true, true, true, true, true, true, true, true, true, true, true, true, true, true, true, true, true, true, true, true, true, true, true, true, true, true, true, true, true, true, true, true, true, true, true, true, true, true, false] rfl rfl (by kernel_rfl) (fun _ _ _ h => h) (Or.inl ⟨by rfl, ?_⟩) ?_ ?_
                rotate_left
                · intro w'
                  go_simp
                  try with_reducible rfl
                rotate_left
                · simp only [Act.put, List.setIfInBounds_toArray, List.set_cons_zero, List.set_cons_succ, i64_w, i32_w]
                  rfl
                refine pure_ (i := 39) (N := some 8) (v := ?_) (a' := ?_) #[true, true, true, true, true, true, true, true, true, true, true, true, true, true, true, true, true, true, true, true, true, true, true, true, true, true, true, true, true, true, true, true, true, true, true, true, true, true, true, true] rfl rfl (by kernel_rfl) (fun _ _ _ h => h) (Or.inl ⟨by rfl, ?_⟩) ?_ ?_
                rotate_left
                · intro w'
                  go_simp
                  try with_reducible rfl
                rotate_left
                · simp only [Act.put, List.setIfInBounds_toArray, List.set_cons_zero, List.set_cons_succ, i64_w, i32_w]
                  rfl
                refine done_ (by kernel_rfl) ?_
                go_wp2_with fail
                go_ret
                exact ⟨rfl, HBW.out.trans (hH.mono HBW.out.size)⟩
          · as_aux_lemma =>
              obtain ⟨ad, Aa, ca, rfl, xa0, xa1, hca, hCa⟩ := at_T24 HCPW.out 0 (by omega) (by omega)
              have ea : rd_T24 P 0 = ⟨S, l⟩ := by unfold rd_T24; exact hp0
              rw [ea, show ad.add (Int.toNat 0 * 2) = ad from rfl] at xa0
              rw [ea, show ad.add (Int.toNat 0 * 2) = ad from rfl] at xa1
              rw [ea] at hca hCa
              dsimp only at xa0 xa1 hca hCa
              have b5a : (0 : Int) < (P.length : Int) := by omega
              have HCA := Lib.hid hCa
              clear hCa ea
              have b3 : ((P.length : Int) == (d.length : Int) + 1) = true := by rw [hpl]; simp
              have hm' : eM = 1 := by
                rcases erase_cases S l sec with h | ⟨_, _, _, _, h⟩
                · rw [show eraseF S l sec = some ([], 1) from h] at HEM; obtain ⟨_, e⟩ := Prod.mk.inj (Option.some.inj HEM.out.symm); exact e
                · exfalso; have h' : eraseF S l sec = some (_, 0) := h; rw [h'] at HEM; obtain ⟨_, e⟩ := Prod.mk.inj (Option.some.inj HEM.out.symm); exact hm e
              clear HEM hm
              subst hm'
              clear HPE HME
              go_wp2_with fail
              refine start_ (n := 40) (S := fun w' => Below wr.heap.size wr w') (ds := []) #[false, false, false, false, false, false, false, false, false, false, false, false, false, false, false, false, false, false, false, false, false, false, false, false, false, false, false, false, false, false, false, false, false, false, false, false, false, false, false, false] (by kernel_rfl) rfl rfl ((Below.refl _ wr).drew) (fun hH => ?_)
              refine pure_ (i := 0) (N := some 189) (v := ?_) (a' := ?_) #[true, false, false, false, false, false, false, false, false, false, false, false, false, false, false, false, false, false, false, false, false, false, false, false, false, false, false, false, false, false, false, false, false, false, false, false, false, false, false, false] rfl rfl (by kernel_rfl) (fun _ _ _ h => h) (Or.inl ⟨by rfl, ?_⟩) ?_ ?_
              rotate_left
              · intro w'
                go_simp
                try with_reducible rfl
              rotate_left
              · simp only [Act.put, List.setIfInBounds_toArray, List.set_cons_zero, List.set_cons_succ, i64_w, i32_w]
                rfl
              refine pure_ (i := 1) (N := some 190) (v := ?_) (a' := ?_) #[true, true, false, false, false, false, false, false, false, false, false, false, false, false, false, false, false, false, false, false, false, false, false, false, false, false, false, false, false, false, false, false, false, false, false, false, false, false, false, false] rfl rfl (by kernel_rfl) (fun _ _ _ h => h) (Or.inl ⟨by rfl, ?_⟩) ?_ ?_
              rotate_left
              · intro w'
                go_simp
                try with_reducible rfl
              rotate_left
              · simp only [Act.put, List.setIfInBounds_toArray, List.set_cons_zero, List.set_cons_succ, i64_w, i32_w]
                rfl
              refine pure_ (i := 2) (N := some 191) (v := ?_) (a' := ?_) #[true, true, true, false, false, false, false, false, false, false, false, false, false, false, false, false, false, false, false, false, false, false, false, false, false, false, false, false, false, false, false, false, false, false, false, false, false, false, false, false] rfl rfl (by kernel_rfl) (fun _ _ _ h => h) (Or.inl ⟨by rfl, ?_⟩) ?_ ?_
              rotate_left
              · intro w'
                go_simp
                try with_reducible rfl
              rotate_left
              · simp only [Act.put, List.setIfInBounds_toArray, List.set_cons_zero, List.set_cons_succ, i64_w, i32_w]
                rfl
              refine pure_ (i := 3) (N := some 192) (v := ?_) (a' := ?_) #[true, true, true, true, false, false, false, false, false, false, false, false, false, false, false, false, false, false, false, false, false, false, false, false, false, false, false, false, false, false, false, false, false, false, false, false, false, false, false, false] rfl rfl (by kernel_rfl) (fun _ _ _ h => h) (Or.inl ⟨by rfl, ?_⟩) ?_ ?_
              rotate_left
              · intro w'
                go_simp
                try with_reducible rfl
              rotate_left
              · simp only [Act.put, List.setIfInBounds_toArray, List.set_cons_zero, List.set_cons_succ, i64_w, i32_w]
                rfl
              refine pure_ (i := 4) (N := some 193) (v := ?_) (a' := ?_) #[true, true, true, true, true, false, false, false, false, false, false, false, false, false, false, false, false, false, false, false, false, false, false, false, false, false, false, false, false, false, false, false, false, false, false, false, false, false, false, false] rfl rfl (by kernel_rfl) (fun _ _ _ h => h) (Or.inl ⟨by rfl, ?_⟩) ?_ ?_
              rotate_left
              · intro w'
                go_simp
                try with_reducible rfl
              rotate_left
              · simp only [Act.put, List.setIfInBounds_toArray, List.set_cons_zero, List.set_cons_succ, i64_w, i32_w]
                rfl
              refine pure_ (i := 5) (N := some 194) (v := ?_) (a' := ?_) #[true, true, true, true, true, true, false, false, false, false, false, false, false, false, false, false, false, false, false, false, false, false, false, false, false, false, false, false, false, false, false, false, false, false, false, false, false, false, false, false] rfl rfl (by kernel_rfl) (fun _ _ _ h => h) (Or.inl ⟨by rfl, ?_⟩) ?_ ?_
              rotate_left
              · intro w'
                go_simp
                try with_reducible rfl
              rotate_left
              · simp only [Act.put, List.setIfInBounds_toArray, List.set_cons_zero, List.set_cons_succ, i64_w, i32_w]
                rfl
              refine pure_ (i := 6) (N := some 195) (v := ?_) (a' := ?_) #[true, true, true, true, true, true, true, false, false, false, false, false, false, false, false, false, false, false, false, false, false, false, false, false, false, false, false, false, false, false, false, false, false, false, false, false, false, false, false, false] rfl rfl (by kernel_rfl) (fun _ _ _ h => h) (Or.inl ⟨by rfl, ?_⟩) ?_ ?_
              rotate_left
              · intro w'
                go_simp
                try with_reducible rfl
              rotate_left
              · simp only [Act.put, List.setIfInBounds_toArray, List.set_cons_zero, List.set_cons_succ, i64_w, i32_w]
                rfl
              refine pure_ (i := 7) (N := some 196) (v := ?_) (a' := ?_) #[true, true, true, true, true, true, true, true, false, false, false, false, false, false, false, false, false, false, false, false, false, false, false, false, false, false, false, false, false, false, false, false, false, false, false, false, false, false, false, false] rfl rfl (by kernel_rfl) (fun _ _ _ h => h) (Or.inl ⟨by rfl, ?_⟩) ?_ ?_
              rotate_left
              · intro w'
                go_simp
                try with_reducible rfl
              rotate_left
              · simp only [Act.put, List.setIfInBounds_toArray, List.set_cons_zero, List.set_cons_succ, i64_w, i32_w]
                rfl
              refine pure_ (i := 8) (N := some 197) (v := ?_) (a' := ?_) #[true, true, true, true, true, true, true, true, true, false, false, false, false, false, false, false, false, false, false, false, false, false, false, false, false, false, false, false, false, false, false, false, false, false, false, false, false, false, false, false] rfl rfl (by kernel_rfl) (fun _ _ _ h => h) (Or.inl ⟨by rfl, ?_⟩) ?_ ?_
              rotate_left
              · intro w'
                go_simp
                try with_reducible rfl
              rotate_left
              · simp only [Act.put, List.setIfInBounds_toArray, List.set_cons_zero, List.set_cons_succ, i64_w, i32_w]
                rfl
              refine pure_ (i := 9) (N := some 198) (v := ?_) (a' := ?_) #[true, true, true, true, true, true, true, true, true, true, false, false, false, false, false, false, false, false, false, false, false, false, false, false, false, false, false, false, false, false, false, false, false, false, false, false, false, false, false, false] rfl rfl (by kernel_rfl) (fun _ _ _ h => h) (Or.inl ⟨by rfl, ?_⟩) ?_ ?_
              rotate_left
              · intro w'
                go_simp
                try with_reducible rfl
              rotate_left
              · simp only [Act.put, List.setIfInBounds_toArray, List.set_cons_zero, List.set_cons_succ, i64_w, i32_w]
                rfl
              refine pure_ (i := 10) (N := some 199) (v := ?_) (a' := ?_) #[true, true, true, true, true, true, true, true, true, true, true, false, false, false, false, false, false, false, false, false, false, false, false, false, false, false, false, false, false, false, false, false, false, false, false, false, false, false, false, false] rfl rfl (by kernel_rfl) (fun _ _ _ h => h) (Or.inl ⟨by rfl, ?_⟩) ?_ ?_
              rotate_left
              · intro w'
                go_simp
                try with_reducible rfl
              rotate_left
              · simp only [Act.put, List.setIfInBounds_toArray, List.set_cons_zero, List.set_cons_succ, i64_w, i32_w]
                rfl
              refine pure_ (i := 11) (N := some 200) (v := ?_) (a' := ?_) #[true, true, true, true, true, true, true, true, true, true, true, true, false, false, false, false, false, false, false, false, false, false, false, false, false, false, false, false, false, false, false, false, false, false, false, false, false, false, false, false] rfl rfl (by kernel_rfl) (fun _ _ _ h => h) (Or.inl ⟨by rfl, ?_⟩) ?_ ?_
              rotate_left
              · intro w'
                go_simp
                try with_reducible rfl
              rotate_left
              · simp only [Act.put, List.setIfInBounds_toArray, List.set_cons_zero, List.set_cons_succ, i64_w, i32_w]
                rfl
              refine pure_ (i := 12) (N := some 201) (v := ?_) (a' := ?_) #[true, true, true, true, true, true, true, true, true, true, true, true, true, false, false, false, false, false, false, false, false, false, false, false, false, false, false, false, false, false, false, false, false, false, false, false, false, false, false, false] rfl rfl (by kernel_rfl) (fun _ _ _ h => h) (Or.inl ⟨by rfl, ?_⟩) ?_ ?_
              rotate_left
              · intro w'
                go_simp
                try with_reducible rfl
              rotate_left
              · simp only [Act.put, List.setIfInBounds_toArray, List.set_cons_zero, List.set_cons_succ, i64_w, i32_w]
                rfl
              refine pure_ (i := 13) (N := some 202) (v := ?_) (a' := ?_) #[true, true, true, true, true, true, true, true, true, true, true, true, true, true, false, false, false, false, false, false, false, false, false, false, false, false, false, false, false, false, false, false, false, false, false, false, false, false, false, false] rfl rfl (by kernel_rfl) (fun _ _ _ h => h) (Or.inl ⟨by rfl, ?_⟩) ?_ ?_
              rotate_left
              · intro w'
                go_simp
                try with_reducible rfl
              rotate_left
              · simp only [Act.put, List.setIfInBounds_toArray, List.set_cons_zero, List.set_cons_succ, i64_w, i32_w]
                rfl
              refine take_ (i := 14) (N := some 203) (v := ?_) (a' := ?_) #[true, true, true, true, true, true, true, true, true, true, true, true, true, true, true, false, false, false, false, false, false, false, false, false, false, false, false, false, false, false, false, false, false, false, false, false, false, false, false, false] rfl rfl (by kernel_rfl) (fun _ _ _ h => h) (Or.inl ⟨by rfl, ?_⟩) hH ?_ ?_
              rotate_left
              · intro w' hW
                have y0 := below_cell hW xa0; have y1 := below_cell hW xa1; have z2 := below_cell hW p0; have z3 := below_cell hW p1
                go_simp
                try with_reducible rfl
              rotate_left
              · simp only [Act.put, List.setIfInBounds_toArray, List.set_cons_zero, List.set_cons_succ, i64_w, i32_w]
                rfl
              refine take_ (i := 15) (N := some 204) (v := ?_) (a' := ?_) #[true, true, true, true, true, true, true, true, true, true, true, true, true, true, true, true, false, false, false, false, false, false, false, false, false, false, false, false, false, false, false, false, false, false, false, false, false, false, false, false] rfl rfl (by kernel_rfl) (fun _ _ _ h => h) (Or.inl ⟨by rfl, ?_⟩) hH ?_ ?_
              rotate_left
              · intro w' hW
                have y0 := below_cell hW xa0; have y1 := below_cell hW xa1; have z2 := below_cell hW p0; have z3 := below_cell hW p1
                go_simp
                try with_reducible rfl
              rotate_left
              · simp only [Act.put, List.setIfInBounds_toArray, List.set_cons_zero, List.set_cons_succ, i64_w, i32_w]
                rfl
              refine one_ (i := 16) (N := some 205) #[true, true, true, true, true, true, true, true, true, true, true, true, true, true, true, true, true, false, false, false, false, false, false, false, false, false, false, false, false, false, false, false, false, false, false, false, false, false, false, false] rfl rfl (by kernel_rfl) (by decide) (fun K hK => ?_)
              refine goes_ Try.func13 (by kernel_rfl) rfl #[.agg #[.int .i64 S, .slice Aa l.length ca], .agg #[.int .i64 S, .slice A0 l.length c0]] (by rfl) rfl rfl (by simp [Act.eval]) ?_
              refine (chargeparkref17_Same.calls kS S Aa ca l S A0 c0 l true _ (Kd.C_below HCA.out hH) hca (Kd.C_below HRW.out hH) hc0 hkS).mono ?_
              rintro e wz16 ⟨rfl, hz⟩
              have hHz : Below wr.heap.size wr wz16 := hH.trans (hz.mono hH.size)
              refine ⟨_, rfl, ?_⟩
              clear hz
              refine hK.out _ _ hHz (fun hH => ?_)
              clear hK K
              refine norm_ (a' := ?_) ?_ ?_
              rotate_left
              · show Act.put _ (some 205) _ = _
                simp only [Act.put, List.setIfInBounds_toArray, List.set_cons_zero, List.set_cons_succ, i64_w, i32_w]
                rfl
              refine pure_ (i := 17) (N := some 206) (v := ?_) (a' := ?_) #[true, true, true, true, true, true, true, true, true, true, true, true, true, true, true, true, true, true, false, false, false, false, false, false, false, false, false, false, false, false, false, false, false, false, false, false, false, false, false, false] rfl rfl (by kernel_rfl) (fun _ _ _ h => h) (Or.inl ⟨by rfl, ?_⟩) ?_ ?_
              rotate_left
              · intro w'
                go_simp
                try with_reducible rfl
              rotate_left
              · simp only [Act.put, List.setIfInBounds_toArray, List.set_cons_zero, List.set_cons_succ, i64_w, i32_w]
                rfl
              refine pure_ (i := 18) (N := some 207) (v := ?_) (a' := ?_) #[true, true, true, true, true, true, true, true, true, true, true, true, true, true, true, true, true, true, true, false, false, false, false, false, false, false, false, false, false, false, false, false, false, false, false, false, false, false, false, false] rfl rfl (by kernel_rfl) (fun _ _ _ h => h) (Or.inl ⟨by rfl, ?_⟩) ?_ ?_
              rotate_left
              · intro w'
                go_simp
                try with_reducible rfl
              rotate_left
              · simp only [Act.put, List.setIfInBounds_toArray, List.set_cons_zero, List.set_cons_succ, i64_w, i32_w]
                rfl
              refine pure_ (i := 19) (N := some 208) (v := ?_) (a' := ?_) #[true, true, true, true, true, true, true, true, true, true, true, true, true, true, true, true, true, true, true, true, false, false, false, false, false, false, false, false, false, false, false, false, false, false, false, false, false, false, false, false] rfl rfl (by kernel_rfl) (fun _ _ _ h => h) (Or.inl ⟨by rfl, ?_⟩) ?_ ?_
              rotate_left
              · intro w'
                go_simp
                try with_reducible rfl
              rotate_left
              · simp only [Act.put, List.setIfInBounds_toArray, List.set_cons_zero, List.set_cons_succ, i64_w, i32_w]
                rfl
              refine pure_ (i := 20) (N := some 209) (v := ?_) (a' := ?_) #[true, true, true, true, true, true, true, true, true, true, true, true, true, true, true, true, true, true, true, true, true, false, false, false, false, false, false, false, false, false, false, false, false, false, false, false, false, false, false, false] rfl rfl (by kernel_rfl) (fun _ _ _ h => h) (Or.inl ⟨by rfl, ?_⟩) ?_ ?_
              rotate_left
              · intro w'
                go_simp
                try with_reducible rfl
              rotate_left
              · simp only [Act.put, List.setIfInBounds_toArray, List.set_cons_zero, List.set_cons_succ, i64_w, i32_w]
                rfl
              refine pure_ (i := 21) (N := some 210) (v := ?_) (a' := ?_) #[true, true, true, true, true, true, true, true, true, true, true, true, true, true, true, true, true, true, true, true, true, true, false, false, false, false, false, false, false, false, false, false, false, false, false, false, false, false, false, false] rfl rfl (by kernel_rfl) (fun _ _ _ h => h) (Or.inl ⟨by rfl, ?_⟩) ?_ ?_
              rotate_left
              · intro w'
                go_simp
                try with_reducible rfl
              rotate_left
              · simp only [Act.put, List.setIfInBounds_toArray, List.set_cons_zero, List.set_cons_succ, i64_w, i32_w]
                rfl
              refine pure_ (i := 22) (N := some 211) (v := ?_) (a' := ?_) #[true, true, true, true, true, true, true, true, true, true, true, true, true, true, true, true, true, true, true, true, true, true, true, false, false, false, false, false, false, false, false, false, false, false, false, false, false, false, false, false] rfl rfl (by kernel_rfl) (fun _ _ _ h => h) (Or.inl ⟨by rfl, ?_⟩) ?_ ?_
              rotate_left
              · intro w'
                go_simp
                try with_reducible rfl
              rotate_left
              · simp only [Act.put, List.setIfInBounds_toArray, List.set_cons_zero, List.set_cons_succ, i64_w, i32_w]
                rfl
              refine pure_ (i := 23) (N := some 212) (v := ?_) (a' := ?_) #[true, true, true, true, true, true, true, true, true, true, true, true, true, true, true, true, true, true, true, true, true, true, true, true, false, false, false, false, false, false, false, false, false, false, false, false, false, false, false, false] rfl rfl (by kernel_rfl) (fun _ _ _ h => h) (Or.inl ⟨by rfl, ?_⟩) ?_ ?_
              rotate_left
              · intro w'
                go_simp
                try with_reducible rfl
              rotate_left
              · simp only [Act.put, List.setIfInBounds_toArray, List.set_cons_zero, List.set_cons_succ, i64_w, i32_w]
                rfl
              refine pure_ (i := 24) (N := some 213) (v := undef) (a' := ?_) #[true, true, true, true, true, true, true, true, true, true, true, true, true, true, true, true, true, true, true, true, true, true, true, true, true, false, false, false, false, false, false, false, false, false, false, false, false, false, false, false] rfl rfl (by kernel_rfl) (fun _ _ _ h => h) (Or.inr ⟨by rfl, rfl⟩) ?_ ?_
              rotate_left
              · simp only [Act.put, List.setIfInBounds_toArray, List.set_cons_zero, List.set_cons_succ, i64_w, i32_w]
                rfl
              refine pure_ (i := 25) (N := some 214) (v := undef) (a' := ?_) #[true, true, true, true, true, true, true, true, true, true, true, true, true, true, true, true, true, true, true, true, true, true, true, true, true, true, false, false, false, false, false, false, false, false, false, false, false, false, false, false] rfl rfl (by kernel_rfl) (fun _ _ _ h => h) (Or.inr ⟨by rfl, rfl⟩) ?_ ?_
              rotate_left
              · simp only [Act.put, List.setIfInBounds_toArray, List.set_cons_zero, List.set_cons_succ, i64_w, i32_w]
                rfl
              refine pure_ (i := 26) (N := some 215) (v := undef) (a' := ?_) #[true, true, true, true, true, true, true, true, true, true, true, true, true, true, true, true, true, true, true, true, true, true, true, true, true, true, true, false, false, false, false, false, false, false, false, false, false, false, false, false] rfl rfl (by kernel_rfl) (fun _ _ _ h => h) (Or.inr ⟨by rfl, rfl⟩) ?_ ?_
              rotate_left
              · simp only [Act.put, List.setIfInBounds_toArray, List.set_cons_zero, List.set_cons_succ, i64_w, i32_w]
                rfl
              refine pure_ (i := 27) (N := some 216) (v := undef) (a' := ?_) #[true, true, true, true, true, true, true, true, true, true, true, true, true, true, true, true, true, true, true, true, true, true, true, true, true, true, true, true, false, false, false, false, false, false, false, false, false, false, false, false] rfl rfl (by kernel_rfl) (fun _ _ _ h => h) (Or.inr ⟨by rfl, rfl⟩) ?_ ?_
              rotate_left
              · simp only [Act.put, List.setIfInBounds_toArray, List.set_cons_zero, List.set_cons_succ, i64_w, i32_w]
                rfl
              refine pure_ (i := 28) (N := some 217) (v := undef) (a' := ?_) #[true, true, true, true, true, true, true, true, true, true, true, true, true, true, true, true, true, true, true, true, true, true, true, true, true, true, true, true, true, false, false, false, false, false, false, false, false, false, false, false] rfl rfl (by kernel_rfl) (fun _ _ _ h => h) (Or.inr ⟨by rfl, rfl⟩) ?_ ?_
              rotate_left
              · simp only [Act.put, List.setIfInBounds_toArray, List.set_cons_zero, List.set_cons_succ, i64_w, i32_w]
                rfl
              refine pure_ (i := 29) (N := some 218) (v := undef) (a' := ?_) #[true, true, true, true, true, true, true, true, true, true, true, true, true, true, true, true, true, true, true, true, true, true, true, true, true, true, true, true, true, true, false, false, false, false, false, false, false, false, false, false] rfl rfl (by kernel_rfl) (fun _ _ _ h => h) (Or.inr ⟨by rfl, rfl⟩) ?_ ?_
              rotate_left
              · simp only [Act.put, List.setIfInBounds_toArray, List.set_cons_zero, List.set_cons_succ, i64_w, i32_w]
                rfl
              refine pure_ (i := 30) (N := some 219) (v := undef) (a' := ?_) #[true, true, true, true, true, true, true, true, true, true, true, true, true, true, true, true, true, true, true, true, true, true, true, true, true, true, true, true, true, true, true, false, false, false, false, false, false, false, false, false] rfl rfl (by kernel_rfl) (fun _ _ _ h => h) (Or.inr ⟨by rfl, rfl⟩) ?_ ?_
              rotate_left
              · simp only [Act.put, List.setIfInBounds_toArray, List.set_cons_zero, List.set_cons_succ, i64_w, i32_w]
                rfl
              refine pure_ (i := 31) (N := some 220) (v := undef) (a' := ?_) #[true, true, true, true, true, true, true, true, true, true, true, true, true, true, true, true, true, true, true, true, true, true, true, true, true, true, true, true, true, true, true, true, false, false, false, false, false, false, false, false] rfl rfl (by kernel_rfl) (fun _ _ _ h => h) (Or.inr ⟨by rfl, rfl⟩) ?_ ?_
              rotate_left
              · simp only [Act.put, List.setIfInBounds_toArray, List.set_cons_zero, List.set_cons_succ, i64_w, i32_w]
                rfl
              refine pure_ (i := 32) (N := some 221) (v := undef) (a' := ?_) #[true, true, true, true, true, true, true, true, true, true, true, true, true, true, true, true, true, true, true, true, true, true, true, true, true, true, true, true, true, true, true, true, true, false, false, false, false, false, false, false] rfl rfl (by kernel_rfl) (fun _ _ _ h => h) (Or.inr ⟨by rfl, rfl⟩) ?_ ?_
              rotate_left
              · simp only [Act.put, List.setIfInBounds_toArray, List.set_cons_zero, List.set_cons_succ, i64_w, i32_w]
                rfl
              refine pure_ (i := 33) (N := some 222) (v := undef) (a' := ?_) #[true, true, true, true, true, true, true, true, true, true, true, true, true, true, true, true, true, true, true, true, true, true, true, true, true, true, true, true, true, true, true, true, true, true, false, false, false, false, false, false] rfl rfl (by kernel_rfl) (fun _ _ _ h => h) (Or.inr ⟨by rfl, rfl⟩) ?_ ?_
              rotate_left
              · simp only [Act.put, List.setIfInBounds_toArray, List.set_cons_zero, List.set_cons_succ, i64_w, i32_w]
                rfl
              refine pure_ (i := 34) (N := some 223) (v := undef) (a' := ?_) #[true, true, true, true, true, true, true, true, true, true, true, true, true, true, true, true, true, true, true, true, true, true, true, true, true, true, true, true, true, true, true, true, true, true, true, false, false, false, false, false] rfl rfl (by kernel_rfl) (fun _ _ _ h => h) (Or.inr ⟨by rfl, rfl⟩) ?_ ?_
              rotate_left
              · simp only [Act.put, List.setIfInBounds_toArray, List.set_cons_zero, List.set_cons_succ, i64_w, i32_w]
                rfl
              refine pure_ (i := 35) (N := some 224) (v := undef) (a' := ?_) #[true, true, true, true, true, true, true, true, true, true, true, true, true, true, true, true, true, true, true, true, true, true, true, true, true, true, true, true, true, true, true, true, true, true, true, true, false, false, false, false] rfl rfl (by kernel_rfl) (fun _ _ _ h => h) (Or.inr ⟨by rfl, rfl⟩) ?_ ?_
              rotate_left
              · simp only [Act.put, List.setIfInBounds_toArray, List.set_cons_zero, List.set_cons_succ, i64_w, i32_w]
                rfl
              refine pure_ (i := 36) (N := some 225) (v := undef) (a' := ?_) #[true, true, true, true, true, true, true, true, true, true, true, true, true, true, true, true, true, true, true, true, true, true, true, true, true, true, true, true, true, true, true, true, true, true, true, true, true, false, false, false] rfl rfl (by kernel_rfl) (fun _ _ _ h => h) (Or.inr ⟨by rfl, rfl⟩) ?_ ?_
              rotate_left
              · simp only [Act.put, List.setIfInBounds_toArray, List.set_cons_zero, List.set_cons_succ, i64_w, i32_w]
                rfl
              refine pure_ (i := 37) (N := some 226) (v := ?_) (a' := ?_) #[true, true, true, true, true, true, true, true, true, true, true, true, true, true, true, true, true, true, true, true, true, true, true, true, true, true, true, true, true, true, true, true, true, true, true, true, true, true, false, false] rfl rfl (by kernel_rfl) (fun _ _ _ h => h) (Or.inl ⟨by rfl, ?_⟩) ?_ ?_
              rotate_left
              · intro w'
                go_simp
                try with_reducible rfl
              rotate_left
              · simp only [Act.put, List.setIfInBounds_toArray, List.set_cons_zero, List.set_cons_succ, i64_w, i32_w]
                rfl
              refine pure_ (i := 38) (N := some 227) (v := ?_) (a' := ?_) #[true, true, true, true, true, true, true, true, true, true, true, true, true, true, true, true, true, true, true, true, true, true, true, true, true, true, true, true, true, true, true, true, true, true, true, true, true, true, true, false] rfl rfl (by kernel_rfl) (fun _ _ _ h => h) (Or.inl ⟨by rfl, ?_⟩) ?_ ?_
              rotate_left
              · intro w'
                go_simp
                try with_reducible rfl
              rotate_left
              · simp only [Act.put, List.setIfInBounds_toArray, List.set_cons_zero, List.set_cons_succ, i64_w, i32_w]
                rfl
              refine pure_ (i := 39) (N := some 8) (v := ?_) (a' := ?_) #[true, true, true, true, true, true, true, true, true, true, true, true, true, true, true, true, true, true, true, true, true, true, true, true, true, true, true, true, true, true, true, true, true, true, true, true, true, true, true, true] rfl rfl (by kernel_rfl) (fun _ _ _ h => h) (Or.inl ⟨by rfl, ?_⟩) ?_ ?_
              rotate_left
              · intro w'
                go_simp
                try with_reducible rfl
              rotate_left
              · simp only [Act.put, List.setIfInBounds_toArray, List.set_cons_zero, List.set_cons_succ, i64_w, i32_w]
                rfl
              refine done_ (by kernel_rfl) ?_
              go_wp2_with fail
              go_ret
              exact ⟨rfl, HBW.out.trans (hH.mono HBW.out.size)⟩
          · as_aux_lemma =>
              obtain ⟨ad, Aa, ca, rfl, xa0, xa1, hca, hCa⟩ := at_T24 HCPW.out 0 (by omega) (by omega)
              have ea : rd_T24 P 0 = ⟨S, l⟩ := by unfold rd_T24; exact hp0
              rw [ea, show ad.add (Int.toNat 0 * 2) = ad from rfl] at xa0
              rw [ea, show ad.add (Int.toNat 0 * 2) = ad from rfl] at xa1
              rw [ea] at hca hCa
              dsimp only at xa0 xa1 hca hCa
              have b5a : (0 : Int) < (P.length : Int) := by omega
              have HCA := Lib.hid hCa
              clear hCa ea
              have b3 : ((P.length : Int) == (d.length : Int) + 1) = true := by rw [hpl]; simp
              obtain ⟨bd, Ab, cb, rfl, xb0, xb1, hcb, hCb⟩ := at_T24 HCMW.out 0 (by omega) (by omega)
              have eb : rd_T24 M 0 = ⟨S, l⟩ := by unfold rd_T24; exact hm0
              rw [eb, show bd.add (Int.toNat 0 * 2) = bd from rfl] at xb0
              rw [eb, show bd.add (Int.toNat 0 * 2) = bd from rfl] at xb1
              rw [eb] at hcb hCb
              dsimp only at xb0 xb1 hcb hCb
              have b5b : (0 : Int) < (M.length : Int) := by omega
              have HCB := Lib.hid hCb
              clear hCb eb
              have b7 : (0 : Int) < S + 1 := by omega
              have b2 : IntKind.i64.wrap (S + 1) = S + 1 := Go.IntWalk.i64_in _ (by omega)
              have b4 : ((M.length : Int) == S + 1) = true := by rw [hml]; simp
              clear HPE HME
              go_wp2_with fail
              refine start_ (n := 40) (S := fun w' => Below wr.heap.size wr w') (ds := []) #[false, false, false, false, false, false, false, false, false, false, false, false, false, false, false, false, false, false, false, false, false, false, false, false, false, false, false, false, false, false, false, false, false, false, false, false, false, false, false, false] (by kernel_rfl) rfl rfl ((Below.refl _ wr).drew) (fun hH => ?_)
              refine pure_ (i := 0) (N := some 189) (v := ?_) (a' := ?_) #[true, false, false, false, false, false, false, false, false, false, false, false, false, false, false, false, false, false, false, false, false, false, false, false, false, false, false, false, false, false, false, false, false, false, false, false, false, false, false, false] rfl rfl (by kernel_rfl) (fun _ _ _ h => h) (Or.inl ⟨by rfl, ?_⟩) ?_ ?_
              rotate_left
              · intro w'
                go_simp
                try with_reducible rfl
              rotate_left
              · simp only [Act.put, List.setIfInBounds_toArray, List.set_cons_zero, List.set_cons_succ, i64_w, i32_w]
                rfl
              refine pure_ (i := 1) (N := some 190) (v := ?_) (a' := ?_) #[true, true, false, false, false, false, false, false, false, false, false, false, false, false, false, false, false, false, false, false, false, false, false, false, false, false, false, false, false, false, false, false, false, false, false, false, false, false, false, false] rfl rfl (by kernel_rfl) (fun _ _ _ h => h) (Or.inl ⟨by rfl, ?_⟩) ?_ ?_
              rotate_left
              · intro w'
                go_simp
                try with_reducible rfl
              rotate_left
              · simp only [Act.put, List.setIfInBounds_toArray, List.set_cons_zero, List.set_cons_succ, i64_w, i32_w]
                rfl
              refine pure_ (i := 2) (N := some 191) (v := ?_) (a' := ?_) #[true, true, true, false, false, false, false, false, false, false, false, false, false, false, false, false, false, false, false, false, false, false, false, false, false, false, false, false, false, false, false, false, false, false, false, false, false, false, false, false] rfl rfl (by kernel_rfl) (fun _ _ _ h => h) (Or.inl ⟨by rfl, ?_⟩) ?_ ?_
              rotate_left
              · intro w'
                go_simp
                try with_reducible rfl
              rotate_left
              · simp only [Act.put, List.setIfInBounds_toArray, List.set_cons_zero, List.set_cons_succ, i64_w, i32_w]
                rfl
              refine pure_ (i := 3) (N := some 192) (v := ?_) (a' := ?_) #[true, true, true, true, false, false, false, false, false, false, false, false, false, false, false, false, false, false, false, false, false, false, false, false, false, false, false, false, false, false, false, false, false, false, false, false, false, false, false, false] rfl rfl (by kernel_rfl) (fun _ _ _ h => h) (Or.inl ⟨by rfl, ?_⟩) ?_ ?_
              rotate_left
              · intro w'
                go_simp
                try with_reducible rfl
              rotate_left
              · simp only [Act.put, List.setIfInBounds_toArray, List.set_cons_zero, List.set_cons_succ, i64_w, i32_w]
                rfl
              refine pure_ (i := 4) (N := some 193) (v := ?_) (a' := ?_) #[true, true, true, true, true, false, false, false, false, false, false, false, false, false, false, false, false, false, false, false, false, false, false, false, false, false, false, false, false, false, false, false, false, false, false, false, false, false, false, false] rfl rfl (by kernel_rfl) (fun _ _ _ h => h) (Or.inl ⟨by rfl, ?_⟩) ?_ ?_
              rotate_left
              · intro w'
                go_simp
                try with_reducible rfl
              rotate_left
              · simp only [Act.put, List.setIfInBounds_toArray, List.set_cons_zero, List.set_cons_succ, i64_w, i32_w]
                rfl
              refine pure_ (i := 5) (N := some 194) (v := ?_) (a' := ?_) #[true, true, true, true, true, true, false, false, false, false, false, false, false, false, false, false, false, false, false, false, false, false, false, false, false, false, false, false, false, false, false, false, false, false, false, false, false, false, false, false] rfl rfl (by kernel_rfl) (fun _ _ _ h => h) (Or.inl ⟨by rfl, ?_⟩) ?_ ?_
              rotate_left
              · intro w'
                go_simp
                try with_reducible rfl
              rotate_left
              · simp only [Act.put, List.setIfInBounds_toArray, List.set_cons_zero, List.set_cons_succ, i64_w, i32_w]
                rfl
              refine pure_ (i := 6) (N := some 195) (v := ?_) (a' := ?_) #[true, true, true, true, true, true, true, false, false, false, false, false, false, false, false, false, false, false, false, false, false, false, false, false, false, false, false, false, false, false, false, false, false, false, false, false, false, false, false, false] rfl rfl (by kernel_rfl) (fun _ _ _ h => h) (Or.inl ⟨by rfl, ?_⟩) ?_ ?_
              rotate_left
              · intro w'
                go_simp
                try with_reducible rfl
              rotate_left
              · simp only [Act.put, List.setIfInBounds_toArray, List.set_cons_zero, List.set_cons_succ, i64_w, i32_w]
                rfl
              refine pure_ (i := 7) (N := some 196) (v := ?_) (a' := ?_) #[true, true, true, true, true, true, true, true, false, false, false, false, false, false, false, false, false, false, false, false, false, false, false, false, false, false, false, false, false, false, false, false, false, false, false, false, false, false, false, false] rfl rfl (by kernel_rfl) (fun _ _ _ h => h) (Or.inl ⟨by rfl, ?_⟩) ?_ ?_
              rotate_left
              · intro w'
                go_simp
                try with_reducible rfl
              rotate_left
              · simp only [Act.put, List.setIfInBounds_toArray, List.set_cons_zero, List.set_cons_succ, i64_w, i32_w]
                rfl
              refine pure_ (i := 8) (N := some 197) (v := ?_) (a' := ?_) #[true, true, true, true, true, true, true, true, true, false, false, false, false, false, false, false, false, false, false, false, false, false, false, false, false, false, false, false, false, false, false, false, false, false, false, false, false, false, false, false] rfl rfl (by kernel_rfl) (fun _ _ _ h => h) (Or.inl ⟨by rfl, ?_⟩) ?_ ?_
              rotate_left
              · intro w'
                go_simp
                try with_reducible rfl
              rotate_left
              · simp only [Act.put, List.setIfInBounds_toArray, List.set_cons_zero, List.set_cons_succ, i64_w, i32_w]
                rfl
              refine pure_ (i := 9) (N := some 198) (v := ?_) (a' := ?_) #[true, true, true, true, true, true, true, true, true, true, false, false, false, false, false, false, false, false, false, false, false, false, false, false, false, false, false, false, false, false, false, false, false, false, false, false, false, false, false, false] rfl rfl (by kernel_rfl) (fun _ _ _ h => h) (Or.inl ⟨by rfl, ?_⟩) ?_ ?_
              rotate_left
              · intro w'
                go_simp
                try with_reducible rfl
              rotate_left
              · simp only [Act.put, List.setIfInBounds_toArray, List.set_cons_zero, List.set_cons_succ, i64_w, i32_w]
                rfl
              refine pure_ (i := 10) (N := some 199) (v := ?_) (a' := ?_) #[true, true, true, true, true, true, true, true, true, true, true, false, false, false, false, false, false, false, false, false, false, false, false, false, false, false, false, false, false, false, false, false, false, false, false, false, false, false, false, false] rfl rfl (by kernel_rfl) (fun _ _ _ h => h) (Or.inl ⟨by rfl, ?_⟩) ?_ ?_
              rotate_left
              · intro w'
                go_simp
                try with_reducible rfl
              rotate_left
              · simp only [Act.put, List.setIfInBounds_toArray, List.set_cons_zero, List.set_cons_succ, i64_w, i32_w]
                rfl
              refine pure_ (i := 11) (N := some 200) (v := ?_) (a' := ?_) #[true, true, true, true, true, true, true, true, true, true, true, true, false, false, false, false, false, false, false, false, false, false, false, false, false, false, false, false, false, false, false, false, false, false, false, false, false, false, false, false] rfl rfl (by kernel_rfl) (fun _ _ _ h => h) (Or.inl ⟨by rfl, ?_⟩) ?_ ?_
              rotate_left
              · intro w'
                go_simp
                try with_reducible rfl
              rotate_left
              · simp only [Act.put, List.setIfInBounds_toArray, List.set_cons_zero, List.set_cons_succ, i64_w, i32_w]
                rfl
              refine pure_ (i := 12) (N := some 201) (v := ?_) (a' := ?_) #[true, true, true, true, true, true, true, true, true, true, true, true, true, false, false, false, false, false, false, false, false, false, false, false, false, false, false, false, false, false, false, false, false, false, false, false, false, false, false, false] rfl rfl (by kernel_rfl) (fun _ _ _ h => h) (Or.inl ⟨by rfl, ?_⟩) ?_ ?_
              rotate_left
              · intro w'
                go_simp
                try with_reducible rfl
              rotate_left
              · simp only [Act.put, List.setIfInBounds_toArray, List.set_cons_zero, List.set_cons_succ, i64_w, i32_w]
                rfl
              refine pure_ (i := 13) (N := some 202) (v := ?_) (a' := ?_) #[true, true, true, true, true, true, true, true, true, true, true, true, true, true, false, false, false, false, false, false, false, false, false, false, false, false, false, false, false, false, false, false, false, false, false, false, false, false, false, false] rfl rfl (by kernel_rfl) (fun _ _ _ h => h) (Or.inl ⟨by rfl, ?_⟩) ?_ ?_
              rotate_left
              · intro w'
                go_simp
                try with_reducible rfl
              rotate_left
              · simp only [Act.put, List.setIfInBounds_toArray, List.set_cons_zero, List.set_cons_succ, i64_w, i32_w]
                rfl
              refine take_ (i := 14) (N := some 203) (v := ?_) (a' := ?_) #[true, true, true, true, true, true, true, true, true, true, true, true, true, true, true, false, false, false, false, false, false, false, false, false, false, false, false, false, false, false, false, false, false, false, false, false, false, false, false, false] rfl rfl (by kernel_rfl) (fun _ _ _ h => h) (Or.inl ⟨by rfl, ?_⟩) hH ?_ ?_
              rotate_left
              · intro w' hW
                have y0 := below_cell hW xa0; have y1 := below_cell hW xa1; have x0 := below_cell hW xb0; have x1 := below_cell hW xb1; have z2 := below_cell hW p0; have z3 := below_cell hW p1
                go_simp
                try with_reducible rfl
              rotate_left
              · simp only [Act.put, List.setIfInBounds_toArray, List.set_cons_zero, List.set_cons_succ, i64_w, i32_w]
                rfl
              refine take_ (i := 15) (N := some 204) (v := ?_) (a' := ?_) #[true, true, true, true, true, true, true, true, true, true, true, true, true, true, true, true, false, false, false, false, false, false, false, false, false, false, false, false, false, false, false, false, false, false, false, false, false, false, false, false] rfl rfl (by kernel_rfl) (fun _ _ _ h => h) (Or.inl ⟨by rfl, ?_⟩) hH ?_ ?_
              rotate_left
              · intro w' hW
                have y0 := below_cell hW xa0; have y1 := below_cell hW xa1; have x0 := below_cell hW xb0; have x1 := below_cell hW xb1; have z2 := below_cell hW p0; have z3 := below_cell hW p1
                go_simp
                try with_reducible rfl
              rotate_left
              · simp only [Act.put, List.setIfInBounds_toArray, List.set_cons_zero, List.set_cons_succ, i64_w, i32_w]
                rfl
              refine one_ (i := 16) (N := some 205) #[true, true, true, true, true, true, true, true, true, true, true, true, true, true, true, true, true, false, false, false, false, false, false, false, false, false, false, false, false, false, false, false, false, false, false, false, false, false, false, false] rfl rfl (by kernel_rfl) (by decide) (fun K hK => ?_)
              refine goes_ Try.func13 (by kernel_rfl) rfl #[.agg #[.int .i64 S, .slice Aa l.length ca], .agg #[.int .i64 S, .slice A0 l.length c0]] (by rfl) rfl rfl (by simp [Act.eval]) ?_
              refine (chargeparkref17_Same.calls kS S Aa ca l S A0 c0 l true _ (Kd.C_below HCA.out hH) hca (Kd.C_below HRW.out hH) hc0 hkS).mono ?_
              rintro e wz16 ⟨rfl, hz⟩
              have hHz : Below wr.heap.size wr wz16 := hH.trans (hz.mono hH.size)
              refine ⟨_, rfl, ?_⟩
              clear hz
              refine hK.out _ _ hHz (fun hH => ?_)
              clear hK K
              refine norm_ (a' := ?_) ?_ ?_
              rotate_left
              · show Act.put _ (some 205) _ = _
                simp only [Act.put, List.setIfInBounds_toArray, List.set_cons_zero, List.set_cons_succ, i64_w, i32_w]
                rfl
              refine pure_ (i := 17) (N := some 206) (v := ?_) (a' := ?_) #[true, true, true, true, true, true, true, true, true, true, true, true, true, true, true, true, true, true, false, false, false, false, false, false, false, false, false, false, false, false, false, false, false, false, false, false, false, false, false, false] rfl rfl (by kernel_rfl) (fun _ _ _ h => h) (Or.inl ⟨by rfl, ?_⟩) ?_ ?_
              rotate_left
              · intro w'
                go_simp
                try with_reducible rfl
              rotate_left
              · simp only [Act.put, List.setIfInBounds_toArray, List.set_cons_zero, List.set_cons_succ, i64_w, i32_w]
                rfl
              refine pure_ (i := 18) (N := some 207) (v := ?_) (a' := ?_) #[true, true, true, true, true, true, true, true, true, true, true, true, true, true, true, true, true, true, true, false, false, false, false, false, false, false, false, false, false, false, false, false, false, false, false, false, false, false, false, false] rfl rfl (by kernel_rfl) (fun _ _ _ h => h) (Or.inl ⟨by rfl, ?_⟩) ?_ ?_
              rotate_left
              · intro w'
                go_simp
                try with_reducible rfl
              rotate_left
              · simp only [Act.put, List.setIfInBounds_toArray, List.set_cons_zero, List.set_cons_succ, i64_w, i32_w]
                rfl
              refine pure_ (i := 19) (N := some 208) (v := ?_) (a' := ?_) #[true, true, true, true, true, true, true, true, true, true, true, true, true, true, true, true, true, true, true, true, false, false, false, false, false, false, false, false, false, false, false, false, false, false, false, false, false, false, false, false] rfl rfl (by kernel_rfl) (fun _ _ _ h => h) (Or.inl ⟨by rfl, ?_⟩) ?_ ?_
              rotate_left
              · intro w'
                go_simp
                try with_reducible rfl
              rotate_left
              · simp only [Act.put, List.setIfInBounds_toArray, List.set_cons_zero, List.set_cons_succ, i64_w, i32_w]
                rfl
              refine pure_ (i := 20) (N := some 209) (v := ?_) (a' := ?_) #[true, true, true, true, true, true, true, true, true, true, true, true, true, true, true, true, true, true, true, true, true, false, false, false, false, false, false, false, false, false, false, false, false, false, false, false, false, false, false, false] rfl rfl (by kernel_rfl) (fun _ _ _ h => h) (Or.inl ⟨by rfl, ?_⟩) ?_ ?_
              rotate_left
              · intro w'
                go_simp
                try with_reducible rfl
              rotate_left
              · simp only [Act.put, List.setIfInBounds_toArray, List.set_cons_zero, List.set_cons_succ, i64_w, i32_w]
                rfl
              refine pure_ (i := 21) (N := some 210) (v := ?_) (a' := ?_) #[true, true, true, true, true, true, true, true, true, true, true, true, true, true, true, true, true, true, true, true, true, true, false, false, false, false, false, false, false, false, false, false, false, false, false, false, false, false, false, false] rfl rfl (by kernel_rfl) (fun _ _ _ h => h) (Or.inl ⟨by rfl, ?_⟩) ?_ ?_
              rotate_left
              · intro w'
                go_simp
                try with_reducible rfl
              rotate_left
              · simp only [Act.put, List.setIfInBounds_toArray, List.set_cons_zero, List.set_cons_succ, i64_w, i32_w]
                rfl
              refine pure_ (i := 22) (N := some 211) (v := ?_) (a' := ?_) #[true, true, true, true, true, true, true, true, true, true, true, true, true, true, true, true, true, true, true, true, true, true, true, false, false, false, false, false, false, false, false, false, false, false, false, false, false, false, false, false] rfl rfl (by kernel_rfl) (fun _ _ _ h => h) (Or.inl ⟨by rfl, ?_⟩) ?_ ?_
              rotate_left
              · intro w'
                go_simp
                try with_reducible rfl
              rotate_left
              · simp only [Act.put, List.setIfInBounds_toArray, List.set_cons_zero, List.set_cons_succ, i64_w, i32_w]
                rfl
              refine pure_ (i := 23) (N := some 212) (v := ?_) (a' := ?_) #[true, true, true, true, true, true, true, true, true, true, true, true, true, true, true, true, true, true, true, true, true, true, true, true, false, false, false, false, false, false, false, false, false, false, false, false, false, false, false, false] rfl rfl (by kernel_rfl) (fun _ _ _ h => h) (Or.inl ⟨by rfl, ?_⟩) ?_ ?_
              rotate_left
              · intro w'
                go_simp
                try with_reducible rfl
              rotate_left
              · simp only [Act.put, List.setIfInBounds_toArray, List.set_cons_zero, List.set_cons_succ, i64_w, i32_w]
                rfl
              refine pure_ (i := 24) (N := some 213) (v := ?_) (a' := ?_) #[true, true, true, true, true, true, true, true, true, true, true, true, true, true, true, true, true, true, true, true, true, true, true, true, true, false, false, false, false, false, false, false, false, false, false, false, false, false, false, false] rfl rfl (by kernel_rfl) (fun _ _ _ h => h) (Or.inl ⟨by rfl, ?_⟩) ?_ ?_
              rotate_left
              · intro w'
                go_simp
                try with_reducible rfl
              rotate_left
              · simp only [Act.put, List.setIfInBounds_toArray, List.set_cons_zero, List.set_cons_succ, i64_w, i32_w]
                rfl
              refine pure_ (i := 25) (N := some 214) (v := ?_) (a' := ?_) #[true, true, true, true, true, true, true, true, true, true, true, true, true, true, true, true, true, true, true, true, true, true, true, true, true, true, false, false, false, false, false, false, false, false, false, false, false, false, false, false] rfl rfl (by kernel_rfl) (fun _ _ _ h => h) (Or.inl ⟨by rfl, ?_⟩) ?_ ?_
              rotate_left
              · intro w'
                go_simp
                try with_reducible rfl
              rotate_left
              · simp only [Act.put, List.setIfInBounds_toArray, List.set_cons_zero, List.set_cons_succ, i64_w, i32_w]
                rfl
              refine pure_ (i := 26) (N := some 215) (v := ?_) (a' := ?_) #[true, true, true, true, true, true, true, true, true, true, true, true, true, true, true, true, true, true, true, true, true, true, true, true, true, true, true, false, false, false, false, false, false, false, false, false, false, false, false, false] rfl rfl (by kernel_rfl) (fun _ _ _ h => h) (Or.inl ⟨by rfl, ?_⟩) ?_ ?_
              rotate_left
              · intro w'
                go_simp
                try with_reducible rfl
              rotate_left
              · simp only [Act.put, List.setIfInBounds_toArray, List.set_cons_zero, List.set_cons_succ, i64_w, i32_w]
                rfl
              refine take_ (i := 27) (N := some 216) (v := ?_) (a' := ?_) #[true, true, true, true, true, true, true, true, true, true, true, true, true, true, true, true, true, true, true, true, true, true, true, true, true, true, true, true, false, false, false, false, false, false, false, false, false, false, false, false] rfl rfl (by kernel_rfl) (fun _ _ _ h => h) (Or.inl ⟨by rfl, ?_⟩) hH ?_ ?_
              rotate_left
              · intro w' hW
                have y0 := below_cell hW xa0; have y1 := below_cell hW xa1; have x0 := below_cell hW xb0; have x1 := below_cell hW xb1; have z2 := below_cell hW p0; have z3 := below_cell hW p1
                go_simp
                try with_reducible rfl
              rotate_left
              · simp only [Act.put, List.setIfInBounds_toArray, List.set_cons_zero, List.set_cons_succ, i64_w, i32_w]
                rfl
              refine pure_ (i := 28) (N := some 217) (v := ?_) (a' := ?_) #[true, true, true, true, true, true, true, true, true, true, true, true, true, true, true, true, true, true, true, true, true, true, true, true, true, true, true, true, true, false, false, false, false, false, false, false, false, false, false, false] rfl rfl (by kernel_rfl) (fun _ _ _ h => h) (Or.inl ⟨by rfl, ?_⟩) ?_ ?_
              rotate_left
              · intro w'
                go_simp
                try with_reducible rfl
              rotate_left
              · simp only [Act.put, List.setIfInBounds_toArray, List.set_cons_zero, List.set_cons_succ, i64_w, i32_w]
                rfl
              refine pure_ (i := 29) (N := some 218) (v := ?_) (a' := ?_) #[true, true, true, true, true, true, true, true, true, true, true, true, true, true, true, true, true, true, true, true, true, true, true, true, true, true, true, true, true, true, false, false, false, false, false, false, false, false, false, false] rfl rfl (by kernel_rfl) (fun _ _ _ h => h) (Or.inl ⟨by rfl, ?_⟩) ?_ ?_
              rotate_left
              · intro w'
                go_simp
                try with_reducible rfl
              rotate_left
              · simp only [Act.put, List.setIfInBounds_toArray, List.set_cons_zero, List.set_cons_succ, i64_w, i32_w]
                rfl
              refine pure_ (i := 30) (N := some 219) (v := ?_) (a' := ?_) #[true, true, true, true, true, true, true, true, true, true, true, true, true, true, true, true, true, true, true, true, true, true, true, true, true, true, true, true, true, true, true, false, false, false, false, false, false, false, false, false] rfl rfl (by kernel_rfl) (fun _ _ _ h => h) (Or.inl ⟨by rfl, ?_⟩) ?_ ?_
              rotate_left
              · intro w'
                go_simp
                try with_reducible rfl
              rotate_left
              · simp only [Act.put, List.setIfInBounds_toArray, List.set_cons_zero, List.set_cons_succ, i64_w, i32_w]
                rfl
              refine pure_ (i := 31) (N := some 220) (v := ?_) (a' := ?_) #[true, true, true, true, true, true, true, true, true, true, true, true, true, true, true, true, true, true, true, true, true, true, true, true, true, true, true, true, true, true, true, true, false, false, false, false, false, false, false, false] rfl rfl (by kernel_rfl) (fun _ _ _ h => h) (Or.inl ⟨by rfl, ?_⟩) ?_ ?_
              rotate_left
              · intro w'
                go_simp
                try with_reducible rfl
              rotate_left
              · simp only [Act.put, List.setIfInBounds_toArray, List.set_cons_zero, List.set_cons_succ, i64_w, i32_w]
                rfl
              refine pure_ (i := 32) (N := some 221) (v := ?_) (a' := ?_) #[true, true, true, true, true, true, true, true, true, true, true, true, true, true, true, true, true, true, true, true, true, true, true, true, true, true, true, true, true, true, true, true, true, false, false, false, false, false, false, false] rfl rfl (by kernel_rfl) (fun _ _ _ h => h) (Or.inl ⟨by rfl, ?_⟩) ?_ ?_
              rotate_left
              · intro w'
                go_simp
                try with_reducible rfl
              rotate_left
              · simp only [Act.put, List.setIfInBounds_toArray, List.set_cons_zero, List.set_cons_succ, i64_w, i32_w]
                rfl
              refine take_ (i := 33) (N := some 222) (v := ?_) (a' := ?_) #[true, true, true, true, true, true, true, true, true, true, true, true, true, true, true, true, true, true, true, true, true, true, true, true, true, true, true, true, true, true, true, true, true, true, false, false, false, false, false, false] rfl rfl (by kernel_rfl) (fun _ _ _ h => h) (Or.inl ⟨by rfl, ?_⟩) hH ?_ ?_
              rotate_left
              · intro w' hW
                have y0 := below_cell hW xa0; have y1 := below_cell hW xa1; have x0 := below_cell hW xb0; have x1 := below_cell hW xb1; have z2 := below_cell hW p0; have z3 := below_cell hW p1
                go_simp
                try with_reducible rfl
              rotate_left
              · simp only [Act.put, List.setIfInBounds_toArray, List.set_cons_zero, List.set_cons_succ, i64_w, i32_w]
                rfl
              refine take_ (i := 34) (N := some 223) (v := ?_) (a' := ?_) #[true, true, true, true, true, true, true, true, true, true, true, true, true, true, true, true, true, true, true, true, true, true, true, true, true, true, true, true, true, true, true, true, true, true, true, false, false, false, false, false] rfl rfl (by kernel_rfl) (fun _ _ _ h => h) (Or.inl ⟨by rfl, ?_⟩) hH ?_ ?_
              rotate_left
              · intro w' hW
                have y0 := below_cell hW xa0; have y1 := below_cell hW xa1; have x0 := below_cell hW xb0; have x1 := below_cell hW xb1; have z2 := below_cell hW p0; have z3 := below_cell hW p1
                go_simp
                try with_reducible rfl
              rotate_left
              · simp only [Act.put, List.setIfInBounds_toArray, List.set_cons_zero, List.set_cons_succ, i64_w, i32_w]
                rfl
              refine one_ (i := 35) (N := some 224) #[true, true, true, true, true, true, true, true, true, true, true, true, true, true, true, true, true, true, true, true, true, true, true, true, true, true, true, true, true, true, true, true, true, true, true, true, false, false, false, false] rfl rfl (by kernel_rfl) (by decide) (fun K hK => ?_)
              refine goes_ Try.func13 (by kernel_rfl) rfl #[.agg #[.int .i64 S, .slice Ab l.length cb], .agg #[.int .i64 S, .slice A0 l.length c0]] (by rfl) rfl rfl (by simp [Act.eval]) ?_
              refine (chargeparkref17_Same.calls kS S Ab cb l S A0 c0 l true _ (Kd.C_below HCB.out hH) hcb (Kd.C_below HRW.out hH) hc0 hkS).mono ?_
              rintro e wz35 ⟨rfl, hz⟩
              have hHz : Below wr.heap.size wr wz35 := hH.trans (hz.mono hH.size)
              refine ⟨_, rfl, ?_⟩
              clear hz
              refine hK.out _ _ hHz (fun hH => ?_)
              clear hK K
              refine norm_ (a' := ?_) ?_ ?_
              rotate_left
              · show Act.put _ (some 224) _ = _
                simp only [Act.put, List.setIfInBounds_toArray, List.set_cons_zero, List.set_cons_succ, i64_w, i32_w]
                rfl
              refine pure_ (i := 36) (N := some 225) (v := ?_) (a' := ?_) #[true, true, true, true, true, true, true, true, true, true, true, true, true, true, true, true, true, true, true, true, true, true, true, true, true, true, true, true, true, true, true, true, true, true, true, true, true, false, false, false] rfl rfl (by kernel_rfl) (fun _ _ _ h => h) (Or.inl ⟨by rfl, ?_⟩) ?_ ?_
              rotate_left
              · intro w'
                go_simp
                try with_reducible rfl
              rotate_left
              · simp only [Act.put, List.setIfInBounds_toArray, List.set_cons_zero, List.set_cons_succ, i64_w, i32_w]
                rfl
              refine pure_ (i := 37) (N := some 226) (v := ?_) (a' := ?_) #[true, true, true, true, true, true, true, true, true, true, true, true, true, true, true, true, true, true, true, true, true, true, true, true, true, true, true, true, true, true, true, true, true, true, true, true, true, true, false, false] rfl rfl (by kernel_rfl) (fun _ _ _ h => h) (Or.inl ⟨by rfl, ?_⟩) ?_ ?_
              rotate_left
              · intro w'
                go_simp
                try with_reducible rfl
              rotate_left
              · simp only [Act.put, List.setIfInBounds_toArray, List.set_cons_zero, List.set_cons_succ, i64_w, i32_w]
                rfl
              refine pure_ (i := 38) (N := some 227) (v := ?_) (a' := ?_) #[true, true, true, true, true, true, true, true, true, true, true, true, true, true, true, true, true, true, true, true, true, true, true, true, true, true, true, true, true, true, true, true, true, true, true, true, true, true, true, false] rfl rfl (by kernel_rfl) (fun _ _ _ h => h) (Or.inl ⟨by rfl, ?_⟩) ?_ ?_
              rotate_left
              · intro w'
                go_simp
                try with_reducible rfl
              rotate_left
              · simp only [Act.put, List.setIfInBounds_toArray, List.set_cons_zero, List.set_cons_succ, i64_w, i32_w]
                rfl
              refine pure_ (i := 39) (N := some 8) (v := ?_) (a' := ?_) #[true, true, true, true, true, true, true, true, true, true, true, true, true, true, true, true, true, true, true, true, true, true, true, true, true, true, true, true, true, true, true, true, true, true, true, true, true, true, true, true] rfl rfl (by kernel_rfl) (fun _ _ _ h => h) (Or.inl ⟨by rfl, ?_⟩) ?_ ?_
              rotate_left
              · intro w'
                go_simp
                try with_reducible rfl
              rotate_left
              · simp only [Act.put, List.setIfInBounds_toArray, List.set_cons_zero, List.set_cons_succ, i64_w, i32_w]
                rfl
              refine done_ (by kernel_rfl) ?_
              go_wp2_with fail
              go_ret
              exact ⟨rfl, HBW.out.trans (hH.mono HBW.out.size)⟩
end Go.Proofs.Ytdblbilgnfomaaa.FlashSteps
