/-
  The walk of the law LeaseLonger (2): the law itself.
-/
import Derived.Test.YtpngiddelhcepaaLeaseLonger
namespace Go.Proofs.Ytpngiddelhcepaa.LeaseLonger
open Go.RowKit Go.Proofs.Ytpngiddelhcepaa.Kit Go.Proofs.Ytpngiddelhcepaa.PAll Go.Proofs.Ytpngiddelhcepaa.LeaseWalk Go.Proofs.Ytpngiddelhcepaa.LeasePlain Go.Proofs.Ytpngiddelhcepaa.LeaseRef
open Go.Proofs.YtpngiddelhcepaaW.PrintWords hiding below_alloc below_drew
open Go.Proofs.YtpngiddelhcepaaW.PrintLast Go.Proofs.YtpngiddelhcepaaW.PrintMore
set_option linter.unusedVariables false
set_option linter.unusedSimpArgs false

set_option maxRecDepth 100000 in
set_option maxHeartbeats 4000000 in
theorem long_calls (A0 : Option Addr) (c0 : Nat) (l0 : List Ls) (which amps ticks tick : Int) (w : World) (hr0 : Kd.C k24 w A0 l0.length l0) (hc0 : l0.length ≤ c0)
    (hw0 : 0 ≤ which) (hw1 : which ≤ 255) (ha0 : 0 ≤ amps) (ha1 : amps ≤ 255) (ht0 : 0 ≤ ticks) (ht1 : ticks ≤ 65535) :
    Calls Try.prog 8 #[.slice A0 l0.length c0, .int .u8 which, .int .u8 amps, .int .u16 ticks, .int .i64 tick] w fun e w' => e = .returned (.bool true) ∧ Below w.heap.size w w' := by
  obtain ⟨kh, hkh⟩ := Ev.rounds ref_head
  have hh := fun W => chargeparklaw16_head.calls kh true W hkh
  have HH := Lib.hid hh
  have HR := Lib.hid hr0
  clear hh hr0 hkh
  by_cases h100 : l0.length > 100
  · have e1 : decide ((100 : Int) < (l0.length : Int)) = true := decide_eq_true (by omega)
    go_enter Try.func8, Try.ntmps8
    go_wp2_with fail
    refine (HH.out _).mono ?_
    rintro e w1 ⟨rfl, hb⟩
    have HB := Lib.hid hb
    clear hb
    go_wp2_with fail
    go_ret
    exact ⟨rfl, HB.out⟩
  · have e1 : decide ((100 : Int) < (l0.length : Int)) = false := decide_eq_false (by omega)
    by_cases h0 : l0.length = 0
    · have e2 : ((l0.length : Int) == 0) = true := by rw [h0]; rfl
      go_enter Try.func8, Try.ntmps8
      go_wp2_with fail
      refine (HH.out _).mono ?_
      rintro e w1 ⟨rfl, hb⟩
      have HB := Lib.hid hb
      clear hb
      go_wp2_with fail
      go_ret
      exact ⟨rfl, HB.out⟩
    · have e2 : ((l0.length : Int) == 0) = false := by simp; exact fun h => h0 (by rw [h]; rfl)
      obtain ⟨kv, hkv⟩ := Ev.rounds (ref_valid l0 (by omega))
      have hv := fun W hr => chargeparkref16_Valid.calls kv A0 c0 l0 (validL l0) W hr hc0 hkv
      cases b : validL l0
      · rw [b] at hv
        have HV := Lib.hid hv
        clear hv hkv
        go_enter Try.func8, Try.ntmps8
        go_wp2_with fail
        refine (HH.out _).mono ?_
        rintro e w1 ⟨rfl, hb⟩
        have HB := Lib.hid hb
        clear hb
        go_wp2_with fail
        refine (HV.out _ (Kd.C_below HR.out HB.out)).mono ?_
        rintro e w2 ⟨rfl, hb⟩
        have HB2 := Lib.hid (HB.out.trans (hb.mono HB.out.size))
        clear hb
        go_wp2_with fail
        go_ret
        exact ⟨rfl, HB2.out⟩
      · rw [b] at hv
        have HV := Lib.hid hv
        have HVAL := Lib.hid b
        clear hv hkv b
        go_enter Try.func8, Try.ntmps8
        go_wp2_with fail
        refine (HH.out _).mono ?_
        rintro e w1 ⟨rfl, hb⟩
        have HB := Lib.hid hb
        clear hb
        go_wp2_with fail
        refine (HV.out _ (Kd.C_below HR.out HB.out)).mono ?_
        rintro e w2 ⟨rfl, hb⟩
        have HB2 := Lib.hid (HB.out.trans (hb.mono HB.out.size))
        clear hb HB HH HV
        go_upto_region 4 with fail
        have hsz2 : w.heap.size ≤ w2.heap.size := HB2.out.size
        have hpos : 0 < l0.length := by omega
        have hE : Kd.R k24 24 (w2.alloc (.cells #[] 24)) w.heap.size (fun _ => True) (.slice (some ⟨w2.heap.size, 0, none⟩) 0 0) ([] : List S24) := ⟨fun _ _ => trivial, [], World.ownsRow_made w2 #[] 0 hsz2 (by decide) rfl, Reps.none _ _⟩
        have HE := Lib.hid hE
        have HB3 := Lib.hid (HB2.out.alloc hsz2 (.cells #[] 24))
        clear hE
        go_cut [12] (fun s12 wx => ∃ v, s12 = v ∧ Hid (Kd.R k24 24 wx w.heap.size (fun _ => True) v l0) ∧ Hid (Below w.heap.size w wx))
        case first =>
          go_wp2_with (first | (at_builtin; (refine Kd.R_append_rows k24 (Rr := Kd.K k24 (w2.alloc (.cells #[] 24))) (w0 := w) w.heap.size rfl (.tmp 34) (.tmp 35) 22 24 (.agg #[(.int .i64 0), (.int .i64 0), (.int .i64 0), (.int .i64 0), (.int .i64 0)]) 40 rfl Try.underlying22 info24 rfl ?aD ?aW (.slice (some ⟨w2.heap.size, 0, none⟩) 0 0) ([] : List S24) l0 A0 l0.length c0 (fun _ => True) (fun _ => False) rfl rfl ?aO ?aR ?aK (fun _ h => h.elim) ?aF ?aB ?aS ?aL ?_); (case aD => decide); (case aW => omega); (case aO => exact HE.out); (case aR => exact Kd.C_below HR.out HB3.out); (case aK => exact (fun x cs h => by obtain rfl := k24_open h; exact k24_mkM _ _ _ x)); (case aF => exact fun _ _ => trivial); (case aB => exact HB3.out); (case aS => exact HB3.out.size); (case aL => simp; omega); intro v3 w3 ho3 hb3 hg3 hat3))
          rw [List.nil_append] at ho3
          have HO3 := Lib.hid ho3
          have HB4 := Lib.hid hb3
          clear ho3 hb3 hg3 hat3
          go_wp2_with fail
          go_meet
          exact ⟨v3, rfl, HO3, HB4⟩
        case rest =>
        obtain ⟨v12, rfl, RO, HB4⟩ := hcut
        clear HE HB3 HB2
        obtain ⟨g, cp, rfl, hge, hlt, cells, hg⟩ := Kd.R_form RO.out hpos
        have hC0 := (Kd.R_reads' RO.out).2
        have hrow := C_row hC0.2
        have hcap : l0.length ≤ cp := hC0.1
        have HG := Lib.hid hg
        clear hC0 RO hg
        obtain ⟨i, hi⟩ : ∃ i : Nat, Int.tmod which (l0.length : Int) = (i : Int) := ⟨(Int.tmod which (l0.length : Int)).toNat, by have := Int.tmod_nonneg (l0.length : Int) hw0; omega⟩
        have hil : i < l0.length := by have := Int.tmod_lt_of_pos which (b := (l0.length : Int)) (by omega); omega
        obtain ⟨c0_, c1_, c2_, c3_, c4_⟩ := hrow i l0[i] (List.getElem?_eq_getElem hil)
        obtain ⟨x, hx⟩ : ∃ x, l0[i] = x := ⟨_, rfl⟩
        rw [hx] at c0_ c1_ c2_ c3_ c4_
        have i1 : (i : Int) < (l0.length : Int) := by omega
        have nz : ¬ (l0.length : Int) = 0 := by omega
        go_upto_region 6 with fail
        have hbx := oneL_bounds (((validL_iff l0).1 HVAL.out).2.1 x (by rw [← hx]; exact List.getElem_mem hil))
        obtain ⟨xb0, xb1, xb2, xb3, xb4⟩ := hbx
        have tw1 : IntKind.i64.wrap (x.f2 + amps) = x.f2 + amps := Go.IntWalk.i64_in _ (by omega)
        have tw2 : IntKind.i64.wrap (x.f4 + ticks) = x.f4 + ticks := Go.IntWalk.i64_in _ (by omega)
        obtain ⟨u, hu⟩ : ∃ u, mn 80 (x.f2 + amps) = u := ⟨_, rfl⟩
        obtain ⟨v, hv⟩ : ∃ v, mn 1000 (x.f4 + ticks) = v := ⟨_, rfl⟩
        have hu_ : (if x.f2 + amps < 80 then x.f2 + amps else 80) = u := hu
        have hv_ : (if x.f4 + ticks < 1000 then x.f4 + ticks else 1000) = v := hv
        have cw1 : IntKind.i64.wrap amps = amps := Go.IntWalk.i64_in _ (by omega)
        have cw2 : IntKind.i64.wrap ticks = ticks := Go.IntWalk.i64_in _ (by omega)
        go_cut [13] (fun s13 wx => ∃ (z : Unit), Hid (Below w.heap.size w wx) ∧ Hid (Cells wx g (l0.set i (longer l0[i] amps ticks))))
        case first =>
          refine start_ (n := 24) (S := fun w' => w'.cell? ⟨g, i * 5 + 2, none⟩ = some (.int .i64 x.f2) ∧ w'.cell? ⟨g, i * 5 + 4, none⟩ = some (.int .i64 x.f4)) (ds := [20, 23]) #[false, false, false, false, false, false, false, false, false, false, false, false, false, false, false, false, false, false, false, false, false, false, false, false] (by kernel_rfl) rfl rfl ⟨c2_, c4_⟩ (fun hH => ?_)
          generalize hWd : wc.drew = Wd at hH ⊢
          refine pure_ (i := 0) (N := some 44) (v := ?_) (a' := ?_) #[true, false, false, false, false, false, false, false, false, false, false, false, false, false, false, false, false, false, false, false, false, false, false, false] rfl rfl (by kernel_rfl) (fun _ _ _ h => h) (Or.inl ⟨by rfl, ?_⟩) ?_ ?_
          rotate_left
          · intro w'
            go_simp
            with_reducible rfl
          rotate_left
          · simp only [Act.put, List.setIfInBounds_toArray, List.set_cons_zero, List.set_cons_succ, i64_w, i32_w]
            rfl
          refine pure_ (i := 1) (N := some 45) (v := ?_) (a' := ?_) #[true, true, false, false, false, false, false, false, false, false, false, false, false, false, false, false, false, false, false, false, false, false, false, false] rfl rfl (by kernel_rfl) (fun _ _ _ h => h) (Or.inl ⟨by rfl, ?_⟩) ?_ ?_
          rotate_left
          · intro w'
            go_simp
            with_reducible rfl
          rotate_left
          · simp only [Act.put, List.setIfInBounds_toArray, List.set_cons_zero, List.set_cons_succ, i64_w, i32_w]
            rfl
          refine pure_ (i := 2) (N := some 46) (v := ?_) (a' := ?_) #[true, true, true, false, false, false, false, false, false, false, false, false, false, false, false, false, false, false, false, false, false, false, false, false] rfl rfl (by kernel_rfl) (fun _ _ _ h => h) (Or.inl ⟨by rfl, ?_⟩) ?_ ?_
          rotate_left
          · intro w'
            go_simp
            with_reducible rfl
          rotate_left
          · simp only [Act.put, List.setIfInBounds_toArray, List.set_cons_zero, List.set_cons_succ, i64_w, i32_w]
            rfl
          refine pure_ (i := 3) (N := some 47) (v := ?_) (a' := ?_) #[true, true, true, true, false, false, false, false, false, false, false, false, false, false, false, false, false, false, false, false, false, false, false, false] rfl rfl (by kernel_rfl) (fun _ _ _ h => h) (Or.inl ⟨by rfl, ?_⟩) ?_ ?_
          rotate_left
          · intro w'
            go_simp
            with_reducible rfl
          rotate_left
          · simp only [Act.put, List.setIfInBounds_toArray, List.set_cons_zero, List.set_cons_succ, i64_w, i32_w]
            rfl
          refine pure_ (i := 4) (N := some 48) (v := ?_) (a' := ?_) #[true, true, true, true, true, false, false, false, false, false, false, false, false, false, false, false, false, false, false, false, false, false, false, false] rfl rfl (by kernel_rfl) (fun _ _ _ h => h) (Or.inl ⟨by rfl, ?_⟩) ?_ ?_
          rotate_left
          · intro w'
            go_simp
            with_reducible rfl
          rotate_left
          · simp only [Act.put, List.setIfInBounds_toArray, List.set_cons_zero, List.set_cons_succ, i64_w, i32_w]
            rfl
          refine take_ (i := 5) (N := some 49) (v := ?_) (a' := ?_) #[true, true, true, true, true, true, false, false, false, false, false, false, false, false, false, false, false, false, false, false, false, false, false, false] rfl rfl (by kernel_rfl) (fun _ _ _ h => h) (Or.inl ⟨by rfl, ?_⟩) hH ?_ ?_
          rotate_left
          · rintro w' ⟨q2, q4⟩
            go_simp
            with_reducible rfl
          rotate_left
          · simp only [Act.put, List.setIfInBounds_toArray, List.set_cons_zero, List.set_cons_succ, i64_w, i32_w]
            rfl
          refine pure_ (i := 6) (N := some 50) (v := ?_) (a' := ?_) #[true, true, true, true, true, true, true, false, false, false, false, false, false, false, false, false, false, false, false, false, false, false, false, false] rfl rfl (by kernel_rfl) (fun _ _ _ h => h) (Or.inl ⟨by rfl, ?_⟩) ?_ ?_
          rotate_left
          · intro w'
            go_simp
            with_reducible rfl
          rotate_left
          · simp only [Act.put, List.setIfInBounds_toArray, List.set_cons_zero, List.set_cons_succ, i64_w, i32_w]
            rfl
          refine pure_ (i := 7) (N := some 51) (v := ?_) (a' := ?_) #[true, true, true, true, true, true, true, true, false, false, false, false, false, false, false, false, false, false, false, false, false, false, false, false] rfl rfl (by kernel_rfl) (fun _ _ _ h => h) (Or.inl ⟨by rfl, ?_⟩) ?_ ?_
          rotate_left
          · intro w'
            go_simp
            with_reducible rfl
          rotate_left
          · simp only [Act.put, List.setIfInBounds_toArray, List.set_cons_zero, List.set_cons_succ, i64_w, i32_w]
            rfl
          refine pure_ (i := 8) (N := some 52) (v := ?_) (a' := ?_) #[true, true, true, true, true, true, true, true, true, false, false, false, false, false, false, false, false, false, false, false, false, false, false, false] rfl rfl (by kernel_rfl) (fun _ _ _ h => h) (Or.inl ⟨by rfl, ?_⟩) ?_ ?_
          rotate_left
          · intro w'
            go_simp
            with_reducible rfl
          rotate_left
          · simp only [Act.put, List.setIfInBounds_toArray, List.set_cons_zero, List.set_cons_succ, i64_w, i32_w]
            rfl
          refine pure_ (i := 9) (N := some 53) (v := ?_) (a' := ?_) #[true, true, true, true, true, true, true, true, true, true, false, false, false, false, false, false, false, false, false, false, false, false, false, false] rfl rfl (by kernel_rfl) (fun _ _ _ h => h) (Or.inl ⟨by rfl, ?_⟩) ?_ ?_
          rotate_left
          · intro w'
            go_simp
            with_reducible rfl
          rotate_left
          · simp only [Act.put, List.setIfInBounds_toArray, List.set_cons_zero, List.set_cons_succ, i64_w, i32_w]
            rfl
          refine pure_ (i := 10) (N := some 54) (v := ?_) (a' := ?_) #[true, true, true, true, true, true, true, true, true, true, true, false, false, false, false, false, false, false, false, false, false, false, false, false] rfl rfl (by kernel_rfl) (fun _ _ _ h => h) (Or.inl ⟨by rfl, ?_⟩) ?_ ?_
          rotate_left
          · intro w'
            go_simp
            with_reducible rfl
          rotate_left
          · simp only [Act.put, List.setIfInBounds_toArray, List.set_cons_zero, List.set_cons_succ, i64_w, i32_w]
            rfl
          refine pure_ (i := 11) (N := some 55) (v := ?_) (a' := ?_) #[true, true, true, true, true, true, true, true, true, true, true, true, false, false, false, false, false, false, false, false, false, false, false, false] rfl rfl (by kernel_rfl) (fun _ _ _ h => h) (Or.inl ⟨by rfl, ?_⟩) ?_ ?_
          rotate_left
          · intro w'
            go_simp
            with_reducible rfl
          rotate_left
          · simp only [Act.put, List.setIfInBounds_toArray, List.set_cons_zero, List.set_cons_succ, i64_w, i32_w]
            rfl
          refine pure_ (i := 12) (N := some 56) (v := ?_) (a' := ?_) #[true, true, true, true, true, true, true, true, true, true, true, true, true, false, false, false, false, false, false, false, false, false, false, false] rfl rfl (by kernel_rfl) (fun _ _ _ h => h) (Or.inl ⟨by rfl, ?_⟩) ?_ ?_
          rotate_left
          · intro w'
            go_simp
            with_reducible rfl
          rotate_left
          · simp only [Act.put, List.setIfInBounds_toArray, List.set_cons_zero, List.set_cons_succ, i64_w, i32_w]
            rfl
          refine take_ (i := 13) (N := some 57) (v := ?_) (a' := ?_) #[true, true, true, true, true, true, true, true, true, true, true, true, true, true, false, false, false, false, false, false, false, false, false, false] rfl rfl (by kernel_rfl) (fun _ _ _ h => h) (Or.inl ⟨by rfl, ?_⟩) hH ?_ ?_
          rotate_left
          · rintro w' ⟨q2, q4⟩
            go_simp
            with_reducible rfl
          rotate_left
          · simp only [Act.put, List.setIfInBounds_toArray, List.set_cons_zero, List.set_cons_succ, i64_w, i32_w]
            rfl
          refine pure_ (i := 14) (N := some 58) (v := ?_) (a' := ?_) #[true, true, true, true, true, true, true, true, true, true, true, true, true, true, true, false, false, false, false, false, false, false, false, false] rfl rfl (by kernel_rfl) (fun _ _ _ h => h) (Or.inl ⟨by rfl, ?_⟩) ?_ ?_
          rotate_left
          · intro w'
            go_simp
            with_reducible rfl
          rotate_left
          · simp only [Act.put, List.setIfInBounds_toArray, List.set_cons_zero, List.set_cons_succ, i64_w, i32_w]
            rfl
          refine pure_ (i := 15) (N := some 59) (v := ?_) (a' := ?_) #[true, true, true, true, true, true, true, true, true, true, true, true, true, true, true, true, false, false, false, false, false, false, false, false] rfl rfl (by kernel_rfl) (fun _ _ _ h => h) (Or.inl ⟨by rfl, ?_⟩) ?_ ?_
          rotate_left
          · intro w'
            go_simp
            with_reducible rfl
          rotate_left
          · simp only [Act.put, List.setIfInBounds_toArray, List.set_cons_zero, List.set_cons_succ, i64_w, i32_w]
            rfl
          refine pure_ (i := 16) (N := some 60) (v := ?_) (a' := ?_) #[true, true, true, true, true, true, true, true, true, true, true, true, true, true, true, true, true, false, false, false, false, false, false, false] rfl rfl (by kernel_rfl) (fun _ _ _ h => h) (Or.inl ⟨by rfl, ?_⟩) ?_ ?_
          rotate_left
          · intro w'
            go_simp
            with_reducible rfl
          rotate_left
          · simp only [Act.put, List.setIfInBounds_toArray, List.set_cons_zero, List.set_cons_succ, i64_w, i32_w]
            rfl
          refine pure_ (i := 17) (N := some 61) (v := ?_) (a' := ?_) #[true, true, true, true, true, true, true, true, true, true, true, true, true, true, true, true, true, true, false, false, false, false, false, false] rfl rfl (by kernel_rfl) (fun _ _ _ h => h) (Or.inl ⟨by rfl, ?_⟩) ?_ ?_
          rotate_left
          · intro w'
            go_simp
            with_reducible rfl
          rotate_left
          · simp only [Act.put, List.setIfInBounds_toArray, List.set_cons_zero, List.set_cons_succ, i64_w, i32_w]
            rfl
          refine pure_ (i := 18) (N := some 62) (v := ?_) (a' := ?_) #[true, true, true, true, true, true, true, true, true, true, true, true, true, true, true, true, true, true, true, false, false, false, false, false] rfl rfl (by kernel_rfl) (fun _ _ _ h => h) (Or.inl ⟨by rfl, ?_⟩) ?_ ?_
          rotate_left
          · intro w'
            go_simp
            with_reducible rfl
          rotate_left
          · simp only [Act.put, List.setIfInBounds_toArray, List.set_cons_zero, List.set_cons_succ, i64_w, i32_w]
            rfl
          refine pure_ (i := 19) (N := some 63) (v := ?_) (a' := ?_) #[true, true, true, true, true, true, true, true, true, true, true, true, true, true, true, true, true, true, true, true, false, false, false, false] rfl rfl (by kernel_rfl) (fun _ _ _ h => h) (Or.inl ⟨by rfl, ?_⟩) ?_ ?_
          rotate_left
          · intro w'
            go_simp
            with_reducible rfl
          rotate_left
          · simp only [Act.put, List.setIfInBounds_toArray, List.set_cons_zero, List.set_cons_succ, i64_w, i32_w]
            rfl
          have fz : Wd.frozen? ⟨g, i * 5 + 2, none⟩ = false := by rw [← hWd]; exact blk_frozen (blk_drew HG.out) _
          have fz4 : (Wd.setCell ⟨g, i * 5 + 2, none⟩ (.int .i64 u)).frozen? ⟨g, i * 5 + 4, none⟩ = false := by rw [← hWd]; exact blk_frozen (blk_put (blk_drew HG.out) (i * 5 + 2) (.int .i64 u) rfl) _
          refine last_ (i := 20) (N := none) #[true, true, true, true, true, true, true, true, true, true, true, true, true, true, true, true, true, true, true, true, true, false, false, false] rfl rfl (by kernel_rfl) (by decide) (fun K hK => ?_)
          obtain ⟨q2, q4⟩ := hH
          refine skip_ (w1 := Wd.setCell ⟨g, i * 5 + 2, none⟩ (.int .i64 u)) (by rfl) rfl ?_ ?_
          · go_simp
          refine hK.out _ _ ?_
          clear hK K
          refine pure_ (i := 21) (N := some 64) (v := ?_) (a' := ?_) #[true, true, true, true, true, true, true, true, true, true, true, true, true, true, true, true, true, true, true, true, true, true, false, false] rfl rfl (by kernel_rfl) (fun _ _ _ h => h) (Or.inl ⟨by rfl, ?_⟩) ?_ ?_
          rotate_left
          · intro w'
            go_simp
            with_reducible rfl
          rotate_left
          · simp only [Act.put, List.setIfInBounds_toArray, List.set_cons_zero, List.set_cons_succ, i64_w, i32_w]
            rfl
          refine pure_ (i := 22) (N := some 65) (v := ?_) (a' := ?_) #[true, true, true, true, true, true, true, true, true, true, true, true, true, true, true, true, true, true, true, true, true, true, true, false] rfl rfl (by kernel_rfl) (fun _ _ _ h => h) (Or.inl ⟨by rfl, ?_⟩) ?_ ?_
          rotate_left
          · intro w'
            go_simp
            with_reducible rfl
          rotate_left
          · simp only [Act.put, List.setIfInBounds_toArray, List.set_cons_zero, List.set_cons_succ, i64_w, i32_w]
            rfl
          have q4' : (Wd.setCell ⟨g, i * 5 + 2, none⟩ (.int .i64 u)).cell? ⟨g, i * 5 + 4, none⟩ = some (.int .i64 x.f4) := (cell_ne (by omega) _).trans q4
          refine last_ (i := 23) (N := none) #[true, true, true, true, true, true, true, true, true, true, true, true, true, true, true, true, true, true, true, true, true, true, true, true] rfl rfl (by kernel_rfl) (by decide) (fun K hK => ?_)
          refine skip_ (w1 := (Wd.setCell ⟨g, i * 5 + 2, none⟩ (.int .i64 u)).setCell ⟨g, i * 5 + 4, none⟩ (.int .i64 v)) (by rfl) rfl ?_ ?_
          · go_simp
          refine hK.out _ _ ?_
          clear hK K
          refine done_ (by kernel_rfl) ?_
          go_wp2_with fail
          go_meet
          have hlg : longer l0[i] amps ticks = ⟨l0[i].f0, l0[i].f1, u, l0[i].f3, v⟩ := by unfold longer; rw [hx, hu, hv]
          have hcd : Cells Wd g l0 := by rw [← hWd]; exact fun j y hj => hrow j y hj
          have hbd : Below w.heap.size w Wd := by rw [← hWd]; exact HB4.out.drew
          rw [hlg]
          exact ⟨(), (hbd.setCell (by show w.heap.size ≤ g; exact hge) _).setCell (by show w.heap.size ≤ g; exact hge) _, hcd.set2 i hil u v⟩
        case rest =>
        obtain ⟨_, HB5, HROW⟩ := hcut
        have hml : (l0.set i (longer l0[i] amps ticks)).length = l0.length := List.length_set
        have hvm := longer_valid ha0 ht0 i hil HVAL.out
        have hmv := fun q => longer_mv ha0 ht0 tick q l0 i hil ((validL_iff l0).1 HVAL.out).2.1
        obtain ⟨m, hm⟩ : ∃ m, l0.set i (longer l0[i] amps ticks) = m := ⟨_, rfl⟩
        rw [hm] at HROW hml hvm hmv
        obtain ⟨L1, L2, cd, q1, q2, q3, q4, q5⟩ := alive_pair tick HVAL.out hvm hmv
        have hal1 := fun W hr => lease_Alive.calls A0 c0 l0 16 tick L1 cd W hr hc0 ((alive_is l0 16 tick).trans (congrArg some q1))
        have hal2 := fun W hr => lease_Alive.calls (some ⟨g, 0, none⟩) cp m 16 tick L2 cd W hr (by rw [hml]; exact hcap) ((alive_is m 16 tick).trans (congrArg some q2))
        rw [hml] at hal2
        have hCm := row_C (by rw [hml]; omega) HROW.out
        rw [hml] at hCm
        obtain ⟨n, h1n⟩ : ∃ n, L1.length = n := ⟨_, rfl⟩
        have h2n : L2.length = n := by rw [← q3]; exact h1n
        rw [h1n] at q4 q5
        have HAL1 := Lib.hid hal1
        have HAL2 := Lib.hid hal2
        have HCM := Lib.hid hCm
        have HQ5 := Lib.hid q5
        clear hal1 hal2 hCm q1 q2 q3 q5 hvm hmv HVAL HROW HG hrow c0_ c1_ c2_ c3_ c4_ hi nz hml hm tw1 tw2 hu_ hv_ hu hv cw1 cw2 HB4 xb0 xb1 xb2 xb3 xb4 hx
        go_wp2_with fail
        refine (HAL1.out _ (Kd.C_below HR.out HB5.out)).mono ?_
        rintro e w6 ⟨v6, rfl, ho6, hb6⟩
        obtain ⟨A6, c6, rfl⟩ := Kd.R_slice ho6
        have HC6 := Lib.hid (Kd.R_reads' ho6).2.2
        have HB6 := Lib.hid (HB5.out.trans (hb6.mono HB5.out.size))
        have HCM6 := Lib.hid (Kd.C_below HCM.out hb6)
        rw [h1n] at HC6 ⊢
        clear ho6 hb6 HCM HB5 HAL1
        go_wp2_with fail
        refine (HAL2.out _ HCM6.out).mono ?_
        rintro e w7 ⟨v7, rfl, ho7, hb7⟩
        obtain ⟨A7, c7, rfl⟩ := Kd.R_slice ho7
        have HC7 := Lib.hid (Kd.R_reads' ho7).2.2
        have HB7 := Lib.hid (HB6.out.trans (hb7.mono HB6.out.size))
        have HC6' := Lib.hid (Kd.C_below HC6.out hb7)
        rw [h2n] at HC7 ⊢
        clear ho7 hb7 HCM6 HB6 HC6 HAL2
        go_wp2_with fail
        go_loopw [90] (fun v90 wr => ∃ j : Nat, v90 = .int .i64 j ∧ j ≤ n ∧ Hid (Below w.heap.size w wr) ∧ Hid (Kd.C (Kd.int .i64) wr A6 n L1) ∧ Hid (Kd.C (Kd.int .i64) wr A7 n L2)) (fun v90 wr => n - (intOf v90).toNat)
        case atStart => exact ⟨0, rfl, Nat.zero_le _, HB7, HC6', HC7⟩
        case round =>
          obtain ⟨j, rfl, hj, HBr, HC1, HC2⟩ := hrel
          by_cases hjn : j < n
          · obtain ⟨ad1, rfl, y1⟩ := Kd.at_int HC1.out (j : Int) (Int.natCast_nonneg _) (by omega)
            obtain ⟨ad2, rfl, y2⟩ := Kd.at_int HC2.out (j : Int) (Int.natCast_nonneg _) (by omega)
            have hle := HQ5.out j hjn
            generalize rd L1 (j : Int) = r1 at *
            generalize rd L2 (j : Int) = r2 at *
            simp only [Int.toNat_natCast] at y1 y2
            have hd : decide (r2 < r1) = false := decide_eq_false (by omega)
            have j0 : (0 : Int) ≤ (j : Int) := Int.natCast_nonneg _
            have j1 : (j : Int) < (n : Int) := by omega
            go_wp2_with fail
            go_region
            go_wp2_with fail
            go_round
            case rel => exact ⟨j + 1, by go_num, by omega, Lib.hid HBr.out.drew, Lib.hid (Kd.C_drew HC1.out), Lib.hid (Kd.C_drew HC2.out)⟩
            case measure => simp [intOf]; omega
          · obtain rfl : j = n := by omega
            go_wp2_with fail
            go_ret
            exact ⟨rfl, HBr.out⟩
end Go.Proofs.Ytpngiddelhcepaa.LeaseLonger
