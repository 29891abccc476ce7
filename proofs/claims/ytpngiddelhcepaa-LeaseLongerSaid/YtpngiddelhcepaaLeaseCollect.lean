/-
  The walks of slices.AppendSeq and slices.Collect over lease.until's iterator, and of lease.Expire.
-/
import Derived.Test.YtpngiddelhcepaaLeaseUntil
namespace Go.Proofs.Ytpngiddelhcepaa.LeaseWalk
open Go.RowKit Go.Shelf Go.Proofs.Ytpngiddelhcepaa.Kit Go.Proofs.Ytpngiddelhcepaa.PAll
open Go.Proofs.YtpngiddelhcepaaW.PrintWords hiding below_alloc below_drew
set_option linter.unusedVariables false
set_option linter.unusedSimpArgs false
attribute [local go_sem] Oper.semAt_some

def lcs (x : Ls) : List Value := [.int .i64 x.f0, .int .i64 x.f1, .int .i64 x.f2, .int .i64 x.f3, .int .i64 x.f4]
def lrow (l : List Ls) : List Value := l.flatMap lcs
theorem lrow_snoc (l : List Ls) (x : Ls) : lrow (l ++ [x]) = lrow l ++ lcs x := by simp [lrow]
theorem lrow_len (l : List Ls) : (lrow l).length = l.length * 5 := by
  induction l with
  | nil => rfl
  | cons x l ih => simp only [lrow, List.flatMap_cons, List.length_append] at ih ⊢; rw [ih]; simp [lcs]; omega
theorem reps_lrow (w : World) (base : Nat) (ok : Nat → Prop) (l : List Ls) : Reps (kL.M w base ok) 5 l (lrow l) := by
  suffices H : ∀ n (l : List Ls), l.length = n → Reps (kL.M w base ok) 5 l (lrow l) from H _ l rfl
  intro n
  induction n with
  | zero => intro l hl; obtain rfl := List.eq_nil_of_length_eq_zero hl; exact Reps.none _ _
  | succ n ih =>
    intro l hl
    rcases List.eq_nil_or_concat l with rfl | ⟨l', x, rfl⟩
    · simp at hl
    · rw [List.concat_eq_append] at hl ⊢
      rw [lrow_snoc]
      exact (ih l' (by simpa using hl)).snoc (k24_mkM w base ok x) rfl
theorem R_of_row {w : World} {base : Nat} {v : Value} {l : List Ls} (h : w.ownsRow base 24 5 v l.length (lrow l)) : Kd.R kL 24 w base (fun _ => True) v l :=
  ⟨fun _ _ => trivial, lrow l, h, reps_lrow w base _ l⟩

/-- A lease in a box of its own. -/
def LBox (W : World) (B : Nat) (x : Ls) : Prop := W.heap[B]? = some (.cells #[.int .i64 x.f0, .int .i64 x.f1, .int .i64 x.f2, .int .i64 x.f3, .int .i64 x.f4] 24 (0, 0))
theorem lbox_own (B : Nat) (x : Ls) : Own (fun (_ : Unit) W => LBox W B x) := fun s X Y row hs hg hrow =>
  (hg.block B (blk_lt hs) (fun e' => by obtain ⟨o, ho, hc⟩ := hrow B e'.symm; rw [show X.heap[B]? = _ from hs] at ho; cases ho; cases hc)).trans hs

set_option maxRecDepth 100000 in
set_option maxHeartbeats 2000000 in
theorem appendSeq_in (n : Nat) (hn : 2 ≤ n) (n0 Bl Bt : Nat) (ys : List Ls) (w : World) (hn0 : n0 ≤ w.heap.size) (hBt : Bt < w.heap.size) (hy : ys.length ≤ 64)
    (hseq : SeqStopsK Fence.wide (n - 1) Try.prog 38 #[.pointer (some ⟨Bl, 0, none⟩), .pointer (some ⟨Bt, 0, none⟩)] (fun x : Ls => #[.agg #[.int .i64 x.f0, .int .i64 x.f1, .int .i64 x.f2, .int .i64 x.f3, .int .i64 x.f4]])
      (KpT n0 Bt) (fun zs => zs = ys) (fun pre => pre <+: ys) 64 w) :
    CallsIn Fence.wide n Try.prog 40 #[.slice none 0 0, .func (.func 38) #[] #[.pointer (some ⟨Bl, 0, none⟩), .pointer (some ⟨Bt, 0, none⟩)]] w
      fun e w' => ∃ v : Value, e = .returned v ∧ Kd.R kL 24 w' w.heap.size (fun _ => True) v ys ∧ Below w.heap.size w w' := by
  have h1 : 1 ≤ n := by omega
  obtain ⟨i0, hi, hz0, hz1, hz2⟩ := info_parts info24
  have HSEQ := Lib.hid hseq
  clear hseq
  refine callsIn_of_wp_marks Try.func40 rfl trivial ?_ rfl
  simp only [Try.ntmps40, List.size_toArray, List.length_cons, List.length_nil, Nat.reduceAdd, Nat.reduceSub, Array.replicate_succ, Array.replicate_zero, List.push_toArray, List.append_toArray, List.nil_append, List.cons_append]
  gi_wp2
  have bO := Boxed.new w 22 (.slice none 0 0)
  have hB0 : Below w.heap.size w (w.alloc (.cells #[.slice none 0 0] 22)) := (Below.refl _ w).alloc (Nat.le_refl _) _
  obtain ⟨W0, hW0⟩ : ∃ W0, w.alloc (.cells #[.slice none 0 0] 22) = W0 := ⟨_, rfl⟩
  have hs0 : W0.heap.size = w.heap.size + 1 := by rw [← hW0]; simp
  rw [hW0] at bO hB0 ⊢
  refine wpIn_rangeFunc_ownH rfl h1 (gf := 38) (lb := #[.pointer (some ⟨Bl, 0, none⟩), .pointer (some ⟨Bt, 0, none⟩)]) rfl trivial (enters_of Try.func38 (by kernel_rfl) rfl)
    HSEQ.out KpT.trans (KpT.put (by omega) (by omega)) hB0 (fun _ => rfl)
    (fun pre W => (∃ v, Boxed W w.heap.size 22 v ∧ W.ownsRow w.heap.size 24 5 v pre.length (lrow pre) ∧ (v = .slice none 0 0 ↔ pre = [])) ∧ Below w.heap.size w W)
    (fun _ _ _ => False)
    (OwnFrom.and (Own.from (holdsRow_own w.heap.size w.heap.size 22 24 5 (fun pre : List Ls => pre.length) (fun pre => lrow pre) (fun pre v => v = .slice none 0 0 ↔ pre = [])) _) (ownFrom_below (Nat.le_refl _) (by omega)))
    (fun _ _ _ _ _ hs _ _ => hs)
    ⟨⟨_, bO, World.ownsRow_nil _ _ _ _, by simp⟩, hB0⟩
    (fun x a' W => ∃ Bx, w.heap.size < Bx ∧ LBox W Bx x ∧ a' = { tmps := #[.slice none 0 0, .func (.func 38) #[] #[.pointer (some ⟨Bl, 0, none⟩), .pointer (some ⟨Bt, 0, none⟩)], .pointer (some ⟨w.heap.size, 0, none⟩), undef, .slice none 0 0, .pointer (some ⟨Bx, 0, none⟩), .func (.func 38) #[] #[.pointer (some ⟨Bl, 0, none⟩), .pointer (some ⟨Bt, 0, none⟩)], .agg #[.int .i64 x.f0, .int .i64 x.f1, .int .i64 x.f2, .int .i64 x.f3, .int .i64 x.f4], undef, undef, undef, undef, undef], defers := [] })
    (fun x a' _ X Y row hs hg hr => by obtain ⟨Bx, h1, h2, h3⟩ := hs; exact ⟨Bx, h1, lbox_own Bx x () X Y row h2 hg (fun r e => (hr r e).2), h3⟩)
    ?assign ?body ?done ?stop
  case assign =>
    rintro l pre x W K ⟨⟨v, hv, hrow, hnil⟩, hB⟩ hK
    have HKK := Lib.hid hK
    have HROW := Lib.hid hrow
    clear hK hrow
    gi_wp2
    exact HKK.out _ _ ((KeepsOthers.alloc _ _).from _) ⟨(Below.refl _ W).alloc (by have := hB.size; omega) _, fun v h => h.alloc _⟩ ⟨⟨v, hv.alloc _, HROW.out.alloc _, hnil⟩, hB.alloc hB.size _⟩ ⟨W.heap.size, by have := hv.lt; omega, blk_new _ _, rfl⟩
  case body =>
    rintro l pre x a' W hl ⟨r, hr⟩ ⟨⟨v, hv, hrow, hnil⟩, hB⟩ ⟨Bx, hBx, hX, rfl⟩ hlt
    have hc := hv.cell
    have hx0 : W.cell? ⟨Bx, 0, none⟩ = some (.int .i64 x.f0) := by rw [blk_cell hX]; rfl
    have hx1 : W.cell? ⟨Bx, 1, none⟩ = some (.int .i64 x.f1) := by rw [blk_cell hX]; rfl
    have hx2 : W.cell? ⟨Bx, 2, none⟩ = some (.int .i64 x.f2) := by rw [blk_cell hX]; rfl
    have hx3 : W.cell? ⟨Bx, 3, none⟩ = some (.int .i64 x.f3) := by rw [blk_cell hX]; rfl
    have hx4 : W.cell? ⟨Bx, 4, none⟩ = some (.int .i64 x.f4) := by rw [blk_cell hX]; rfl
    gi_wp2_with (gi_at_builtin; refine wpListIn_append_own _ rfl _ _ 22 rfl w.heap.size 24 i0 (.agg #[.int .i64 0, .int .i64 0, .int .i64 0, .int .i64 0, .int .i64 0]) 5 40 Try.underlying22 hi hz0 hz1 hz2 rfl (by decide) _ _ _ rfl (hrow.alloc _) ⟨W.heap.size, 0, none⟩ 1 1 (lcs x) rfl rfl (World.news_of_block (cs := #[.int .i64 x.f0, .int .i64 x.f1, .int .i64 x.f2, .int .i64 x.f3, .int .i64 x.f4]) (blk_new W _)) (by simp [Value.oneCell', lcs]) (by unfold maxLen; omega) (by omega) (by have := hB.size; simp; omega) ?_; intro v' w1 hown' hgrow _; obtain ⟨g', cap', rfl⟩ := ownsRow_succ hown'; obtain ⟨hv1, hv2, hr2, hk2, hb2⟩ := hv.appended (by decide) hrow hB.size (Nat.le_refl _) hown' hgrow; have hc1 := hv1.cell; have hf1 := hv1.frozen)
    exact ⟨hk2.from _, ⟨hb2.mono hn0, fun u hu => (hb2.block Bt hBt).trans hu⟩, ⟨_, hv2, by rw [lrow_snoc]; simpa using hr2, by simp⟩, hB.trans hb2⟩
  case done =>
    rintro D zs W hD rfl ⟨⟨v, hv, hrow, hnil⟩, hB⟩ hK
    have hc := hv.cell
    gi_wp2
    refine ⟨by simp, .inl ⟨_, _, rfl, run_takeDeferred hK, ?_⟩⟩
    exact ⟨_, results_tmp rfl _ _ _, v, rfl, R_of_row (ownsRow_putObj hrow _ hK rfl), hB.trans (belowK_b (w := w) (Nat.le_refl _) W D _ _ (by omega) hK rfl rfl)⟩
  case stop =>
    rintro D c pre W _ _ h _
    exact h.elim

theorem SeqStopsK.fewer {α : Type} {F : Fence} {n : Nat} {P : Program} {g : Nat} {lb : Array Value} {encs : α → Array Value} {Kp : World → World → Prop} {S Sp : List α → Prop} {N N' : Nat} {w : World} (h : SeqStopsK F n P g lb encs Kp S Sp N w) (hN : N ≤ N') :
    SeqStopsK F n P g lb encs Kp S Sp N' w := fun l J Jx W hW hJ hJx hY h0 => h l J Jx W hW hJ hJx (fun pre x W1 hj hl => hY pre x W1 hj (by omega)) h0

set_option maxRecDepth 100000 in
theorem collect_in (n : Nat) (hn : 3 ≤ n) (n0 Bl Bt : Nat) (ys : List Ls) (w : World) (hn0 : n0 ≤ w.heap.size) (hBt : Bt < w.heap.size) (hy : ys.length ≤ 64)
    (hseq : SeqStopsK Fence.wide (n - 1 - 1) Try.prog 38 #[.pointer (some ⟨Bl, 0, none⟩), .pointer (some ⟨Bt, 0, none⟩)] (fun x : Ls => #[.agg #[.int .i64 x.f0, .int .i64 x.f1, .int .i64 x.f2, .int .i64 x.f3, .int .i64 x.f4]])
      (KpT n0 Bt) (fun zs => zs = ys) (fun pre => pre <+: ys) 64 w) :
    CallsIn Fence.wide n Try.prog 32 #[.func (.func 38) #[] #[.pointer (some ⟨Bl, 0, none⟩), .pointer (some ⟨Bt, 0, none⟩)]] w
      fun e w' => ∃ v : Value, e = .returned v ∧ Kd.R kL 24 w' w.heap.size (fun _ => True) v ys ∧ Below w.heap.size w w' := by
  have hA := appendSeq_in (n - 1) (by omega) n0 Bl Bt ys w hn0 hBt hy hseq
  have HA := Lib.hid hA
  clear hA hseq
  refine callsIn_of_wp Try.func32 rfl trivial ?_ rfl
  simp only [Try.ntmps32, List.size_toArray, List.length_cons, List.length_nil, Nat.reduceAdd, Nat.reduceSub, Array.replicate_succ, Array.replicate_zero, List.push_toArray, List.append_toArray, List.nil_append, List.cons_append]
  gi_wp2_with fail
  refine ⟨trivial, fun _ => by omega, ?_⟩
  refine HA.out.mono ?_
  rintro e w1 ⟨v, rfl, ho, hb⟩
  have HO := Lib.hid ho
  have HB := Lib.hid hb
  clear ho hb
  gi_wp2_with fail
  go_ret
  exact ⟨_, rfl, HO.out, HB.out⟩

def expireL (l : List Ls) (tick : Int) : List Ls × Int := if validL l && inI tick 0 1100000 then (aliveL tick l, 0) else ([], 1)
theorem valid_all {l : List Ls} (h : validL l = true) : l.length ≤ 64 ∧ ∀ x ∈ l, oneL x = true := by
  unfold validL at h
  rw [Bool.and_eq_true] at h
  refine ⟨of_decide_eq_true h.1, ?_⟩
  suffices H : ∀ (l : List Ls) p, validFrom p l = true → ∀ x ∈ l, oneL x = true from H l none h.2
  intro l
  induction l with
  | nil => intro p _ x hx; cases hx
  | cons y l ih =>
    intro p hp x hx
    rw [validFrom_cons, Bool.and_eq_true, Bool.and_eq_true] at hp
    rcases List.mem_cons.1 hx with rfl | hx
    · exact hp.1
    · exact ih _ hp.2.2 x hx

set_option maxRecDepth 100000 in
theorem expire_calls (A0 : Option Addr) (c0 : Nat) (l0 : List Ls) (tick : Int) (w : World) (hr0 : Kd.C kL w A0 l0.length l0) (hc0 : l0.length ≤ c0) :
    Calls Try.prog 15 #[.slice A0 l0.length c0, .int .i64 tick] w (GrantPost w (expireL l0 tick)) := by
  have hv := fun w hr => valid_calls A0 c0 l0 w hr hc0
  have hi := fun w => inside_calls tick 0 1100000 w
  have HR := Lib.hid hr0
  clear hr0
  cases b : validL l0
  · have hE : expireL l0 tick = ([], 1) := by unfold expireL; rw [b]; rfl
    rw [hE]
    rw [b] at hv
    have HV := Lib.hid hv
    clear hv b hi hE
    go_enter Try.func15, Try.ntmps15
    go_wp2_with fail
    refine (HV.out _ HR.out).mono ?_
    rintro e w1 ⟨rfl, hb⟩
    have HB := Lib.hid hb
    clear hb
    go_wp2_with fail
    go_ret2
    exact ⟨_, rfl, Kd.R_nil _ _ _ _ _, HB.out⟩
  · cases b2 : inI tick 0 1100000
    · have hE : expireL l0 tick = ([], 1) := by unfold expireL; rw [b, b2]; rfl
      rw [hE]
      rw [b] at hv
      rw [b2] at hi
      have HV := Lib.hid hv
      have HI := Lib.hid hi
      clear hv b hi b2 hE
      go_enter Try.func15, Try.ntmps15
      go_wp2_with fail
      refine (HV.out _ HR.out).mono ?_
      rintro e w1 ⟨rfl, hb⟩
      have HB := Lib.hid hb
      clear hb
      go_wp2_with fail
      refine (HI.out _).mono ?_
      rintro e w2 ⟨rfl, m, rfl⟩
      go_wp2_with fail
      go_ret2
      exact ⟨_, rfl, Kd.R_nil _ _ _ _ _, below_drewN HB.out _⟩
    · have hE : expireL l0 tick = (aliveL tick l0, 0) := by unfold expireL; rw [b, b2]; rfl
      rw [hE]
      obtain ⟨hl, hone⟩ := valid_all b
      have ht : 0 ≤ tick ∧ tick ≤ 1100000 := by unfold inI at b2; simpa using b2
      rw [b] at hv
      rw [b2] at hi
      have HV := Lib.hid hv
      have HI := Lib.hid hi
      have HONE := Lib.hid hone
      clear hv b hi b2 hE hone
      have hal : (aliveL tick l0).length ≤ 64 := Nat.le_trans (List.length_filter_le _ _) hl
      go_enter Try.func15, Try.ntmps15
      go_wp2_with fail
      refine (HV.out _ HR.out).mono ?_
      rintro e w1 ⟨rfl, hb⟩
      have HB := Lib.hid hb
      clear hb
      go_wp2_with fail
      refine (HI.out _).mono ?_
      rintro e w2 ⟨rfl, m, rfl⟩
      have hB2 : Below w.heap.size w (w1.drewN m) := below_drewN HB.out _
      generalize w1.drewN m = W2 at *
      have HB2 := Lib.hid hB2
      clear hB2
      go_wp2_with fail
      refine (until_calls A0 l0.length c0 tick _).mono ?_
      rintro e w3 ⟨rfl, hw3⟩
      have hbo : Boxed w3 (W2.heap.size + 1) 3 (.int .i64 tick) := by
        rw [hw3]; have := Boxed.new (W2.alloc (.cells #[.slice A0 l0.length c0] 22)) 3 (.int .i64 tick); rwa [World.size_alloc] at this
      have hbl : Boxed w3 W2.heap.size 22 (.slice A0 l0.length c0) := by rw [hw3]; exact (Boxed.new W2 _ _).alloc _
      have hB3 : Below w.heap.size w w3 := by rw [hw3]; exact (HB2.out.alloc HB2.out.size _).alloc (by have := HB2.out.size; simp; omega) _
      have hs3 : w3.heap.size = W2.heap.size + 2 := by rw [hw3]; simp
      have hsz := HB2.out.size
      have hst := until_stops 1 (by omega) W2.heap.size (W2.heap.size + 1) A0 c0 l0 tick w w3 HR.out HONE.out hl ht hB3 (by omega) (by omega) hbl.cell hbo
      have hcol := callsIn_wide.1 (collect_in 3 (by omega) w.heap.size W2.heap.size (W2.heap.size + 1) (aliveL tick l0) w3 (by omega) (by omega) hal (SeqStopsK.fewer hst (by omega)))
      have HCOL := Lib.hid hcol
      have HB3 := Lib.hid hB3
      clear hst hcol hB3 hw3 hbo hbl HB2 HB HI HV
      go_wp2_with fail
      refine HCOL.out.mono ?_
      rintro e w4 ⟨v, rfl, ho, hb4⟩
      have HO := Lib.hid (Kd.R_lower ho (show w.heap.size ≤ w3.heap.size by omega))
      have HB4 := Lib.hid (HB3.out.trans (hb4.mono HB3.out.size))
      clear ho hb4
      go_wp2_with fail
      go_ret2
      exact ⟨_, rfl, HO.out, HB4.out⟩

def expireF (l : List Ls) (tick : Int) : Option (List Ls × Int) := some (expireL l tick)
theorem expire_ext (A0 : Option Addr) (c0 : Nat) (l0 : List Ls) (a1 : Int) (r1 : List Ls) (r2 : Int) (w : World) (hr0 : Kd.C kL w A0 l0.length l0) (hc0 : l0.length ≤ c0) (h : expireF l0 a1 = some (r1, r2)) :
    Calls Try.prog 15 #[.slice A0 l0.length c0, .int .i64 a1] w fun e w' => ∃ v0_ : Value, e = .returned (.tuple #[v0_, .int .i64 r2]) ∧ Kd.R kL 24 w' w.heap.size (fun _ => True) v0_ r1 ∧ Below w.heap.size w w' := by
  have := expire_calls A0 c0 l0 a1 w hr0 hc0
  rw [Option.some.inj h] at this
  exact this
end Go.Proofs.Ytpngiddelhcepaa.LeaseWalk
