/-
  The walk of flash.collect over flash.steps' iterator.
-/
import Derived.Test.YtdblbilgnfomaaaFlashB
namespace Go.Proofs.Ytdblbilgnfomaaa.FlashC
open Go.RowKit Go.Shelf Go.Proofs.Ytdblbilgnfomaaa.Kit Go.Proofs.Ytdblbilgnfomaaa.PAll Go.Proofs.Ytdblbilgnfomaaa.Told Go.Proofs.Ytdblbilgnfomaaa.FlashB
open Go.Proofs.YtdblbilgnfomaaaW.PrintWords hiding below_alloc below_drew
set_option linter.unusedVariables false
set_option linter.unusedSimpArgs false
attribute [local go_sem] Oper.semAt_some

abbrev Fl := S24
abbrev kF := k24
def fcs (S : Int) (x : Value × List Int) : List Value := [.int .i64 S, x.1]
def frow (S : Int) (l : List (Value × List Int)) : List Value := l.flatMap (fcs S)
theorem frow_snoc (S : Int) (l : List (Value × List Int)) (x : Value × List Int) : frow S (l ++ [x]) = frow S l ++ fcs S x := by simp [frow]
def mems (S : Int) (l : List (Value × List Int)) : List Fl := l.map fun x => ⟨S, x.2⟩
theorem reps_frow (S : Int) (W : World) (b : Nat) (ok : Nat → Prop) (l : List (Value × List Int)) (h : ∀ x ∈ l, Kd.R (Kd.int .u8) 5 W b ok x.1 x.2) : Reps (kF.M W b ok) 2 (mems S l) (frow S l) := by
  suffices H : ∀ n (l : List (Value × List Int)), l.length = n → (∀ x ∈ l, Kd.R (Kd.int .u8) 5 W b ok x.1 x.2) → Reps (kF.M W b ok) 2 (mems S l) (frow S l) from H _ l rfl h
  intro n
  induction n with
  | zero => intro l hl _; obtain rfl := List.eq_nil_of_length_eq_zero hl; exact Reps.none _ _
  | succ n ih =>
    intro l hl h
    rcases List.eq_nil_or_concat l with rfl | ⟨l', x, rfl⟩
    · simp at hl
    · rw [List.concat_eq_append] at hl h ⊢
      rw [frow_snoc]
      have := (ih l' (by simpa using hl) (fun y hy => h y (List.mem_append_left _ hy))).snoc (p := (⟨S, x.2⟩ : Fl)) (k24_mkM W b ok ⟨S, x.2⟩ (h x (by simp))) rfl
      rw [show mems S (l' ++ [x]) = mems S l' ++ [(⟨S, x.2⟩ : Fl)] by simp [mems]]
      exact this

theorem bytes_kept {W W' : World} {b : Nat} {v : Value} {l : List Int} (h : Kd.R (Kd.int .u8) 5 W b (fun _ => True) v l) (hs : W.heap.size ≤ W'.heap.size) (hm : ∀ k cells, b ≤ k → W.heap[k]? = some (.cells cells 5 (0, 0)) → W'.heap[k]? = W.heap[k]?) : Kd.R (Kd.int .u8) 5 W' b (fun _ => True) v l := by
  refine Kd.R_mono (Kd.R_step (Kd.R_tight rfl h) (fun k hk hlt => ?_)) (fun _ _ => trivial)
  obtain ⟨cells, hc⟩ := Kd.R_typed h k hk.symm
  exact hm k cells (Kd.R_base h k hk.symm) hc

/-- What the loop keeps: the list's box, its row, and of each memory its bytes. -/
def Inv (n1 B0 R0 cap : Nat) (S : Int) (n : Nat) (w : World) (b : Nat) (pre : List (Value × List Int)) (W : World) : Prop :=
  (n1 ≤ b ∧ pre.length ≤ cap) ∧ Boxed W B0 30 (.slice (some ⟨R0, 0, none⟩) pre.length cap) ∧ W.ownsRow n1 24 2 (.slice (some ⟨R0, 0, none⟩) pre.length cap) pre.length (frow S pre) ∧
    (∀ x ∈ pre, x.2.length = n ∧ Kd.R (Kd.int .u8) 5 W b (fun _ => True) x.1 x.2) ∧ Below n1 w W
theorem inv_abides {n1 B0 R0 cap : Nat} {S : Int} {n : Nat} {w : World} {B b : Nat} (h0 : B0 < B) (h1 : R0 < B) (h2 : n1 ≤ B) (hw : n1 ≤ w.heap.size) : AbidesM B b (Inv n1 B0 R0 cap S n w b) := by
  rintro pre X Y row ⟨g1, g2, g3, g4, g5⟩ hg hr
  have ne : ∀ k, k < B → some k ≠ row := fun k hk e => by have := (hr k e.symm).1; omega
  refine ⟨g1, g2.kept hg (ne _ h0), g3.kept hg (.inr (by simpa [Value.ownBlock] using ne _ h1)), fun x hx => ⟨(g4 x hx).1, bytes_kept (g4 x hx).2 hg.size (fun k cells hk hc => hg.block k (blk_lt hc) (fun e => ?_))⟩, ?_⟩
  · rcases (hr k e.symm).2 with h | ⟨o, ho, hoc⟩
    · omega
    · rw [hc] at ho; cases ho; cases hoc
  · exact g5.grown hg (by have := g5.size; omega) (fun k e => by have := (hr k e).1; omega)

set_option maxRecDepth 100000 in
set_option maxHeartbeats 2000000 in
theorem collect_calls (Bf Bm Bb Ba : Nat) (S : Int) (A0 : Option Addr) (c0 : Nat) (l0 : List Int) (at_ : Int) (many : Nat) (gf : Nat) (fs : Array Value) (bc : Int → Int → Int) (w : World)
    (hr0 : Kd.C (Kd.int .u8) w A0 l0.length l0) (hl0 : 1 ≤ l0.length) (hl1 : l0.length ≤ 100000) (hat : 0 ≤ at_) (hm : at_ + many ≤ l0.length)
    (hbf : Bf < w.heap.size) (hbm : Bm < w.heap.size) (hbb : Bb < w.heap.size) (hba : Ba < w.heap.size)
    (hcap : Caps w Bf Bm Bb Ba S A0 c0 l0.length at_ many (.func (.func gf) #[] fs)) (eg : ∀ args w, (callFunc gf args).run Try.prog w = .ok (.enter gf args) w)
    (hbc : ∀ (i old : Int) (W : World), 0 ≤ i → i < many → Below w.heap.size w W → Calls Try.prog gf (#[.int .i64 i, .int .u8 old] ++ fs) W fun e W' => e = .returned (.int .u8 (bc i old)) ∧ W' = W) :
    Calls Try.prog 27 #[.func (.func 33) #[] #[.pointer (some ⟨Bf, 0, none⟩), .pointer (some ⟨Bm, 0, none⟩), .pointer (some ⟨Bb, 0, none⟩), .pointer (some ⟨Ba, 0, none⟩)], .int .i64 ((many : Int) + 1)] w
      fun e w' => ∃ v : Value, e = .returned v ∧ Kd.R kF 24 w' w.heap.size (fun _ => True) v ((List.range (many + 1)).map fun i => (⟨S, stL bc at_ l0 i⟩ : Fl)) ∧ Below w.heap.size w w' := by
  obtain ⟨i0, hi, hz0, hz1', hz2⟩ := info_parts info24
  have HR0 := Lib.hid hr0
  have HCAP := Lib.hid hcap
  have HBC := Lib.hid hbc
  clear hr0 hcap hbc
  refine (callsIn_wide (n := 4)).1 ?_
  refine callsIn_of_wp_marks Try.func27 rfl trivial ?_ rfl
  simp only [Try.ntmps27, List.size_toArray, List.length_cons, List.length_nil, Nat.reduceAdd, Nat.reduceSub, Array.replicate_succ, Array.replicate_zero, List.push_toArray, List.append_toArray, List.nil_append, List.cons_append]
  gi_wp2_with (gi_at_make; refine wpListIn_make_own _ rfl _ _ 30 rfl w.heap.size 24 i0 _ 2 Try.underlying30 hi hz0 hz1' .i64 .i64 _ (many + 1) rfl rfl (by push_cast; rfl) (by rw [hz2]; omega) (by unfold maxLen; omega) (Nat.le_refl _) ?_; intro w1 hown hgr)
  have hz1 : w.heap.size < w1.heap.size := by
    rcases hown.2 with ⟨h, _⟩ | ⟨g, cap, cur, h, _, hg, _⟩
    · cases h
    · cases h; exact (Array.getElem?_eq_some_iff.1 hg).1
  have hb1 : Below w.heap.size w w1 := ⟨hgr.os, hgr.tape, hgr.output, hgr.size, fun k hk => hgr.block k hk (by simp)⟩
  have bO := Boxed.new w1 30 (.slice (some ⟨w.heap.size, 0, none⟩) 0 (many + 1))
  have hB0 : Below w.heap.size w (w1.alloc (.cells #[.slice (some ⟨w.heap.size, 0, none⟩) 0 (many + 1)] 30)) := hb1.alloc (by omega) _
  have hown0 := hown.alloc (.cells #[.slice (some ⟨w.heap.size, 0, none⟩) 0 (many + 1)] 30)
  obtain ⟨W0, hW0⟩ : ∃ W0, w1.alloc (.cells #[.slice (some ⟨w.heap.size, 0, none⟩) 0 (many + 1)] 30) = W0 := ⟨_, rfl⟩
  have hs0 : W0.heap.size = w1.heap.size + 1 := by rw [← hW0]; simp
  rw [hW0] at bO hB0 hown0 ⊢
  have hseq := steps1_told 3 (by omega) Bf Bm Bb Ba w1.heap.size w.heap.size S A0 c0 l0 at_ many gf fs bc w W0 HR0.out hl0 hl1 hat hm hbf hbm hbb hba (by omega) (by omega) hB0 (HCAP.out.below hbf hbm hbb hba hB0) eg HBC.out
  have HSEQ := Lib.hid hseq
  have HB0 := Lib.hid hB0
  have HBO := Lib.hid bO
  have HOWN0 := Lib.hid hown0
  generalize w1.heap.size = B0 at *
  clear hown hgr hb1 hseq hB0 bO hown0
  refine wpIn_rangeFunc_told False rfl (by omega) (gf := 33) (lb := #[.pointer (some ⟨Bf, 0, none⟩), .pointer (some ⟨Bm, 0, none⟩), .pointer (some ⟨Bb, 0, none⟩), .pointer (some ⟨Ba, 0, none⟩)]) rfl trivial (enters_of Try.func33 (by kernel_rfl) rfl)
    HSEQ.out Kp.trans (Kp.put (by omega)) (Below.refl _ _) (fun _ => rfl)
    (Inv w.heap.size B0 w.heap.size (many + 1) S l0.length w) (fun _ _ _ _ => False)
    (fun b => inv_abides (by omega) (by omega) (by omega) (Nat.le_refl _)) (fun _ _ _ _ _ _ hs _ _ => hs) (fun _ _ _ _ _ h => h)
    (fun b hb => ⟨⟨by omega, Nat.zero_le _⟩, HBO.out, HOWN0.out, (fun x hx => by cases hx), HB0.out⟩)
    (fun b pre x a' W => ∃ Bx, b ≤ Bx ∧ W0.heap.size ≤ Bx ∧ Frc l0.length many b pre x W ∧ W.heap[Bx]? = some (.cells #[.int .i64 S, x.1] 24 (0, 0)) ∧
      a' = { tmps := #[.func (.func 33) #[] #[.pointer (some ⟨Bf, 0, none⟩), .pointer (some ⟨Bm, 0, none⟩), .pointer (some ⟨Bb, 0, none⟩), .pointer (some ⟨Ba, 0, none⟩)], .int .i64 ((many : Int) + 1), undef, undef, .slice none 0 0, .pointer (some ⟨B0, 0, none⟩), .pointer (some ⟨Bx, 0, none⟩), .int .i64 ((many : Int) + 1), .slice (some ⟨w.heap.size, 0, none⟩) 0 (many + 1), .func (.func 33) #[] #[.pointer (some ⟨Bf, 0, none⟩), .pointer (some ⟨Bm, 0, none⟩), .pointer (some ⟨Bb, 0, none⟩), .pointer (some ⟨Ba, 0, none⟩)], .agg #[.int .i64 S, x.1], undef, undef, undef, undef, undef], defers := [] })
    (fun b pre x a' _ X Y row hs hg hr => by
      obtain ⟨Bx, h1, h2, ⟨f1, f2, f3, f4⟩, h4, h5⟩ := hs
      have hx : Y.heap[Bx]? = _ := (hg.block Bx (blk_lt h4) (fun e => by
        rcases (hr Bx e.symm).2 with h | ⟨o, ho, hoc⟩
        · omega
        · rw [h4] at ho; cases ho; cases hoc)).trans h4
      exact ⟨Bx, h1, h2, ⟨f1, Nat.le_trans f2 hg.size, f3, bytes_kept f4 hg.size (fun k cells hk hc => hg.block k (blk_lt hc) (fun e => by
        rcases (hr k e.symm).2 with h | ⟨o, ho, hoc⟩
        · omega
        · rw [hc] at ho; cases ho; cases hoc))⟩, hx, h5⟩)
    ?assign ?body ?done ?stop
  case assign =>
    rintro l b pre ⟨xv, xl⟩ W K hb hI ⟨f1, f2, f3, f4⟩ hK
    dsimp only at f3 f4 ⊢
    obtain ⟨A2, cp2, rfl⟩ := Kd.R_slice f4
    have HKK := Lib.hid hK
    have HII := Lib.hid hI
    have HF4 := Lib.hid f4
    have HF3 := Lib.hid f3
    clear hK hI f4 f3
    gi_wp2
    have hI2 : Inv w.heap.size B0 w.heap.size (many + 1) S l0.length w b pre (W.alloc (.cells #[.int .i64 S, .slice A2 xl.length cp2] 24)) :=
      (inv_abides (B := W0.heap.size) (by omega) (by omega) (by omega) (Nat.le_refl _)).alloc _ HII.out
    refine HKK.out _ _ ((KeepsOthers.alloc _ _).from _) ⟨(Below.refl _ W).alloc (by omega) _, fun k o hk _ _ _ => blk_alloc hk _⟩ hI2 ⟨W.heap.size, f2, by omega, ⟨f1, by simp; omega, HF3.out, ?_⟩, blk_new _ _, rfl⟩
    exact bytes_kept HF4.out (by simp) (fun k cells hk hc => Below.heap_alloc _ _ _ (blk_lt hc))
  case body =>
    rintro l b pre ⟨xv, xl⟩ a' W hl_ ⟨r, hr⟩ hb ⟨⟨g6, g1⟩, g2, g3, g4, g5⟩ ⟨Bx, hBx, hBx0, ⟨f1, f2, f3, f4⟩, hX, rfl⟩
    dsimp only at f3 f4 hX ⊢
    obtain ⟨A2, cp2, rfl⟩ := Kd.R_slice f4
    have hc := g2.cell
    have hx0 : W.cell? ⟨Bx, 0, none⟩ = some (.int .i64 S) := by rw [blk_cell hX]; rfl
    have hx1 : W.cell? ⟨Bx, 1, none⟩ = some (.slice A2 xl.length cp2) := by rw [blk_cell hX]; rfl
    have HG4 := Lib.hid g4
    have HF4 := Lib.hid f4
    have HF3 := Lib.hid f3
    have HG2 := Lib.hid g2
    have HG3 := Lib.hid g3
    have HX := Lib.hid hX
    have hsz := g5.size
    clear g4 f4 f3 hX g2 g3
    gi_wp2_with (gi_at_builtin; refine wpListIn_append_fits _ rfl _ _ 30 rfl w.heap.size 24 i0 2 Try.underlying30 hi hz1' w.heap.size pre.length (many + 1) (frow S pre) rfl (HG3.out.alloc _) ⟨W.heap.size, 0, none⟩ 1 1 (fcs S (.slice A2 xl.length cp2, xl)) rfl rfl (World.news_of_block (cs := #[.int .i64 S, .slice A2 xl.length cp2]) (blk_new W _)) (by simp [Value.oneCell', fcs]) (by omega) ?_; intro w2 hown2 hgrow2; obtain ⟨hv1, hv2, hr2, hk2, hb2⟩ := HG2.out.appended (by decide) HG3.out hsz (by omega) hown2 hgrow2; have hc1 := hv1.cell; have hf1 := hv1.frozen)
    have hkp : ∀ k o, W.heap[k]? = some o → o.isCells = true → k ≠ B0 → k ≠ w.heap.size → (w2.setCell ⟨B0, 0, none⟩ (.slice (some ⟨w.heap.size, 0, none⟩) (pre.length + 1) (many + 1))).heap[k]? = some o := fun k o hk _ h0 h1 =>
      (Below.heap_setCell _ _ _ _ h0).trans ((hgrow2.block k (by have := (Array.getElem?_eq_some_iff.1 hk).1; simp; omega) (fun e => h1 (by cases e; rfl))).trans (blk_alloc hk _))
    have hby : ∀ (v : Value) (l : List Int), Kd.R (Kd.int .u8) 5 W b (fun _ => True) v l → Kd.R (Kd.int .u8) 5 (w2.setCell ⟨B0, 0, none⟩ (.slice (some ⟨w.heap.size, 0, none⟩) (pre.length + 1) (many + 1))) b (fun _ => True) v l := fun v l h =>
      bytes_kept h hb2.size (fun k cells hk hcc => (hkp k _ hcc rfl (by omega) (by omega)).trans hcc.symm)
    refine ⟨hk2.from _, ⟨hb2, hkp⟩, ⟨g6, ?_⟩, ?_, ?_, ?_, g5.trans hb2⟩
    · simp; omega
    · simpa using hv2
    · rw [frow_snoc]; simpa using hr2
    · intro y hy
      rcases List.mem_append.1 hy with hy | hy
      · exact ⟨(HG4.out y hy).1, hby _ _ (HG4.out y hy).2⟩
      · obtain rfl := List.mem_singleton.1 hy
        exact ⟨HF3.out, hby _ _ HF4.out⟩
  case done =>
    rintro D b zs W hD hzs ⟨⟨g6, g1⟩, g2, g3, g4, g5⟩ hK
    have hc := g2.cell
    have HZS := Lib.hid hzs
    have HG4 := Lib.hid g4
    have HG2 := Lib.hid g2
    have HG3 := Lib.hid g3
    clear hzs g2 g3 g4
    gi_wp2
    refine ⟨by simp, .inl ⟨_, _, rfl, run_takeDeferred hK, ?_⟩⟩
    refine ⟨_, results_tmp rfl _ _ _, _, rfl, ?_, g5.trans (belowK_b (w := w) (Nat.le_refl _) W D _ _ (by omega) hK rfl rfl)⟩
    have e : ((List.range (many + 1)).map fun i => (⟨S, stL bc at_ l0 i⟩ : Fl)) = mems S zs := by
      have : mems S zs = (zs.map (·.2)).map fun l => (⟨S, l⟩ : Fl) := by simp [mems]
      rw [this, HZS.out, List.map_map]
      rfl
    rw [e]
    refine ⟨fun _ _ => trivial, frow S zs, ?_, reps_frow S _ _ _ zs (fun x hx => ?_)⟩
    · have := ownsRow_putObj HG3.out (.deferred none) hK rfl
      rwa [show (mems S zs).length = zs.length by simp [mems]]
    · refine Kd.R_lower (base := b) ?_ g6
      have h1 := bytes_kept (W' := W.putObj D (.deferred none)) (HG4.out x hx).2 (by simp) (fun k cells hk hcc => World.putObj_heap_other (fun e => by subst e; rw [hK] at hcc; cases hcc))
      refine Kd.R_mono (Kd.R_tight rfl h1) (fun k hk => ⟨trivial, fun e => ?_⟩)
      obtain ⟨cells, hcc⟩ := Kd.R_typed h1 k hk.symm
      obtain rfl : k = w.heap.size := by simpa [Value.ownBlock] using e
      rcases (ownsRow_putObj HG3.out (.deferred none) hK rfl).2 with ⟨h, _⟩ | ⟨g, cap, cur, h, _, hg, _⟩
      · cases h
      · cases h
        rw [hg] at hcc
        cases hcc
  case stop =>
    rintro D b c pre W _ _ h _
    exact h.elim
end Go.Proofs.Ytdblbilgnfomaaa.FlashC
