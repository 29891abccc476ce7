/-
  A range over a function whose iterator TELLS something of the world with each element (Fr: 'its bytes lie here'): the kit's law wpIn_rangeFunc_ownH, with that word handed to the loop's assignment.
-/
import Derived.Test.YtdblbilgnfomaaaKit
import Derived.RangeFuncNested
import Derived.RangeFuncBound
import Derived.RangeFuncCalls
import Derived.RangeFuncLeaves
namespace Go.Proofs.Ytdblbilgnfomaaa.Told
open Go.RowKit
set_option linter.unusedVariables false

/-- What an iterator may turn between two rounds: walks' objects laid since its call began (at B), and its own blocks, those from B to b. -/
def AbidesM {β : Type} (B b : Nat) (J : β → World → Prop) : Prop :=
  ∀ s W W' row, J s W → W.grownBy W' row → (∀ r, row = some r → B ≤ r ∧ (r < b ∨ ∃ o : Obj, W.heap[r]? = some o ∧ o.isCells = false)) → J s W'
theorem AbidesM.alloc {β : Type} {B b : Nat} {I : β → World → Prop} (h : AbidesM B b I) {s : β} {W : World} (o : Obj) (hs : I s W) : I s (W.alloc o) := h s W _ none hs (World.grownBy_alloc W o none) (fun r e => by cases e)
theorem AbidesM.below {β : Type} {B b : Nat} {I : β → World → Prop} (h : AbidesM B b I) {s : β} {W W' : World} (hs : I s W) (hb : Below W.heap.size W W') : I s W' := h s W _ none hs ⟨hb.os, hb.tape, hb.output, hb.size, fun k hk _ => hb.block k hk⟩ (fun r e => by cases e)
theorem AbidesM.putObj {β : Type} {B b : Nat} {I : β → World → Prop} (h : AbidesM B b I) {s : β} {W : World} {l : Nat} {o : Obj} (o' : Obj) (hs : I s W) (hB : B ≤ l) (hl : W.heap[l]? = some o) (ho : o.isCells = false) : I s (W.putObj l o') :=
  h s W _ (some l) hs (grownBy_putObj' W l o') (fun r e => by cases e; exact ⟨hB, .inr ⟨o, hl, ho⟩⟩)
/-- A store into a block of the iterator's own. -/
theorem AbidesM.set {β : Type} {B b : Nat} {I : β → World → Prop} (h : AbidesM B b I) {s : β} {W : World} (g j : Nat) (v : Value) (hs : I s W) (h0 : B ≤ g) (h1 : g < b) : I s (W.setCell ⟨g, j, none⟩ v) :=
  h s W _ (some g) hs ⟨rfl, rfl, rfl, by rw [World.size_setCell]; exact Nat.le_refl _, fun k _ hk => Below.heap_setCell _ _ _ k (fun e => hk (by rw [e]))⟩ (fun r e => by cases e; exact ⟨h0, .inl h1⟩)

/-- The contract of an iterator that tells Fr of each element, in the world in which it hands it on; b: the end of the blocks that it may write; st: whether a round may say 'no more'. -/
def SeqTold (st : Prop) {α : Type} (F : Fence) (n : Nat) (P : Program) (g : Nat) (lb : Array Value) (encs : α → Array Value) (Fr : Nat → List α → α → World → Prop) (Kp : World → World → Prop) (S Sp : List α → Prop) (w : World) : Prop :=
  ∀ (l : Nat) (J Jx : Nat → List α → World → Prop) (W : World), Below w.heap.size w W → (∀ b, AbidesM W.heap.size b (J b)) → (∀ b, AbidesM W.heap.size b (Jx b)) → (¬ st → ∀ b pre W', ¬ Jx b pre W') →
    (∀ b pre x W1, W.heap.size ≤ b → J b pre W1 → Fr b pre x W1 → YieldAt F (n - 1) P l (encs x) W1 fun e W' =>
      (e = .returned (.bool true) ∧ J b (pre ++ [x]) W' ∧ Kp W1 W') ∨ (e = .returned (.bool false) ∧ Jx b (pre ++ [x]) W')) →
    (∀ b, W.heap.size ≤ b → J b [] W) →
    CallsIn F n P g (#[.func (.yield l) #[] #[]] ++ lb) W fun e W' => (∃ v, e = .returned v) ∧ ∃ b, (∃ xs, S xs ∧ J b xs W') ∨ (∃ pre, Sp pre ∧ Jx b pre W')

theorem wpIn_rangeFunc_told (st : Prop) {F : Fence} {n : Nat} {P : Program} {α : Type} {g : Operand} {ps : Array Tmp} {assign body : Code} {Q : Exit → Act → World → Prop} {a : Act} {w : World}
    (hro : F.round = none) (h1 : 1 ≤ n) {gf : Nat} {lb : Array Value} (hg : a.eval g = .func (.func gf) #[] lb) (hFg : F.fn gf) (eg : ∀ args w, (callFunc gf args).run P w = .ok (.enter gf args) w)
    {encs : α → Array Value} {Fr : Nat → List α → α → World → Prop} {Kp : World → World → Prop} {S Sp : List α → Prop} {w0 : World} (hseq : SeqTold st F (n - 1) P gf lb encs Fr Kp S Sp w0)
    (hKt : ∀ {A B C : World}, Kp A B → Kp B C → Kp A C) (hKb : ∀ (W : World) (l : Nat) (o o' : Obj), w.heap.size ≤ l → W.heap[l]? = some o → o.isCells = false → o.isWalk = false → Kp W (W.putObj l o')) (hb0 : Below w0.heap.size w0 w) (hps : ∀ x, (encs x).size = ps.size)
    (I : Nat → List α → World → Prop) (Ix : Nat → Code → List α → World → Prop) (hI : ∀ b, AbidesM w.heap.size b (I b)) (hIx : ∀ b c, AbidesM w.heap.size b (Ix b c)) (hst : ¬ st → ∀ b c pre W, ¬ Ix b c pre W) (h0 : ∀ b, w.heap.size + 2 ≤ b → I b [] w) (Ax : Nat → List α → α → Act → World → Prop) (hAx : ∀ b pre x a', AbidesM w.heap.size b (fun (_ : Unit) W => Ax b pre x a' W))
    (hassign : ∀ (l b : Nat) (pre : List α) (x : α) (W : World) (K : Act → World → Prop), w.heap.size + 2 ≤ b → I b pre W → Fr b pre x W → (∀ a' W', KeepsFrom w.heap.size W W' → Kp W W' → I b pre W' → Ax b pre x a' W' → K a' W') →
      assign.wpIn (F.inRound l) (n - 1 - 1) P (Exit.then K (fun _ _ _ => False)) { tmps := (ps.zip (encs x)).foldl (fun t (p, v) => t.setIfInBounds p v) a.tmps, defers := [] } W)
    (hbody : ∀ (l b : Nat) (pre : List α) (x : α) (a' : Act) (W : World), w.heap.size ≤ l → (∃ r, W.heap[l]? = some (.loop r)) → w.heap.size + 2 ≤ b → I b pre W → Ax b pre x a' W → body.wpIn (F.inRound l) (n - 1 - 1) P (ownPostG w.heap.size Kp (I b) (Ix b) (pre ++ [x]) W) a' W)
    (hdone : ∀ (D b : Nat) (xs : List α) (W : World), w.heap.size ≤ D → S xs → I b xs W → W.heap[D]? = some (.deferred (some [])) → Q .normal { a with defers := { target := .collected D, args := #[] } :: a.defers } W)
    (hstop : ∀ (D b : Nat) (c : Code) (pre : List α) (W : World), w.heap.size ≤ D → Sp pre → Ix b c pre W → W.heap[D]? = some (.deferred (some [])) → c.wpIn F n P Q { a with defers := { target := .collected D, args := #[] } :: a.defers } W) :
    (Code.rangeFunc g ps assign body).wpIn F n P Q a w := by
  refine wpIn_rangeFunc fun fn hfn => ?_
  rw [hro]
  -- the loop's own two blocks: D (deferred calls), R (its record)
  let D := w.heap.size
  let R := w.heap.size + 1
  obtain ⟨rec, hrec⟩ : ∃ rec : LoopState → Option Code → Loop, rec = fun st pe => { state := st, pending := pe, fn, tmps := a.tmps, params := ps, assign, body, defers := D } := ⟨_, rfl⟩
  obtain ⟨W1, hW1⟩ : ∃ W1, (w.alloc (.deferred (some []))).alloc (.loop (rec .ready none)) = W1 := ⟨_, rfl⟩
  have hs1 : W1.heap.size = w.heap.size + 2 := by rw [← hW1]; simp
  have hR1 : W1.heap[R]? = some (.loop (rec .ready none)) := by
    have := World.alloc_heap_new (w.alloc (.deferred (some []))) (.loop (rec .ready none))
    rw [World.size_alloc, hW1] at this; exact this
  have hD1 : W1.heap[D]? = some (.deferred (some [])) := by
    rw [← hW1]; exact (Below.heap_alloc _ _ _ (by simp [D])).trans (World.alloc_heap_new w _)
  have hI1 : ∀ b, W1.heap.size ≤ b → I b [] W1 := fun b hb => by rw [← hW1]; exact (hI b).alloc _ ((hI b).alloc _ (h0 b (by omega)))
  have hb1 : Below w0.heap.size w0 W1 := by
    rw [← hW1]; exact hb0.trans ((((Below.refl _ w).alloc (Nat.le_refl _) _).alloc (by simp) _).mono hb0.size)
  have loopJ : ∀ b, AbidesM W1.heap.size b (fun pre W => I b pre W ∧ W.heap[R]? = some (.loop (rec .ready none)) ∧ W.heap[D]? = some (.deferred (some []))) := fun b s A B row hs hg hr =>
    ⟨hI b s A B row hs.1 hg (fun r e => ⟨by have := (hr r e).1; omega, (hr r e).2⟩), (hg.block R (Array.getElem?_eq_some_iff.1 hs.2.1).1 (fun e => by have := (hr R e.symm).1; omega)).trans hs.2.1, (hg.block D (Array.getElem?_eq_some_iff.1 hs.2.2).1 (fun e => by have := (hr D e.symm).1; omega)).trans hs.2.2⟩
  have loopX : ∀ b, AbidesM W1.heap.size b (fun pre W => ∃ c, Ix b c pre W ∧ W.heap[R]? = some (.loop (rec .done (some c))) ∧ W.heap[D]? = some (.deferred (some []))) := fun b s A B row hs hg hr => by
    obtain ⟨c, hc, hl, hk⟩ := hs
    exact ⟨c, hIx b c s A B row hc hg (fun r e => ⟨by have := (hr r e).1; omega, (hr r e).2⟩), (hg.block R (Array.getElem?_eq_some_iff.1 hl).1 (fun e => by have := (hr R e.symm).1; omega)).trans hl, (hg.block D (Array.getElem?_eq_some_iff.1 hk).1 (fun e => by have := (hr D e.symm).1; omega)).trans hk⟩
  refine ⟨R, [{ target := .collected D, args := #[] }], W1, { target := .fn (.func gf) lb, args := #[.func (.yield R) #[] #[]] }, W1, gf, #[.func (.yield R) #[] #[]] ++ lb, W1, ?_, ?_, ?_, ?_, fun _ => h1, ?_⟩
  · rw [← hW1, hrec]; exact run_enterLoop_outer _ _ _ _ _
  · simp only [resolve, hg]
    simp [go_sem]
  · intro f' hf'; simp [Target.leads] at hf'; subst hf'; exact hFg
  · simp [invoke, go_sem, eg]
  refine (hseq R _ _ W1 hb1 loopJ loopX (fun hn b pre W' ⟨c, hc, _⟩ => hst hn b c pre W' hc) ?round (fun b hb => ⟨hI1 b hb, hR1, hD1⟩)).mono ?_
  case round =>
    rintro b pre x W hb ⟨hi, hl, hk⟩ hfr
    have hy := run_yield (P := P) (args := encs x) hl (by rw [hrec]; exact hps x)
    rw [hrec] at hy
    refine ⟨fn, _, assign, body, hy, roundIn_of_wpIn hfn (hassign _ b pre x W _ (by omega) hi hfr ?_)⟩
    intro a' V hkf hkp hiV hax
    have hlV := hkf.same _ _ (show w.heap.size ≤ R by simp [R]) hl rfl
    have hkV := hkf.same _ _ (Nat.le_refl _) hk rfl
    have hlt : R < V.heap.size := (Array.getElem?_eq_some_iff.1 hlV).1
    refine ⟨_, run_beginRound hlV (by rw [hrec]), ?_⟩
    obtain ⟨V2, hV2⟩ : ∃ V2, V.putObj R (.loop { rec .ready none with state := .busy }) = V2 := ⟨_, rfl⟩
    rw [hV2]
    have hl2 : V2.heap[R]? = some (.loop { rec .ready none with state := .busy }) := by rw [← hV2]; exact World.putObj_heap_same hlt
    have hk2 : V2.heap[D]? = some (.deferred (some [])) := by rw [← hV2]; exact (World.putObj_heap_other (by simp [D, R])).trans hkV
    have hw2 : Kp V V2 := by rw [← hV2]; exact hKb _ _ _ _ (by simp [R]) hlV rfl rfl
    have hi2 : I b pre V2 := by rw [← hV2]; exact (hI b).putObj _ hiV (by simp [R]) hlV rfl
    have ha2 : Ax b pre x a' V2 := by rw [← hV2]; exact (hAx b pre x a').putObj (s := ()) _ hax (by simp [R]) hlV rfl
    refine wpIn_mono (hbody R b pre x a' V2 (by simp [R]) ⟨_, hl2⟩ (by omega) hi2 ha2) ?_
    -- the round is over: its record is put back
    have back : ∀ (jump : Option Code) (V3 : World), KeepsFrom w.heap.size V2 V3 → ∃ o, V3.heap[R]? = some o ∧ o.isCells = false ∧ o.isWalk = false ∧
        (Instr.endRound R jump).run P V3 = .ok (.bool jump.isNone) (V3.putObj R (.loop (rec (if jump.isNone then .ready else .done) jump))) ∧
        (V3.putObj R (.loop (rec (if jump.isNone then .ready else .done) jump))).heap[R]? = some (.loop (rec (if jump.isNone then .ready else .done) jump)) ∧
        (V3.putObj R (.loop (rec (if jump.isNone then .ready else .done) jump))).heap[D]? = some (.deferred (some [])) := fun jump V3 hk3 => by
      have hl3 := hk3.same _ _ (show w.heap.size ≤ R by simp [R]) hl2 rfl
      have he := run_endRound (P := P) jump hl3
      refine ⟨_, hl3, rfl, rfl, ?_, World.putObj_heap_same (Array.getElem?_eq_some_iff.1 hl3).1, (World.putObj_heap_other (by simp [D, R])).trans (hk3.same _ _ (Nat.le_refl _) hk2 rfl)⟩
      rw [hrec] at he ⊢
      exact he
    have left : ∀ (c : Code) (V3 : World), KeepsFrom w.heap.size V2 V3 → Ix b c (pre ++ [x]) V3 → ∃ c', Ix b c' (pre ++ [x]) (V3.putObj R (.loop (rec .done (some c)))) ∧ (V3.putObj R (.loop (rec .done (some c)))).heap[R]? = some (.loop (rec .done (some c'))) ∧ (V3.putObj R (.loop (rec .done (some c)))).heap[D]? = some (.deferred (some [])) := fun c V3 hk3 hi3 => by
      obtain ⟨o, ho, hoc, _, _, h4, h5⟩ := back (some c) V3 hk3
      exact ⟨c, (hIx b c).putObj _ hi3 (by simp [R]) ho hoc, h4, h5⟩
    rintro e a3 V3 hp
    cases e with
    | normal =>
      obtain ⟨hk3, hkp3, hi3⟩ := hp
      obtain ⟨o, ho, hoc, how, hr, h4, h5⟩ := back none V3 hk3
      exact ⟨_, _, hr, .inl ⟨rfl, ⟨(hI b).putObj _ hi3 (by simp [R]) ho hoc, h4, h5⟩, hKt hkp (hKt (hKt hw2 hkp3) (hKb _ _ _ _ (by simp [R]) ho hoc how))⟩⟩
    | ret => obtain ⟨hk3, hi3⟩ := hp; obtain ⟨o, ho, hoc, how, hr, h4, h5⟩ := back (some .ret) V3 hk3; exact ⟨_, _, hr, .inr ⟨rfl, left .ret V3 hk3 hi3⟩⟩
    | exit id => obtain ⟨hk3, hi3⟩ := hp; obtain ⟨o, ho, hoc, how, hr, h4, h5⟩ := back (some (.exit id)) V3 hk3; exact ⟨_, _, hr, .inr ⟨rfl, left (.exit id) V3 hk3 hi3⟩⟩
    | goto t => obtain ⟨hk3, hi3⟩ := hp; obtain ⟨o, ho, hoc, how, hr, h4, h5⟩ := back (some (.goto t)) V3 hk3; exact ⟨_, _, hr, .inr ⟨rfl, left (.goto t) V3 hk3 hi3⟩⟩
    | panic ch => exact hp.elim
    | outgrown => exact hp.elim
  · rintro e W2 ⟨⟨v, rfl⟩, b, (⟨xs, hS, hi, hl, hk⟩ | ⟨pre, hSp, c, hi, hl, hk⟩)⟩
    · exact ⟨none, _, by have := run_endLoop (P := P) hl (by rw [hrec]; simp); rw [hrec] at this; exact this, hdone _ b xs _ (Nat.le_refl _) hS ((hI b).putObj _ hi (by simp [R]) hl rfl) ((World.putObj_heap_other (show D ≠ R by simp [D, R])).trans hk)⟩
    · exact ⟨some c, _, by have := run_endLoop (P := P) hl (by rw [hrec]; simp); rw [hrec] at this; exact this, hstop _ b c pre _ (Nat.le_refl _) hSp ((hIx b c).putObj _ hi (by simp [R]) hl rfl) ((World.putObj_heap_other (show D ≠ R by simp [D, R])).trans hk)⟩
end Go.Proofs.Ytdblbilgnfomaaa.Told
