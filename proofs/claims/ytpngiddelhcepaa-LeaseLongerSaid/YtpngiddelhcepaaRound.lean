/-
  Inside a round of a range over a function, at the wide fence: a region that draws its order goes as outside.
-/
import Derived.Test.YtpngiddelhcepaaKit
import Derived.StillTailTactics
import Derived.RangeFuncNested
import Derived.RangeFuncBound
import Derived.RangeFuncCalls
import Derived.RangeFuncLeaves
import Derived.TacticsInMore
import Derived.OrdersIn
namespace Go.Proofs.Ytpngiddelhcepaa.Round
open Go.RowKit

theorem rows_wide {n lp : Nat} {P : Program} {row : String} {args : Array Value} {w : World} {R : Value → World → Prop} (h : Rows P row args w R) : RowsIn (Fence.wide.inRound lp) n P row args w R :=
  fun c cs _ => let ⟨v, w', r, s⟩ := h c cs; ⟨v, w', r, stepsIn_wide.2 s⟩

theorem oper_round {lp n : Nat} {P : Program} {o : Oper} {a : Act} {w : World} {K : Act → World → Prop} {Q : Exit → Act → World → Prop} (hd : ∀ c, o.op ≠ .defer c) (h : o.wp P a w K Q) : o.wpIn (Fence.wide.inRound lp) n P a w K Q := by
  refine ⟨fun _ _ => trivial, ?_⟩
  rw [Fence.inRound_round, Oper.semAt_some _ _ _ hd]
  unfold Oper.wp at h
  generalize (execOp a.eval o).run P w = r at *
  cases r with
  | ok x w' =>
    cases x with
    | value v => exact h
    | skip => exact h
    | defer d => exact h
    | enter f args => exact ⟨(fun e => absurd (show false = true from e) (by simp)), CallsIn.inRound lp (callsIn_wide.2 h)⟩
    | row row args => exact ⟨(fun e => absurd (show false = true from e) (by simp)), rows_wide h⟩
    | _ => exact h.elim
  | halt x w' =>
    cases x with
    | panic v => exact h
    | _ => exact h.elim

def noDefer (o : Oper) : Bool := match o.op with | .defer _ => false | _ => true
theorem noDefer_spec {o : Oper} (h : noDefer o = true) : ∀ c, o.op ≠ .defer c := fun c e => by unfold noDefer at h; rw [e] at h; cases h

theorem op_round {lp n : Nat} {P : Program} {ops : Array Oper} {Q : Exit → Act → World → Prop} {i : Nat} {K : Act → World → Prop} {a : Act} {w : World} (hd : ops.all noDefer = true) (hlo : ∀ a w, ¬ Q .outgrown a w) (h : wpOp P ops Q i K a w) : wpOpIn (Fence.wide.inRound lp) n P ops Q i K a w := by
  unfold wpOp at h
  unfold wpOpIn
  cases e : ops[i]? with
  | none => simpa [e] using h
  | some o =>
    simp only [e] at h ⊢
    have ho : noDefer o = true := by
      obtain ⟨hi, rfl⟩ := Array.getElem?_eq_some_iff.1 e
      exact Array.all_eq_true.1 hd i hi
    split
    · rename_i hw
      rw [if_pos hw] at h
      rcases h with h | ⟨_, a', w', h⟩
      · exact oper_round (noDefer_spec ho) h
      · exact (hlo a' w' h).elim
    · rename_i hw
      rw [if_neg hw] at h
      exact ⟨fun _ _ => trivial, h⟩

theorem any_round {lp n : Nat} {P : Program} {md : Region.Mode} {ops : Array Oper} {Q : Exit → Act → World → Prop} (hd : ops.all noDefer = true) (hlo : ∀ a w, ¬ Q .outgrown a w) : ∀ (fuel : Nat) (listed : Array Bool) (a : Act) (w : World), wpAny P md ops Q fuel listed a w → wpAnyIn (Fence.wide.inRound lp) n P md ops Q fuel listed a w
  | 0, _, _, _, h => h
  | fuel + 1, _, _, _, h => ⟨h.1, fun i hi => wpOpIn_mono (any_round hd hlo fuel _) (op_round hd hlo (h.2 i hi))⟩

/-- Reads, and one store behind them. -/
theorem region_tail {lp m id : Nat} {P : Program} {Q : Exit → Act → World → Prop} {a : Act} {w : World} {l : List Oper} (n : Nat) (hm : P.follows .mixedOrders = true) (hd : l.toArray.all noDefer = true) (hlo : ∀ a w, ¬ Q .outgrown a w) (hB : Region.lexTailB .any l.toArray n = true)
    (h : wpStill P l.toArray { w with drawn := w.drawn + 1 } (fun a' => wpList P l.toArray Q (l.drop n) a' { w with drawn := w.drawn + 1 }) (l.take n) a) : (Code.region id l.toArray true).wpIn (Fence.wide.inRound lp) m P Q a w := by
  refine wpIn_region_any hm (any_round hd hlo _ _ _ _ ?_)
  simp only [Region.lexTailB, Bool.and_eq_true, decide_eq_true_eq] at hB
  obtain ⟨⟨⟨⟨h1, h2⟩, h3⟩, h4⟩, h5⟩ := hB
  have e1 : (l.take n).length = n := by have h9 : n < l.length := by simpa using h2
                                        simp; omega
  have e2 : (l.drop n).length = l.toArray.size - n := by simp
  have e3 : n + (l.toArray.size - n) = l.toArray.size := by omega
  have h6 := wpAnyL_lex (md := .any) (g := l.toArray.size - n) h1 h3 h4 h2 (l.take n) 0 (Array.replicate l.toArray.size false) a (fun j hj => by rw [e1] at hj; simp [hj]) (by rw [e1]; omega)
    ⟨by simp, fun j oj _ hl => (by rw [getD_replicate_false] at hl; cases hl), fun t _ ht => getD_in (by simpa using ht) (getD_replicate_false _ _)⟩ (by rw [e1]; exact h5) h
  rw [e1] at h6
  have h7 : ∀ listed a', (Region.seqB .any l.toArray (l.toArray.size - n) n listed = true ∧ wpList P l.toArray Q (l.drop n) a' { w with drawn := w.drawn + 1 }) → wpAny P .any l.toArray Q (l.toArray.size - n) listed a' { w with drawn := w.drawn + 1 } := fun listed a' hL => by
    have := wpAny_of_seq (md := .any) (Q' := Q) (l.drop n) n listed a' { w with drawn := w.drawn + 1 } (fun j => by simp [List.getElem?_drop]) (by rw [e2]; exact hL.1) hL.2
    rwa [e2] at this
  have h8 := wpAny_of_head (Q' := Q) (g := l.toArray.size - n) h7 _ _ _ h6
  rwa [e3] at h8
end Go.Proofs.Ytpngiddelhcepaa.Round
