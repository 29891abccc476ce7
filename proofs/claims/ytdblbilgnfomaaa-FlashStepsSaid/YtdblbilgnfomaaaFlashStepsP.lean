/-
  Two memories that follow one another: what 'one' says of them.
-/
import Derived.Test.YtdblbilgnfomaaaPAllx11
import Derived.Test.YtdblbilgnfomaaaPAllx3
import Derived.Test.YtdblbilgnfomaaaFlashBits
namespace Go.Proofs.Ytdblbilgnfomaaa.FlashSteps
open Go.RowKit Go.Proofs.Ytdblbilgnfomaaa.PAll Go.Proofs.Ytdblbilgnfomaaa.FlashB Go.Proofs.Ytdblbilgnfomaaa.FlashC Go.Proofs.Ytdblbilgnfomaaa.FlashE Go.Proofs.Ytdblbilgnfomaaa.FlashPlain Go.Proofs.YtdblbilgnfomaaaW.PrintWords Go.Proofs.YtdblbilgnfomaaaW.PrintLast
set_option linter.unusedSimpArgs false
set_option linter.unusedVariables false

theorem one_ok (a b : List Int) (q : Nat) (hl : b.length = a.length) (hn : a.length ≤ 300) (hq : q < a.length) (hd : ∀ j : Nat, j < a.length → j ≠ q → rd a (j : Int) = rd b (j : Int)) :
    Ev (fun k => chargeparklaw17_one.f k a b) (if rd a (q : Int) = rd b (q : Int) then (0, -1) else (1, (q : Int))) := by
  have loop : ∀ e : Nat, ∀ i : Nat, ∀ m t : Int, i + e = a.length → (m, t) = (if q < i ∧ rd a (q : Int) ≠ rd b (q : Int) then ((1 : Int), (q : Int)) else (0, -1)) →
      Ev (fun k => chargeparklaw17_one.l0 k a b m t (a.length : Int) (i : Int)) (if rd a (q : Int) = rd b (q : Int) then (0, -1) else (1, (q : Int))) := by
    intro e
    induction e with
    | zero =>
      intro i m t hi hmt
      refine evs ?_
      simp only [chargeparklaw17_one.l0, if_neg (show ¬ (i : Int) < (a.length : Int) by omega), hmt]
      by_cases c : rd a (q : Int) = rd b (q : Int)
      · rw [if_pos c, if_neg (fun h => h.2 c)]; exact Ev.now _
      · rw [if_neg c, if_pos ⟨by omega, c⟩]; exact Ev.now _
    | succ e ih =>
      intro i m t hi hmt
      have hw : wrap64 ((i : Int) + 1) = ((i + 1 : Nat) : Int) := by rw [fp_wrap (by omega) (by omega)]; omega
      have n1 : (i : Int) < (a.length : Int) := by omega
      have n2 : (i : Int) < (b.length : Int) := by omega
      have n3 : (0 : Int) ≤ (i : Int) := by omega
      refine evs ?_
      simp only [chargeparklaw17_one.l0, if_pos n1, if_pos n2, if_pos n3, hw]
      by_cases c : i = q
      · subst c
        rw [if_neg (fun h => by omega)] at hmt
        obtain ⟨rfl, rfl⟩ := Prod.mk.inj hmt
        by_cases c2 : rd a (i : Int) = rd b (i : Int)
        · simp only [if_pos c2]
          have := ih (i + 1) 0 (-1) (by omega) (by rw [if_neg (fun h => h.2 c2)])
          rwa [if_pos c2] at this
        · simp only [if_neg c2]
          have := ih (i + 1) 1 (i : Int) (by omega) (by rw [if_pos ⟨by omega, c2⟩])
          rw [if_neg c2] at this
          have hz : wrap64 (0 + 1) = 1 := by rw [fp_wrap (by omega) (by omega)]; rfl
          rw [hz]
          exact this
      · simp only [if_pos (hd i (by omega) c)]
        refine ih (i + 1) m t (by omega) ?_
        rw [hmt]
        by_cases c3 : q < i ∧ rd a (q : Int) ≠ rd b (q : Int)
        · rw [if_pos c3, if_pos ⟨by omega, c3.2⟩]
        · rw [if_neg c3, if_neg (fun h => c3 ⟨by omega, h.2⟩)]
  unfold chargeparklaw17_one.f
  exact loop a.length 0 0 (-1) (by omega) (by rw [if_neg (fun h => by omega)])

theorem step_rd (bc : Int → Int → Int) (at_ : Int) (l : List Int) (i : Nat) (hat : 0 ≤ at_) (hm : at_ + (i : Int) < l.length) (j : Nat) (hj : j < l.length) :
    rd (stL bc at_ l (i + 1)) (j : Int) = if (j : Int) = at_ + i then bc i (rd (stL bc at_ l i) (at_ + i)) else rd (stL bc at_ l i) (j : Int) := by
  show rd (stepL bc at_ (stL bc at_ l i) i) (j : Int) = _
  unfold stepL
  rw [rd_set _ _ _ _ (by omega) (by rw [stL_length]; omega)]
  by_cases c : (j : Int) = at_ + i
  · rw [if_pos c, if_pos (by omega)]
  · rw [if_neg c, if_neg (by omega)]

/-- What the law asks of two that follow one another. -/
def Good (n : Nat) (Q : Int → Int → Prop) (p : Int) (i : Nat) (a b : Fl) : Prop :=
  a.f1.length = n ∧ b.f1.length = n ∧ valF b.f0 n = true ∧ ∃ r : Int × Int, (∃ k, chargeparklaw17_one.f k a.f1 b.f1 = some r) ∧
    (r = (0, -1) ∨ (r.1 = 1 ∧ r.2 = p + i - 1 ∧ 0 ≤ r.2 ∧ r.2 < n ∧ Q (rd a.f1 r.2) (rd b.f1 r.2)))
theorem good_step (S : Int) (bc : Int → Int → Int) (p : Int) (l : List Int) (i many : Nat) (Q : Int → Int → Prop) (hv : valF S l.length = true) (hn : l.length ≤ 300) (hp : 0 ≤ p) (hm : p + (many : Int) ≤ l.length) (hi1 : 1 ≤ i) (hi : i ≤ many)
    (hQ : ∀ j : Nat, j < many → Q (rd (stL bc p l j) (p + j)) (bc j (rd (stL bc p l j) (p + j)))) : Good l.length Q p i ⟨S, stL bc p l (i - 1)⟩ ⟨S, stL bc p l i⟩ := by
  obtain ⟨j, rfl⟩ : ∃ j, i = j + 1 := ⟨i - 1, by omega⟩
  rw [Nat.add_sub_cancel]
  have h1 := stL_length bc p l j
  have h2 := stL_length bc p l (j + 1)
  have hq : (p + (j : Int)).toNat < l.length := by omega
  have hone := one_ok (stL bc p l j) (stL bc p l (j + 1)) (p + (j : Int)).toNat (by rw [h1, h2]) (by omega) (by omega) (fun t ht hne => by
    rw [step_rd bc p l j hp (by omega) t (by omega), if_neg (by omega)])
  rw [show (((p + (j : Int)).toNat : Nat) : Int) = p + j by omega] at hone
  refine ⟨h1, h2, hv, _, Ev.rounds hone, ?_⟩
  by_cases c : rd (stL bc p l j) (p + (j : Int)) = rd (stL bc p l (j + 1)) (p + (j : Int))
  · left; rw [if_pos c]
  · right
    rw [if_neg c]
    refine ⟨rfl, by omega, by omega, by omega, ?_⟩
    have hs := step_rd bc p l j hp (by omega) (p + (j : Int)).toNat hq
    rw [show (((p + (j : Int)).toNat : Nat) : Int) = p + j by omega, if_pos rfl] at hs
    dsimp only
    rw [hs]
    exact hQ j (by omega)
theorem andNot8 (x d : Int) : Go.bits .andNot .u8 (Go.bits .and .u8 x d) x = 0 := by
  have e : Go.bits .and .u8 x d = ((BitVec.ofInt 8 x &&& BitVec.ofInt 8 d).toNat : Int) := by
    show IntKind.u8.wrap ((BitVec.ofInt 8 x &&& BitVec.ofInt 8 d).toNat : Int) = _
    have := (BitVec.ofInt 8 x &&& BitVec.ofInt 8 d).isLt
    exact wraps_u8 _ (by omega) (by omega)
  rw [e]
  show IntKind.u8.wrap ((BitVec.ofInt 8 (((BitVec.ofInt 8 x &&& BitVec.ofInt 8 d).toNat : Nat) : Int) &&& ~~~ BitVec.ofInt 8 x).toNat : Int) = 0
  rw [BitVec.ofInt_natCast, BitVec.ofNat_toNat, BitVec.setWidth_eq]
  have h : (BitVec.ofInt 8 x &&& BitVec.ofInt 8 d) &&& ~~~ BitVec.ofInt 8 x = 0#8 := by
    apply BitVec.eq_of_getLsbD_eq
    intro i hi
    simp
    intro h1 _
    simp [h1]
  rw [h]
  rfl
end Go.Proofs.Ytdblbilgnfomaaa.FlashSteps
