/-
  Two programs, at whatever places, lead to the same memory in either order; two of one place lead to the bits that both have (up to 300 bytes).
-/
import Derived.Test.YtdblbilgnfomaaaPAllx14
import Derived.Test.YtdblbilgnfomaaaFlashBits
namespace Go.Proofs.Ytdblbilgnfomaaa.Pure
open Go.RowKit Go.Proofs.Ytdblbilgnfomaaa.PAll Go.Proofs.Ytdblbilgnfomaaa.FlashB Go.Proofs.Ytdblbilgnfomaaa.FlashC Go.Proofs.Ytdblbilgnfomaaa.FlashE Go.Proofs.Ytdblbilgnfomaaa.FlashPlain Go.Proofs.YtdblbilgnfomaaaW.PrintWords Go.Proofs.YtdblbilgnfomaaaW.PrintLast
set_option linter.unusedSimpArgs false
set_option linter.unusedVariables false

theorem done_cases (S : Int) (l : List Int) (at_ : Int) (d : List Int) : (∃ x y, chargeparklaw17_done.f S l at_ d = some (x, y, false)) ∨ (valF S l.length = true ∧ 0 ≤ at_ ∧ at_ + d.length ≤ l.length ∧ chargeparklaw17_done.f S l at_ d = some (S, stL (clearB d) at_ l d.length, true)) := by
  rcases prog_cases S l at_ d with ⟨e, he, h⟩ | ⟨hv, h0, h1, _⟩
  · left
    refine ⟨0, [], ?_⟩
    unfold chargeparklaw17_done.f
    rw [h, Option.bind_some]
    unfold chargeparklaw17_last.f
    dsimp only
    rw [if_neg he]
    rfl
  · exact .inr ⟨hv, h0, h1, done_ok hv h0 h1⟩
theorem order_eq (l : List Int) (a b : Int) (d m : List Int) (ha : 0 ≤ a) (hb : 0 ≤ b) (hd : a + d.length ≤ l.length) (hm : b + m.length ≤ l.length) (hl : isBs l) (bd : isBs d) (bm : isBs m) :
    stL (clearB m) b (stL (clearB d) a l d.length) m.length = stL (clearB d) a (stL (clearB m) b l m.length) d.length := by
  have e1 := stL_length (clearB d) a l d.length
  have e2 := stL_length (clearB m) b l m.length
  refine eq_of_rd (by rw [stL_length, stL_length, stL_length, stL_length]) (fun j h0 h1 => ?_)
  rw [stL_length, e1] at h1
  rw [prog_rd (stL (clearB d) a l d.length) b m hb (by rw [e1]; exact hm) j h0 (by rw [e1]; exact h1), prog_rd (stL (clearB m) b l m.length) a d ha (by rw [e2]; exact hd) j h0 (by rw [e2]; exact h1), prog_rd l a d ha hd j h0 h1, prog_rd l b m hb hm j h0 h1]
  have hx := hl.rd j h0 h1
  generalize rd l j = x at hx
  unfold prg
  by_cases c1 : a ≤ j ∧ j < a + (d.length : Int)
  · by_cases c2 : b ≤ j ∧ j < b + (m.length : Int)
    · rw [if_pos c1, if_pos c2, if_pos c2, if_pos c1]
      exact and8_swap hx (bd.rd _ (by omega) (by omega)) (bm.rd _ (by omega) (by omega))
    · rw [if_pos c1, if_neg c2, if_neg c2, if_pos c1]
  · by_cases c2 : b ≤ j ∧ j < b + (m.length : Int)
    · rw [if_neg c1, if_pos c2, if_neg c1]
    · rw [if_neg c1, if_neg c2, if_neg c1]

/-- What both have. -/
def bothB (m : List Int) (i x : Int) : Int := if i < m.length then Go.bits .and .u8 x (rd m i) else x
theorem common_rd (d m : List Int) (j : Int) (h0 : 0 ≤ j) (h1 : j < d.length) : rd (stL (bothB m) 0 d d.length) j = bothB m j (rd d j) := by
  rw [stL_rd _ _ _ _ (by omega) (by omega) j h0 h1, if_pos ⟨h0, by omega⟩, Int.sub_zero]
theorem common_eq (l : List Int) (a : Int) (d m : List Int) (ha : 0 ≤ a) (hd : a + d.length ≤ l.length) (hm : m.length ≤ d.length) (hl : isBs l) (bd : isBs d) (bm : isBs m) :
    stL (clearB m) a (stL (clearB d) a l d.length) m.length = stL (clearB (stL (bothB m) 0 d d.length)) a l (stL (bothB m) 0 d d.length).length := by
  have e1 := stL_length (clearB d) a l d.length
  have e2 := stL_length (bothB m) 0 d d.length
  refine eq_of_rd (by rw [stL_length, stL_length, stL_length]) (fun j h0 h1 => ?_)
  rw [stL_length, e1] at h1
  rw [prog_rd (stL (clearB d) a l d.length) a m ha (by rw [e1]; omega) j h0 (by rw [e1]; exact h1), prog_rd l a (stL (bothB m) 0 d d.length) ha (by rw [e2]; exact hd) j h0 h1, prog_rd l a d ha hd j h0 h1]
  have hx := hl.rd j h0 h1
  generalize rd l j = x at hx
  unfold prg
  rw [e2]
  by_cases c1 : a ≤ j ∧ j < a + (d.length : Int)
  · rw [if_pos c1, if_pos c1, common_rd d m _ (by omega) (by omega)]
    unfold bothB
    by_cases c2 : a ≤ j ∧ j < a + (m.length : Int)
    · rw [if_pos c2, if_pos (by omega)]
      exact and8_assoc hx (bd.rd _ (by omega) (by omega)) (bm.rd _ (by omega) (by omega))
    · rw [if_neg c2, if_neg (by omega)]
  · rw [if_neg c1, if_neg c1, if_neg (by omega)]

theorem order_loop (a : Int) (d m : List Int) (S : Int) (l : List Int) (T : Int) (g : List Int) (hl : d.length ≤ 300)
    (hend : Ev (fun k => chargeparklaw17_FlashOrder.l0 k a d m true (stL (bothB m) 0 d d.length) (d.length : Int) (d.length : Int) S l T g) true) :
    ∀ e : Nat, ∀ i : Nat, i + e = d.length → Ev (fun k => chargeparklaw17_FlashOrder.l0 k a d m true (stL (bothB m) 0 d i) (d.length : Int) (i : Int) S l T g) true := by
  intro e
  induction e with
  | zero =>
    intro i hi
    obtain rfl : i = d.length := by omega
    exact hend
  | succ e ih =>
    intro i hi
    have hw : wrap64 ((i : Int) + 1) = ((i + 1 : Nat) : Int) := by rw [fp_wrap (by omega) (by omega)]; omega
    have hs := stL_length (bothB m) 0 d i
    have ih := ih (i + 1) (by omega)
    have hstep : stL (bothB m) 0 d (i + 1) = (stL (bothB m) 0 d i).set i (bothB m i (rd (stL (bothB m) 0 d i) (i : Int))) := by
      show stepL _ _ _ _ = _
      unfold stepL
      rw [Int.zero_add, Int.toNat_natCast]
    refine evs ?_
    by_cases c : (i : Int) < (m.length : Int)
    · have hb : bothB m (i : Int) (rd (stL (bothB m) 0 d i) (i : Int)) = Go.bits .and .u8 (rd (stL (bothB m) 0 d i) (i : Int)) (rd m (i : Int)) := by unfold bothB; rw [if_pos c]
      rw [hstep, hb] at ih
      simp only [chargeparklaw17_FlashOrder.l0, if_pos (show (i : Int) < (d.length : Int) by omega), if_pos c, if_pos (show (0 : Int) ≤ (i : Int) by omega), hs, hw, Int.toNat_natCast]
      exact ih
    · have hb : bothB m (i : Int) (rd (stL (bothB m) 0 d i) (i : Int)) = rd (stL (bothB m) 0 d i) (i : Int) := by unfold bothB; rw [if_neg c]
      rw [hstep, hb, rd_nat _ i (by rw [hs]; omega), List.set_getElem_self] at ih
      simp only [chargeparklaw17_FlashOrder.l0, if_pos (show (i : Int) < (d.length : Int) by omega), if_neg c, hw]
      exact ih

theorem FlashOrder : chargeparklaw17_FlashOrder.Pure := by
  intro a0 a d b m hok ha_ hm1 hm2 hd hb_ hn1 hn2 hm
  obtain ⟨S, l⟩ := a0
  obtain ⟨_, hlm, hlb⟩ := hok
  dsimp only at hlm hlb ⊢
  replace hlb := isBs_wf hlb
  replace hd := isBs_wf hd
  replace hm := isBs_wf hm
  clear hm1 hm2 hn1 hn2 ha_ hb_ hlm
  unfold chargeparklaw17_FlashOrder.f
  refine Ev.rounds (Ev.bind head_tells ?_)
  have hout : Ev (fun k => chargeparklaw17_FlashOrder.j0 k a d b m true true S l) true := by
    refine evs ?_
    simp only [chargeparklaw17_FlashOrder.j0, if_true]
    exact Ev.now _
  by_cases c1 : (l.length : Int) > 300
  · simp only [if_pos c1]; exact hout
  by_cases c2 : (d.length : Int) > 300
  · simp only [if_neg c1, if_pos c2]; exact hout
  by_cases c3 : (m.length : Int) > 300
  · simp only [if_neg c1, if_neg c2, decide_eq_true c3]; exact hout
  simp only [if_neg c1, if_neg c2, decide_eq_false c3]
  have hout1 : ∀ S1 l1 S2 l2, Ev (fun k => chargeparklaw17_FlashOrder.j1 k a d b m true true S l S1 l1 S2 l2) true := fun S1 l1 S2 l2 => by
    refine evs ?_
    simp only [chargeparklaw17_FlashOrder.j1, if_true]
    exact Ev.now _
  refine evs ?_
  simp only [chargeparklaw17_FlashOrder.j0, if_neg (show ¬ (false = true) by decide)]
  rcases done_cases S l a d with ⟨x, y, h⟩ | ⟨hv, ha, had, h⟩
  · refine evb h ?_
    rcases done_cases S l b m with ⟨x2, y2, h2⟩ | ⟨_, _, _, h2⟩
    · refine evb h2 ?_
      simp only [if_neg (show ¬ (false = true) by decide)]
      exact hout1 _ _ _ _
    · refine evb h2 ?_
      simp only [if_neg (show ¬ (false = true) by decide)]
      exact hout1 _ _ _ _
  refine evb h ?_
  rcases done_cases S l b m with ⟨x2, y2, h2⟩ | ⟨_, hb, hbm, h2⟩
  · refine evb h2 ?_
    simp only [if_true, Bool.not_false]
    exact hout1 _ _ _ _
  refine evb h2 ?_
  simp only [if_true, Bool.not_true]
  refine evs ?_
  simp only [chargeparklaw17_FlashOrder.j1, if_neg (show ¬ (false = true) by decide)]
  have e1 := stL_length (clearB d) a l d.length
  have e2 := stL_length (clearB m) b l m.length
  have h3 : chargeparklaw17_done.f S (stL (clearB d) a l d.length) b m = _ := done_ok (valF_self hv e1) hb (by rw [e1]; exact hbm)
  have h4 : chargeparklaw17_done.f S (stL (clearB m) b l m.length) a d = _ := done_ok (valF_self hv e2) ha (by rw [e2]; exact had)
  refine evb h3 ?_
  refine evb h4 ?_
  rw [order_eq l a b d m ha hb had hbm hlb hd hm]
  simp only [if_true]
  refine Ev.bind (same_self S _ (by rw [stL_length, e2]; omega)) ?_
  refine evs ?_
  have hlim : ([] : List Int).length + d.length < 140737488355328 := by simp only [List.length_nil]; omega
  simp only [chargeparklaw17_FlashOrder.j2, Bool.not_true, if_neg (show ¬ (false = true) by decide), Option.bind_some]
  simp only [if_pos hlim, List.nil_append]
  refine order_loop a d m S l S _ (by omega) ?_ d.length 0 (by omega)
  refine evs ?_
  simp only [chargeparklaw17_FlashOrder.l0, if_neg (show ¬ (d.length : Int) < (d.length : Int) by omega)]
  by_cases c4 : (m.length : Int) > (d.length : Int)
  · simp only [if_pos c4]; exact Ev.now _
  simp only [if_neg c4]
  have e3 := stL_length (bothB m) 0 d d.length
  have h5 : chargeparklaw17_done.f S (stL (clearB d) a l d.length) a m = _ := done_ok (valF_self hv e1) ha (by rw [e1]; omega)
  have h6 : chargeparklaw17_done.f S l a (stL (bothB m) 0 d d.length) = _ := done_ok hv ha (by rw [e3]; exact had)
  refine evb h5 ?_
  refine evb h6 ?_
  rw [common_eq l a d m ha had (by omega) hlb hd hm]
  simp only [if_true]
  refine Ev.bind (same_self S _ (by rw [stL_length]; omega)) ?_
  exact Ev.now _
end Go.Proofs.Ytdblbilgnfomaaa.Pure
