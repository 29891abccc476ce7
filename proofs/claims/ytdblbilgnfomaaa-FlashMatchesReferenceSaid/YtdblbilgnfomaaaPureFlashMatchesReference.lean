/-
  For every memory, address, data and sector, all functions return what the reference implementation returns (up to 300 bytes).
-/
import Derived.Test.YtdblbilgnfomaaaFlashRef
namespace Go.Proofs.Ytdblbilgnfomaaa.Pure
open Go.RowKit Go.Proofs.Ytdblbilgnfomaaa.PAll Go.Proofs.Ytdblbilgnfomaaa.FlashB Go.Proofs.Ytdblbilgnfomaaa.FlashC Go.Proofs.Ytdblbilgnfomaaa.FlashE Go.Proofs.Ytdblbilgnfomaaa.FlashD Go.Proofs.Ytdblbilgnfomaaa.FlashPlain Go.Proofs.YtdblbilgnfomaaaW.PrintWords Go.Proofs.YtdblbilgnfomaaaW.PrintLast
set_option linter.unusedSimpArgs false
set_option linter.unusedVariables false

theorem prog_some (S : Int) (l : List Int) (at_ : Int) (d : List Int) : ∃ r, progF S l at_ d = some r ∧ r.1.length ≤ d.length + 1 ∧ ∀ x ∈ r.1, x.f1.length = l.length := by
  unfold progF
  split
  · exact ⟨_, rfl, Nat.zero_le _, fun x hx => by cases hx⟩
  · split
    · exact ⟨_, rfl, Nat.zero_le _, fun x hx => by cases hx⟩
    · refine ⟨_, rfl, by rw [memsOf_length]; exact Nat.le_refl _, fun x hx => ?_⟩
      unfold memsOf at hx
      obtain ⟨i, _, rfl⟩ := List.mem_map.1 hx
      exact stL_length _ _ _ _
theorem erase_some (S : Int) (l : List Int) (a1 : Int) : ∃ r, eraseF S l a1 = some r ∧ r.1.length ≤ 513 ∧ ∀ x ∈ r.1, x.f1.length = l.length := by
  unfold eraseF
  cases hb : badE S l a1
  · refine ⟨_, rfl, ?_, fun x hx => ?_⟩
    · unfold badE at hb
      simp only [Bool.or_eq_false_iff, Bool.not_eq_false'] at hb
      have := valF_iff.1 hb.1
      rw [memsOf_length]
      omega
    · unfold memsOf at hx
      obtain ⟨i, _, rfl⟩ := List.mem_map.1 hx
      exact stL_length _ _ _ _
  · exact ⟨_, rfl, Nat.zero_le _, fun x hx => by cases hx⟩
theorem new_some (a0 a1 : Int) : ∃ r, newF a0 a1 = some r ∧ r.2.1.length ≤ 4096 := by
  unfold newF
  cases hb : badNew a0 a1
  · refine ⟨_, rfl, ?_⟩
    unfold badNew at hb
    simp only [Bool.or_eq_false_iff, decide_eq_false_iff_not] at hb
    obtain ⟨h1, h2, h3, h4⟩ := hb
    have h5 := Int.mul_le_mul_of_nonneg_left (show a1 ≤ 4096 / a0 by omega) (show 0 ≤ a0 by omega)
    have h6 : a0 * (4096 / a0) ≤ 4096 := Int.mul_ediv_self_le (by omega)
    show (List.replicate (a0 * a1).toNat (255 : Int)).length ≤ 4096
    rw [List.length_replicate]
    omega
  · exact ⟨_, rfl, by show ([] : List Int).length ≤ 4096; simp⟩

theorem FlashMatchesReference : chargeparklaw17_FlashMatchesReference.Pure := by
  intro a0 at_ d a3 a4 hok ha hd1 hd2 hd h3 h4
  obtain ⟨S, l⟩ := a0
  dsimp only
  replace ha := i64_wf ha
  replace h4 := i64_wf h4
  unfold chargeparklaw17_FlashMatchesReference.f
  refine Ev.rounds (Ev.bind head_tells ?_)
  obtain ⟨⟨n0, n1, n2⟩, hn, hnl⟩ := new_some a3 a4
  refine evb (show flash_New.f a3 a4 = _ from hn) ?_
  refine Ev.bind (ref_new a3 a4 h4 _ hn) ?_
  simp only [if_true]
  refine Ev.bind (same_self _ _ (by dsimp only at hnl; omega)) ?_
  refine evs ?_
  simp only [chargeparklaw17_FlashMatchesReference.j0, Bool.not_true, if_neg (show ¬ (false = true) by decide)]
  have hout : Ev (fun k => chargeparklaw17_FlashMatchesReference.j1 k at_ d a3 true true S l) true := by
    refine evs ?_
    simp only [chargeparklaw17_FlashMatchesReference.j1, if_true]
    exact Ev.now _
  by_cases c1 : (l.length : Int) > 300
  · simp only [if_pos c1]; exact hout
  by_cases c2 : (d.length : Int) > 300
  · simp only [if_neg c1, decide_eq_true c2]; exact hout
  simp only [if_neg c1, decide_eq_false c2]
  refine evs ?_
  simp only [chargeparklaw17_FlashMatchesReference.j1, if_neg (show ¬ (false = true) by decide)]
  obtain ⟨⟨p1, p2⟩, hp, hpl, hpm⟩ := prog_some S l at_ d
  obtain ⟨⟨q1, q2⟩, hq, hql, hqm⟩ := erase_some S l a3
  refine evb (show flash_Program.f S l at_ d = _ from hp) ?_
  refine Ev.bind (ref_prog S l at_ d (by omega) (by omega) ha _ hp) ?_
  refine evb (show flash_Erase.f S l a3 = _ from hq) ?_
  refine Ev.bind (ref_erase S l a3 (by omega) _ hq) ?_
  simp only [if_true]
  refine Ev.bind (own_valid S l) ?_
  refine evb (ref_valid S l) ?_
  dsimp only at hpl hpm hql hqm
  simp only [beq_self_eq_true, if_true]
  refine Ev.bind (sameList_self p1 (by omega) (fun x hx => by rw [hpm x hx]; omega)) ?_
  simp only [if_true]
  refine Ev.bind (sameList_self q1 (by omega) (fun x hx => by rw [hqm x hx]; omega)) ?_
  exact Ev.now _
end Go.Proofs.Ytdblbilgnfomaaa.Pure
