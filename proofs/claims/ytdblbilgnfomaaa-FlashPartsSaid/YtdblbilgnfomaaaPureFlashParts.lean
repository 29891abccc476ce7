/-
  Programming data in two parts, one after the other, leads through the same memories (up to 300 bytes).
-/
import Derived.Test.YtdblbilgnfomaaaPAllx16
import Derived.Test.YtdblbilgnfomaaaFlashList
namespace Go.Proofs.Ytdblbilgnfomaaa.Pure
open Go.RowKit Go.Proofs.Ytdblbilgnfomaaa.PAll Go.Proofs.Ytdblbilgnfomaaa.FlashB Go.Proofs.Ytdblbilgnfomaaa.FlashC Go.Proofs.Ytdblbilgnfomaaa.FlashE Go.Proofs.Ytdblbilgnfomaaa.FlashPlain Go.Proofs.YtdblbilgnfomaaaW.PrintWords Go.Proofs.YtdblbilgnfomaaaW.PrintLast
set_option linter.unusedSimpArgs false
set_option linter.unusedVariables false

theorem FlashParts : chargeparklaw17_FlashParts.Pure := by
  intro a0 at_ d a3 hok hat_ hm hd hb h3
  obtain ⟨S, l⟩ := a0
  obtain ⟨_, hlm, hlb⟩ := hok
  dsimp only at hlm hlb ⊢
  replace h3 := u16_wf h3
  unfold chargeparklaw17_FlashParts.f
  refine Ev.rounds (Ev.bind head_tells ?_)
  have hout : Ev (fun k => chargeparklaw17_FlashParts.j0 k at_ d a3 true true S l) true := by
    refine evs ?_
    simp only [chargeparklaw17_FlashParts.j0, if_true]
    exact Ev.now _
  by_cases c1 : (l.length : Int) > 300
  · simp only [if_pos c1]; exact hout
  by_cases c2 : (d.length : Int) > 300
  · simp only [if_neg c1, decide_eq_true c2]; exact hout
  simp only [if_neg c1, decide_eq_false c2]
  have w1 : wrap64 ((d.length : Int) + 1) = (d.length : Int) + 1 := fp_wrap (by omega) (by omega)
  refine evs ?_
  simp only [chargeparklaw17_FlashParts.j0, if_neg (show ¬ (false = true) by decide), w1]
  have W1 := Lib.hid w1
  clear w1
  rcases prog_cases S l at_ d with ⟨e, he, h⟩ | ⟨hv, h0, h1, h⟩
  · refine evb h ?_
    simp only [if_neg he]
    refine evs ?_
    simp only [chargeparklaw17_FlashParts.j1, if_true]
    exact evn (by simp [he])
  refine evb h ?_
  have hml := memsOf_length S (clearB d) at_ l d.length
  have hne : ((((d.length + 1 : Nat) : Int)) != (d.length : Int) + 1) = false := by simp
  simp only [if_true, hml, hne]
  obtain ⟨p, hp⟩ := Int.eq_ofNat_of_zero_le (Int.emod_nonneg a3 (show (d.length : Int) + 1 ≠ 0 by omega))
  have hp1 : p ≤ d.length := by
    have := Int.emod_lt_of_pos a3 (show (0 : Int) < (d.length : Int) + 1 by omega)
    rw [hp] at this
    omega
  have htk : (d.take p).length = p := by rw [List.length_take]; omega
  have hdr : (d.drop p).length = d.length - p := List.length_drop
  have hprog1 := prog_ok (d := d.take p) hv h0 (by rw [htk]; omega)
  rw [htk] at hprog1
  have hs := stL_length (clearB (d.take p)) at_ l p
  have hprog2 := prog_ok (S := S) (l := stL (clearB (d.take p)) at_ l p) (at_ := at_ + p) (d := d.drop p) (valF_self hv hs) (by omega) (by rw [hs, hdr]; omega)
  rw [hdr] at hprog2
  have hml1 := memsOf_length S (clearB (d.take p)) at_ l p
  have hml2 := memsOf_length S (clearB (d.drop p)) (at_ + p) (stL (clearB (d.take p)) at_ l p) (d.length - p)
  have n1 : ¬ (d.length : Int) + 1 = 0 := by omega
  have n2 : (0 : Int) ≤ (p : Int) := by omega
  have n3 : (p : Int) ≤ (d.length : Int) := by omega
  have n4 : (((d.length - p + 1 : Nat)) : Int) = (d.length : Int) - p + 1 := by omega
  have n5 : 0 + (p + 1) < 4398046511104 := by omega
  have n6 : (1 : Int) ≤ ((d.length - p + 1 : Nat) : Int) := by omega
  have n7 : p + 1 + (d.length - p + 1 - 1) < 4398046511104 := by omega
  have n8 : p ≤ 100000 := by omega
  have n9 : d.length + 1 ≤ 100000 := by omega
  have n10 : l.length ≤ 100000 := by omega
  have b1 : -9000000000000000000 ≤ a3 ∧ a3 ≤ 9000000000000000000 := by omega
  have b2 : -9000000000000000000 ≤ (p : Int) + 1 ∧ (p : Int) + 1 ≤ 9000000000000000000 := by omega
  have b3 : -9000000000000000000 ≤ at_ + (p : Int) ∧ at_ + (p : Int) ≤ 9000000000000000000 := by omega
  have b4 : -9000000000000000000 ≤ (d.length : Int) - p ∧ (d.length : Int) - p ≤ 9000000000000000000 := by omega
  have b5 : -9000000000000000000 ≤ (d.length : Int) - p + 1 ∧ (d.length : Int) - p + 1 ≤ 9000000000000000000 := by omega
  have htm : Int.tmod a3 ((d.length : Int) + 1) = a3 % ((d.length : Int) + 1) := Int.tmod_eq_emod_of_nonneg h3.1
  have hw3 := fp_wrap b1.1 b1.2
  have w1 := W1.out
  have w2 := fp_wrap b2.1 b2.2
  have w4 := fp_wrap b3.1 b3.2
  have w5 : wrap64 (wrap64 ((d.length : Int) - p) + 1) = (d.length : Int) - p + 1 := by rw [fp_wrap b4.1 b4.2, fp_wrap b5.1 b5.2]
  refine evs ?_
  simp only [chargeparklaw17_FlashParts.j1, if_neg (show ¬ (false = true) by decide), hw3, w1, htm, hp, if_neg n1, if_pos n2, if_pos n3, Int.toNat_natCast, w2, w4, w5]
  refine evb hprog1 ?_
  refine evb (last_mems _ _ _ _ p n8) ?_
  refine evb hprog2 ?_
  simp only [if_true, hml2, if_pos n4, Option.bind_some, List.length_nil, hml1, List.nil_append, if_pos n5, if_pos n6, List.length_drop, if_pos n7]
  rw [← mems_parts S at_ l d p hp1]
  refine Ev.bind (sameList_self _ (by rw [hml]; exact n9) (fun x hx => ?_)) (Ev.now _)
  unfold memsOf at hx
  obtain ⟨i, _, rfl⟩ := List.mem_map.1 hx
  show (stL (clearB d) at_ l i).length ≤ 100000
  rw [stL_length]; exact n10
end Go.Proofs.Ytdblbilgnfomaaa.Pure
