/-
  The reference implementation of package flash returns what the package does.
-/
import Derived.Test.YtdblbilgnfomaaaPAllx10
import Derived.Test.YtdblbilgnfomaaaFlashList
namespace Go.Proofs.Ytdblbilgnfomaaa.FlashPlain
open Go.RowKit Go.Proofs.Ytdblbilgnfomaaa.PAll Go.Proofs.Ytdblbilgnfomaaa.FlashB Go.Proofs.Ytdblbilgnfomaaa.FlashC Go.Proofs.Ytdblbilgnfomaaa.FlashE Go.Proofs.Ytdblbilgnfomaaa.FlashD Go.Proofs.YtdblbilgnfomaaaW.PrintWords Go.Proofs.YtdblbilgnfomaaaW.PrintLast
set_option linter.unusedSimpArgs false
set_option linter.unusedVariables false

theorem ref_valid (S : Int) (l : List Int) : chargeparkref17_Valid.f S l = some (valF S l.length) := by
  have hb : ∀ b : Bool, (b = true ↔ 1 ≤ S ∧ S ≤ 512 ∧ S ≤ l.length ∧ (l.length : Int) ≤ 4096 ∧ (l.length : Int) % S = 0) → some b = some (valF S l.length) := fun b h => by
    congr 1
    rw [Bool.eq_iff_iff, h, valF_iff]
  unfold chargeparkref17_Valid.f
  by_cases h1 : S ≥ 1
  · by_cases h2 : S ≤ 512
    · by_cases h3 : (l.length : Int) ≥ S
      · by_cases h4 : (l.length : Int) ≤ 4096
        · rw [if_pos h1, if_pos h2, if_pos h3, if_pos h4, if_neg (by omega)]
          exact hb _ (by rw [beq_iff_eq]; omega)
        · rw [if_pos h1, if_pos h2, if_pos h3, if_neg h4]
          exact hb _ (by simp; omega)
      · rw [if_pos h1, if_pos h2, if_neg h3]
        exact hb _ (by simp; omega)
    · rw [if_pos h1, if_neg h2]
      exact hb _ (by simp; omega)
  · rw [if_neg h1]
    exact hb _ (by simp; omega)
theorem own_valid (S : Int) (l : List Int) : Ev (fun k => flash_Valid.f k S l) (valF S l.length) := by
  have hb : ∀ b : Bool, (b = true ↔ 1 ≤ S ∧ S ≤ 512 ∧ S ≤ l.length ∧ (l.length : Int) ≤ 4096 ∧ (l.length : Int) % S = 0) → Ev (fun _ => some b) (valF S l.length) := fun b h => by
    have : b = valF S l.length := by rw [Bool.eq_iff_iff, h, valF_iff]
    rw [this]; exact Ev.now _
  unfold flash_Valid.f
  by_cases h1 : S < 1
  · simp only [if_pos h1]
    refine evs ?_
    simp only [flash_Valid.j0, if_true]
    exact hb _ (by simp; omega)
  simp only [if_neg h1]
  refine evs ?_
  by_cases h2 : S > 512
  · simp only [flash_Valid.j0, decide_eq_true h2, if_true]
    exact hb _ (by simp; omega)
  simp only [flash_Valid.j0, decide_eq_false h2, if_neg (show ¬ (false = true) by decide)]
  by_cases h3 : (l.length : Int) < S
  · simp only [if_pos h3]; exact hb _ (by simp; omega)
  by_cases h4 : (l.length : Int) > 4096
  · simp only [if_neg h3, if_pos h4]; exact hb _ (by simp; omega)
  simp only [if_neg h3, if_neg h4, if_neg (show ¬ S = 0 by omega)]
  rw [Int.tmod_eq_emod_of_nonneg (by omega)]
  exact hb _ (by rw [beq_iff_eq]; omega)

theorem ref_new (a0 a1 : Int) (h0 : -9223372036854775808 ≤ a1 ∧ a1 ≤ 9223372036854775807) (r : Int × List Int × Int) (h : newF a0 a1 = some r) : Ev (fun k => chargeparkref17_New.f k a0 a1) r := by
  unfold newF at h
  have hbad : ∀ b, badNew a0 a1 = b → Ev (fun k => chargeparkref17_New.j0 k a0 a1 b) r → Ev (fun k => chargeparkref17_New.f k a0 a1) r := fun b hb hj => by
    unfold chargeparkref17_New.f
    unfold badNew at hb
    by_cases h1 : a0 < 1
    · rw [decide_eq_true h1, Bool.true_or] at hb
      subst hb
      simp only [if_pos h1]; exact hj
    by_cases h2 : a0 > 512
    · rw [decide_eq_false h1, decide_eq_true (show 512 < a0 by omega)] at hb
      subst hb
      simp only [if_neg h1, if_pos h2]; exact hj
    by_cases h3 : a1 < 1
    · rw [decide_eq_false h1, decide_eq_false (show ¬ 512 < a0 by omega), decide_eq_true h3] at hb
      subst hb
      simp only [if_neg h1, if_neg h2, if_pos h3]; exact hj
    · rw [decide_eq_false h1, decide_eq_false (show ¬ 512 < a0 by omega), decide_eq_false h3] at hb
      have hq0 : (0 : Int) ≤ 4096 / a0 := Int.ediv_nonneg (by omega) (by omega)
      have hq2 : (4096 : Int) / a0 ≤ 4096 := Int.ediv_le_self _ (by omega)
      have hw : wrap64 ((4096 : Int) / a0) = 4096 / a0 := fp_wrap (by omega) (by omega)
      simp only [if_neg h1, if_neg h2, if_neg h3, if_neg (show ¬ a0 = 0 by omega), hw]
      have hb' : decide (a1 > 4096 / a0) = b := by simpa using hb
      rw [hb']; exact hj
  cases b : badNew a0 a1
  · rw [b] at h
    simp only [if_neg (show ¬ (false = true) by decide), Option.some.injEq] at h
    subst h
    refine hbad false b ?_
    refine evs ?_
    simp only [chargeparkref17_New.j0, if_neg (show ¬ (false = true) by decide)]
    unfold badNew at b
    simp only [Bool.or_eq_false_iff, decide_eq_false_iff_not] at b
    obtain ⟨h1, h2, h3, h4⟩ := b
    have hle : a0 * a1 ≤ 4096 := by
      have h5 := Int.mul_le_mul_of_nonneg_left (show a1 ≤ 4096 / a0 by omega) (show 0 ≤ a0 by omega)
      have h6 : a0 * (4096 / a0) ≤ 4096 := Int.mul_ediv_self_le (by omega)
      omega
    obtain ⟨n, hn⟩ := Int.eq_ofNat_of_zero_le (show 0 ≤ a0 * a1 from Int.mul_nonneg (by omega) (by omega))
    have hn2 : n ≤ 4096 := by omega
    rw [hn, Int.toNat_natCast]
    have hw : wrap64 (a0 * a1) = (n : Int) := by rw [hn]; exact fp_wrap (by omega) (by omega)
    clear hle h4
    have loop : ∀ e : Nat, ∀ i : Nat, i + e = n → Ev (fun k => chargeparkref17_New.l0 k a0 a1 (i : Int) a0 (List.replicate i 255)) (a0, List.replicate n 255, 0) := by
      intro e
      induction e with
      | zero =>
        intro i hi
        obtain rfl : i = n := by omega
        refine evs ?_
        simp only [chargeparkref17_New.l0, hw, if_neg (show ¬ (i : Int) < (i : Int) by omega)]
        exact Ev.now _
      | succ e ih =>
        intro i hi
        have hw1 : wrap64 ((i : Int) + 1) = ((i + 1 : Nat) : Int) := by rw [fp_wrap (by omega) (by omega)]; omega
        refine evs ?_
        simp only [chargeparkref17_New.l0, hw, if_pos (show (i : Int) < (n : Int) by omega), List.length_replicate, if_pos (show i < 140737488355328 by omega), hw1]
        have := ih (i + 1) (by omega)
        rw [List.replicate_succ'] at this
        exact this
    exact loop n 0 (by omega)
  · rw [b] at h
    simp only [if_true, Option.some.injEq] at h
    subst h
    refine hbad true b ?_
    refine evs ?_
    simp only [chargeparkref17_New.j0, if_true]
    exact Ev.now _

theorem memsOf_succ (S : Int) (bc : Int → Int → Int) (at_ : Int) (l : List Int) (i : Nat) : memsOf S bc at_ l (i + 1) = memsOf S bc at_ l i ++ [⟨S, stL bc at_ l (i + 1)⟩] := by
  unfold memsOf
  rw [List.range_succ, List.map_append]
  rfl
theorem with_ok (S : Int) (l : List Int) (at_ b : Int) (h0 : 0 ≤ at_) (h1 : at_ < l.length) (hl : l.length ≤ 100000) : chargeparkref17_With.f S l at_ b = some (S, l.set at_.toNat b) := by
  unfold chargeparkref17_With.f
  have n1 : ([] : List Int).length + l.length < 140737488355328 := by simp only [List.length_nil]; omega
  simp only [Option.bind_some, if_pos n1, List.nil_append, if_pos h0, if_pos h1]

theorem ref_prog (S : Int) (l : List Int) (at_ : Int) (d : List Int) (hl : l.length ≤ 300) (hd : d.length ≤ 300) (ha : -9223372036854775808 ≤ at_ ∧ at_ ≤ 9223372036854775807) (r : List Fl × Int) (h : progF S l at_ d = some r) : Ev (fun k => chargeparkref17_Program.f k S l at_ d) r := by
  unfold chargeparkref17_Program.f
  refine evb (ref_valid S l) ?_
  unfold progF badP at h
  have hj : ∀ b : Bool, (!valF S l.length || decide (at_ < 0)) = b → Ev (fun k => chargeparkref17_Program.j0 k at_ d b S l) r → Ev (fun k => if valF S l.length = true then chargeparkref17_Program.j0 k at_ d (decide (at_ < 0)) S l else chargeparkref17_Program.j0 k at_ d true S l) r := fun b hb hj => by
    cases hv : valF S l.length
    · rw [hv] at hb
      subst hb
      simp only [if_neg (show ¬ (false = true) by decide)]; exact hj
    · rw [hv] at hb
      subst hb
      simp only [if_true]; exact hj
  cases hb : (!valF S l.length || decide (at_ < 0))
  · rw [hb] at h
    refine hj false hb ?_
    simp only [Bool.or_eq_false_iff, Bool.not_eq_false', decide_eq_false_iff_not] at hb
    obtain ⟨hv, h0⟩ := hb
    refine evs ?_
    simp only [chargeparkref17_Program.j0, if_neg (show ¬ (false = true) by decide)]
    unfold farP at h
    have hj1 : ∀ b : Bool, (decide ((l.length : Int) < at_) || decide ((l.length : Int) - at_ < d.length)) = b → Ev (fun k => chargeparkref17_Program.j1 k at_ d b S l) r → Ev (fun k => if at_ > (l.length : Int) then chargeparkref17_Program.j1 k at_ d true S l else chargeparkref17_Program.j1 k at_ d (decide ((d.length : Int) > wrap64 ((l.length : Int) - at_))) S l) r := fun b hb hj => by
      by_cases c : at_ > (l.length : Int)
      · rw [decide_eq_true (show (l.length : Int) < at_ by omega), Bool.true_or] at hb
        subst hb
        simp only [if_pos c]; exact hj
      · rw [decide_eq_false (show ¬ (l.length : Int) < at_ by omega), Bool.false_or] at hb
        have hw : wrap64 ((l.length : Int) - at_) = (l.length : Int) - at_ := fp_wrap (by omega) (by omega)
        simp only [if_neg c, hw]
        have hb' : decide ((d.length : Int) > (l.length : Int) - at_) = b := hb
        rw [hb']; exact hj
    cases hf : (decide ((l.length : Int) < at_) || decide ((l.length : Int) - at_ < d.length))
    · rw [hf] at h
      simp only [if_neg (show ¬ (false = true) by decide), Option.some.injEq] at h
      subst h
      refine hj1 false hf ?_
      simp only [Bool.or_eq_false_iff, decide_eq_false_iff_not] at hf
      refine evs ?_
      simp only [chargeparkref17_Program.j1, if_neg (show ¬ (false = true) by decide)]
      clear hj hj1 ha
      have loop : ∀ e : Nat, ∀ i : Nat, i + e = d.length → Ev (fun k => chargeparkref17_Program.l0 k at_ d (memsOf S (clearB d) at_ l i) (i : Int)) (memsOf S (clearB d) at_ l d.length, 0) := by
        intro e
        induction e with
        | zero =>
          intro i hi
          obtain rfl : i = d.length := by omega
          refine evs ?_
          simp only [chargeparkref17_Program.l0, if_neg (show ¬ (d.length : Int) < (d.length : Int) by omega)]
          exact Ev.now _
        | succ e ih =>
          intro i hi
          have hml := memsOf_length S (clearB d) at_ l i
          have hs := stL_length (clearB d) at_ l i
          have n1 : (i : Int) < (d.length : Int) := by omega
          have n2 : (i : Int) < ((i + 1 : Nat) : Int) := by omega
          have n3 : 0 ≤ at_ + (i : Int) := by omega
          have n4 : at_ + (i : Int) < (l.length : Int) := by omega
          have n5 : i + 1 < 4398046511104 := by omega
          have n6 : (0 : Int) ≤ (i : Int) := by omega
          have b1 : -9000000000000000000 ≤ at_ + (i : Int) ∧ at_ + (i : Int) ≤ 9000000000000000000 := by omega
          have b2 : -9000000000000000000 ≤ (i : Int) + 1 ∧ (i : Int) + 1 ≤ 9000000000000000000 := by omega
          have e1 : (i : Int) + 1 = ((i + 1 : Nat) : Int) := by omega
          have hwith := with_ok S (stL (clearB d) at_ l i) (at_ + i) (Go.bits .and .u8 (rd (stL (clearB d) at_ l i) (at_ + i)) (rd d i)) n3 (by rw [hs]; exact n4) (by rw [hs]; omega)
          have ih := ih (i + 1) (by omega)
          have hw1 := fp_wrap b1.1 b1.2
          have hw2 := fp_wrap b2.1 b2.2
          rw [e1] at hw2
          refine evs ?_
          simp only [chargeparkref17_Program.l0, if_pos n1, if_pos n6, hml, if_pos n2, memsOf_rd _ _ _ _ _ i (Nat.le_refl _), hw1, if_pos n3, hs, if_pos n4, e1, hw2]
          refine evb hwith ?_
          simp only [if_pos n5]
          rw [memsOf_succ] at ih
          exact ih
      exact loop d.length 0 (by omega)
    · rw [hf] at h
      simp only [if_neg (show ¬ (false = true) by decide), if_true, Option.some.injEq] at h
      subst h
      refine hj1 true hf ?_
      refine evs ?_
      simp only [chargeparkref17_Program.j1, if_true]
      exact Ev.now _
  · rw [hb] at h
    simp only [if_true, Option.some.injEq] at h
    subst h
    refine hj true hb ?_
    refine evs ?_
    simp only [chargeparkref17_Program.j0, if_true]
    exact Ev.now _

theorem ref_erase (S : Int) (l : List Int) (a1 : Int) (hl : l.length ≤ 300) (r : List Fl × Int) (h : eraseF S l a1 = some r) : Ev (fun k => chargeparkref17_Erase.f k S l a1) r := by
  unfold chargeparkref17_Erase.f
  refine evb (ref_valid S l) ?_
  unfold eraseF badE at h
  have hout : r = ([], 1) → Ev (fun k => chargeparkref17_Erase.j0 k a1 true S l) r := fun e => by
    subst e
    refine evs ?_
    simp only [chargeparkref17_Erase.j0, if_true]
    exact Ev.now _
  cases hv : valF S l.length
  · rw [hv] at h
    simp only [if_neg (show ¬ (false = true) by decide)]
    exact hout (Option.some.inj h).symm
  rw [hv] at h
  simp only [if_true]
  by_cases c1 : a1 < 0
  · rw [decide_eq_true c1] at h
    simp only [if_pos c1]
    exact hout (Option.some.inj h).symm
  rw [decide_eq_false c1] at h
  obtain ⟨s1, s2, s3, s4, _⟩ := valF_iff.1 hv
  have hq0 : (0 : Int) ≤ (l.length : Int) / S := Int.ediv_nonneg (by omega) (by omega)
  have hq1 : (l.length : Int) / S ≤ l.length := Int.ediv_le_self _ (by omega)
  have hw : wrap64 ((l.length : Int) / S) = (l.length : Int) / S := fp_wrap (by omega) (by omega)
  simp only [if_neg c1, if_neg (show ¬ S = 0 by omega), hw]
  by_cases c2 : (l.length : Int) / S ≤ a1
  · rw [decide_eq_true c2] at h
    simp only [decide_eq_true (show a1 ≥ (l.length : Int) / S from c2)]
    exact hout (Option.some.inj h).symm
  rw [decide_eq_false c2] at h
  simp only [decide_eq_false (show ¬ a1 ≥ (l.length : Int) / S from c2)]
  obtain rfl := Option.some.inj h
  have h3 : (a1 + 1) * S ≤ (l.length : Int) / S * S := Int.mul_le_mul_of_nonneg_right (by omega) (by omega)
  have h4 : (l.length : Int) / S * S ≤ l.length := Int.ediv_mul_le _ (by omega)
  rw [Int.add_mul, Int.one_mul] at h3
  have h5 : 0 ≤ a1 * S := Int.mul_nonneg (by omega) (by omega)
  have h6 : a1 * S + S ≤ l.length := by omega
  clear h3 h4 hw hq0 hq1 h hout c2
  obtain ⟨n, hn⟩ := Int.eq_ofNat_of_zero_le (show 0 ≤ S by omega)
  have hSn : S.toNat = n := by omega
  rw [hSn]
  have hm := fp_wrap (x := a1 * S) (by omega) (by omega)
  obtain ⟨p, hp⟩ : ∃ p, a1 * S = p := ⟨_, rfl⟩
  rw [hp] at hm h5 h6 ⊢
  refine evs ?_
  simp only [chargeparkref17_Erase.j0, if_neg (show ¬ (false = true) by decide)]
  have HM := Lib.hid hm
  clear hm
  have loop : ∀ e : Nat, ∀ i : Nat, i + e = n → Ev (fun k => chargeparkref17_Erase.l0 k a1 (memsOf S (fun _ _ => 255) p l i) (i : Int) S l) (memsOf S (fun _ _ => 255) p l n, 0) := by
    intro e
    induction e with
    | zero =>
      intro i hi
      obtain rfl : i = n := by omega
      refine evs ?_
      simp only [chargeparkref17_Erase.l0, if_neg (show ¬ (i : Int) < S by omega)]
      exact Ev.now _
    | succ e ih =>
      intro i hi
      have hml := memsOf_length S (fun _ _ => 255) p l i
      have hs := stL_length (fun _ _ => 255) p l i
      have n1 : (i : Int) < S := by omega
      have n2 : (i : Int) < ((i + 1 : Nat) : Int) := by omega
      have n3 : 0 ≤ p + (i : Int) := by omega
      have n4 : p + (i : Int) < (l.length : Int) := by omega
      have n5 : i + 1 < 4398046511104 := by omega
      have n6 : (0 : Int) ≤ (i : Int) := by omega
      have b1 : -9000000000000000000 ≤ p + (i : Int) ∧ p + (i : Int) ≤ 9000000000000000000 := by omega
      have b2 : -9000000000000000000 ≤ (i : Int) + 1 ∧ (i : Int) + 1 ≤ 9000000000000000000 := by omega
      have e1 : (i : Int) + 1 = ((i + 1 : Nat) : Int) := by omega
      have hwith := with_ok S (stL (fun _ _ => 255) p l i) (p + i) 255 n3 (by rw [hs]; exact n4) (by rw [hs]; omega)
      have ih := ih (i + 1) (by omega)
      have hw1 := fp_wrap b1.1 b1.2
      have hw2 := fp_wrap b2.1 b2.2
      have hm := HM.out
      rw [e1] at hw2
      refine evs ?_
      simp only [chargeparkref17_Erase.l0, if_pos n1, if_pos n6, hml, if_pos n2, memsOf_rd _ _ _ _ _ i (Nat.le_refl _), hp, hm, hw1, e1, hw2]
      refine evb hwith ?_
      simp only [if_pos n5]
      rw [memsOf_succ] at ih
      exact ih
  exact loop n 0 (by omega)
end Go.Proofs.Ytdblbilgnfomaaa.FlashPlain
