/-
  What settle.Payments computes, in plain words.
-/
import Derived.Test.YtanaaphabeonoaaSettlePay
import Derived.Test.YtanaaphabeonoaaSettlePlain
namespace Go.Proofs.Ytanaaphabeonoaa.SettlePlain
open Go.RowKit Go.Proofs.Ytanaaphabeonoaa.PAll Go.Proofs.Ytanaaphabeonoaa.SettlePay Go.Proofs.YtanaaphabeonoaaW.PrintWords Go.Proofs.YtanaaphabeonoaaW.PrintMore
set_option linter.unusedSimpArgs false
set_option linter.unusedVariables false

abbrev Pay := S44

/-- A value in a list. -/
def at_ (l : List Int) (i : Nat) : Int := l.getD i 0

/-! the first place at which no other element is better -/
theorem firstL_spec (better : Int → Int → Bool) (l : List Int) (P : Int → Int → Prop) (hr : ∀ x, P x x) (ht : ∀ x y z, P x y → P y z → P x z) (hb : ∀ x y, better x y = true → P x y) (hn : ∀ x y, better x y = false → P y x) :
    ∀ (is : List Nat) (k : Nat), (k = firstL better l is k ∨ firstL better l is k ∈ is) ∧ P (at_ l (firstL better l is k)) (at_ l k) ∧ ∀ i ∈ is, P (at_ l (firstL better l is k)) (at_ l i)
  | [], k => ⟨.inl rfl, hr _, by simp⟩
  | i :: is, k => by
    rw [firstL]
    cases h : better (l.getD i 0) (l.getD k 0)
    · obtain ⟨h1, h2, h3⟩ := firstL_spec better l P hr ht hb hn is k
      rw [if_neg (by decide)]
      refine ⟨h1.imp id (List.mem_cons_of_mem _), h2, fun j hj => ?_⟩
      rcases List.mem_cons.1 hj with rfl | hj
      · exact ht _ _ _ h2 (hn _ _ h)
      · exact h3 j hj
    · obtain ⟨h1, h2, h3⟩ := firstL_spec better l P hr ht hb hn is i
      rw [if_pos rfl]
      refine ⟨.inr ?_, ht _ _ _ h2 (hb _ _ h), fun j hj => ?_⟩
      · rcases h1 with h1 | h1
        · rw [← h1]; exact List.mem_cons_self
        · exact List.mem_cons_of_mem _ h1
      · rcases List.mem_cons.1 hj with rfl | hj
        · exact h2
        · exact h3 j hj

/-- The places of the least and of the greatest. -/
def lo (l : List Int) : Nat := firstL lt l (List.range l.length) 0
def hi (l : List Int) : Nat := firstL gt l (List.range l.length) 0
theorem lo_spec (l : List Int) (h : 0 < l.length) : lo l < l.length ∧ ∀ i, i < l.length → at_ l (lo l) ≤ at_ l i := by
  obtain ⟨h1, h2, h3⟩ := firstL_spec lt l (fun x y => x ≤ y) (fun x => Int.le_refl x) (fun x y z => Int.le_trans) (fun x y h => by unfold lt at h; simp at h; omega) (fun x y h => by unfold lt at h; simp at h; omega) (List.range l.length) 0
  refine ⟨?_, fun i hi => h3 i (by simpa using hi)⟩
  unfold lo
  rcases h1 with h1 | h1
  · rw [← h1]; exact h
  · simpa using h1
theorem hi_spec (l : List Int) (h : 0 < l.length) : hi l < l.length ∧ ∀ i, i < l.length → at_ l i ≤ at_ l (hi l) := by
  obtain ⟨h1, h2, h3⟩ := firstL_spec gt l (fun x y => y ≤ x) (fun x => Int.le_refl x) (fun x y z h k => Int.le_trans k h) (fun x y h => by unfold gt at h; simp at h; omega) (fun x y h => by unfold gt at h; simp at h; omega) (List.range l.length) 0
  refine ⟨?_, fun i hi => h3 i (by simpa using hi)⟩
  unfold hi
  rcases h1 with h1 | h1
  · rw [← h1]; exact h
  · simpa using h1

/-- What is paid next. -/
def amt (l : List Int) : Int := if at_ l (hi l) < -at_ l (lo l) then at_ l (hi l) else -at_ l (lo l)
def step (l : List Int) : List Int := (l.set (lo l) (at_ l (lo l) + amt l)).set (hi l) (at_ l (hi l) - amt l)
def pay (l : List Int) : Pay := ⟨(lo l : Int), (hi l : Int), amt l⟩
def nz (l : List Int) : Nat := l.countP (fun x => !(x == 0))

theorem at_set (l : List Int) (i j : Nat) (x : Int) (h : i < l.length) : at_ (l.set i x) j = if j = i then x else at_ l j := by
  unfold at_
  rw [List.getD_eq_getElem?_getD, List.getD_eq_getElem?_getD, List.getElem?_set]
  by_cases e : i = j
  · subst e; rw [if_pos rfl, if_pos h, if_pos rfl]; rfl
  · rw [if_neg e, if_neg (fun k => e k.symm)]
theorem sum_set (l : List Int) (i : Nat) (x : Int) (h : i < l.length) : (l.set i x).sum = l.sum - at_ l i + x := by
  induction l generalizing i with
  | nil => simp at h
  | cons y l ih =>
    cases i with
    | zero => simp [at_]; omega
    | succ i =>
      have := ih i (by simpa using h)
      simp only [List.set_cons_succ, List.sum_cons, this]
      simp [at_]
      omega
theorem nz_set (l : List Int) (i : Nat) (x : Int) (h : i < l.length) : nz (l.set i x) + (if at_ l i = 0 then 0 else 1) = nz l + (if x = 0 then 0 else 1) := by
  unfold nz
  induction l generalizing i with
  | nil => simp at h
  | cons y l ih =>
    cases i with
    | zero =>
      simp only [List.set_cons_zero, List.countP_cons, at_, List.getD_cons_zero]
      by_cases e1 : y = 0 <;> by_cases e2 : x = 0 <;> simp [e1, e2]
    | succ i =>
      have := ih i (by simpa using h)
      rw [show at_ (y :: l) (i + 1) = at_ l i from rfl]
      simp only [List.set_cons_succ, List.countP_cons]
      omega
theorem at_mem (l : List Int) (x : Int) : x ∈ l ↔ ∃ i, i < l.length ∧ at_ l i = x := by
  unfold at_
  constructor
  · intro h
    obtain ⟨i, hi, rfl⟩ := List.getElem_of_mem h
    exact ⟨i, hi, by rw [List.getD_eq_getElem?_getD, List.getElem?_eq_getElem hi]; rfl⟩
  · rintro ⟨i, hi, rfl⟩
    rw [List.getD_eq_getElem?_getD, List.getElem?_eq_getElem hi]
    exact List.getElem_mem hi
theorem sum_pos (l : List Int) (h : ∀ x ∈ l, 0 ≤ x) : 0 ≤ l.sum ∧ (l.sum = 0 → ∀ x ∈ l, x = 0) := by
  induction l with
  | nil => simp
  | cons y l ih =>
    obtain ⟨h1, h2⟩ := ih (fun x hx => h x (List.mem_cons_of_mem _ hx))
    have hy := h y List.mem_cons_self
    rw [List.sum_cons]
    refine ⟨by omega, fun e x hx => ?_⟩
    rcases List.mem_cons.1 hx with rfl | hx
    · omega
    · exact h2 (by omega) x hx

/-- Balances: what they are while they are settled. -/
structure Bal (l : List Int) : Prop where
  pos : 0 < l.length
  len : l.length ≤ 8
  sum : l.sum = 0
  big : ∀ i, i < l.length → -64000000000 ≤ at_ l i ∧ at_ l i ≤ 64000000000

theorem Bal.signs {l : List Int} (h : Bal l) : at_ l (lo l) ≤ 0 ∧ 0 ≤ at_ l (hi l) ∧ (at_ l (lo l) = 0 ↔ ∀ i, i < l.length → at_ l i = 0) ∧ (at_ l (hi l) = 0 ↔ ∀ i, i < l.length → at_ l i = 0) := by
  obtain ⟨l1, l2⟩ := lo_spec l h.pos
  obtain ⟨g1, g2⟩ := hi_spec l h.pos
  have hneg : (l.map fun x => -x).sum = 0 := by
    have : ∀ m : List Int, (m.map fun x => -x).sum = -m.sum := by
      intro m
      induction m with
      | nil => rfl
      | cons y m ih => simp only [List.map_cons, List.sum_cons, ih]; omega
    rw [this, h.sum]; rfl
  have lowz : 0 ≤ at_ l (lo l) → ∀ i, i < l.length → at_ l i = 0 := fun hp i hi => by
    have := (sum_pos l (fun x hx => by obtain ⟨j, hj, rfl⟩ := (at_mem l x).1 hx; have := l2 j hj; omega)).2 h.sum
    exact this _ ((at_mem l _).2 ⟨i, hi, rfl⟩)
  have hiz : at_ l (hi l) ≤ 0 → ∀ i, i < l.length → at_ l i = 0 := fun hp i hi => by
    have := (sum_pos (l.map fun x => -x) (fun x hx => by
      obtain ⟨y, hy, rfl⟩ := List.mem_map.1 hx
      obtain ⟨j, hj, rfl⟩ := (at_mem l y).1 hy
      have := g2 j hj
      omega)).2 hneg
    have := this (-at_ l i) (List.mem_map_of_mem ((at_mem l _).2 ⟨i, hi, rfl⟩))
    omega
  refine ⟨?_, ?_, ⟨fun e => lowz (by omega), fun e => e _ l1⟩, ⟨fun e => hiz (by omega), fun e => e _ g1⟩⟩
  · rcases Int.le_total (at_ l (lo l)) 0 with c | c
    · exact c
    · have := lowz c _ l1; omega
  · rcases Int.le_total 0 (at_ l (hi l)) with c | c
    · exact c
    · have := hiz c _ g1; omega
theorem Bal.amt_zero {l : List Int} (h : Bal l) : 0 ≤ amt l ∧ (amt l = 0 ↔ ∀ i, i < l.length → at_ l i = 0) := by
  obtain ⟨s1, s2, s3, s4⟩ := h.signs
  unfold amt
  split
  · exact ⟨s2, s4⟩
  · refine ⟨by omega, ?_⟩
    rw [← s3]
    omega
theorem Bal.nz_zero {l : List Int} : nz l = 0 ↔ ∀ i, i < l.length → at_ l i = 0 := by
  unfold nz
  rw [List.countP_eq_zero]
  constructor
  · intro h i hi
    have := h (at_ l i) ((at_mem l _).2 ⟨i, hi, rfl⟩)
    simpa using this
  · intro h x hx
    obtain ⟨j, hj, rfl⟩ := (at_mem l x).1 hx
    simp [h j hj]
theorem Bal.step {l : List Int} (h : Bal l) (ha : amt l ≠ 0) : Bal (step l) ∧ nz (step l) + 1 ≤ nz l ∧ at_ l (lo l) < 0 ∧ 0 < at_ l (hi l) ∧ 0 < amt l ∧ amt l ≤ at_ l (hi l) ∧ amt l ≤ -at_ l (lo l) ∧ lo l ≠ hi l := by
  obtain ⟨l1, l2⟩ := lo_spec l h.pos
  obtain ⟨g1, g2⟩ := hi_spec l h.pos
  obtain ⟨s1, s2, s3, s4⟩ := h.signs
  obtain ⟨a0, az⟩ := h.amt_zero
  have n1 : at_ l (lo l) ≠ 0 := fun e => ha (az.2 (s3.1 e))
  have n2 : at_ l (hi l) ≠ 0 := fun e => ha (az.2 (s4.1 e))
  have a1 : amt l ≤ at_ l (hi l) ∧ amt l ≤ -at_ l (lo l) ∧ (amt l = at_ l (hi l) ∨ amt l = -at_ l (lo l)) := by unfold amt; split <;> omega
  have hne : lo l ≠ hi l := by intro e; rw [e] at s1 n1; omega
  have k1 : lo l < l.length := l1
  have k2 : hi l < (l.set (lo l) (at_ l (lo l) + amt l)).length := by rw [List.length_set]; exact g1
  have hh : at_ (l.set (lo l) (at_ l (lo l) + amt l)) (hi l) = at_ l (hi l) := by rw [at_set _ _ _ _ l1, if_neg (fun e => hne e.symm)]
  have hlen : (SettlePlain.step l).length = l.length := by unfold SettlePlain.step; simp
  have z1 := nz_set l (lo l) (at_ l (lo l) + amt l) l1
  have z2 := nz_set (l.set (lo l) (at_ l (lo l) + amt l)) (hi l) (at_ l (hi l) - amt l) k2
  rw [hh, if_neg n2] at z2
  rw [if_neg n1] at z1
  refine ⟨⟨by rw [hlen]; exact h.pos, by rw [hlen]; exact h.len, ?_, fun i hi => ?_⟩, ?_, by omega, by omega, by omega, a1.1, a1.2.1, hne⟩
  · unfold SettlePlain.step
    rw [sum_set _ _ _ k2, sum_set _ _ _ l1, hh, h.sum]
    omega
  · rw [hlen] at hi
    unfold SettlePlain.step
    rw [at_set _ _ _ _ k2, at_set _ _ _ _ l1]
    have := h.big i hi
    have b1 := h.big _ l1
    have b2 := h.big _ g1
    split
    · omega
    · split <;> omega
  · unfold SettlePlain.step
    rcases a1.2.2 with e | e
    · rw [if_pos (by omega)] at z2
      split at z1 <;> omega
    · rw [if_pos (by omega)] at z1
      split at z2 <;> omega

/-- The payments. -/
def pays : Nat → List Int → List Pay
  | 0, _ => []
  | m + 1, l => if amt l = 0 then [] else pay l :: pays m (step l)
theorem pays_done (m : Nat) (l : List Int) (h : amt l = 0) : pays m l = [] := by
  cases m with
  | zero => rfl
  | succ m => rw [pays, if_pos h]
theorem pays_len {l : List Int} : ∀ (m : Nat) {l : List Int}, Bal l → nz l ≤ m → (pays m l).length + 1 ≤ nz l ∨ pays m l = []
  | 0, l, _, _ => .inr rfl
  | m + 1, l, h, hm => by
    rw [pays]
    by_cases c : amt l = 0
    · rw [if_pos c]; exact .inr rfl
    · rw [if_neg c]
      obtain ⟨h1, h2, h3, h4, h5, h6, h7, h8⟩ := h.step c
      left
      rcases pays_len (l := l) m h1 (by omega) with k | k
      · rw [List.length_cons]; omega
      · rw [k, List.length_cons, List.length_nil]
        -- two are not 0
        obtain ⟨l1, _⟩ := lo_spec l h.pos
        obtain ⟨g1, _⟩ := hi_spec l h.pos
        have z1 := nz_set l (lo l) 0 l1
        have z2 := nz_set (l.set (lo l) 0) (hi l) 0 (by rw [List.length_set]; exact g1)
        have hh2 : at_ (l.set (lo l) 0) (hi l) = at_ l (hi l) := by rw [at_set _ _ _ _ l1, if_neg (fun e => h8 e.symm)]
        rw [hh2, if_neg (by omega), if_pos rfl] at z2
        rw [if_neg (by omega), if_pos rfl] at z1
        omega
end Go.Proofs.Ytanaaphabeonoaa.SettlePlain
