/-
  For any two plates, the distance is at least twice the difference of their lengths, and at most twice the greater one; it is the same if both are read backward. The condition is the statement's own: texts that are plates.
-/
import Derived.Test.YtcpiapenagbapaaDoorPPlateBoundsx2
import Derived.Test.YtcpiapenagbapaaDoorPlateLaw
namespace Go.Proofs.YtcpiapenagbapaaDoor.Pure
open Go.RowKit Go.Proofs.YtcpiapenagbapaaDoor.PPlateBounds Go.Proofs.YtcpiapenagbapaaDoorW.PrintWords Go.Proofs.YtcpiapenagbapaaDoorW.PrintLast Go.Proofs.YtcpiapenagbapaaDoorW.PrintMore
open Go.Proofs.YtcpiapenagbapaaDoor.PlateWalk Go.Proofs.YtcpiapenagbapaaDoor.PlateDist Go.Proofs.YtcpiapenagbapaaDoor.PlateLaw
set_option linter.unusedSimpArgs false

theorem evs {α : Type} {g : Nat → Option α} {r : α} (h : Ev (fun k => g (k + 1)) r) : Ev g r := Ev.step (fun _ => rfl) h

theorem pl_wrap {x : Int} (h0 : -9000000000000000000 ≤ x) (h1 : x ≤ 9000000000000000000) : wrap64 x = x := by unfold wrap64; omega

theorem pl_bt (p : ByteArray) (i : Nat) (h : i < p.size) : bt p (i : Int) = ((p[i]'h).toNat : Int) := by
  unfold bt; rw [dif_pos (by simpa using h)]; simp

theorem pl_valid_l (p : ByteArray) (hp : p.size ≤ 4000000000000000000) : ∀ d i : Nat, p.size - i = d → i ≤ p.size → (∀ j (h : j < p.size), j < i → okN (p[j]'h).toNat = true) →
    Ev (fun k => chargeparkref36_Valid.l0 k p (i : Int)) (validP p) := by
  intro d
  induction d with
  | zero =>
    intro i hd hi hall
    have e : i = p.size := by omega
    have hv : validP p = (decide (1 ≤ p.size) && decide (p.size ≤ 10)) := by
      unfold validP
      rw [validP_all p (fun j h => hall j h (by omega)), Bool.true_and]
    refine evs ?_
    simp only [chargeparkref36_Valid.l0, if_neg (show ¬ ((i : Int) < (p.size : Int)) by omega)]
    rw [hv]
    by_cases h1 : 1 ≤ p.size
    · simp only [if_pos (show (p.size : Int) ≥ 1 by omega)]
      rw [show (decide ((p.size : Int) ≤ 10)) = (decide (1 ≤ p.size) && decide (p.size ≤ 10)) by
        rw [decide_eq_true h1, Bool.true_and]; exact decide_eq_decide.2 (by omega)]
      exact Ev.now _
    · simp only [if_neg (show ¬ (p.size : Int) ≥ 1 by omega)]
      rw [decide_eq_false h1, Bool.false_and]
      exact Ev.now _
  | succ d ih =>
    intro i hd hi hall
    have hlt : i < p.size := by omega
    refine evs ?_
    simp only [chargeparkref36_Valid.l0, if_pos (show (i : Int) < (p.size : Int) by omega), if_pos (show (0 : Int) ≤ (i : Int) by omega), pl_bt p i hlt, pl_wrap (x := (i : Int) + 1) (by omega) (by omega)]
    have hgo : okN (p[i]'hlt).toNat = true → Ev (fun k => chargeparkref36_Valid.l0 k p ((i : Int) + 1)) (validP p) := fun ho => by
      have := ih (i + 1) (by omega) (by omega) (fun j h hj => by
        by_cases e : j = i
        · subst e; exact ho
        · exact hall j h (by omega))
      exact this
    have hno : okN (p[i]'hlt).toNat = false → Ev (fun _ => some false) (validP p) := fun ho => by
      rw [validP_bad p i hlt ho]; exact Ev.now _
    by_cases c1 : ((p[i]'hlt).toNat : Int) ≥ 65 <;> by_cases c2 : ((p[i]'hlt).toNat : Int) ≥ 48 <;> by_cases c3 : ((p[i]'hlt).toNat : Int) ≤ 90 <;> by_cases c4 : ((p[i]'hlt).toNat : Int) ≤ 57 <;>
      simp only [c1, c2, c3, c4, if_true, if_false] <;>
      first
      | exact hgo ((okN_eq _).2 (by omega))
      | exact hno (by rw [Bool.eq_false_iff]; intro h; rw [okN_eq] at h; omega)

theorem pl_valid (p : ByteArray) (hp : p.size ≤ 4000000000000000000) : Ev (fun k => chargeparkref36_Valid.f k p) (validP p) := by
  unfold chargeparkref36_Valid.f
  exact pl_valid_l p hp p.size 0 (by omega) (by omega) (fun j h hj => by omega)

theorem pl_dist {a b : ByteArray} (ha : validP a = true) (hb : validP b = true) : plate_Distance.f a b = some (D (chr a) (chr b) a.size b.size, 0) := by
  unfold plate_Distance.f distF; rw [ha, hb]; rfl

theorem pl_bound {a b : ByteArray} (ha : validP a = true) (hb : validP b = true) : 0 ≤ D (chr a) (chr b) a.size b.size ∧ D (chr a) (chr b) a.size b.size ≤ 40 := by
  have h := D_bounds (chr a) (chr b) a.size b.size
  have h1 := validP_size a ha
  have h2 := validP_size b hb
  omega

theorem pl_val (a b : ByteArray) (n : Int) (h : validP a = true) (k : validP b = true) (hd : Dist (signs a) (signs b) n) : chargeparklaw36_is.f a b n = some true := by
  unfold chargeparklaw36_is.f
  rw [pl_dist h k]
  simp only [Option.bind_some, if_true]
  rw [(D_signs a b).unique hd]
  simp

theorem D00 (a b : Nat → Int) (k : Nat) : D a b 0 k = 2 * k := by rw [D]
theorem Ds0 (a b : Nat → Int) (i : Nat) : D a b (i + 1) 0 = 2 * (i + 1) := by rw [D]
theorem Dss (a b : Nat → Int) (i k : Nat) : D a b (i + 1) (k + 1) = min3 (D a b i k + exchangeI (a i) (b k)) (D a b i (k + 1) + 2) (D a b (i + 1) k + 2) := by rw [D]

theorem pl_is (a b : ByteArray) (n : Int) (h : validP a = true) (k : validP b = true) (hd : D (chr a) (chr b) a.size b.size = n) : chargeparklaw36_is.f a b n = some true := by
  unfold chargeparklaw36_is.f
  rw [pl_dist h k, hd]
  simp

theorem pl_bad (a b : ByteArray) (h : (validP a && validP b) = false) : plate_Distance.f a b = some (0, 1) := by
  unfold plate_Distance.f distF; rw [h]; rfl

theorem pl_head : Ev (fun k => chargeparklaw36_head.f k) true := by
  refine evs ?_
  unfold chargeparklaw36_head.f
  simp only [pl_bad ⟨#[]⟩ ⟨#[65]⟩ (by decide +kernel), pl_bad ⟨#[65]⟩ ⟨#[97]⟩ (by decide +kernel), Option.bind_some, if_true, plate_Valid.f,
    show validP (⟨#[65, 66, 67, 68, 69, 70, 71, 72, 48, 57]⟩ : ByteArray) = true by decide +kernel, show validP (⟨#[65, 66, 67, 68, 69, 70, 71, 72, 48, 57, 49]⟩ : ByteArray) = false by decide +kernel, chargeparklaw36_head.j0, Bool.not_false]
  rw [pl_is ⟨#[65, 66, 49, 50]⟩ ⟨#[65, 66, 49, 50]⟩ 0 (by decide +kernel) (by decide +kernel) (by show D _ _ (3 + 1) (3 + 1) = 0; simp only [Dss, Ds0, D00]; decide +kernel), pl_is ⟨#[65, 66, 49, 50]⟩ ⟨#[65, 56, 49, 50]⟩ 1 (by decide +kernel) (by decide +kernel) (by show D _ _ (3 + 1) (3 + 1) = 1; simp only [Dss, Ds0, D00]; decide +kernel), pl_is ⟨#[65, 66, 49, 50]⟩ ⟨#[65, 66, 49, 51]⟩ 2 (by decide +kernel) (by decide +kernel) (by show D _ _ (3 + 1) (3 + 1) = 2; simp only [Dss, Ds0, D00]; decide +kernel), pl_is ⟨#[65, 66, 49, 50]⟩ ⟨#[66, 49, 50]⟩ 2 (by decide +kernel) (by decide +kernel) (by show D _ _ (3 + 1) (2 + 1) = 2; simp only [Dss, Ds0, D00]; decide +kernel), pl_is ⟨#[79, 79, 55]⟩ ⟨#[48, 48, 55]⟩ 2 (by decide +kernel) (by decide +kernel) (by show D _ _ (2 + 1) (2 + 1) = 2; simp only [Dss, Ds0, D00]; decide +kernel), pl_is ⟨#[65]⟩ ⟨#[49, 48]⟩ 4 (by decide +kernel) (by decide +kernel) (by show D _ _ (0 + 1) (1 + 1) = 4; simp only [Dss, Ds0, D00]; decide +kernel)]
  exact Ev.now _

theorem pl_plates_l (l : List ByteArray) (hl : ∀ p ∈ l, p.size ≤ 4000000000000000000) (hn : l.length ≤ 1000) : ∀ d i : Nat, l.length - i = d → i ≤ l.length → (∀ j (h : j < l.length), j < i → validP (l[j]'h) = true) →
    Ev (fun k => chargeparklaw36_plates.l0 k l (i : Int)) (l.all validP) := by
  intro d
  induction d with
  | zero =>
    intro i hd hi hall
    have e : i = l.length := by omega
    refine evs ?_
    simp only [chargeparklaw36_plates.l0, if_neg (show ¬ ((i : Int) < (l.length : Int)) by omega)]
    rw [show l.all validP = true from List.all_eq_true.2 (fun x hx => by
      obtain ⟨j, hj, rfl⟩ := List.getElem_of_mem hx
      exact hall j hj (by omega))]
    exact Ev.now _
  | succ d ih =>
    intro i hd hi hall
    have hlt : i < l.length := by omega
    refine evs ?_
    have hrd : rdOf ByteArray.empty l (i : Int) = l[i]'hlt := by
      unfold rdOf; simp [List.getD, hlt]
    simp only [chargeparklaw36_plates.l0, if_pos (show (i : Int) < (l.length : Int) by omega), if_pos (show (0 : Int) ≤ (i : Int) by omega), hrd, pl_wrap (x := (i : Int) + 1) (by omega) (by omega)]
    refine Ev.bind (pl_valid (l[i]'hlt) (hl _ (List.getElem_mem hlt))) ?_
    cases hv : validP (l[i]'hlt)
    · rw [show l.all validP = false from List.all_eq_false.2 ⟨l[i]'hlt, List.getElem_mem hlt, by rw [hv]; decide⟩]
      exact Ev.now _
    · simp only [if_true]
      exact ih (i + 1) (by omega) (by omega) (fun j h hj => by
        by_cases e : j = i
        · subst e; exact hv
        · exact hall j h (by omega))

theorem pl_plates (l : List ByteArray) (hl : ∀ p ∈ l, p.size ≤ 4000000000000000000) (hn : l.length ≤ 1000) : Ev (fun k => chargeparklaw36_plates.f k l) (l.all validP) := by
  unfold chargeparklaw36_plates.f
  exact pl_plates_l l hl hn l.length 0 (by omega) (by omega) (fun j h hj => by omega)

/-- A text read backward. -/
def back (a : ByteArray) : ByteArray := ⟨a.data.reverse⟩
theorem back_signs (a : ByteArray) : signs (back a) = (signs a).reverse := by
  unfold signs back
  rw [Array.toList_reverse, List.map_reverse]
theorem back_size (a : ByteArray) : (back a).size = a.size := by
  show a.data.reverse.size = a.data.size
  rw [Array.size_reverse]
theorem back_valid {a : ByteArray} (h : validP a = true) : validP (back a) = true := by
  unfold validP at h ⊢
  rw [back_size]
  rw [Bool.and_eq_true] at h
  rw [Bool.and_eq_true]
  refine ⟨?_, h.2⟩
  have h1 := h.1
  rw [List.all_eq_true] at h1 ⊢
  intro x hx
  exact h1 x (by simpa [back] using hx)

theorem strOfNums_back (a : ByteArray) : strOfNums (signs a).reverse = back a := by
  unfold strOfNums back
  rw [List.map_reverse]
  have : (signs a).map (fun n : Int => UInt8.ofNat n.toNat) = a.data.toList := by
    unfold signs
    rw [List.map_map]
    conv => rhs; rw [← List.map_id a.data.toList]
    exact List.map_congr_left (fun x _ => by simp)
  rw [this]
  congr 1
  apply Array.toList_inj.1
  rw [Array.toList_reverse]

theorem pl_back_l (a : ByteArray) (ha : a.size ≤ 140737488351232) : ∀ n : Nat, n ≤ a.size → Ev (fun k => chargeparklaw36_backward.l0 k a ((signs a).drop n).reverse ((n : Int) - 1)) (back a) := by
  intro n
  induction n with
  | zero =>
    intro hn
    refine evs ?_
    simp only [chargeparklaw36_backward.l0]
    rw [List.drop_zero, strOfNums_back]
    exact Ev.now _
  | succ n ih =>
    intro hn
    refine evs ?_
    have hl : ((signs a).drop (n + 1)).reverse.length < 140737488355328 := by rw [List.length_reverse, List.length_drop, signs_length]; omega
    have hb : bt a (n : Int) = (signs a)[n]'(by rw [signs_length]; omega) := by
      rw [pl_bt a n (by omega)]; simp [signs]; rfl
    simp only [chargeparklaw36_backward.l0, show ((n + 1 : Nat) : Int) - 1 = (n : Int) by omega, if_pos (show (n : Int) ≥ 0 by omega), if_pos (show (0 : Int) ≤ (n : Int) by omega), if_pos (show (n : Int) < (a.size : Int) by omega), if_pos hl, pl_wrap (x := (n : Int) - 1) (by omega) (by omega), hb]
    have := ih (by omega)
    rwa [List.drop_eq_getElem_cons (by rw [signs_length]; omega), List.reverse_cons] at this

theorem pl_back (a : ByteArray) (ha : a.size ≤ 140737488351232) : Ev (fun k => chargeparklaw36_backward.f k a) (back a) := by
  unfold chargeparklaw36_backward.f
  rw [pl_wrap (by omega) (by omega)]
  have := pl_back_l a ha a.size (Nat.le_refl _)
  rwa [List.drop_of_length_le (by rw [signs_length]; omega)] at this

theorem pl_mx (x y : Int) : mx x y = if x < y then y else x := rfl

theorem PlateBounds : chargeparklaw36_PlateBounds.Pure := by
  intro a b ha hb
  unfold chargeparklaw36_PlateBounds.f
  refine Ev.rounds (Ev.bind pl_head ?_)
  refine Ev.bind (pl_plates [a, b] (by simp; omega) (by simp)) ?_
  cases hv : [a, b].all validP
  · exact Ev.now _
  · obtain ⟨va, vb⟩ : validP a = true ∧ validP b = true := by simpa using hv
    simp only [if_true, pl_dist va vb, Option.bind_some]
    refine Ev.bind (pl_back a ha) (Ev.bind (pl_back b hb) ?_)
    have va2 := back_valid va
    have vb2 := back_valid vb
    simp only [pl_dist va2 vb2, Option.bind_some, if_true]
    have b3 := pl_bound va vb
    have s1 := validP_size a va
    have s2 := validP_size b vb
    have e1 : D (chr a) (chr b) a.size b.size = D (chr (back a)) (chr (back b)) (back a).size (back b).size := by
      refine (D_signs a b).unique ?_
      have := (D_signs (back a) (back b)).reverse
      rwa [back_signs, back_signs, List.reverse_reverse, List.reverse_reverse] at this
    have e2 := (D_signs a b).1.lengths
    rw [signs_length, signs_length] at e2
    obtain ⟨n, hn⟩ := Al.upper (signs a) (signs b)
    rw [signs_length, signs_length] at hn
    have e3 : D (chr a) (chr b) a.size b.size ≤ 2 * a.size ∨ D (chr a) (chr b) a.size b.size ≤ 2 * b.size := by
      rcases hn with ⟨h1, h2⟩ | ⟨h1, h2⟩
      · exact .inl (by have := (D_signs a b).le h1; omega)
      · exact .inr (by have := (D_signs a b).le h1; omega)
    have u := (D_signs a b).1.lengths
    rw [if_pos e1, pl_mx, pl_mx, pl_wrap (x := (a.size : Int) - (b.size : Int)) (by omega) (by omega), pl_wrap (x := (b.size : Int) - (a.size : Int)) (by omega) (by omega)]
    generalize D (chr a) (chr b) a.size b.size = m at *
    have e4 : m ≤ 2 * (if (a.size : Int) < b.size then (b.size : Int) else a.size) := by
      obtain ⟨r, hr⟩ := Al.upper (signs a) (signs b)
      split <;> omega
    rw [pl_wrap (by split <;> omega) (by split <;> omega), pl_wrap (by split <;> omega) (by split <;> omega), if_pos (by split <;> omega), decide_eq_true e4]
    exact Ev.now _

end Go.Proofs.YtcpiapenagbapaaDoor.Pure
