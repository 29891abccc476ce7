/-
  For any plates that consist of two plates each, the distance is at most the sum of the distances of the parts; with a common beginning, or a common end, it is the distance of the rests. The condition is the statement's own: texts that are plates.
-/
import Derived.Test.YtcpiapenagbapaaDoorPPlatePartsx2
import Derived.Test.YtcpiapenagbapaaDoorPlateLaw
namespace Go.Proofs.YtcpiapenagbapaaDoor.Pure
open Go.RowKit Go.Proofs.YtcpiapenagbapaaDoor.PPlateParts Go.Proofs.YtcpiapenagbapaaDoorW.PrintWords Go.Proofs.YtcpiapenagbapaaDoorW.PrintLast Go.Proofs.YtcpiapenagbapaaDoorW.PrintMore
open Go.Proofs.YtcpiapenagbapaaDoor.PlateWalk Go.Proofs.YtcpiapenagbapaaDoor.PlateDist Go.Proofs.YtcpiapenagbapaaDoor.PlateLaw
set_option linter.unusedSimpArgs false

theorem evs {α : Type} {g : Nat → Option α} {r : α} (h : Ev (fun k => g (k + 1)) r) : Ev g r := Ev.step (fun _ => rfl) h

theorem pl_wrap {x : Int} (h0 : -9000000000000000000 ≤ x) (h1 : x ≤ 9000000000000000000) : wrap64 x = x := by unfold wrap64; omega

theorem pl_bt (p : ByteArray) (i : Nat) (h : i < p.size) : bt p (i : Int) = ((p[i]'h).toNat : Int) := by
  unfold bt; rw [dif_pos (by simpa using h)]; simp

theorem pl_valid_l (p : ByteArray) (hp : p.size ≤ 4000000000000000000) : ∀ d i : Nat, p.size - i = d → i ≤ p.size → (∀ j (h : j < p.size), j < i → okN (p[j]'h).toNat = true) →
    Ev (fun k => chargeparkref36_Valid.l0 k p (i : Int)) (validP p) := by
  intro d
  induction d with
  | zero =>
    intro i hd hi hall
    have e : i = p.size := by omega
    have hv : validP p = (decide (1 ≤ p.size) && decide (p.size ≤ 10)) := by
      unfold validP
      rw [validP_all p (fun j h => hall j h (by omega)), Bool.true_and]
    refine evs ?_
    simp only [chargeparkref36_Valid.l0, if_neg (show ¬ ((i : Int) < (p.size : Int)) by omega)]
    rw [hv]
    by_cases h1 : 1 ≤ p.size
    · simp only [if_pos (show (p.size : Int) ≥ 1 by omega)]
      rw [show (decide ((p.size : Int) ≤ 10)) = (decide (1 ≤ p.size) && decide (p.size ≤ 10)) by
        rw [decide_eq_true h1, Bool.true_and]; exact decide_eq_decide.2 (by omega)]
      exact Ev.now _
    · simp only [if_neg (show ¬ (p.size : Int) ≥ 1 by omega)]
      rw [decide_eq_false h1, Bool.false_and]
      exact Ev.now _
  | succ d ih =>
    intro i hd hi hall
    have hlt : i < p.size := by omega
    refine evs ?_
    simp only [chargeparkref36_Valid.l0, if_pos (show (i : Int) < (p.size : Int) by omega), if_pos (show (0 : Int) ≤ (i : Int) by omega), pl_bt p i hlt, pl_wrap (x := (i : Int) + 1) (by omega) (by omega)]
    have hgo : okN (p[i]'hlt).toNat = true → Ev (fun k => chargeparkref36_Valid.l0 k p ((i : Int) + 1)) (validP p) := fun ho => by
      have := ih (i + 1) (by omega) (by omega) (fun j h hj => by
        by_cases e : j = i
        · subst e; exact ho
        · exact hall j h (by omega))
      exact this
    have hno : okN (p[i]'hlt).toNat = false → Ev (fun _ => some false) (validP p) := fun ho => by
      rw [validP_bad p i hlt ho]; exact Ev.now _
    by_cases c1 : ((p[i]'hlt).toNat : Int) ≥ 65 <;> by_cases c2 : ((p[i]'hlt).toNat : Int) ≥ 48 <;> by_cases c3 : ((p[i]'hlt).toNat : Int) ≤ 90 <;> by_cases c4 : ((p[i]'hlt).toNat : Int) ≤ 57 <;>
      simp only [c1, c2, c3, c4, if_true, if_false] <;>
      first
      | exact hgo ((okN_eq _).2 (by omega))
      | exact hno (by rw [Bool.eq_false_iff]; intro h; rw [okN_eq] at h; omega)

theorem pl_valid (p : ByteArray) (hp : p.size ≤ 4000000000000000000) : Ev (fun k => chargeparkref36_Valid.f k p) (validP p) := by
  unfold chargeparkref36_Valid.f
  exact pl_valid_l p hp p.size 0 (by omega) (by omega) (fun j h hj => by omega)

theorem pl_dist {a b : ByteArray} (ha : validP a = true) (hb : validP b = true) : plate_Distance.f a b = some (D (chr a) (chr b) a.size b.size, 0) := by
  unfold plate_Distance.f distF; rw [ha, hb]; rfl

theorem pl_bound {a b : ByteArray} (ha : validP a = true) (hb : validP b = true) : 0 ≤ D (chr a) (chr b) a.size b.size ∧ D (chr a) (chr b) a.size b.size ≤ 40 := by
  have h := D_bounds (chr a) (chr b) a.size b.size
  have h1 := validP_size a ha
  have h2 := validP_size b hb
  omega

theorem pl_val (a b : ByteArray) (n : Int) (h : validP a = true) (k : validP b = true) (hd : Dist (signs a) (signs b) n) : chargeparklaw36_is.f a b n = some true := by
  unfold chargeparklaw36_is.f
  rw [pl_dist h k]
  simp only [Option.bind_some, if_true]
  rw [(D_signs a b).unique hd]
  simp

theorem D00 (a b : Nat → Int) (k : Nat) : D a b 0 k = 2 * k := by rw [D]
theorem Ds0 (a b : Nat → Int) (i : Nat) : D a b (i + 1) 0 = 2 * (i + 1) := by rw [D]
theorem Dss (a b : Nat → Int) (i k : Nat) : D a b (i + 1) (k + 1) = min3 (D a b i k + exchangeI (a i) (b k)) (D a b i (k + 1) + 2) (D a b (i + 1) k + 2) := by rw [D]

theorem pl_is (a b : ByteArray) (n : Int) (h : validP a = true) (k : validP b = true) (hd : D (chr a) (chr b) a.size b.size = n) : chargeparklaw36_is.f a b n = some true := by
  unfold chargeparklaw36_is.f
  rw [pl_dist h k, hd]
  simp

theorem pl_bad (a b : ByteArray) (h : (validP a && validP b) = false) : plate_Distance.f a b = some (0, 1) := by
  unfold plate_Distance.f distF; rw [h]; rfl

theorem pl_head : Ev (fun k => chargeparklaw36_head.f k) true := by
  refine evs ?_
  unfold chargeparklaw36_head.f
  simp only [pl_bad ⟨#[]⟩ ⟨#[65]⟩ (by decide +kernel), pl_bad ⟨#[65]⟩ ⟨#[97]⟩ (by decide +kernel), Option.bind_some, if_true, plate_Valid.f,
    show validP (⟨#[65, 66, 67, 68, 69, 70, 71, 72, 48, 57]⟩ : ByteArray) = true by decide +kernel, show validP (⟨#[65, 66, 67, 68, 69, 70, 71, 72, 48, 57, 49]⟩ : ByteArray) = false by decide +kernel, chargeparklaw36_head.j0, Bool.not_false]
  rw [pl_is ⟨#[65, 66, 49, 50]⟩ ⟨#[65, 66, 49, 50]⟩ 0 (by decide +kernel) (by decide +kernel) (by show D _ _ (3 + 1) (3 + 1) = 0; simp only [Dss, Ds0, D00]; decide +kernel), pl_is ⟨#[65, 66, 49, 50]⟩ ⟨#[65, 56, 49, 50]⟩ 1 (by decide +kernel) (by decide +kernel) (by show D _ _ (3 + 1) (3 + 1) = 1; simp only [Dss, Ds0, D00]; decide +kernel), pl_is ⟨#[65, 66, 49, 50]⟩ ⟨#[65, 66, 49, 51]⟩ 2 (by decide +kernel) (by decide +kernel) (by show D _ _ (3 + 1) (3 + 1) = 2; simp only [Dss, Ds0, D00]; decide +kernel), pl_is ⟨#[65, 66, 49, 50]⟩ ⟨#[66, 49, 50]⟩ 2 (by decide +kernel) (by decide +kernel) (by show D _ _ (3 + 1) (2 + 1) = 2; simp only [Dss, Ds0, D00]; decide +kernel), pl_is ⟨#[79, 79, 55]⟩ ⟨#[48, 48, 55]⟩ 2 (by decide +kernel) (by decide +kernel) (by show D _ _ (2 + 1) (2 + 1) = 2; simp only [Dss, Ds0, D00]; decide +kernel), pl_is ⟨#[65]⟩ ⟨#[49, 48]⟩ 4 (by decide +kernel) (by decide +kernel) (by show D _ _ (0 + 1) (1 + 1) = 4; simp only [Dss, Ds0, D00]; decide +kernel)]
  exact Ev.now _

theorem pl_plates_l (l : List ByteArray) (hl : ∀ p ∈ l, p.size ≤ 4000000000000000000) (hn : l.length ≤ 1000) : ∀ d i : Nat, l.length - i = d → i ≤ l.length → (∀ j (h : j < l.length), j < i → validP (l[j]'h) = true) →
    Ev (fun k => chargeparklaw36_plates.l0 k l (i : Int)) (l.all validP) := by
  intro d
  induction d with
  | zero =>
    intro i hd hi hall
    have e : i = l.length := by omega
    refine evs ?_
    simp only [chargeparklaw36_plates.l0, if_neg (show ¬ ((i : Int) < (l.length : Int)) by omega)]
    rw [show l.all validP = true from List.all_eq_true.2 (fun x hx => by
      obtain ⟨j, hj, rfl⟩ := List.getElem_of_mem hx
      exact hall j hj (by omega))]
    exact Ev.now _
  | succ d ih =>
    intro i hd hi hall
    have hlt : i < l.length := by omega
    refine evs ?_
    have hrd : rdOf ByteArray.empty l (i : Int) = l[i]'hlt := by
      unfold rdOf; simp [List.getD, hlt]
    simp only [chargeparklaw36_plates.l0, if_pos (show (i : Int) < (l.length : Int) by omega), if_pos (show (0 : Int) ≤ (i : Int) by omega), hrd, pl_wrap (x := (i : Int) + 1) (by omega) (by omega)]
    refine Ev.bind (pl_valid (l[i]'hlt) (hl _ (List.getElem_mem hlt))) ?_
    cases hv : validP (l[i]'hlt)
    · rw [show l.all validP = false from List.all_eq_false.2 ⟨l[i]'hlt, List.getElem_mem hlt, by rw [hv]; decide⟩]
      exact Ev.now _
    · simp only [if_true]
      exact ih (i + 1) (by omega) (by omega) (fun j h hj => by
        by_cases e : j = i
        · subst e; exact hv
        · exact hall j h (by omega))

theorem pl_plates (l : List ByteArray) (hl : ∀ p ∈ l, p.size ≤ 4000000000000000000) (hn : l.length ≤ 1000) : Ev (fun k => chargeparklaw36_plates.f k l) (l.all validP) := by
  unfold chargeparklaw36_plates.f
  exact pl_plates_l l hl hn l.length 0 (by omega) (by omega) (fun j h hj => by omega)

/-- The law asks of texts that are put together: they may be longer than the texts that came in. -/
theorem pl_plates2 (a b c d : ByteArray) (ha : a.size ≤ 140737488351232) (hb : b.size ≤ 140737488351232) (hc : c.size ≤ 140737488351232) (hd : d.size ≤ 140737488351232) :
    Ev (fun k => chargeparklaw36_plates.f k [a, b, c, d, a ++ c, b ++ d, a ++ b, a ++ d, c ++ b]) ([a, b, c, d, a ++ c, b ++ d, a ++ b, a ++ d, c ++ b].all validP) :=
  pl_plates _ (by simp; omega) (by simp)

theorem PlateParts : chargeparklaw36_PlateParts.Pure := by
  intro a b c d ha hb hc hd
  unfold chargeparklaw36_PlateParts.f
  refine Ev.rounds (Ev.bind pl_head ?_)
  simp only [if_pos (show a.size + c.size ≤ 9223372036854775807 by omega), if_pos (show b.size + d.size ≤ 9223372036854775807 by omega), if_pos (show a.size + b.size ≤ 9223372036854775807 by omega), if_pos (show a.size + d.size ≤ 9223372036854775807 by omega), if_pos (show c.size + b.size ≤ 9223372036854775807 by omega)]
  refine Ev.bind (a := [a, b, c, d, a ++ c, b ++ d, a ++ b, a ++ d, c ++ b].all validP) (pl_plates2 a b c d ha hb hc hd) ?_
  cases hv : [a, b, c, d, a ++ c, b ++ d, a ++ b, a ++ d, c ++ b].all validP
  · exact Ev.now _
  · obtain ⟨va, vb, vc, vd, vac, vbd, vab, vad, vcb⟩ : validP a = true ∧ validP b = true ∧ validP c = true ∧ validP d = true ∧ validP (a ++ c) = true ∧ validP (b ++ d) = true ∧ validP (a ++ b) = true ∧ validP (a ++ d) = true ∧ validP (c ++ b) = true := by simpa using hv
    simp only [if_true, pl_dist vac vbd, pl_dist va vb, pl_dist vc vd, pl_dist vab vad, pl_dist vb vd, pl_dist vab vcb, pl_dist va vc, Option.bind_some]
    have b1 := pl_bound va vb
    have b2 := pl_bound vc vd
    have e1 : D (chr (a ++ c)) (chr (b ++ d)) (a ++ c).size (b ++ d).size ≤ D (chr a) (chr b) a.size b.size + D (chr c) (chr d) c.size d.size := by
      refine (D_signs (a ++ c) (b ++ d)).le ?_
      rw [signs_append, signs_append]
      exact (D_signs a b).1.append (D_signs c d).1
    have e2 : D (chr (a ++ b)) (chr (a ++ d)) (a ++ b).size (a ++ d).size = D (chr b) (chr d) b.size d.size := by
      refine (D_signs (a ++ b) (a ++ d)).unique ?_
      rw [signs_append, signs_append]
      exact (D_signs b d).prefix_ _
    have e3 : D (chr (a ++ b)) (chr (c ++ b)) (a ++ b).size (c ++ b).size = D (chr a) (chr c) a.size c.size := by
      refine (D_signs (a ++ b) (c ++ b)).unique ?_
      rw [signs_append, signs_append]
      exact (D_signs a c).suffix_ _
    rw [pl_wrap (by omega) (by omega), if_pos e1, if_pos e2, e3, beq_self_eq_true]
    exact Ev.now _

end Go.Proofs.YtcpiapenagbapaaDoor.Pure
