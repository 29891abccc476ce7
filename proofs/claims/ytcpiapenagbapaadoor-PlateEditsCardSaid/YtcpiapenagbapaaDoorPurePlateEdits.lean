/-
  For any two plates, one edit of the first one that leads to a plate changes their distance by at most what it costs; its own distance to the plate is at most this, too. The condition is the statement's own: texts that are plates.
-/
import Derived.Test.YtcpiapenagbapaaDoorPPlateEditsx2
import Derived.Test.YtcpiapenagbapaaDoorPlateLaw
namespace Go.Proofs.YtcpiapenagbapaaDoor.Pure
open Go.RowKit Go.Proofs.YtcpiapenagbapaaDoor.PPlateEdits Go.Proofs.YtcpiapenagbapaaDoorW.PrintWords Go.Proofs.YtcpiapenagbapaaDoorW.PrintLast Go.Proofs.YtcpiapenagbapaaDoorW.PrintMore
open Go.Proofs.YtcpiapenagbapaaDoor.PlateWalk Go.Proofs.YtcpiapenagbapaaDoor.PlateDist Go.Proofs.YtcpiapenagbapaaDoor.PlateLaw
set_option linter.unusedSimpArgs false

theorem evs {α : Type} {g : Nat → Option α} {r : α} (h : Ev (fun k => g (k + 1)) r) : Ev g r := Ev.step (fun _ => rfl) h

theorem pl_wrap {x : Int} (h0 : -9000000000000000000 ≤ x) (h1 : x ≤ 9000000000000000000) : wrap64 x = x := by unfold wrap64; omega

theorem pl_bt (p : ByteArray) (i : Nat) (h : i < p.size) : bt p (i : Int) = ((p[i]'h).toNat : Int) := by
  unfold bt; rw [dif_pos (by simpa using h)]; simp

theorem pl_valid_l (p : ByteArray) (hp : p.size ≤ 4000000000000000000) : ∀ d i : Nat, p.size - i = d → i ≤ p.size → (∀ j (h : j < p.size), j < i → okN (p[j]'h).toNat = true) →
    Ev (fun k => chargeparkref36_Valid.l0 k p (i : Int)) (validP p) := by
  intro d
  induction d with
  | zero =>
    intro i hd hi hall
    have e : i = p.size := by omega
    have hv : validP p = (decide (1 ≤ p.size) && decide (p.size ≤ 10)) := by
      unfold validP
      rw [validP_all p (fun j h => hall j h (by omega)), Bool.true_and]
    refine evs ?_
    simp only [chargeparkref36_Valid.l0, if_neg (show ¬ ((i : Int) < (p.size : Int)) by omega)]
    rw [hv]
    by_cases h1 : 1 ≤ p.size
    · simp only [if_pos (show (p.size : Int) ≥ 1 by omega)]
      rw [show (decide ((p.size : Int) ≤ 10)) = (decide (1 ≤ p.size) && decide (p.size ≤ 10)) by
        rw [decide_eq_true h1, Bool.true_and]; exact decide_eq_decide.2 (by omega)]
      exact Ev.now _
    · simp only [if_neg (show ¬ (p.size : Int) ≥ 1 by omega)]
      rw [decide_eq_false h1, Bool.false_and]
      exact Ev.now _
  | succ d ih =>
    intro i hd hi hall
    have hlt : i < p.size := by omega
    refine evs ?_
    simp only [chargeparkref36_Valid.l0, if_pos (show (i : Int) < (p.size : Int) by omega), if_pos (show (0 : Int) ≤ (i : Int) by omega), pl_bt p i hlt, pl_wrap (x := (i : Int) + 1) (by omega) (by omega)]
    have hgo : okN (p[i]'hlt).toNat = true → Ev (fun k => chargeparkref36_Valid.l0 k p ((i : Int) + 1)) (validP p) := fun ho => by
      have := ih (i + 1) (by omega) (by omega) (fun j h hj => by
        by_cases e : j = i
        · subst e; exact ho
        · exact hall j h (by omega))
      exact this
    have hno : okN (p[i]'hlt).toNat = false → Ev (fun _ => some false) (validP p) := fun ho => by
      rw [validP_bad p i hlt ho]; exact Ev.now _
    by_cases c1 : ((p[i]'hlt).toNat : Int) ≥ 65 <;> by_cases c2 : ((p[i]'hlt).toNat : Int) ≥ 48 <;> by_cases c3 : ((p[i]'hlt).toNat : Int) ≤ 90 <;> by_cases c4 : ((p[i]'hlt).toNat : Int) ≤ 57 <;>
      simp only [c1, c2, c3, c4, if_true, if_false] <;>
      first
      | exact hgo ((okN_eq _).2 (by omega))
      | exact hno (by rw [Bool.eq_false_iff]; intro h; rw [okN_eq] at h; omega)

theorem pl_valid (p : ByteArray) (hp : p.size ≤ 4000000000000000000) : Ev (fun k => chargeparkref36_Valid.f k p) (validP p) := by
  unfold chargeparkref36_Valid.f
  exact pl_valid_l p hp p.size 0 (by omega) (by omega) (fun j h hj => by omega)

theorem pl_dist {a b : ByteArray} (ha : validP a = true) (hb : validP b = true) : plate_Distance.f a b = some (D (chr a) (chr b) a.size b.size, 0) := by
  unfold plate_Distance.f distF; rw [ha, hb]; rfl

theorem pl_bound {a b : ByteArray} (ha : validP a = true) (hb : validP b = true) : 0 ≤ D (chr a) (chr b) a.size b.size ∧ D (chr a) (chr b) a.size b.size ≤ 40 := by
  have h := D_bounds (chr a) (chr b) a.size b.size
  have h1 := validP_size a ha
  have h2 := validP_size b hb
  omega

theorem pl_val (a b : ByteArray) (n : Int) (h : validP a = true) (k : validP b = true) (hd : Dist (signs a) (signs b) n) : chargeparklaw36_is.f a b n = some true := by
  unfold chargeparklaw36_is.f
  rw [pl_dist h k]
  simp only [Option.bind_some, if_true]
  rw [(D_signs a b).unique hd]
  simp

theorem D00 (a b : Nat → Int) (k : Nat) : D a b 0 k = 2 * k := by rw [D]
theorem Ds0 (a b : Nat → Int) (i : Nat) : D a b (i + 1) 0 = 2 * (i + 1) := by rw [D]
theorem Dss (a b : Nat → Int) (i k : Nat) : D a b (i + 1) (k + 1) = min3 (D a b i k + exchangeI (a i) (b k)) (D a b i (k + 1) + 2) (D a b (i + 1) k + 2) := by rw [D]

theorem pl_is (a b : ByteArray) (n : Int) (h : validP a = true) (k : validP b = true) (hd : D (chr a) (chr b) a.size b.size = n) : chargeparklaw36_is.f a b n = some true := by
  unfold chargeparklaw36_is.f
  rw [pl_dist h k, hd]
  simp

theorem pl_bad (a b : ByteArray) (h : (validP a && validP b) = false) : plate_Distance.f a b = some (0, 1) := by
  unfold plate_Distance.f distF; rw [h]; rfl

theorem pl_head : Ev (fun k => chargeparklaw36_head.f k) true := by
  refine evs ?_
  unfold chargeparklaw36_head.f
  simp only [pl_bad ⟨#[]⟩ ⟨#[65]⟩ (by decide +kernel), pl_bad ⟨#[65]⟩ ⟨#[97]⟩ (by decide +kernel), Option.bind_some, if_true, plate_Valid.f,
    show validP (⟨#[65, 66, 67, 68, 69, 70, 71, 72, 48, 57]⟩ : ByteArray) = true by decide +kernel, show validP (⟨#[65, 66, 67, 68, 69, 70, 71, 72, 48, 57, 49]⟩ : ByteArray) = false by decide +kernel, chargeparklaw36_head.j0, Bool.not_false]
  rw [pl_is ⟨#[65, 66, 49, 50]⟩ ⟨#[65, 66, 49, 50]⟩ 0 (by decide +kernel) (by decide +kernel) (by show D _ _ (3 + 1) (3 + 1) = 0; simp only [Dss, Ds0, D00]; decide +kernel), pl_is ⟨#[65, 66, 49, 50]⟩ ⟨#[65, 56, 49, 50]⟩ 1 (by decide +kernel) (by decide +kernel) (by show D _ _ (3 + 1) (3 + 1) = 1; simp only [Dss, Ds0, D00]; decide +kernel), pl_is ⟨#[65, 66, 49, 50]⟩ ⟨#[65, 66, 49, 51]⟩ 2 (by decide +kernel) (by decide +kernel) (by show D _ _ (3 + 1) (3 + 1) = 2; simp only [Dss, Ds0, D00]; decide +kernel), pl_is ⟨#[65, 66, 49, 50]⟩ ⟨#[66, 49, 50]⟩ 2 (by decide +kernel) (by decide +kernel) (by show D _ _ (3 + 1) (2 + 1) = 2; simp only [Dss, Ds0, D00]; decide +kernel), pl_is ⟨#[79, 79, 55]⟩ ⟨#[48, 48, 55]⟩ 2 (by decide +kernel) (by decide +kernel) (by show D _ _ (2 + 1) (2 + 1) = 2; simp only [Dss, Ds0, D00]; decide +kernel), pl_is ⟨#[65]⟩ ⟨#[49, 48]⟩ 4 (by decide +kernel) (by decide +kernel) (by show D _ _ (0 + 1) (1 + 1) = 4; simp only [Dss, Ds0, D00]; decide +kernel)]
  exact Ev.now _

theorem pl_plates_l (l : List ByteArray) (hl : ∀ p ∈ l, p.size ≤ 4000000000000000000) (hn : l.length ≤ 1000) : ∀ d i : Nat, l.length - i = d → i ≤ l.length → (∀ j (h : j < l.length), j < i → validP (l[j]'h) = true) →
    Ev (fun k => chargeparklaw36_plates.l0 k l (i : Int)) (l.all validP) := by
  intro d
  induction d with
  | zero =>
    intro i hd hi hall
    have e : i = l.length := by omega
    refine evs ?_
    simp only [chargeparklaw36_plates.l0, if_neg (show ¬ ((i : Int) < (l.length : Int)) by omega)]
    rw [show l.all validP = true from List.all_eq_true.2 (fun x hx => by
      obtain ⟨j, hj, rfl⟩ := List.getElem_of_mem hx
      exact hall j hj (by omega))]
    exact Ev.now _
  | succ d ih =>
    intro i hd hi hall
    have hlt : i < l.length := by omega
    refine evs ?_
    have hrd : rdOf ByteArray.empty l (i : Int) = l[i]'hlt := by
      unfold rdOf; simp [List.getD, hlt]
    simp only [chargeparklaw36_plates.l0, if_pos (show (i : Int) < (l.length : Int) by omega), if_pos (show (0 : Int) ≤ (i : Int) by omega), hrd, pl_wrap (x := (i : Int) + 1) (by omega) (by omega)]
    refine Ev.bind (pl_valid (l[i]'hlt) (hl _ (List.getElem_mem hlt))) ?_
    cases hv : validP (l[i]'hlt)
    · rw [show l.all validP = false from List.all_eq_false.2 ⟨l[i]'hlt, List.getElem_mem hlt, by rw [hv]; decide⟩]
      exact Ev.now _
    · simp only [if_true]
      exact ih (i + 1) (by omega) (by omega) (fun j h hj => by
        by_cases e : j = i
        · subst e; exact hv
        · exact hall j h (by omega))

theorem pl_plates (l : List ByteArray) (hl : ∀ p ∈ l, p.size ≤ 4000000000000000000) (hn : l.length ≤ 1000) : Ev (fun k => chargeparklaw36_plates.f k l) (l.all validP) := by
  unfold chargeparklaw36_plates.f
  exact pl_plates_l l hl hn l.length 0 (by omega) (by omega) (fun j h hj => by omega)

theorem twins_tw (x y : Int) (h : y ≠ 0) : twinsOf x y = true ↔ Go.Proofs.YtcpiapenagbapaaDoor.PlateTwin.twinI x = y := by
  simp only [twinsOf, pairs, List.any_cons, List.any_nil, pairHit, Bool.or_false, Bool.or_eq_true, Bool.and_eq_true, beq_iff_eq]
  constructor
  · rintro ((⟨h1, h2⟩ | ⟨h1, h2⟩) | (⟨h1, h2⟩ | ⟨h1, h2⟩) | (⟨h1, h2⟩ | ⟨h1, h2⟩) | (⟨h1, h2⟩ | ⟨h1, h2⟩) | (⟨h1, h2⟩ | ⟨h1, h2⟩)) <;> subst h1 <;> subst h2 <;> decide
  · intro e
    by_cases c : x = 79 ∨ x = 73 ∨ x = 66 ∨ x = 83 ∨ x = 90 ∨ x = 48 ∨ x = 49 ∨ x = 56 ∨ x = 53 ∨ x = 50
    · rcases c with c | c | c | c | c | c | c | c | c | c <;> subst c <;> subst e <;> decide
    · exfalso
      apply h
      rw [← e]
      unfold Go.Proofs.YtcpiapenagbapaaDoor.PlateTwin.twinI
      simp only [not_or] at c
      simp only [c, if_false]
theorem cost_ex (x y : Int) (h : y ≠ 0) : (if x = y then (0 : Int) else if Go.Proofs.YtcpiapenagbapaaDoor.PlateTwin.twinI x = y then 1 else 2) = exchangeI x y := by
  unfold exchangeI
  by_cases e : x = y
  · rw [if_pos e, if_pos e]
  · rw [if_neg e, if_neg e]
    by_cases c : twinsOf x y = true
    · rw [if_pos c, if_pos ((twins_tw x y h).1 c)]
    · rw [if_neg c, if_neg (fun k => c ((twins_tw x y h).2 k))]
theorem valid_nz {p : ByteArray} (h : validP p = true) : ∀ x ∈ signs p, x ≠ 0 := by
  intro x hx e
  unfold validP at h
  rw [Bool.and_eq_true, List.all_eq_true] at h
  unfold signs at hx
  obtain ⟨b, hb, rfl⟩ := List.mem_map.1 hx
  have := h.1 b hb
  rw [okN_eq] at this
  omega

theorem _root_.Go.Proofs.YtcpiapenagbapaaDoor.PlateLaw.Al.castL {a a' b : List Int} {n : Int} (h : Al a b n) (e : a' = a) : Al a' b n := e ▸ h
theorem signs_extract (a : ByteArray) (i j : Nat) : signs (a.extract i j) = ((signs a).take j).drop i := by
  unfold signs
  rw [ByteArray.data_extract, Array.toList_extract]
  simp [List.extract_eq_take_drop, List.map_take, List.map_drop, List.drop_take]
theorem signs_one (s : Int) (h0 : 0 ≤ s) (h1 : s < 256) : signs (strOfNums [s]) = [s] := by
  unfold signs
  rw [strOfNums_data]
  simp
  omega
theorem signs_split (a : ByteArray) (k : Nat) (h : k < a.size) : signs a = (signs a).take k ++ chr a k :: (signs a).drop (k + 1) := by
  have hl : k < (signs a).length := by rw [signs_length]; exact h
  have e : (signs a)[k] = chr a k := by
    have := upto_chr a
    simp only [← this, upto, List.getElem_map, List.getElem_range]
  rw [← e, List.getElem_cons_drop, List.take_append_drop]

theorem edit_al (a : ByteArray) (at_ kind sign : Int) (c : ByteArray) (n : Int) (h : Go.Proofs.YtcpiapenagbapaaDoor.PlateEdited.editF a at_ kind sign = some (c, n)) (hc : validP c = true) : Al (signs a) (signs c) n := by
  unfold Go.Proofs.YtcpiapenagbapaaDoor.PlateEdited.editF at h
  split at h
  · rename_i cc
    obtain ⟨c1, c2, c3, c4, c5, c6⟩ := cc
    have h0 := Int.tmod_nonneg (a.size : Int) c3
    have h1 := Int.tmod_lt_of_pos at_ (show (0 : Int) < (a.size : Int) by omega)
    have hk : (at_.tmod a.size).toNat < a.size := by omega
    generalize (at_.tmod a.size).toNat = k at h hk
    have h := Option.some.inj h
    have hs := signs_split a k hk
    have ht : ((signs a).take a.size).drop (k + 1) = (signs a).drop (k + 1) := by rw [List.take_of_length_le (by rw [signs_length]; omega)]
    have ht2 : ((signs a).take a.size).drop k = (signs a).drop k := by rw [List.take_of_length_le (by rw [signs_length]; omega)]
    have hd : (signs a).drop k = chr a k :: (signs a).drop (k + 1) := by
      have hl : k < (signs a).length := by rw [signs_length]; exact hk
      rw [List.drop_eq_getElem_cons hl]
      congr 1
      simp only [← upto_chr a, upto, List.getElem_map, List.getElem_range]
    split at h
    · obtain ⟨rfl, rfl⟩ := Prod.mk.inj h
      rw [signs_append, signs_extract, signs_extract, ht, List.drop_zero]
      exact (((Al.refl _).append (Al.del (chr a k) (Al.refl _))).cast (by omega) : Al ((signs a).take k ++ chr a k :: (signs a).drop (k + 1)) _ 2).castL hs
    · split at h
      · obtain ⟨rfl, rfl⟩ := Prod.mk.inj h
        rw [signs_append, signs_append, signs_extract, signs_extract, ht2, List.drop_zero, signs_one sign c5 c6, List.append_assoc]
        exact (((Al.refl _).append (Al.ins sign (Al.refl _))).cast (by omega) : Al ((signs a).take k ++ (signs a).drop k) _ 2).castL (by rw [List.take_append_drop])
      · obtain ⟨rfl, rfl⟩ := Prod.mk.inj h
        have hz : sign ≠ 0 := valid_nz hc sign (by rw [signs_append, signs_append, signs_one sign c5 c6]; simp)
        rw [signs_append, signs_append, signs_extract, signs_extract, ht, List.drop_zero, signs_one sign c5 c6, List.append_assoc, show Go.Proofs.YtcpiapenagbapaaDoor.PlateEdited.costI (chr a k) sign = exchangeI (chr a k) sign from cost_ex _ _ hz]
        exact (((Al.refl _).append (Al.sub (chr a k) sign (Al.refl _))).cast (by omega) : Al ((signs a).take k ++ chr a k :: (signs a).drop (k + 1)) _ _).castL hs
  · cases h

theorem PlateEdits : chargeparklaw36_PlateEdits.Pure := by
  intro a b at_ kind sign ha hb hat hkind hsign
  have hs : 0 ≤ sign ∧ sign < 256 := by
    simp [Lit.wf, IntKind.min, IntKind.max, IntKind.signed, IntKind.bits] at hsign
    omega
  unfold chargeparklaw36_PlateEdits.f
  refine Ev.rounds (Ev.bind pl_head ?_)
  refine Ev.bind (pl_plates [a, b] (by simp; omega) (by simp)) ?_
  have hout : Ev (fun k => chargeparklaw36_PlateEdits.j0 k a b at_ kind sign true true) true := by
    refine evs ?_
    exact Ev.now _
  cases hv : [a, b].all validP
  · exact hout
  · obtain ⟨va, vb⟩ : validP a = true ∧ validP b = true := by simpa using hv
    simp only [if_true]
    by_cases n1 : at_ < 0
    · simp only [if_pos n1]; exact hout
    · simp only [if_neg n1]
      by_cases n2 : kind < 0
      · simp only [decide_eq_true n2]; exact hout
      · simp only [decide_eq_false n2]
        refine evs ?_
        have sa := validP_size a va
        obtain ⟨c, n, he⟩ : ∃ c n, Go.Proofs.YtcpiapenagbapaaDoor.PlateEdited.editF a at_ kind sign = some (c, n) := by
          unfold Go.Proofs.YtcpiapenagbapaaDoor.PlateEdited.editF
          rw [if_pos ⟨by omega, by omega, by omega, by omega, hs.1, hs.2⟩]
          exact ⟨_, _, rfl⟩
        simp only [chargeparklaw36_PlateEdits.j0, if_neg (show ¬ (false = true) by decide), show chargeparklaw36_edited.f a at_ kind sign = some (c, n) from he, Option.bind_some]
        have hcs : c.size ≤ 100 := by
          unfold Go.Proofs.YtcpiapenagbapaaDoor.PlateEdited.editF at he
          rw [if_pos ⟨by omega, by omega, by omega, by omega, hs.1, hs.2⟩] at he
          have he := Option.some.inj he
          split at he
          · obtain ⟨rfl, _⟩ := Prod.mk.inj he
            simp only [ByteArray.size_append, ByteArray.size_extract]; omega
          · split at he
            · obtain ⟨rfl, _⟩ := Prod.mk.inj he
              simp only [ByteArray.size_append, ByteArray.size_extract, strOfNums_size, List.length_singleton]; omega
            · obtain ⟨rfl, _⟩ := Prod.mk.inj he
              simp only [ByteArray.size_append, ByteArray.size_extract, strOfNums_size, List.length_singleton]; omega
        refine Ev.bind (pl_plates [c] (by simp; omega) (by simp)) ?_
        cases hc : [c].all validP
        · exact Ev.now _
        · have vc : validP c = true := by simpa using hc
          simp only [if_true, pl_dist va vb, pl_dist vc vb, pl_dist va vc, Option.bind_some]
          have e0 := (D_signs a c).le (edit_al a at_ kind sign c n he vc)
          have e1 := (D_signs a b).tri (D_signs a c) (D_signs c b)
          have e2 := (D_signs c b).tri (D_signs a c).symm (D_signs a b)
          have b1 := pl_bound va vb
          have b2 := pl_bound vc vb
          rw [pl_wrap (by omega) (by omega), pl_wrap (by omega) (by omega), if_pos (by omega), if_pos (by omega), decide_eq_true e0]
          exact Ev.now _

end Go.Proofs.YtcpiapenagbapaaDoor.Pure
