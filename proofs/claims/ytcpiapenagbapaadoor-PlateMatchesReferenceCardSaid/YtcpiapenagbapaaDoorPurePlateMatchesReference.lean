/-
  For all texts of up to 30 bytes, both functions return what the reference implementation returns. The condition is the statement's own: texts that are plates.
-/
import Derived.Test.YtcpiapenagbapaaDoorPPlateMatchesReferencex3
import Derived.Test.YtcpiapenagbapaaDoorPlateLaw
namespace Go.Proofs.YtcpiapenagbapaaDoor.Pure
open Go.RowKit Go.Proofs.YtcpiapenagbapaaDoor.PPlateMatchesReference Go.Proofs.YtcpiapenagbapaaDoorW.PrintWords Go.Proofs.YtcpiapenagbapaaDoorW.PrintLast Go.Proofs.YtcpiapenagbapaaDoorW.PrintMore
open Go.Proofs.YtcpiapenagbapaaDoor.PlateWalk Go.Proofs.YtcpiapenagbapaaDoor.PlateDist Go.Proofs.YtcpiapenagbapaaDoor.PlateLaw
set_option linter.unusedSimpArgs false

theorem evs {α : Type} {g : Nat → Option α} {r : α} (h : Ev (fun k => g (k + 1)) r) : Ev g r := Ev.step (fun _ => rfl) h

theorem pl_wrap {x : Int} (h0 : -9000000000000000000 ≤ x) (h1 : x ≤ 9000000000000000000) : wrap64 x = x := by unfold wrap64; omega

theorem pl_bt (p : ByteArray) (i : Nat) (h : i < p.size) : bt p (i : Int) = ((p[i]'h).toNat : Int) := by
  unfold bt; rw [dif_pos (by simpa using h)]; simp

theorem pl_valid_l (p : ByteArray) (hp : p.size ≤ 4000000000000000000) : ∀ d i : Nat, p.size - i = d → i ≤ p.size → (∀ j (h : j < p.size), j < i → okN (p[j]'h).toNat = true) →
    Ev (fun k => chargeparkref36_Valid.l0 k p (i : Int)) (validP p) := by
  intro d
  induction d with
  | zero =>
    intro i hd hi hall
    have e : i = p.size := by omega
    have hv : validP p = (decide (1 ≤ p.size) && decide (p.size ≤ 10)) := by
      unfold validP
      rw [validP_all p (fun j h => hall j h (by omega)), Bool.true_and]
    refine evs ?_
    simp only [chargeparkref36_Valid.l0, if_neg (show ¬ ((i : Int) < (p.size : Int)) by omega)]
    rw [hv]
    by_cases h1 : 1 ≤ p.size
    · simp only [if_pos (show (p.size : Int) ≥ 1 by omega)]
      rw [show (decide ((p.size : Int) ≤ 10)) = (decide (1 ≤ p.size) && decide (p.size ≤ 10)) by
        rw [decide_eq_true h1, Bool.true_and]; exact decide_eq_decide.2 (by omega)]
      exact Ev.now _
    · simp only [if_neg (show ¬ (p.size : Int) ≥ 1 by omega)]
      rw [decide_eq_false h1, Bool.false_and]
      exact Ev.now _
  | succ d ih =>
    intro i hd hi hall
    have hlt : i < p.size := by omega
    refine evs ?_
    simp only [chargeparkref36_Valid.l0, if_pos (show (i : Int) < (p.size : Int) by omega), if_pos (show (0 : Int) ≤ (i : Int) by omega), pl_bt p i hlt, pl_wrap (x := (i : Int) + 1) (by omega) (by omega)]
    have hgo : okN (p[i]'hlt).toNat = true → Ev (fun k => chargeparkref36_Valid.l0 k p ((i : Int) + 1)) (validP p) := fun ho => by
      have := ih (i + 1) (by omega) (by omega) (fun j h hj => by
        by_cases e : j = i
        · subst e; exact ho
        · exact hall j h (by omega))
      exact this
    have hno : okN (p[i]'hlt).toNat = false → Ev (fun _ => some false) (validP p) := fun ho => by
      rw [validP_bad p i hlt ho]; exact Ev.now _
    by_cases c1 : ((p[i]'hlt).toNat : Int) ≥ 65 <;> by_cases c2 : ((p[i]'hlt).toNat : Int) ≥ 48 <;> by_cases c3 : ((p[i]'hlt).toNat : Int) ≤ 90 <;> by_cases c4 : ((p[i]'hlt).toNat : Int) ≤ 57 <;>
      simp only [c1, c2, c3, c4, if_true, if_false] <;>
      first
      | exact hgo ((okN_eq _).2 (by omega))
      | exact hno (by rw [Bool.eq_false_iff]; intro h; rw [okN_eq] at h; omega)

theorem pl_valid (p : ByteArray) (hp : p.size ≤ 4000000000000000000) : Ev (fun k => chargeparkref36_Valid.f k p) (validP p) := by
  unfold chargeparkref36_Valid.f
  exact pl_valid_l p hp p.size 0 (by omega) (by omega) (fun j h hj => by omega)

theorem pl_dist {a b : ByteArray} (ha : validP a = true) (hb : validP b = true) : plate_Distance.f a b = some (D (chr a) (chr b) a.size b.size, 0) := by
  unfold plate_Distance.f distF; rw [ha, hb]; rfl

theorem pl_bound {a b : ByteArray} (ha : validP a = true) (hb : validP b = true) : 0 ≤ D (chr a) (chr b) a.size b.size ∧ D (chr a) (chr b) a.size b.size ≤ 40 := by
  have h := D_bounds (chr a) (chr b) a.size b.size
  have h1 := validP_size a ha
  have h2 := validP_size b hb
  omega

theorem pl_val (a b : ByteArray) (n : Int) (h : validP a = true) (k : validP b = true) (hd : Dist (signs a) (signs b) n) : chargeparklaw36_is.f a b n = some true := by
  unfold chargeparklaw36_is.f
  rw [pl_dist h k]
  simp only [Option.bind_some, if_true]
  rw [(D_signs a b).unique hd]
  simp

theorem D00 (a b : Nat → Int) (k : Nat) : D a b 0 k = 2 * k := by rw [D]
theorem Ds0 (a b : Nat → Int) (i : Nat) : D a b (i + 1) 0 = 2 * (i + 1) := by rw [D]
theorem Dss (a b : Nat → Int) (i k : Nat) : D a b (i + 1) (k + 1) = min3 (D a b i k + exchangeI (a i) (b k)) (D a b i (k + 1) + 2) (D a b (i + 1) k + 2) := by rw [D]

theorem pl_is (a b : ByteArray) (n : Int) (h : validP a = true) (k : validP b = true) (hd : D (chr a) (chr b) a.size b.size = n) : chargeparklaw36_is.f a b n = some true := by
  unfold chargeparklaw36_is.f
  rw [pl_dist h k, hd]
  simp

theorem pl_bad (a b : ByteArray) (h : (validP a && validP b) = false) : plate_Distance.f a b = some (0, 1) := by
  unfold plate_Distance.f distF; rw [h]; rfl

theorem pl_head : Ev (fun k => chargeparklaw36_head.f k) true := by
  refine evs ?_
  unfold chargeparklaw36_head.f
  simp only [pl_bad ⟨#[]⟩ ⟨#[65]⟩ (by decide +kernel), pl_bad ⟨#[65]⟩ ⟨#[97]⟩ (by decide +kernel), Option.bind_some, if_true, plate_Valid.f,
    show validP (⟨#[65, 66, 67, 68, 69, 70, 71, 72, 48, 57]⟩ : ByteArray) = true by decide +kernel, show validP (⟨#[65, 66, 67, 68, 69, 70, 71, 72, 48, 57, 49]⟩ : ByteArray) = false by decide +kernel, chargeparklaw36_head.j0, Bool.not_false]
  rw [pl_is ⟨#[65, 66, 49, 50]⟩ ⟨#[65, 66, 49, 50]⟩ 0 (by decide +kernel) (by decide +kernel) (by show D _ _ (3 + 1) (3 + 1) = 0; simp only [Dss, Ds0, D00]; decide +kernel), pl_is ⟨#[65, 66, 49, 50]⟩ ⟨#[65, 56, 49, 50]⟩ 1 (by decide +kernel) (by decide +kernel) (by show D _ _ (3 + 1) (3 + 1) = 1; simp only [Dss, Ds0, D00]; decide +kernel), pl_is ⟨#[65, 66, 49, 50]⟩ ⟨#[65, 66, 49, 51]⟩ 2 (by decide +kernel) (by decide +kernel) (by show D _ _ (3 + 1) (3 + 1) = 2; simp only [Dss, Ds0, D00]; decide +kernel), pl_is ⟨#[65, 66, 49, 50]⟩ ⟨#[66, 49, 50]⟩ 2 (by decide +kernel) (by decide +kernel) (by show D _ _ (3 + 1) (2 + 1) = 2; simp only [Dss, Ds0, D00]; decide +kernel), pl_is ⟨#[79, 79, 55]⟩ ⟨#[48, 48, 55]⟩ 2 (by decide +kernel) (by decide +kernel) (by show D _ _ (2 + 1) (2 + 1) = 2; simp only [Dss, Ds0, D00]; decide +kernel), pl_is ⟨#[65]⟩ ⟨#[49, 48]⟩ 4 (by decide +kernel) (by decide +kernel) (by show D _ _ (0 + 1) (1 + 1) = 4; simp only [Dss, Ds0, D00]; decide +kernel)]
  exact Ev.now _

theorem twins_tw (x y : Int) (h : y ≠ 0) : twinsOf x y = true ↔ Go.Proofs.YtcpiapenagbapaaDoor.PlateTwin.twinI x = y := by
  simp only [twinsOf, pairs, List.any_cons, List.any_nil, pairHit, Bool.or_false, Bool.or_eq_true, Bool.and_eq_true, beq_iff_eq]
  constructor
  · rintro ((⟨h1, h2⟩ | ⟨h1, h2⟩) | (⟨h1, h2⟩ | ⟨h1, h2⟩) | (⟨h1, h2⟩ | ⟨h1, h2⟩) | (⟨h1, h2⟩ | ⟨h1, h2⟩) | (⟨h1, h2⟩ | ⟨h1, h2⟩)) <;> subst h1 <;> subst h2 <;> decide
  · intro e
    by_cases c : x = 79 ∨ x = 73 ∨ x = 66 ∨ x = 83 ∨ x = 90 ∨ x = 48 ∨ x = 49 ∨ x = 56 ∨ x = 53 ∨ x = 50
    · rcases c with c | c | c | c | c | c | c | c | c | c <;> subst c <;> subst e <;> decide
    · exfalso
      apply h
      rw [← e]
      unfold Go.Proofs.YtcpiapenagbapaaDoor.PlateTwin.twinI
      simp only [not_or] at c
      simp only [c, if_false]
theorem cost_ex (x y : Int) (h : y ≠ 0) : (if x = y then (0 : Int) else if Go.Proofs.YtcpiapenagbapaaDoor.PlateTwin.twinI x = y then 1 else 2) = exchangeI x y := by
  unfold exchangeI
  by_cases e : x = y
  · rw [if_pos e, if_pos e]
  · rw [if_neg e, if_neg e]
    by_cases c : twinsOf x y = true
    · rw [if_pos c, if_pos ((twins_tw x y h).1 c)]
    · rw [if_neg c, if_neg (fun k => c ((twins_tw x y h).2 k))]
theorem valid_nz {p : ByteArray} (h : validP p = true) : ∀ x ∈ signs p, x ≠ 0 := by
  intro x hx e
  unfold validP at h
  rw [Bool.and_eq_true, List.all_eq_true] at h
  unfold signs at hx
  obtain ⟨b, hb, rfl⟩ := List.mem_map.1 hx
  have := h.1 b hb
  rw [okN_eq] at this
  omega

theorem _root_.Go.Proofs.YtcpiapenagbapaaDoor.PlateLaw.Al.castL {a a' b : List Int} {n : Int} (h : Al a b n) (e : a' = a) : Al a' b n := e ▸ h
theorem _root_.Go.Proofs.YtcpiapenagbapaaDoor.PlateLaw.Al.castR {a b b' : List Int} {n : Int} (h : Al a b n) (e : b' = b) : Al a b' n := e ▸ h

/-- What the reference computes: from the first signs on. -/
def E : List Int → List Int → Int
  | [], b => 2 * (b.length : Int)
  | _ :: a, [] => 2 * (((a.length + 1 : Nat)) : Int)
  | x :: a, y :: b => mn (mn (E a b + exchangeI x y) (E a (y :: b) + 2)) (E (x :: a) b + 2)

theorem mn_le (x y : Int) : mn x y ≤ x ∧ mn x y ≤ y ∧ (mn x y = x ∨ mn x y = y) := by
  unfold mn; split <;> omega

theorem E_dist : ∀ a b : List Int, Dist a b (E a b)
  | [], b => by
    unfold E
    refine ⟨Al.ins_all b, fun m h => ?_⟩
    have := h.lengths
    simp at this
    omega
  | x :: a, [] => by
    unfold E
    refine ⟨(Al.del_all (x :: a)).cast (by simp), fun m h => ?_⟩
    have := h.lengths
    simp at this
    omega
  | x :: a, y :: b => by
    have h1 := E_dist a b
    have h2 := E_dist a (y :: b)
    have h3 := E_dist (x :: a) b
    unfold E
    obtain ⟨l1, l2, l3⟩ := mn_le (mn (E a b + exchangeI x y) (E a (y :: b) + 2)) (E (x :: a) b + 2)
    obtain ⟨m1, m2, m3⟩ := mn_le (E a b + exchangeI x y) (E a (y :: b) + 2)
    generalize mn (mn (E a b + exchangeI x y) (E a (y :: b) + 2)) (E (x :: a) b + 2) = r at *
    generalize mn (E a b + exchangeI x y) (E a (y :: b) + 2) = s at *
    constructor
    · rcases l3 with e | e
      · rcases m3 with f | f
        · exact (Al.sub x y h1.1).cast (by omega)
        · exact (Al.del x h2.1).cast (by omega)
      · exact (Al.ins y h3.1).cast (by omega)
    · intro m hm
      cases hm with
      | sub _ _ k => have := h1.2 _ k; omega
      | del _ k => have := h2.2 _ k; omega
      | ins _ k => have := h3.2 _ k; omega
termination_by a b => a.length + b.length

theorem E_bound (a b : List Int) : 0 ≤ E a b ∧ E a b ≤ 2 * a.length + 2 * b.length := by
  have h := E_dist a b
  refine ⟨h.1.nonneg, ?_⟩
  have k := h.2 _ ((Al.del_all a).append (Al.ins_all b) |>.castR (by simp) |>.castL (by simp))
  omega

theorem bt_chr (p : ByteArray) (i : Nat) (h : i < p.size) : bt p (i : Int) = chr p i := by
  rw [pl_bt p i h]
  unfold chr
  rw [List.getD_eq_getElem?_getD, List.getElem?_eq_getElem (by simpa using h)]
  rfl
theorem drop_chr (p : ByteArray) (k : Nat) (hk : k < p.size) : (signs p).drop k = chr p k :: (signs p).drop (k + 1) := by
  have hl : k < (signs p).length := by rw [signs_length]; exact hk
  rw [List.drop_eq_getElem_cons hl]
  congr 1
  simp only [← upto_chr p, upto, List.getElem_map, List.getElem_range]

theorem cost_f (x y : Int) (h : y ≠ 0) : chargeparkref36_Cost.f x y = some (exchangeI x y) := by
  unfold chargeparkref36_Cost.f
  rw [← cost_ex x y h]
  by_cases e : x = y
  · rw [if_pos e, if_pos e]
  · rw [if_neg e, if_neg e]
    show (some (Go.Proofs.YtcpiapenagbapaaDoor.PlateTwin.twinI x)).bind _ = _
    rw [Option.bind_some]
    split <;> rfl

/-- The table, where rows from i on are there, and what is right so far. -/
structure Inv (a b : ByteArray) (T : List (List Int)) (i kk : Nat) : Prop where
  rows : T.length = a.size + 1
  row : ∀ r, i ≤ r → r ≤ a.size → (T.getD r []).length = b.size + 1
  val : ∀ r j, r ≤ a.size → j ≤ b.size → (i < r ∨ r = i ∧ kk ≤ j) → (T.getD r []).getD j 0 = E ((signs a).drop r) ((signs b).drop j)

theorem getD_set {α : Type} (l : List α) (i : Nat) (x d : α) (r : Nat) (h : i < l.length) : (l.set i x).getD r d = if r = i then x else l.getD r d := by
  rw [List.getD_eq_getElem?_getD, List.getD_eq_getElem?_getD, List.getElem?_set]
  by_cases e : r = i
  · subst e; rw [if_pos rfl, if_pos h, if_pos rfl]; rfl
  · rw [if_neg (fun k => e k.symm), if_neg e]

theorem Inv.put {a b : ByteArray} {T : List (List Int)} {i kk : Nat} (h : Inv a b T i (kk + 1)) (hi : i ≤ a.size) (hk : kk ≤ b.size) (v : Int) (hv : v = E ((signs a).drop i) ((signs b).drop kk)) :
    Inv a b (T.set i ((T.getD i []).set kk v)) i kk := by
  have hl := h.rows
  have hr := h.row i (Nat.le_refl _) hi
  refine ⟨by rw [List.length_set]; exact hl, fun r h1 h2 => ?_, fun r j h1 h2 h3 => ?_⟩
  · rw [getD_set _ _ _ _ _ (by omega)]
    split
    · rw [List.length_set]; exact hr
    · exact h.row r h1 h2
  · rw [getD_set _ _ _ _ _ (by omega)]
    split
    · rename_i e
      subst e
      rw [getD_set _ _ _ _ _ (by omega)]
      split
      · rename_i e2; subst e2; exact hv
      · exact h.val r j h1 h2 (by omega)
    · exact h.val r j h1 h2 (by omega)

theorem rd_at (T : List (List Int)) (i : Nat) : rd_L4 T (i : Int) = T.getD i [] := rfl
theorem rd_in (l : List Int) (i : Nat) : rd l (i : Int) = l.getD i 0 := rfl
theorem at_set (T : List (List Int)) (i : Nat) (x : List Int) : T.set (i : Int).toNat x = T.set i x := rfl

theorem dist_l0 (a b : ByteArray) (ha : a.size ≤ 10) (hb : b.size ≤ 10) (hz : validP b = true) : ∀ ii, ii ≤ a.size + 1 → ∀ T, Inv a b T ii 0 →
    Ev (fun k => chargeparkref36_Distance.l0 k a b T ((ii : Int) - 1)) (E (signs a) (signs b), (0 : Int)) := by
  intro ii
  induction ii with
  | zero =>
    intro hii T hT
    refine evs ?_
    have h0 := hT.row 0 (Nat.le_refl _) (Nat.zero_le _)
    have h1 := hT.rows
    simp only [chargeparkref36_Distance.l0, if_neg (show ¬ (((0 : Nat) : Int) - 1 ≥ 0) by omega), if_pos (show (0 : Int) < (T.length : Int) by omega)]
    rw [show rd_L4 T 0 = T.getD 0 [] from rfl]
    simp only [if_pos (show (0 : Int) < ((T.getD 0 []).length : Int) by omega)]
    rw [show rd (T.getD 0 []) 0 = (T.getD 0 []).getD 0 0 from rfl, hT.val 0 0 (Nat.zero_le _) (Nat.zero_le _) (by omega), List.drop_zero, List.drop_zero]
    exact Ev.now _
  | succ i ih =>
    intro hii T hT
    have hi : i ≤ a.size := by omega
    have hlen := hT.rows
    have inner : ∀ kk, kk ≤ b.size + 1 → ∀ T, Inv a b T i kk → Ev (fun k => chargeparkref36_Distance.l1 k a b T (i : Int) ((kk : Int) - 1)) (E (signs a) (signs b), (0 : Int)) := by
      intro kk
      induction kk with
      | zero =>
        intro hkk T hT
        refine evs ?_
        simp only [chargeparkref36_Distance.l1, if_neg (show ¬ (((0 : Nat) : Int) - 1 ≥ 0) by omega), pl_wrap (x := (i : Int) - 1) (by omega) (by omega)]
        exact ih (by omega) T ⟨hT.rows, fun r h1 h2 => hT.row r h1 h2, fun r j h1 h2 h3 => hT.val r j h1 h2 (by omega)⟩
      | succ k ihk =>
        intro hkk T hT
        have hk : k ≤ b.size := by omega
        have hlen := hT.rows
        have hrow := hT.row i (Nat.le_refl _) hi
        refine evs ?_
        have e1 : (((k + 1 : Nat) : Int) - 1) = (k : Int) := by omega
        rw [e1]
        simp only [chargeparkref36_Distance.l1, rd_at, at_set, if_pos (show (k : Int) ≥ 0 by omega), if_pos (show (0 : Int) ≤ (k : Int) by omega), if_pos (show (0 : Int) ≤ (i : Int) by omega), if_pos (show (i : Int) < (T.length : Int) by omega), if_pos (show (k : Int) < ((T.getD i []).length : Int) by omega), pl_wrap (x := (k : Int) - 1) (by omega) (by omega)]
        by_cases c1 : i = a.size
        · simp only [if_pos (show (i : Int) = (a.size : Int) by omega)]
          refine ihk (by omega) _ (hT.put hi hk _ ?_)
          rw [pl_wrap (x := (b.size : Int) - (k : Int)) (by omega) (by omega), pl_wrap (by omega) (by omega), List.drop_of_length_le (by rw [signs_length]; omega)]
          unfold E
          rw [List.length_drop, signs_length]
          omega
        · simp only [if_neg (show ¬ (i : Int) = (a.size : Int) by omega)]
          have hia : i < a.size := by omega
          by_cases c2 : k = b.size
          · simp only [if_pos (show (k : Int) = (b.size : Int) by omega)]
            refine ihk (by omega) _ (hT.put hi hk _ ?_)
            rw [pl_wrap (x := (a.size : Int) - (i : Int)) (by omega) (by omega), pl_wrap (by omega) (by omega), drop_chr a i hia, List.drop_of_length_le (l := signs b) (i := k) (by rw [signs_length]; omega)]
            unfold E
            rw [List.length_drop, signs_length]
            omega
          · have hkb : k < b.size := by omega
            have w1 : wrap64 ((i : Int) + 1) = ((i + 1 : Nat) : Int) := by rw [pl_wrap (by omega) (by omega)]; omega
            have w2 : wrap64 ((k : Int) + 1) = ((k + 1 : Nat) : Int) := by rw [pl_wrap (by omega) (by omega)]; omega
            have hrow2 := hT.row (i + 1) (by omega) (by omega)
            have hz2 : chr b k ≠ 0 := valid_nz hz _ (by
              have := drop_chr b k hkb
              exact List.mem_of_mem_drop (i := k) (by rw [this]; exact List.mem_cons_self))
            have v1 := hT.val (i + 1) (k + 1) (by omega) (by omega) (by omega)
            have v2 := hT.val (i + 1) k (by omega) (by omega) (by omega)
            have v3 := hT.val i (k + 1) (by omega) (by omega) (by omega)
            have b1 := E_bound ((signs a).drop (i + 1)) ((signs b).drop (k + 1))
            have b2 := E_bound ((signs a).drop (i + 1)) ((signs b).drop k)
            have b3 := E_bound ((signs a).drop i) ((signs b).drop (k + 1))
            have b4 := Go.Proofs.YtcpiapenagbapaaDoor.PlateDist.ex_bounds (chr a i) (chr b k)
            simp only [List.length_drop, signs_length] at b1 b2 b3
            simp only [if_neg (show ¬ (k : Int) = (b.size : Int) by omega), w1, w2, rd_at, rd_in, if_pos (show (0 : Int) ≤ ((i + 1 : Nat) : Int) by omega), if_pos (show ((i + 1 : Nat) : Int) < (T.length : Int) by omega), if_pos (show (0 : Int) ≤ ((k + 1 : Nat) : Int) by omega),
              if_pos (show ((k + 1 : Nat) : Int) < ((T.getD (i + 1) []).length : Int) by omega), if_pos (show (i : Int) < (a.size : Int) by omega), if_pos (show (k : Int) < (b.size : Int) by omega), bt_chr a i hia, bt_chr b k hkb, cost_f _ _ hz2, Option.bind_some,
              if_pos (show (k : Int) < ((T.getD (i + 1) []).length : Int) by omega), if_pos (show ((k + 1 : Nat) : Int) < ((T.getD i []).length : Int) by omega), v1, v2, v3]
            refine ihk (by omega) _ (hT.put hi hk _ ?_)
            rw [pl_wrap (by omega) (by omega), pl_wrap (by omega) (by omega), pl_wrap (by omega) (by omega)]
            rw [drop_chr a i hia, drop_chr b k hkb]
            conv => rhs; unfold E
    refine evs ?_
    have e1 : (((i + 1 : Nat) : Int) - 1) = (i : Int) := by omega
    rw [e1]
    have w1 : wrap64 ((b.size : Int) + 1) = ((b.size + 1 : Nat) : Int) := by rw [pl_wrap (by omega) (by omega)]; omega
    simp only [chargeparkref36_Distance.l0, w1, at_set, if_pos (show (i : Int) ≥ 0 by omega), if_pos (show (0 : Int) ≤ ((b.size + 1 : Nat) : Int) by omega), Int.toNat_natCast, if_pos (show b.size + 1 ≤ 35184372088832 by omega), if_pos (show (0 : Int) ≤ (i : Int) by omega), if_pos (show (i : Int) < (T.length : Int) by omega)]
    have := inner (b.size + 1) (Nat.le_refl _) (T.set i (List.replicate (b.size + 1) 0)) ⟨by rw [List.length_set]; exact hlen, fun r h1 h2 => by
        rw [getD_set _ _ _ _ _ (by omega)]
        split
        · rw [List.length_replicate]
        · exact hT.row r (by omega) h2, fun r j h1 h2 h3 => by
        rw [getD_set _ _ _ _ _ (by omega), if_neg (by omega)]
        exact hT.val r j h1 h2 (by omega)⟩
    rw [show ((b.size + 1 : Nat) : Int) - 1 = (b.size : Int) by omega] at this
    exact this

theorem pl_ref (a b : ByteArray) (ha : a.size ≤ 30) (hb : b.size ≤ 30) : Ev (fun k => chargeparkref36_Distance.f k a b) (if validP a = true ∧ validP b = true then (E (signs a) (signs b), (0 : Int)) else (0, 1)) := by
  unfold chargeparkref36_Distance.f
  refine Ev.bind (pl_valid a (by omega)) (Ev.bind (pl_valid b (by omega)) ?_)
  have hno : Ev (fun k => chargeparkref36_Distance.j0 k a b true) ((0 : Int), (1 : Int)) := by
    refine evs ?_
    exact Ev.now _
  cases va : validP a
  · simp only [if_neg (show ¬ (false = true) by decide), if_neg (show ¬ (false = true ∧ validP b = true) by simp)]
    exact hno
  · cases vb : validP b
    · simp only [if_true, Bool.not_false, if_neg (show ¬ (true = true ∧ false = true) by simp)]
      exact hno
    · simp only [if_true, Bool.not_true, if_pos (show true = true ∧ true = true by simp)]
      have sa := validP_size a va
      have sb := validP_size b vb
      refine evs ?_
      have w1 : wrap64 ((a.size : Int) + 1) = ((a.size + 1 : Nat) : Int) := by rw [pl_wrap (by omega) (by omega)]; omega
      simp only [chargeparkref36_Distance.j0, if_neg (show ¬ (false = true) by decide), w1, if_pos (show (0 : Int) ≤ ((a.size + 1 : Nat) : Int) by omega), Int.toNat_natCast, if_pos (show a.size + 1 ≤ 11728124029610 by omega)]
      have := dist_l0 a b sa.2 sb.2 vb (a.size + 1) (Nat.le_refl _) (List.replicate (a.size + 1) []) ⟨by rw [List.length_replicate], fun r h1 h2 => by omega, fun r j h1 h2 h3 => by omega⟩
      rw [show ((a.size + 1 : Nat) : Int) - 1 = (a.size : Int) by omega] at this
      exact this

theorem PlateMatchesReference : chargeparklaw36_PlateMatchesReference.Pure := by
  intro a b ha hb
  unfold chargeparklaw36_PlateMatchesReference.f
  refine Ev.rounds (Ev.bind pl_head ?_)
  have hout : Ev (fun k => chargeparklaw36_PlateMatchesReference.j0 k a b true true) true := by
    refine evs ?_
    exact Ev.now _
  by_cases c1 : (a.size : Int) > 30
  · simp only [if_pos c1]; exact hout
  · simp only [if_neg c1]
    by_cases c2 : (b.size : Int) > 30
    · simp only [decide_eq_true c2]; exact hout
    · simp only [decide_eq_false c2]
      refine evs ?_
      have key : plate_Distance.f a b = some (if validP a = true ∧ validP b = true then (E (signs a) (signs b), (0 : Int)) else (0, 1)) := by
        cases va : validP a
        · rw [if_neg (by simp), pl_bad a b (by rw [va]; rfl)]
        · cases vb : validP b
          · rw [if_neg (by simp), pl_bad a b (by rw [vb, Bool.and_false])]
          · rw [if_pos ⟨rfl, rfl⟩, pl_dist va vb, (D_signs a b).unique (E_dist _ _)]
      simp only [chargeparklaw36_PlateMatchesReference.j0, if_neg (show ¬ (false = true) by decide), key, Option.bind_some]
      refine Ev.bind (pl_ref a b (by omega) (by omega)) ?_
      simp only [if_true, show plate_Valid.f a = some (validP a) from rfl, Option.bind_some]
      refine Ev.bind (pl_valid a (by omega)) ?_
      rw [beq_self_eq_true]
      exact Ev.now _

end Go.Proofs.YtcpiapenagbapaaDoor.Pure
