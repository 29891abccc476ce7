/-
  For any plate, if some signs are replaced by those with which they are confusable, the distance is at most the number of these signs, and exactly this if it is at most 4; and if all confusable signs of two plates are, their distance is the same. The condition is the statement's own: texts that are plates.
-/
import Derived.Test.YtcpiapenagbapaaDoorPPlateConfusablex2
import Derived.Test.YtcpiapenagbapaaDoorPlateLaw
import Derived.Test.YtcpiapenagbapaaDoorPlateTwin
namespace Go.Proofs.YtcpiapenagbapaaDoor.Pure
open Go.RowKit Go.Proofs.YtcpiapenagbapaaDoor.PPlateConfusable Go.Proofs.YtcpiapenagbapaaDoorW.PrintWords Go.Proofs.YtcpiapenagbapaaDoorW.PrintLast Go.Proofs.YtcpiapenagbapaaDoorW.PrintMore
open Go.Proofs.YtcpiapenagbapaaDoor.PlateWalk Go.Proofs.YtcpiapenagbapaaDoor.PlateDist Go.Proofs.YtcpiapenagbapaaDoor.PlateLaw
set_option linter.unusedSimpArgs false

theorem evs {α : Type} {g : Nat → Option α} {r : α} (h : Ev (fun k => g (k + 1)) r) : Ev g r := Ev.step (fun _ => rfl) h

theorem pl_wrap {x : Int} (h0 : -9000000000000000000 ≤ x) (h1 : x ≤ 9000000000000000000) : wrap64 x = x := by unfold wrap64; omega

theorem pl_bt (p : ByteArray) (i : Nat) (h : i < p.size) : bt p (i : Int) = ((p[i]'h).toNat : Int) := by
  unfold bt; rw [dif_pos (by simpa using h)]; simp

theorem pl_valid_l (p : ByteArray) (hp : p.size ≤ 4000000000000000000) : ∀ d i : Nat, p.size - i = d → i ≤ p.size → (∀ j (h : j < p.size), j < i → okN (p[j]'h).toNat = true) →
    Ev (fun k => chargeparkref36_Valid.l0 k p (i : Int)) (validP p) := by
  intro d
  induction d with
  | zero =>
    intro i hd hi hall
    have e : i = p.size := by omega
    have hv : validP p = (decide (1 ≤ p.size) && decide (p.size ≤ 10)) := by
      unfold validP
      rw [validP_all p (fun j h => hall j h (by omega)), Bool.true_and]
    refine evs ?_
    simp only [chargeparkref36_Valid.l0, if_neg (show ¬ ((i : Int) < (p.size : Int)) by omega)]
    rw [hv]
    by_cases h1 : 1 ≤ p.size
    · simp only [if_pos (show (p.size : Int) ≥ 1 by omega)]
      rw [show (decide ((p.size : Int) ≤ 10)) = (decide (1 ≤ p.size) && decide (p.size ≤ 10)) by
        rw [decide_eq_true h1, Bool.true_and]; exact decide_eq_decide.2 (by omega)]
      exact Ev.now _
    · simp only [if_neg (show ¬ (p.size : Int) ≥ 1 by omega)]
      rw [decide_eq_false h1, Bool.false_and]
      exact Ev.now _
  | succ d ih =>
    intro i hd hi hall
    have hlt : i < p.size := by omega
    refine evs ?_
    simp only [chargeparkref36_Valid.l0, if_pos (show (i : Int) < (p.size : Int) by omega), if_pos (show (0 : Int) ≤ (i : Int) by omega), pl_bt p i hlt, pl_wrap (x := (i : Int) + 1) (by omega) (by omega)]
    have hgo : okN (p[i]'hlt).toNat = true → Ev (fun k => chargeparkref36_Valid.l0 k p ((i : Int) + 1)) (validP p) := fun ho => by
      have := ih (i + 1) (by omega) (by omega) (fun j h hj => by
        by_cases e : j = i
        · subst e; exact ho
        · exact hall j h (by omega))
      exact this
    have hno : okN (p[i]'hlt).toNat = false → Ev (fun _ => some false) (validP p) := fun ho => by
      rw [validP_bad p i hlt ho]; exact Ev.now _
    by_cases c1 : ((p[i]'hlt).toNat : Int) ≥ 65 <;> by_cases c2 : ((p[i]'hlt).toNat : Int) ≥ 48 <;> by_cases c3 : ((p[i]'hlt).toNat : Int) ≤ 90 <;> by_cases c4 : ((p[i]'hlt).toNat : Int) ≤ 57 <;>
      simp only [c1, c2, c3, c4, if_true, if_false] <;>
      first
      | exact hgo ((okN_eq _).2 (by omega))
      | exact hno (by rw [Bool.eq_false_iff]; intro h; rw [okN_eq] at h; omega)

theorem pl_valid (p : ByteArray) (hp : p.size ≤ 4000000000000000000) : Ev (fun k => chargeparkref36_Valid.f k p) (validP p) := by
  unfold chargeparkref36_Valid.f
  exact pl_valid_l p hp p.size 0 (by omega) (by omega) (fun j h hj => by omega)

theorem pl_dist {a b : ByteArray} (ha : validP a = true) (hb : validP b = true) : plate_Distance.f a b = some (D (chr a) (chr b) a.size b.size, 0) := by
  unfold plate_Distance.f distF; rw [ha, hb]; rfl

theorem pl_bound {a b : ByteArray} (ha : validP a = true) (hb : validP b = true) : 0 ≤ D (chr a) (chr b) a.size b.size ∧ D (chr a) (chr b) a.size b.size ≤ 40 := by
  have h := D_bounds (chr a) (chr b) a.size b.size
  have h1 := validP_size a ha
  have h2 := validP_size b hb
  omega

theorem pl_val (a b : ByteArray) (n : Int) (h : validP a = true) (k : validP b = true) (hd : Dist (signs a) (signs b) n) : chargeparklaw36_is.f a b n = some true := by
  unfold chargeparklaw36_is.f
  rw [pl_dist h k]
  simp only [Option.bind_some, if_true]
  rw [(D_signs a b).unique hd]
  simp

theorem D00 (a b : Nat → Int) (k : Nat) : D a b 0 k = 2 * k := by rw [D]
theorem Ds0 (a b : Nat → Int) (i : Nat) : D a b (i + 1) 0 = 2 * (i + 1) := by rw [D]
theorem Dss (a b : Nat → Int) (i k : Nat) : D a b (i + 1) (k + 1) = min3 (D a b i k + exchangeI (a i) (b k)) (D a b i (k + 1) + 2) (D a b (i + 1) k + 2) := by rw [D]

theorem pl_is (a b : ByteArray) (n : Int) (h : validP a = true) (k : validP b = true) (hd : D (chr a) (chr b) a.size b.size = n) : chargeparklaw36_is.f a b n = some true := by
  unfold chargeparklaw36_is.f
  rw [pl_dist h k, hd]
  simp

theorem pl_bad (a b : ByteArray) (h : (validP a && validP b) = false) : plate_Distance.f a b = some (0, 1) := by
  unfold plate_Distance.f distF; rw [h]; rfl

theorem pl_head : Ev (fun k => chargeparklaw36_head.f k) true := by
  refine evs ?_
  unfold chargeparklaw36_head.f
  simp only [pl_bad ⟨#[]⟩ ⟨#[65]⟩ (by decide +kernel), pl_bad ⟨#[65]⟩ ⟨#[97]⟩ (by decide +kernel), Option.bind_some, if_true, plate_Valid.f,
    show validP (⟨#[65, 66, 67, 68, 69, 70, 71, 72, 48, 57]⟩ : ByteArray) = true by decide +kernel, show validP (⟨#[65, 66, 67, 68, 69, 70, 71, 72, 48, 57, 49]⟩ : ByteArray) = false by decide +kernel, chargeparklaw36_head.j0, Bool.not_false]
  rw [pl_is ⟨#[65, 66, 49, 50]⟩ ⟨#[65, 66, 49, 50]⟩ 0 (by decide +kernel) (by decide +kernel) (by show D _ _ (3 + 1) (3 + 1) = 0; simp only [Dss, Ds0, D00]; decide +kernel), pl_is ⟨#[65, 66, 49, 50]⟩ ⟨#[65, 56, 49, 50]⟩ 1 (by decide +kernel) (by decide +kernel) (by show D _ _ (3 + 1) (3 + 1) = 1; simp only [Dss, Ds0, D00]; decide +kernel), pl_is ⟨#[65, 66, 49, 50]⟩ ⟨#[65, 66, 49, 51]⟩ 2 (by decide +kernel) (by decide +kernel) (by show D _ _ (3 + 1) (3 + 1) = 2; simp only [Dss, Ds0, D00]; decide +kernel), pl_is ⟨#[65, 66, 49, 50]⟩ ⟨#[66, 49, 50]⟩ 2 (by decide +kernel) (by decide +kernel) (by show D _ _ (3 + 1) (2 + 1) = 2; simp only [Dss, Ds0, D00]; decide +kernel), pl_is ⟨#[79, 79, 55]⟩ ⟨#[48, 48, 55]⟩ 2 (by decide +kernel) (by decide +kernel) (by show D _ _ (2 + 1) (2 + 1) = 2; simp only [Dss, Ds0, D00]; decide +kernel), pl_is ⟨#[65]⟩ ⟨#[49, 48]⟩ 4 (by decide +kernel) (by decide +kernel) (by show D _ _ (0 + 1) (1 + 1) = 4; simp only [Dss, Ds0, D00]; decide +kernel)]
  exact Ev.now _

theorem pl_plates_l (l : List ByteArray) (hl : ∀ p ∈ l, p.size ≤ 4000000000000000000) (hn : l.length ≤ 1000) : ∀ d i : Nat, l.length - i = d → i ≤ l.length → (∀ j (h : j < l.length), j < i → validP (l[j]'h) = true) →
    Ev (fun k => chargeparklaw36_plates.l0 k l (i : Int)) (l.all validP) := by
  intro d
  induction d with
  | zero =>
    intro i hd hi hall
    have e : i = l.length := by omega
    refine evs ?_
    simp only [chargeparklaw36_plates.l0, if_neg (show ¬ ((i : Int) < (l.length : Int)) by omega)]
    rw [show l.all validP = true from List.all_eq_true.2 (fun x hx => by
      obtain ⟨j, hj, rfl⟩ := List.getElem_of_mem hx
      exact hall j hj (by omega))]
    exact Ev.now _
  | succ d ih =>
    intro i hd hi hall
    have hlt : i < l.length := by omega
    refine evs ?_
    have hrd : rdOf ByteArray.empty l (i : Int) = l[i]'hlt := by
      unfold rdOf; simp [List.getD, hlt]
    simp only [chargeparklaw36_plates.l0, if_pos (show (i : Int) < (l.length : Int) by omega), if_pos (show (0 : Int) ≤ (i : Int) by omega), hrd, pl_wrap (x := (i : Int) + 1) (by omega) (by omega)]
    refine Ev.bind (pl_valid (l[i]'hlt) (hl _ (List.getElem_mem hlt))) ?_
    cases hv : validP (l[i]'hlt)
    · rw [show l.all validP = false from List.all_eq_false.2 ⟨l[i]'hlt, List.getElem_mem hlt, by rw [hv]; decide⟩]
      exact Ev.now _
    · simp only [if_true]
      exact ih (i + 1) (by omega) (by omega) (fun j h hj => by
        by_cases e : j = i
        · subst e; exact hv
        · exact hall j h (by omega))

theorem pl_plates (l : List ByteArray) (hl : ∀ p ∈ l, p.size ≤ 4000000000000000000) (hn : l.length ≤ 1000) : Ev (fun k => chargeparklaw36_plates.f k l) (l.all validP) := by
  unfold chargeparklaw36_plates.f
  exact pl_plates_l l hl hn l.length 0 (by omega) (by omega) (fun j h hj => by omega)

open Go.Proofs.YtcpiapenagbapaaDoor.PlateTwin

/-- What the law's exchanged gives. -/
def ex (a : ByteArray) (set : Int) : ByteArray := textOf ((List.range a.size).map (nsign (chr a) set))
theorem ex_some (a : ByteArray) (set : Int) (h0 : 0 ≤ set) (h1 : set < 9223372036854775808) (h2 : a.size ≤ 10) : chargeparklaw36_exchanged.f a set = some (ex a set, (hits (chr a) set a.size : Int)) := by
  unfold chargeparklaw36_exchanged.f exchF
  rw [if_pos ⟨h0, h1, h2⟩]; rfl

theorem textOf_push (ns : List Int) : ∀ r : ByteArray, (ns.foldl (fun r n => r.push (UInt8.ofNat n.toNat)) r).data.toList = r.data.toList ++ ns.map fun n => UInt8.ofNat n.toNat := by
  induction ns with
  | nil => intro r; simp
  | cons n ns ih =>
    intro r
    rw [List.foldl_cons, ih]
    simp [ByteArray.push]
theorem textOf_signs (ns : List Int) (h : ∀ n ∈ ns, 0 ≤ n ∧ n < 256) : signs (textOf ns) = ns := by
  unfold signs textOf
  rw [textOf_push, show ByteArray.empty.data.toList = [] from rfl, List.nil_append, List.map_map]
  conv => rhs; rw [← List.map_id ns]
  refine List.map_congr_left (fun n hn => ?_)
  have := h n hn
  simp
  omega

theorem twin_range (c : Int) : 0 ≤ twinI c ∧ twinI c < 256 := by
  unfold twinI; repeat' split
  all_goals omega
theorem twin_back (c : Int) : twinI c ≠ 0 → twinI (twinI c) = c ∧ c ≠ 0 := by
  intro h
  unfold twinI at h
  repeat' split at h
  all_goals first | (rename_i e; subst e; exact ⟨rfl, by decide⟩) | exact absurd rfl h
theorem twins_iff (x y : Int) : twinsOf x y = true ↔ twinI x = y ∧ y ≠ 0 := by
  constructor
  · intro h
    simp only [twinsOf, pairs, List.any_cons, List.any_nil, pairHit, Bool.or_false, Bool.or_eq_true, Bool.and_eq_true, beq_iff_eq] at h
    rcases h with (⟨rfl, rfl⟩ | ⟨rfl, rfl⟩) | (⟨rfl, rfl⟩ | ⟨rfl, rfl⟩) | (⟨rfl, rfl⟩ | ⟨rfl, rfl⟩) | (⟨rfl, rfl⟩ | ⟨rfl, rfl⟩) | (⟨rfl, rfl⟩ | ⟨rfl, rfl⟩) <;> exact ⟨rfl, by decide⟩
  · rintro ⟨rfl, h⟩
    unfold twinI at h ⊢
    repeat' split at h
    all_goals first | (rename_i e; subst e; decide) | exact absurd rfl h
def tw (x : Int) : Int := if twinI x ≠ 0 then twinI x else x
theorem tw_tw (x : Int) : tw (tw x) = x := by
  unfold tw
  by_cases h : twinI x ≠ 0
  · rw [if_pos h, (twin_back x h).1, if_pos (twin_back x h).2]
  · rw [if_neg h, if_neg h]
theorem tw_inj {x y : Int} (h : tw x = tw y) : x = y := by rw [← tw_tw x, h, tw_tw]
theorem twins_tw {x y : Int} (h : twinsOf x y = true) : twinsOf (tw x) (tw y) = true := by
  obtain ⟨rfl, hy⟩ := (twins_iff x y).1 h
  have hb := twin_back x hy
  have e1 : tw x = twinI x := if_pos hy
  have e2 : tw (twinI x) = x := by unfold tw; rw [hb.1, if_pos hb.2]
  rw [e1, e2]
  exact (twins_iff _ _).2 hb
theorem ex_tw (x y : Int) : exchangeI (tw x) (tw y) = exchangeI x y := by
  by_cases h : x = y
  · subst h; rw [ex_self, ex_self]
  · have h2 : tw x ≠ tw y := fun e => h (tw_inj e)
    unfold exchangeI
    rw [if_neg h, if_neg h2]
    have : twinsOf (tw x) (tw y) = twinsOf x y := by
      rw [Bool.eq_iff_iff]
      constructor
      · intro k; have := twins_tw k; rwa [tw_tw, tw_tw] at this
      · exact twins_tw
    rw [this]
theorem al_tw {a b : List Int} {n : Int} (h : Al a b n) : Al (a.map tw) (b.map tw) n := by
  induction h with
  | nil => exact .nil
  | sub x y _ ih => exact (Al.sub (tw x) (tw y) ih).cast (by rw [ex_tw])
  | del x _ ih => exact .del _ ih
  | ins y _ ih => exact .ins _ ih
theorem map_tw (a : List Int) : (a.map tw).map tw = a := by
  rw [List.map_map]
  conv => rhs; rw [← List.map_id a]
  exact List.map_congr_left (fun x _ => tw_tw x)
theorem dist_tw {a b : List Int} {n : Int} (h : Dist (a.map tw) (b.map tw) n) : Dist a b n :=
  ⟨by have := al_tw h.1; rwa [map_tw, map_tw] at this, fun m k => h.2 m (al_tw k)⟩

theorem chr_range (a : ByteArray) (i : Nat) : 0 ≤ chr a i ∧ chr a i < 256 := by
  unfold chr
  have := (a.data.toList.getD i 0).toNat_lt
  omega
theorem ex_list (a : ByteArray) (set : Int) : signs (ex a set) = (List.range a.size).map (nsign (chr a) set) := by
  unfold ex
  refine textOf_signs _ (fun n hn => ?_)
  obtain ⟨i, _, rfl⟩ := List.mem_map.1 hn
  unfold nsign
  split
  · exact twin_range _
  · exact chr_range a i
theorem ex_size (a : ByteArray) (set : Int) : (ex a set).size = a.size := by
  rw [← signs_length, ex_list]; simp
theorem valid_iff (a : ByteArray) : validP a = true ↔ (∀ x ∈ signs a, okN x.toNat = true) ∧ 1 ≤ a.size ∧ a.size ≤ 10 := by
  unfold validP signs
  rw [Bool.and_eq_true, Bool.and_eq_true, decide_eq_true_eq, decide_eq_true_eq, List.all_eq_true]
  simp
theorem twin_ok (c : Int) (h : twinI c ≠ 0) : okN (twinI c).toNat = true := by
  unfold twinI at h ⊢
  repeat' split at h
  all_goals first | (rename_i e; subst e; decide) | exact absurd rfl h
theorem ex_valid (a : ByteArray) (set : Int) (h : validP a = true) : validP (ex a set) = true := by
  rw [valid_iff] at h ⊢
  rw [ex_size, ex_list]
  refine ⟨fun x hx => ?_, h.2⟩
  obtain ⟨i, hi, rfl⟩ := List.mem_map.1 hx
  unfold nsign
  split
  · rename_i hh
    unfold hit at hh
    rw [Bool.and_eq_true] at hh
    exact twin_ok _ (by simpa using hh.2)
  · refine h.1 _ ?_
    rw [← upto_chr]
    exact List.mem_map.2 ⟨i, hi, rfl⟩

/-- What is replaced costs 1. -/
theorem nsign_cost (a : Nat → Int) (set : Int) (i : Nat) : exchangeI (a i) (nsign a set i) = if hit a set i then 1 else 0 := by
  unfold nsign
  split
  · rename_i hh
    have h2 : twinI (a i) ≠ 0 := by unfold hit at hh; rw [Bool.and_eq_true] at hh; simpa using hh.2
    have hne : a i ≠ twinI (a i) := by
      intro e
      have h3 : twinsOf (a i) (a i) = true := (twins_iff _ _).2 ⟨e.symm, by rw [e]; exact h2⟩
      rw [twins_ne] at h3; cases h3
    unfold exchangeI
    rw [if_neg hne, if_pos ((twins_iff _ _).2 ⟨rfl, h2⟩)]
  · exact ex_self _
theorem upto_al (a : Nat → Int) (set : Int) : ∀ n, Al (upto a n) ((List.range n).map (nsign a set)) (hits a set n : Int)
  | 0 => .nil
  | n + 1 => by
    rw [upto_succ, List.range_succ, List.map_append, hits_succ]
    refine ((upto_al a set n).append (Al.sub (a n) (nsign a set n) .nil)).cast ?_
    rw [nsign_cost]
    split <;> simp
theorem ex_al (a : ByteArray) (set : Int) : Al (signs a) (signs (ex a set)) (hits (chr a) set a.size : Int) := by
  rw [ex_list, ← upto_chr]; exact upto_al _ _ _

/-- The costs place by place. -/
def ham : List Int → List Int → Int
  | x :: a, y :: b => exchangeI x y + ham a b
  | _, _ => 0
theorem al_ham {a b : List Int} {n : Int} (h : Al a b n) : ∀ d : Int, (b.length : Int) - a.length = d → (d = 0 → 4 ≤ n ∨ ham a b ≤ n) ∧ (d ≠ 0 → 2 ≤ n) := by
  induction h with
  | nil => intro d hd; simp at hd; exact ⟨fun _ => .inr (by simp [ham]), fun h => absurd hd.symm h⟩
  | @sub x y a b n h ih =>
    intro d hd
    simp at hd
    have := ex_bounds x y
    obtain ⟨i1, i2⟩ := ih d (by omega)
    refine ⟨fun e => ?_, fun e => ?_⟩
    · rcases i1 e with k | k
      · exact .inl (by omega)
      · exact .inr (by unfold ham; omega)
    · have := i2 e; omega
  | @del x a b n h ih =>
    intro d hd
    simp at hd
    obtain ⟨i1, i2⟩ := ih (d + 1) (by omega)
    have := h.nonneg
    refine ⟨fun e => .inl ?_, fun _ => by omega⟩
    have := i2 (by omega)
    omega
  | @ins y a b n h ih =>
    intro d hd
    simp at hd
    obtain ⟨i1, i2⟩ := ih (d - 1) (by omega)
    have := h.nonneg
    refine ⟨fun e => .inl ?_, fun _ => by omega⟩
    have := i2 (by omega)
    omega
theorem ham_append : ∀ {a b c d : List Int}, a.length = b.length → ham (a ++ c) (b ++ d) = ham a b + ham c d
  | [], [], c, d, _ => by simp [ham]
  | x :: a, y :: b, c, d, h => by
    simp only [List.cons_append, ham, ham_append (a := a) (b := b) (c := c) (d := d) (by simpa using h)]
    omega
theorem upto_ham (a : Nat → Int) (set : Int) : ∀ n, ham (upto a n) ((List.range n).map (nsign a set)) = (hits a set n : Int)
  | 0 => rfl
  | n + 1 => by
    rw [upto_succ, List.range_succ, List.map_append, ham_append (by simp [upto]), upto_ham a set n, hits_succ]
    simp only [List.map_cons, List.map_nil, ham, nsign_cost]
    split <;> simp
theorem ex_low (a : ByteArray) (set : Int) {n : Int} (h : Al (signs a) (signs (ex a set)) n) : 4 ≤ n ∨ (hits (chr a) set a.size : Int) ≤ n := by
  have := (al_ham h 0 (by rw [signs_length, signs_length, ex_size]; omega)).1 rfl
  rwa [ex_list, ← upto_chr, upto_ham] at this

theorem bit_all (i : Nat) (h : i < 10) : bits BinOp.and IntKind.i64 (1023 / 2 ^ i) 1 = 1 := by
  match i, h with
  | 0, _ => decide
  | 1, _ => decide
  | 2, _ => decide
  | 3, _ => decide
  | 4, _ => decide
  | 5, _ => decide
  | 6, _ => decide
  | 7, _ => decide
  | 8, _ => decide
  | 9, _ => decide
theorem ex_all (a : ByteArray) (h : a.size ≤ 10) : signs (ex a 1023) = (signs a).map tw := by
  rw [ex_list, ← upto_chr]
  unfold upto
  rw [List.map_map]
  refine List.map_congr_left (fun i hi => ?_)
  have hi2 : i < a.size := by simpa using hi
  show nsign (chr a) 1023 i = tw (chr a i)
  unfold nsign hit tw
  rw [decide_eq_true (bit_all i (by omega)), Bool.true_and]
  by_cases c : twinI (chr a i) ≠ 0
  · rw [if_pos (by simpa using c), if_pos c]
  · rw [if_neg (by simpa using c), if_neg c]

theorem PlateConfusable : chargeparklaw36_PlateConfusable.Pure := by
  intro a b set ha hb hset
  have hset2 : set < 9223372036854775808 := by
    simp [Lit.wf, IntKind.min, IntKind.max, IntKind.signed, IntKind.bits] at hset
    omega
  unfold chargeparklaw36_PlateConfusable.f
  refine Ev.rounds (Ev.bind pl_head ?_)
  refine Ev.bind (pl_plates [a, b] (by simp; omega) (by simp)) ?_
  cases hv : [a, b].all validP
  · refine evs ?_
    exact Ev.now _
  · obtain ⟨va, vb⟩ : validP a = true ∧ validP b = true := by simpa using hv
    refine evs ?_
    by_cases h0 : set < 0
    · simp only [if_true, chargeparklaw36_PlateConfusable.j0, decide_eq_true h0]
      exact Ev.now _
    · have s1 := validP_size a va
      have s2 := validP_size b vb
      simp only [if_true, chargeparklaw36_PlateConfusable.j0, decide_eq_false h0, if_neg (show ¬ (false = true) by decide), ex_some a set (by omega) hset2 s1.2, ex_some a 1023 (by omega) (by omega) s1.2, ex_some b 1023 (by omega) (by omega) s2.2, Option.bind_some]
      simp only [pl_dist va (ex_valid a set va), pl_dist va vb, pl_dist (ex_valid a 1023 va) (ex_valid b 1023 vb), Option.bind_some, if_true]
      have e1 := (D_signs a (ex a set)).le (ex_al a set)
      have e2 := ex_low a set (D_signs a (ex a set)).1
      have e3 : D (chr a) (chr b) a.size b.size = D (chr (ex a 1023)) (chr (ex b 1023)) (ex a 1023).size (ex b 1023).size := by
        refine (D_signs a b).unique ?_
        have := D_signs (ex a 1023) (ex b 1023)
        rw [ex_all a s1.2, ex_all b s2.2] at this
        exact dist_tw this
      rw [if_pos e1, if_pos (by rw [show mn (hits (chr a) set a.size : Int) 4 = if (4 : Int) < (hits (chr a) set a.size : Int) then 4 else (hits (chr a) set a.size : Int) from rfl]; split <;> omega), e3, beq_self_eq_true]
      exact Ev.now _

end Go.Proofs.YtcpiapenagbapaaDoor.Pure
