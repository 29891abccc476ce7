/-
  The distance of plates as the least cost of an alignment: plain Lean, no program in sight.
-/
import Derived.Test.YtcpiapenagbapaaDoorPlateDist
namespace Go.Proofs.YtcpiapenagbapaaDoor.PlateLaw
open Go.Proofs.YtcpiapenagbapaaDoor.PlateWalk (exchangeI twinsOf pairs pairHit)
open Go.Proofs.YtcpiapenagbapaaDoor.PlateDist (D min3 chr ex_bounds)

/-- Ways to lead one list over into another one, with what they cost. -/
inductive Al : List Int → List Int → Int → Prop
  | nil : Al [] [] 0
  | sub (x y : Int) {a b : List Int} {n : Int} : Al a b n → Al (x :: a) (y :: b) (n + exchangeI x y)
  | del (x : Int) {a b : List Int} {n : Int} : Al a b n → Al (x :: a) b (n + 2)
  | ins (y : Int) {a b : List Int} {n : Int} : Al a b n → Al a (y :: b) (n + 2)

theorem Al.cast {a b : List Int} {n m : Int} (h : Al a b n) (e : n = m) : Al a b m := e ▸ h

theorem Al.nonneg {a b : List Int} {n : Int} (h : Al a b n) : 0 ≤ n := by
  induction h with
  | nil => omega
  | sub x y _ ih => have := ex_bounds x y; omega
  | del x _ ih => omega
  | ins y _ ih => omega

theorem Al.append {a b c d : List Int} {n m : Int} (h : Al a b n) (k : Al c d m) : Al (a ++ c) (b ++ d) (n + m) := by
  induction h with
  | nil => exact k.cast (by omega)
  | sub x y _ ih => exact (Al.sub x y ih).cast (by omega)
  | del x _ ih => exact (Al.del x ih).cast (by omega)
  | ins y _ ih => exact (Al.ins y ih).cast (by omega)

theorem Al.reverse {a b : List Int} {n : Int} (h : Al a b n) : Al a.reverse b.reverse n := by
  induction h with
  | nil => exact .nil
  | sub x y _ ih =>
    rw [List.reverse_cons, List.reverse_cons]
    exact (ih.append (Al.sub x y .nil)).cast (by omega)
  | del x _ ih =>
    rw [List.reverse_cons]
    have := ih.append (Al.del x .nil)
    rw [List.append_nil] at this
    exact this.cast (by omega)
  | ins y _ ih =>
    rw [List.reverse_cons]
    have := ih.append (Al.ins y .nil)
    rw [List.append_nil] at this
    exact this.cast (by omega)

theorem twins_symm (x y : Int) : twinsOf x y = twinsOf y x := by
  unfold twinsOf
  congr 1
  funext t
  unfold pairHit
  rw [Bool.or_comm]

theorem ex_symm (x y : Int) : exchangeI x y = exchangeI y x := by
  unfold exchangeI
  rw [twins_symm x y]
  by_cases h : x = y
  · rw [if_pos h, if_pos h.symm]
  · rw [if_neg h, if_neg (show ¬ y = x from fun e => h e.symm)]

theorem ex_self (x : Int) : exchangeI x x = 0 := if_pos rfl

theorem Al.symm {a b : List Int} {n : Int} (h : Al a b n) : Al b a n := by
  induction h with
  | nil => exact .nil
  | sub x y _ ih => exact (Al.sub y x ih).cast (by rw [ex_symm])
  | del x _ ih => exact .ins x ih
  | ins y _ ih => exact .del y ih

theorem Al.refl : ∀ a : List Int, Al a a 0
  | [] => .nil
  | x :: a => (Al.sub x x (Al.refl a)).cast (by rw [ex_self]; rfl)

/-- What is confusable with a sign is one sign alone. -/
theorem twins_eq {x y z : Int} (h : twinsOf x y = true) (k : twinsOf y z = true) : x = z := by
  simp only [twinsOf, pairs, List.any_cons, List.any_nil, pairHit, Bool.or_false, Bool.or_eq_true, Bool.and_eq_true, beq_iff_eq] at h k
  omega

theorem ex_tri (x y z : Int) : exchangeI x z ≤ exchangeI x y + exchangeI y z := by
  have h1 := (ex_bounds x z).2
  by_cases a : x = y
  · subst a; rw [ex_self]; omega
  · by_cases b : y = z
    · subst b; rw [ex_self]; omega
    · have e1 : exchangeI x y = if twinsOf x y then 1 else 2 := if_neg a
      have e2 : exchangeI y z = if twinsOf y z then 1 else 2 := if_neg b
      by_cases c : twinsOf x y = true
      · by_cases d : twinsOf y z = true
        · have b1 := (ex_bounds x y).1
          have b2 := (ex_bounds y z).1
          have b3 : exchangeI x z = 0 := by rw [twins_eq c d, ex_self]
          omega
        · rw [e1, e2, if_neg d]; split <;> omega
      · rw [e1, e2, if_neg c]; split <;> omega

/-- One way behind another one. -/
theorem Al.trans {a b c : List Int} {n m : Int} (h : Al a b n) : Al b c m → ∃ k, Al a c k ∧ k ≤ n + m := by
  suffices H : ∀ s a b c n m, Al a b n → Al b c m → a.length + b.length + c.length ≤ s → ∃ k, Al a c k ∧ k ≤ n + m from fun k => H _ _ _ _ _ _ h k (Nat.le_refl _)
  intro s
  induction s with
  | zero =>
    intro a b c n m h k hs
    cases h with
    | nil => exact ⟨m, k, by omega⟩
    | sub _ _ _ => simp at hs
    | del _ _ => simp at hs
    | ins _ _ => simp at hs
  | succ s ih =>
    intro a b c n m h k hs
    cases h with
    | nil => exact ⟨m, k, by omega⟩
    | del x h =>
      simp at hs
      obtain ⟨r, hr, hl⟩ := ih _ _ _ _ _ h k (by omega)
      exact ⟨r + 2, .del x hr, by omega⟩
    | @sub x y a b n h =>
      cases k with
      | @sub _ z _ c m k =>
        simp at hs
        obtain ⟨r, hr, hl⟩ := ih _ _ _ _ _ h k (by omega)
        have := ex_tri x y z
        exact ⟨r + exchangeI x z, .sub x z hr, by omega⟩
      | del _ k =>
        simp at hs
        obtain ⟨r, hr, hl⟩ := ih _ _ _ _ _ h k (by omega)
        have := ex_bounds x y
        exact ⟨r + 2, .del x hr, by omega⟩
      | @ins z _ c m k =>
        simp at hs
        obtain ⟨r, hr, hl⟩ := ih _ _ _ _ _ (Al.sub x y h) k (by simp; omega)
        exact ⟨r + 2, .ins z hr, by omega⟩
    | @ins y _ b n h =>
      cases k with
      | @sub _ z _ c m k =>
        simp at hs
        obtain ⟨r, hr, hl⟩ := ih _ _ _ _ _ h k (by omega)
        have := ex_bounds y z
        exact ⟨r + 2, .ins z hr, by omega⟩
      | del _ k =>
        simp at hs
        obtain ⟨r, hr, hl⟩ := ih _ _ _ _ _ h k (by omega)
        exact ⟨r, hr, by omega⟩
      | @ins z _ c m k =>
        simp at hs
        obtain ⟨r, hr, hl⟩ := ih _ _ _ _ _ (Al.ins y h) k (by simp; omega)
        exact ⟨r + 2, .ins z hr, by omega⟩

/-- The least cost. -/
def Dist (a b : List Int) (n : Int) : Prop := Al a b n ∧ ∀ m, Al a b m → n ≤ m

theorem Dist.unique {a b : List Int} {n m : Int} (h : Dist a b n) (k : Dist a b m) : n = m := by
  have h1 := h.2 m k.1
  have h2 := k.2 n h.1
  omega
theorem Dist.symm {a b : List Int} {n : Int} (h : Dist a b n) : Dist b a n := ⟨h.1.symm, fun m k => h.2 m k.symm⟩
theorem Dist.reverse {a b : List Int} {n : Int} (h : Dist a b n) : Dist a.reverse b.reverse n :=
  ⟨h.1.reverse, fun m k => h.2 m (by have := k.reverse; rwa [List.reverse_reverse, List.reverse_reverse] at this)⟩
theorem Dist.tri {a b c : List Int} {x y z : Int} (h : Dist a b x) (k : Dist a c y) (l : Dist c b z) : x ≤ y + z := by
  obtain ⟨r, hr, hl⟩ := k.1.trans l.1
  have := h.2 r hr
  omega
theorem Dist.le {a b : List Int} {n m : Int} (h : Dist a b n) (k : Al a b m) : n ≤ m := h.2 m k

theorem twins_ne (x : Int) : twinsOf x x = false := by
  rw [Bool.eq_false_iff]
  intro h
  simp only [twinsOf, pairs, List.any_cons, List.any_nil, pairHit, Bool.or_false, Bool.or_eq_true, Bool.and_eq_true, beq_iff_eq] at h
  omega

theorem ex_zero {x y : Int} (h : exchangeI x y = 0) : x = y := by
  unfold exchangeI at h
  by_cases e : x = y
  · exact e
  · rw [if_neg e] at h; split at h <;> omega

theorem Al.zero {a b : List Int} {n : Int} (h : Al a b n) : n ≤ 0 → a = b := by
  induction h with
  | nil => intro _; rfl
  | @sub x y a b n h ih =>
    intro hn
    have := h.nonneg
    have h2 := ex_bounds x y
    rw [ih (by omega), ex_zero (show exchangeI x y = 0 by omega)]
  | del x h _ => intro hn; have := h.nonneg; omega
  | ins y h _ => intro hn; have := h.nonneg; omega

theorem Dist.zero_iff {a b : List Int} {n : Int} (h : Dist a b n) : n = 0 ↔ a = b := by
  constructor
  · intro e; exact h.1.zero (by omega)
  · rintro rfl
    have := h.2 0 (Al.refl _)
    have := h.1.nonneg
    omega

theorem Al.lengths {a b : List Int} {n : Int} (h : Al a b n) : 2 * ((a.length : Int) - b.length) ≤ n ∧ 2 * ((b.length : Int) - a.length) ≤ n := by
  induction h with
  | nil => simp
  | sub x y h ih => have := ex_bounds x y; simp; omega
  | del x h ih => simp; omega
  | ins y h ih => simp; omega

theorem Al.ins_all : ∀ b : List Int, Al [] b (2 * b.length)
  | [] => .nil
  | y :: b => (Al.ins y (Al.ins_all b)).cast (by simp; omega)
theorem Al.del_all : ∀ a : List Int, Al a [] (2 * a.length)
  | [] => .nil
  | x :: a => (Al.del x (Al.del_all a)).cast (by simp; omega)

theorem Al.upper : ∀ a b : List Int, ∃ n, Al a b n ∧ n ≤ 2 * a.length ∨ Al a b n ∧ n ≤ 2 * b.length
  | [], b => ⟨_, .inr ⟨Al.ins_all b, by omega⟩⟩
  | a, [] => ⟨_, .inl ⟨Al.del_all a, by omega⟩⟩
  | x :: a, y :: b => by
    obtain ⟨n, h⟩ := Al.upper a b
    have := ex_bounds x y
    rcases h with ⟨h, k⟩ | ⟨h, k⟩
    · exact ⟨_, .inl ⟨.sub x y h, by simp; omega⟩⟩
    · exact ⟨_, .inr ⟨.sub x y h, by simp; omega⟩⟩

/-- A common first sign. -/
theorem Al.drop_head {x : Int} {a b : List Int} {n : Int} (h : Al (x :: a) (x :: b) n) : ∃ m, Al a b m ∧ m ≤ n := by
  cases h with
  | sub _ _ h => exact ⟨_, h, by have := ex_bounds x x; omega⟩
  | del _ h =>
    obtain ⟨m, hm, hl⟩ := h.trans (Al.del x (Al.refl b))
    exact ⟨m, hm, by omega⟩
  | ins _ h =>
    obtain ⟨m, hm, hl⟩ := (Al.ins x (Al.refl a)).trans h
    exact ⟨m, hm, by omega⟩
theorem Al.drop_heads : ∀ (p : List Int) {a b : List Int} {n : Int}, Al (p ++ a) (p ++ b) n → ∃ m, Al a b m ∧ m ≤ n
  | [], _, _, n, h => ⟨n, h, Int.le_refl _⟩
  | _ :: p, _, _, _, h => by
    obtain ⟨m, hm, hl⟩ := Al.drop_head h
    obtain ⟨k, hk, hl2⟩ := Al.drop_heads p hm
    exact ⟨k, hk, by omega⟩
theorem Dist.prefix_ (p : List Int) {a b : List Int} {n : Int} (h : Dist a b n) : Dist (p ++ a) (p ++ b) n :=
  ⟨((Al.refl p).append h.1).cast (by omega), fun m k => by
    obtain ⟨r, hr, hl⟩ := Al.drop_heads p k
    have := h.2 r hr
    omega⟩
theorem Dist.suffix_ (p : List Int) {a b : List Int} {n : Int} (h : Dist a b n) : Dist (a ++ p) (b ++ p) n := by
  have := (Dist.prefix_ p.reverse h.reverse).reverse
  simpa using this

/-- The last step of a way. -/
theorem Al.last {a b : List Int} {x y n : Int} (h : Al (a ++ [x]) (b ++ [y]) n) :
    (∃ m, Al a b m ∧ n = m + exchangeI x y) ∨ (∃ m, Al a (b ++ [y]) m ∧ n = m + 2) ∨ ∃ m, Al (a ++ [x]) b m ∧ n = m + 2 := by
  have hr := h.reverse
  rw [List.reverse_append, List.reverse_append] at hr
  simp only [List.reverse_cons, List.reverse_nil, List.nil_append, List.cons_append] at hr
  cases hr with
  | sub _ _ k => exact .inl ⟨_, by have := k.reverse; rwa [List.reverse_reverse, List.reverse_reverse] at this, rfl⟩
  | del _ k => exact .inr (.inl ⟨_, by have := k.reverse; rwa [List.reverse_reverse, ← List.reverse_concat, List.reverse_reverse] at this, rfl⟩)
  | ins _ k => exact .inr (.inr ⟨_, by have := k.reverse; rwa [List.reverse_reverse, ← List.reverse_concat, List.reverse_reverse] at this, rfl⟩)

theorem min3_le (x y z : Int) : min3 x y z ≤ x ∧ min3 x y z ≤ y ∧ min3 x y z ≤ z ∧ (min3 x y z = x ∨ min3 x y z = y ∨ min3 x y z = z) := by
  unfold min3; split <;> (try split) <;> omega

/-- The first i values of a function. -/
def upto (f : Nat → Int) (i : Nat) : List Int := (List.range i).map f
theorem upto_succ (f : Nat → Int) (i : Nat) : upto f (i + 1) = upto f i ++ [f i] := by
  unfold upto; rw [List.range_succ, List.map_append]; rfl
theorem upto_length (f : Nat → Int) (i : Nat) : (upto f i).length = i := by simp [upto]

/-- What the program computes is the least cost. -/
theorem D_dist (a b : Nat → Int) : ∀ i k, Dist (upto a i) (upto b k) (D a b i k)
  | 0, k => by
    unfold D
    refine ⟨by have := Al.ins_all (upto b k); rwa [upto_length] at this, fun m h => ?_⟩
    have := h.lengths
    rw [upto_length, upto_length] at this
    omega
  | i + 1, 0 => by
    unfold D
    refine ⟨(Al.del_all (upto a (i + 1))).cast (by rw [upto_length]; omega), fun m h => ?_⟩
    have := h.lengths
    rw [upto_length, upto_length] at this
    omega
  | i + 1, k + 1 => by
    have h1 := D_dist a b i k
    have h2 := D_dist a b i (k + 1)
    have h3 := D_dist a b (i + 1) k
    unfold D
    obtain ⟨l1, l2, l3, l4⟩ := min3_le (D a b i k + exchangeI (a i) (b k)) (D a b i (k + 1) + 2) (D a b (i + 1) k + 2)
    generalize min3 (D a b i k + exchangeI (a i) (b k)) (D a b i (k + 1) + 2) (D a b (i + 1) k + 2) = m at *
    constructor
    · rcases l4 with e | e | e
      · rw [upto_succ a, upto_succ b, e]
        exact (h1.1.append (Al.sub (a i) (b k) .nil)).cast (by omega)
      · rw [upto_succ a, e]
        have := h2.1.append (Al.del (a i) .nil)
        rw [List.append_nil] at this
        exact this.cast (by omega)
      · rw [upto_succ b, e]
        have := h3.1.append (Al.ins (b k) .nil)
        rw [List.append_nil] at this
        exact this.cast (by omega)
    · intro r hr
      rw [upto_succ a, upto_succ b] at hr
      rcases hr.last with ⟨q, hq, e⟩ | ⟨q, hq, e⟩ | ⟨q, hq, e⟩
      · have := h1.2 q hq; omega
      · have := h2.2 q (by rw [upto_succ]; exact hq); omega
      · have := h3.2 q (by rw [upto_succ]; exact hq); omega

/-- A text's signs. -/
def signs (s : ByteArray) : List Int := s.data.toList.map fun b => (b.toNat : Int)
theorem signs_length (s : ByteArray) : (signs s).length = s.size := by simp [signs]
theorem upto_chr (s : ByteArray) : upto (chr s) s.size = signs s := by
  apply List.ext_getElem
  · rw [upto_length, signs_length]
  · intro i h1 h2
    rw [signs_length] at h2
    simp only [upto, signs, List.getElem_map, List.getElem_range]
    unfold chr
    rw [List.getD_eq_getElem?_getD, List.getElem?_eq_getElem (by simpa using h2)]
    rfl
theorem D_signs (a b : ByteArray) : Dist (signs a) (signs b) (D (chr a) (chr b) a.size b.size) := by
  rw [← upto_chr a, ← upto_chr b]; exact D_dist _ _ _ _

theorem signs_inj {a b : ByteArray} (h : signs a = signs b) : a = b := by
  unfold signs at h
  have := List.map_inj_right (f := fun b : UInt8 => (b.toNat : Int)) (fun x y e => UInt8.toNat_inj.1 (by exact_mod_cast e)) |>.1 h
  obtain ⟨⟨x⟩⟩ := a
  obtain ⟨⟨y⟩⟩ := b
  simp_all
theorem signs_append (a b : ByteArray) : signs (a ++ b) = signs a ++ signs b := by
  simp [signs]
end Go.Proofs.YtcpiapenagbapaaDoor.PlateLaw
