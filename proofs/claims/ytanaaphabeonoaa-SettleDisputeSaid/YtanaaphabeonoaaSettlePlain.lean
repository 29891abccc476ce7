/-
  What settle.Net computes, in plain words: for each network, what it gets.
-/
import Derived.Test.YtanaaphabeonoaaSettleNet
namespace Go.Proofs.Ytanaaphabeonoaa.SettlePlain
open Go.RowKit Go.Proofs.Ytanaaphabeonoaa.PAll Go.Proofs.Ytanaaphabeonoaa.SettleNet Go.Proofs.YtanaaphabeonoaaW.PrintWords
set_option linter.unusedSimpArgs false
set_option linter.unusedVariables false

theorem st_wrap {x : Int} (h0 : -9000000000000000000 ≤ x) (h1 : x ≤ 9000000000000000000) : wrap64 x = x := by unfold wrap64; omega

/-- What one record gives to a network. -/
def give (v : Int) (r : Rec) : Int := (if r.f4 = v then r.f8 else 0) - (if r.f3 = v then r.f8 else 0)
/-- What a network gets. -/
def gets (l : List Rec) (v : Int) : Int := (l.map (give v)).sum
theorem gets_nil (v : Int) : gets [] v = 0 := rfl
theorem gets_cons (r : Rec) (l : List Rec) (v : Int) : gets (r :: l) v = give v r + gets l v := by simp [gets]
theorem gets_append (l m : List Rec) (v : Int) : gets (l ++ m) v = gets l v + gets m v := by simp [gets]

def Good (n : Int) (r : Rec) : Prop := 0 ≤ r.f3 ∧ r.f3 < n ∧ 0 ≤ r.f4 ∧ r.f4 < n ∧ 0 ≤ r.f8 ∧ r.f8 ≤ 1000000000
instance (n : Int) (r : Rec) : Decidable (Good n r) := by unfold Good; infer_instance
theorem good_iff (n : Int) (r : Rec) : goodR n r = true ↔ Good n r := by
  unfold goodR inI Good
  simp only [Bool.and_eq_true, decide_eq_true_eq]
  omega
theorem give_bound {n : Int} {r : Rec} (h : Good n r) (v : Int) : -1000000000 ≤ give v r ∧ give v r ≤ 1000000000 := by
  unfold Good at h
  unfold give
  split <;> split <;> omega
theorem gets_bound {n : Int} : ∀ {l : List Rec}, (∀ r ∈ l, Good n r) → ∀ v, -(1000000000 * (l.length : Int)) ≤ gets l v ∧ gets l v ≤ 1000000000 * (l.length : Int)
  | [], _, v => by simp [gets]
  | r :: l, h, v => by
    have h1 := give_bound (h r List.mem_cons_self) v
    have h2 := gets_bound (l := l) (fun x hx => h x (List.mem_cons_of_mem _ hx)) v
    rw [gets_cons, List.length_cons]
    omega

/-- The list of what all networks have. -/
def vec (n : Nat) (f : Int → Int) : List Int := (List.range n).map fun v : Nat => f (v : Int)
theorem vec_length (n : Nat) (f : Int → Int) : (vec n f).length = n := by simp [vec]
theorem vec_rd (n : Nat) (f : Int → Int) (i : Int) (h0 : 0 ≤ i) (h1 : i < n) : rd (vec n f) i = f i := by
  unfold rd vec
  rw [List.getD_eq_getElem?_getD, List.getElem?_map, List.getElem?_range (show i.toNat < n by omega)]
  show f ((i.toNat : Nat) : Int) = f i
  rw [Int.toNat_of_nonneg h0]
theorem vec_set (n : Nat) (f : Int → Int) (i : Int) (h0 : 0 ≤ i) (h1 : i < n) (x : Int) : (vec n f).set i.toNat x = vec n (fun v => if v = i then x else f v) := by
  unfold vec
  apply List.ext_getElem
  · simp
  · intro j h2 h3
    rw [List.getElem_set]
    simp only [List.getElem_map, List.getElem_range]
    by_cases e : i.toNat = j
    · rw [if_pos e, if_pos (by omega)]
    · rw [if_neg e, if_neg (by omega)]
theorem vec_congr (n : Nat) {f g : Int → Int} (h : ∀ v : Nat, v < n → f (v : Int) = g (v : Int)) : vec n f = vec n g := by
  unfold vec
  exact List.map_congr_left (fun v hv => h v (by simpa using hv))

theorem upd_vec {n : Int} {r : Rec} (h : Good n r) (f : Int → Int) (hf : ∀ v, -900000000000 ≤ f v ∧ f v ≤ 900000000000) : upd (vec n.toNat f) r = vec n.toNat (fun v => f v + give v r) := by
  obtain ⟨h1, h2, h3, h4, h5, h6⟩ := h
  have k4 : r.f4 < (n.toNat : Int) := by omega
  have k3 : r.f3 < (n.toNat : Int) := by omega
  have e := hf r.f4
  have e3 := hf r.f3
  unfold upd
  rw [vec_rd _ _ _ h3 k4, st_wrap (by omega) (by omega), vec_set _ _ _ h3 k4, vec_rd _ _ _ h1 k3, vec_set _ _ _ h1 k3]
  refine vec_congr _ (fun v _ => ?_)
  unfold give
  by_cases c3 : (v : Int) = r.f3
  · rw [if_pos c3, c3]
    by_cases c4 : r.f3 = r.f4
    · rw [if_pos c4, if_pos c4.symm, if_pos rfl, st_wrap (by omega) (by omega), c4]; omega
    · rw [if_neg c4, if_neg (fun k => c4 k.symm), if_pos rfl, st_wrap (by omega) (by omega)]; omega
  · rw [if_neg c3, if_neg (show ¬ r.f3 = (v : Int) from fun k => c3 k.symm)]
    by_cases c4 : (v : Int) = r.f4
    · rw [if_pos c4, if_pos c4.symm, c4]; omega
    · rw [if_neg c4, if_neg (show ¬ r.f4 = (v : Int) from fun k => c4 k.symm)]; omega

/-- A name among those before. -/
def dupIn : List (Int × Int) → List (Int × Int) → Bool
  | _, [] => false
  | seen, p :: ps => seen.contains p || dupIn (seen ++ [p]) ps
theorem dupIn_iff : ∀ (ps seen : List (Int × Int)), dupIn seen ps = false ↔ ps.Nodup ∧ ∀ p ∈ ps, p ∉ seen
  | [], seen => by simp [dupIn]
  | p :: ps, seen => by
    rw [dupIn, Bool.or_eq_false_iff, dupIn_iff ps (seen ++ [p]), List.nodup_cons]
    simp only [List.contains_eq_mem, decide_eq_false_iff_not, List.mem_append, not_or, List.mem_cons, List.not_mem_nil, or_false]
    constructor
    · rintro ⟨h1, h2, h3⟩
      refine ⟨⟨fun h => (h3 p h).2 rfl, h2⟩, ?_⟩
      rintro q (rfl | hq)
      · exact h1
      · exact (h3 q hq).1
    · rintro ⟨⟨h1, h2⟩, h3⟩
      exact ⟨h3 p (.inl rfl), h2, fun q hq => ⟨h3 q (.inr hq), fun e => h1 (e ▸ hq)⟩⟩

def nm (r : Rec) : Int × Int := (r.f4, r.f0)

theorem netL_good {n : Int} (l : List Rec) : ∀ (M : Int) (seen : List (Int × Int)) (f : Int → Int) (tw : Bool), (∀ r ∈ l, Good n r) → M + 1000000000 * (l.length : Int) ≤ 900000000000 → (∀ v, -M ≤ f v ∧ f v ≤ M) →
    netL n l seen (vec n.toNat f) tw = if (tw || dupIn seen (l.map nm)) = true then ([], 5) else (vec n.toNat (fun v => f v + gets l v), 0) := by
  induction l with
  | nil =>
    intro M seen f tw _ _ _
    simp only [netL, dupIn, List.map_nil, Bool.or_false]
    rw [show (fun v => f v + gets [] v) = f by funext v; rw [gets_nil]; omega]
  | cons r l ih =>
    intro M seen f tw hg hM hf
    have hr := hg r List.mem_cons_self
    rw [List.length_cons] at hM
    have e1 := upd_vec hr f (fun v => by have := hf v; omega)
    have e2 := ih (M + 1000000000) (seen ++ [(r.f4, r.f0)]) (fun v => f v + give v r) (tw || seen.contains (r.f4, r.f0)) (fun x hx => hg x (List.mem_cons_of_mem _ hx)) (by omega) (fun v => by
        have h1 := hf v
        have h2 := give_bound hr v
        omega)
    have e3 : (fun v => f v + give v r + gets l v) = fun v => f v + gets (r :: l) v := by funext v; rw [gets_cons]; omega
    rw [netL, if_pos ((good_iff n r).2 hr), e1, e2, e3, List.map_cons, dupIn, Bool.or_assoc]
    rfl
theorem netL_bad {n : Int} : ∀ (l : List Rec) (seen : List (Int × Int)) (out : List Int) (tw : Bool), (∃ r ∈ l, ¬ Good n r) → netL n l seen out tw = ([], 1)
  | [], _, _, _, h => by obtain ⟨r, hr, _⟩ := h; simp at hr
  | r :: l, seen, out, tw, h => by
    rw [netL]
    by_cases c : Good n r
    · rw [if_pos ((good_iff n r).2 c)]
      refine netL_bad l _ _ _ ?_
      obtain ⟨x, hx, hb⟩ := h
      rcases List.mem_cons.1 hx with rfl | hx
      · exact absurd c hb
      · exact ⟨x, hx, hb⟩
    · rw [if_neg (fun k => c ((good_iff n r).1 k))]

/-- Records that can be settled, each session once. -/
def Fine (l : List Rec) (n : Int) : Prop := l.length ≤ 64 ∧ 1 ≤ n ∧ n ≤ 8 ∧ (∀ r ∈ l, Good n r) ∧ (l.map nm).Nodup

theorem rep_vec (n : Nat) : List.replicate n (0 : Int) = vec n (fun _ => 0) := by
  apply List.ext_getElem
  · simp [vec]
  · intro i h1 h2; simp [vec]

theorem net_fine {l : List Rec} {n : Int} (hw : ∀ r ∈ l, wfR r = true) (h : Fine l n) : netF l n = some (vec n.toNat (gets l), 0) := by
  obtain ⟨h1, h2, h3, h4, h5⟩ := h
  unfold netF
  rw [if_pos (List.all_eq_true.2 hw), if_neg (by omega), if_pos (by unfold inI; simp; omega), rep_vec, netL_good l 0 [] _ false h4 (by omega) (fun v => by omega), (dupIn_iff _ _).2 ⟨h5, by simp⟩]
  simp
theorem net_twice {l : List Rec} {n : Int} (hw : ∀ r ∈ l, wfR r = true) (h1 : l.length ≤ 64) (h2 : 1 ≤ n) (h3 : n ≤ 8) (h4 : ∀ r ∈ l, Good n r) (h5 : ¬ (l.map nm).Nodup) : netF l n = some ([], 5) := by
  unfold netF
  rw [if_pos (List.all_eq_true.2 hw), if_neg (by omega), if_pos (by unfold inI; simp; omega), rep_vec, netL_good l 0 [] _ false h4 (by omega) (fun v => by omega)]
  have : dupIn [] (l.map nm) = true := by
    rw [← Bool.not_eq_false]
    intro k
    exact h5 ((dupIn_iff _ _).1 k).1
  rw [this]; rfl
theorem net_bad {l : List Rec} {n : Int} (hw : ∀ r ∈ l, wfR r = true) (h1 : l.length ≤ 64) (h : ¬ (1 ≤ n ∧ n ≤ 8) ∨ ∃ r ∈ l, ¬ Good n r) : netF l n = some ([], 1) := by
  unfold netF
  rw [if_pos (List.all_eq_true.2 hw), if_neg (by omega)]
  by_cases c : inI n 1 8 = true
  · rw [if_pos c]
    have : 1 ≤ n ∧ n ≤ 8 := by unfold inI at c; simpa using c
    rcases h with h | h
    · exact absurd this h
    · rw [netL_bad _ _ _ _ h]
  · rw [if_neg c]
theorem net_long {l : List Rec} {n : Int} (hw : ∀ r ∈ l, wfR r = true) (h1 : 64 < l.length) : netF l n = some ([], 2) := by
  unfold netF
  rw [if_pos (List.all_eq_true.2 hw), if_pos h1]
/-- Whenever Net has no error. -/
theorem net_ok {l : List Rec} {n : Int} (hw : ∀ r ∈ l, wfR r = true) {out : List Int} (h : netF l n = some (out, 0)) : Fine l n ∧ out = vec n.toNat (gets l) := by
  by_cases h1 : l.length ≤ 64
  · by_cases h2 : 1 ≤ n ∧ n ≤ 8
    · by_cases h4 : ∀ r ∈ l, Good n r
      · by_cases h5 : (l.map nm).Nodup
        · have hF : Fine l n := ⟨h1, h2.1, h2.2, h4, h5⟩
          rw [net_fine hw hF] at h
          exact ⟨hF, by simpa using h.symm⟩
        · rw [net_twice hw h1 h2.1 h2.2 h4 h5] at h
          simp at h
      · rw [net_bad hw h1 (.inr (by simpa using h4))] at h
        simp at h
    · rw [net_bad hw h1 (.inl h2)] at h
      simp at h
  · rw [net_long hw (by omega)] at h
    simp at h
/-- What it answers is one of these. -/
theorem net_some {l : List Rec} (n : Int) (hw : ∀ r ∈ l, wfR r = true) : Fine l n ∧ netF l n = some (vec n.toNat (gets l), 0) ∨ ∃ e : Int, e ≠ 0 ∧ netF l n = some ([], e) := by
  by_cases h1 : l.length ≤ 64
  · by_cases h2 : 1 ≤ n ∧ n ≤ 8
    · by_cases h4 : ∀ r ∈ l, Good n r
      · by_cases h5 : (l.map nm).Nodup
        · exact .inl ⟨⟨h1, h2.1, h2.2, h4, h5⟩, net_fine hw ⟨h1, h2.1, h2.2, h4, h5⟩⟩
        · exact .inr ⟨5, by decide, net_twice hw h1 h2.1 h2.2 h4 h5⟩
      · exact .inr ⟨1, by decide, net_bad hw h1 (.inr (by simpa using h4))⟩
    · exact .inr ⟨1, by decide, net_bad hw h1 (.inl h2)⟩
  · exact .inr ⟨2, by decide, net_long hw (by omega)⟩

/-- What all networks get adds up to nothing. -/
theorem sum_vec_add (n : Nat) (f g : Int → Int) : (vec n fun v => f v + g v).sum = (vec n f).sum + (vec n g).sum := by
  unfold vec
  generalize List.range n = L
  induction L with
  | nil => rfl
  | cons a L ih => simp only [List.map_cons, List.sum_cons, ih]; omega
theorem sum_zero (L : List Nat) : (L.map fun _ => (0 : Int)).sum = 0 := by
  induction L with
  | nil => rfl
  | cons a L ih => simp only [List.map_cons, List.sum_cons, ih]; omega
theorem sum_one (i x : Int) (h0 : 0 ≤ i) : ∀ n : Nat, ((List.range n).map fun v : Nat => if i = (v : Int) then x else 0).sum = if i < n then x else 0
  | 0 => by rw [if_neg (by omega)]; rfl
  | n + 1 => by
    rw [List.range_succ, List.map_append, List.sum_append, sum_one i x h0 n]
    simp only [List.map_cons, List.map_nil, List.sum_cons, List.sum_nil]
    by_cases e : i = (n : Int)
    · rw [if_pos e, if_neg (by omega), if_pos (by omega)]; omega
    · rw [if_neg e]
      by_cases c : i < (n : Int)
      · rw [if_pos c, if_pos (by omega)]; omega
      · rw [if_neg c, if_neg (by omega)]; omega
theorem sum_vec_one (n : Nat) (i : Int) (h0 : 0 ≤ i) (h1 : i < n) (x : Int) : (vec n fun v => if i = v then x else 0).sum = x := by
  have := sum_one i x h0 n
  rw [if_pos h1] at this
  exact this
theorem sum_give {n : Nat} {r : Rec} (h : Good n r) : (vec n fun v => give v r).sum = 0 := by
  obtain ⟨h1, h2, h3, h4, h5, h6⟩ := h
  have : (fun v => give v r) = fun v => (if r.f4 = v then r.f8 else 0) + (if r.f3 = v then -r.f8 else 0) := by
    funext v; unfold give; split <;> split <;> omega
  rw [this, sum_vec_add n (fun v => if r.f4 = v then r.f8 else 0) (fun v => if r.f3 = v then -r.f8 else 0), sum_vec_one n r.f4 h3 h4, sum_vec_one n r.f3 h1 h2]
  omega
theorem sum_gets {n : Nat} : ∀ {l : List Rec}, (∀ r ∈ l, Good n r) → (vec n (gets l)).sum = 0
  | [], _ => by
    have : gets [] = fun _ => (0 : Int) := by funext v; rfl
    rw [this]
    exact sum_zero _
  | r :: l, h => by
    have : gets (r :: l) = fun v => give v r + gets l v := by funext v; rw [gets_cons]
    rw [this, sum_vec_add n (fun v => give v r) (gets l), sum_give (h r List.mem_cons_self), sum_gets (fun x hx => h x (List.mem_cons_of_mem _ hx))]
    rfl
/-- Records at home give nothing. -/
theorem gets_away (v : Int) : ∀ l : List Rec, gets (l.filter fun r => !(r.f3 == r.f4)) v = gets l v
  | [] => rfl
  | r :: l => by
    rw [List.filter_cons, gets_cons, ← gets_away v l]
    by_cases e : r.f3 = r.f4
    · have : give v r = 0 := by unfold give; rw [e]; omega
      rw [if_neg (by simp [e]), this]
      omega
    · rw [if_pos (by simp [e]), gets_cons]
theorem gets_perm {l m : List Rec} (h : l.Perm m) (v : Int) : gets l v = gets m v := by
  unfold gets
  have := h.map (give v)
  generalize l.map (give v) = a at this
  generalize m.map (give v) = b at this
  induction this with
  | nil => rfl
  | cons x _ ih => simp [ih]
  | swap x y l => simp; omega
  | trans _ _ ih1 ih2 => rw [ih1, ih2]
theorem Fine.sub {l m : List Rec} {n : Int} (h : Fine l n) (hs : m.Sublist l) : Fine m n :=
  ⟨Nat.le_trans hs.length_le h.1, h.2.1, h.2.2.1, fun r hr => h.2.2.2.1 r (hs.subset hr), (hs.map nm).nodup h.2.2.2.2⟩
theorem Fine.perm {l m : List Rec} {n : Int} (h : Fine l n) (hp : l.Perm m) : Fine m n :=
  ⟨by rw [← hp.length_eq]; exact h.1, h.2.1, h.2.2.1, fun r hr => h.2.2.2.1 r (hp.mem_iff.2 hr), (hp.map nm).nodup_iff.1 h.2.2.2.2⟩
end Go.Proofs.Ytanaaphabeonoaa.SettlePlain
