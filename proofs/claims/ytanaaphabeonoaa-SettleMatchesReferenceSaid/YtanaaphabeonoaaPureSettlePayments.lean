/-
  For all balances, after the payments all of them are 0; there are fewer payments than balances; each is of more than 0, from one with a negative balance to one with a positive balance; and they add up to what those with negative balances owe.
-/
import Derived.Test.YtanaaphabeonoaaPAllx10
import Derived.Test.YtanaaphabeonoaaSettleHead
import Derived.Test.YtanaaphabeonoaaSettlePlain2
namespace Go.Proofs.Ytanaaphabeonoaa.Pure
open Go.RowKit Go.Proofs.Ytanaaphabeonoaa.PAll Go.Proofs.Ytanaaphabeonoaa.SettlePay Go.Proofs.Ytanaaphabeonoaa.SettlePlain Go.Proofs.YtanaaphabeonoaaW.PrintWords Go.Proofs.YtanaaphabeonoaaW.PrintLast Go.Proofs.YtanaaphabeonoaaW.PrintMore
set_option linter.unusedSimpArgs false
set_option linter.unusedVariables false

theorem sp_rd (l : List Int) (i : Nat) : rd l (i : Int) = at_ l i := by unfold rd at_; rw [Int.toNat_natCast]
theorem sp_lo (l : List Int) (h : l.length ≤ 1000) : settle_first_int.f l 27 = some ((lo l : Nat) : Int) := by
  show firstF l _ = _
  unfold firstF
  rw [if_pos h, if_pos rfl]
  rfl
theorem sp_hi (l : List Int) (h : l.length ≤ 1000) : settle_first_int.f l 28 = some ((hi l : Nat) : Int) := by
  show firstF l _ = _
  unfold firstF
  rw [if_pos h, if_neg (by decide), if_pos rfl]
  rfl

/-- The program's loop. -/
theorem sp_loop : ∀ (m : Nat) (l : List Int) (out : List Pay), Bal l → nz l ≤ m → out.length + m ≤ 100 → Ev (fun k => settle_Payments.l0 k l out) (out ++ pays m l, (0 : Int)) := by
  intro m
  induction m with
  | zero =>
    intro l out h hm ho
    refine evs ?_
    obtain ⟨l1, _⟩ := lo_spec l h.pos
    obtain ⟨g1, _⟩ := hi_spec l h.pos
    have hl := h.len
    have ha : amt l = 0 := h.amt_zero.2.2 (Bal.nz_zero.1 (by omega))
    have hm1 : mn (-at_ l (lo l)) (at_ l (hi l)) = amt l := rfl
    have b1 := h.big _ l1
    simp only [settle_Payments.l0, sp_lo l (by omega), sp_hi l (by omega), Option.bind_some, sp_rd, st_wrap (x := -at_ l (lo l)) (by omega) (by omega), hm1, if_pos (show (0 : Int) ≤ (lo l : Int) by omega), if_pos (show (0 : Int) ≤ (hi l : Int) by omega), if_pos (show (lo l : Int) < (l.length : Int) by omega), if_pos (show (hi l : Int) < (l.length : Int) by omega), if_pos ha, pays, List.append_nil]
    exact Ev.now _
  | succ m ih =>
    intro l out h hm ho
    refine evs ?_
    obtain ⟨l1, _⟩ := lo_spec l h.pos
    obtain ⟨g1, _⟩ := hi_spec l h.pos
    have hl := h.len
    have hm1 : mn (-at_ l (lo l)) (at_ l (hi l)) = amt l := rfl
    have b1 := h.big _ l1
    have b2 := h.big _ g1
    simp only [settle_Payments.l0, sp_lo l (by omega), sp_hi l (by omega), Option.bind_some, sp_rd, st_wrap (x := -at_ l (lo l)) (by omega) (by omega), hm1, if_pos (show (0 : Int) ≤ (lo l : Int) by omega), if_pos (show (0 : Int) ≤ (hi l : Int) by omega), if_pos (show (lo l : Int) < (l.length : Int) by omega), if_pos (show (hi l : Int) < (l.length : Int) by omega), Int.toNat_natCast, if_pos (show out.length < 5864062014805 by omega)]
    by_cases ha : amt l = 0
    · simp only [if_pos ha, pays, List.append_nil]
      exact Ev.now _
    · obtain ⟨h1, h2, h3, h4, h5, h6, h7, h8⟩ := h.step ha
      have hh : at_ (l.set (lo l) (at_ l (lo l) + amt l)) (hi l) = at_ l (hi l) := by rw [at_set _ _ _ _ l1, if_neg (fun e => h8 e.symm)]
      simp only [if_neg ha, st_wrap (x := at_ l (lo l) + amt l) (by omega) (by omega), hh, st_wrap (x := at_ l (hi l) - amt l) (by omega) (by omega)]
      have := ih (SettlePlain.step l) (out ++ [pay l]) h1 (by omega) (by simp; omega)
      rw [List.append_assoc] at this
      rw [pays, if_neg ha]
      exact this

/-- What those with negative balances owe. -/
def owe1 (x : Int) : Int := if 0 < -x then -x else 0
def owe (l : List Int) : Int := (l.map owe1).sum
theorem owe_set (l : List Int) (i : Nat) (x : Int) (h : i < l.length) : owe (l.set i x) = owe l - owe1 (at_ l i) + owe1 x := by
  unfold owe
  rw [List.map_set, sum_set _ _ _ (by rw [List.length_map]; exact h)]
  congr 2
  unfold at_
  rw [List.getD_eq_getElem?_getD, List.getD_eq_getElem?_getD, List.getElem?_map, List.getElem?_eq_getElem h]
  rfl
theorem owe_zero (l : List Int) (h : ∀ i, i < l.length → at_ l i = 0) : owe l = 0 := by
  unfold owe
  have : l.map owe1 = l.map fun _ => (0 : Int) := List.map_congr_left (fun x hx => by
    obtain ⟨i, hi, rfl⟩ := (at_mem l x).1 hx
    rw [h i hi]; rfl)
  rw [this]
  clear this h
  induction l with
  | nil => rfl
  | cons a l ih => simpa using ih
theorem owe_bound (l : List Int) (h : ∀ i, i < l.length → -64000000000 ≤ at_ l i ∧ at_ l i ≤ 64000000000) : 0 ≤ owe l ∧ owe l ≤ 64000000000 * (l.length : Int) := by
  have hm : ∀ x ∈ l, 0 ≤ owe1 x ∧ owe1 x ≤ 64000000000 := fun x hx => by
    obtain ⟨i, hi, rfl⟩ := (at_mem l x).1 hx
    have := h i hi
    unfold owe1; split <;> omega
  clear h
  unfold owe
  induction l with
  | nil => simp
  | cons a l ih =>
    have h1 := hm a List.mem_cons_self
    have h2 := ih (fun x hx => hm x (List.mem_cons_of_mem _ hx))
    rw [List.map_cons, List.sum_cons, List.length_cons]
    omega
theorem owe_step {l : List Int} (h : Bal l) (ha : amt l ≠ 0) : owe (SettlePlain.step l) = owe l - amt l := by
  obtain ⟨h1, h2, h3, h4, h5, h6, h7, h8⟩ := h.step ha
  obtain ⟨l1, _⟩ := lo_spec l h.pos
  obtain ⟨g1, _⟩ := hi_spec l h.pos
  have hh : at_ (l.set (lo l) (at_ l (lo l) + amt l)) (hi l) = at_ l (hi l) := by rw [at_set _ _ _ _ l1, if_neg (fun e => h8 e.symm)]
  unfold SettlePlain.step
  rw [owe_set _ _ _ (by rw [List.length_set]; exact g1), owe_set _ _ _ l1, hh]
  unfold owe1
  split <;> split <;> split <;> split <;> omega

/-- The law's last loop. -/
theorem sp_l1 (n : List Int) (hb : Bal n) (P : List Pay) (hP : P.length < n.length) (z : List Int) (hz : z.length = n.length) (h0 : ∀ i, i < z.length → at_ z i = 0) :
    ∀ d i : Nat, n.length - i = d → i ≤ n.length → Ev (fun k => chargeparklaw42_SettlePayments.l1 k n true P 0 z (owe n) (owe (n.take i)) (i : Int)) true := by
  intro d
  induction d with
  | zero =>
    intro i hd hi
    refine evs ?_
    simp only [chargeparklaw42_SettlePayments.l1, if_neg (show ¬ (i : Int) < (n.length : Int) by omega), if_true, if_pos (show (P.length : Int) < (n.length : Int) by omega)]
    rw [List.take_of_length_le (by omega), beq_self_eq_true]
    exact Ev.now _
  | succ d ih =>
    intro i hd hi
    have hlt : i < n.length := by omega
    have hl := hb.len
    refine evs ?_
    have b := hb.big i hlt
    have hat : n[i] = at_ n i := by unfold at_; rw [List.getD_eq_getElem?_getD, List.getElem?_eq_getElem hlt]; rfl
    have ho : owe (n.take (i + 1)) = owe (n.take i) + owe1 (at_ n i) := by
      unfold owe; rw [take_snoc n i hlt, List.map_append, List.sum_append, hat]; simp
    have hob := owe_bound (n.take (i + 1)) (fun j hj => by
      have hj2 : j < n.length ∧ j < i + 1 := by rw [List.length_take] at hj; omega
      have := hb.big j hj2.1
      unfold at_ at this ⊢
      rw [List.getD_eq_getElem?_getD, List.getElem?_take, if_pos hj2.2]
      rw [List.getD_eq_getElem?_getD] at this
      exact this)
    have hlen : ((n.take (i + 1)).length : Int) ≤ 8 := by rw [List.length_take]; omega
    have hmx : mx 0 (-at_ n i) = owe1 (at_ n i) := rfl
    simp only [chargeparklaw42_SettlePayments.l1, if_pos (show (i : Int) < (n.length : Int) by omega), if_true, if_pos (show (0 : Int) ≤ (i : Int) by omega), if_pos (show (i : Int) < (z.length : Int) by omega), sp_rd, h0 i (by omega), beq_self_eq_true, st_wrap (x := -at_ n i) (by omega) (by omega), hmx, st_wrap (x := (i : Int) + 1) (by omega) (by omega)]
    rw [← ho, st_wrap (by omega) (by omega)]
    exact ih (i + 1) (by omega) (by omega)

theorem sp_pay (P pre : List Pay) (l : List Int) (Q : List Pay) (h : P = pre ++ pay l :: Q) : rd_T44 P (pre.length : Int) = pay l := by
  unfold rd_T44
  rw [h, List.getD_eq_getElem?_getD, Int.toNat_natCast, List.getElem?_append_right (Nat.le_refl _), Nat.sub_self]
  rfl

/-- The law's loop over the payments. -/
theorem sp_l0 (n : List Int) (hb : Bal n) (P : List Pay) (hP : P.length < n.length) : ∀ (m : Nat) (l : List Int) (pre : List Pay) (moved : Int), Bal l → nz l ≤ m → P = pre ++ pays m l → l.length = n.length → (∀ i, i < n.length → (at_ l i < 0 → at_ n i < 0) ∧ (0 < at_ l i → 0 < at_ n i)) → moved + owe l = owe n →
    Ev (fun k => chargeparklaw42_SettlePayments.l0 k n true P 0 l moved (pre.length : Int)) true := by
  have hend : ∀ (l : List Int) (pre : List Pay) (moved : Int), Bal l → amt l = 0 → P = pre → l.length = n.length → moved + owe l = owe n → Ev (fun k => chargeparklaw42_SettlePayments.l0 k n true P 0 l moved (pre.length : Int)) true := by
    intro l pre moved h ha hp hl ho
    subst hp
    refine evs ?_
    have hz := h.amt_zero.2.1 ha
    rw [owe_zero l hz, Int.add_zero] at ho
    subst ho
    simp only [chargeparklaw42_SettlePayments.l0, if_neg (Int.lt_irrefl _)]
    exact sp_l1 n hb P hP l hl hz n.length 0 (by omega) (by omega)
  intro m
  induction m with
  | zero =>
    intro l pre moved h hm hp hl hs ho
    exact hend l pre moved h (h.amt_zero.2.2 (Bal.nz_zero.1 (by omega))) (by rw [hp, pays, List.append_nil]) hl ho
  | succ m ih =>
    intro l pre moved h hm hp hl hs ho
    rw [pays] at hp
    by_cases ha : amt l = 0
    · rw [if_pos ha, List.append_nil] at hp
      exact hend l pre moved h ha hp hl ho
    · rw [if_neg ha] at hp
      obtain ⟨h1, h2, h3, h4, h5, h6, h7, h8⟩ := h.step ha
      obtain ⟨l1, _⟩ := lo_spec l h.pos
      obtain ⟨g1, _⟩ := hi_spec l h.pos
      have hn8 := hb.len
      refine evs ?_
      have hrd := sp_pay P pre l _ hp
      have hlt : pre.length < P.length := by rw [hp]; simp
      have s1 := (hs (lo l) (by omega)).1 h3
      have s2 := (hs (hi l) (by omega)).2 h4
      have b1 := h.big _ l1
      have b2 := h.big _ g1
      have bo := owe_bound n hb.big
      have bl := owe_bound (SettlePlain.step l) h1.big
      have hos := owe_step h ha
      have hh : at_ (l.set (lo l) (at_ l (lo l) + amt l)) (hi l) = at_ l (hi l) := by rw [at_set _ _ _ _ l1, if_neg (fun e => h8 e.symm)]
      have hsl : (SettlePlain.step l).length = l.length := by unfold SettlePlain.step; simp
      simp only [chargeparklaw42_SettlePayments.l0, if_pos (show (pre.length : Int) < (P.length : Int) by omega), if_pos (show (0 : Int) ≤ (pre.length : Int) by omega), hrd, pay,
        if_neg (show ¬ (lo l : Int) < 0 by omega), if_neg (show ¬ (lo l : Int) ≥ (n.length : Int) by omega), if_neg (show ¬ (hi l : Int) < 0 by omega), if_neg (show ¬ (hi l : Int) ≥ (n.length : Int) by omega), if_neg (show ¬ amt l ≤ 0 by omega),
        if_pos (show (0 : Int) ≤ (lo l : Int) by omega), if_pos (show (lo l : Int) < (n.length : Int) by omega), sp_rd, if_neg (show ¬ at_ n (lo l) ≥ 0 by omega), if_pos (show (0 : Int) ≤ (hi l : Int) by omega), if_pos (show (hi l : Int) < (n.length : Int) by omega), if_neg (show ¬ at_ n (hi l) ≤ 0 by omega),
        if_pos (show (lo l : Int) < (l.length : Int) by omega), if_pos (show (hi l : Int) < (l.length : Int) by omega), Int.toNat_natCast, Option.bind_some, st_wrap (x := at_ l (lo l) + amt l) (by omega) (by omega), hh, st_wrap (x := at_ l (hi l) - amt l) (by omega) (by omega), st_wrap (x := (pre.length : Int) + 1) (by omega) (by omega), st_wrap (x := moved + amt l) (by omega) (by omega)]
      have := ih (SettlePlain.step l) (pre ++ [pay l]) (moved + amt l) h1 (by omega) (by rw [hp, List.append_assoc]; rfl) (by omega) (fun i hi2 => by
        have hsi := hs i hi2
        unfold SettlePlain.step
        rw [at_set _ _ _ _ (by rw [List.length_set]; exact g1), at_set _ _ _ _ l1]
        split
        · rename_i e; subst e; omega
        · split
          · rename_i e; subst e; omega
          · exact hsi) (by omega)
      rw [List.length_append, List.length_singleton] at this
      exact this

/-- The reference's Balances: whatever it says; what it says is balances are. -/
theorem sp_ref (l : List Int) (hl : l.length ≤ 20000000000000) : ∃ b, Ev (fun k => chargeparkref42_Balances.f k l) b ∧ (b = true → Bal l) := by
  suffices H : ∀ d i : Nat, ∀ s : Int, l.length - i = d → i ≤ l.length → (i ≤ 8 → s = (l.take i).sum) → (∀ j, j < i → -64000000000 ≤ at_ l j ∧ at_ l j ≤ 64000000000) → ∃ b, Ev (fun k => chargeparkref42_Balances.l0 k l s (i : Int)) b ∧ (b = true → Bal l) by
    exact H l.length 0 0 (by omega) (by omega) (fun _ => by simp) (fun j hj => by omega)
  intro d
  induction d with
  | zero =>
    intro i s hd hi hs hb
    obtain rfl : i = l.length := by omega
    by_cases c1 : 1 ≤ l.length
    · by_cases c2 : l.length ≤ 8
      · refine ⟨s == 0, evs ?_, fun e => ?_⟩
        · simp only [chargeparkref42_Balances.l0, if_neg (Int.lt_irrefl _), if_pos (show (l.length : Int) ≥ 1 by omega), if_pos (show (l.length : Int) ≤ 8 by omega)]
          exact Ev.now _
        · have e : s = 0 := by simpa using e
          have := hs c2
          rw [List.take_length] at this
          exact ⟨by omega, c2, by omega, hb⟩
      · refine ⟨false, evs ?_, fun e => by cases e⟩
        simp only [chargeparkref42_Balances.l0, if_neg (Int.lt_irrefl _), if_pos (show (l.length : Int) ≥ 1 by omega), if_neg (show ¬ (l.length : Int) ≤ 8 by omega)]
        exact Ev.now _
    · refine ⟨false, evs ?_, fun e => by cases e⟩
      simp only [chargeparkref42_Balances.l0, if_neg (Int.lt_irrefl _), if_neg (show ¬ (l.length : Int) ≥ 1 by omega)]
      exact Ev.now _
  | succ d ih =>
    intro i s hd hi hs hb
    have hlt : i < l.length := by omega
    have hat : l[i] = at_ l i := by unfold at_; rw [List.getD_eq_getElem?_getD, List.getElem?_eq_getElem hlt]; rfl
    by_cases c1 : at_ l i < -64000000000
    · refine ⟨false, evs ?_, fun e => by cases e⟩
      simp only [chargeparkref42_Balances.l0, if_pos (show (i : Int) < (l.length : Int) by omega), if_pos (show (0 : Int) ≤ (i : Int) by omega), sp_rd, if_pos c1]
      exact Ev.now _
    · by_cases c2 : at_ l i > 64000000000
      · refine ⟨false, evs ?_, fun e => by cases e⟩
        simp only [chargeparkref42_Balances.l0, if_pos (show (i : Int) < (l.length : Int) by omega), if_pos (show (0 : Int) ≤ (i : Int) by omega), sp_rd, if_neg c1, if_pos c2]
        exact Ev.now _
      · obtain ⟨b, hE, hB⟩ := ih (i + 1) (wrap64 (s + at_ l i)) (by omega) (by omega) (fun h8 => by
          have := hs (by omega)
          have hsb := sum_take_bound (l.take i) (fun x hx => by
            obtain ⟨j, hj, rfl⟩ := (at_mem _ x).1 hx
            have hj2 : j < i := by rw [List.length_take] at hj; omega
            have := hb j hj2
            unfold at_ at this ⊢
            rw [List.getD_eq_getElem?_getD, List.getElem?_take, if_pos hj2]
            rw [List.getD_eq_getElem?_getD] at this
            omega)
          have hlen : ((l.take i).length : Int) ≤ 8 := by rw [List.length_take]; omega
          rw [take_snoc l i hlt, List.sum_append, ← this, hat, st_wrap (by omega) (by omega)]
          simp) (fun j hj => by
          by_cases e : j = i
          · subst e; omega
          · exact hb j (by omega))
        refine ⟨b, evs ?_, hB⟩
        simp only [chargeparkref42_Balances.l0, if_pos (show (i : Int) < (l.length : Int) by omega), if_pos (show (0 : Int) ≤ (i : Int) by omega), sp_rd, if_neg c1, if_neg c2, st_wrap (x := (i : Int) + 1) (by omega) (by omega)]
        exact hE

/-- The program's areBalances. -/
theorem sp_in (x lo hi : Int) : settle_in.f x lo hi = some (decide (x ≥ lo) && decide (x ≤ hi)) := by
  unfold settle_in.f
  by_cases c : x ≥ lo
  · rw [if_pos c, decide_eq_true c, Bool.true_and]
  · rw [if_neg c, decide_eq_false c, Bool.false_and]
theorem sp_are {l : List Int} (h : Bal l) : Ev (fun k => settle_areBalances.f k l) true := by
  suffices H : ∀ d i : Nat, l.length - i = d → i ≤ l.length → Ev (fun k => settle_areBalances.l0 k l (l.take i).sum l (l.length : Int) (i : Int)) true by
    exact H l.length 0 (by omega) (by omega)
  have h8 := h.len
  have hp := h.pos
  intro d
  induction d with
  | zero =>
    intro i hd hi
    obtain rfl : i = l.length := by omega
    refine evs ?_
    simp only [settle_areBalances.l0, if_neg (Int.lt_irrefl _), sp_in, Option.bind_some, List.take_length, h.sum]
    rw [show (decide ((l.length : Int) ≥ 1) && decide ((l.length : Int) ≤ 8)) = true by simp; omega]
    exact Ev.now _
  | succ d ih =>
    intro i hd hi
    have hlt : i < l.length := by omega
    have b := h.big i hlt
    have hat : l[i] = at_ l i := by unfold at_; rw [List.getD_eq_getElem?_getD, List.getElem?_eq_getElem hlt]; rfl
    have hsb := sum_take_bound (l.take i) (fun x hx => by
      obtain ⟨j, hj, rfl⟩ := (at_mem _ x).1 hx
      have hj2 : j < i := by rw [List.length_take] at hj; omega
      have := h.big j (by omega)
      unfold at_ at this ⊢
      rw [List.getD_eq_getElem?_getD, List.getElem?_take, if_pos hj2]
      rw [List.getD_eq_getElem?_getD] at this
      omega)
    have hlen : ((l.take i).length : Int) ≤ 8 := by rw [List.length_take]; omega
    refine evs ?_
    have hs : (l.take (i + 1)).sum = (l.take i).sum + at_ l i := by rw [take_snoc l i hlt, List.sum_append, hat]; simp
    have := ih (i + 1) (by omega) (by omega)
    rw [hs] at this
    simp only [settle_areBalances.l0, if_pos (show (i : Int) < (l.length : Int) by omega), if_pos (show (0 : Int) ≤ (i : Int) by omega), sp_rd, sp_in, Option.bind_some]
    rw [show (decide (at_ l i ≥ -64000000000) && decide (at_ l i ≤ 64000000000)) = true by simp; omega]
    simp only [if_true, st_wrap (x := (i : Int) + 1) (by omega) (by omega), st_wrap (x := (l.take i).sum + at_ l i) (by omega) (by omega)]
    exact this

theorem sp_payments {l : List Int} (h : Bal l) : Ev (fun k => settle_Payments.f k l) (pays (nz l) l, (0 : Int)) := by
  unfold settle_Payments.f
  refine Ev.bind (sp_are h) ?_
  have h8 := h.len
  have : slices_Clone_int_int.f l = some l := by
    show cloneF l = _
    unfold cloneF
    rw [if_pos (by omega)]
  simp only [if_true, this, Option.bind_some]
  have hn : nz l ≤ l.length := List.countP_le_length
  have := sp_loop (nz l) l [] h (Nat.le_refl _) (by simp; omega)
  rwa [List.nil_append] at this

theorem SettlePayments : chargeparklaw42_SettlePayments.Pure := by
  intro n hm hn hw
  unfold chargeparklaw42_SettlePayments.f
  refine Ev.rounds (Ev.bind st_head ?_)
  obtain ⟨b, hE, hB⟩ := sp_ref n (by omega)
  refine Ev.bind hE ?_
  cases b
  · exact Ev.now _
  · have h := hB rfl
    have h8 := h.len
    have hp := h.pos
    simp only [if_true]
    refine Ev.bind (sp_payments h) ?_
    simp only [if_pos (show (0 : Int) ≤ (n.length : Int) by omega), Int.toNat_natCast, if_pos (show n.length ≤ 35184372088832 by omega), Option.bind_some, List.length_nil, Nat.zero_add, if_pos (show n.length < 17592186044416 by omega), List.nil_append]
    have hn : nz n ≤ n.length := List.countP_le_length
    have hlen : (pays (nz n) n).length < n.length := by
      rcases pays_len (l := n) (nz n) h (Nat.le_refl _) with k | k
      · omega
      · rw [k]; simpa using hp
    exact sp_l0 n h _ hlen (nz n) n [] 0 h (Nat.le_refl _) rfl rfl (fun i _ => ⟨id, id⟩) (by omega)
end Go.Proofs.Ytanaaphabeonoaa.Pure
