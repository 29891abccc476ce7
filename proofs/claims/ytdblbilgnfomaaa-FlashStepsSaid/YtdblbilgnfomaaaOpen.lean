/-
  What comes in, opened: from the statement's reading of memory to the words of the printed walks. For every kind of value that has no pointer.
-/
import Derived.Test.YtdblbilgnfomaaaWMore
import Derived.Deep.Slices
import Derived.ChangeArms
import Derived.OpenShut
namespace Go.Proofs.Ytdblbilgnfomaaa.Open
open Go.RowKit Go.Proofs.YtdblbilgnfomaaaW.PrintWords Go.ChangeShapes
set_option linter.unusedVariables false
set_option linter.unusedSimpArgs false

/-- Whatever a reading of the type tells is a value of the kind, and a good one. -/
def Opens {α : Type} (P : Program) (t : TypeId) (d : Kd α) (ok : α → Prop) : Prop :=
  ∀ {H : Type} (enc : TypeId × Value → H) (w : World) (base : Nat) (spare : Nat → Bool) (held : Bool) (fuel : Nat) (cs : List Value) (x : DataW H × List MemPlace), DataW.trod enc P w base spare held fuel t cs = some x → ∃ a, d.K w a cs ∧ ok a

theorem opens_int {P : Program} {t : TypeId} {k : IntKind} (h : P.underlying t = some (.int k)) : Opens P t (Kd.int k) (fun n => (Lit.int k n).wf = true) := by
  intro H enc w base spare held fuel cs x hx
  obtain ⟨n, rfl, _, hw⟩ := DataW.trod_int h hx
  exact ⟨n, rfl, hw⟩
theorem opens_bool {P : Program} {t : TypeId} (h : P.underlying t = some .bool) : Opens P t Kd.bool (fun _ => True) := by
  intro H enc w base spare held fuel cs x hx
  obtain ⟨b, rfl, _⟩ := DataW.trod_bool h hx
  exact ⟨b, rfl, trivial⟩
theorem opens_str {P : Program} {t : TypeId} (h : P.underlying t = some .string) : Opens P t Kd.string (fun s => s.size ≤ maxLen) := by
  intro H enc w base spare held fuel cs x hx
  obtain ⟨s, rfl, _, hs⟩ := DataW.trod_string h hx
  exact ⟨s, rfl, hs⟩

theorem opens_slice {α : Type} {P : Program} {t e : TypeId} {e' : Nat} {d : Kd α} {ok : α → Prop} (ht : P.underlying t = some (.slice e)) (hc : P.cellsOf e = d.sz) (hd : Opens P e d ok) :
    Opens P t (Kd.slice e' d) (fun xs => xs.length ≤ maxLen ∧ ∀ x ∈ xs, ok x) := by
  intro H enc w base spare held fuel cs x hx
  rcases Go.Deep.open_slice ht hx with ⟨rfl, _⟩ | ⟨a, len, cap, m, n, D, Pl, rfl, hb, hl, hm, hmm, _, hel⟩
  · exact ⟨[], ⟨none, 0, rfl, Nat.le_refl _, Kd.C_nil d w⟩, by simp, by simp⟩
  · have hlm : len ≤ m := by rw [hmm]; split <;> omega
    have hA : ∀ i : Fin len, ∃ a' : α, ok a' ∧ ∃ c, c.length = d.sz ∧ d.K w a' c ∧ ∀ j u, c[j]? = some u → w.cell? (a.add (i.1 * d.sz + j)) = some u := fun i => by
      obtain ⟨cs', h1, h2⟩ := hel i.1 (by omega)
      obtain ⟨a', hK, hok⟩ := hd _ _ _ _ _ _ _ _ h2
      refine ⟨a', hok, cs', d.K_len hK, hK, fun j u hu => ?_⟩
      rw [hc] at h1
      obtain ⟨_, hlen, hcell⟩ := World.cells?_some h1
      have hj := (List.getElem?_eq_some_iff.1 hu).1
      have := hcell j (by omega)
      rw [add_add] at this
      rw [this, hu]
    obtain ⟨f, hf⟩ := Classical.axiomOfChoice hA
    refine ⟨List.ofFn f, ⟨some a, cap, by rw [List.length_ofFn], by rw [List.length_ofFn]; exact hl, ?_⟩, by rw [List.length_ofFn]; omega, fun x hx => ?_⟩
    · refine ⟨rfl, by rw [List.length_ofFn]; unfold maxLen at hm; omega, fun _ => ⟨a, rfl, fun j p hj => ?_⟩⟩
      rw [List.getElem?_ofFn] at hj
      split at hj
      · rename_i hjl
        obtain rfl := Option.some.inj hj
        exact (hf ⟨j, hjl⟩).2
      · cases hj
    · obtain ⟨i, rfl⟩ := List.mem_ofFn.1 hx
      exact (hf i).1

/-- Pieces of a value, one behind the other. -/
def Chain {α : Type} (P : Program) (fs : List Field) (off : Nat) (d : Kd α) (ok : α → Prop) : Prop :=
  ∀ {H : Type} (enc : TypeId × Value → H) (w : World) (base : Nat) (spare : Nat → Bool) (held : Bool) (fuel : Nat) (cs : List Value), cs.length = d.sz →
    (∀ f ∈ fs, ∃ x, DataW.trod enc P w base spare held fuel f.type ((cs.drop (f.offset - off)).take (P.cellsOf f.type)) = some x) → ∃ a, d.K w a cs ∧ ok a

theorem chain_one {α : Type} {P : Program} {f : Field} {off : Nat} {d : Kd α} {ok : α → Prop} (ho : f.offset = off) (hc : P.cellsOf f.type = d.sz) (hd : Opens P f.type d ok) : Chain P [f] off d ok := by
  intro H enc w base spare held fuel cs hl hx
  obtain ⟨x, hx⟩ := hx f List.mem_cons_self
  rw [ho, Nat.sub_self, List.drop_zero, hc, ← hl, List.take_length] at hx
  exact hd _ _ _ _ _ _ _ _ hx

theorem chain_cons {α β : Type} {P : Program} {f : Field} {fs : List Field} {off : Nat} {d : Kd α} {ok : α → Prop} {d' : Kd β} {ok' : β → Prop} (ho : f.offset = off) (hc : P.cellsOf f.type = d.sz) (hd : Opens P f.type d ok)
    (hb : fs.all (fun g => decide (off + d.sz ≤ g.offset)) = true) (hr : Chain P fs (off + d.sz) d' ok') : Chain P (f :: fs) off (Kd.pair d d') (fun p => ok p.1 ∧ ok' p.2) := by
  intro H enc w base spare held fuel cs hl hx
  have hl2 : cs.length = d.sz + d'.sz := hl
  obtain ⟨x, hx0⟩ := hx f List.mem_cons_self
  rw [ho, Nat.sub_self, List.drop_zero, hc] at hx0
  obtain ⟨a, hK, hok⟩ := hd _ _ _ _ _ _ _ _ hx0
  obtain ⟨b, hK', hok'⟩ := hr enc w base spare held fuel (cs.drop d.sz) (by rw [List.length_drop]; omega) (fun g hg => by
    obtain ⟨y, hy⟩ := hx g (List.mem_cons_of_mem _ hg)
    have hge : off + d.sz ≤ g.offset := by simpa using List.all_eq_true.1 hb g hg
    rw [List.drop_drop, show d.sz + (g.offset - (off + d.sz)) = g.offset - off by omega]
    exact ⟨y, hy⟩)
  exact ⟨(a, b), ⟨cs.take d.sz, cs.drop d.sz, (List.take_append_drop _ _).symm, hK, hK'⟩, hok, hok'⟩

theorem opens_struct {α : Type} {P : Program} {t : TypeId} {fs : Array Field} {d : Kd α} {ok : α → Prop} (ht : P.underlying t = some (.struct fs)) (hc : P.cellsOf t = d.sz) (hr : Chain P fs.toList 0 d ok) : Opens P t d ok := by
  intro H enc w base spare held fuel cs x hx
  obtain ⟨xs, n, _, _, hl, hlx, hf⟩ := DataW.trod_struct ht hx
  refine hr enc w base spare held n cs (by rw [hl, hc]) (fun f hfm => ?_)
  obtain ⟨i, hi, rfl⟩ := List.getElem_of_mem hfm
  have h1 := hf i (fs.toList[i]) (by simp)
  rw [Nat.sub_zero, h1]
  have : i < xs.length := by rw [hlx]; simpa using hi
  exact ⟨xs[i], List.getElem?_eq_getElem this⟩

theorem trod_array {H : Type} {enc : TypeId × Value → H} {P : Program} {w : World} {base : Nat} {spare : Nat → Bool} {held : Bool} {fuel : Nat} {t e : TypeId} {n : Nat} {cs : List Value} {x : DataW H × List MemPlace}
    (ht : P.underlying t = some (.array n e)) (h : DataW.trod enc P w base spare held fuel t cs = some x) :
    ∃ m, cs.length = P.cellsOf t ∧ ∀ i, i < n → ∃ y, DataW.trod enc P w base spare held m e ((cs.drop (i * P.cellsOf e)).take (P.cellsOf e)) = some y := by
  cases fuel with
  | zero => simp [DataW.trod] at h
  | succ m =>
    unfold DataW.trod at h
    rw [ht] at h
    split at h <;> simp_all
    obtain ⟨hl, xs, hp, hd⟩ := h
    refine ⟨m, fun i hi => ?_⟩
    have hlen := mapM_some_length hp
    have := mapM_some_get hp i i (by simp [hi])
    rw [this]
    exact ⟨(xs[i]'(by rw [hlen]; simpa using hi)).1, (xs[i]'(by rw [hlen]; simpa using hi)).2, by rw [List.getElem?_eq_getElem]⟩

/-- An array's elements, as fields. -/
def itemsOf (P : Program) (n : Nat) (e : TypeId) : List Field := (List.range n).map fun i => { name := "", type := e, offset := i * P.cellsOf e, embedded := false, tag := "", pkgPath := "", byteOffset := 0 }

theorem opens_array {α : Type} {P : Program} {t e : TypeId} {n : Nat} {d : Kd α} {ok : α → Prop} (ht : P.underlying t = some (.array n e)) (hc : P.cellsOf t = d.sz) (hr : Chain P (itemsOf P n e) 0 d ok) : Opens P t d ok := by
  intro H enc w base spare held fuel cs x hx
  obtain ⟨m, hl, hf⟩ := trod_array ht hx
  refine hr enc w base spare held m cs (by rw [hl, hc]) (fun f hfm => ?_)
  obtain ⟨i, hi, rfl⟩ := List.mem_map.1 hfm
  rw [Nat.sub_zero]
  exact hf i (by simpa using hi)

theorem opens_iso {α β : Type} {P : Program} {t : TypeId} {d : Kd α} {ok : α → Prop} (f : β → α) (g : α → β) (hg : ∀ a, f (g a) = a) (h : Opens P t d ok) : Opens P t (Kd.iso d f) (fun b => ok (f b)) := by
  intro H enc w base spare held fuel cs x hx
  obtain ⟨a, hK, hok⟩ := h enc w base spare held fuel cs x hx
  exact ⟨g a, show d.K w (f (g a)) cs by rw [hg]; exact hK, show ok (f (g a)) by rw [hg]; exact hok⟩

/-- An argument that is a slice. -/
theorem arg_slice {α : Type} {H : Type} {enc : TypeId × Value → H} {P : Program} {w : World} {base : Nat} {spare : Nat → Bool} {held : Bool} {t e : TypeId} {d : Kd α} {ok : α → Prop} (ht : P.underlying t = some (.slice e)) (hc : P.cellsOf e = d.sz) (hd : Opens P e d ok)
    {v : Value} {y : DataW H} {p : List MemPlace} (h : DataW.Trod enc P w base spare held t v y p) (hv : ∃ A n c, v = .slice A n c) :
    ∃ A c, ∃ l : List α, v = .slice A l.length c ∧ l.length ≤ c ∧ d.C w A l.length l ∧ l.length ≤ maxLen ∧ ∀ x ∈ l, ok x := by
  obtain ⟨fuel, hx⟩ := h
  obtain ⟨A, n, c, rfl⟩ := hv
  obtain ⟨l, ⟨A', c', e1, hle, hC⟩, hm, hok⟩ := opens_slice (e' := 0) ht hc hd _ _ _ _ _ _ _ _ hx
  simp [Value.cells] at e1
  obtain ⟨rfl, rfl, rfl⟩ := e1
  exact ⟨_, _, l, rfl, hle, hC, hm, hok⟩

/-- An argument that is a struct of more than one cell. -/
theorem arg_struct {α : Type} {H : Type} {enc : TypeId × Value → H} {P : Program} {w : World} {base : Nat} {spare : Nat → Bool} {held : Bool} {t : TypeId} {d : Kd α} {ok : α → Prop} (hd : Opens P t d ok) (hs : 1 < d.sz)
    {v : Value} {y : DataW H} {p : List MemPlace} (h : DataW.Trod enc P w base spare held t v y p) : ∃ a cs, v = .agg cs ∧ d.K w a cs.toList ∧ ok a := by
  obtain ⟨fuel, hx⟩ := h
  obtain ⟨a, hK, hok⟩ := hd _ _ _ _ _ _ _ _ hx
  have hl := d.K_len hK
  cases v
  case agg cs => exact ⟨a, cs, rfl, hK, hok⟩
  all_goals (simp [Value.cells] at hl; omega)

/-! make([]T, 0, n): an empty row of one's own, with room. -/
section
variable {P : Program} {ops : Array Oper} {rest : List Oper} {o : Oper} {a : Act} {Q : Exit → Act → World → Prop} {Kc : Act → World → Prop} {α : Type}
theorem make0_run (d : Kd α) {w0 W : World} (base e : Nat) (t : TypeId) (x y : Operand) (ho : o.op = .makeSlice t x y) (n : Int) (hx : a.eval x = .int .i64 0) (hy : a.eval y = .int .i64 n)
    (ht : P.underlying t = some (.slice e)) (z : Value) (bytes : Nat) (hinfo : (P.info? e).map (fun i => (i.zero, i.size, i.bytes)) = some (some z, d.sz, bytes)) (hb0 : 0 < bytes) (h0 : 0 ≤ n) (hl : n.toNat * bytes ≤ 281474976710656) (hbase : base ≤ W.heap.size) :
    (execOp a.eval o).run P W = .ok (.value (.slice (some ⟨W.heap.size, 0, none⟩) 0 n.toNat)) (W.alloc (.cells (madeCells z.cells (n.toNat * d.sz)) e)) ∧ (W.alloc (.cells (madeCells z.cells (n.toNat * d.sz)) e)).ownsRow base e d.sz (.slice (some ⟨W.heap.size, 0, none⟩) 0 n.toNat) 0 [] := by
  obtain ⟨m, rfl⟩ := Int.eq_ofNat_of_zero_le h0
  simp only [Int.toNat_natCast] at hl ⊢
  obtain ⟨i0, hi, hzz⟩ := Option.map_eq_some_iff.1 hinfo
  simp only [Prod.mk.injEq] at hzz
  obtain ⟨hz0, hz1, hz2⟩ := hzz
  have hm : m ≤ 281474976710656 := Nat.le_trans (Nat.le_mul_of_pos_right _ hb0) hl
  have hr := run_make (P := P) W t e i0 z ht hi hz0 .i64 .i64 0 (m : Int) (by omega) (by omega)
    (by
      have h3 : ((i0.bytes * m : Nat) : Int) ≤ 281474976710656 := by rw [hz2, Nat.mul_comm]; omega
      rwa [Int.natCast_mul] at h3) (by omega)
  simp only [Int.toNat_natCast, Int.toNat_zero] at hr
  rw [hz1] at hr
  exact ⟨by simp [execOp, ho, hx, hy, hr], World.ownsRow_made W _ m hbase (by unfold maxLen; omega) (size_madeCells _ _)⟩
theorem R_make0 (d : Kd α) {w0 W : World} (base e : Nat) (hgd : o.guard = none) {N : Tmp} (hd : o.dst = some N) (t : TypeId) (x y : Operand) (ho : o.op = .makeSlice t x y) (n : Int) (hx : a.eval x = .int .i64 0) (hy : a.eval y = .int .i64 n)
    (ht : P.underlying t = some (.slice e)) (z : Value) (bytes : Nat) (hinfo : (P.info? e).map (fun i => (i.zero, i.size, i.bytes)) = some (some z, d.sz, bytes)) (hz : z.cells.size = d.sz) (hs0 : 0 < d.sz) (hb0 : 0 < bytes)
    (z0 : α) {ok okp : Nat → Prop} (hzero : d.M W base okp z0 z.cells.toList) (hok : ∀ k, okp k → ok k) (hfresh : ok W.heap.size) (h0 : 0 ≤ n) (hl : n.toNat * bytes ≤ 281474976710656) (HB : Below base w0 W) (hbase : base ≤ W.heap.size)
    (h : ∀ v1 w1, d.R e w1 base ok v1 [] → Below base w0 w1 → W.grownBy w1 none → (∃ b, v1.ownBlock = some b ∧ W.heap.size ≤ b) → wpList P ops Q rest (a.put o.dst v1) w1) : wpList P ops Q (o :: rest) a W := by
  obtain ⟨hr, hown⟩ := make0_run (P := P) (o := o) (a := a) (w0 := w0) d base e t x y ho n hx hy ht z bytes hinfo hb0 h0 hl hbase
  refine Kd.event_run hgd hr (h _ _ ⟨fun k hk => ?_, [], hown, Reps.none _ _⟩ (HB.alloc hbase _) (World.grownBy_alloc W _ none) ⟨W.heap.size, by simp [Value.ownBlock], Nat.le_refl _⟩)
  have : W.heap.size = k := by simpa [Value.ownBlock] using hk
  subst this
  exact hfresh
theorem R_make0_step (d : Kd α) {w0 W : World} (base e : Nat) (hw : Region.wanted o (yielded ops a.tmps) = true) {N : Tmp} (hd : o.dst = some N) (t : TypeId) (x y : Operand) (ho : o.op = .makeSlice t x y) (n : Int) (hx : a.eval x = .int .i64 0) (hy : a.eval y = .int .i64 n)
    (ht : P.underlying t = some (.slice e)) (z : Value) (bytes : Nat) (hinfo : (P.info? e).map (fun i => (i.zero, i.size, i.bytes)) = some (some z, d.sz, bytes)) (hz : z.cells.size = d.sz) (hs0 : 0 < d.sz) (hb0 : 0 < bytes)
    (z0 : α) {ok okp : Nat → Prop} (hzero : d.M W base okp z0 z.cells.toList) (hok : ∀ k, okp k → ok k) (hfresh : ok W.heap.size) (h0 : 0 ≤ n) (hl : n.toNat * bytes ≤ 281474976710656) (HB : Below base w0 W) (hbase : base ≤ W.heap.size)
    (h : ∀ v1 w1, d.R e w1 base ok v1 [] → Below base w0 w1 → W.grownBy w1 none → (∃ b, v1.ownBlock = some b ∧ W.heap.size ≤ b) → Kc (a.put o.dst v1) w1) : if Region.wanted o (yielded ops a.tmps) = true then Oper.wp P o a W Kc Q else Kc (a.put o.dst undef) W := by
  obtain ⟨hr, hown⟩ := make0_run (P := P) (o := o) (a := a) (w0 := w0) d base e t x y ho n hx hy ht z bytes hinfo hb0 h0 hl hbase
  refine event_step hw hr (h _ _ ⟨fun k hk => ?_, [], hown, Reps.none _ _⟩ (HB.alloc hbase _) (World.grownBy_alloc W _ none) ⟨W.heap.size, by simp [Value.ownBlock], Nat.le_refl _⟩)
  have : W.heap.size = k := by simpa [Value.ownBlock] using hk
  subst this
  exact hfresh
theorem S_make0 (d : Kd α) {w0 W : World} (base e : Nat) (hgd : o.guard = none) {N : Tmp} (hd : o.dst = some N) (t : TypeId) (x y : Operand) (ho : o.op = .makeSlice t x y) (n : Int) (hx : a.eval x = .int .i64 0) (hy : a.eval y = .int .i64 n)
    (ht : P.underlying t = some (.slice e)) (z : Value) (bytes : Nat) (hinfo : (P.info? e).map (fun i => (i.zero, i.size, i.bytes)) = some (some z, d.sz, bytes)) (hz : z.cells.size = d.sz) (hs0 : 0 < d.sz) (hb0 : 0 < bytes)
    (z0 : α) {ok okp : Nat → Prop} (hzero : d.M W base (fun _ => False) z0 z.cells.toList) (_hok : ∀ k, okp k → ok k) (hfresh : ok W.heap.size) (h0 : 0 ≤ n) (hl : n.toNat * bytes ≤ 281474976710656) (HB : Below base w0 W) (hbase : base ≤ W.heap.size)
    (h : ∀ v1 w1, Kd.S d e w1 base ok v1 [] → Below base w0 w1 → W.grownBy w1 none → (∃ b, v1.ownBlock = some b ∧ W.heap.size ≤ b) → wpList P ops Q rest (a.put o.dst v1) w1) : wpList P ops Q (o :: rest) a W :=
  R_make0 (Kd.bare d) base e hgd hd t x y ho n hx hy ht z bytes hinfo hz hs0 hb0 z0 (ok := ok) (okp := ok) hzero (fun _ hk => hk) hfresh h0 hl HB hbase (fun v1 w1 hr => h v1 w1 (Kd.S_bare hr))
theorem S_make0_step (d : Kd α) {w0 W : World} (base e : Nat) (hw : Region.wanted o (yielded ops a.tmps) = true) {N : Tmp} (hd : o.dst = some N) (t : TypeId) (x y : Operand) (ho : o.op = .makeSlice t x y) (n : Int) (hx : a.eval x = .int .i64 0) (hy : a.eval y = .int .i64 n)
    (ht : P.underlying t = some (.slice e)) (z : Value) (bytes : Nat) (hinfo : (P.info? e).map (fun i => (i.zero, i.size, i.bytes)) = some (some z, d.sz, bytes)) (hz : z.cells.size = d.sz) (hs0 : 0 < d.sz) (hb0 : 0 < bytes)
    (z0 : α) {ok okp : Nat → Prop} (hzero : d.M W base (fun _ => False) z0 z.cells.toList) (_hok : ∀ k, okp k → ok k) (hfresh : ok W.heap.size) (h0 : 0 ≤ n) (hl : n.toNat * bytes ≤ 281474976710656) (HB : Below base w0 W) (hbase : base ≤ W.heap.size)
    (h : ∀ v1 w1, Kd.S d e w1 base ok v1 [] → Below base w0 w1 → W.grownBy w1 none → (∃ b, v1.ownBlock = some b ∧ W.heap.size ≤ b) → Kc (a.put o.dst v1) w1) :
    if Region.wanted o (yielded ops a.tmps) = true then Oper.wp P o a W Kc Q else Kc (a.put o.dst undef) W :=
  R_make0_step (Kd.bare d) base e hw hd t x y ho n hx hy ht z bytes hinfo hz hs0 hb0 z0 (ok := ok) (okp := ok) hzero (fun _ hk => hk) hfresh h0 hl HB hbase (fun v1 w1 hr => h v1 w1 (Kd.S_bare hr))
end
end Go.Proofs.Ytdblbilgnfomaaa.Open
