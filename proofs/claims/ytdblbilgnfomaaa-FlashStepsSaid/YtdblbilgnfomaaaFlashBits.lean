/-
  Bytes and the and of them.
-/
import Derived.Test.YtdblbilgnfomaaaFlashPlain
import Derived.Laws.BitsLemmas
namespace Go.Proofs.Ytdblbilgnfomaaa.FlashPlain
open Go.RowKit Go.Proofs.Ytdblbilgnfomaaa.PAll Go.Proofs.Ytdblbilgnfomaaa.FlashB Go.Proofs.Ytdblbilgnfomaaa.FlashC Go.Proofs.Ytdblbilgnfomaaa.FlashE Go.Proofs.YtdblbilgnfomaaaW.PrintWords
set_option linter.unusedSimpArgs false
set_option linter.unusedVariables false

def isB (x : Int) : Prop := 0 ≤ x ∧ x < 256
def isBs (l : List Int) : Prop := ∀ x ∈ l, isB x
theorem isB_wf {x : Int} (h : (Lit.int .u8 x).wf = true) : isB x := by
  simp [Lit.wf] at h
  have e1 : IntKind.u8.min = 0 := rfl
  have e2 : IntKind.u8.max = 255 := rfl
  rw [e1, e2] at h
  unfold isB
  omega
theorem isBs_wf {l : List Int} (h : ∀ x ∈ l, (Lit.int .u8 x).wf = true) : isBs l := fun x hx => isB_wf (h x hx)
theorem isBs.rd {l : List Int} (h : isBs l) (j : Int) (h0 : 0 ≤ j) (h1 : j < l.length) : isB (rd l j) := by
  obtain ⟨j, rfl⟩ := Int.eq_ofNat_of_zero_le h0
  rw [rd_nat l j (by omega)]
  exact h _ (List.getElem_mem _)
theorem and8 (a b : Nat) (ha : a < 256) (hb : b < 256) : Go.bits .and .u8 (a : Int) (b : Int) = ((a &&& b : Nat) : Int) :=
  (bits_nat .u8 8 (by decide) wraps_u8 a b (by omega) (by omega)).1
theorem lift8 {x : Int} (h : isB x) : ∃ n : Nat, n < 256 ∧ x = (n : Int) := ⟨x.toNat, by have := h.1; have := h.2; omega, by have := h.1; omega⟩
theorem and8_isB {x y : Int} (hx : isB x) (hy : isB y) : isB (Go.bits .and .u8 x y) := by
  obtain ⟨a, ha, rfl⟩ := lift8 hx
  obtain ⟨b, hb, rfl⟩ := lift8 hy
  rw [and8 a b ha hb]
  have := Nat.and_le_left (n := a) (m := b)
  exact ⟨by omega, by omega⟩
theorem and8_255 {x : Int} (hx : isB x) : Go.bits .and .u8 255 x = x := by
  obtain ⟨a, ha, rfl⟩ := lift8 hx
  have := and8 255 a (by omega) ha
  rw [show ((255 : Nat) : Int) = 255 from rfl] at this
  rw [this, Nat.and_comm]
  congr 1
  have h2 : a &&& 255 = a % 256 := Nat.and_two_pow_sub_one_eq_mod a 8
  omega
theorem and8_idem {x d : Int} (hx : isB x) (hd : isB d) : Go.bits .and .u8 (Go.bits .and .u8 x d) d = Go.bits .and .u8 x d := by
  obtain ⟨a, ha, rfl⟩ := lift8 hx
  obtain ⟨b, hb, rfl⟩ := lift8 hd
  have := Nat.and_le_left (n := a) (m := b)
  rw [and8 a b ha hb, and8 (a &&& b) b (by omega) hb, Nat.and_assoc, Nat.and_self]
theorem and8_swap {x d e : Int} (hx : isB x) (hd : isB d) (he : isB e) : Go.bits .and .u8 (Go.bits .and .u8 x d) e = Go.bits .and .u8 (Go.bits .and .u8 x e) d := by
  obtain ⟨a, ha, rfl⟩ := lift8 hx
  obtain ⟨b, hb, rfl⟩ := lift8 hd
  obtain ⟨c, hc, rfl⟩ := lift8 he
  have h1 := Nat.and_le_left (n := a) (m := b)
  have h2 := Nat.and_le_left (n := a) (m := c)
  rw [and8 a b ha hb, and8 a c ha hc, and8 (a &&& b) c (by omega) hc, and8 (a &&& c) b (by omega) hb, Nat.and_assoc, Nat.and_assoc, Nat.and_comm b c]
theorem and8_assoc {x d e : Int} (hx : isB x) (hd : isB d) (he : isB e) : Go.bits .and .u8 (Go.bits .and .u8 x d) e = Go.bits .and .u8 x (Go.bits .and .u8 d e) := by
  obtain ⟨a, ha, rfl⟩ := lift8 hx
  obtain ⟨b, hb, rfl⟩ := lift8 hd
  obtain ⟨c, hc, rfl⟩ := lift8 he
  have h1 := Nat.and_le_left (n := a) (m := b)
  have h2 := Nat.and_le_left (n := b) (m := c)
  rw [and8 a b ha hb, and8 b c hb hc, and8 (a &&& b) c (by omega) hc, and8 a (b &&& c) ha (by omega), Nat.and_assoc]

/-- What a program leaves at j. -/
def prg (at_ : Int) (d : List Int) (x : Int) (j : Int) : Int := if at_ ≤ j ∧ j < at_ + d.length then Go.bits .and .u8 x (rd d (j - at_)) else x
theorem prog_rd (l : List Int) (at_ : Int) (d : List Int) (hat : 0 ≤ at_) (hm : at_ + d.length ≤ l.length) (j : Int) (h0 : 0 ≤ j) (h1 : j < l.length) : rd (stL (clearB d) at_ l d.length) j = prg at_ d (rd l j) j := by
  rw [stL_rd _ _ _ _ hat hm j h0 h1]
  rfl
theorem prg_isB {at_ : Int} {d : List Int} {x j : Int} (hd : isBs d) (hx : isB x) : isB (prg at_ d x j) := by
  unfold prg
  split
  · exact and8_isB hx (hd.rd _ (by omega) (by omega))
  · exact hx
theorem isBs_of_rd {l : List Int} (h : ∀ j : Int, 0 ≤ j → j < l.length → isB (Go.Proofs.YtdblbilgnfomaaaW.PrintWords.rd l j)) : isBs l := by
  intro x hx
  obtain ⟨i, hi, rfl⟩ := List.getElem_of_mem hx
  have := h i (by omega) (by omega)
  rwa [rd_nat l i hi] at this
theorem u16_wf {x : Int} (h : (Lit.int .u16 x).wf = true) : 0 ≤ x ∧ x < 65536 := by
  simp [Lit.wf] at h
  have e1 : IntKind.u16.min = 0 := rfl
  have e2 : IntKind.u16.max = 65535 := rfl
  rw [e1, e2] at h
  omega
theorem i64_wf {x : Int} (h : (Lit.int .i64 x).wf = true) : -9223372036854775808 ≤ x ∧ x ≤ 9223372036854775807 := by
  simp [Lit.wf] at h
  have e1 : IntKind.i64.min = -9223372036854775808 := rfl
  have e2 : IntKind.i64.max = 9223372036854775807 := rfl
  exact h
end Go.Proofs.Ytdblbilgnfomaaa.FlashPlain
