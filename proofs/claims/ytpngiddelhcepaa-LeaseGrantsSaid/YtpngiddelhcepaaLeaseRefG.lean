/-
  What LeaseGrants needs of the reference (its Same), the head, and what the program's functions are called in the print.
-/
import Derived.Test.YtpngiddelhcepaaLeasePlain
import Derived.Test.YtpngiddelhcepaaPAllx2
import Derived.Test.YtpngiddelhcepaaPAllx7
namespace Go.Proofs.Ytpngiddelhcepaa.LeaseRefG
open Go.RowKit Go.Proofs.Ytpngiddelhcepaa.PAll Go.Proofs.Ytpngiddelhcepaa.LeaseWalk Go.Proofs.Ytpngiddelhcepaa.LeasePlain Go.Proofs.YtpngiddelhcepaaW.PrintWords Go.Proofs.YtpngiddelhcepaaW.PrintLast Go.Proofs.YtpngiddelhcepaaW.PrintMore
set_option linter.unusedSimpArgs false
set_option linter.unusedVariables false

theorem evs {α : Type} {g : Nat → Option α} {r : α} (h : Ev (fun k => g (k + 1)) r) : Ev g r := Ev.step (fun _ => rfl) h
theorem evn {α : Type} {o : Option α} {r : α} (h : o = some r) : Ev (fun _ => o) r := ⟨0, fun _ _ => h⟩
theorem evb {α β : Type} {o : Option α} {f : Nat → α → Option β} {a : α} {r : β} (h : o = some a) (k : Ev (fun n => f n a) r) : Ev (fun n => o.bind (f n)) r := by
  obtain ⟨K, hK⟩ := k
  exact ⟨K, fun n hn => by rw [h]; exact hK n hn⟩

theorem rd_at (l : List Ls) (i : Nat) (h : i < l.length) : rd_T24 l (i : Int) = l[i] := by
  unfold rd_T24
  rw [List.getD_eq_getElem?_getD, Int.toNat_natCast, List.getElem?_eq_getElem h]; rfl
theorem rd_int (l : List Int) (i : Nat) (h : i < l.length) : rd l (i : Int) = l[i] := by
  unfold rd
  rw [List.getD_eq_getElem?_getD, Int.toNat_natCast, List.getElem?_eq_getElem h]; rfl
theorem ls_eta (x : Ls) : (⟨x.f0, x.f1, x.f2, x.f3, x.f4⟩ : Ls) = x := rfl

theorem ref_ints (a : List Int) (ha : a.length ≤ 1000) : Ev (fun k => chargeparkref16_Ints.f k a a) true := by
  unfold chargeparkref16_Ints.f
  simp only [if_true]
  suffices H : ∀ d i : Nat, a.length - i = d → i ≤ a.length → Ev (fun k => chargeparkref16_Ints.l0 k a a (i : Int)) true from H a.length 0 (by omega) (by omega)
  intro d
  induction d with
  | zero =>
    intro i hd hi
    refine evs ?_
    simp only [chargeparkref16_Ints.l0, if_neg (show ¬ (i : Int) < (a.length : Int) by omega)]
    exact Ev.now _
  | succ d ih =>
    intro i hd hi
    refine evs ?_
    simp only [chargeparkref16_Ints.l0, if_pos (show (i : Int) < (a.length : Int) by omega), if_pos (show (0 : Int) ≤ (i : Int) by omega), if_true, lp_wrap (x := (i : Int) + 1) (by omega) (by omega)]
    exact ih (i + 1) (by omega) (by omega)
theorem ref_head : Ev (fun k => chargeparklaw16_head.f k) true :=
  Ev.of chargeparklaw16_head.mono (k := 6) (by decide +kernel)

theorem alive_is (l : List Ls) (ch tick : Int) : lease_Alive.f l ch tick = some (aliveR l ch tick) := rfl
theorem valid_is (l : List Ls) : lease_Valid.f l = some (validL l) := rfl
theorem ref_same (a : List Ls) (ha : a.length ≤ 1000) : Ev (fun k => chargeparkref16_Same.f k a a) true := by
  unfold chargeparkref16_Same.f
  simp only [if_true]
  suffices H : ∀ d i : Nat, a.length - i = d → i ≤ a.length → Ev (fun k => chargeparkref16_Same.l0 k a a (i : Int)) true from H a.length 0 (by omega) (by omega)
  intro d
  induction d with
  | zero =>
    intro i hd hi
    refine evs ?_
    simp only [chargeparkref16_Same.l0, if_neg (show ¬ (i : Int) < (a.length : Int) by omega)]
    exact Ev.now _
  | succ d ih =>
    intro i hd hi
    refine evs ?_
    simp only [chargeparkref16_Same.l0, if_pos (show (i : Int) < (a.length : Int) by omega), if_pos (show (0 : Int) ≤ (i : Int) by omega), beq_self_eq_true, Bool.not_true, Bool.or_false, if_neg (show ¬ (false = true) by decide), lp_wrap (x := (i : Int) + 1) (by omega) (by omega)]
    exact ih (i + 1) (by omega) (by omega)

theorem grant_is (l : List Ls) (x : Ls) : lease_Grant.f l x.f0 x.f1 x.f2 x.f3 x.f4 = some (grantL l x) := rfl
end Go.Proofs.Ytpngiddelhcepaa.LeaseRefG
