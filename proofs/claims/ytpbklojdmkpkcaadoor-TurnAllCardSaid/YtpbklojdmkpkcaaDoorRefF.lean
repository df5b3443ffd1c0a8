/- The reference's wide numbers: CmpFour, bit; as contracts. -/
import Derived.Test.YtpbklojdmkpkcaaDoorRefE
namespace Go.Proofs.YtpbklojdmkpkcaaDoor
open Go Go.RowKit
set_option linter.unusedVariables false
set_option linter.unusedSimpArgs false
set_option maxRecDepth 100000
def cmpS (x y : Int) : Int := if x < y then -1 else if y < x then 1 else 0
theorem num4_words (a : Vc) : num4 a = a.X.h * 6277101735386680763835789423207666416102355444464034512896 + a.X.l * 340282366920938463463374607431768211456 + a.Y.h * 18446744073709551616 + a.Y.l := by
  unfold num4 num val2; omega
/-- An element is read. -/
def nd {α : Type} (l : List Int) (x : Int) (t : Tr α) : Tr α := .chk (decide (0 ≤ x) && decide (x < (l.length : Int))) (.chk (Nat.blt x.toNat l.length) t)
theorem nd_holds {α : Type} {l : List Int} {x : Int} {t : Tr α} {Q : α → Prop} : (nd l x t).holds Q ↔ (0 ≤ x ∧ x < (l.length : Int)) ∧ t.holds Q := by
  unfold nd
  simp only [Tr.holds, Bool.and_eq_true, decide_eq_true_eq, Nat.blt_eq]
  exact ⟨fun h => ⟨h.1, h.2.2⟩, fun h => ⟨h.1, by omega, h.2⟩⟩
def same4 (a b : Vc) (x : Int) : Prop := (-1 ≤ x ∧ x ≤ 3) ∧ (x < 3 → a.X.h = b.X.h) ∧ (x < 2 → a.X.l = b.X.l) ∧ (x < 1 → a.Y.h = b.Y.h) ∧ (x < 0 → a.Y.l = b.Y.l)
theorem k_r1_CmpFour' (a b : Vc) (h : ok4 a ∧ ok4 b) : Good (evPure Tryd.prog (mkOrc L2 []) Tryd.f141 [intLoop 7 (same4 a b) fun i => (i + 1).toNat] [cFo.enc a, cFo.enc b]) fun r => r = (cI .i64).enc (cmpS (num4 a) (num4 b)) := by
  refine ⟨?_⟩
  have e : evPure Tryd.prog (mkOrc L2 []) Tryd.f141 [intLoop 7 (same4 a b) fun i => (i + 1).toNat] [cFo.enc a, cFo.enc b] =
    .chk true (.chk true (.need ((3 : Int) = 3 ∧ True) (.need True (.need (same4 a b 3) (.all Int (same4 a b) fun x => .ite (decide (x ≥ 0))
      (nd (wordsS a) x (nd (wordsS b) x (.ite (decide ((wordsS a).getD x.toNat 0 < (wordsS b).getD x.toNat 0)) (.ret ((cI .i64).enc (-1)))
        (nd (wordsS a) x (nd (wordsS b) x (.ite (decide ((wordsS a).getD x.toNat 0 > (wordsS b).getD x.toNat 0)) (.ret ((cI .i64).enc 1))
          (.need (IntKind.i64.wrap (x - 1) = IntKind.i64.wrap (x - 1) ∧ True) (.need True (.need (same4 a b (IntKind.i64.wrap (x - 1))) (.need ((IntKind.i64.wrap (x - 1) + 1).toNat < (x + 1).toNat) .done))))))))))
      (.ret ((cI .i64).enc 0))))))) := by kernel_rfl
  rw [e]
  clear e
  obtain ⟨⟨⟨a1, a2⟩, a3, a4⟩, ⟨b1, b2⟩, b3, b4⟩ := h
  have a1 := a1.h; have a2 := a2.h; have a3 := a3.h; have a4 := a4.h
  have b1 := b1.h; have b2 := b2.h; have b3 := b3.h; have b4 := b4.h
  refine ⟨rfl, rfl, ⟨rfl, trivial⟩, trivial, ⟨by omega, fun h => absurd h (by decide), fun h => absurd h (by decide), fun h => absurd h (by decide), fun h => absurd h (by decide)⟩, fun x hx => ?_⟩
  obtain ⟨hx, e3, e2, e1, e0⟩ := hx
  have hlen : (wordsS a).length = 4 ∧ (wordsS b).length = 4 := ⟨rfl, rfl⟩
  have wr : IntKind.i64.wrap (x - 1) = x - 1 := by rw [IntKind.wrap_i64]; omega
  have goal : ∀ r : Int, r = cmpS (num4 a) (num4 b) → (cI .i64).enc r = (cI .i64).enc (cmpS (num4 a) (num4 b)) := fun r h => by rw [h]
  simp only [Tr.holds, nd_holds, hlen.1, hlen.2, wr, decide_eq_true_eq, decide_eq_false_iff_not]
  have c : x = 0 ∨ x = 1 ∨ x = 2 ∨ x = 3 ∨ x < 0 := by omega
  refine ⟨fun h0 => ⟨by omega, by omega, fun hl => goal _ ?_, fun hl => ⟨by omega, by omega, fun hg => goal _ ?_, fun hg => ⟨⟨trivial, trivial⟩, trivial, ?_, by omega, trivial⟩⟩⟩, fun h0 => goal _ ?_⟩
  all_goals (try rw [num4_words a, num4_words b])
  · unfold cmpS
    rcases c with rfl | rfl | rfl | rfl | c <;> simp [wordsS] at hl <;> (try omega) <;> (rw [if_pos (by omega)])
  · unfold cmpS
    rcases c with rfl | rfl | rfl | rfl | c <;> simp [wordsS] at hg <;> (try omega) <;> (rw [if_neg (by omega), if_pos (by omega)])
  · rcases c with rfl | rfl | rfl | rfl | c <;> simp [wordsS] at hl hg <;> (try omega) <;> (refine ⟨by omega, ?_, ?_, ?_, ?_⟩ <;> intro _ <;> omega)
  · unfold cmpS
    rw [if_neg (by omega), if_neg (by omega)]
theorem k_r1_CmpFour : C2 Tryd.prog TabI 141 cFo cFo (cI .i64).enc (fun a b => ok4 a ∧ ok4 b) fun a b => cmpS (num4 a) (num4 b) :=
  .ev (fun a b => [intLoop 7 (same4 a b) fun i => (i + 1).toNat]) mixed (mkOrc_ok (l := L2) (x := []) trivial) Tryd.func141 (by decide) k_r1_CmpFour'
end Go.Proofs.YtpbklojdmkpkcaaDoor
