import Derived.Test.YtpbklojdmkpkcaaDoorG15
/- The ends of a rail. -/
namespace Go.Proofs.YtpbklojdmkpkcaaDoor
open Go Go.RowKit
set_option linter.unusedVariables false
set_option linter.unusedSimpArgs false
set_option maxRecDepth 100000
theorem kep_same {r r' : Rail} (h : r.Ecc = r'.Ecc) (x e : Int) : kepS (r, x, ()) e = kepS (r', x, ()) e := by unfold kepS; simp only [h]
theorem bis_same {r r' : Rail} (h : r.Ecc = r'.Ecc) (m : Fx) : ∀ k s, bisS r m k s = bisS r' m k s
  | 0, s => rfl
  | k + 1, s => by rw [bisS_succ, bisS_succ, kep_same h, bis_same h m k, bis_same h m k]
theorem ang_same {r r' : Rail} (h : r.Ecc = r'.Ecc) (h1 : r.Phase = r'.Phase) (h2 : r.Period = r'.Period) (t : Int) : angS r t = angS r' t := by
  have e : meanS (r, t, ()) 0 = meanS (r', t, ()) 0 := by unfold meanS; simp only [h1, h2]
  unfold angS angZ; rw [e, bis_same h]
def endR (k : Nat) : Rail := ⟨0, ⟨0, 0⟩, ⟨0, (k : Int) * 1152921504606846976⟩, 0, 0, 1000, ⟨0, 0⟩⟩
def endN (k : Nat) : Bool := decide (angS (endR k) 0 = (0, 0)) && decide (angS (endR k) 500 = (32768, 0)) && match mulF ((k : Int) * 1152921504606846976) ((k : Int) * 1152921504606846976) with
  | .ok v => match subF 18446744073709551616 v with
    | .ok w => match sqrtF w with
      | .ok p => decide (0 ≤ p ∧ p ≤ 36893488147419103232)
      | .error _ => false
    | .error _ => false
  | .error _ => false
theorem ends_all : ∀ k : Nat, k < 15 → endN k = true := by decide +kernel
theorem end_of {k : Nat} (h : k < 15) : angS (endR k) 0 = (0, 0) ∧ angS (endR k) 500 = (32768, 0) ∧ ∃ v w p, mulF ((k : Int) * 1152921504606846976) ((k : Int) * 1152921504606846976) = .ok v ∧ subF 18446744073709551616 v = .ok w ∧ sqrtF w = .ok p ∧ 0 ≤ p ∧ p ≤ 36893488147419103232 := by
  have e := ends_all k h
  unfold endN at e
  simp only [Bool.and_eq_true, decide_eq_true_eq] at e
  obtain ⟨⟨e1, e2⟩, e3⟩ := e
  refine ⟨e1, e2, ?_⟩
  split at e3
  · rename_i v hv
    split at e3
    · rename_i w hw
      split at e3
      · rename_i p hp
        exact ⟨v, w, p, hv, hw, hp, of_decide_eq_true e3⟩
      · cases e3
    · cases e3
  · cases e3
theorem of_0 : ofF 0 = .ok (18446744073709551616, 0) := by kernel_rfl
theorem of_half : ofF 32768 = .ok (-18446744073709551616, 0) := by kernel_rfl
theorem own_end (r : Rail) {n : Int} (n0 : 0 ≤ n) (n1 : n ≤ 4096) {k : Nat} (hk : k < 15) (h : r.Ecc = ⟨0, (k : Int) * 1152921504606846976⟩) (hl : r.Long = mkx (n * 18446744073709551616)) (ht : r.Turn = 0) (t a x : Int) (hang : angS r t = (a, 0)) (ha : ofF a = .ok (x, 0))
    (hx : -18446744073709551616 ≤ x ∧ x ≤ 18446744073709551616) : ownS r t = (⟨mkx (n * (x - k * 1152921504606846976)), mkx 0⟩, 0) := by
  obtain ⟨_, _, v, w, p, e3, e4, e5, p0, p1⟩ := end_of hk
  have he : num r.Ecc = (k : Int) * 1152921504606846976 := by rw [h]; exact num_lo _
  have e1 : stepF .sub (num (mkx (valX (ofF a)))) (num r.Ecc) = .ok (x - k * 1152921504606846976) := by
    rw [he, num_mk, ha]; show addF x (-_) = _; unfold addF; rw [if_pos (by omega)]; congr 1
  have e2 : stepF .mul (num r.Long) (num (mkx (x - k * 1152921504606846976))) = .ok (n * (x - k * 1152921504606846976)) := by
    rw [hl]; simp only [num_mk]; exact mul_int n0 n1 (by omega)
  have e3 : stepF .mul (num r.Ecc) (num r.Ecc) = .ok v := by rw [he]; exact e3
  have e4 : stepF .sub (num (mkx (1 * 18446744073709551616))) (num (mkx v)) = .ok w := by simp only [num_mk]; exact e4
  have e5 : stepF .root (num (mkx w)) (num (mkx w)) = .ok p := by simp only [num_mk]; exact e5
  have e6 : stepF .mul (num r.Long) (num (mkx p)) = .ok (n * p) := by
    rw [hl]; simp only [num_mk]; exact mul_int n0 n1 (by omega)
  have e7 : stepF .mul (num (mkx (n * p))) (num (mkx (valY (ofF a)))) = .ok 0 := by
    rw [ha]; simp only [num_mk]; show mulF (n * p) 0 = _
    unfold mulF; rw [show mag (n * p) * mag 0 = 0 from by rw [show mag 0 = 0 from rfl, Int.mul_zero]]
    cases (neg (n * p) != neg 0) <;> rfl
  have e : ellS r a = ((mkx (n * (x - k * 1152921504606846976)), mkx 0), 0) := by
    unfold ellS
    simp only [do_ok e1, do_ok e2, do_ok e3, do_ok e4, do_ok e5, do_ok e6, do_ok e7]
  unfold ownS
  rw [hang]
  simp only [e, ht, num_mk, rot_0]
  rw [if_neg (by omega), if_neg (by omega)]; rfl
end Go.Proofs.YtpbklojdmkpkcaaDoor
