/- near, awake, rows alike: as contracts; the law TurnAll. -/
import Derived.Test.YtpbklojdmkpkcaaDoorClo
import Derived.Test.YtpbklojdmkpkcaaDoorLawTurnA
namespace Go.Proofs.YtpbklojdmkpkcaaDoor
open Go Go.RowKit
set_option linter.unusedVariables false
set_option linter.unusedSimpArgs false
set_option maxRecDepth 100000
def nearS (a b : Int) (n : Int) : Bool := errF (subF a b) == 0 && !below (2 ^ n.toNat - mag (valF (subF a b)))
theorem k_l5_near : C3 Tryd.prog TabI 30 cFx cFx (cI .i64) cB.enc (fun a b n => okF a ∧ okF b ∧ 0 ≤ n ∧ n ≤ 63) fun a b n => nearS (num a) (num b) n :=
  .ev (fun _ _ _ => []) mixed (mkOrc_ok (l := L7) (x := []) trivial) Tryd.func30 (by decide) fun a b n h => by
    refine ⟨?_⟩
    have e : evPure Tryd.prog (mkOrc L7 []) Tryd.f30 [] [cFx.enc a, cFx.enc b, (cI .i64).enc n] =
      Tr.chk (decide (okF a ∧ okF b)) (Tr.ite (errF (subF (num a) (num b)) == (0 : Int)) (Tr.chk (decide ((0 : Int) ≤ n)) (Tr.chk (decide (okF (mkx (valF (subF (num a) (num b)))))) (Tr.chk (decide (okT { h := (0 : Int), l := IntKind.u64.wrap ((1 : Int) * (2 : Int) ^ min n.toNat (64 : Nat)) } ∧ okT (mkx (mag (num (mkx (valF (subF (num a) (num b))))))))) (Tr.ret (PV.raw (Value.bool (bif true then !below (num { h := (0 : Int), l := IntKind.u64.wrap ((1 : Int) * (2 : Int) ^ min n.toNat (64 : Nat)) } - num (mkx (mag (num (mkx (valF (subF (num a) (num b)))))))) else false))))))) (Tr.ret (PV.raw (Value.bool false)))) := by kernel_rfl
    rw [e]; clear e
    obtain ⟨ha, hb, hn⟩ := h
    haveI := ha.2; haveI := hb.2
    have h1 := mag_nn (valF (subF (num a) (num b)))
    have h2 := mag_lt (valF (subF (num a) (num b)))
    have hp := two_pos n.toNat
    have hq : (2 : Int) ^ n.toNat ≤ 2 ^ 63 := two_le (by omega)
    have hr : (2 : Int) ^ 63 = 9223372036854775808 := by decide
    simp only [Tr.holds, num_mk, pow_U64 n hn, decide_eq_true_eq, num_lo, okT_mk_iff, cond_true, beq_iff_eq, beq_eq_false_iff_ne]
    unfold nearS
    refine ⟨⟨ha, hb⟩, fun h0 => ⟨hn.1, okF_mk _, ⟨⟨(inferInstance : U 0), ⟨by simp only; omega⟩⟩, by omega⟩, ?_⟩, fun h0 => ?_⟩
    · rw [h0]; rfl
    · rw [show (errF (subF (num a) (num b)) == 0) = false from beq_eq_false_iff_ne.2 h0]; rfl
theorem k_l5_awake : C0 Tryd.prog TabI 25 cB.enc true :=
  .ev [] mixed (mkOrc_ok (l := L7) (x := []) trivial) Tryd.func25 (by
    refine .force ⟨?_⟩
    have e : (evPure Tryd.prog (mkOrc L7 []) Tryd.f25 [] []).force = .ret (cB.enc true) := by kernel_rfl
    rw [e]; rfl)
def SameInv {α : Type} (l k : List α) (i : Int) : Prop := (0 ≤ i ∧ i ≤ l.length) ∧ l.take i.toNat = k.take i.toNat
theorem same_step {α : Type} {l k : List α} {i : Int} {d : α} (hl : l.length = k.length) (h : SameInv l k i) (hi : i < l.length) (he : l.getD i.toNat d = k.getD i.toNat d) : SameInv l k (i + 1) := by
  obtain ⟨⟨h1, h2⟩, h3⟩ := h
  refine ⟨⟨by omega, by omega⟩, ?_⟩
  have hk : i.toNat < l.length := by omega
  have hk' : i.toNat < k.length := by omega
  rw [show (i + 1).toNat = i.toNat + 1 from by omega, List.take_succ_eq_append_getElem hk, List.take_succ_eq_append_getElem hk', h3]
  congr 2
  simpa [List.getD, hk, hk'] using he
theorem same_end {α : Type} {l k : List α} {i : Int} (hl : l.length = k.length) (h : SameInv l k i) (hi : ¬ i < l.length) : l = k := by
  obtain ⟨⟨h1, h2⟩, h3⟩ := h
  rwa [show i.toNat = l.length from by omega, List.take_length, hl, List.take_length] at h3
theorem vecEq_is (a b : Vc) : (a.X.h == b.X.h && (a.X.l == b.X.l && true) && (a.Y.h == b.Y.h && (a.Y.l == b.Y.l && true) && true)) = decide (a = b) := by
  obtain ⟨⟨a1, a2⟩, a3, a4⟩ := a
  obtain ⟨⟨b1, b2⟩, b3, b4⟩ := b
  rw [Bool.eq_iff_iff]
  simp
theorem k_r10_SameVecs : CR Tryd.prog tid TabI 33 (aCat (aRow .vec) (aRow .vec)) (aPlain cB) [] (fun x => x.1.length ≤ 1000000 ∧ x.2.length ≤ 1000000) fun x => decide (x.1 = x.2) :=
  .ev (fun x => [intLoop 5 (SameInv x.1 x.2) fun i => (x.1.length - i).toNat]) mixed (mkOrc_ok (l := E0) (x := []) trivial) Tryd.func33 (fun _ => Nat.le_of_ble_eq_true rfl) rfl fun x h => by
    obtain ⟨l, k⟩ := x
    refine ⟨?_⟩
    simp only
    have e : evR Tryd.prog (mkOrc E0 []) Tryd.f33 [intLoop 5 (SameInv l k) fun i => (l.length - i).toNat] (aCat (aRow .vec) (aRow .vec)) (aPlain cB) [] (l, k) =
      Tr.ite ((↑l.length : Int) != (↑k.length : Int)) (Tr.ret false) (Tr.need ((0 : Int) = (0 : Int) ∧ True) (Tr.need True (Tr.need (SameInv l k (0 : Int)) (Tr.all Int (SameInv l k) fun x => Tr.ite (decide (x < (↑l.length : Int))) (Tr.chk (decide ((0 : Int) ≤ x) && decide (x < (↑l.length : Int))) (Tr.chk ((Int.toNat x).blt l.length) (Tr.chk (decide ((0 : Int) ≤ x) && decide (x < (↑k.length : Int))) (Tr.chk ((Int.toNat x).blt k.length) (Tr.ite (!((l.getD (Int.toNat x) ET.vec.dflt).X.h == (k.getD (Int.toNat x) ET.vec.dflt).X.h && ((l.getD (Int.toNat x) ET.vec.dflt).X.l == (k.getD (Int.toNat x) ET.vec.dflt).X.l && true) && ((l.getD (Int.toNat x) ET.vec.dflt).Y.h == (k.getD (Int.toNat x) ET.vec.dflt).Y.h && ((l.getD (Int.toNat x) ET.vec.dflt).Y.l == (k.getD (Int.toNat x) ET.vec.dflt).Y.l && true) && true))) (Tr.ret false) (Tr.need (IntKind.i64.wrap (x + (1 : Int)) = IntKind.i64.wrap (x + (1 : Int)) ∧ True) (Tr.need True (Tr.need (SameInv l k (IntKind.i64.wrap (x + (1 : Int)))) (Tr.need (((↑l.length : Int) - IntKind.i64.wrap (x + (1 : Int))).toNat < ((↑l.length : Int) - x).toNat) Tr.done))))))))) (Tr.ret true))))) := by kernel_rfl
    rw [e]; clear e
    have hl : l.length ≤ 1000000 := h.1
    simp only [Tr.holds, decide_eq_true_eq, decide_eq_false_iff_not, vecEq_is, Bool.and_eq_true, Nat.blt_eq, bne_iff_ne, bne_eq_false_iff_eq, Bool.not_eq_true', Bool.not_eq_false', true_and, and_true, ne_eq]
    refine ⟨fun hn => ?_, fun hn => ⟨⟨⟨by omega, by omega⟩, rfl⟩, fun i hi => ⟨fun hlt => ?_, fun hge => ?_⟩⟩⟩
    · rw [eq_comm, decide_eq_false_iff_not]
      intro e; rw [e] at hn; exact hn rfl
    · have hn : l.length = k.length := by omega
      have hw : IntKind.i64.wrap (i + 1) = i + 1 := wrap_i64_id _ (by have := hi.1; omega)
      rw [hw]
      have hi0 := hi.1.1
      refine ⟨⟨by omega, by omega⟩, by omega, ⟨by omega, by omega⟩, by omega, fun hne => ?_, fun he => ⟨same_step (d := ET.vec.dflt) hn hi hlt he, by omega⟩⟩
      rw [eq_comm, decide_eq_false_iff_not]
      intro e; rw [e] at hne; exact hne rfl
    · have hn : l.length = k.length := by omega
      rw [eq_comm, decide_eq_true_iff]
      exact same_end hn hi hge
def L8 : List (Ent Tryd.prog tid TabI) := e3 k_l5_near Tryd.func30 :: e0 k_l5_awake Tryd.func25 :: eR k_r10_SameVecs Tryd.func33 :: eR k_turn_Table Tryd.func34 :: L7
end Go.Proofs.YtpbklojdmkpkcaaDoor
