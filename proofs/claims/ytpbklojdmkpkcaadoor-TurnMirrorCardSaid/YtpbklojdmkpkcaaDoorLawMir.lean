/- near, awake; the law TurnMirror: what it comes to, in every world that holds the table of directions. -/
import Derived.Test.YtpbklojdmkpkcaaDoorCons
import Derived.Test.YtpbklojdmkpkcaaDoorMirB
import Derived.Test.YtpbklojdmkpkcaaDoorLawTurnA
namespace Go.Proofs.YtpbklojdmkpkcaaDoor
open Go Go.RowKit
set_option linter.unusedVariables false
set_option linter.unusedSimpArgs false
set_option maxRecDepth 100000
theorem okF_res (x : Except Int Int) [h : F (valF x)] : okF (mkx (valF x)) := okF_mk _
theorem mag_hi (a : Int) [h : F a] : U (hi (mag a)) := by
  have h1 := mag_nn a
  have h2 := mag_lt a
  exact ⟨by unfold hi; omega⟩
theorem pow_u64 (n : Int) (h : 0 ≤ n ∧ n ≤ 63) : IntKind.u64.wrap (1 * 2 ^ min n.toNat 64) = 2 ^ n.toNat := by
  obtain ⟨k, rfl⟩ : ∃ k : Nat, n = k := ⟨n.toNat, by omega⟩
  have hk : k < 64 := by omega
  simp only [Int.toNat_natCast]
  rw [show min k 64 = k from by omega]
  revert hk
  exact (show ∀ k : Nat, k < 64 → IntKind.u64.wrap (1 * 2 ^ k) = 2 ^ k from by decide +kernel) k
theorem pow_U (n : Int) (h : 0 ≤ n ∧ n ≤ 63) : U ((2 : Int) ^ n.toNat) := by
  rw [← pow_u64 n h, IntKind.wrap_u64]
  exact ⟨by omega⟩
def nearS (a b : Int) (n : Int) : Bool := errF (subF a b) == 0 && !below (2 ^ n.toNat - mag (valF (subF a b)))
theorem k_l5_near : C3 Tryd.prog TabI 30 cFx cFx (cI .i64) cB.enc (fun a b n => okF a ∧ okF b ∧ 0 ≤ n ∧ n ≤ 63) fun a b n => nearS (num a) (num b) n :=
  .ev mixed (mkOrc_ok (x := []) L0_ok trivial) Tryd.func30 (by decide) fun a b n h L => by
    have e : evPure Tryd.prog (mkOrc L0 []) Tryd.f30 [cFx.enc a, cFx.enc b, (cI .i64).enc n] = Tr.need (okF a ∧ okF b)
      (Tr.ite (errF (subF (num a) (num b)) == 0)
        (Tr.need (0 ≤ n)
          (Tr.need (okF (mkx (valF (subF (num a) (num b)))))
            (Tr.need
              (okT { h := 0, l := IntKind.u64.wrap (1 * 2 ^ min n.toNat 64) } ∧
                okT (mkx (mag (num (mkx (valF (subF (num a) (num b))))))))
              (Tr.ret
                (PV.raw
                  (Value.bool
                    (bif true then
                      !below
                          (num { h := 0, l := IntKind.u64.wrap (1 * 2 ^ min n.toNat 64) } -
                            num (mkx (mag (num (mkx (valF (subF (num a) (num b))))))))
                    else false)))))))
        (Tr.ret (PV.raw (Value.bool false)))) := by kernel_rfl
    rw [e]
    clear e
    obtain ⟨ha, hb, hn⟩ := h
    haveI := ha.2; haveI := hb.2
    have hT : okT (mkx (mag (valF (subF (num a) (num b))))) := ⟨mag_hi _, lo_U _⟩
    have hU := pow_U n hn
    simp only [Tr.holds, num_mk, pow_u64 n hn, cond_true]
    refine ⟨⟨ha, hb⟩, fun h0 => ⟨hn.1, okF_mk _, ⟨⟨(inferInstance : U 0), hU⟩, hT⟩, ?_⟩, fun h0 => ?_⟩
    · show PV.raw (.bool _) = PV.raw (.bool (nearS _ _ _))
      unfold nearS
      rw [h0, Bool.true_and]
      simp only [num, val2, Int.zero_mul, Int.zero_add]
    · show PV.raw (.bool _) = PV.raw (.bool (nearS _ _ _))
      unfold nearS
      rw [h0, Bool.false_and]
theorem k_l5_awake : C0 Tryd.prog TabI 25 cB.enc true :=
  .ev mixed (mkOrc_ok (x := []) L0_ok trivial) Tryd.func25 fun L => by
    have e : evPure Tryd.prog (mkOrc L0 []) Tryd.f25 [] = Tr.need (-9223372036854775808 ≤ (16384 : Int) ∧ (16384 : Int) ≤ 9223372036854775807)
      (Tr.need (-9223372036854775807 ≤ (1 : Int) ∧ (1 : Int) ≤ 9223372036854775807)
        (Tr.ite true
          (Tr.need (-9223372036854775808 ≤ (0 : Int) ∧ (0 : Int) ≤ 9223372036854775807)
            (Tr.need (-9223372036854775807 ≤ (1 : Int) ∧ (1 : Int) ≤ 9223372036854775807) (Tr.ret (PV.raw (Value.bool true)))))
          (Tr.ret (PV.raw (Value.bool false))))) := by kernel_rfl
    rw [e]
    exact ⟨by decide, by decide, fun _ => ⟨by decide, by decide, rfl⟩, fun h => by cases h⟩
def L5 : List (FuncId × Mdl) := (30, Pure1 (G3 cFx cFx (cI .i64) cB.enc (fun a b n => okF a ∧ okF b ∧ 0 ≤ n ∧ n ≤ 63) fun a b n => nearS (num a) (num b) n)) :: (25, Pure1 (G0 cB.enc true)) :: L0
theorem L5_ok : AllOk Tryd.prog tid TabI L5 := ⟨k_l5_near.ok (enters Tryd.func30 rfl rfl), k_l5_awake.ok (enters Tryd.func25 rfl rfl), L0_ok⟩
theorem near_40 (a b : Int) [F a] [F b] (h : -1099511627776 ≤ a - b ∧ a - b ≤ 1099511627776) : nearS a b 40 = true := by
  unfold nearS subF
  rw [addF_ok a (-b) (by omega)]
  show (true && _) = true
  rw [Bool.true_and]
  show (!decide ((2 : Int) ^ (40 : Nat) - mag (a + -b) < 0)) = true
  have : ¬ ((2 : Int) ^ (40 : Nat) - mag (a + -b) < 0) := by
    rw [show (2 : Int) ^ (40 : Nat) = 1099511627776 from rfl]
    unfold mag
    split <;> omega
  rw [decide_eq_false this]
  rfl
theorem k_l5_TurnMirror : C1 Tryd.prog TabI 5 (cI .u16) cB.enc (fun a => 0 ≤ a ∧ a ≤ 65535) fun _ => true :=
  .ev mixed (mkOrc_ok (x := []) L5_ok trivial) Tryd.func5 (by decide) fun a ha L => by
    have e : evPure Tryd.prog (mkOrc L5 []) Tryd.f5 [(cI .u16).enc a] = Tr.need ((-9223372036854775808 : Int) ≤ IntKind.i64.wrap a ∧ IntKind.i64.wrap a ≤ (9223372036854775807 : Int))
      (Tr.need
        ((-9223372036854775808 : Int) ≤ IntKind.i64.wrap ((0 : Int) - IntKind.i64.wrap a) ∧
          IntKind.i64.wrap ((0 : Int) - IntKind.i64.wrap a) ≤ (9223372036854775807 : Int))
        (Tr.need
          (okF (mkx (valX (ofF (IntKind.i64.wrap a)))) ∧
            okF (mkx (valX (ofF (IntKind.i64.wrap ((0 : Int) - IntKind.i64.wrap a))))) ∧
              (0 : Int) ≤ (40 : Int) ∧ (40 : Int) ≤ (63 : Int))
          (Tr.ite
            (nearS (num (mkx (valX (ofF (IntKind.i64.wrap a)))))
              (num (mkx (valX (ofF (IntKind.i64.wrap ((0 : Int) - IntKind.i64.wrap a)))))) (40 : Int))
            (Tr.need (okF (mkx (valY (ofF (IntKind.i64.wrap ((0 : Int) - IntKind.i64.wrap a))))))
              (Tr.need
                (okF (mkx (valY (ofF (IntKind.i64.wrap a)))) ∧
                  okF (mkx (-num (mkx (valY (ofF (IntKind.i64.wrap ((0 : Int) - IntKind.i64.wrap a))))))) ∧
                    (0 : Int) ≤ (40 : Int) ∧ (40 : Int) ≤ (63 : Int))
                (Tr.ite
                  (bif true then
                    nearS (num (mkx (valY (ofF (IntKind.i64.wrap a)))))
                      (num (mkx (-num (mkx (valY (ofF (IntKind.i64.wrap ((0 : Int) - IntKind.i64.wrap a)))))))) (40 : Int)
                  else false)
                  (Tr.ret (PV.raw (Value.bool true))) (Tr.ret (PV.raw (Value.bool false))))))
            (Tr.ite false (Tr.ret (PV.raw (Value.bool true))) (Tr.ret (PV.raw (Value.bool false))))))) := by kernel_rfl
    rw [e]
    clear e
    rw [i64_small a (by omega), i64_small (0 - a) (by omega), Int.zero_sub]
    obtain ⟨h1, h2⟩ := of_mirror a
    have m1 := near_40 (valX (ofF a)) (valX (ofF (-a))) h1
    have m2 := near_40 (valY (ofF a)) (-(valY (ofF (-a)))) (by rw [Int.sub_neg]; exact h2)
    simp only [Tr.holds, num_mk, m1, m2, cond_true]
    exact ⟨by omega, by omega, ⟨okF_mk _, okF_mk _, by decide, by decide⟩, fun _ => ⟨okF_mk _, ⟨okF_mk _, okF_mk _, by decide, by decide⟩, fun _ => rfl, fun h => by cases h⟩, fun h => by cases h⟩
end Go.Proofs.YtpbklojdmkpkcaaDoor
