import Derived.Test.YtpbklojdmkpkcaaDoorG12
/- The program's numbers: what was walked by hand, as contracts; comparisons. -/
namespace Go.Proofs.YtpbklojdmkpkcaaDoor
open Go Go.RowKit
set_option linter.unusedVariables false
set_option linter.unusedSimpArgs false
set_option maxRecDepth 100000
def decSum : PV → Option (Fx × Bool)
  | .agg [.raw (.int .u64 h), .raw (.int .u64 l), .raw (.bool b)] => some (⟨h, l⟩, b)
  | _ => none
def cSum : Cod (Fx × Bool) := ⟨PV.sumR, decSum, fun _ => rfl, fun v a h => by
  unfold decSum at h; split at h
  · cases h; rfl
  · cases h⟩
def revW (a : Vc) : Vc := ⟨⟨a.Y.l, a.Y.h⟩, ⟨a.X.l, a.X.h⟩⟩
section
variable {I : WInv}
theorem k_fix_Neg : C1 Tryd.prog I 107 cFx cFx.enc okF fun x => mkx (-(num x)) := fun a h E w _ => by
  rw [emb_Fx a h]; haveI := h.2; exact fix_Neg (num a) w
theorem k_fix_Add : C2 Tryd.prog I 115 cFx cFx PV.res (fun a b => okF a ∧ okF b) fun a b => gotR (addF (num a) (num b)) := fun a b h E w _ => by
  rw [emb_Fx a h.1, emb_Fx b h.2]; haveI := h.1.2; haveI := h.2.2; exact fix_Add (num a) (num b) w
theorem k_fix_Sub : C2 Tryd.prog I 83 cFx cFx PV.res (fun a b => okF a ∧ okF b) fun a b => gotR (subF (num a) (num b)) := fun a b h E w _ => by
  rw [emb_Fx a h.1, emb_Fx b h.2]; haveI := h.1.2; haveI := h.2.2; exact fix_Sub (num a) (num b) w
theorem k_fix_Mul : C2 Tryd.prog I 82 cFx cFx PV.res (fun a b => okF a ∧ okF b) fun a b => gotR (mulF (num a) (num b)) := fun a b h E w _ => by
  rw [emb_Fx a h.1, emb_Fx b h.2]; haveI := h.1.2; haveI := h.2.2; exact fix_Mul (num a) (num b) w
theorem k_fix_Int : C1 Tryd.prog I 64 (cI .i64) cFx.enc (fun n => -9223372036854775807 ≤ n ∧ n ≤ 9223372036854775807) fun n => mkx (n * 18446744073709551616) := fun n h E w _ => fix_Int n h w
theorem k_limb_Sub : C2 Tryd.prog I 136 cTw cTw (PV.two cTw cB) (fun a b => okT a ∧ okT b) fun a b => (mkx (mod2 (num a - num b)), below (num a - num b)) := fun a b h E w _ => by
  haveI := h.1.1; haveI := h.1.2; haveI := h.2.1; haveI := h.2.2; exact limb_Sub a.h a.l b.h b.l w
theorem k_limb_list : C1 Tryd.prog I 146 cFo cFo.enc (fun _ => True) revW := fun a _ E w _ => limb_list a.X.h a.X.l a.Y.h a.Y.l w
theorem k_limb_four : C1 Tryd.prog I 147 cFo cFo.enc (fun _ => True) revW := fun a _ E w _ => limb_four a.X.h a.X.l a.Y.h a.Y.l w
theorem k_limb_Len : C1 Tryd.prog I 145 cFo (cI .i64).enc ok4 fun a => len4 a.X.h a.X.l a.Y.h a.Y.l := fun a h E w _ => by
  haveI := h.1.1; haveI := h.1.2; haveI := h.2.1; haveI := h.2.2; exact limb_Len a.X.h a.X.l a.Y.h a.Y.l w
theorem k_limb_Shl : C2 Tryd.prog I 126 cFo (cI .i64) cFo.enc (fun a n => ok4 a ∧ n = 64) fun a n => ⟨⟨a.X.l, a.Y.h⟩, ⟨a.Y.l, 0⟩⟩ := fun a n h E w _ => by
  obtain ⟨h, rfl⟩ := h
  haveI := h.1.1; haveI := h.1.2; haveI := h.2.1; haveI := h.2.2; exact limb_Shl64 a.X.h a.X.l a.Y.h a.Y.l w
theorem k_limb_Mul : C2 Tryd.prog I 123 cTw cTw cFo.enc (fun a b => okT a ∧ okT b) fun a b => mk4 (num a * num b) := fun a b h E w _ => by
  haveI := h.1.1; haveI := h.1.2; haveI := h.2.1; haveI := h.2.2; exact limb_Mul a.h a.l b.h b.l w
theorem k_fix_of : C1 Tryd.prog I 119 cFx PV.sumR okF fun a => (mkx (mag (num a)), neg (num a)) := fun a h E w _ => by
  rw [emb_Fx a h]; haveI := h.2; exact fix_of (num a) w
theorem k_fix_wide : C1 Tryd.prog I 124 cTw cFo.enc (fun _ => True) fun a => ⟨⟨0, 0⟩, a⟩ := fun a _ E w _ => fix_wide a.h a.l w
theorem k_fix_told : C2 Tryd.prog I 120 cFo cB PV.res (fun a _ => ok4 a) fun a s => gotR (tell (num4 a) s) := fun a s h E w _ => by
  haveI := h.1.1; haveI := h.1.2; haveI := h.2.1; haveI := h.2.2; exact fix_told a.X.h a.X.l a.Y.h a.Y.l s w
theorem k_fix_more : C2 Tryd.prog I 122 cFo (cI .i64) cFo.enc (fun a n => ok4 a ∧ n = 0) fun a n => mk4 (mod4 (num4 a + 1)) := fun a n h E w _ => by
  obtain ⟨h, rfl⟩ := h
  haveI := h.1.1; haveI := h.1.2; haveI := h.2.1; haveI := h.2.2; exact fix_more_0 a.X.h a.X.l a.Y.h a.Y.l w
theorem k_vec_Scale : C2 Tryd.prog I 106 cVc cFx PV.way (fun a b => okV a ∧ okF b) fun a b => wayR (both (mulF (num a.X) (num b)) (mulF (num a.Y) (num b))) := fun a b h E w _ => by
  rw [emb_Vc a h.1, emb_Fx b h.2]; haveI := h.1.1.2; haveI := h.1.2.2; haveI := h.2.2; exact vec_Scale (num a.X) (num a.Y) (num b) w
theorem k_vec_Add : C2 Tryd.prog I 86 cVc cVc PV.way (fun a b => okV a ∧ okV b) fun a b => wayR (both (addF (num a.X) (num b.X)) (addF (num a.Y) (num b.Y))) := fun a b h E w _ => by
  rw [emb_Vc a h.1, emb_Vc b h.2]; haveI := h.1.1.2; haveI := h.1.2.2; haveI := h.2.1.2; haveI := h.2.2.2; exact vec_Add (num a.X) (num a.Y) (num b.X) (num b.Y) w
end
def LP0 : List (Ent Tryd.prog tid TabI) := [e1 k_fix_Neg Tryd.func107, e2 k_fix_Add Tryd.func115, e2 k_fix_Sub Tryd.func83, e2 k_fix_Mul Tryd.func82, e1 k_fix_Int Tryd.func64, e2 k_limb_Sub Tryd.func136, e1 k_limb_list Tryd.func146, e1 k_limb_four Tryd.func147,
  e1 k_limb_Len Tryd.func145, e2 k_limb_Shl Tryd.func126, e2 k_limb_Mul Tryd.func123, e1 k_fix_of Tryd.func119, e1 k_fix_wide Tryd.func124, e2 k_fix_told Tryd.func120, e2 k_fix_more Tryd.func122, e2 k_vec_Scale Tryd.func106, e2 k_vec_Add Tryd.func86,
  e1 k_turn_Of Tryd.func21, e2 k_turn_Rotate Tryd.func26]
theorem k_nan_i : C1 Tryd.prog TabI 143 (cI .i64) cB.enc (fun _ => True) fun _ => false :=
  .ev (fun _ => []) mixed (mkOrc_ok (l := E0) (x := []) trivial) Tryd.func143 (by decide) fun a h => by
    refine ⟨?_⟩
    have e : evPure Tryd.prog (mkOrc E0 []) Tryd.f143 [] [(cI .i64).enc a] =
      Tr.ret (PV.raw (Value.bool (a != a))) := by kernel_rfl
    rw [e]; clear e
    show PV.raw (.bool _) = _
    simp; rfl
theorem k_nan_u : C1 Tryd.prog TabI 144 (cI .u64) cB.enc (fun _ => True) fun _ => false :=
  .ev (fun _ => []) mixed (mkOrc_ok (l := E0) (x := []) trivial) Tryd.func144 (by decide) fun a h => by
    refine ⟨?_⟩
    have e : evPure Tryd.prog (mkOrc E0 []) Tryd.f144 [] [(cI .u64).enc a] =
      Tr.ret (PV.raw (Value.bool (a != a))) := by kernel_rfl
    rw [e]; clear e
    show PV.raw (.bool _) = _
    simp; rfl
def LN : List (Ent Tryd.prog tid TabI) := [e1 k_nan_i Tryd.func143, e1 k_nan_u Tryd.func144]
theorem cmpS_lt {a b : Int} (h : a < b) : cmpS a b = -1 := if_pos h
theorem cmpS_gt {a b : Int} (h : b < a) : cmpS a b = 1 := by unfold cmpS; rw [if_neg (by omega), if_pos h]
theorem cmpS_eq {a b : Int} (h : ¬ a < b) (h2 : ¬ b < a) : cmpS a b = 0 := by unfold cmpS; rw [if_neg h, if_neg h2]
theorem k_cmp_i : C2 Tryd.prog TabI 117 (cI .i64) (cI .i64) (cI .i64).enc (fun _ _ => True) cmpS :=
  .ev (fun _ _ => []) mixed (mkOrc_ok (l := LN) (x := []) trivial) Tryd.func117 (by decide) fun a b h => by
    refine ⟨?_⟩
    have e : evPure Tryd.prog (mkOrc LN []) Tryd.f117 [] [(cI .i64).enc a, (cI .i64).enc b] =
      Tr.chk (decide True) (Tr.chk (decide True) (Tr.ite false (Tr.ite false (Tr.ret (PV.raw (Value.int IntKind.i64 (0 : Int)))) (Tr.ret (PV.raw (Value.int IntKind.i64 (-1 : Int))))) (Tr.ite false (Tr.ret (PV.raw (Value.int IntKind.i64 (1 : Int)))) (Tr.ite (decide (a < b)) (Tr.ret (PV.raw (Value.int IntKind.i64 (-1 : Int)))) (Tr.ite (decide (a > b)) (Tr.ret (PV.raw (Value.int IntKind.i64 (1 : Int)))) (Tr.ret (PV.raw (Value.int IntKind.i64 (0 : Int))))))))) := by kernel_rfl
    rw [e]; clear e
    simp only [Tr.holds, decide_eq_true_eq, decide_eq_false_iff_not]
    refine ⟨trivial, trivial, (fun h => by cases h), fun _ => ⟨(fun h => by cases h), fun _ => ⟨fun h => by rw [cmpS_lt h]; rfl, fun h => ⟨fun h2 => by rw [cmpS_gt h2]; rfl, fun h2 => by rw [cmpS_eq h h2]; rfl⟩⟩⟩⟩
theorem k_cmp_u : C2 Tryd.prog TabI 118 (cI .u64) (cI .u64) (cI .i64).enc (fun _ _ => True) cmpS :=
  .ev (fun _ _ => []) mixed (mkOrc_ok (l := LN) (x := []) trivial) Tryd.func118 (by decide) fun a b h => by
    refine ⟨?_⟩
    have e : evPure Tryd.prog (mkOrc LN []) Tryd.f118 [] [(cI .u64).enc a, (cI .u64).enc b] =
      Tr.chk (decide True) (Tr.chk (decide True) (Tr.ite false (Tr.ite false (Tr.ret (PV.raw (Value.int IntKind.i64 (0 : Int)))) (Tr.ret (PV.raw (Value.int IntKind.i64 (-1 : Int))))) (Tr.ite false (Tr.ret (PV.raw (Value.int IntKind.i64 (1 : Int)))) (Tr.ite (decide (a < b)) (Tr.ret (PV.raw (Value.int IntKind.i64 (-1 : Int)))) (Tr.ite (decide (a > b)) (Tr.ret (PV.raw (Value.int IntKind.i64 (1 : Int)))) (Tr.ret (PV.raw (Value.int IntKind.i64 (0 : Int))))))))) := by kernel_rfl
    rw [e]; clear e
    simp only [Tr.holds, decide_eq_true_eq, decide_eq_false_iff_not]
    refine ⟨trivial, trivial, (fun h => by cases h), fun _ => ⟨(fun h => by cases h), fun _ => ⟨fun h => by rw [cmpS_lt h]; rfl, fun h => ⟨fun h2 => by rw [cmpS_gt h2]; rfl, fun h2 => by rw [cmpS_eq h h2]; rfl⟩⟩⟩⟩
/-- The first that is not nought. -/
def firstNZ : List Int → Int
  | [] => 0
  | x :: r => if x = 0 then firstNZ r else x
def OrInv (l : List Int) (i : Int) : Prop := (0 ≤ i ∧ i ≤ l.length) ∧ firstNZ l = firstNZ (l.drop i.toNat)
theorem k_cmp_Or : CR Tryd.prog tid TabI 116 (aRow .int) (aPlain (cI .i64)) [] (fun l => l.length ≤ 1000000) firstNZ :=
  .ev (fun l => [intLoop 8 (OrInv l) fun i => (l.length - i).toNat]) mixed (mkOrc_ok (l := E0) (x := []) trivial) Tryd.func116 (fun _ => Nat.le_of_ble_eq_true rfl) rfl fun l h => by
    refine ⟨?_⟩
    have e : evR Tryd.prog (mkOrc E0 []) Tryd.f116 [intLoop 8 (OrInv l) fun i => (l.length - i).toNat] (aRow .int) (aPlain (cI .i64)) [] l =
      Tr.need ((0 : Int) = (0 : Int) ∧ True) (Tr.need True (Tr.need (OrInv l (0 : Int)) (Tr.all Int (OrInv l) fun x => Tr.ite (decide (x < (↑l.length : Int))) (Tr.chk (decide ((0 : Int) ≤ x) && decide (x < (↑l.length : Int))) (Tr.chk ((Int.toNat x).blt l.length) (Tr.ite (l.getD (Int.toNat x) ET.int.dflt != (0 : Int)) (Tr.ret (l.getD (Int.toNat x) ET.int.dflt)) (Tr.need (IntKind.i64.wrap (x + (1 : Int)) = IntKind.i64.wrap (x + (1 : Int)) ∧ True) (Tr.need True (Tr.need (OrInv l (IntKind.i64.wrap (x + (1 : Int)))) (Tr.need (((↑l.length : Int) - IntKind.i64.wrap (x + (1 : Int))).toNat < ((↑l.length : Int) - x).toNat) Tr.done))))))) (Tr.ret (0 : Int))))) := by kernel_rfl
    rw [e]; clear e
    simp only [Tr.holds, decide_eq_true_eq, decide_eq_false_iff_not, true_and, and_true, Bool.and_eq_true, Nat.blt_eq, bne_iff_ne, bne_eq_false_iff_eq]
    refine ⟨⟨⟨by omega, by omega⟩, rfl⟩, fun i hi => ⟨fun hlt => ?_, fun hge => ?_⟩⟩
    · obtain ⟨⟨h0, h1⟩, h2⟩ := hi
      have hk : i.toNat < l.length := by omega
      have hw : IntKind.i64.wrap (i + 1) = i + 1 := wrap_i64_id _ (by omega)
      have hd : l.drop i.toNat = l.getD i.toNat ET.int.dflt :: l.drop (i.toNat + 1) := by
        rw [List.drop_eq_getElem_cons hk]; congr 1; simp [List.getD, hk]
      rw [hd] at h2
      simp only [firstNZ] at h2
      rw [hw]
      refine ⟨⟨h0, hlt⟩, hk, fun hn => ?_, fun hz => ⟨⟨⟨by omega, by omega⟩, ?_⟩, by omega⟩⟩
      · rw [if_neg hn] at h2; exact h2.symm
      · rw [if_pos hz] at h2; rw [show (i + 1).toNat = i.toNat + 1 from by omega]; exact h2
    · obtain ⟨⟨h0, h1⟩, h2⟩ := hi
      rw [h2, List.drop_eq_nil_of_le (by omega)]; rfl
def LP1 : List (Ent Tryd.prog tid TabI) := e2 k_cmp_i Tryd.func117 :: e2 k_cmp_u Tryd.func118 :: eR k_cmp_Or Tryd.func116 :: LP0
theorem cmp_two (W h l h' l' : Int) (hl : 0 ≤ l ∧ l < W) (hl' : 0 ≤ l' ∧ l' < W) : cmpS (h * W + l) (h' * W + l') = firstNZ [cmpS h h', cmpS l l'] := by
  have m : ∀ x y : Int, x < y → x * W + W ≤ y * W := fun x y hxy => by
    have := Int.mul_le_mul_of_nonneg_right (a := x + 1) (b := y) (c := W) (by omega) (by omega)
    rw [Int.add_mul, Int.one_mul] at this; exact this
  rcases Int.lt_trichotomy h h' with hh | hh | hh
  · have := m _ _ hh
    rw [cmpS_lt hh, cmpS_lt (by omega)]; rfl
  · subst hh
    rw [cmpS_eq (Int.lt_irrefl h) (Int.lt_irrefl h)]
    rcases Int.lt_trichotomy l l' with hk | hk | hk
    · rw [cmpS_lt hk, cmpS_lt (by omega)]; rfl
    · subst hk
      rw [cmpS_eq (Int.lt_irrefl l) (Int.lt_irrefl l), cmpS_eq (Int.lt_irrefl _) (Int.lt_irrefl _)]; rfl
    · rw [cmpS_gt hk, cmpS_gt (by omega)]; rfl
  · have := m _ _ hh
    rw [cmpS_gt hh, cmpS_gt (by omega)]; rfl
theorem nz_nest (p q r s : Int) : firstNZ [firstNZ [p, q], firstNZ [r, s]] = firstNZ [p, q, r, s] := by
  simp only [firstNZ]
  by_cases hp : p = 0
  · by_cases hq : q = 0
    · by_cases hr : r = 0
      · by_cases hs : s = 0 <;> simp [hp, hq, hr, hs]
      · simp [hp, hq, hr]
    · simp [hp, hq]
  · simp [hp]
theorem k_limb_Cmp : C2 Tryd.prog TabI 137 cFo cFo (cI .i64).enc (fun a b => ok4 a ∧ ok4 b) fun a b => cmpS (num4 a) (num4 b) :=
  .ev (fun _ _ => []) mixed (mkOrc_ok (l := LP1) (x := []) trivial) Tryd.func137 (by decide) fun a b h => by
    refine ⟨?_⟩
    have e : evPure Tryd.prog (mkOrc LP1 []) Tryd.f137 [] [cFo.enc a, cFo.enc b] =
      Tr.chk (decide True) (Tr.chk (decide True) (Tr.chk (decide True) (Tr.chk (decide True) (Tr.chk (decide ([cmpS a.X.h b.X.h, cmpS a.X.l b.X.l, cmpS a.Y.h b.Y.h, cmpS a.Y.l b.Y.l].length ≤ (1000000 : Nat))) (Tr.ret (PV.raw (Value.int IntKind.i64 (firstNZ [cmpS a.X.h b.X.h, cmpS a.X.l b.X.l, cmpS a.Y.h b.Y.h, cmpS a.Y.l b.Y.l])))))))) := by kernel_rfl
    rw [e]; clear e
    simp only [Tr.holds, decide_eq_true_eq]
    obtain ⟨⟨⟨⟨a1⟩, ⟨a2⟩⟩, ⟨a3⟩, ⟨a4⟩⟩, ⟨⟨b1⟩, ⟨b2⟩⟩, ⟨b3⟩, ⟨b4⟩⟩ := h
    refine ⟨trivial, trivial, trivial, trivial, by simp, congrArg (cI .i64).enc ?_⟩
    rw [show num4 a = num a.X * 340282366920938463463374607431768211456 + num a.Y from rfl, show num4 b = num b.X * 340282366920938463463374607431768211456 + num b.Y from rfl,
      cmp_two 340282366920938463463374607431768211456 _ _ _ _ (by rw [num_of]; omega) (by rw [num_of]; omega), num_of a.X, num_of b.X, num_of a.Y, num_of b.Y, cmp_two 18446744073709551616 _ _ _ _ a2 b2, cmp_two 18446744073709551616 _ _ _ _ a4 b4, nz_nest]
theorem k_fix_Cmp : C2 Tryd.prog TabI 79 cFx cFx (cI .i64).enc (fun a b => okF a ∧ okF b) fun a b => cmpS (num a) (num b) :=
  .ev (fun _ _ => []) mixed (mkOrc_ok (l := LP1) (x := []) trivial) Tryd.func79 (by decide) fun a b h => by
    refine ⟨?_⟩
    have e : evPure Tryd.prog (mkOrc LP1 []) Tryd.f79 [] [cFx.enc a, cFx.enc b] =
      Tr.chk (decide True) (Tr.chk (decide True) (Tr.chk (decide ([cmpS a.h b.h, cmpS a.l b.l].length ≤ (1000000 : Nat))) (Tr.ret (PV.raw (Value.int IntKind.i64 (firstNZ [cmpS a.h b.h, cmpS a.l b.l])))))) := by kernel_rfl
    rw [e]; clear e
    simp only [Tr.holds, decide_eq_true_eq]
    have a1 := h.1.1.h
    have b1 := h.2.1.h
    refine ⟨trivial, trivial, by simp, congrArg (cI .i64).enc ?_⟩
    unfold num val2 cmpS
    simp only [firstNZ]
    (repeat' split) <;> omega
theorem k_limb_bit : C2 Tryd.prog TabI 158 cFo (cI .i64) (cI .u64).enc (fun a i => ok4 (revW a) ∧ 0 ≤ i ∧ i ≤ 255) fun a i => bitS (revW a) i :=
  .ev (fun _ _ => []) mixed (mkOrc_ok (l := LP1) (x := []) trivial) Tryd.func158 (by decide) fun a i h => by
    refine ⟨?_⟩
    have e : evPure Tryd.prog (mkOrc LP1 []) Tryd.f158 [] [cFo.enc a, (cI .i64).enc i] =
      Tr.chk true (Tr.chk (decide ((0 : Int) ≤ IntKind.i64.wrap (i.tdiv (64 : Int))) && decide (IntKind.i64.wrap (i.tdiv (64 : Int)) < (↑(4 : Nat) : Int))) (Tr.chk (((IntKind.i64.wrap (i.tdiv (64 : Int))).toNat * (1 : Nat) + (0 : Nat)).blt [PV.raw (Value.int IntKind.u64 a.X.h), PV.raw (Value.int IntKind.u64 a.X.l), PV.raw (Value.int IntKind.u64 a.Y.h), PV.raw (Value.int IntKind.u64 a.Y.l)].length) (Tr.chk true (Tr.chk (decide ((0 : Int) ≤ i.tmod (64 : Int))) (Tr.ret (PV.raw (Value.int IntKind.u64 (IntKind.u64.wrap (↑(BitVec.ofInt (64 : Nat) (([a.X.h, a.X.l, a.Y.h, a.Y.l].getD ((IntKind.i64.wrap (i.tdiv (64 : Int))).toNat * (1 : Nat) + (0 : Nat)) (0 : Int)).fdiv ((2 : Int) ^ min (i.tmod (64 : Int)).toNat (64 : Nat))) &&& BitVec.ofInt (64 : Nat) (1 : Int)).toNat : Int))))))))) := by kernel_rfl
    rw [e]; clear e
    obtain ⟨ha, h0, h1⟩ := h
    have hn := num4_bd (revW a) ha
    simp only [Tr.holds, tdiv_pos i 64 h0, tmod_pos i 64 h0, wrap_i64_id (i / 64) (by omega), and_is, fdiv_pow, Bool.and_eq_true, decide_eq_true_eq, Nat.blt_eq, Nat.mul_one, Nat.add_zero]
    refine ⟨trivial, ⟨by omega, by omega⟩, ?_, trivial, by omega, ?_⟩
    · show (i / 64).toNat < 4
      omega
    refine congrArg (cI .u64).enc ?_
    show andU ((wordsS (revW a)).getD (i / 64).toNat 0 / _) 1 = _
    rw [word_of (revW a) ha _ (by omega) _, show min (i % 64).toNat 64 = (i % 64).toNat from by omega]
    have hw : 0 ≤ num4 (revW a) / 2 ^ (64 * (i / 64).toNat) % 18446744073709551616 ∧ num4 (revW a) / 2 ^ (64 * (i / 64).toNat) % 18446744073709551616 < 18446744073709551616 := by omega
    have hp := two_pos (i % 64).toNat
    rw [and1 _ ⟨Int.ediv_nonneg hw.1 (Int.le_of_lt hp), Int.lt_of_le_of_lt (Int.ediv_le_self _ hw.1) hw.2⟩, word_bit _ hn.1 _ _ (by omega)]
    unfold bitS
    rw [show 64 * (i / 64).toNat + (i % 64).toNat = i.toNat from by omega]
def LP2 : List (Ent Tryd.prog tid TabI) := e2 k_limb_Cmp Tryd.func137 :: e2 k_fix_Cmp Tryd.func79 :: e2 k_limb_bit Tryd.func158 :: LP1
end Go.Proofs.YtpbklojdmkpkcaaDoor
/- The program's wide numbers: roots and quotients; as contracts. -/
namespace Go.Proofs.YtpbklojdmkpkcaaDoor
open Go Go.RowKit
set_option linter.unusedVariables false
set_option linter.unusedSimpArgs false
set_option maxRecDepth 100000
theorem bl_lt (x : Int) (h : U x) : 0 ≤ bl x ∧ bl x ≤ 64 ∧ x < 2 ^ (bl x).toNat := by
  have hx := h.h
  obtain ⟨s1, s2, s3⟩ := blAux 64 x.toNat (by omega)
  unfold bl Lib.bitLen
  refine ⟨by omega, by omega, ?_⟩
  rw [Int.toNat_natCast]
  have : ((x.toNat : Nat) : Int) < ((2 ^ Lib.bitLenAux 64 x.toNat : Nat) : Int) := by exact_mod_cast s2
  rw [Int.natCast_pow] at this
  have e : ((x.toNat : Nat) : Int) = x := by omega
  rw [e] at this; exact this
theorem len4_lt (a : Vc) (h : ok4 a) : (0 ≤ len4 a.X.h a.X.l a.Y.h a.Y.l ∧ len4 a.X.h a.X.l a.Y.h a.Y.l ≤ 256) ∧ num4 a < 2 ^ (len4 a.X.h a.X.l a.Y.h a.Y.l).toNat := by
  obtain ⟨⟨a1, a2⟩, a3, a4⟩ := h
  have l1 := bl_lt _ a1
  have l2 := bl_lt _ a2
  have l3 := bl_lt _ a3
  have l4 := bl_lt _ a4
  have b1 := a1.h; have b2 := a2.h; have b3 := a3.h; have b4 := a4.h
  rw [num4_words]
  have up : ∀ (k : Nat) (x : Int), 0 ≤ bl x → x < 2 ^ (bl x).toNat → x * 2 ^ k + 2 ^ k ≤ 2 ^ ((k : Int) + bl x).toNat := by
    intro k x hx h
    rw [show ((k : Int) + bl x).toNat = (bl x).toNat + k from by omega, Int.pow_add]
    have hp := two_pos k
    have := Int.mul_le_mul_of_nonneg_right (a := x + 1) (b := 2 ^ (bl x).toNat) (c := 2 ^ k) (by omega) (by omega)
    rw [Int.add_mul, Int.one_mul] at this; exact this
  have u1 := up 192 _ l1.1 l1.2.2
  have u2 := up 128 _ l2.1 l2.2.2
  have u3 := up 64 _ l3.1 l3.2.2
  rw [show (2 : Int) ^ 192 = 6277101735386680763835789423207666416102355444464034512896 from by decide] at u1
  rw [show (2 : Int) ^ 128 = 340282366920938463463374607431768211456 from by decide] at u2
  rw [show (2 : Int) ^ 64 = 18446744073709551616 from by decide] at u3
  unfold len4
  have w : ∀ x : Int, 0 ≤ x ∧ x ≤ 300 → wrap64 x = x := fun x h => by rw [wrap64_is]; omega
  split
  · rw [w _ (by omega)]; exact ⟨by omega, by have e : ((192 : Nat) : Int) = 192 := rfl; rw [e] at u1; omega⟩
  · split
    · rw [w _ (by omega)]; exact ⟨by omega, by have e : ((128 : Nat) : Int) = 128 := rfl; rw [e] at u2; omega⟩
    · split
      · rw [w _ (by omega)]; exact ⟨by omega, by have e : ((64 : Nat) : Int) = 64 := rfl; rw [e] at u3; omega⟩
      · split
        · rw [w _ (by omega)]; exact ⟨by omega, by omega⟩
        · exact ⟨by omega, by simp only [Int.toNat_zero, Int.pow_zero]; omega⟩
theorem sqL_skip (n : Int) (k : Nat) (h : n < 2 ^ (2 * k)) : ∀ j, sqL n (k + j) 0 = sqL n k 0
  | 0 => rfl
  | j + 1 => by
    show (if (0 + 2 ^ (k + j)) * (0 + 2 ^ (k + j)) ≤ n then sqL n (k + j) (0 + 2 ^ (k + j)) else sqL n (k + j) 0) = _
    have h1 : (2 : Int) ^ (2 * k) ≤ 2 ^ (2 * (k + j)) := two_le (by omega)
    have h2 : (2 : Int) ^ (k + j) * 2 ^ (k + j) = 2 ^ (2 * (k + j)) := by rw [← Int.pow_add]; congr 1; omega
    rw [if_neg (by rw [Int.zero_add, h2]; omega)]
    exact sqL_skip n k h j
theorem root_hi (n i : Int) (s : Fx) (hx : RootInv n (i, s)) (h0 : 64 ≤ i) : okT ⟨orU s.h (2 ^ (i - 64).toNat), s.l⟩ ∧ num ⟨orU s.h (2 ^ (i - 64).toNat), s.l⟩ = num s + 2 ^ i.toNat := by
  obtain ⟨⟨b1, b2⟩, hs, hm, hq⟩ := hx
  simp only at b1 b2 hs hm hq
  obtain ⟨k, hk⟩ : ∃ k : Nat, i = k + 64 := ⟨(i - 64).toNat, by omega⟩
  have hm2 : num s % (18446744073709551616 * 2 ^ (k + 1)) = 0 := by
    rw [← hm, show (i + 1).toNat = 64 + (k + 1) from by omega, Int.pow_add 2 64 (k + 1)]; rfl
  obtain ⟨o1, o2⟩ := or_bit s.h k (by omega) hs.1 (high_mod s hs k hm2)
  rw [show (i - 64).toNat = k from by omega, o1]
  have hp := two_pos k
  refine ⟨⟨⟨by have := hs.1.h; simp only; omega⟩, hs.2⟩, ?_⟩
  show (s.h + 2 ^ k) * 18446744073709551616 + s.l = (s.h * 18446744073709551616 + s.l) + 2 ^ i.toNat
  rw [show i.toNat = 64 + k from by omega, Int.pow_add 2 64 k, show (2 : Int) ^ 64 = 18446744073709551616 from by decide]
  omega
theorem root_lo (n i : Int) (s : Fx) (hx : RootInv n (i, s)) (h0 : 0 ≤ i) (h1 : i < 64) : okT ⟨s.h, orU s.l (2 ^ i.toNat)⟩ ∧ num ⟨s.h, orU s.l (2 ^ i.toNat)⟩ = num s + 2 ^ i.toNat := by
  obtain ⟨⟨b1, b2⟩, hs, hm, hq⟩ := hx
  simp only at b1 b2 hs hm hq
  obtain ⟨k, hk⟩ : ∃ k : Nat, i = k := ⟨i.toNat, by omega⟩
  rw [show (i + 1).toNat = k + 1 from by omega] at hm
  obtain ⟨o1, o2⟩ := or_bit s.l k (by omega) hs.2 (low_mod s hs k (by omega) hm)
  have e : i.toNat = k := by omega
  rw [e, o1]
  have hp := two_pos k
  refine ⟨⟨hs.1, ⟨by have := hs.2.h; simp only; omega⟩⟩, ?_⟩
  show s.h * 18446744073709551616 + (s.l + 2 ^ k) = (s.h * 18446744073709551616 + s.l) + 2 ^ k
  omega
theorem sq_ok4 (t : Fx) (ht : okT t) : ok4 (mk4 (num t * num t)) := by
  have := mul_bd (n := 340282366920938463463374607431768211455) ⟨(num_T t ht).1, by have := num_T t ht; omega⟩ ⟨(num_T t ht).1, by have := num_T t ht; omega⟩
  exact ok4_mk _ (by omega)
def sqrtLoop (n : Int) : LSpec where
  σ := Int × Fx
  keysT := [4]
  keysB := [3]
  enc := fun _ x => ([.int .i64 x.1], [.cells [.int .u64 x.2.h, .int .u64 x.2.l] 56])
  rd := fun _ s => match s.tmps 4, s.mem 3 with
    | some (.raw (.int _ i)), some (.cells [.raw (.int _ h), .raw (.int _ l)] _) => some ((i, ⟨h, l⟩), [])
    | _, _ => none
  inv := fun _ x => RootInv n (x.1 - 1, x.2)
  μ := fun _ x => x.1.toNat
theorem k_limb_Sqrt : C1 Tryd.prog TabI 125 cFo cTw.enc ok4 fun a => mkx (isq (num4 a)) :=
  .ev (fun a => [sqrtLoop (num4 a)]) mixed (mkOrc_ok (l := LP2) (x := []) trivial) Tryd.func125 (by decide) fun a h => by
    refine ⟨?_⟩
    have e : evPure Tryd.prog (mkOrc LP2 []) Tryd.f125 [sqrtLoop (num4 a)] [cFo.enc a] =
      Tr.chk (decide (ok4 a)) (Tr.chk true (Tr.need (IntKind.i64.wrap ((IntKind.i64.wrap (len4 a.X.h a.X.l a.Y.h a.Y.l + (1 : Int))).tdiv (2 : Int)) = IntKind.i64.wrap ((IntKind.i64.wrap (len4 a.X.h a.X.l a.Y.h a.Y.l + (1 : Int))).tdiv (2 : Int)) ∧ True) (Tr.need (((0 : Int) = (0 : Int) ∧ (0 : Int) = (0 : Int) ∧ True) ∧ True) (Tr.need (RootInv (num4 a) (IntKind.i64.wrap ((IntKind.i64.wrap (len4 a.X.h a.X.l a.Y.h a.Y.l + (1 : Int))).tdiv (2 : Int)) - (1 : Int), { h := (0 : Int), l := (0 : Int) })) (Tr.all (Int × Fx) (fun x => RootInv (num4 a) (x.fst - (1 : Int), x.snd)) fun x => Tr.ite (decide (x.fst > (0 : Int))) (Tr.ite (decide (IntKind.i64.wrap (x.fst - (1 : Int)) < (64 : Int))) (Tr.chk (decide ((0 : Int) ≤ IntKind.i64.wrap (x.fst - (1 : Int)))) (Tr.chk (decide (okT { h := x.snd.h, l := IntKind.u64.wrap (↑(BitVec.ofInt (64 : Nat) x.snd.l ||| BitVec.ofInt (64 : Nat) (IntKind.u64.wrap ((1 : Int) * (2 : Int) ^ min (IntKind.i64.wrap (x.fst - (1 : Int))).toNat (64 : Nat)))).toNat : Int) } ∧ okT { h := x.snd.h, l := IntKind.u64.wrap (↑(BitVec.ofInt (64 : Nat) x.snd.l ||| BitVec.ofInt (64 : Nat) (IntKind.u64.wrap ((1 : Int) * (2 : Int) ^ min (IntKind.i64.wrap (x.fst - (1 : Int))).toNat (64 : Nat)))).toNat : Int) })) (Tr.chk (decide (ok4 (mk4 (num { h := x.snd.h, l := IntKind.u64.wrap (↑(BitVec.ofInt (64 : Nat) x.snd.l ||| BitVec.ofInt (64 : Nat) (IntKind.u64.wrap ((1 : Int) * (2 : Int) ^ min (IntKind.i64.wrap (x.fst - (1 : Int))).toNat (64 : Nat)))).toNat : Int) } * num { h := x.snd.h, l := IntKind.u64.wrap (↑(BitVec.ofInt (64 : Nat) x.snd.l ||| BitVec.ofInt (64 : Nat) (IntKind.u64.wrap ((1 : Int) * (2 : Int) ^ min (IntKind.i64.wrap (x.fst - (1 : Int))).toNat (64 : Nat)))).toNat : Int) })) ∧ ok4 a)) (Tr.ite (decide (cmpS (num4 (mk4 (num { h := x.snd.h, l := IntKind.u64.wrap (↑(BitVec.ofInt (64 : Nat) x.snd.l ||| BitVec.ofInt (64 : Nat) (IntKind.u64.wrap ((1 : Int) * (2 : Int) ^ min (IntKind.i64.wrap (x.fst - (1 : Int))).toNat (64 : Nat)))).toNat : Int) } * num { h := x.snd.h, l := IntKind.u64.wrap (↑(BitVec.ofInt (64 : Nat) x.snd.l ||| BitVec.ofInt (64 : Nat) (IntKind.u64.wrap ((1 : Int) * (2 : Int) ^ min (IntKind.i64.wrap (x.fst - (1 : Int))).toNat (64 : Nat)))).toNat : Int) }))) (num4 a) ≤ (0 : Int))) (Tr.need (IntKind.i64.wrap (x.fst - (1 : Int)) = IntKind.i64.wrap (x.fst - (1 : Int)) ∧ True) (Tr.need ((x.snd.h = x.snd.h ∧ IntKind.u64.wrap (↑(BitVec.ofInt (64 : Nat) x.snd.l ||| BitVec.ofInt (64 : Nat) (IntKind.u64.wrap ((1 : Int) * (2 : Int) ^ min (IntKind.i64.wrap (x.fst - (1 : Int))).toNat (64 : Nat)))).toNat : Int) = IntKind.u64.wrap (↑(BitVec.ofInt (64 : Nat) x.snd.l ||| BitVec.ofInt (64 : Nat) (IntKind.u64.wrap ((1 : Int) * (2 : Int) ^ min (IntKind.i64.wrap (x.fst - (1 : Int))).toNat (64 : Nat)))).toNat : Int) ∧ True) ∧ True) (Tr.need (RootInv (num4 a) (IntKind.i64.wrap (x.fst - (1 : Int)) - (1 : Int), { h := x.snd.h, l := IntKind.u64.wrap (↑(BitVec.ofInt (64 : Nat) x.snd.l ||| BitVec.ofInt (64 : Nat) (IntKind.u64.wrap ((1 : Int) * (2 : Int) ^ min (IntKind.i64.wrap (x.fst - (1 : Int))).toNat (64 : Nat)))).toNat : Int) })) (Tr.need ((IntKind.i64.wrap (x.fst - (1 : Int))).toNat < x.fst.toNat) Tr.done)))) (Tr.need (IntKind.i64.wrap (x.fst - (1 : Int)) = IntKind.i64.wrap (x.fst - (1 : Int)) ∧ True) (Tr.need ((x.snd.h = x.snd.h ∧ x.snd.l = x.snd.l ∧ True) ∧ True) (Tr.need (RootInv (num4 a) (IntKind.i64.wrap (x.fst - (1 : Int)) - (1 : Int), x.snd)) (Tr.need ((IntKind.i64.wrap (x.fst - (1 : Int))).toNat < x.fst.toNat) Tr.done)))))))) (Tr.chk (decide ((0 : Int) ≤ IntKind.i64.wrap (IntKind.i64.wrap (x.fst - (1 : Int)) - (64 : Int)))) (Tr.chk (decide (okT { h := IntKind.u64.wrap (↑(BitVec.ofInt (64 : Nat) x.snd.h ||| BitVec.ofInt (64 : Nat) (IntKind.u64.wrap ((1 : Int) * (2 : Int) ^ min (IntKind.i64.wrap (IntKind.i64.wrap (x.fst - (1 : Int)) - (64 : Int))).toNat (64 : Nat)))).toNat : Int), l := x.snd.l } ∧ okT { h := IntKind.u64.wrap (↑(BitVec.ofInt (64 : Nat) x.snd.h ||| BitVec.ofInt (64 : Nat) (IntKind.u64.wrap ((1 : Int) * (2 : Int) ^ min (IntKind.i64.wrap (IntKind.i64.wrap (x.fst - (1 : Int)) - (64 : Int))).toNat (64 : Nat)))).toNat : Int), l := x.snd.l })) (Tr.chk (decide (ok4 (mk4 (num { h := IntKind.u64.wrap (↑(BitVec.ofInt (64 : Nat) x.snd.h ||| BitVec.ofInt (64 : Nat) (IntKind.u64.wrap ((1 : Int) * (2 : Int) ^ min (IntKind.i64.wrap (IntKind.i64.wrap (x.fst - (1 : Int)) - (64 : Int))).toNat (64 : Nat)))).toNat : Int), l := x.snd.l } * num { h := IntKind.u64.wrap (↑(BitVec.ofInt (64 : Nat) x.snd.h ||| BitVec.ofInt (64 : Nat) (IntKind.u64.wrap ((1 : Int) * (2 : Int) ^ min (IntKind.i64.wrap (IntKind.i64.wrap (x.fst - (1 : Int)) - (64 : Int))).toNat (64 : Nat)))).toNat : Int), l := x.snd.l })) ∧ ok4 a)) (Tr.ite (decide (cmpS (num4 (mk4 (num { h := IntKind.u64.wrap (↑(BitVec.ofInt (64 : Nat) x.snd.h ||| BitVec.ofInt (64 : Nat) (IntKind.u64.wrap ((1 : Int) * (2 : Int) ^ min (IntKind.i64.wrap (IntKind.i64.wrap (x.fst - (1 : Int)) - (64 : Int))).toNat (64 : Nat)))).toNat : Int), l := x.snd.l } * num { h := IntKind.u64.wrap (↑(BitVec.ofInt (64 : Nat) x.snd.h ||| BitVec.ofInt (64 : Nat) (IntKind.u64.wrap ((1 : Int) * (2 : Int) ^ min (IntKind.i64.wrap (IntKind.i64.wrap (x.fst - (1 : Int)) - (64 : Int))).toNat (64 : Nat)))).toNat : Int), l := x.snd.l }))) (num4 a) ≤ (0 : Int))) (Tr.need (IntKind.i64.wrap (x.fst - (1 : Int)) = IntKind.i64.wrap (x.fst - (1 : Int)) ∧ True) (Tr.need ((IntKind.u64.wrap (↑(BitVec.ofInt (64 : Nat) x.snd.h ||| BitVec.ofInt (64 : Nat) (IntKind.u64.wrap ((1 : Int) * (2 : Int) ^ min (IntKind.i64.wrap (IntKind.i64.wrap (x.fst - (1 : Int)) - (64 : Int))).toNat (64 : Nat)))).toNat : Int) = IntKind.u64.wrap (↑(BitVec.ofInt (64 : Nat) x.snd.h ||| BitVec.ofInt (64 : Nat) (IntKind.u64.wrap ((1 : Int) * (2 : Int) ^ min (IntKind.i64.wrap (IntKind.i64.wrap (x.fst - (1 : Int)) - (64 : Int))).toNat (64 : Nat)))).toNat : Int) ∧ x.snd.l = x.snd.l ∧ True) ∧ True) (Tr.need (RootInv (num4 a) (IntKind.i64.wrap (x.fst - (1 : Int)) - (1 : Int), { h := IntKind.u64.wrap (↑(BitVec.ofInt (64 : Nat) x.snd.h ||| BitVec.ofInt (64 : Nat) (IntKind.u64.wrap ((1 : Int) * (2 : Int) ^ min (IntKind.i64.wrap (IntKind.i64.wrap (x.fst - (1 : Int)) - (64 : Int))).toNat (64 : Nat)))).toNat : Int), l := x.snd.l })) (Tr.need ((IntKind.i64.wrap (x.fst - (1 : Int))).toNat < x.fst.toNat) Tr.done)))) (Tr.need (IntKind.i64.wrap (x.fst - (1 : Int)) = IntKind.i64.wrap (x.fst - (1 : Int)) ∧ True) (Tr.need ((x.snd.h = x.snd.h ∧ x.snd.l = x.snd.l ∧ True) ∧ True) (Tr.need (RootInv (num4 a) (IntKind.i64.wrap (x.fst - (1 : Int)) - (1 : Int), x.snd)) (Tr.need ((IntKind.i64.wrap (x.fst - (1 : Int))).toNat < x.fst.toNat) Tr.done))))))))) (Tr.ret (Cod.enc cTw x.snd))))))) := by kernel_rfl
    rw [e]; clear e
    simp only [Tr.holds, cmp_le, num4_mk, decide_eq_true_eq, decide_eq_false_iff_not, true_and, and_true, or_is, and_self]
    obtain ⟨⟨l0, l1⟩, l2⟩ := len4_lt a h
    generalize len4 a.X.h a.X.l a.Y.h a.Y.l = len at *
    have w1 : IntKind.i64.wrap ((IntKind.i64.wrap (len + 1)).tdiv 2) = (len + 1) / 2 := by
      rw [wrap_i64_id (len + 1) (by omega), tdiv_pos _ _ (by omega), wrap_i64_id _ (by omega)]
    rw [w1]
    refine ⟨h, ⟨⟨by simp only; omega, by simp only; omega⟩, ⟨(inferInstance : U 0), (inferInstance : U 0)⟩, ?_, ?_⟩, ?_⟩
    · rw [show num (⟨0, 0⟩ : Fx) = 0 from num_lo 0, Int.zero_emod]
    · rw [show num (⟨0, 0⟩ : Fx) = 0 from num_lo 0]
      simp only
      have e := sqL_skip (num4 a) ((len + 1) / 2).toNat (Int.lt_of_lt_of_le l2 (two_le (by omega))) (128 - ((len + 1) / 2).toNat)
      rw [show ((len + 1) / 2).toNat + (128 - ((len + 1) / 2).toNat) = 128 from by omega] at e
      rw [show ((len + 1) / 2 - 1 + 1).toNat = ((len + 1) / 2).toNat from by omega]
      exact e.symm
    rintro ⟨i, s⟩ hx
    simp only at hx ⊢
    have hx' := hx
    obtain ⟨⟨b1, b2⟩, hs, hm, hq⟩ := hx'
    simp only at b1 b2 hs hm hq
    have hw : IntKind.i64.wrap (i - 1) = i - 1 := wrap_i64_id _ (by omega)
    rw [hw]
    have key : 0 < i → ∀ t : Fx, okT t → num t = num s + 2 ^ (i - 1).toNat → (okT t ∧ (ok4 (mk4 (num t * num t)) ∧ ok4 a) ∧ (num t * num t ≤ num4 a → RootInv (num4 a) (i - 1 - 1, t) ∧ (i - 1).toNat < i.toNat) ∧ (¬ num t * num t ≤ num4 a → RootInv (num4 a) (i - 1 - 1, s) ∧ (i - 1).toNat < i.toNat)) := by
      intro h0 t ht hn
      have hst := root_step (num4 a) (i - 1) s hx (by omega) t ht hn
      refine ⟨ht, ⟨sq_ok4 t ht, h⟩, fun hle => ⟨?_, by omega⟩, fun hle => ⟨?_, by omega⟩⟩
      · rwa [if_pos hle] at hst
      · rwa [if_neg hle] at hst
    refine ⟨fun h0 => ⟨fun h64 => ?_, fun h64 => ?_⟩, fun h0 => ?_⟩
    · rw [pow_U64 _ (by omega)]
      obtain ⟨t1, t2⟩ := root_lo (num4 a) (i - 1) s hx (by omega) (by omega)
      exact ⟨by omega, key h0 _ t1 t2⟩
    · rw [wrap_i64_id (i - 1 - 64) (by omega), pow_U64 _ (by omega)]
      obtain ⟨t1, t2⟩ := root_hi (num4 a) (i - 1) s hx (by omega)
      exact ⟨by omega, key h0 _ t1 t2⟩
    · have hi : i = 0 := by omega
      subst hi
      have hq : num s = isq (num4 a) := hq
      rw [← hq, mk_num _ hs.2]
theorem div_round (a : Vc) (d i : Int) (R : Fx) (l : List Int) (hn : 0 ≤ num4 a ∧ num4 a < 115792089237316195423570985008687907853269984665640564039457584007913129639936) (hd : 0 < d ∧ d < 340282366920938463463374607431768211456) (hx : DivInv (num4 a) d (i, R, l)) (h0 : 0 ≤ i) (R1 : Fx) (t1 : okT R1) (t2 : num R1 = (2 * num R + bitS a i) % 340282366920938463463374607431768211456) :
    (d ≤ 2 * num R + bitS a i → DivInv (num4 a) d (i - 1, mkx (mod2 (num R1 - d)), l.set (i / 64).toNat (orU (l.getD (i / 64).toNat 0) (2 ^ (i % 64).toNat)))) ∧ (2 * num R + bitS a i < d → DivInv (num4 a) d (i - 1, R1, l)) ∧ num R < d := by
  obtain ⟨⟨b1, b2⟩, hR, hm, hl⟩ := hx
  simp only at b1 b2 hR hm hl
  have hi1 : (i + 1).toNat = i.toNat + 1 := by omega
  have hi2 : (i - 1 + 1).toNat = i.toNat := by omega
  have hbit : 0 ≤ bitS a i ∧ bitS a i ≤ 1 := by unfold bitS; omega
  have hbits : num4 a / 2 ^ i.toNat = 2 * (num4 a / 2 ^ (i.toNat + 1)) + bitS a i := by
    unfold bitS
    have hp := two_pos i.toNat
    rw [Int.pow_succ, ← Int.ediv_ediv_of_nonneg (Int.le_of_lt hp)]; omega
  rw [hi1] at hm hl
  have hst := div_step (n := num4 a) (d := d) (N := num4 a / 2 ^ (i.toNat + 1)) (b := bitS a i) hd.1 hbit
  rw [← hbits, ← hm] at hst
  have hRlt : num R < d := by rw [hm]; exact Int.emod_lt_of_pos _ hd.1
  have hR0 : 0 ≤ num R := (num_T R hR).1
  have hN : 0 ≤ num4 a / 2 ^ (i.toNat + 1) / d := Int.ediv_nonneg (Int.ediv_nonneg hn.1 (Int.le_of_lt (two_pos _))) (Int.le_of_lt hd.1)
  refine ⟨fun hge => ?_, fun hlt => ?_, hRlt⟩
  · obtain ⟨q1, q2⟩ := hst.1 hge
    have e : mod2 (num R1 - d) = 2 * num R + bitS a i - d := by rw [t2]; unfold mod2; omega
    refine ⟨⟨by simp only; omega, by simp only; omega⟩, okT_mk _ (by unfold mod2; omega), ?_, ?_⟩
    · simp only [hi2, num_mk]; rw [e, q2]
    · simp only [hi2]
      have := words_bit (num4 a / 2 ^ (i.toNat + 1) / d * 2 ^ (i.toNat + 1)) i ⟨h0, b2⟩ (Int.mul_nonneg hN (Int.le_of_lt (two_pos _))) (Int.mul_emod_left _ _)
      rw [show ET.u64.dflt = (0 : Int) from rfl] at this
      rw [hl, this, q1]
      congr 1
      rw [Int.pow_succ, Int.add_mul, Int.one_mul, ← Int.mul_assoc, Int.mul_right_comm _ (2 ^ i.toNat) 2, Int.mul_comm _ 2]
  · obtain ⟨q1, q2⟩ := hst.2 hlt
    refine ⟨⟨by simp only; omega, by simp only; omega⟩, t1, ?_, ?_⟩
    · simp only [hi2]; rw [t2, q2]; omega
    · simp only [hi2]
      rw [hl, q1]
      congr 1
      rw [Int.pow_succ, ← Int.mul_assoc, Int.mul_right_comm _ (2 ^ i.toNat) 2, Int.mul_comm _ 2]
theorem four_list {l : List Int} (h : l.length = 4) : [l.getD 0 0, l.getD 1 0, l.getD 2 0, l.getD 3 0] = l := by
  match l, h with
  | [a, b, c, d], _ => rfl
theorem high_bit (R : Fx) (h : okT R) : 0 < R.h.fdiv (2 ^ 63) ↔ 170141183460469231731687303715884105728 ≤ num R := by
  have h1 := h.1.h
  have h2 := h.2.h
  rw [show R.h.fdiv (2 ^ 63) = R.h / 9223372036854775808 from fdiv_pow R.h 63]
  unfold num val2; omega
def PV.div3 (x : Vc × Fx × Bool) : PV := .tup [cFo.enc x.1, cTw.enc x.2.1, cB.enc x.2.2]
instance : Bare PV.div3 := ⟨fun _ => rfl⟩
def divLoopP (n d : Int) : LSpec where
  σ := Int × Fx × List Int
  keysT := [9]
  keysB := [5, 8]
  enc := fun _ x => ([.int .i64 x.1], [.cells [.int .u64 x.2.1.h, .int .u64 x.2.1.l] 56, .cells [.int .u64 (x.2.2.getD 0 0), .int .u64 (x.2.2.getD 1 0), .int .u64 (x.2.2.getD 2 0), .int .u64 (x.2.2.getD 3 0)] 190])
  rd := fun _ s => match s.tmps 9, s.mem 5, s.mem 8 with
    | some (.raw (.int _ i)), some (.cells [.raw (.int _ h), .raw (.int _ l)] _), some (.cells [.raw (.int _ p), .raw (.int _ q), .raw (.int _ r), .raw (.int _ t)] _) => some ((i, ⟨h, l⟩, [p, q, r, t]), [])
    | _, _, _ => none
  inv := fun _ x => DivInv n d x
  μ := fun _ x => (x.1 + 1).toNat
theorem k_limb_Div : C2 Tryd.prog TabI 135 cFo cTw PV.div3 (fun a b => ok4 a ∧ okT b) divS :=
  .ev (fun a b => [divLoopP (num4 a) (num b)]) mixed (mkOrc_ok (l := LP2) (x := []) trivial) Tryd.func135 (by decide) fun a b h => by
    refine ⟨?_⟩
    have e : evPure Tryd.prog (mkOrc LP2 []) Tryd.f135 [divLoopP (num4 a) (num b)] [cFo.enc a, cTw.enc b] =
      Tr.ite (b.h == (0 : Int) && (b.l == (0 : Int) && true)) (Tr.ret (PV.tup [Cod.enc cFo { X := { h := (0 : Int), l := (0 : Int) }, Y := { h := (0 : Int), l := (0 : Int) } }, Cod.enc cTw { h := (0 : Int), l := (0 : Int) }, PV.raw (Value.bool false)])) (Tr.chk (decide True) (Tr.chk (decide (ok4 a)) (Tr.need (IntKind.i64.wrap (len4 a.X.h a.X.l a.Y.h a.Y.l - (1 : Int)) = IntKind.i64.wrap (len4 a.X.h a.X.l a.Y.h a.Y.l - (1 : Int)) ∧ True) (Tr.need (((0 : Int) = (0 : Int) ∧ (0 : Int) = (0 : Int) ∧ True) ∧ ((0 : Int) = [(0 : Int), (0 : Int), (0 : Int), (0 : Int)].getD (0 : Nat) (0 : Int) ∧ (0 : Int) = [(0 : Int), (0 : Int), (0 : Int), (0 : Int)].getD (1 : Nat) (0 : Int) ∧ (0 : Int) = [(0 : Int), (0 : Int), (0 : Int), (0 : Int)].getD (2 : Nat) (0 : Int) ∧ (0 : Int) = [(0 : Int), (0 : Int), (0 : Int), (0 : Int)].getD (3 : Nat) (0 : Int) ∧ True) ∧ True) (Tr.need (DivInv (num4 a) (num b) (IntKind.i64.wrap (len4 a.X.h a.X.l a.Y.h a.Y.l - (1 : Int)), { h := (0 : Int), l := (0 : Int) }, [(0 : Int), (0 : Int), (0 : Int), (0 : Int)])) (Tr.all (Int × Fx × List Int) (fun x => DivInv (num4 a) (num b) x) fun x => Tr.ite (decide (x.fst ≥ (0 : Int))) (Tr.chk true (Tr.chk true (Tr.chk true (Tr.chk true (Tr.chk (decide (ok4 (revW (revW a)) ∧ (0 : Int) ≤ x.fst ∧ x.fst ≤ (255 : Int))) (Tr.chk (decide (okT { h := IntKind.u64.wrap (↑(BitVec.ofInt (64 : Nat) (IntKind.u64.wrap (x.snd.fst.h * (2 : Int) ^ (1 : Nat))) ||| BitVec.ofInt (64 : Nat) (x.snd.fst.l.fdiv ((2 : Int) ^ (63 : Nat)))).toNat : Int), l := IntKind.u64.wrap (↑(BitVec.ofInt (64 : Nat) (IntKind.u64.wrap (x.snd.fst.l * (2 : Int) ^ (1 : Nat))) ||| BitVec.ofInt (64 : Nat) (bitS (revW (revW a)) x.fst)).toNat : Int) } ∧ okT b)) (Tr.ite (decide (x.snd.fst.h.fdiv ((2 : Int) ^ (63 : Nat)) > (0 : Int))) (Tr.ite true (Tr.chk true (Tr.chk (decide ((0 : Int) ≤ IntKind.i64.wrap (x.fst.tdiv (64 : Int))) && decide (IntKind.i64.wrap (x.fst.tdiv (64 : Int)) < (↑(4 : Nat) : Int))) (Tr.chk (((IntKind.i64.wrap (x.fst.tdiv (64 : Int))).toNat * (1 : Nat) + (0 : Nat)).blt [PV.raw (Value.int IntKind.u64 (x.snd.snd.getD (0 : Nat) (0 : Int))), PV.raw (Value.int IntKind.u64 (x.snd.snd.getD (1 : Nat) (0 : Int))), PV.raw (Value.int IntKind.u64 (x.snd.snd.getD (2 : Nat) (0 : Int))), PV.raw (Value.int IntKind.u64 (x.snd.snd.getD (3 : Nat) (0 : Int)))].length) (Tr.chk true (Tr.chk (decide ((0 : Int) ≤ x.fst.tmod (64 : Int))) (Tr.chk (decide ((0 : Int) ≤ IntKind.i64.wrap (x.fst.tdiv (64 : Int))) && decide (IntKind.i64.wrap (x.fst.tdiv (64 : Int)) < (↑(4 : Nat) : Int))) (Tr.chk (((IntKind.i64.wrap (x.fst.tdiv (64 : Int))).toNat * (1 : Nat) + (0 : Nat) + (1 : Nat)).ble [PV.raw (Value.int IntKind.u64 (x.snd.snd.getD (0 : Nat) (0 : Int))), PV.raw (Value.int IntKind.u64 (x.snd.snd.getD (1 : Nat) (0 : Int))), PV.raw (Value.int IntKind.u64 (x.snd.snd.getD (2 : Nat) (0 : Int))), PV.raw (Value.int IntKind.u64 (x.snd.snd.getD (3 : Nat) (0 : Int)))].length) (Tr.need (IntKind.i64.wrap (x.fst - (1 : Int)) = IntKind.i64.wrap (x.fst - (1 : Int)) ∧ True) (Tr.need (((mkx (mod2 (num { h := IntKind.u64.wrap (↑(BitVec.ofInt (64 : Nat) (IntKind.u64.wrap (x.snd.fst.h * (2 : Int) ^ (1 : Nat))) ||| BitVec.ofInt (64 : Nat) (x.snd.fst.l.fdiv ((2 : Int) ^ (63 : Nat)))).toNat : Int), l := IntKind.u64.wrap (↑(BitVec.ofInt (64 : Nat) (IntKind.u64.wrap (x.snd.fst.l * (2 : Int) ^ (1 : Nat))) ||| BitVec.ofInt (64 : Nat) (bitS (revW (revW a)) x.fst)).toNat : Int) } - num b))).h = (mkx (mod2 (num { h := IntKind.u64.wrap (↑(BitVec.ofInt (64 : Nat) (IntKind.u64.wrap (x.snd.fst.h * (2 : Int) ^ (1 : Nat))) ||| BitVec.ofInt (64 : Nat) (x.snd.fst.l.fdiv ((2 : Int) ^ (63 : Nat)))).toNat : Int), l := IntKind.u64.wrap (↑(BitVec.ofInt (64 : Nat) (IntKind.u64.wrap (x.snd.fst.l * (2 : Int) ^ (1 : Nat))) ||| BitVec.ofInt (64 : Nat) (bitS (revW (revW a)) x.fst)).toNat : Int) } - num b))).h ∧ (mkx (mod2 (num { h := IntKind.u64.wrap (↑(BitVec.ofInt (64 : Nat) (IntKind.u64.wrap (x.snd.fst.h * (2 : Int) ^ (1 : Nat))) ||| BitVec.ofInt (64 : Nat) (x.snd.fst.l.fdiv ((2 : Int) ^ (63 : Nat)))).toNat : Int), l := IntKind.u64.wrap (↑(BitVec.ofInt (64 : Nat) (IntKind.u64.wrap (x.snd.fst.l * (2 : Int) ^ (1 : Nat))) ||| BitVec.ofInt (64 : Nat) (bitS (revW (revW a)) x.fst)).toNat : Int) } - num b))).l = (mkx (mod2 (num { h := IntKind.u64.wrap (↑(BitVec.ofInt (64 : Nat) (IntKind.u64.wrap (x.snd.fst.h * (2 : Int) ^ (1 : Nat))) ||| BitVec.ofInt (64 : Nat) (x.snd.fst.l.fdiv ((2 : Int) ^ (63 : Nat)))).toNat : Int), l := IntKind.u64.wrap (↑(BitVec.ofInt (64 : Nat) (IntKind.u64.wrap (x.snd.fst.l * (2 : Int) ^ (1 : Nat))) ||| BitVec.ofInt (64 : Nat) (bitS (revW (revW a)) x.fst)).toNat : Int) } - num b))).l ∧ True) ∧ (([x.snd.snd.getD (0 : Nat) (0 : Int), x.snd.snd.getD (1 : Nat) (0 : Int), x.snd.snd.getD (2 : Nat) (0 : Int), x.snd.snd.getD (3 : Nat) (0 : Int)].set ((IntKind.i64.wrap (x.fst.tdiv (64 : Int))).toNat * (1 : Nat) + (0 : Nat)) (IntKind.u64.wrap (↑(BitVec.ofInt (64 : Nat) ([x.snd.snd.getD (0 : Nat) (0 : Int), x.snd.snd.getD (1 : Nat) (0 : Int), x.snd.snd.getD (2 : Nat) (0 : Int), x.snd.snd.getD (3 : Nat) (0 : Int)].getD ((IntKind.i64.wrap (x.fst.tdiv (64 : Int))).toNat * (1 : Nat) + (0 : Nat)) (0 : Int)) ||| BitVec.ofInt (64 : Nat) (IntKind.u64.wrap ((1 : Int) * (2 : Int) ^ min (x.fst.tmod (64 : Int)).toNat (64 : Nat)))).toNat : Int))).getD (nat_lit 0) (0 : Int) = [([x.snd.snd.getD (0 : Nat) (0 : Int), x.snd.snd.getD (1 : Nat) (0 : Int), x.snd.snd.getD (2 : Nat) (0 : Int), x.snd.snd.getD (3 : Nat) (0 : Int)].set ((IntKind.i64.wrap (x.fst.tdiv (64 : Int))).toNat * (1 : Nat) + (0 : Nat)) (IntKind.u64.wrap (↑(BitVec.ofInt (64 : Nat) ([x.snd.snd.getD (0 : Nat) (0 : Int), x.snd.snd.getD (1 : Nat) (0 : Int), x.snd.snd.getD (2 : Nat) (0 : Int), x.snd.snd.getD (3 : Nat) (0 : Int)].getD ((IntKind.i64.wrap (x.fst.tdiv (64 : Int))).toNat * (1 : Nat) + (0 : Nat)) (0 : Int)) ||| BitVec.ofInt (64 : Nat) (IntKind.u64.wrap ((1 : Int) * (2 : Int) ^ min (x.fst.tmod (64 : Int)).toNat (64 : Nat)))).toNat : Int))).getD (nat_lit 0) (0 : Int), ([x.snd.snd.getD (0 : Nat) (0 : Int), x.snd.snd.getD (1 : Nat) (0 : Int), x.snd.snd.getD (2 : Nat) (0 : Int), x.snd.snd.getD (3 : Nat) (0 : Int)].set ((IntKind.i64.wrap (x.fst.tdiv (64 : Int))).toNat * (1 : Nat) + (0 : Nat)) (IntKind.u64.wrap (↑(BitVec.ofInt (64 : Nat) ([x.snd.snd.getD (0 : Nat) (0 : Int), x.snd.snd.getD (1 : Nat) (0 : Int), x.snd.snd.getD (2 : Nat) (0 : Int), x.snd.snd.getD (3 : Nat) (0 : Int)].getD ((IntKind.i64.wrap (x.fst.tdiv (64 : Int))).toNat * (1 : Nat) + (0 : Nat)) (0 : Int)) ||| BitVec.ofInt (64 : Nat) (IntKind.u64.wrap ((1 : Int) * (2 : Int) ^ min (x.fst.tmod (64 : Int)).toNat (64 : Nat)))).toNat : Int))).getD (nat_lit 1) (0 : Int), ([x.snd.snd.getD (0 : Nat) (0 : Int), x.snd.snd.getD (1 : Nat) (0 : Int), x.snd.snd.getD (2 : Nat) (0 : Int), x.snd.snd.getD (3 : Nat) (0 : Int)].set ((IntKind.i64.wrap (x.fst.tdiv (64 : Int))).toNat * (1 : Nat) + (0 : Nat)) (IntKind.u64.wrap (↑(BitVec.ofInt (64 : Nat) ([x.snd.snd.getD (0 : Nat) (0 : Int), x.snd.snd.getD (1 : Nat) (0 : Int), x.snd.snd.getD (2 : Nat) (0 : Int), x.snd.snd.getD (3 : Nat) (0 : Int)].getD ((IntKind.i64.wrap (x.fst.tdiv (64 : Int))).toNat * (1 : Nat) + (0 : Nat)) (0 : Int)) ||| BitVec.ofInt (64 : Nat) (IntKind.u64.wrap ((1 : Int) * (2 : Int) ^ min (x.fst.tmod (64 : Int)).toNat (64 : Nat)))).toNat : Int))).getD (nat_lit 2) (0 : Int), ([x.snd.snd.getD (0 : Nat) (0 : Int), x.snd.snd.getD (1 : Nat) (0 : Int), x.snd.snd.getD (2 : Nat) (0 : Int), x.snd.snd.getD (3 : Nat) (0 : Int)].set ((IntKind.i64.wrap (x.fst.tdiv (64 : Int))).toNat * (1 : Nat) + (0 : Nat)) (IntKind.u64.wrap (↑(BitVec.ofInt (64 : Nat) ([x.snd.snd.getD (0 : Nat) (0 : Int), x.snd.snd.getD (1 : Nat) (0 : Int), x.snd.snd.getD (2 : Nat) (0 : Int), x.snd.snd.getD (3 : Nat) (0 : Int)].getD ((IntKind.i64.wrap (x.fst.tdiv (64 : Int))).toNat * (1 : Nat) + (0 : Nat)) (0 : Int)) ||| BitVec.ofInt (64 : Nat) (IntKind.u64.wrap ((1 : Int) * (2 : Int) ^ min (x.fst.tmod (64 : Int)).toNat (64 : Nat)))).toNat : Int))).getD (nat_lit 3) (0 : Int)].getD (0 : Nat) (0 : Int) ∧ ([x.snd.snd.getD (0 : Nat) (0 : Int), x.snd.snd.getD (1 : Nat) (0 : Int), x.snd.snd.getD (2 : Nat) (0 : Int), x.snd.snd.getD (3 : Nat) (0 : Int)].set ((IntKind.i64.wrap (x.fst.tdiv (64 : Int))).toNat * (1 : Nat) + (0 : Nat)) (IntKind.u64.wrap (↑(BitVec.ofInt (64 : Nat) ([x.snd.snd.getD (0 : Nat) (0 : Int), x.snd.snd.getD (1 : Nat) (0 : Int), x.snd.snd.getD (2 : Nat) (0 : Int), x.snd.snd.getD (3 : Nat) (0 : Int)].getD ((IntKind.i64.wrap (x.fst.tdiv (64 : Int))).toNat * (1 : Nat) + (0 : Nat)) (0 : Int)) ||| BitVec.ofInt (64 : Nat) (IntKind.u64.wrap ((1 : Int) * (2 : Int) ^ min (x.fst.tmod (64 : Int)).toNat (64 : Nat)))).toNat : Int))).getD (nat_lit 1) (0 : Int) = [([x.snd.snd.getD (0 : Nat) (0 : Int), x.snd.snd.getD (1 : Nat) (0 : Int), x.snd.snd.getD (2 : Nat) (0 : Int), x.snd.snd.getD (3 : Nat) (0 : Int)].set ((IntKind.i64.wrap (x.fst.tdiv (64 : Int))).toNat * (1 : Nat) + (0 : Nat)) (IntKind.u64.wrap (↑(BitVec.ofInt (64 : Nat) ([x.snd.snd.getD (0 : Nat) (0 : Int), x.snd.snd.getD (1 : Nat) (0 : Int), x.snd.snd.getD (2 : Nat) (0 : Int), x.snd.snd.getD (3 : Nat) (0 : Int)].getD ((IntKind.i64.wrap (x.fst.tdiv (64 : Int))).toNat * (1 : Nat) + (0 : Nat)) (0 : Int)) ||| BitVec.ofInt (64 : Nat) (IntKind.u64.wrap ((1 : Int) * (2 : Int) ^ min (x.fst.tmod (64 : Int)).toNat (64 : Nat)))).toNat : Int))).getD (nat_lit 0) (0 : Int), ([x.snd.snd.getD (0 : Nat) (0 : Int), x.snd.snd.getD (1 : Nat) (0 : Int), x.snd.snd.getD (2 : Nat) (0 : Int), x.snd.snd.getD (3 : Nat) (0 : Int)].set ((IntKind.i64.wrap (x.fst.tdiv (64 : Int))).toNat * (1 : Nat) + (0 : Nat)) (IntKind.u64.wrap (↑(BitVec.ofInt (64 : Nat) ([x.snd.snd.getD (0 : Nat) (0 : Int), x.snd.snd.getD (1 : Nat) (0 : Int), x.snd.snd.getD (2 : Nat) (0 : Int), x.snd.snd.getD (3 : Nat) (0 : Int)].getD ((IntKind.i64.wrap (x.fst.tdiv (64 : Int))).toNat * (1 : Nat) + (0 : Nat)) (0 : Int)) ||| BitVec.ofInt (64 : Nat) (IntKind.u64.wrap ((1 : Int) * (2 : Int) ^ min (x.fst.tmod (64 : Int)).toNat (64 : Nat)))).toNat : Int))).getD (nat_lit 1) (0 : Int), ([x.snd.snd.getD (0 : Nat) (0 : Int), x.snd.snd.getD (1 : Nat) (0 : Int), x.snd.snd.getD (2 : Nat) (0 : Int), x.snd.snd.getD (3 : Nat) (0 : Int)].set ((IntKind.i64.wrap (x.fst.tdiv (64 : Int))).toNat * (1 : Nat) + (0 : Nat)) (IntKind.u64.wrap (↑(BitVec.ofInt (64 : Nat) ([x.snd.snd.getD (0 : Nat) (0 : Int), x.snd.snd.getD (1 : Nat) (0 : Int), x.snd.snd.getD (2 : Nat) (0 : Int), x.snd.snd.getD (3 : Nat) (0 : Int)].getD ((IntKind.i64.wrap (x.fst.tdiv (64 : Int))).toNat * (1 : Nat) + (0 : Nat)) (0 : Int)) ||| BitVec.ofInt (64 : Nat) (IntKind.u64.wrap ((1 : Int) * (2 : Int) ^ min (x.fst.tmod (64 : Int)).toNat (64 : Nat)))).toNat : Int))).getD (nat_lit 2) (0 : Int), ([x.snd.snd.getD (0 : Nat) (0 : Int), x.snd.snd.getD (1 : Nat) (0 : Int), x.snd.snd.getD (2 : Nat) (0 : Int), x.snd.snd.getD (3 : Nat) (0 : Int)].set ((IntKind.i64.wrap (x.fst.tdiv (64 : Int))).toNat * (1 : Nat) + (0 : Nat)) (IntKind.u64.wrap (↑(BitVec.ofInt (64 : Nat) ([x.snd.snd.getD (0 : Nat) (0 : Int), x.snd.snd.getD (1 : Nat) (0 : Int), x.snd.snd.getD (2 : Nat) (0 : Int), x.snd.snd.getD (3 : Nat) (0 : Int)].getD ((IntKind.i64.wrap (x.fst.tdiv (64 : Int))).toNat * (1 : Nat) + (0 : Nat)) (0 : Int)) ||| BitVec.ofInt (64 : Nat) (IntKind.u64.wrap ((1 : Int) * (2 : Int) ^ min (x.fst.tmod (64 : Int)).toNat (64 : Nat)))).toNat : Int))).getD (nat_lit 3) (0 : Int)].getD (1 : Nat) (0 : Int) ∧ ([x.snd.snd.getD (0 : Nat) (0 : Int), x.snd.snd.getD (1 : Nat) (0 : Int), x.snd.snd.getD (2 : Nat) (0 : Int), x.snd.snd.getD (3 : Nat) (0 : Int)].set ((IntKind.i64.wrap (x.fst.tdiv (64 : Int))).toNat * (1 : Nat) + (0 : Nat)) (IntKind.u64.wrap (↑(BitVec.ofInt (64 : Nat) ([x.snd.snd.getD (0 : Nat) (0 : Int), x.snd.snd.getD (1 : Nat) (0 : Int), x.snd.snd.getD (2 : Nat) (0 : Int), x.snd.snd.getD (3 : Nat) (0 : Int)].getD ((IntKind.i64.wrap (x.fst.tdiv (64 : Int))).toNat * (1 : Nat) + (0 : Nat)) (0 : Int)) ||| BitVec.ofInt (64 : Nat) (IntKind.u64.wrap ((1 : Int) * (2 : Int) ^ min (x.fst.tmod (64 : Int)).toNat (64 : Nat)))).toNat : Int))).getD (nat_lit 2) (0 : Int) = [([x.snd.snd.getD (0 : Nat) (0 : Int), x.snd.snd.getD (1 : Nat) (0 : Int), x.snd.snd.getD (2 : Nat) (0 : Int), x.snd.snd.getD (3 : Nat) (0 : Int)].set ((IntKind.i64.wrap (x.fst.tdiv (64 : Int))).toNat * (1 : Nat) + (0 : Nat)) (IntKind.u64.wrap (↑(BitVec.ofInt (64 : Nat) ([x.snd.snd.getD (0 : Nat) (0 : Int), x.snd.snd.getD (1 : Nat) (0 : Int), x.snd.snd.getD (2 : Nat) (0 : Int), x.snd.snd.getD (3 : Nat) (0 : Int)].getD ((IntKind.i64.wrap (x.fst.tdiv (64 : Int))).toNat * (1 : Nat) + (0 : Nat)) (0 : Int)) ||| BitVec.ofInt (64 : Nat) (IntKind.u64.wrap ((1 : Int) * (2 : Int) ^ min (x.fst.tmod (64 : Int)).toNat (64 : Nat)))).toNat : Int))).getD (nat_lit 0) (0 : Int), ([x.snd.snd.getD (0 : Nat) (0 : Int), x.snd.snd.getD (1 : Nat) (0 : Int), x.snd.snd.getD (2 : Nat) (0 : Int), x.snd.snd.getD (3 : Nat) (0 : Int)].set ((IntKind.i64.wrap (x.fst.tdiv (64 : Int))).toNat * (1 : Nat) + (0 : Nat)) (IntKind.u64.wrap (↑(BitVec.ofInt (64 : Nat) ([x.snd.snd.getD (0 : Nat) (0 : Int), x.snd.snd.getD (1 : Nat) (0 : Int), x.snd.snd.getD (2 : Nat) (0 : Int), x.snd.snd.getD (3 : Nat) (0 : Int)].getD ((IntKind.i64.wrap (x.fst.tdiv (64 : Int))).toNat * (1 : Nat) + (0 : Nat)) (0 : Int)) ||| BitVec.ofInt (64 : Nat) (IntKind.u64.wrap ((1 : Int) * (2 : Int) ^ min (x.fst.tmod (64 : Int)).toNat (64 : Nat)))).toNat : Int))).getD (nat_lit 1) (0 : Int), ([x.snd.snd.getD (0 : Nat) (0 : Int), x.snd.snd.getD (1 : Nat) (0 : Int), x.snd.snd.getD (2 : Nat) (0 : Int), x.snd.snd.getD (3 : Nat) (0 : Int)].set ((IntKind.i64.wrap (x.fst.tdiv (64 : Int))).toNat * (1 : Nat) + (0 : Nat)) (IntKind.u64.wrap (↑(BitVec.ofInt (64 : Nat) ([x.snd.snd.getD (0 : Nat) (0 : Int), x.snd.snd.getD (1 : Nat) (0 : Int), x.snd.snd.getD (2 : Nat) (0 : Int), x.snd.snd.getD (3 : Nat) (0 : Int)].getD ((IntKind.i64.wrap (x.fst.tdiv (64 : Int))).toNat * (1 : Nat) + (0 : Nat)) (0 : Int)) ||| BitVec.ofInt (64 : Nat) (IntKind.u64.wrap ((1 : Int) * (2 : Int) ^ min (x.fst.tmod (64 : Int)).toNat (64 : Nat)))).toNat : Int))).getD (nat_lit 2) (0 : Int), ([x.snd.snd.getD (0 : Nat) (0 : Int), x.snd.snd.getD (1 : Nat) (0 : Int), x.snd.snd.getD (2 : Nat) (0 : Int), x.snd.snd.getD (3 : Nat) (0 : Int)].set ((IntKind.i64.wrap (x.fst.tdiv (64 : Int))).toNat * (1 : Nat) + (0 : Nat)) (IntKind.u64.wrap (↑(BitVec.ofInt (64 : Nat) ([x.snd.snd.getD (0 : Nat) (0 : Int), x.snd.snd.getD (1 : Nat) (0 : Int), x.snd.snd.getD (2 : Nat) (0 : Int), x.snd.snd.getD (3 : Nat) (0 : Int)].getD ((IntKind.i64.wrap (x.fst.tdiv (64 : Int))).toNat * (1 : Nat) + (0 : Nat)) (0 : Int)) ||| BitVec.ofInt (64 : Nat) (IntKind.u64.wrap ((1 : Int) * (2 : Int) ^ min (x.fst.tmod (64 : Int)).toNat (64 : Nat)))).toNat : Int))).getD (nat_lit 3) (0 : Int)].getD (2 : Nat) (0 : Int) ∧ ([x.snd.snd.getD (0 : Nat) (0 : Int), x.snd.snd.getD (1 : Nat) (0 : Int), x.snd.snd.getD (2 : Nat) (0 : Int), x.snd.snd.getD (3 : Nat) (0 : Int)].set ((IntKind.i64.wrap (x.fst.tdiv (64 : Int))).toNat * (1 : Nat) + (0 : Nat)) (IntKind.u64.wrap (↑(BitVec.ofInt (64 : Nat) ([x.snd.snd.getD (0 : Nat) (0 : Int), x.snd.snd.getD (1 : Nat) (0 : Int), x.snd.snd.getD (2 : Nat) (0 : Int), x.snd.snd.getD (3 : Nat) (0 : Int)].getD ((IntKind.i64.wrap (x.fst.tdiv (64 : Int))).toNat * (1 : Nat) + (0 : Nat)) (0 : Int)) ||| BitVec.ofInt (64 : Nat) (IntKind.u64.wrap ((1 : Int) * (2 : Int) ^ min (x.fst.tmod (64 : Int)).toNat (64 : Nat)))).toNat : Int))).getD (nat_lit 3) (0 : Int) = [([x.snd.snd.getD (0 : Nat) (0 : Int), x.snd.snd.getD (1 : Nat) (0 : Int), x.snd.snd.getD (2 : Nat) (0 : Int), x.snd.snd.getD (3 : Nat) (0 : Int)].set ((IntKind.i64.wrap (x.fst.tdiv (64 : Int))).toNat * (1 : Nat) + (0 : Nat)) (IntKind.u64.wrap (↑(BitVec.ofInt (64 : Nat) ([x.snd.snd.getD (0 : Nat) (0 : Int), x.snd.snd.getD (1 : Nat) (0 : Int), x.snd.snd.getD (2 : Nat) (0 : Int), x.snd.snd.getD (3 : Nat) (0 : Int)].getD ((IntKind.i64.wrap (x.fst.tdiv (64 : Int))).toNat * (1 : Nat) + (0 : Nat)) (0 : Int)) ||| BitVec.ofInt (64 : Nat) (IntKind.u64.wrap ((1 : Int) * (2 : Int) ^ min (x.fst.tmod (64 : Int)).toNat (64 : Nat)))).toNat : Int))).getD (nat_lit 0) (0 : Int), ([x.snd.snd.getD (0 : Nat) (0 : Int), x.snd.snd.getD (1 : Nat) (0 : Int), x.snd.snd.getD (2 : Nat) (0 : Int), x.snd.snd.getD (3 : Nat) (0 : Int)].set ((IntKind.i64.wrap (x.fst.tdiv (64 : Int))).toNat * (1 : Nat) + (0 : Nat)) (IntKind.u64.wrap (↑(BitVec.ofInt (64 : Nat) ([x.snd.snd.getD (0 : Nat) (0 : Int), x.snd.snd.getD (1 : Nat) (0 : Int), x.snd.snd.getD (2 : Nat) (0 : Int), x.snd.snd.getD (3 : Nat) (0 : Int)].getD ((IntKind.i64.wrap (x.fst.tdiv (64 : Int))).toNat * (1 : Nat) + (0 : Nat)) (0 : Int)) ||| BitVec.ofInt (64 : Nat) (IntKind.u64.wrap ((1 : Int) * (2 : Int) ^ min (x.fst.tmod (64 : Int)).toNat (64 : Nat)))).toNat : Int))).getD (nat_lit 1) (0 : Int), ([x.snd.snd.getD (0 : Nat) (0 : Int), x.snd.snd.getD (1 : Nat) (0 : Int), x.snd.snd.getD (2 : Nat) (0 : Int), x.snd.snd.getD (3 : Nat) (0 : Int)].set ((IntKind.i64.wrap (x.fst.tdiv (64 : Int))).toNat * (1 : Nat) + (0 : Nat)) (IntKind.u64.wrap (↑(BitVec.ofInt (64 : Nat) ([x.snd.snd.getD (0 : Nat) (0 : Int), x.snd.snd.getD (1 : Nat) (0 : Int), x.snd.snd.getD (2 : Nat) (0 : Int), x.snd.snd.getD (3 : Nat) (0 : Int)].getD ((IntKind.i64.wrap (x.fst.tdiv (64 : Int))).toNat * (1 : Nat) + (0 : Nat)) (0 : Int)) ||| BitVec.ofInt (64 : Nat) (IntKind.u64.wrap ((1 : Int) * (2 : Int) ^ min (x.fst.tmod (64 : Int)).toNat (64 : Nat)))).toNat : Int))).getD (nat_lit 2) (0 : Int), ([x.snd.snd.getD (0 : Nat) (0 : Int), x.snd.snd.getD (1 : Nat) (0 : Int), x.snd.snd.getD (2 : Nat) (0 : Int), x.snd.snd.getD (3 : Nat) (0 : Int)].set ((IntKind.i64.wrap (x.fst.tdiv (64 : Int))).toNat * (1 : Nat) + (0 : Nat)) (IntKind.u64.wrap (↑(BitVec.ofInt (64 : Nat) ([x.snd.snd.getD (0 : Nat) (0 : Int), x.snd.snd.getD (1 : Nat) (0 : Int), x.snd.snd.getD (2 : Nat) (0 : Int), x.snd.snd.getD (3 : Nat) (0 : Int)].getD ((IntKind.i64.wrap (x.fst.tdiv (64 : Int))).toNat * (1 : Nat) + (0 : Nat)) (0 : Int)) ||| BitVec.ofInt (64 : Nat) (IntKind.u64.wrap ((1 : Int) * (2 : Int) ^ min (x.fst.tmod (64 : Int)).toNat (64 : Nat)))).toNat : Int))).getD (nat_lit 3) (0 : Int)].getD (3 : Nat) (0 : Int) ∧ True) ∧ True) (Tr.need (DivInv (num4 a) (num b) (IntKind.i64.wrap (x.fst - (1 : Int)), mkx (mod2 (num { h := IntKind.u64.wrap (↑(BitVec.ofInt (64 : Nat) (IntKind.u64.wrap (x.snd.fst.h * (2 : Int) ^ (1 : Nat))) ||| BitVec.ofInt (64 : Nat) (x.snd.fst.l.fdiv ((2 : Int) ^ (63 : Nat)))).toNat : Int), l := IntKind.u64.wrap (↑(BitVec.ofInt (64 : Nat) (IntKind.u64.wrap (x.snd.fst.l * (2 : Int) ^ (1 : Nat))) ||| BitVec.ofInt (64 : Nat) (bitS (revW (revW a)) x.fst)).toNat : Int) } - num b)), [([x.snd.snd.getD (0 : Nat) (0 : Int), x.snd.snd.getD (1 : Nat) (0 : Int), x.snd.snd.getD (2 : Nat) (0 : Int), x.snd.snd.getD (3 : Nat) (0 : Int)].set ((IntKind.i64.wrap (x.fst.tdiv (64 : Int))).toNat * (1 : Nat) + (0 : Nat)) (IntKind.u64.wrap (↑(BitVec.ofInt (64 : Nat) ([x.snd.snd.getD (0 : Nat) (0 : Int), x.snd.snd.getD (1 : Nat) (0 : Int), x.snd.snd.getD (2 : Nat) (0 : Int), x.snd.snd.getD (3 : Nat) (0 : Int)].getD ((IntKind.i64.wrap (x.fst.tdiv (64 : Int))).toNat * (1 : Nat) + (0 : Nat)) (0 : Int)) ||| BitVec.ofInt (64 : Nat) (IntKind.u64.wrap ((1 : Int) * (2 : Int) ^ min (x.fst.tmod (64 : Int)).toNat (64 : Nat)))).toNat : Int))).getD (nat_lit 0) (0 : Int), ([x.snd.snd.getD (0 : Nat) (0 : Int), x.snd.snd.getD (1 : Nat) (0 : Int), x.snd.snd.getD (2 : Nat) (0 : Int), x.snd.snd.getD (3 : Nat) (0 : Int)].set ((IntKind.i64.wrap (x.fst.tdiv (64 : Int))).toNat * (1 : Nat) + (0 : Nat)) (IntKind.u64.wrap (↑(BitVec.ofInt (64 : Nat) ([x.snd.snd.getD (0 : Nat) (0 : Int), x.snd.snd.getD (1 : Nat) (0 : Int), x.snd.snd.getD (2 : Nat) (0 : Int), x.snd.snd.getD (3 : Nat) (0 : Int)].getD ((IntKind.i64.wrap (x.fst.tdiv (64 : Int))).toNat * (1 : Nat) + (0 : Nat)) (0 : Int)) ||| BitVec.ofInt (64 : Nat) (IntKind.u64.wrap ((1 : Int) * (2 : Int) ^ min (x.fst.tmod (64 : Int)).toNat (64 : Nat)))).toNat : Int))).getD (nat_lit 1) (0 : Int), ([x.snd.snd.getD (0 : Nat) (0 : Int), x.snd.snd.getD (1 : Nat) (0 : Int), x.snd.snd.getD (2 : Nat) (0 : Int), x.snd.snd.getD (3 : Nat) (0 : Int)].set ((IntKind.i64.wrap (x.fst.tdiv (64 : Int))).toNat * (1 : Nat) + (0 : Nat)) (IntKind.u64.wrap (↑(BitVec.ofInt (64 : Nat) ([x.snd.snd.getD (0 : Nat) (0 : Int), x.snd.snd.getD (1 : Nat) (0 : Int), x.snd.snd.getD (2 : Nat) (0 : Int), x.snd.snd.getD (3 : Nat) (0 : Int)].getD ((IntKind.i64.wrap (x.fst.tdiv (64 : Int))).toNat * (1 : Nat) + (0 : Nat)) (0 : Int)) ||| BitVec.ofInt (64 : Nat) (IntKind.u64.wrap ((1 : Int) * (2 : Int) ^ min (x.fst.tmod (64 : Int)).toNat (64 : Nat)))).toNat : Int))).getD (nat_lit 2) (0 : Int), ([x.snd.snd.getD (0 : Nat) (0 : Int), x.snd.snd.getD (1 : Nat) (0 : Int), x.snd.snd.getD (2 : Nat) (0 : Int), x.snd.snd.getD (3 : Nat) (0 : Int)].set ((IntKind.i64.wrap (x.fst.tdiv (64 : Int))).toNat * (1 : Nat) + (0 : Nat)) (IntKind.u64.wrap (↑(BitVec.ofInt (64 : Nat) ([x.snd.snd.getD (0 : Nat) (0 : Int), x.snd.snd.getD (1 : Nat) (0 : Int), x.snd.snd.getD (2 : Nat) (0 : Int), x.snd.snd.getD (3 : Nat) (0 : Int)].getD ((IntKind.i64.wrap (x.fst.tdiv (64 : Int))).toNat * (1 : Nat) + (0 : Nat)) (0 : Int)) ||| BitVec.ofInt (64 : Nat) (IntKind.u64.wrap ((1 : Int) * (2 : Int) ^ min (x.fst.tmod (64 : Int)).toNat (64 : Nat)))).toNat : Int))).getD (nat_lit 3) (0 : Int)])) (Tr.need ((IntKind.i64.wrap (x.fst - (1 : Int)) + (1 : Int)).toNat < (x.fst + (1 : Int)).toNat) Tr.done))))))))))) (Tr.need (IntKind.i64.wrap (x.fst - (1 : Int)) = IntKind.i64.wrap (x.fst - (1 : Int)) ∧ True) (Tr.need ((IntKind.u64.wrap (↑(BitVec.ofInt (64 : Nat) (IntKind.u64.wrap (x.snd.fst.h * (2 : Int) ^ (1 : Nat))) ||| BitVec.ofInt (64 : Nat) (x.snd.fst.l.fdiv ((2 : Int) ^ (63 : Nat)))).toNat : Int) = IntKind.u64.wrap (↑(BitVec.ofInt (64 : Nat) (IntKind.u64.wrap (x.snd.fst.h * (2 : Int) ^ (1 : Nat))) ||| BitVec.ofInt (64 : Nat) (x.snd.fst.l.fdiv ((2 : Int) ^ (63 : Nat)))).toNat : Int) ∧ IntKind.u64.wrap (↑(BitVec.ofInt (64 : Nat) (IntKind.u64.wrap (x.snd.fst.l * (2 : Int) ^ (1 : Nat))) ||| BitVec.ofInt (64 : Nat) (bitS (revW (revW a)) x.fst)).toNat : Int) = IntKind.u64.wrap (↑(BitVec.ofInt (64 : Nat) (IntKind.u64.wrap (x.snd.fst.l * (2 : Int) ^ (1 : Nat))) ||| BitVec.ofInt (64 : Nat) (bitS (revW (revW a)) x.fst)).toNat : Int) ∧ True) ∧ (x.snd.snd.getD (0 : Nat) (0 : Int) = [x.snd.snd.getD (0 : Nat) (0 : Int), x.snd.snd.getD (1 : Nat) (0 : Int), x.snd.snd.getD (2 : Nat) (0 : Int), x.snd.snd.getD (3 : Nat) (0 : Int)].getD (0 : Nat) (0 : Int) ∧ x.snd.snd.getD (1 : Nat) (0 : Int) = [x.snd.snd.getD (0 : Nat) (0 : Int), x.snd.snd.getD (1 : Nat) (0 : Int), x.snd.snd.getD (2 : Nat) (0 : Int), x.snd.snd.getD (3 : Nat) (0 : Int)].getD (1 : Nat) (0 : Int) ∧ x.snd.snd.getD (2 : Nat) (0 : Int) = [x.snd.snd.getD (0 : Nat) (0 : Int), x.snd.snd.getD (1 : Nat) (0 : Int), x.snd.snd.getD (2 : Nat) (0 : Int), x.snd.snd.getD (3 : Nat) (0 : Int)].getD (2 : Nat) (0 : Int) ∧ x.snd.snd.getD (3 : Nat) (0 : Int) = [x.snd.snd.getD (0 : Nat) (0 : Int), x.snd.snd.getD (1 : Nat) (0 : Int), x.snd.snd.getD (2 : Nat) (0 : Int), x.snd.snd.getD (3 : Nat) (0 : Int)].getD (3 : Nat) (0 : Int) ∧ True) ∧ True) (Tr.need (DivInv (num4 a) (num b) (IntKind.i64.wrap (x.fst - (1 : Int)), { h := IntKind.u64.wrap (↑(BitVec.ofInt (64 : Nat) (IntKind.u64.wrap (x.snd.fst.h * (2 : Int) ^ (1 : Nat))) ||| BitVec.ofInt (64 : Nat) (x.snd.fst.l.fdiv ((2 : Int) ^ (63 : Nat)))).toNat : Int), l := IntKind.u64.wrap (↑(BitVec.ofInt (64 : Nat) (IntKind.u64.wrap (x.snd.fst.l * (2 : Int) ^ (1 : Nat))) ||| BitVec.ofInt (64 : Nat) (bitS (revW (revW a)) x.fst)).toNat : Int) }, [x.snd.snd.getD (0 : Nat) (0 : Int), x.snd.snd.getD (1 : Nat) (0 : Int), x.snd.snd.getD (2 : Nat) (0 : Int), x.snd.snd.getD (3 : Nat) (0 : Int)])) (Tr.need ((IntKind.i64.wrap (x.fst - (1 : Int)) + (1 : Int)).toNat < (x.fst + (1 : Int)).toNat) Tr.done))))) (Tr.ite (bif false then true else !below (num { h := IntKind.u64.wrap (↑(BitVec.ofInt (64 : Nat) (IntKind.u64.wrap (x.snd.fst.h * (2 : Int) ^ (1 : Nat))) ||| BitVec.ofInt (64 : Nat) (x.snd.fst.l.fdiv ((2 : Int) ^ (63 : Nat)))).toNat : Int), l := IntKind.u64.wrap (↑(BitVec.ofInt (64 : Nat) (IntKind.u64.wrap (x.snd.fst.l * (2 : Int) ^ (1 : Nat))) ||| BitVec.ofInt (64 : Nat) (bitS (revW (revW a)) x.fst)).toNat : Int) } - num b)) (Tr.chk true (Tr.chk (decide ((0 : Int) ≤ IntKind.i64.wrap (x.fst.tdiv (64 : Int))) && decide (IntKind.i64.wrap (x.fst.tdiv (64 : Int)) < (↑(4 : Nat) : Int))) (Tr.chk (((IntKind.i64.wrap (x.fst.tdiv (64 : Int))).toNat * (1 : Nat) + (0 : Nat)).blt [PV.raw (Value.int IntKind.u64 (x.snd.snd.getD (0 : Nat) (0 : Int))), PV.raw (Value.int IntKind.u64 (x.snd.snd.getD (1 : Nat) (0 : Int))), PV.raw (Value.int IntKind.u64 (x.snd.snd.getD (2 : Nat) (0 : Int))), PV.raw (Value.int IntKind.u64 (x.snd.snd.getD (3 : Nat) (0 : Int)))].length) (Tr.chk true (Tr.chk (decide ((0 : Int) ≤ x.fst.tmod (64 : Int))) (Tr.chk (decide ((0 : Int) ≤ IntKind.i64.wrap (x.fst.tdiv (64 : Int))) && decide (IntKind.i64.wrap (x.fst.tdiv (64 : Int)) < (↑(4 : Nat) : Int))) (Tr.chk (((IntKind.i64.wrap (x.fst.tdiv (64 : Int))).toNat * (1 : Nat) + (0 : Nat) + (1 : Nat)).ble [PV.raw (Value.int IntKind.u64 (x.snd.snd.getD (0 : Nat) (0 : Int))), PV.raw (Value.int IntKind.u64 (x.snd.snd.getD (1 : Nat) (0 : Int))), PV.raw (Value.int IntKind.u64 (x.snd.snd.getD (2 : Nat) (0 : Int))), PV.raw (Value.int IntKind.u64 (x.snd.snd.getD (3 : Nat) (0 : Int)))].length) (Tr.need (IntKind.i64.wrap (x.fst - (1 : Int)) = IntKind.i64.wrap (x.fst - (1 : Int)) ∧ True) (Tr.need (((mkx (mod2 (num { h := IntKind.u64.wrap (↑(BitVec.ofInt (64 : Nat) (IntKind.u64.wrap (x.snd.fst.h * (2 : Int) ^ (1 : Nat))) ||| BitVec.ofInt (64 : Nat) (x.snd.fst.l.fdiv ((2 : Int) ^ (63 : Nat)))).toNat : Int), l := IntKind.u64.wrap (↑(BitVec.ofInt (64 : Nat) (IntKind.u64.wrap (x.snd.fst.l * (2 : Int) ^ (1 : Nat))) ||| BitVec.ofInt (64 : Nat) (bitS (revW (revW a)) x.fst)).toNat : Int) } - num b))).h = (mkx (mod2 (num { h := IntKind.u64.wrap (↑(BitVec.ofInt (64 : Nat) (IntKind.u64.wrap (x.snd.fst.h * (2 : Int) ^ (1 : Nat))) ||| BitVec.ofInt (64 : Nat) (x.snd.fst.l.fdiv ((2 : Int) ^ (63 : Nat)))).toNat : Int), l := IntKind.u64.wrap (↑(BitVec.ofInt (64 : Nat) (IntKind.u64.wrap (x.snd.fst.l * (2 : Int) ^ (1 : Nat))) ||| BitVec.ofInt (64 : Nat) (bitS (revW (revW a)) x.fst)).toNat : Int) } - num b))).h ∧ (mkx (mod2 (num { h := IntKind.u64.wrap (↑(BitVec.ofInt (64 : Nat) (IntKind.u64.wrap (x.snd.fst.h * (2 : Int) ^ (1 : Nat))) ||| BitVec.ofInt (64 : Nat) (x.snd.fst.l.fdiv ((2 : Int) ^ (63 : Nat)))).toNat : Int), l := IntKind.u64.wrap (↑(BitVec.ofInt (64 : Nat) (IntKind.u64.wrap (x.snd.fst.l * (2 : Int) ^ (1 : Nat))) ||| BitVec.ofInt (64 : Nat) (bitS (revW (revW a)) x.fst)).toNat : Int) } - num b))).l = (mkx (mod2 (num { h := IntKind.u64.wrap (↑(BitVec.ofInt (64 : Nat) (IntKind.u64.wrap (x.snd.fst.h * (2 : Int) ^ (1 : Nat))) ||| BitVec.ofInt (64 : Nat) (x.snd.fst.l.fdiv ((2 : Int) ^ (63 : Nat)))).toNat : Int), l := IntKind.u64.wrap (↑(BitVec.ofInt (64 : Nat) (IntKind.u64.wrap (x.snd.fst.l * (2 : Int) ^ (1 : Nat))) ||| BitVec.ofInt (64 : Nat) (bitS (revW (revW a)) x.fst)).toNat : Int) } - num b))).l ∧ True) ∧ (([x.snd.snd.getD (0 : Nat) (0 : Int), x.snd.snd.getD (1 : Nat) (0 : Int), x.snd.snd.getD (2 : Nat) (0 : Int), x.snd.snd.getD (3 : Nat) (0 : Int)].set ((IntKind.i64.wrap (x.fst.tdiv (64 : Int))).toNat * (1 : Nat) + (0 : Nat)) (IntKind.u64.wrap (↑(BitVec.ofInt (64 : Nat) ([x.snd.snd.getD (0 : Nat) (0 : Int), x.snd.snd.getD (1 : Nat) (0 : Int), x.snd.snd.getD (2 : Nat) (0 : Int), x.snd.snd.getD (3 : Nat) (0 : Int)].getD ((IntKind.i64.wrap (x.fst.tdiv (64 : Int))).toNat * (1 : Nat) + (0 : Nat)) (0 : Int)) ||| BitVec.ofInt (64 : Nat) (IntKind.u64.wrap ((1 : Int) * (2 : Int) ^ min (x.fst.tmod (64 : Int)).toNat (64 : Nat)))).toNat : Int))).getD (nat_lit 0) (0 : Int) = [([x.snd.snd.getD (0 : Nat) (0 : Int), x.snd.snd.getD (1 : Nat) (0 : Int), x.snd.snd.getD (2 : Nat) (0 : Int), x.snd.snd.getD (3 : Nat) (0 : Int)].set ((IntKind.i64.wrap (x.fst.tdiv (64 : Int))).toNat * (1 : Nat) + (0 : Nat)) (IntKind.u64.wrap (↑(BitVec.ofInt (64 : Nat) ([x.snd.snd.getD (0 : Nat) (0 : Int), x.snd.snd.getD (1 : Nat) (0 : Int), x.snd.snd.getD (2 : Nat) (0 : Int), x.snd.snd.getD (3 : Nat) (0 : Int)].getD ((IntKind.i64.wrap (x.fst.tdiv (64 : Int))).toNat * (1 : Nat) + (0 : Nat)) (0 : Int)) ||| BitVec.ofInt (64 : Nat) (IntKind.u64.wrap ((1 : Int) * (2 : Int) ^ min (x.fst.tmod (64 : Int)).toNat (64 : Nat)))).toNat : Int))).getD (nat_lit 0) (0 : Int), ([x.snd.snd.getD (0 : Nat) (0 : Int), x.snd.snd.getD (1 : Nat) (0 : Int), x.snd.snd.getD (2 : Nat) (0 : Int), x.snd.snd.getD (3 : Nat) (0 : Int)].set ((IntKind.i64.wrap (x.fst.tdiv (64 : Int))).toNat * (1 : Nat) + (0 : Nat)) (IntKind.u64.wrap (↑(BitVec.ofInt (64 : Nat) ([x.snd.snd.getD (0 : Nat) (0 : Int), x.snd.snd.getD (1 : Nat) (0 : Int), x.snd.snd.getD (2 : Nat) (0 : Int), x.snd.snd.getD (3 : Nat) (0 : Int)].getD ((IntKind.i64.wrap (x.fst.tdiv (64 : Int))).toNat * (1 : Nat) + (0 : Nat)) (0 : Int)) ||| BitVec.ofInt (64 : Nat) (IntKind.u64.wrap ((1 : Int) * (2 : Int) ^ min (x.fst.tmod (64 : Int)).toNat (64 : Nat)))).toNat : Int))).getD (nat_lit 1) (0 : Int), ([x.snd.snd.getD (0 : Nat) (0 : Int), x.snd.snd.getD (1 : Nat) (0 : Int), x.snd.snd.getD (2 : Nat) (0 : Int), x.snd.snd.getD (3 : Nat) (0 : Int)].set ((IntKind.i64.wrap (x.fst.tdiv (64 : Int))).toNat * (1 : Nat) + (0 : Nat)) (IntKind.u64.wrap (↑(BitVec.ofInt (64 : Nat) ([x.snd.snd.getD (0 : Nat) (0 : Int), x.snd.snd.getD (1 : Nat) (0 : Int), x.snd.snd.getD (2 : Nat) (0 : Int), x.snd.snd.getD (3 : Nat) (0 : Int)].getD ((IntKind.i64.wrap (x.fst.tdiv (64 : Int))).toNat * (1 : Nat) + (0 : Nat)) (0 : Int)) ||| BitVec.ofInt (64 : Nat) (IntKind.u64.wrap ((1 : Int) * (2 : Int) ^ min (x.fst.tmod (64 : Int)).toNat (64 : Nat)))).toNat : Int))).getD (nat_lit 2) (0 : Int), ([x.snd.snd.getD (0 : Nat) (0 : Int), x.snd.snd.getD (1 : Nat) (0 : Int), x.snd.snd.getD (2 : Nat) (0 : Int), x.snd.snd.getD (3 : Nat) (0 : Int)].set ((IntKind.i64.wrap (x.fst.tdiv (64 : Int))).toNat * (1 : Nat) + (0 : Nat)) (IntKind.u64.wrap (↑(BitVec.ofInt (64 : Nat) ([x.snd.snd.getD (0 : Nat) (0 : Int), x.snd.snd.getD (1 : Nat) (0 : Int), x.snd.snd.getD (2 : Nat) (0 : Int), x.snd.snd.getD (3 : Nat) (0 : Int)].getD ((IntKind.i64.wrap (x.fst.tdiv (64 : Int))).toNat * (1 : Nat) + (0 : Nat)) (0 : Int)) ||| BitVec.ofInt (64 : Nat) (IntKind.u64.wrap ((1 : Int) * (2 : Int) ^ min (x.fst.tmod (64 : Int)).toNat (64 : Nat)))).toNat : Int))).getD (nat_lit 3) (0 : Int)].getD (0 : Nat) (0 : Int) ∧ ([x.snd.snd.getD (0 : Nat) (0 : Int), x.snd.snd.getD (1 : Nat) (0 : Int), x.snd.snd.getD (2 : Nat) (0 : Int), x.snd.snd.getD (3 : Nat) (0 : Int)].set ((IntKind.i64.wrap (x.fst.tdiv (64 : Int))).toNat * (1 : Nat) + (0 : Nat)) (IntKind.u64.wrap (↑(BitVec.ofInt (64 : Nat) ([x.snd.snd.getD (0 : Nat) (0 : Int), x.snd.snd.getD (1 : Nat) (0 : Int), x.snd.snd.getD (2 : Nat) (0 : Int), x.snd.snd.getD (3 : Nat) (0 : Int)].getD ((IntKind.i64.wrap (x.fst.tdiv (64 : Int))).toNat * (1 : Nat) + (0 : Nat)) (0 : Int)) ||| BitVec.ofInt (64 : Nat) (IntKind.u64.wrap ((1 : Int) * (2 : Int) ^ min (x.fst.tmod (64 : Int)).toNat (64 : Nat)))).toNat : Int))).getD (nat_lit 1) (0 : Int) = [([x.snd.snd.getD (0 : Nat) (0 : Int), x.snd.snd.getD (1 : Nat) (0 : Int), x.snd.snd.getD (2 : Nat) (0 : Int), x.snd.snd.getD (3 : Nat) (0 : Int)].set ((IntKind.i64.wrap (x.fst.tdiv (64 : Int))).toNat * (1 : Nat) + (0 : Nat)) (IntKind.u64.wrap (↑(BitVec.ofInt (64 : Nat) ([x.snd.snd.getD (0 : Nat) (0 : Int), x.snd.snd.getD (1 : Nat) (0 : Int), x.snd.snd.getD (2 : Nat) (0 : Int), x.snd.snd.getD (3 : Nat) (0 : Int)].getD ((IntKind.i64.wrap (x.fst.tdiv (64 : Int))).toNat * (1 : Nat) + (0 : Nat)) (0 : Int)) ||| BitVec.ofInt (64 : Nat) (IntKind.u64.wrap ((1 : Int) * (2 : Int) ^ min (x.fst.tmod (64 : Int)).toNat (64 : Nat)))).toNat : Int))).getD (nat_lit 0) (0 : Int), ([x.snd.snd.getD (0 : Nat) (0 : Int), x.snd.snd.getD (1 : Nat) (0 : Int), x.snd.snd.getD (2 : Nat) (0 : Int), x.snd.snd.getD (3 : Nat) (0 : Int)].set ((IntKind.i64.wrap (x.fst.tdiv (64 : Int))).toNat * (1 : Nat) + (0 : Nat)) (IntKind.u64.wrap (↑(BitVec.ofInt (64 : Nat) ([x.snd.snd.getD (0 : Nat) (0 : Int), x.snd.snd.getD (1 : Nat) (0 : Int), x.snd.snd.getD (2 : Nat) (0 : Int), x.snd.snd.getD (3 : Nat) (0 : Int)].getD ((IntKind.i64.wrap (x.fst.tdiv (64 : Int))).toNat * (1 : Nat) + (0 : Nat)) (0 : Int)) ||| BitVec.ofInt (64 : Nat) (IntKind.u64.wrap ((1 : Int) * (2 : Int) ^ min (x.fst.tmod (64 : Int)).toNat (64 : Nat)))).toNat : Int))).getD (nat_lit 1) (0 : Int), ([x.snd.snd.getD (0 : Nat) (0 : Int), x.snd.snd.getD (1 : Nat) (0 : Int), x.snd.snd.getD (2 : Nat) (0 : Int), x.snd.snd.getD (3 : Nat) (0 : Int)].set ((IntKind.i64.wrap (x.fst.tdiv (64 : Int))).toNat * (1 : Nat) + (0 : Nat)) (IntKind.u64.wrap (↑(BitVec.ofInt (64 : Nat) ([x.snd.snd.getD (0 : Nat) (0 : Int), x.snd.snd.getD (1 : Nat) (0 : Int), x.snd.snd.getD (2 : Nat) (0 : Int), x.snd.snd.getD (3 : Nat) (0 : Int)].getD ((IntKind.i64.wrap (x.fst.tdiv (64 : Int))).toNat * (1 : Nat) + (0 : Nat)) (0 : Int)) ||| BitVec.ofInt (64 : Nat) (IntKind.u64.wrap ((1 : Int) * (2 : Int) ^ min (x.fst.tmod (64 : Int)).toNat (64 : Nat)))).toNat : Int))).getD (nat_lit 2) (0 : Int), ([x.snd.snd.getD (0 : Nat) (0 : Int), x.snd.snd.getD (1 : Nat) (0 : Int), x.snd.snd.getD (2 : Nat) (0 : Int), x.snd.snd.getD (3 : Nat) (0 : Int)].set ((IntKind.i64.wrap (x.fst.tdiv (64 : Int))).toNat * (1 : Nat) + (0 : Nat)) (IntKind.u64.wrap (↑(BitVec.ofInt (64 : Nat) ([x.snd.snd.getD (0 : Nat) (0 : Int), x.snd.snd.getD (1 : Nat) (0 : Int), x.snd.snd.getD (2 : Nat) (0 : Int), x.snd.snd.getD (3 : Nat) (0 : Int)].getD ((IntKind.i64.wrap (x.fst.tdiv (64 : Int))).toNat * (1 : Nat) + (0 : Nat)) (0 : Int)) ||| BitVec.ofInt (64 : Nat) (IntKind.u64.wrap ((1 : Int) * (2 : Int) ^ min (x.fst.tmod (64 : Int)).toNat (64 : Nat)))).toNat : Int))).getD (nat_lit 3) (0 : Int)].getD (1 : Nat) (0 : Int) ∧ ([x.snd.snd.getD (0 : Nat) (0 : Int), x.snd.snd.getD (1 : Nat) (0 : Int), x.snd.snd.getD (2 : Nat) (0 : Int), x.snd.snd.getD (3 : Nat) (0 : Int)].set ((IntKind.i64.wrap (x.fst.tdiv (64 : Int))).toNat * (1 : Nat) + (0 : Nat)) (IntKind.u64.wrap (↑(BitVec.ofInt (64 : Nat) ([x.snd.snd.getD (0 : Nat) (0 : Int), x.snd.snd.getD (1 : Nat) (0 : Int), x.snd.snd.getD (2 : Nat) (0 : Int), x.snd.snd.getD (3 : Nat) (0 : Int)].getD ((IntKind.i64.wrap (x.fst.tdiv (64 : Int))).toNat * (1 : Nat) + (0 : Nat)) (0 : Int)) ||| BitVec.ofInt (64 : Nat) (IntKind.u64.wrap ((1 : Int) * (2 : Int) ^ min (x.fst.tmod (64 : Int)).toNat (64 : Nat)))).toNat : Int))).getD (nat_lit 2) (0 : Int) = [([x.snd.snd.getD (0 : Nat) (0 : Int), x.snd.snd.getD (1 : Nat) (0 : Int), x.snd.snd.getD (2 : Nat) (0 : Int), x.snd.snd.getD (3 : Nat) (0 : Int)].set ((IntKind.i64.wrap (x.fst.tdiv (64 : Int))).toNat * (1 : Nat) + (0 : Nat)) (IntKind.u64.wrap (↑(BitVec.ofInt (64 : Nat) ([x.snd.snd.getD (0 : Nat) (0 : Int), x.snd.snd.getD (1 : Nat) (0 : Int), x.snd.snd.getD (2 : Nat) (0 : Int), x.snd.snd.getD (3 : Nat) (0 : Int)].getD ((IntKind.i64.wrap (x.fst.tdiv (64 : Int))).toNat * (1 : Nat) + (0 : Nat)) (0 : Int)) ||| BitVec.ofInt (64 : Nat) (IntKind.u64.wrap ((1 : Int) * (2 : Int) ^ min (x.fst.tmod (64 : Int)).toNat (64 : Nat)))).toNat : Int))).getD (nat_lit 0) (0 : Int), ([x.snd.snd.getD (0 : Nat) (0 : Int), x.snd.snd.getD (1 : Nat) (0 : Int), x.snd.snd.getD (2 : Nat) (0 : Int), x.snd.snd.getD (3 : Nat) (0 : Int)].set ((IntKind.i64.wrap (x.fst.tdiv (64 : Int))).toNat * (1 : Nat) + (0 : Nat)) (IntKind.u64.wrap (↑(BitVec.ofInt (64 : Nat) ([x.snd.snd.getD (0 : Nat) (0 : Int), x.snd.snd.getD (1 : Nat) (0 : Int), x.snd.snd.getD (2 : Nat) (0 : Int), x.snd.snd.getD (3 : Nat) (0 : Int)].getD ((IntKind.i64.wrap (x.fst.tdiv (64 : Int))).toNat * (1 : Nat) + (0 : Nat)) (0 : Int)) ||| BitVec.ofInt (64 : Nat) (IntKind.u64.wrap ((1 : Int) * (2 : Int) ^ min (x.fst.tmod (64 : Int)).toNat (64 : Nat)))).toNat : Int))).getD (nat_lit 1) (0 : Int), ([x.snd.snd.getD (0 : Nat) (0 : Int), x.snd.snd.getD (1 : Nat) (0 : Int), x.snd.snd.getD (2 : Nat) (0 : Int), x.snd.snd.getD (3 : Nat) (0 : Int)].set ((IntKind.i64.wrap (x.fst.tdiv (64 : Int))).toNat * (1 : Nat) + (0 : Nat)) (IntKind.u64.wrap (↑(BitVec.ofInt (64 : Nat) ([x.snd.snd.getD (0 : Nat) (0 : Int), x.snd.snd.getD (1 : Nat) (0 : Int), x.snd.snd.getD (2 : Nat) (0 : Int), x.snd.snd.getD (3 : Nat) (0 : Int)].getD ((IntKind.i64.wrap (x.fst.tdiv (64 : Int))).toNat * (1 : Nat) + (0 : Nat)) (0 : Int)) ||| BitVec.ofInt (64 : Nat) (IntKind.u64.wrap ((1 : Int) * (2 : Int) ^ min (x.fst.tmod (64 : Int)).toNat (64 : Nat)))).toNat : Int))).getD (nat_lit 2) (0 : Int), ([x.snd.snd.getD (0 : Nat) (0 : Int), x.snd.snd.getD (1 : Nat) (0 : Int), x.snd.snd.getD (2 : Nat) (0 : Int), x.snd.snd.getD (3 : Nat) (0 : Int)].set ((IntKind.i64.wrap (x.fst.tdiv (64 : Int))).toNat * (1 : Nat) + (0 : Nat)) (IntKind.u64.wrap (↑(BitVec.ofInt (64 : Nat) ([x.snd.snd.getD (0 : Nat) (0 : Int), x.snd.snd.getD (1 : Nat) (0 : Int), x.snd.snd.getD (2 : Nat) (0 : Int), x.snd.snd.getD (3 : Nat) (0 : Int)].getD ((IntKind.i64.wrap (x.fst.tdiv (64 : Int))).toNat * (1 : Nat) + (0 : Nat)) (0 : Int)) ||| BitVec.ofInt (64 : Nat) (IntKind.u64.wrap ((1 : Int) * (2 : Int) ^ min (x.fst.tmod (64 : Int)).toNat (64 : Nat)))).toNat : Int))).getD (nat_lit 3) (0 : Int)].getD (2 : Nat) (0 : Int) ∧ ([x.snd.snd.getD (0 : Nat) (0 : Int), x.snd.snd.getD (1 : Nat) (0 : Int), x.snd.snd.getD (2 : Nat) (0 : Int), x.snd.snd.getD (3 : Nat) (0 : Int)].set ((IntKind.i64.wrap (x.fst.tdiv (64 : Int))).toNat * (1 : Nat) + (0 : Nat)) (IntKind.u64.wrap (↑(BitVec.ofInt (64 : Nat) ([x.snd.snd.getD (0 : Nat) (0 : Int), x.snd.snd.getD (1 : Nat) (0 : Int), x.snd.snd.getD (2 : Nat) (0 : Int), x.snd.snd.getD (3 : Nat) (0 : Int)].getD ((IntKind.i64.wrap (x.fst.tdiv (64 : Int))).toNat * (1 : Nat) + (0 : Nat)) (0 : Int)) ||| BitVec.ofInt (64 : Nat) (IntKind.u64.wrap ((1 : Int) * (2 : Int) ^ min (x.fst.tmod (64 : Int)).toNat (64 : Nat)))).toNat : Int))).getD (nat_lit 3) (0 : Int) = [([x.snd.snd.getD (0 : Nat) (0 : Int), x.snd.snd.getD (1 : Nat) (0 : Int), x.snd.snd.getD (2 : Nat) (0 : Int), x.snd.snd.getD (3 : Nat) (0 : Int)].set ((IntKind.i64.wrap (x.fst.tdiv (64 : Int))).toNat * (1 : Nat) + (0 : Nat)) (IntKind.u64.wrap (↑(BitVec.ofInt (64 : Nat) ([x.snd.snd.getD (0 : Nat) (0 : Int), x.snd.snd.getD (1 : Nat) (0 : Int), x.snd.snd.getD (2 : Nat) (0 : Int), x.snd.snd.getD (3 : Nat) (0 : Int)].getD ((IntKind.i64.wrap (x.fst.tdiv (64 : Int))).toNat * (1 : Nat) + (0 : Nat)) (0 : Int)) ||| BitVec.ofInt (64 : Nat) (IntKind.u64.wrap ((1 : Int) * (2 : Int) ^ min (x.fst.tmod (64 : Int)).toNat (64 : Nat)))).toNat : Int))).getD (nat_lit 0) (0 : Int), ([x.snd.snd.getD (0 : Nat) (0 : Int), x.snd.snd.getD (1 : Nat) (0 : Int), x.snd.snd.getD (2 : Nat) (0 : Int), x.snd.snd.getD (3 : Nat) (0 : Int)].set ((IntKind.i64.wrap (x.fst.tdiv (64 : Int))).toNat * (1 : Nat) + (0 : Nat)) (IntKind.u64.wrap (↑(BitVec.ofInt (64 : Nat) ([x.snd.snd.getD (0 : Nat) (0 : Int), x.snd.snd.getD (1 : Nat) (0 : Int), x.snd.snd.getD (2 : Nat) (0 : Int), x.snd.snd.getD (3 : Nat) (0 : Int)].getD ((IntKind.i64.wrap (x.fst.tdiv (64 : Int))).toNat * (1 : Nat) + (0 : Nat)) (0 : Int)) ||| BitVec.ofInt (64 : Nat) (IntKind.u64.wrap ((1 : Int) * (2 : Int) ^ min (x.fst.tmod (64 : Int)).toNat (64 : Nat)))).toNat : Int))).getD (nat_lit 1) (0 : Int), ([x.snd.snd.getD (0 : Nat) (0 : Int), x.snd.snd.getD (1 : Nat) (0 : Int), x.snd.snd.getD (2 : Nat) (0 : Int), x.snd.snd.getD (3 : Nat) (0 : Int)].set ((IntKind.i64.wrap (x.fst.tdiv (64 : Int))).toNat * (1 : Nat) + (0 : Nat)) (IntKind.u64.wrap (↑(BitVec.ofInt (64 : Nat) ([x.snd.snd.getD (0 : Nat) (0 : Int), x.snd.snd.getD (1 : Nat) (0 : Int), x.snd.snd.getD (2 : Nat) (0 : Int), x.snd.snd.getD (3 : Nat) (0 : Int)].getD ((IntKind.i64.wrap (x.fst.tdiv (64 : Int))).toNat * (1 : Nat) + (0 : Nat)) (0 : Int)) ||| BitVec.ofInt (64 : Nat) (IntKind.u64.wrap ((1 : Int) * (2 : Int) ^ min (x.fst.tmod (64 : Int)).toNat (64 : Nat)))).toNat : Int))).getD (nat_lit 2) (0 : Int), ([x.snd.snd.getD (0 : Nat) (0 : Int), x.snd.snd.getD (1 : Nat) (0 : Int), x.snd.snd.getD (2 : Nat) (0 : Int), x.snd.snd.getD (3 : Nat) (0 : Int)].set ((IntKind.i64.wrap (x.fst.tdiv (64 : Int))).toNat * (1 : Nat) + (0 : Nat)) (IntKind.u64.wrap (↑(BitVec.ofInt (64 : Nat) ([x.snd.snd.getD (0 : Nat) (0 : Int), x.snd.snd.getD (1 : Nat) (0 : Int), x.snd.snd.getD (2 : Nat) (0 : Int), x.snd.snd.getD (3 : Nat) (0 : Int)].getD ((IntKind.i64.wrap (x.fst.tdiv (64 : Int))).toNat * (1 : Nat) + (0 : Nat)) (0 : Int)) ||| BitVec.ofInt (64 : Nat) (IntKind.u64.wrap ((1 : Int) * (2 : Int) ^ min (x.fst.tmod (64 : Int)).toNat (64 : Nat)))).toNat : Int))).getD (nat_lit 3) (0 : Int)].getD (3 : Nat) (0 : Int) ∧ True) ∧ True) (Tr.need (DivInv (num4 a) (num b) (IntKind.i64.wrap (x.fst - (1 : Int)), mkx (mod2 (num { h := IntKind.u64.wrap (↑(BitVec.ofInt (64 : Nat) (IntKind.u64.wrap (x.snd.fst.h * (2 : Int) ^ (1 : Nat))) ||| BitVec.ofInt (64 : Nat) (x.snd.fst.l.fdiv ((2 : Int) ^ (63 : Nat)))).toNat : Int), l := IntKind.u64.wrap (↑(BitVec.ofInt (64 : Nat) (IntKind.u64.wrap (x.snd.fst.l * (2 : Int) ^ (1 : Nat))) ||| BitVec.ofInt (64 : Nat) (bitS (revW (revW a)) x.fst)).toNat : Int) } - num b)), [([x.snd.snd.getD (0 : Nat) (0 : Int), x.snd.snd.getD (1 : Nat) (0 : Int), x.snd.snd.getD (2 : Nat) (0 : Int), x.snd.snd.getD (3 : Nat) (0 : Int)].set ((IntKind.i64.wrap (x.fst.tdiv (64 : Int))).toNat * (1 : Nat) + (0 : Nat)) (IntKind.u64.wrap (↑(BitVec.ofInt (64 : Nat) ([x.snd.snd.getD (0 : Nat) (0 : Int), x.snd.snd.getD (1 : Nat) (0 : Int), x.snd.snd.getD (2 : Nat) (0 : Int), x.snd.snd.getD (3 : Nat) (0 : Int)].getD ((IntKind.i64.wrap (x.fst.tdiv (64 : Int))).toNat * (1 : Nat) + (0 : Nat)) (0 : Int)) ||| BitVec.ofInt (64 : Nat) (IntKind.u64.wrap ((1 : Int) * (2 : Int) ^ min (x.fst.tmod (64 : Int)).toNat (64 : Nat)))).toNat : Int))).getD (nat_lit 0) (0 : Int), ([x.snd.snd.getD (0 : Nat) (0 : Int), x.snd.snd.getD (1 : Nat) (0 : Int), x.snd.snd.getD (2 : Nat) (0 : Int), x.snd.snd.getD (3 : Nat) (0 : Int)].set ((IntKind.i64.wrap (x.fst.tdiv (64 : Int))).toNat * (1 : Nat) + (0 : Nat)) (IntKind.u64.wrap (↑(BitVec.ofInt (64 : Nat) ([x.snd.snd.getD (0 : Nat) (0 : Int), x.snd.snd.getD (1 : Nat) (0 : Int), x.snd.snd.getD (2 : Nat) (0 : Int), x.snd.snd.getD (3 : Nat) (0 : Int)].getD ((IntKind.i64.wrap (x.fst.tdiv (64 : Int))).toNat * (1 : Nat) + (0 : Nat)) (0 : Int)) ||| BitVec.ofInt (64 : Nat) (IntKind.u64.wrap ((1 : Int) * (2 : Int) ^ min (x.fst.tmod (64 : Int)).toNat (64 : Nat)))).toNat : Int))).getD (nat_lit 1) (0 : Int), ([x.snd.snd.getD (0 : Nat) (0 : Int), x.snd.snd.getD (1 : Nat) (0 : Int), x.snd.snd.getD (2 : Nat) (0 : Int), x.snd.snd.getD (3 : Nat) (0 : Int)].set ((IntKind.i64.wrap (x.fst.tdiv (64 : Int))).toNat * (1 : Nat) + (0 : Nat)) (IntKind.u64.wrap (↑(BitVec.ofInt (64 : Nat) ([x.snd.snd.getD (0 : Nat) (0 : Int), x.snd.snd.getD (1 : Nat) (0 : Int), x.snd.snd.getD (2 : Nat) (0 : Int), x.snd.snd.getD (3 : Nat) (0 : Int)].getD ((IntKind.i64.wrap (x.fst.tdiv (64 : Int))).toNat * (1 : Nat) + (0 : Nat)) (0 : Int)) ||| BitVec.ofInt (64 : Nat) (IntKind.u64.wrap ((1 : Int) * (2 : Int) ^ min (x.fst.tmod (64 : Int)).toNat (64 : Nat)))).toNat : Int))).getD (nat_lit 2) (0 : Int), ([x.snd.snd.getD (0 : Nat) (0 : Int), x.snd.snd.getD (1 : Nat) (0 : Int), x.snd.snd.getD (2 : Nat) (0 : Int), x.snd.snd.getD (3 : Nat) (0 : Int)].set ((IntKind.i64.wrap (x.fst.tdiv (64 : Int))).toNat * (1 : Nat) + (0 : Nat)) (IntKind.u64.wrap (↑(BitVec.ofInt (64 : Nat) ([x.snd.snd.getD (0 : Nat) (0 : Int), x.snd.snd.getD (1 : Nat) (0 : Int), x.snd.snd.getD (2 : Nat) (0 : Int), x.snd.snd.getD (3 : Nat) (0 : Int)].getD ((IntKind.i64.wrap (x.fst.tdiv (64 : Int))).toNat * (1 : Nat) + (0 : Nat)) (0 : Int)) ||| BitVec.ofInt (64 : Nat) (IntKind.u64.wrap ((1 : Int) * (2 : Int) ^ min (x.fst.tmod (64 : Int)).toNat (64 : Nat)))).toNat : Int))).getD (nat_lit 3) (0 : Int)])) (Tr.need ((IntKind.i64.wrap (x.fst - (1 : Int)) + (1 : Int)).toNat < (x.fst + (1 : Int)).toNat) Tr.done))))))))))) (Tr.need (IntKind.i64.wrap (x.fst - (1 : Int)) = IntKind.i64.wrap (x.fst - (1 : Int)) ∧ True) (Tr.need ((IntKind.u64.wrap (↑(BitVec.ofInt (64 : Nat) (IntKind.u64.wrap (x.snd.fst.h * (2 : Int) ^ (1 : Nat))) ||| BitVec.ofInt (64 : Nat) (x.snd.fst.l.fdiv ((2 : Int) ^ (63 : Nat)))).toNat : Int) = IntKind.u64.wrap (↑(BitVec.ofInt (64 : Nat) (IntKind.u64.wrap (x.snd.fst.h * (2 : Int) ^ (1 : Nat))) ||| BitVec.ofInt (64 : Nat) (x.snd.fst.l.fdiv ((2 : Int) ^ (63 : Nat)))).toNat : Int) ∧ IntKind.u64.wrap (↑(BitVec.ofInt (64 : Nat) (IntKind.u64.wrap (x.snd.fst.l * (2 : Int) ^ (1 : Nat))) ||| BitVec.ofInt (64 : Nat) (bitS (revW (revW a)) x.fst)).toNat : Int) = IntKind.u64.wrap (↑(BitVec.ofInt (64 : Nat) (IntKind.u64.wrap (x.snd.fst.l * (2 : Int) ^ (1 : Nat))) ||| BitVec.ofInt (64 : Nat) (bitS (revW (revW a)) x.fst)).toNat : Int) ∧ True) ∧ (x.snd.snd.getD (0 : Nat) (0 : Int) = [x.snd.snd.getD (0 : Nat) (0 : Int), x.snd.snd.getD (1 : Nat) (0 : Int), x.snd.snd.getD (2 : Nat) (0 : Int), x.snd.snd.getD (3 : Nat) (0 : Int)].getD (0 : Nat) (0 : Int) ∧ x.snd.snd.getD (1 : Nat) (0 : Int) = [x.snd.snd.getD (0 : Nat) (0 : Int), x.snd.snd.getD (1 : Nat) (0 : Int), x.snd.snd.getD (2 : Nat) (0 : Int), x.snd.snd.getD (3 : Nat) (0 : Int)].getD (1 : Nat) (0 : Int) ∧ x.snd.snd.getD (2 : Nat) (0 : Int) = [x.snd.snd.getD (0 : Nat) (0 : Int), x.snd.snd.getD (1 : Nat) (0 : Int), x.snd.snd.getD (2 : Nat) (0 : Int), x.snd.snd.getD (3 : Nat) (0 : Int)].getD (2 : Nat) (0 : Int) ∧ x.snd.snd.getD (3 : Nat) (0 : Int) = [x.snd.snd.getD (0 : Nat) (0 : Int), x.snd.snd.getD (1 : Nat) (0 : Int), x.snd.snd.getD (2 : Nat) (0 : Int), x.snd.snd.getD (3 : Nat) (0 : Int)].getD (3 : Nat) (0 : Int) ∧ True) ∧ True) (Tr.need (DivInv (num4 a) (num b) (IntKind.i64.wrap (x.fst - (1 : Int)), { h := IntKind.u64.wrap (↑(BitVec.ofInt (64 : Nat) (IntKind.u64.wrap (x.snd.fst.h * (2 : Int) ^ (1 : Nat))) ||| BitVec.ofInt (64 : Nat) (x.snd.fst.l.fdiv ((2 : Int) ^ (63 : Nat)))).toNat : Int), l := IntKind.u64.wrap (↑(BitVec.ofInt (64 : Nat) (IntKind.u64.wrap (x.snd.fst.l * (2 : Int) ^ (1 : Nat))) ||| BitVec.ofInt (64 : Nat) (bitS (revW (revW a)) x.fst)).toNat : Int) }, [x.snd.snd.getD (0 : Nat) (0 : Int), x.snd.snd.getD (1 : Nat) (0 : Int), x.snd.snd.getD (2 : Nat) (0 : Int), x.snd.snd.getD (3 : Nat) (0 : Int)])) (Tr.need ((IntKind.i64.wrap (x.fst - (1 : Int)) + (1 : Int)).toNat < (x.fst + (1 : Int)).toNat) Tr.done)))))))))))) (Tr.chk (decide True) (Tr.ret (PV.tup [Cod.enc cFo (revW { X := { h := x.snd.snd.getD (0 : Nat) (0 : Int), l := x.snd.snd.getD (1 : Nat) (0 : Int) }, Y := { h := x.snd.snd.getD (2 : Nat) (0 : Int), l := x.snd.snd.getD (3 : Nat) (0 : Int) } }), Cod.enc cTw x.snd.fst, PV.raw (Value.bool true)]))))))))) := by kernel_rfl
    rw [e]; clear e
    simp only [Tr.holds, decide_eq_true_eq, decide_eq_false_iff_not, true_and, and_true, or_is, and_self]
    have hn := num4_bd a h.1
    have hb := num_T b h.2
    obtain ⟨ha, hbT⟩ := h
    have hb1 := hbT.1.h
    have hb2 := hbT.2.h
    have zb : (b.h == 0 && (b.l == 0 && true)) = decide (num b = 0) := by
      unfold num val2
      rw [Bool.and_true, Bool.eq_iff_iff, Bool.and_eq_true, beq_iff_eq, beq_iff_eq, decide_eq_true_iff]; omega
    rw [zb]
    simp only [decide_eq_true_eq, decide_eq_false_iff_not]
    refine ⟨fun hz => by unfold divS; rw [if_pos hz]; rfl, fun hz => ⟨ha, ⟨rfl, rfl, rfl, rfl⟩, ?_, ?_⟩⟩
    · obtain ⟨⟨l0, l1⟩, l2⟩ := len4_lt a ha
      generalize len4 a.X.h a.X.l a.Y.h a.Y.l = len at *
      rw [wrap_i64_id (len - 1) (by omega)]
      have e0 : num4 a / 2 ^ (len - 1 + 1).toNat = 0 := by
        rw [show len - 1 + 1 = len from by omega]
        exact Int.ediv_eq_zero_of_lt hn.1 l2
      refine ⟨⟨by simp only; omega, by simp only; omega⟩, ⟨(inferInstance : U 0), (inferInstance : U 0)⟩, ?_, ?_⟩
      · simp only [e0, Int.zero_emod]; rfl
      · simp only [e0, Int.zero_ediv, Int.zero_mul]; rfl
    rintro ⟨i, R, l⟩ hx
    have hx' := hx
    obtain ⟨⟨b1, b2⟩, hR, hm, hl⟩ := hx'
    simp only at b1 b2 hR hm hl ⊢
    have hd : 0 < num b := by omega
    have hlen : l.length = 4 := by rw [hl]; rfl
    have hrev : revW (revW a) = a := rfl
    simp only [four_list hlen, hrev, Nat.mul_one, Nat.add_zero]
    refine ⟨fun h0 => ⟨⟨ha, h0, b2⟩, ?_⟩, fun h0 => ?_⟩
    · have hbit : 0 ≤ bitS a i ∧ bitS a i ≤ 1 := by unfold bitS; omega
      obtain ⟨t1, t2⟩ := dbl_num R (bitS a i) hR hbit
      have h0' : 0 ≤ i := h0
      simp only [tdiv_pos i 64 h0', tmod_pos i 64 h0', wrap_i64_id (i / 64) (by omega), pow_U64 (i % 64) (by omega), wrap_i64_id (i - 1) (by omega)]
      generalize (⟨orU (IntKind.u64.wrap (R.h * 2 ^ 1)) (R.l.fdiv (2 ^ 63)), orU (IntKind.u64.wrap (R.l * 2 ^ 1)) (bitS a i)⟩ : Fx) = R1 at *
      obtain ⟨r1, r2, r3⟩ := div_round a (num b) i R l hn ⟨hd, hb.2⟩ hx h0' R1 t1 t2
      have hl2 : (l.set (i / 64).toNat (orU (l.getD (i / 64).toNat 0) (2 ^ (i % 64).toNat))).length = 4 := by rw [List.length_set, hlen]
      generalize l.set (i / 64).toNat (orU (l.getD (i / 64).toNat 0) (2 ^ (i % 64).toNat)) = L2 at *
      have hidx : (decide (0 ≤ i / 64) && decide (i / 64 < ((4 : Nat) : Int))) = true := by
        rw [Bool.and_eq_true, decide_eq_true_iff, decide_eq_true_iff]; omega
      have hi4 : (i / 64).toNat < 4 := by omega
      have hR0 := num_T R hR
      have hbel : ∀ x, below x = decide (x < 0) := fun _ => rfl
      have hgt : (R.h.fdiv (2 ^ 63) > 0) ↔ 170141183460469231731687303715884105728 ≤ num R := high_bit R hR
      simp only [four_list hl2, hgt, hidx, true_and, and_self, List.length_cons, List.length_nil, Nat.blt_eq, Nat.ble_eq, Nat.zero_add, Nat.reduceAdd, true_implies, Bool.true_eq_false, false_implies, and_true, cond_false, hbel, Bool.not_eq_true', Bool.not_eq_false', decide_eq_true_eq, decide_eq_false_iff_not]
      exact ⟨⟨t1, hbT⟩, fun hh => ⟨hi4, by omega, by omega, r1 (by omega), by omega⟩, fun hh => ⟨fun hge => ⟨hi4, by omega, by omega, r1 (by omega), by omega⟩, fun hlt => ⟨r2 (by omega), by omega⟩⟩⟩
    · have hi : i = -1 := by omega
      subst hi
      have hm : num R = num4 a / 1 % num b := hm
      have hl : l = wordsI (num4 a / 1 / num b * 1) := hl
      rw [Int.ediv_one] at hm hl
      rw [Int.mul_one] at hl
      have hq0 : 0 ≤ num4 a / num b := Int.ediv_nonneg hn.1 (Int.le_of_lt hd)
      have hq1 : num4 a / num b ≤ num4 a := Int.ediv_le_self _ hn.1
      have hf : (⟨⟨l.getD 3 0, l.getD 2 0⟩, ⟨l.getD 1 0, l.getD 0 0⟩⟩ : Vc) = mk4 (num4 a / num b) := by
        rw [hl]
        exact mk4_is rfl rfl rfl (by simp only [wordsI, List.getD_cons_zero, List.getD_cons_succ]; omega)
      show PV.tup [cFo.enc ⟨⟨l.getD 3 0, l.getD 2 0⟩, ⟨l.getD 1 0, l.getD 0 0⟩⟩, cTw.enc R, PV.raw (Value.bool true)] = _
      unfold divS
      rw [hf, if_neg hz, ← hm, mk_num R hR.2]
      rfl
def LP3 : List (Ent Tryd.prog tid TabI) := e1 k_limb_Sqrt Tryd.func125 :: e2 k_limb_Div Tryd.func135 :: LP2
theorem shl_num (m : Int) : (mkx m).h * 340282366920938463463374607431768211456 + num ⟨(mkx m).l, 0⟩ = m * 18446744073709551616 := by
  have := num_mk m
  unfold num val2 at *
  simp only at *
  omega
theorem shl_ok (m : Int) (h : 0 ≤ m ∧ m < 340282366920938463463374607431768211456) : okT ⟨0, (mkx m).h⟩ ∧ okT ⟨(mkx m).l, 0⟩ := by
  have := okT_mk m h
  exact ⟨⟨(inferInstance : U 0), this.1⟩, ⟨this.2, (inferInstance : U 0)⟩⟩
theorem half_up (M d : Int) (hd : 0 < d) : (2 * M + d) / (2 * d) = if d ≤ 2 * (M % d) then M / d + 1 else M / d := by
  have h1 := Int.emod_nonneg M (Int.ne_of_gt hd)
  have h2 := Int.emod_lt_of_pos M hd
  have h3 := Int.emod_add_mul_ediv M d
  generalize M % d = r at *
  generalize M / d = q at *
  have e : 2 * M + d = (2 * r + d) + (2 * d) * q := by rw [← h3, Int.mul_assoc]; omega
  rw [e, Int.add_mul_ediv_left _ _ (by omega)]
  split
  · have e2 : 2 * r + d = (2 * r - d) + (2 * d) * 1 := by omega
    rw [e2, Int.add_mul_ediv_left _ _ (by omega), Int.ediv_eq_zero_of_lt (by omega) (by omega)]; omega
  · rw [Int.ediv_eq_zero_of_lt (by omega) (by omega)]; omega
theorem k_fix_Sqrt : C1 Tryd.prog TabI 85 cFx PV.res okF fun a => gotR (sqrtF (num a)) :=
  .ev (fun _ => []) mixed (mkOrc_ok (l := LP3) (x := []) trivial) Tryd.func85 (by decide) fun a h => by
    refine ⟨?_⟩
    have e : evPure Tryd.prog (mkOrc LP3 []) Tryd.f85 [] [cFx.enc a] =
      Tr.chk (decide (okF a)) (Tr.ite (neg (num a)) (Tr.ret (PV.res ({ h := (0 : Int), l := (0 : Int) }, (1 : Int)))) (Tr.chk (decide True) (Tr.chk (decide (ok4 { X := { h := (0 : Int), l := (0 : Int) }, Y := mkx (mag (num a)) } ∧ (64 : Int) = (64 : Int))) (Tr.chk (decide (ok4 { X := { h := (0 : Int), l := (mkx (mag (num a))).h }, Y := { h := (mkx (mag (num a))).l, l := (0 : Int) } })) (Tr.chk (decide True) (Tr.chk (decide (ok4 { X := { h := (0 : Int), l := (0 : Int) }, Y := mkx (isq (num4 { X := { h := (0 : Int), l := (mkx (mag (num a))).h }, Y := { h := (mkx (mag (num a))).l, l := (0 : Int) } })) })) (Tr.ret (PV.res (gotR (tell (num4 { X := { h := (0 : Int), l := (0 : Int) }, Y := mkx (isq (num4 { X := { h := (0 : Int), l := (mkx (mag (num a))).h }, Y := { h := (mkx (mag (num a))).l, l := (0 : Int) } })) }) false)))))))))) := by kernel_rfl
    rw [e]; clear e
    simp only [Tr.holds, decide_eq_true_eq, num4_st, num_lo, num_mk, Int.zero_mul, Int.zero_add, ok4_st, okT_mk_iff, okT_00, true_and, and_true]
    have m1 := mag_two a h
    have q := isq_bd (mag (num a) * 18446744073709551616)
    have ng : ∀ c, neg (num a) = c ↔ decide (num a < 0) = c := fun c => Iff.rfl
    simp only [shl_num, ng, decide_eq_true_eq, decide_eq_false_iff_not]
    unfold sqrtF
    refine ⟨h, fun hz => by rw [if_pos hz]; rfl, fun hz => ⟨⟨m1.1, by omega⟩, shl_ok _ ⟨m1.1, by omega⟩, q, by rw [if_neg hz]⟩⟩
theorem k_fix_Div : C2 Tryd.prog TabI 101 cFx cFx PV.res (fun a b => okF a ∧ okF b) fun a b => gotR (divF (num a) (num b)) :=
  .ev (fun _ _ => []) mixed (mkOrc_ok (l := LP3) (x := []) trivial) Tryd.func101 (by decide) fun a b h => by
    refine ⟨?_⟩
    have e : evPure Tryd.prog (mkOrc LP3 []) Tryd.f101 [] [cFx.enc a, cFx.enc b] =
      Tr.chk (decide (okF a)) (Tr.chk (decide (okF b)) (Tr.chk (decide True) (Tr.chk (decide (ok4 { X := { h := (0 : Int), l := (0 : Int) }, Y := mkx (mag (num a)) } ∧ (64 : Int) = (64 : Int))) (Tr.chk (decide (ok4 { X := { h := (0 : Int), l := (mkx (mag (num a))).h }, Y := { h := (mkx (mag (num a))).l, l := (0 : Int) } } ∧ okT (mkx (mag (num b))))) (Tr.ite (!(divS { X := { h := (0 : Int), l := (mkx (mag (num a))).h }, Y := { h := (mkx (mag (num a))).l, l := (0 : Int) } } (mkx (mag (num b)))).snd.snd) (Tr.ret (PV.res ({ h := (0 : Int), l := (0 : Int) }, (2 : Int)))) (Tr.chk (decide (okT (mkx (mag (num b))) ∧ okT (divS { X := { h := (0 : Int), l := (mkx (mag (num a))).h }, Y := { h := (mkx (mag (num a))).l, l := (0 : Int) } } (mkx (mag (num b)))).snd.fst)) (Tr.chk (decide True) (Tr.chk (decide True) (Tr.chk (decide (ok4 { X := { h := (0 : Int), l := (0 : Int) }, Y := (divS { X := { h := (0 : Int), l := (mkx (mag (num a))).h }, Y := { h := (mkx (mag (num a))).l, l := (0 : Int) } } (mkx (mag (num b)))).snd.fst } ∧ ok4 { X := { h := (0 : Int), l := (0 : Int) }, Y := mkx (mod2 (num (mkx (mag (num b))) - num (divS { X := { h := (0 : Int), l := (mkx (mag (num a))).h }, Y := { h := (mkx (mag (num a))).l, l := (0 : Int) } } (mkx (mag (num b)))).snd.fst)) })) (Tr.ite (decide (cmpS (num4 { X := { h := (0 : Int), l := (0 : Int) }, Y := (divS { X := { h := (0 : Int), l := (mkx (mag (num a))).h }, Y := { h := (mkx (mag (num a))).l, l := (0 : Int) } } (mkx (mag (num b)))).snd.fst }) (num4 { X := { h := (0 : Int), l := (0 : Int) }, Y := mkx (mod2 (num (mkx (mag (num b))) - num (divS { X := { h := (0 : Int), l := (mkx (mag (num a))).h }, Y := { h := (mkx (mag (num a))).l, l := (0 : Int) } } (mkx (mag (num b)))).snd.fst)) }) ≥ (0 : Int))) (Tr.chk (decide (ok4 (divS { X := { h := (0 : Int), l := (mkx (mag (num a))).h }, Y := { h := (mkx (mag (num a))).l, l := (0 : Int) } } (mkx (mag (num b)))).fst ∧ (0 : Int) = (0 : Int))) (Tr.chk (decide (ok4 (mk4 (mod4 (num4 (divS { X := { h := (0 : Int), l := (mkx (mag (num a))).h }, Y := { h := (mkx (mag (num a))).l, l := (0 : Int) } } (mkx (mag (num b)))).fst + (1 : Int)))))) (Tr.ret (PV.res (gotR (tell (num4 (mk4 (mod4 (num4 (divS { X := { h := (0 : Int), l := (mkx (mag (num a))).h }, Y := { h := (mkx (mag (num a))).l, l := (0 : Int) } } (mkx (mag (num b)))).fst + (1 : Int))))) !neg (num a) == neg (num b))))))) (Tr.chk (decide (ok4 (divS { X := { h := (0 : Int), l := (mkx (mag (num a))).h }, Y := { h := (mkx (mag (num a))).l, l := (0 : Int) } } (mkx (mag (num b)))).fst)) (Tr.ret (PV.res (gotR (tell (num4 (divS { X := { h := (0 : Int), l := (mkx (mag (num a))).h }, Y := { h := (mkx (mag (num a))).l, l := (0 : Int) } } (mkx (mag (num b)))).fst) !neg (num a) == neg (num b)))))))))))))))) := by kernel_rfl
    rw [e]; clear e
    simp only [Tr.holds, decide_eq_true_eq, num4_st, num_lo, num_mk, Int.zero_mul, Int.zero_add, ok4_st, okT_mk_iff, okT_00, true_and, and_true]
    have m1 := mag_two a h.1
    have m2 := mag_two b h.2
    obtain ⟨k1, k2⟩ := shl_ok (mag (num a)) ⟨m1.1, by omega⟩
    have kn := shl_num (mag (num a))
    have hS : num4 ⟨⟨0, (mkx (mag (num a))).h⟩, ⟨(mkx (mag (num a))).l, 0⟩⟩ = mag (num a) * 18446744073709551616 := by rw [num4_st, num_lo]; exact kn
    generalize hV : (⟨⟨0, (mkx (mag (num a))).h⟩, ⟨(mkx (mag (num a))).l, 0⟩⟩ : Vc) = V at *
    have hb0 : mag (num b) = 0 ↔ num b = 0 := by unfold mag; split <;> omega
    have hdv : divS V (mkx (mag (num b))) = if mag (num b) = 0 then (⟨⟨0, 0⟩, ⟨0, 0⟩⟩, ⟨0, 0⟩, false) else (mk4 (mag (num a) * 18446744073709551616 / mag (num b)), mkx (mag (num a) * 18446744073709551616 % mag (num b)), true) := by
      unfold divS; rw [num_mk, hS]
    refine ⟨h.1, h.2, ⟨m1.1, by omega⟩, ⟨⟨k1, k2⟩, m2.1, by omega⟩, ?_⟩
    rw [hdv]
    by_cases hz : num b = 0
    · rw [if_pos (hb0.2 hz)]
      exact ⟨fun _ => by unfold divF; rw [if_pos hz]; rfl, (fun h => by cases h)⟩
    · have hz2 : ¬ mag (num b) = 0 := fun h => hz (hb0.1 h)
      rw [if_neg hz2]
      have hd : 0 < mag (num b) := by omega
      have hM : 0 ≤ mag (num a) * 18446744073709551616 := by omega
      have r1 := Int.emod_nonneg (mag (num a) * 18446744073709551616) hz2
      have r2 := Int.emod_lt_of_pos (mag (num a) * 18446744073709551616) hd
      have q1 : 0 ≤ mag (num a) * 18446744073709551616 / mag (num b) := Int.ediv_nonneg hM (Int.le_of_lt hd)
      have q2 : mag (num a) * 18446744073709551616 / mag (num b) ≤ mag (num a) * 18446744073709551616 := Int.ediv_le_self _ hM
      have hu := half_up (mag (num a) * 18446744073709551616) (mag (num b)) hd
      have hdiv : divF (num a) (num b) = tell ((2 * (mag (num a) * 18446744073709551616) + mag (num b)) / (2 * mag (num b))) (neg (num a) != neg (num b)) := by
        unfold divF; rw [if_neg hz]; congr 2; omega
      rw [hdiv, hu]
      simp only [num_mk, num4_mk, okT_mk_iff, ok4_mk_iff, xor_is]
      generalize mag (num a) * 18446744073709551616 / mag (num b) = q at *
      generalize mag (num a) * 18446744073709551616 % mag (num b) = r at *
      have e1 : mod2 (mag (num b) - r) = mag (num b) - r := by unfold mod2; omega
      have e2 : mod4 (q + 1) = q + 1 := by unfold mod4; omega
      rw [e1, e2]
      have hc : cmpS r (mag (num b) - r) ≥ 0 ↔ mag (num b) ≤ 2 * r := by
        unfold cmpS; split <;> (try split) <;> omega
      simp only [hc, decide_eq_false_iff_not]
      refine ⟨(fun h => by cases h), fun _ => ⟨⟨⟨m2.1, by omega⟩, r1, by omega⟩, ⟨⟨r1, by omega⟩, by omega, by omega⟩, fun hge => ⟨⟨q1, by omega⟩, ⟨by omega, by omega⟩, by rw [if_pos hge]⟩, fun hlt => ⟨⟨q1, by omega⟩, by rw [if_neg hlt]⟩⟩⟩
def LP4 : List (Ent Tryd.prog tid TabI) := e1 k_fix_Sqrt Tryd.func85 :: e2 k_fix_Div Tryd.func101 :: LP3
end Go.Proofs.YtpbklojdmkpkcaaDoor
