/- The reference's wide numbers: one bit, shifts, the sign; as contracts. -/
import Derived.Test.YtpbklojdmkpkcaaDoorRefF
namespace Go.Proofs.YtpbklojdmkpkcaaDoor
open Go Go.RowKit
set_option linter.unusedVariables false
set_option linter.unusedSimpArgs false
set_option maxRecDepth 100000
theorem two_pos (k : Nat) : (0 : Int) < 2 ^ k := Int.pow_pos (by decide)
/-- A bit of one of the words is a bit of the number. -/
theorem word_bit (n : Int) (hn : 0 ≤ n) (k r : Nat) (hr : r < 64) : (n / 2 ^ k % 18446744073709551616) / 2 ^ r % 2 = n / 2 ^ (k + r) % 2 := by
  obtain ⟨m, rfl⟩ : ∃ m : Nat, n = m := ⟨n.toNat, by omega⟩
  have key : (m / 2 ^ k % 18446744073709551616) / 2 ^ r % 2 = m / 2 ^ (k + r) % 2 := by
    have e : 18446744073709551616 = 2 ^ r * 2 ^ (64 - r) := by rw [← Nat.pow_add, show r + (64 - r) = 64 from by omega]
    rw [e, Nat.mod_mul_right_div_self, Nat.div_div_eq_div_mul, ← Nat.pow_add]
    refine Nat.mod_mod_of_dvd _ ?_
    exact ⟨2 ^ (63 - r), by rw [← Nat.pow_succ']; congr 1; omega⟩
  have pw : ∀ j : Nat, (2 : Int) ^ j = ((2 ^ j : Nat) : Int) := fun j => by rw [Int.natCast_pow]; rfl
  have := congrArg (fun x : Nat => (x : Int)) key
  simp only [Int.natCast_emod, Int.natCast_ediv] at this
  rw [pw, pw, pw]
  exact this
theorem num4_bd (a : Vc) (h : ok4 a) : 0 ≤ num4 a ∧ num4 a < 115792089237316195423570985008687907853269984665640564039457584007913129639936 := by
  have h1 := num_T _ h.1
  have h2 := num_T _ h.2
  unfold num4; omega
/-- The words, lowest first. -/
theorem word_of (a : Vc) (h : ok4 a) (k : Nat) (hk : k < 4) (d : Int) : (wordsS a).getD k d = num4 a / 2 ^ (64 * k) % 18446744073709551616 := by
  obtain ⟨⟨⟨a1⟩, ⟨a2⟩⟩, ⟨a3⟩, ⟨a4⟩⟩ := h
  rw [num4_words]
  have c : k = 0 ∨ k = 1 ∨ k = 2 ∨ k = 3 := by omega
  rcases c with rfl | rfl | rfl | rfl <;> simp only [wordsS, List.getD_cons_zero, List.getD_cons_succ, Nat.mul_zero, Nat.mul_one, Nat.reduceMul, Int.reducePow, Int.pow_zero] <;> omega
theorem and1 (x : Int) (h : 0 ≤ x ∧ x < 18446744073709551616) : andU x 1 = x % 2 := by
  unfold andU
  rw [BitVec.toNat_and, bv_toNat x h, bv_toNat 1 (by decide)]
  rw [show (1 : Int).toNat = 2 ^ 1 - 1 from rfl, Nat.and_two_pow_sub_one_eq_mod, IntKind.wrap_u64]
  omega
theorem fdiv_pow (x : Int) (k : Nat) : x.fdiv (2 ^ k) = x / 2 ^ k := Int.fdiv_eq_ediv_of_nonneg x (Int.le_of_lt (two_pos k))
theorem wrap_i64_id (x : Int) (h : -9223372036854775808 ≤ x ∧ x ≤ 9223372036854775807) : IntKind.i64.wrap x = x := by rw [IntKind.wrap_i64]; omega
theorem tdiv_pos (x y : Int) (h : 0 ≤ x) : x.tdiv y = x / y := Int.tdiv_eq_ediv_of_nonneg h
theorem tmod_pos (x y : Int) (h : 0 ≤ x) : x.tmod y = x % y := Int.tmod_eq_emod_of_nonneg h
theorem mk4_is {n a b c d : Int} (hd : d = n % 18446744073709551616) (hc : c = n / 18446744073709551616 % 18446744073709551616) (hb : b = n / 340282366920938463463374607431768211456 % 18446744073709551616) (ha : a = n / 6277101735386680763835789423207666416102355444464034512896) : (⟨⟨a, b⟩, ⟨c, d⟩⟩ : Vc) = mk4 n := by
  subst hd; subst hc; subst hb; subst ha
  unfold mk4 mkx hi lo
  congr 1 <;> congr 1 <;> omega
theorem orU_add (k : Nat) (q y : Int) (hq : 0 ≤ q) (hy : 0 ≤ y ∧ y < 2 ^ k) (h : q * 2 ^ k + y < 18446744073709551616) : orU (q * 2 ^ k) y = q * 2 ^ k + y := by
  unfold orU
  have hp := two_pos k
  have h0 : 0 ≤ q * 2 ^ k := Int.mul_nonneg hq (Int.le_of_lt hp)
  rw [BitVec.toNat_or, bv_toNat _ (by omega), bv_toNat y (by omega)]
  obtain ⟨n, rfl⟩ : ∃ n : Nat, q = n := ⟨q.toNat, by omega⟩
  obtain ⟨m, rfl⟩ : ∃ n : Nat, y = n := ⟨y.toNat, by omega⟩
  have e1 : ((n : Int) * 2 ^ k).toNat = 2 ^ k * n := by
    rw [show ((n : Int) * 2 ^ k) = ((2 ^ k * n : Nat) : Int) from by push_cast; rw [Int.mul_comm]]; rfl
  have hm : m < 2 ^ k := by exact_mod_cast hy.2
  rw [e1, Int.toNat_natCast, ← Nat.two_pow_add_eq_or_of_lt hm, IntKind.wrap_u64]
  have e2 : ((2 ^ k * n + m : Nat) : Int) = (n : Int) * 2 ^ k + m := by push_cast; rw [Int.mul_comm]
  rw [e2]; omega
theorem or_is (x y : Int) : IntKind.u64.wrap ↑(BitVec.ofInt 64 x ||| BitVec.ofInt 64 y).toNat = orU x y := rfl
theorem and_is (x y : Int) : IntKind.u64.wrap ↑(BitVec.ofInt 64 x &&& BitVec.ofInt 64 y).toNat = andU x y := rfl
theorem w0_is (a : Vc) (d : Int) : (wordsS a).getD 0 d = a.Y.l := rfl
theorem w1_is (a : Vc) (d : Int) : (wordsS a).getD 1 d = a.Y.h := rfl
theorem w2_is (a : Vc) (d : Int) : (wordsS a).getD 2 d = a.X.l := rfl
theorem w3_is (a : Vc) (d : Int) : (wordsS a).getD 3 d = a.X.h := rfl
def bitS (a : Vc) (i : Int) : Int := num4 a / 2 ^ i.toNat % 2
theorem k_r1_bit : C2 Tryd.prog TabI 150 cFo (cI .i64) (cI .u64).enc (fun a i => ok4 a ∧ 0 ≤ i ∧ i ≤ 255) bitS :=
  .ev (fun _ _ => []) mixed (mkOrc_ok (l := L2) (x := []) trivial) Tryd.func150 (by decide) fun a i h => by
    refine ⟨?_⟩
    have e : evPure Tryd.prog (mkOrc L2 []) Tryd.f150 [] [cFo.enc a, (cI .i64).enc i] =
      Tr.chk (decide True) (Tr.chk true (Tr.chk (decide ((0 : Int) ≤ IntKind.i64.wrap (i.tdiv (64 : Int))) && decide (IntKind.i64.wrap (i.tdiv (64 : Int)) < ↑(wordsS a).length)) (Tr.chk ((IntKind.i64.wrap (i.tdiv (64 : Int))).toNat.blt (wordsS a).length) (Tr.chk true (Tr.chk (decide ((0 : Int) ≤ i.tmod (64 : Int))) (Tr.ret (PV.raw (Value.int IntKind.u64 (IntKind.u64.wrap ↑(BitVec.ofInt (64 : Nat) (Int.fdiv ((wordsS a).getD (IntKind.i64.wrap (i.tdiv (64 : Int))).toNat ET.u64.dflt) ((2 : Int) ^ min (i.tmod (64 : Int)).toNat (64 : Nat))) &&& BitVec.ofInt (64 : Nat) (1 : Int)).toNat))))))))) := by kernel_rfl
    rw [e]; clear e
    have hlen : (wordsS a).length = 4 := rfl
    obtain ⟨ha, h0, h1⟩ := h
    have hn := num4_bd a ha
    simp only [Tr.holds, hlen, tdiv_pos i 64 h0, tmod_pos i 64 h0, wrap_i64_id (i / 64) (by omega), and_is, fdiv_pow, Bool.and_eq_true, decide_eq_true_eq, Nat.blt_eq]
    refine ⟨trivial, trivial, ⟨by omega, by omega⟩, by omega, trivial, by omega, ?_⟩
    refine congrArg (cI .u64).enc ?_
    rw [word_of a ha _ (by omega) _, show min (i % 64).toNat 64 = (i % 64).toNat from by omega]
    have hw : 0 ≤ num4 a / 2 ^ (64 * (i / 64).toNat) % 18446744073709551616 ∧ num4 a / 2 ^ (64 * (i / 64).toNat) % 18446744073709551616 < 18446744073709551616 := by omega
    have hp := two_pos (i % 64).toNat
    rw [and1 _ ⟨Int.ediv_nonneg hw.1 (Int.le_of_lt hp), Int.lt_of_le_of_lt (Int.ediv_le_self _ hw.1) hw.2⟩, word_bit _ hn.1 _ _ (by omega)]
    unfold bitS
    rw [show 64 * (i / 64).toNat + (i % 64).toNat = i.toNat from by omega]
theorem k_r1_Shl64 (a : Vc) (h : ok4 a) : Good (evPure Tryd.prog (mkOrc L2 []) Tryd.f109 [.un 5] [cFo.enc a, (cI .i64).enc 64]) fun r => r = cFo.enc (mk4 (num4 a * 18446744073709551616 % 115792089237316195423570985008687907853269984665640564039457584007913129639936)) := by
    refine .force ⟨?_⟩
    have e : (evPure Tryd.prog (mkOrc L2 []) Tryd.f109 [.un 5] [cFo.enc a, (cI .i64).enc 64]).force =
      Tr.ret (Cod.enc cFo (fourS [(0 : Int), IntKind.u64.wrap ((wordsS a).getD (0 : Nat) ET.u64.dflt * (2 : Int) ^ (0 : Nat)), IntKind.u64.wrap ((wordsS a).getD (1 : Nat) ET.u64.dflt * (2 : Int) ^ (0 : Nat)), IntKind.u64.wrap ((wordsS a).getD (2 : Nat) ET.u64.dflt * (2 : Int) ^ (0 : Nat))])) := by kernel_rfl
    rw [e]; clear e
    obtain ⟨⟨⟨a1⟩, ⟨a2⟩⟩, ⟨a3⟩, ⟨a4⟩⟩ := h
    refine congrArg cFo.enc ?_
    rw [num4_words]
    simp only [w0_is, w1_is, w2_is, w3_is, fourS, List.getD_cons_zero, List.getD_cons_succ, Int.reducePow, Int.pow_zero, IntKind.wrap_u64]
    exact mk4_is (by omega) (by omega) (by omega) (by omega)
theorem k_r1_Shl65 (a : Vc) (h : ok4 a) : Good (evPure Tryd.prog (mkOrc L2 []) Tryd.f109 [.un 5] [cFo.enc a, (cI .i64).enc 65]) fun r => r = cFo.enc (mk4 (num4 a * 36893488147419103232 % 115792089237316195423570985008687907853269984665640564039457584007913129639936)) := by
    refine .force ⟨?_⟩
    have e : (evPure Tryd.prog (mkOrc L2 []) Tryd.f109 [.un 5] [cFo.enc a, (cI .i64).enc 65]).force =
      Tr.ret (Cod.enc cFo (fourS [(0 : Int), IntKind.u64.wrap ((wordsS a).getD (0 : Nat) ET.u64.dflt * (2 : Int) ^ (1 : Nat)), IntKind.u64.wrap ↑(BitVec.ofInt (64 : Nat) ([(0 : Int), IntKind.u64.wrap ((wordsS a).getD (0 : Nat) ET.u64.dflt * (2 : Int) ^ (1 : Nat)), IntKind.u64.wrap ((wordsS a).getD (1 : Nat) ET.u64.dflt * (2 : Int) ^ (1 : Nat)), (0 : Int)].getD (2 : Nat) ET.u64.dflt) ||| BitVec.ofInt (64 : Nat) (Int.fdiv ((wordsS a).getD (0 : Nat) ET.u64.dflt) ((2 : Int) ^ (63 : Nat)))).toNat, IntKind.u64.wrap ↑(BitVec.ofInt (64 : Nat) ([(0 : Int), IntKind.u64.wrap ((wordsS a).getD (0 : Nat) ET.u64.dflt * (2 : Int) ^ (1 : Nat)), IntKind.u64.wrap ↑(BitVec.ofInt (64 : Nat) ([(0 : Int), IntKind.u64.wrap ((wordsS a).getD (0 : Nat) ET.u64.dflt * (2 : Int) ^ (1 : Nat)), IntKind.u64.wrap ((wordsS a).getD (1 : Nat) ET.u64.dflt * (2 : Int) ^ (1 : Nat)), (0 : Int)].getD (2 : Nat) ET.u64.dflt) ||| BitVec.ofInt (64 : Nat) (Int.fdiv ((wordsS a).getD (0 : Nat) ET.u64.dflt) ((2 : Int) ^ (63 : Nat)))).toNat, IntKind.u64.wrap ((wordsS a).getD (2 : Nat) ET.u64.dflt * (2 : Int) ^ (1 : Nat))].getD (3 : Nat) ET.u64.dflt) ||| BitVec.ofInt (64 : Nat) (Int.fdiv ((wordsS a).getD (1 : Nat) ET.u64.dflt) ((2 : Int) ^ (63 : Nat)))).toNat])) := by kernel_rfl
    rw [e]; clear e
    obtain ⟨⟨⟨a1⟩, ⟨a2⟩⟩, ⟨a3⟩, ⟨a4⟩⟩ := h
    refine congrArg cFo.enc ?_
    rw [num4_words]
    have sh : ∀ x y : Int, 0 ≤ x ∧ x < 18446744073709551616 → 0 ≤ y ∧ y < 18446744073709551616 → orU (IntKind.u64.wrap (x * 2 ^ 1)) (y / 9223372036854775808) = x * 2 % 18446744073709551616 + y / 9223372036854775808 := by
      intro x y hx hy
      have e : IntKind.u64.wrap (x * 2 ^ 1) = (x % 9223372036854775808) * 2 ^ 1 := by rw [IntKind.wrap_u64]; omega
      rw [e, orU_add 1 _ _ (by omega) (by omega) (by omega)]; omega
    have fd : ∀ x : Int, x.fdiv (2 ^ 63) = x / 9223372036854775808 := fun x => fdiv_pow x 63
    simp only [w0_is, w1_is, w2_is, w3_is, fourS, List.getD_cons_zero, List.getD_cons_succ, or_is, fd]
    rw [sh _ _ a2 a3, sh _ _ a3 a4, IntKind.wrap_u64]
    exact mk4_is (by omega) (by omega) (by omega) (by omega)
theorem k_r1_Shr64 (a : Vc) (h : ok4 a) : Good (evPure Tryd.prog (mkOrc L2 []) Tryd.f77 [.un 5] [cFo.enc a, (cI .i64).enc 64]) fun r => r = cFo.enc (mk4 (num4 a / 18446744073709551616)) := by
    refine .force ⟨?_⟩
    have e : (evPure Tryd.prog (mkOrc L2 []) Tryd.f77 [.un 5] [cFo.enc a, (cI .i64).enc 64]).force =
      Tr.ret (Cod.enc cFo (fourS [Int.fdiv ((wordsS a).getD (1 : Nat) ET.u64.dflt) ((2 : Int) ^ (0 : Nat)), Int.fdiv ((wordsS a).getD (2 : Nat) ET.u64.dflt) ((2 : Int) ^ (0 : Nat)), Int.fdiv ((wordsS a).getD (3 : Nat) ET.u64.dflt) ((2 : Int) ^ (0 : Nat)), (0 : Int)])) := by kernel_rfl
    rw [e]; clear e
    obtain ⟨⟨⟨a1⟩, ⟨a2⟩⟩, ⟨a3⟩, ⟨a4⟩⟩ := h
    refine congrArg cFo.enc ?_
    rw [num4_words]
    simp only [w0_is, w1_is, w2_is, w3_is, fourS, List.getD_cons_zero, List.getD_cons_succ, show ∀ x : Int, x.fdiv (2 ^ 0) = x from fun x => by rw [fdiv_pow]; omega]
    exact mk4_is (by omega) (by omega) (by omega) (by omega)
theorem k_r1_Shr1 (a : Vc) (h : ok4 a) : Good (evPure Tryd.prog (mkOrc L2 []) Tryd.f77 [.un 5] [cFo.enc a, (cI .i64).enc 1]) fun r => r = cFo.enc (mk4 (num4 a / 2)) := by
    refine .force ⟨?_⟩
    have e : (evPure Tryd.prog (mkOrc L2 []) Tryd.f77 [.un 5] [cFo.enc a, (cI .i64).enc 1]).force =
      Tr.ret (Cod.enc cFo (fourS [IntKind.u64.wrap ↑(BitVec.ofInt (64 : Nat) ([Int.fdiv ((wordsS a).getD (0 : Nat) ET.u64.dflt) ((2 : Int) ^ (1 : Nat)), (0 : Int), (0 : Int), (0 : Int)].getD (0 : Nat) ET.u64.dflt) ||| BitVec.ofInt (64 : Nat) (IntKind.u64.wrap ((wordsS a).getD (1 : Nat) ET.u64.dflt * (2 : Int) ^ (63 : Nat)))).toNat, IntKind.u64.wrap ↑(BitVec.ofInt (64 : Nat) ([IntKind.u64.wrap ↑(BitVec.ofInt (64 : Nat) ([Int.fdiv ((wordsS a).getD (0 : Nat) ET.u64.dflt) ((2 : Int) ^ (1 : Nat)), (0 : Int), (0 : Int), (0 : Int)].getD (0 : Nat) ET.u64.dflt) ||| BitVec.ofInt (64 : Nat) (IntKind.u64.wrap ((wordsS a).getD (1 : Nat) ET.u64.dflt * (2 : Int) ^ (63 : Nat)))).toNat, Int.fdiv ((wordsS a).getD (1 : Nat) ET.u64.dflt) ((2 : Int) ^ (1 : Nat)), (0 : Int), (0 : Int)].getD (1 : Nat) ET.u64.dflt) ||| BitVec.ofInt (64 : Nat) (IntKind.u64.wrap ((wordsS a).getD (2 : Nat) ET.u64.dflt * (2 : Int) ^ (63 : Nat)))).toNat, IntKind.u64.wrap ↑(BitVec.ofInt (64 : Nat) ([IntKind.u64.wrap ↑(BitVec.ofInt (64 : Nat) ([Int.fdiv ((wordsS a).getD (0 : Nat) ET.u64.dflt) ((2 : Int) ^ (1 : Nat)), (0 : Int), (0 : Int), (0 : Int)].getD (0 : Nat) ET.u64.dflt) ||| BitVec.ofInt (64 : Nat) (IntKind.u64.wrap ((wordsS a).getD (1 : Nat) ET.u64.dflt * (2 : Int) ^ (63 : Nat)))).toNat, IntKind.u64.wrap ↑(BitVec.ofInt (64 : Nat) ([IntKind.u64.wrap ↑(BitVec.ofInt (64 : Nat) ([Int.fdiv ((wordsS a).getD (0 : Nat) ET.u64.dflt) ((2 : Int) ^ (1 : Nat)), (0 : Int), (0 : Int), (0 : Int)].getD (0 : Nat) ET.u64.dflt) ||| BitVec.ofInt (64 : Nat) (IntKind.u64.wrap ((wordsS a).getD (1 : Nat) ET.u64.dflt * (2 : Int) ^ (63 : Nat)))).toNat, Int.fdiv ((wordsS a).getD (1 : Nat) ET.u64.dflt) ((2 : Int) ^ (1 : Nat)), (0 : Int), (0 : Int)].getD (1 : Nat) ET.u64.dflt) ||| BitVec.ofInt (64 : Nat) (IntKind.u64.wrap ((wordsS a).getD (2 : Nat) ET.u64.dflt * (2 : Int) ^ (63 : Nat)))).toNat, Int.fdiv ((wordsS a).getD (2 : Nat) ET.u64.dflt) ((2 : Int) ^ (1 : Nat)), (0 : Int)].getD (2 : Nat) ET.u64.dflt) ||| BitVec.ofInt (64 : Nat) (IntKind.u64.wrap ((wordsS a).getD (3 : Nat) ET.u64.dflt * (2 : Int) ^ (63 : Nat)))).toNat, Int.fdiv ((wordsS a).getD (3 : Nat) ET.u64.dflt) ((2 : Int) ^ (1 : Nat))])) := by kernel_rfl
    rw [e]; clear e
    obtain ⟨⟨⟨a1⟩, ⟨a2⟩⟩, ⟨a3⟩, ⟨a4⟩⟩ := h
    refine congrArg cFo.enc ?_
    rw [num4_words]
    have sh : ∀ x y : Int, 0 ≤ x ∧ x < 18446744073709551616 → 0 ≤ y ∧ y < 18446744073709551616 → orU (x / 2) (IntKind.u64.wrap (y * 2 ^ 63)) = y % 2 * 9223372036854775808 + x / 2 := by
      intro x y hx hy
      have e : IntKind.u64.wrap (y * 2 ^ 63) = (y % 2) * 2 ^ 63 := by rw [IntKind.wrap_u64]; omega
      have cm : ∀ p q : Int, orU p q = orU q p := fun p q => by unfold orU; rw [BitVec.or_comm]
      rw [cm, e, orU_add 63 _ _ (by omega) (by omega) (by omega)]; rfl
    have fd : ∀ x : Int, x.fdiv (2 ^ 1) = x / 2 := fun x => fdiv_pow x 1
    simp only [w0_is, w1_is, w2_is, w3_is, fourS, List.getD_cons_zero, List.getD_cons_succ, or_is, fd]
    rw [sh _ _ a4 a3, sh _ _ a3 a2, sh _ _ a2 a1]
    exact mk4_is (by omega) (by omega) (by omega) (by omega)
theorem k_r1_Shl : C2 Tryd.prog TabI 109 cFo (cI .i64) cFo.enc (fun a n => ok4 a ∧ (n = 64 ∨ n = 65)) fun a n => mk4 (num4 a * (if n = 64 then 18446744073709551616 else 36893488147419103232) % 115792089237316195423570985008687907853269984665640564039457584007913129639936) :=
  .ev (fun _ _ => [.un 5]) mixed (mkOrc_ok (l := L2) (x := []) trivial) Tryd.func109 (by decide) fun a n h => by
    obtain ⟨h, rfl | rfl⟩ := h
    · exact k_r1_Shl64 a h
    · exact k_r1_Shl65 a h
theorem k_r1_Shr : C2 Tryd.prog TabI 77 cFo (cI .i64) cFo.enc (fun a n => ok4 a ∧ (n = 64 ∨ n = 1)) fun a n => mk4 (num4 a / (if n = 64 then 18446744073709551616 else 2)) :=
  .ev (fun _ _ => [.un 5]) mixed (mkOrc_ok (l := L2) (x := []) trivial) Tryd.func77 (by decide) fun a n h => by
    obtain ⟨h, rfl | rfl⟩ := h
    · exact k_r1_Shr64 a h
    · exact k_r1_Shr1 a h
def L3 : List (Ent Tryd.prog tid TabI) := e2 k_r1_CmpFour Tryd.func141 :: e2 k_r1_bit Tryd.func150 :: e2 k_r1_Shl Tryd.func109 :: e2 k_r1_Shr Tryd.func77 :: L2
end Go.Proofs.YtpbklojdmkpkcaaDoor
