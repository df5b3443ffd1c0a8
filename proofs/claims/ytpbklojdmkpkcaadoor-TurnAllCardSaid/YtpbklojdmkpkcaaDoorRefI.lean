/- The reference's wide numbers: quotients; as a contract. -/
import Derived.Test.YtpbklojdmkpkcaaDoorRefH
namespace Go.Proofs.YtpbklojdmkpkcaaDoor
open Go Go.RowKit
set_option linter.unusedVariables false
set_option linter.unusedSimpArgs false
set_option maxRecDepth 100000
def PV.dvd (x : Vc × Fx × Bool) : PV := .agg [.int .u64 x.1.X.h, .int .u64 x.1.X.l, .int .u64 x.1.Y.h, .int .u64 x.1.Y.l, .int .u64 x.2.1.h, .int .u64 x.2.1.l, .raw (.bool x.2.2)]
instance : Bare PV.dvd := ⟨fun _ => rfl⟩
/-- A number's words, lowest first. -/
def wordsI (q : Int) : List Int := [q % 18446744073709551616, q / 18446744073709551616 % 18446744073709551616, q / 340282366920938463463374607431768211456 % 18446744073709551616, q / 6277101735386680763835789423207666416102355444464034512896 % 18446744073709551616]
def DivInv (n d : Int) (x : Int × Fx × List Int) : Prop := (-1 ≤ x.1 ∧ x.1 ≤ 255) ∧ okT x.2.1 ∧ num x.2.1 = n / 2 ^ (x.1 + 1).toNat % d ∧ x.2.2 = wordsI (n / 2 ^ (x.1 + 1).toNat / d * 2 ^ (x.1 + 1).toNat)
theorem words_bit (q i : Int) (h : 0 ≤ i ∧ i ≤ 255) (hq : 0 ≤ q) (hm : q % 2 ^ (i.toNat + 1) = 0) : (wordsI q).set (i / 64).toNat (orU ((wordsI q).getD (i / 64).toNat ET.u64.dflt) (2 ^ (i % 64).toNat)) = wordsI (q + 2 ^ i.toNat) := by
  obtain ⟨r, hr⟩ : ∃ r : Nat, (i % 64).toNat = r ∧ r < 64 := ⟨_, rfl, by omega⟩
  rw [hr.1]
  have hr2 := hr.2
  have hp := two_pos r
  have word : ∀ (k : Nat) (W : Int), W = 2 ^ (64 * k) → i.toNat = 64 * k + r → (q / W % 18446744073709551616) % 2 ^ (r + 1) = 0 := by
    intro k W hW hi
    have e1 := Int.emod_add_mul_ediv q (2 ^ (i.toNat + 1))
    rw [hm, Int.zero_add] at e1
    have e2 : (2 : Int) ^ (i.toNat + 1) = W * 2 ^ (r + 1) := by rw [hW, ← Int.pow_add]; congr 1; omega
    rw [Int.emod_emod_of_dvd _ ⟨2 ^ (63 - r), by rw [← Int.pow_add, show r + 1 + (63 - r) = 64 from by omega]; rfl⟩]
    have hW0 : W ≠ 0 := by rw [hW]; exact Int.ne_of_gt (two_pos _)
    rw [← e1, e2, Int.mul_assoc, Int.mul_ediv_cancel_left _ hW0]
    exact Int.mul_emod_right _ _
  have pw : ∀ k : Nat, i.toNat = 64 * k + r → (2 : Int) ^ i.toNat = 2 ^ (64 * k) * 2 ^ r := fun k hk => by rw [hk, Int.pow_add]
  have c : i / 64 = 0 ∨ i / 64 = 1 ∨ i / 64 = 2 ∨ i / 64 = 3 := by omega
  rcases c with c | c | c | c <;> rw [c]
  · have hi : i.toNat = 64 * 0 + r := by omega
    have w := word 0 1 rfl hi
    rw [Int.ediv_one] at w
    rw [pw 0 hi, show (2 : Int) ^ (64 * 0) = 1 from rfl, Int.one_mul]
    obtain ⟨o1, o2⟩ := or_bit (q % 18446744073709551616) r hr2 ⟨by omega⟩ w
    show [orU (q % 18446744073709551616) (2 ^ r), _, _, _] = _
    rw [o1]
    unfold wordsI
    generalize (2 : Int) ^ r = P at *
    rw [List.cons.injEq, List.cons.injEq, List.cons.injEq, List.cons.injEq]
    exact ⟨by omega, by omega, by omega, by omega, rfl⟩
  · have hi : i.toNat = 64 * 1 + r := by omega
    have w := word 1 18446744073709551616 rfl hi
    rw [pw 1 hi, show (2 : Int) ^ (64 * 1) = 18446744073709551616 from rfl]
    obtain ⟨o1, o2⟩ := or_bit (q / 18446744073709551616 % 18446744073709551616) r hr2 ⟨by omega⟩ w
    show [_, orU (q / 18446744073709551616 % 18446744073709551616) (2 ^ r), _, _] = _
    rw [o1]
    unfold wordsI
    generalize (2 : Int) ^ r = P at *
    rw [List.cons.injEq, List.cons.injEq, List.cons.injEq, List.cons.injEq]
    exact ⟨by omega, by omega, by omega, by omega, rfl⟩
  · have hi : i.toNat = 64 * 2 + r := by omega
    have w := word 2 340282366920938463463374607431768211456 rfl hi
    rw [pw 2 hi, show (2 : Int) ^ (64 * 2) = 340282366920938463463374607431768211456 from rfl]
    obtain ⟨o1, o2⟩ := or_bit (q / 340282366920938463463374607431768211456 % 18446744073709551616) r hr2 ⟨by omega⟩ w
    show [_, _, orU (q / 340282366920938463463374607431768211456 % 18446744073709551616) (2 ^ r), _] = _
    rw [o1]
    unfold wordsI
    generalize (2 : Int) ^ r = P at *
    rw [List.cons.injEq, List.cons.injEq, List.cons.injEq, List.cons.injEq]
    exact ⟨by omega, by omega, by omega, by omega, rfl⟩
  · have hi : i.toNat = 64 * 3 + r := by omega
    have w := word 3 6277101735386680763835789423207666416102355444464034512896 rfl hi
    rw [pw 3 hi, show (2 : Int) ^ (64 * 3) = 6277101735386680763835789423207666416102355444464034512896 from rfl]
    obtain ⟨o1, o2⟩ := or_bit (q / 6277101735386680763835789423207666416102355444464034512896 % 18446744073709551616) r hr2 ⟨by omega⟩ w
    show [_, _, _, orU (q / 6277101735386680763835789423207666416102355444464034512896 % 18446744073709551616) (2 ^ r)] = _
    rw [o1]
    unfold wordsI
    generalize (2 : Int) ^ r = P at *
    rw [List.cons.injEq, List.cons.injEq, List.cons.injEq, List.cons.injEq]
    exact ⟨by omega, by omega, by omega, by omega, rfl⟩
theorem div_step {n d N b : Int} (hd : 0 < d) (hb : 0 ≤ b ∧ b ≤ 1) : (d ≤ 2 * (N % d) + b → (2 * N + b) / d = 2 * (N / d) + 1 ∧ (2 * N + b) % d = 2 * (N % d) + b - d) ∧ (2 * (N % d) + b < d → (2 * N + b) / d = 2 * (N / d) ∧ (2 * N + b) % d = 2 * (N % d) + b) := by
  have h1 := Int.emod_nonneg N (Int.ne_of_gt hd)
  have h2 := Int.emod_lt_of_pos N hd
  have h3 := Int.emod_add_mul_ediv N d
  generalize N % d = r at *
  generalize N / d = q at *
  have e1 : 2 * N + b = d * (2 * q) + (2 * r + b) := by rw [← h3, Int.mul_left_comm d 2 q]; omega
  refine ⟨fun h => ?_, fun h => ?_⟩
  · have e2 : 2 * N + b = (2 * r + b - d) + d * (2 * q + 1) := by rw [e1, Int.mul_add d]; omega
    have hh := (Int.ediv_emod_unique (a := 2 * N + b) (r := 2 * r + b - d) (q := 2 * q + 1) hd).2 ⟨by rw [e2], by omega, by omega⟩
    exact hh
  · have e2 : 2 * N + b = (2 * r + b) + d * (2 * q) := by rw [e1]; omega
    have hh := (Int.ediv_emod_unique (a := 2 * N + b) (r := 2 * r + b) (q := 2 * q) hd).2 ⟨by rw [e2], by omega, by omega⟩
    exact hh
theorem dbl_num (R : Fx) (b : Int) (hR : okT R) (hb : 0 ≤ b ∧ b ≤ 1) : okT ⟨orU (IntKind.u64.wrap (R.h * 2 ^ 1)) (R.l.fdiv (2 ^ 63)), orU (IntKind.u64.wrap (R.l * 2 ^ 1)) b⟩ ∧ num ⟨orU (IntKind.u64.wrap (R.h * 2 ^ 1)) (R.l.fdiv (2 ^ 63)), orU (IntKind.u64.wrap (R.l * 2 ^ 1)) b⟩ = (2 * num R + b) % 340282366920938463463374607431768211456 := by
  have h1 := hR.1.h
  have h2 := hR.2.h
  have fd : R.l.fdiv (2 ^ 63) = R.l / 9223372036854775808 := fdiv_pow R.l 63
  have e : ∀ x : Int, IntKind.u64.wrap (x * 2 ^ 1) = (x % 9223372036854775808) * 2 ^ 1 := fun x => by rw [IntKind.wrap_u64]; omega
  rw [fd, e, e, orU_add 1 _ _ (by omega) (by omega) (by omega), orU_add 1 _ _ (by omega) (by omega) (by omega)]
  refine ⟨⟨⟨by simp only; omega⟩, ⟨by simp only; omega⟩⟩, ?_⟩
  unfold num val2
  simp only
  omega
def divLoop (n d : Int) : LSpec where
  σ := Int × Fx × List Int
  keysT := [7]
  keysB := [5, 14]
  enc := fun _ x => ([.int .i64 x.1], [.cells [.int .u64 0, .int .u64 0, .int .u64 0, .int .u64 0, .int .u64 x.2.1.h, .int .u64 x.2.1.l, .raw (.bool true)] 170, .row true .u64 x.2.2])
  rd := fun _ s => match s.tmps 7, s.mem 5, s.mem 14 with
    | some (.raw (.int _ i)), some (.cells [_, _, _, _, .raw (.int _ h), .raw (.int _ l), _] _), some (.row _ .u64 q) => some ((i, ⟨h, l⟩, q), [])
    | _, _, _ => none
  inv := fun _ x => DivInv n d x
  μ := fun _ x => (x.1 + 1).toNat
def divS (a : Vc) (b : Fx) : Vc × Fx × Bool := if num b = 0 then (⟨⟨0, 0⟩, ⟨0, 0⟩⟩, ⟨0, 0⟩, false) else (mk4 (num4 a / num b), mkx (num4 a % num b), true)
theorem k_r1_DivFour : C2 Tryd.prog TabI 128 cFo cTw PV.dvd (fun a b => ok4 a ∧ okT b) divS :=
  .ev (fun a b => [divLoop (num4 a) (num b)]) mixed (mkOrc_ok (l := L3) (x := []) trivial) Tryd.func128 (by decide) fun a b h => by
    refine ⟨?_⟩
    have e : evPure Tryd.prog (mkOrc L3 []) Tryd.f128 [divLoop (num4 a) (num b)] [cFo.enc a, cTw.enc b] =
      Tr.ite (b.h == (0 : Int) && (b.l == (0 : Int) && true)) (Tr.ret (PV.agg [PV.raw (Value.int IntKind.u64 (0 : Int)), PV.raw (Value.int IntKind.u64 (0 : Int)), PV.raw (Value.int IntKind.u64 (0 : Int)), PV.raw (Value.int IntKind.u64 (0 : Int)), PV.raw (Value.int IntKind.u64 (0 : Int)), PV.raw (Value.int IntKind.u64 (0 : Int)), PV.raw (Value.bool false)])) (Tr.chk true (Tr.need ((255 : Int) = (255 : Int) ∧ True) (Tr.need (((0 : Int) = (0 : Int) ∧ (0 : Int) = (0 : Int) ∧ (0 : Int) = (0 : Int) ∧ (0 : Int) = (0 : Int) ∧ (0 : Int) = (0 : Int) ∧ (0 : Int) = (0 : Int) ∧ true = true ∧ True) ∧ [(0 : Int), (0 : Int), (0 : Int), (0 : Int)] = [(0 : Int), (0 : Int), (0 : Int), (0 : Int)] ∧ True) (Tr.need (DivInv (num4 a) (num b) ((255 : Int), { h := (0 : Int), l := (0 : Int) }, [(0 : Int), (0 : Int), (0 : Int), (0 : Int)])) (Tr.all (Int × Fx × List Int) (fun x => DivInv (num4 a) (num b) x) fun x => Tr.ite (decide (x.fst ≥ (0 : Int))) (Tr.chk true (Tr.chk true (Tr.chk true (Tr.chk true (Tr.chk (decide (ok4 a ∧ (0 : Int) ≤ x.fst ∧ x.fst ≤ (255 : Int))) (Tr.ite (x.snd.fst.h.fdiv ((2 : Int) ^ (63 : Nat)) == (1 : Int)) (Tr.ite true (Tr.chk (decide (okT { h := IntKind.u64.wrap ↑(BitVec.ofInt (64 : Nat) (IntKind.u64.wrap (x.snd.fst.h * (2 : Int) ^ (1 : Nat))) ||| BitVec.ofInt (64 : Nat) (x.snd.fst.l.fdiv ((2 : Int) ^ (63 : Nat)))).toNat, l := IntKind.u64.wrap ↑(BitVec.ofInt (64 : Nat) (IntKind.u64.wrap (x.snd.fst.l * (2 : Int) ^ (1 : Nat))) ||| BitVec.ofInt (64 : Nat) (bitS a x.fst)).toNat } ∧ okT b)) (Tr.chk true (Tr.chk (decide ((0 : Int) ≤ IntKind.i64.wrap (x.fst.tdiv (64 : Int))) && decide (IntKind.i64.wrap (x.fst.tdiv (64 : Int)) < ↑x.snd.snd.length)) (Tr.chk ((IntKind.i64.wrap (x.fst.tdiv (64 : Int))).toNat.blt x.snd.snd.length) (Tr.chk true (Tr.chk (decide ((0 : Int) ≤ x.fst.tmod (64 : Int))) (Tr.chk (decide ((0 : Int) ≤ IntKind.i64.wrap (x.fst.tdiv (64 : Int))) && decide (IntKind.i64.wrap (x.fst.tdiv (64 : Int)) < ↑x.snd.snd.length)) (Tr.chk ((IntKind.i64.wrap (x.fst.tdiv (64 : Int))).toNat.blt x.snd.snd.length) (Tr.need (IntKind.i64.wrap (x.fst - (1 : Int)) = IntKind.i64.wrap (x.fst - (1 : Int)) ∧ True) (Tr.need (((0 : Int) = (0 : Int) ∧ (0 : Int) = (0 : Int) ∧ (0 : Int) = (0 : Int) ∧ (0 : Int) = (0 : Int) ∧ (mkx (mod2 (num { h := IntKind.u64.wrap ↑(BitVec.ofInt (64 : Nat) (IntKind.u64.wrap (x.snd.fst.h * (2 : Int) ^ (1 : Nat))) ||| BitVec.ofInt (64 : Nat) (x.snd.fst.l.fdiv ((2 : Int) ^ (63 : Nat)))).toNat, l := IntKind.u64.wrap ↑(BitVec.ofInt (64 : Nat) (IntKind.u64.wrap (x.snd.fst.l * (2 : Int) ^ (1 : Nat))) ||| BitVec.ofInt (64 : Nat) (bitS a x.fst)).toNat } - num b))).h = (mkx (mod2 (num { h := IntKind.u64.wrap ↑(BitVec.ofInt (64 : Nat) (IntKind.u64.wrap (x.snd.fst.h * (2 : Int) ^ (1 : Nat))) ||| BitVec.ofInt (64 : Nat) (x.snd.fst.l.fdiv ((2 : Int) ^ (63 : Nat)))).toNat, l := IntKind.u64.wrap ↑(BitVec.ofInt (64 : Nat) (IntKind.u64.wrap (x.snd.fst.l * (2 : Int) ^ (1 : Nat))) ||| BitVec.ofInt (64 : Nat) (bitS a x.fst)).toNat } - num b))).h ∧ (mkx (mod2 (num { h := IntKind.u64.wrap ↑(BitVec.ofInt (64 : Nat) (IntKind.u64.wrap (x.snd.fst.h * (2 : Int) ^ (1 : Nat))) ||| BitVec.ofInt (64 : Nat) (x.snd.fst.l.fdiv ((2 : Int) ^ (63 : Nat)))).toNat, l := IntKind.u64.wrap ↑(BitVec.ofInt (64 : Nat) (IntKind.u64.wrap (x.snd.fst.l * (2 : Int) ^ (1 : Nat))) ||| BitVec.ofInt (64 : Nat) (bitS a x.fst)).toNat } - num b))).l = (mkx (mod2 (num { h := IntKind.u64.wrap ↑(BitVec.ofInt (64 : Nat) (IntKind.u64.wrap (x.snd.fst.h * (2 : Int) ^ (1 : Nat))) ||| BitVec.ofInt (64 : Nat) (x.snd.fst.l.fdiv ((2 : Int) ^ (63 : Nat)))).toNat, l := IntKind.u64.wrap ↑(BitVec.ofInt (64 : Nat) (IntKind.u64.wrap (x.snd.fst.l * (2 : Int) ^ (1 : Nat))) ||| BitVec.ofInt (64 : Nat) (bitS a x.fst)).toNat } - num b))).l ∧ true = true ∧ True) ∧ x.snd.snd.set (IntKind.i64.wrap (x.fst.tdiv (64 : Int))).toNat (IntKind.u64.wrap ↑(BitVec.ofInt (64 : Nat) (x.snd.snd.getD (IntKind.i64.wrap (x.fst.tdiv (64 : Int))).toNat ET.u64.dflt) ||| BitVec.ofInt (64 : Nat) (IntKind.u64.wrap ((1 : Int) * (2 : Int) ^ min (x.fst.tmod (64 : Int)).toNat (64 : Nat)))).toNat) = x.snd.snd.set (IntKind.i64.wrap (x.fst.tdiv (64 : Int))).toNat (IntKind.u64.wrap ↑(BitVec.ofInt (64 : Nat) (x.snd.snd.getD (IntKind.i64.wrap (x.fst.tdiv (64 : Int))).toNat ET.u64.dflt) ||| BitVec.ofInt (64 : Nat) (IntKind.u64.wrap ((1 : Int) * (2 : Int) ^ min (x.fst.tmod (64 : Int)).toNat (64 : Nat)))).toNat) ∧ True) (Tr.need (DivInv (num4 a) (num b) (IntKind.i64.wrap (x.fst - (1 : Int)), mkx (mod2 (num { h := IntKind.u64.wrap ↑(BitVec.ofInt (64 : Nat) (IntKind.u64.wrap (x.snd.fst.h * (2 : Int) ^ (1 : Nat))) ||| BitVec.ofInt (64 : Nat) (x.snd.fst.l.fdiv ((2 : Int) ^ (63 : Nat)))).toNat, l := IntKind.u64.wrap ↑(BitVec.ofInt (64 : Nat) (IntKind.u64.wrap (x.snd.fst.l * (2 : Int) ^ (1 : Nat))) ||| BitVec.ofInt (64 : Nat) (bitS a x.fst)).toNat } - num b)), x.snd.snd.set (IntKind.i64.wrap (x.fst.tdiv (64 : Int))).toNat (IntKind.u64.wrap ↑(BitVec.ofInt (64 : Nat) (x.snd.snd.getD (IntKind.i64.wrap (x.fst.tdiv (64 : Int))).toNat ET.u64.dflt) ||| BitVec.ofInt (64 : Nat) (IntKind.u64.wrap ((1 : Int) * (2 : Int) ^ min (x.fst.tmod (64 : Int)).toNat (64 : Nat)))).toNat))) (Tr.need ((IntKind.i64.wrap (x.fst - (1 : Int)) + (1 : Int)).toNat < (x.fst + (1 : Int)).toNat) Tr.done)))))))))))) (Tr.need (IntKind.i64.wrap (x.fst - (1 : Int)) = IntKind.i64.wrap (x.fst - (1 : Int)) ∧ True) (Tr.need (((0 : Int) = (0 : Int) ∧ (0 : Int) = (0 : Int) ∧ (0 : Int) = (0 : Int) ∧ (0 : Int) = (0 : Int) ∧ IntKind.u64.wrap ↑(BitVec.ofInt (64 : Nat) (IntKind.u64.wrap (x.snd.fst.h * (2 : Int) ^ (1 : Nat))) ||| BitVec.ofInt (64 : Nat) (x.snd.fst.l.fdiv ((2 : Int) ^ (63 : Nat)))).toNat = IntKind.u64.wrap ↑(BitVec.ofInt (64 : Nat) (IntKind.u64.wrap (x.snd.fst.h * (2 : Int) ^ (1 : Nat))) ||| BitVec.ofInt (64 : Nat) (x.snd.fst.l.fdiv ((2 : Int) ^ (63 : Nat)))).toNat ∧ IntKind.u64.wrap ↑(BitVec.ofInt (64 : Nat) (IntKind.u64.wrap (x.snd.fst.l * (2 : Int) ^ (1 : Nat))) ||| BitVec.ofInt (64 : Nat) (bitS a x.fst)).toNat = IntKind.u64.wrap ↑(BitVec.ofInt (64 : Nat) (IntKind.u64.wrap (x.snd.fst.l * (2 : Int) ^ (1 : Nat))) ||| BitVec.ofInt (64 : Nat) (bitS a x.fst)).toNat ∧ true = true ∧ True) ∧ x.snd.snd = x.snd.snd ∧ True) (Tr.need (DivInv (num4 a) (num b) (IntKind.i64.wrap (x.fst - (1 : Int)), { h := IntKind.u64.wrap ↑(BitVec.ofInt (64 : Nat) (IntKind.u64.wrap (x.snd.fst.h * (2 : Int) ^ (1 : Nat))) ||| BitVec.ofInt (64 : Nat) (x.snd.fst.l.fdiv ((2 : Int) ^ (63 : Nat)))).toNat, l := IntKind.u64.wrap ↑(BitVec.ofInt (64 : Nat) (IntKind.u64.wrap (x.snd.fst.l * (2 : Int) ^ (1 : Nat))) ||| BitVec.ofInt (64 : Nat) (bitS a x.fst)).toNat }, x.snd.snd)) (Tr.need ((IntKind.i64.wrap (x.fst - (1 : Int)) + (1 : Int)).toNat < (x.fst + (1 : Int)).toNat) Tr.done))))) (Tr.chk (decide (okT { h := IntKind.u64.wrap ↑(BitVec.ofInt (64 : Nat) (IntKind.u64.wrap (x.snd.fst.h * (2 : Int) ^ (1 : Nat))) ||| BitVec.ofInt (64 : Nat) (x.snd.fst.l.fdiv ((2 : Int) ^ (63 : Nat)))).toNat, l := IntKind.u64.wrap ↑(BitVec.ofInt (64 : Nat) (IntKind.u64.wrap (x.snd.fst.l * (2 : Int) ^ (1 : Nat))) ||| BitVec.ofInt (64 : Nat) (bitS a x.fst)).toNat } ∧ okT b)) (Tr.ite (bif false then true else !below (num { h := IntKind.u64.wrap ↑(BitVec.ofInt (64 : Nat) (IntKind.u64.wrap (x.snd.fst.h * (2 : Int) ^ (1 : Nat))) ||| BitVec.ofInt (64 : Nat) (x.snd.fst.l.fdiv ((2 : Int) ^ (63 : Nat)))).toNat, l := IntKind.u64.wrap ↑(BitVec.ofInt (64 : Nat) (IntKind.u64.wrap (x.snd.fst.l * (2 : Int) ^ (1 : Nat))) ||| BitVec.ofInt (64 : Nat) (bitS a x.fst)).toNat } - num b)) (Tr.chk (decide (okT { h := IntKind.u64.wrap ↑(BitVec.ofInt (64 : Nat) (IntKind.u64.wrap (x.snd.fst.h * (2 : Int) ^ (1 : Nat))) ||| BitVec.ofInt (64 : Nat) (x.snd.fst.l.fdiv ((2 : Int) ^ (63 : Nat)))).toNat, l := IntKind.u64.wrap ↑(BitVec.ofInt (64 : Nat) (IntKind.u64.wrap (x.snd.fst.l * (2 : Int) ^ (1 : Nat))) ||| BitVec.ofInt (64 : Nat) (bitS a x.fst)).toNat } ∧ okT b)) (Tr.chk true (Tr.chk (decide ((0 : Int) ≤ IntKind.i64.wrap (x.fst.tdiv (64 : Int))) && decide (IntKind.i64.wrap (x.fst.tdiv (64 : Int)) < ↑x.snd.snd.length)) (Tr.chk ((IntKind.i64.wrap (x.fst.tdiv (64 : Int))).toNat.blt x.snd.snd.length) (Tr.chk true (Tr.chk (decide ((0 : Int) ≤ x.fst.tmod (64 : Int))) (Tr.chk (decide ((0 : Int) ≤ IntKind.i64.wrap (x.fst.tdiv (64 : Int))) && decide (IntKind.i64.wrap (x.fst.tdiv (64 : Int)) < ↑x.snd.snd.length)) (Tr.chk ((IntKind.i64.wrap (x.fst.tdiv (64 : Int))).toNat.blt x.snd.snd.length) (Tr.need (IntKind.i64.wrap (x.fst - (1 : Int)) = IntKind.i64.wrap (x.fst - (1 : Int)) ∧ True) (Tr.need (((0 : Int) = (0 : Int) ∧ (0 : Int) = (0 : Int) ∧ (0 : Int) = (0 : Int) ∧ (0 : Int) = (0 : Int) ∧ (mkx (mod2 (num { h := IntKind.u64.wrap ↑(BitVec.ofInt (64 : Nat) (IntKind.u64.wrap (x.snd.fst.h * (2 : Int) ^ (1 : Nat))) ||| BitVec.ofInt (64 : Nat) (x.snd.fst.l.fdiv ((2 : Int) ^ (63 : Nat)))).toNat, l := IntKind.u64.wrap ↑(BitVec.ofInt (64 : Nat) (IntKind.u64.wrap (x.snd.fst.l * (2 : Int) ^ (1 : Nat))) ||| BitVec.ofInt (64 : Nat) (bitS a x.fst)).toNat } - num b))).h = (mkx (mod2 (num { h := IntKind.u64.wrap ↑(BitVec.ofInt (64 : Nat) (IntKind.u64.wrap (x.snd.fst.h * (2 : Int) ^ (1 : Nat))) ||| BitVec.ofInt (64 : Nat) (x.snd.fst.l.fdiv ((2 : Int) ^ (63 : Nat)))).toNat, l := IntKind.u64.wrap ↑(BitVec.ofInt (64 : Nat) (IntKind.u64.wrap (x.snd.fst.l * (2 : Int) ^ (1 : Nat))) ||| BitVec.ofInt (64 : Nat) (bitS a x.fst)).toNat } - num b))).h ∧ (mkx (mod2 (num { h := IntKind.u64.wrap ↑(BitVec.ofInt (64 : Nat) (IntKind.u64.wrap (x.snd.fst.h * (2 : Int) ^ (1 : Nat))) ||| BitVec.ofInt (64 : Nat) (x.snd.fst.l.fdiv ((2 : Int) ^ (63 : Nat)))).toNat, l := IntKind.u64.wrap ↑(BitVec.ofInt (64 : Nat) (IntKind.u64.wrap (x.snd.fst.l * (2 : Int) ^ (1 : Nat))) ||| BitVec.ofInt (64 : Nat) (bitS a x.fst)).toNat } - num b))).l = (mkx (mod2 (num { h := IntKind.u64.wrap ↑(BitVec.ofInt (64 : Nat) (IntKind.u64.wrap (x.snd.fst.h * (2 : Int) ^ (1 : Nat))) ||| BitVec.ofInt (64 : Nat) (x.snd.fst.l.fdiv ((2 : Int) ^ (63 : Nat)))).toNat, l := IntKind.u64.wrap ↑(BitVec.ofInt (64 : Nat) (IntKind.u64.wrap (x.snd.fst.l * (2 : Int) ^ (1 : Nat))) ||| BitVec.ofInt (64 : Nat) (bitS a x.fst)).toNat } - num b))).l ∧ true = true ∧ True) ∧ x.snd.snd.set (IntKind.i64.wrap (x.fst.tdiv (64 : Int))).toNat (IntKind.u64.wrap ↑(BitVec.ofInt (64 : Nat) (x.snd.snd.getD (IntKind.i64.wrap (x.fst.tdiv (64 : Int))).toNat ET.u64.dflt) ||| BitVec.ofInt (64 : Nat) (IntKind.u64.wrap ((1 : Int) * (2 : Int) ^ min (x.fst.tmod (64 : Int)).toNat (64 : Nat)))).toNat) = x.snd.snd.set (IntKind.i64.wrap (x.fst.tdiv (64 : Int))).toNat (IntKind.u64.wrap ↑(BitVec.ofInt (64 : Nat) (x.snd.snd.getD (IntKind.i64.wrap (x.fst.tdiv (64 : Int))).toNat ET.u64.dflt) ||| BitVec.ofInt (64 : Nat) (IntKind.u64.wrap ((1 : Int) * (2 : Int) ^ min (x.fst.tmod (64 : Int)).toNat (64 : Nat)))).toNat) ∧ True) (Tr.need (DivInv (num4 a) (num b) (IntKind.i64.wrap (x.fst - (1 : Int)), mkx (mod2 (num { h := IntKind.u64.wrap ↑(BitVec.ofInt (64 : Nat) (IntKind.u64.wrap (x.snd.fst.h * (2 : Int) ^ (1 : Nat))) ||| BitVec.ofInt (64 : Nat) (x.snd.fst.l.fdiv ((2 : Int) ^ (63 : Nat)))).toNat, l := IntKind.u64.wrap ↑(BitVec.ofInt (64 : Nat) (IntKind.u64.wrap (x.snd.fst.l * (2 : Int) ^ (1 : Nat))) ||| BitVec.ofInt (64 : Nat) (bitS a x.fst)).toNat } - num b)), x.snd.snd.set (IntKind.i64.wrap (x.fst.tdiv (64 : Int))).toNat (IntKind.u64.wrap ↑(BitVec.ofInt (64 : Nat) (x.snd.snd.getD (IntKind.i64.wrap (x.fst.tdiv (64 : Int))).toNat ET.u64.dflt) ||| BitVec.ofInt (64 : Nat) (IntKind.u64.wrap ((1 : Int) * (2 : Int) ^ min (x.fst.tmod (64 : Int)).toNat (64 : Nat)))).toNat))) (Tr.need ((IntKind.i64.wrap (x.fst - (1 : Int)) + (1 : Int)).toNat < (x.fst + (1 : Int)).toNat) Tr.done)))))))))))) (Tr.need (IntKind.i64.wrap (x.fst - (1 : Int)) = IntKind.i64.wrap (x.fst - (1 : Int)) ∧ True) (Tr.need (((0 : Int) = (0 : Int) ∧ (0 : Int) = (0 : Int) ∧ (0 : Int) = (0 : Int) ∧ (0 : Int) = (0 : Int) ∧ IntKind.u64.wrap ↑(BitVec.ofInt (64 : Nat) (IntKind.u64.wrap (x.snd.fst.h * (2 : Int) ^ (1 : Nat))) ||| BitVec.ofInt (64 : Nat) (x.snd.fst.l.fdiv ((2 : Int) ^ (63 : Nat)))).toNat = IntKind.u64.wrap ↑(BitVec.ofInt (64 : Nat) (IntKind.u64.wrap (x.snd.fst.h * (2 : Int) ^ (1 : Nat))) ||| BitVec.ofInt (64 : Nat) (x.snd.fst.l.fdiv ((2 : Int) ^ (63 : Nat)))).toNat ∧ IntKind.u64.wrap ↑(BitVec.ofInt (64 : Nat) (IntKind.u64.wrap (x.snd.fst.l * (2 : Int) ^ (1 : Nat))) ||| BitVec.ofInt (64 : Nat) (bitS a x.fst)).toNat = IntKind.u64.wrap ↑(BitVec.ofInt (64 : Nat) (IntKind.u64.wrap (x.snd.fst.l * (2 : Int) ^ (1 : Nat))) ||| BitVec.ofInt (64 : Nat) (bitS a x.fst)).toNat ∧ true = true ∧ True) ∧ x.snd.snd = x.snd.snd ∧ True) (Tr.need (DivInv (num4 a) (num b) (IntKind.i64.wrap (x.fst - (1 : Int)), { h := IntKind.u64.wrap ↑(BitVec.ofInt (64 : Nat) (IntKind.u64.wrap (x.snd.fst.h * (2 : Int) ^ (1 : Nat))) ||| BitVec.ofInt (64 : Nat) (x.snd.fst.l.fdiv ((2 : Int) ^ (63 : Nat)))).toNat, l := IntKind.u64.wrap ↑(BitVec.ofInt (64 : Nat) (IntKind.u64.wrap (x.snd.fst.l * (2 : Int) ^ (1 : Nat))) ||| BitVec.ofInt (64 : Nat) (bitS a x.fst)).toNat }, x.snd.snd)) (Tr.need ((IntKind.i64.wrap (x.fst - (1 : Int)) + (1 : Int)).toNat < (x.fst + (1 : Int)).toNat) Tr.done)))))))))))) (Tr.chk (decide (x.snd.snd.length = (4 : Nat))) (Tr.ret (PV.agg [PV.raw (Value.int IntKind.u64 (fourS x.snd.snd).X.h), PV.raw (Value.int IntKind.u64 (fourS x.snd.snd).X.l), PV.raw (Value.int IntKind.u64 (fourS x.snd.snd).Y.h), PV.raw (Value.int IntKind.u64 (fourS x.snd.snd).Y.l), PV.raw (Value.int IntKind.u64 x.snd.fst.h), PV.raw (Value.int IntKind.u64 x.snd.fst.l), PV.raw (Value.bool true)])))))))) := by kernel_rfl
    rw [e]; clear e
    simp only [Tr.holds, decide_eq_true_eq, decide_eq_false_iff_not, true_and, and_true, or_is, and_self]
    have hn := num4_bd a h.1
    have hb := num_T b h.2
    obtain ⟨ha, hbT⟩ := h
    have hb1 := hbT.1.h
    have hb2 := hbT.2.h
    have zb : (b.h == 0 && (b.l == 0 && true)) = decide (num b = 0) := by
      unfold num val2
      rw [Bool.and_true, Bool.eq_iff_iff, Bool.and_eq_true, beq_iff_eq, beq_iff_eq, decide_eq_true_iff]; omega
    rw [zb]
    simp only [decide_eq_true_eq, decide_eq_false_iff_not]
    unfold divS
    refine ⟨fun hz => by rw [if_pos hz]; rfl, fun hz => ⟨?_, ?_⟩⟩
    · have e0 : num4 a / 2 ^ ((255 : Int) + 1).toNat = 0 := Int.ediv_eq_zero_of_lt hn.1 (by exact hn.2)
      refine ⟨⟨by decide, by decide⟩, ⟨(inferInstance : U 0), (inferInstance : U 0)⟩, ?_, ?_⟩
      · simp only [e0, Int.zero_emod]; rfl
      · simp only [e0, Int.zero_ediv, Int.zero_mul]; rfl
    rintro ⟨i, R, l⟩ hx
    have hx' := hx
    obtain ⟨⟨b1, b2⟩, hR, hm, hl⟩ := hx'
    simp only at b1 b2 hR hm hl ⊢
    have hd : 0 < num b := by omega
    refine ⟨fun h0 => ⟨⟨ha, h0, b2⟩, ?_⟩, fun h0 => ?_⟩
    · have hw : IntKind.i64.wrap (i - 1) = i - 1 := wrap_i64_id _ (by omega)
      have hi1 : (i + 1).toNat = i.toNat + 1 := by omega
      have hi2 : (i - 1 + 1).toNat = i.toNat := by omega
      have hdv : wrap_i64_id = wrap_i64_id := rfl
      rw [hw, tdiv_pos i 64 h0, tmod_pos i 64 h0, wrap_i64_id (i / 64) (by omega), pow_U64 (i % 64) (by omega)]
      have hlen : l.length = 4 := by rw [hl]; rfl
      rw [hlen]
      have hbit : 0 ≤ bitS a i ∧ bitS a i ≤ 1 := by unfold bitS; omega
      obtain ⟨t1, t2⟩ := dbl_num R (bitS a i) hR hbit
      generalize (⟨orU (IntKind.u64.wrap (R.h * 2 ^ 1)) (R.l.fdiv (2 ^ 63)), orU (IntKind.u64.wrap (R.l * 2 ^ 1)) (bitS a i)⟩ : Fx) = R1 at *
      have hR1 := hR.1.h
      have hR2 := hR.2.h
      have hhigh : (R.h.fdiv (2 ^ 63) == 1) = decide (170141183460469231731687303715884105728 ≤ num R) := by
        rw [show R.h.fdiv (2 ^ 63) = R.h / 9223372036854775808 from fdiv_pow R.h 63, Bool.eq_iff_iff, beq_iff_eq, decide_eq_true_iff]
        unfold num val2; omega
      have hbits : num4 a / 2 ^ i.toNat = 2 * (num4 a / 2 ^ (i.toNat + 1)) + bitS a i := by
        unfold bitS
        have hp := two_pos i.toNat
        rw [Int.pow_succ, ← Int.ediv_ediv_of_nonneg (Int.le_of_lt hp)]; omega
      rw [hi1] at hm hl
      have hst := div_step (n := num4 a) (d := num b) (N := num4 a / 2 ^ (i.toNat + 1)) (b := bitS a i) hd hbit
      rw [← hbits, ← hm] at hst
      have hRlt : num R < num b := by rw [hm]; exact Int.emod_lt_of_pos _ hd
      have hR0 : 0 ≤ num R := (num_T R hR).1
      have hpw := two_pos i.toNat
      have hN : 0 ≤ num4 a / 2 ^ (i.toNat + 1) / num b := Int.ediv_nonneg (Int.ediv_nonneg hn.1 (Int.le_of_lt (two_pos _))) (Int.le_of_lt hd)
      have hsub : num b ≤ 2 * num R + bitS a i → DivInv (num4 a) (num b) (i - 1, mkx (mod2 (num R1 - num b)), l.set (i / 64).toNat (orU (l.getD (i / 64).toNat ET.u64.dflt) (2 ^ (i % 64).toNat))) := by
        intro hge
        obtain ⟨q1, q2⟩ := hst.1 hge
        have e : mod2 (num R1 - num b) = 2 * num R + bitS a i - num b := by rw [t2]; unfold mod2; omega
        refine ⟨⟨by simp only; omega, by simp only; omega⟩, okT_mk _ (by unfold mod2; omega), ?_, ?_⟩
        · simp only [hi2, num_mk]; rw [e, q2]
        · simp only [hi2]
          rw [hl, words_bit _ _ ⟨h0, b2⟩ (Int.mul_nonneg hN (Int.le_of_lt (two_pos _))) (Int.mul_emod_left _ _), q1]
          congr 1
          rw [Int.pow_succ, Int.add_mul, Int.one_mul, ← Int.mul_assoc, Int.mul_right_comm _ (2 ^ i.toNat) 2, Int.mul_comm _ 2]
      have hkeep : 2 * num R + bitS a i < num b → DivInv (num4 a) (num b) (i - 1, R1, l) := by
        intro hlt
        obtain ⟨q1, q2⟩ := hst.2 hlt
        refine ⟨⟨by simp only; omega, by simp only; omega⟩, t1, ?_, ?_⟩
        · simp only [hi2]; rw [t2, q2]; omega
        · simp only [hi2]
          rw [hl, q1]
          congr 1
          rw [Int.pow_succ, ← Int.mul_assoc, Int.mul_right_comm _ (2 ^ i.toNat) 2, Int.mul_comm _ 2]
      have hidx : (decide (0 ≤ i / 64) && decide (i / 64 < ((4 : Nat) : Int))) = true := by
        rw [Bool.and_eq_true, decide_eq_true_iff, decide_eq_true_iff]; omega
      have hidx2 : (i / 64).toNat.blt 4 = true := by rw [Nat.blt_eq]; omega
      have hbel : ∀ x, below x = decide (x < 0) := fun _ => rfl
      rw [hhigh]
      simp only [decide_eq_true_eq, decide_eq_false_iff_not, cond_false, hbel, Bool.not_eq_true', Bool.not_eq_false', hidx, hidx2]
      refine ⟨fun hh => ⟨fun _ => ⟨⟨t1, hbT⟩, trivial, trivial, by omega, trivial, trivial, hsub (by omega), by omega⟩, fun h => by cases h⟩, fun hh => ⟨⟨t1, hbT⟩, fun hge => ⟨⟨t1, hbT⟩, trivial, trivial, by omega, trivial, trivial, hsub (by omega), by omega⟩, fun hlt => ⟨hkeep (by omega), by omega⟩⟩⟩
    · have hi : i = -1 := by omega
      subst hi
      have hm : num R = num4 a / 1 % num b := hm
      have hl : l = wordsI (num4 a / 1 / num b * 1) := hl
      rw [Int.ediv_one] at hm hl
      rw [Int.mul_one] at hl
      have hq0 : 0 ≤ num4 a / num b := Int.ediv_nonneg hn.1 (Int.le_of_lt hd)
      have hq1 : num4 a / num b ≤ num4 a := Int.ediv_le_self _ hn.1
      have hf : fourS l = mk4 (num4 a / num b) := by
        rw [hl]
        exact mk4_is rfl rfl rfl (by simp only [wordsI, List.getD_cons_zero, List.getD_cons_succ]; omega)
      refine ⟨by rw [hl]; rfl, ?_⟩
      rw [if_neg hz, hf, ← hm, mk_num R hR.2]
      rfl
def L4 : List (Ent Tryd.prog tid TabI) := e2 k_r1_signed Tryd.func76 :: e1 k_r1_Root Tryd.func108 :: e2 k_r1_DivFour Tryd.func128 :: L3
end Go.Proofs.YtpbklojdmkpkcaaDoor
