/- The reference's wide numbers: the sign, roots; as contracts. -/
import Derived.Test.YtpbklojdmkpkcaaDoorRefG
namespace Go.Proofs.YtpbklojdmkpkcaaDoor
open Go Go.RowKit
set_option linter.unusedVariables false
set_option linter.unusedSimpArgs false
set_option maxRecDepth 100000
theorem k_r1_signed : C2 Tryd.prog TabI 76 cB cFo PV.got (fun _ m => ok4 m) fun s m => gotR (tell (num4 m) s) := fun s m h E w _ => by
  haveI := h.1.1; haveI := h.1.2; haveI := h.2.1; haveI := h.2.2
  exact r1_signed m.X.h m.X.l m.Y.h m.Y.l s w
theorem two_le {a b : Nat} (h : a ≤ b) : (2 : Int) ^ a ≤ 2 ^ b := by
  obtain ⟨c, rfl⟩ : ∃ c, b = a + c := ⟨b - a, by omega⟩
  rw [Int.pow_add]
  have h1 := two_pos a
  have h2 := two_pos c
  have := Int.mul_le_mul_of_nonneg_left (a := 1) (b := 2 ^ c) (c := 2 ^ a) (by omega) (by omega)
  omega
/-- The root, bit by bit. -/
def sqL (n : Int) : Nat → Int → Int
  | 0, s => s
  | k + 1, s => if (s + 2 ^ k) * (s + 2 ^ k) ≤ n then sqL n k (s + 2 ^ k) else sqL n k s
def isq (n : Int) : Int := sqL n 128 0
theorem or_bit (x : Int) (k : Nat) (hk : k < 64) (h : U x) (hm : x % 2 ^ (k + 1) = 0) : orU x (2 ^ k) = x + 2 ^ k ∧ x + 2 ^ k < 18446744073709551616 := by
  have hp := two_pos k
  have hp1 := two_pos (k + 1)
  have hp2 := two_pos (63 - k)
  have e64 : (18446744073709551616 : Int) = 2 ^ (63 - k) * 2 ^ (k + 1) := by rw [← Int.pow_add, show 63 - k + (k + 1) = 64 from by omega]; rfl
  have e1 : (2 : Int) ^ (k + 1) = 2 ^ k * 2 := Int.pow_succ 2 k
  have hx := h.h
  obtain ⟨q, hq⟩ : ∃ q, x = q * 2 ^ (k + 1) := ⟨x / 2 ^ (k + 1), by have := Int.emod_add_mul_ediv x (2 ^ (k + 1)); rw [hm, Int.mul_comm] at this; omega⟩
  have hq0 : 0 ≤ q := by
    have : ¬ q < 0 := fun hlt => by have := Int.mul_neg_of_neg_of_pos hlt hp1; omega
    omega
  have hq1 : q < 2 ^ (63 - k) := by
    rw [hq, e64] at hx
    exact Int.lt_of_mul_lt_mul_right hx.2 (Int.le_of_lt hp1)
  have hb : q * 2 ^ (k + 1) + 2 ^ (k + 1) ≤ 18446744073709551616 := by
    rw [e64, show q * 2 ^ (k + 1) + 2 ^ (k + 1) = (q + 1) * 2 ^ (k + 1) from by rw [Int.add_mul, Int.one_mul]]
    exact Int.mul_le_mul_of_nonneg_right (by omega) (Int.le_of_lt hp1)
  have hlt : q * 2 ^ (k + 1) + 2 ^ k < 18446744073709551616 := by omega
  subst hq
  exact ⟨orU_add (k + 1) q (2 ^ k) hq0 ⟨by omega, by omega⟩ hlt, hlt⟩
theorem pow_U64 (n : Int) (h : 0 ≤ n ∧ n ≤ 63) : IntKind.u64.wrap (1 * 2 ^ min n.toNat 64) = 2 ^ n.toNat := by
  rw [show min n.toNat 64 = n.toNat from by omega, Int.one_mul, IntKind.wrap_u64]
  have h1 : (2 : Int) ^ n.toNat ≤ 2 ^ 63 := two_le (by omega)
  have h2 := two_pos n.toNat
  have h3 : (2 : Int) ^ 63 = 9223372036854775808 := by decide
  omega
theorem low_mod (s : Fx) (h : okT s) (k : Nat) (hk : k < 64) (hm : num s % 2 ^ (k + 1) = 0) : s.l % 2 ^ (k + 1) = 0 := by
  have h2 := h.2.h
  have e : s.l = num s % 18446744073709551616 := by unfold num val2; omega
  rw [e, Int.emod_emod_of_dvd _ ⟨2 ^ (63 - k), by rw [← Int.pow_add, show k + 1 + (63 - k) = 64 from by omega]; rfl⟩]
  exact hm
theorem high_mod (s : Fx) (h : okT s) (k : Nat) (hm : num s % (18446744073709551616 * 2 ^ (k + 1)) = 0) : s.h % 2 ^ (k + 1) = 0 := by
  have h2 := h.2.h
  have e : s.h = num s / 18446744073709551616 := by unfold num val2; omega
  have := Int.emod_add_mul_ediv (num s) (18446744073709551616 * 2 ^ (k + 1))
  rw [hm] at this
  generalize num s / (18446744073709551616 * 2 ^ (k + 1)) = q at this
  rw [e, ← this, Int.zero_add, Int.mul_assoc, Int.mul_ediv_cancel_left _ (by decide)]
  exact Int.mul_emod_right _ _
def RootInv (n : Int) (x : Int × Fx) : Prop := (-1 ≤ x.1 ∧ x.1 ≤ 127) ∧ okT x.2 ∧ num x.2 % 2 ^ (x.1 + 1).toNat = 0 ∧ sqL n (x.1 + 1).toNat (num x.2) = isq n
def rootLoop (n : Int) : LSpec where
  σ := Int × Fx
  keysT := [4]
  keysB := [3]
  enc := fun _ x => ([.int .i64 x.1], [.cells [.int .u64 x.2.h, .int .u64 x.2.l] 56])
  rd := fun _ s => match s.tmps 4, s.mem 3 with
    | some (.raw (.int _ i)), some (.cells [.raw (.int _ h), .raw (.int _ l)] _) => some ((i, ⟨h, l⟩), [])
    | _, _ => none
  inv := fun _ x => RootInv n x
  μ := fun _ x => (x.1 + 1).toNat
theorem root_step (n : Int) (i : Int) (s : Fx) (h : RootInv n (i, s)) (h0 : 0 ≤ i) (t : Fx) (ht : okT t) (hn : num t = num s + 2 ^ i.toNat) : RootInv n (i - 1, if num t * num t ≤ n then t else s) := by
  obtain ⟨h1, h2, h3, h4⟩ := h
  simp only at h1 h2 h3 h4
  obtain ⟨k, rfl⟩ : ∃ k : Nat, i = k := ⟨i.toNat, by omega⟩
  have e1 : ((k : Int) + 1).toNat = k + 1 := by omega
  have e2 : ((k : Int) - 1 + 1).toNat = k := by omega
  rw [e1] at h3 h4
  rw [Int.toNat_natCast] at hn
  have hd : num s % 2 ^ k = 0 := by
    have : (2 : Int) ^ k ∣ 2 ^ (k + 1) := ⟨2, Int.pow_succ 2 k⟩
    rw [← Int.emod_emod_of_dvd _ this, h3]; rfl
  refine ⟨⟨by simp only; omega, by simp only; omega⟩, ?_, ?_, ?_⟩
  · simp only; split
    · exact ht
    · exact h2
  · simp only [e2]; split
    · rw [hn, Int.add_emod_right]; exact hd
    · exact hd
  · simp only [e2]
    rw [← h4]
    simp only [sqL]
    rw [← hn]
    split <;> rfl
theorem cmp_le (x y : Int) : (decide (cmpS x y ≤ 0)) = decide (x ≤ y) := by
  unfold cmpS
  rw [decide_eq_decide]
  split
  · omega
  · split <;> omega
theorem k_r1_Root : C1 Tryd.prog TabI 108 cFo cTw.enc ok4 fun a => mkx (isq (num4 a)) :=
  .ev (fun a => [rootLoop (num4 a)]) mixed (mkOrc_ok (l := L3) (x := []) trivial) Tryd.func108 (by decide) fun a h => by
    refine ⟨?_⟩
    have e : evPure Tryd.prog (mkOrc L3 []) Tryd.f108 [rootLoop (num4 a)] [cFo.enc a] =
      Tr.need ((127 : Int) = (127 : Int) ∧ True) (Tr.need (((0 : Int) = (0 : Int) ∧ (0 : Int) = (0 : Int) ∧ True) ∧ True) (Tr.need (RootInv (num4 a) ((127 : Int), { h := (0 : Int), l := (0 : Int) })) (Tr.all (Int × Fx) (fun x => RootInv (num4 a) x) fun x => Tr.ite (decide (x.fst ≥ (0 : Int))) (Tr.ite (decide (x.fst ≥ (64 : Int))) (Tr.chk (decide ((0 : Int) ≤ IntKind.i64.wrap (x.fst - (64 : Int)))) (Tr.chk (decide (okT { h := IntKind.u64.wrap ↑(BitVec.ofInt (64 : Nat) x.snd.h ||| BitVec.ofInt (64 : Nat) (IntKind.u64.wrap ((1 : Int) * (2 : Int) ^ min (IntKind.i64.wrap (x.fst - (64 : Int))).toNat (64 : Nat)))).toNat, l := x.snd.l } ∧ okT { h := IntKind.u64.wrap ↑(BitVec.ofInt (64 : Nat) x.snd.h ||| BitVec.ofInt (64 : Nat) (IntKind.u64.wrap ((1 : Int) * (2 : Int) ^ min (IntKind.i64.wrap (x.fst - (64 : Int))).toNat (64 : Nat)))).toNat, l := x.snd.l })) (Tr.chk (decide (ok4 (mk4 (num { h := IntKind.u64.wrap ↑(BitVec.ofInt (64 : Nat) x.snd.h ||| BitVec.ofInt (64 : Nat) (IntKind.u64.wrap ((1 : Int) * (2 : Int) ^ min (IntKind.i64.wrap (x.fst - (64 : Int))).toNat (64 : Nat)))).toNat, l := x.snd.l } * num { h := IntKind.u64.wrap ↑(BitVec.ofInt (64 : Nat) x.snd.h ||| BitVec.ofInt (64 : Nat) (IntKind.u64.wrap ((1 : Int) * (2 : Int) ^ min (IntKind.i64.wrap (x.fst - (64 : Int))).toNat (64 : Nat)))).toNat, l := x.snd.l })) ∧ ok4 a)) (Tr.ite (decide (cmpS (num4 (mk4 (num { h := IntKind.u64.wrap ↑(BitVec.ofInt (64 : Nat) x.snd.h ||| BitVec.ofInt (64 : Nat) (IntKind.u64.wrap ((1 : Int) * (2 : Int) ^ min (IntKind.i64.wrap (x.fst - (64 : Int))).toNat (64 : Nat)))).toNat, l := x.snd.l } * num { h := IntKind.u64.wrap ↑(BitVec.ofInt (64 : Nat) x.snd.h ||| BitVec.ofInt (64 : Nat) (IntKind.u64.wrap ((1 : Int) * (2 : Int) ^ min (IntKind.i64.wrap (x.fst - (64 : Int))).toNat (64 : Nat)))).toNat, l := x.snd.l }))) (num4 a) ≤ (0 : Int))) (Tr.need (IntKind.i64.wrap (x.fst - (1 : Int)) = IntKind.i64.wrap (x.fst - (1 : Int)) ∧ True) (Tr.need ((IntKind.u64.wrap ↑(BitVec.ofInt (64 : Nat) x.snd.h ||| BitVec.ofInt (64 : Nat) (IntKind.u64.wrap ((1 : Int) * (2 : Int) ^ min (IntKind.i64.wrap (x.fst - (64 : Int))).toNat (64 : Nat)))).toNat = IntKind.u64.wrap ↑(BitVec.ofInt (64 : Nat) x.snd.h ||| BitVec.ofInt (64 : Nat) (IntKind.u64.wrap ((1 : Int) * (2 : Int) ^ min (IntKind.i64.wrap (x.fst - (64 : Int))).toNat (64 : Nat)))).toNat ∧ x.snd.l = x.snd.l ∧ True) ∧ True) (Tr.need (RootInv (num4 a) (IntKind.i64.wrap (x.fst - (1 : Int)), { h := IntKind.u64.wrap ↑(BitVec.ofInt (64 : Nat) x.snd.h ||| BitVec.ofInt (64 : Nat) (IntKind.u64.wrap ((1 : Int) * (2 : Int) ^ min (IntKind.i64.wrap (x.fst - (64 : Int))).toNat (64 : Nat)))).toNat, l := x.snd.l })) (Tr.need ((IntKind.i64.wrap (x.fst - (1 : Int)) + (1 : Int)).toNat < (x.fst + (1 : Int)).toNat) Tr.done)))) (Tr.need (IntKind.i64.wrap (x.fst - (1 : Int)) = IntKind.i64.wrap (x.fst - (1 : Int)) ∧ True) (Tr.need ((x.snd.h = x.snd.h ∧ x.snd.l = x.snd.l ∧ True) ∧ True) (Tr.need (RootInv (num4 a) (IntKind.i64.wrap (x.fst - (1 : Int)), x.snd)) (Tr.need ((IntKind.i64.wrap (x.fst - (1 : Int)) + (1 : Int)).toNat < (x.fst + (1 : Int)).toNat) Tr.done)))))))) (Tr.chk (decide ((0 : Int) ≤ x.fst)) (Tr.chk (decide (okT { h := x.snd.h, l := IntKind.u64.wrap ↑(BitVec.ofInt (64 : Nat) x.snd.l ||| BitVec.ofInt (64 : Nat) (IntKind.u64.wrap ((1 : Int) * (2 : Int) ^ min x.fst.toNat (64 : Nat)))).toNat } ∧ okT { h := x.snd.h, l := IntKind.u64.wrap ↑(BitVec.ofInt (64 : Nat) x.snd.l ||| BitVec.ofInt (64 : Nat) (IntKind.u64.wrap ((1 : Int) * (2 : Int) ^ min x.fst.toNat (64 : Nat)))).toNat })) (Tr.chk (decide (ok4 (mk4 (num { h := x.snd.h, l := IntKind.u64.wrap ↑(BitVec.ofInt (64 : Nat) x.snd.l ||| BitVec.ofInt (64 : Nat) (IntKind.u64.wrap ((1 : Int) * (2 : Int) ^ min x.fst.toNat (64 : Nat)))).toNat } * num { h := x.snd.h, l := IntKind.u64.wrap ↑(BitVec.ofInt (64 : Nat) x.snd.l ||| BitVec.ofInt (64 : Nat) (IntKind.u64.wrap ((1 : Int) * (2 : Int) ^ min x.fst.toNat (64 : Nat)))).toNat })) ∧ ok4 a)) (Tr.ite (decide (cmpS (num4 (mk4 (num { h := x.snd.h, l := IntKind.u64.wrap ↑(BitVec.ofInt (64 : Nat) x.snd.l ||| BitVec.ofInt (64 : Nat) (IntKind.u64.wrap ((1 : Int) * (2 : Int) ^ min x.fst.toNat (64 : Nat)))).toNat } * num { h := x.snd.h, l := IntKind.u64.wrap ↑(BitVec.ofInt (64 : Nat) x.snd.l ||| BitVec.ofInt (64 : Nat) (IntKind.u64.wrap ((1 : Int) * (2 : Int) ^ min x.fst.toNat (64 : Nat)))).toNat }))) (num4 a) ≤ (0 : Int))) (Tr.need (IntKind.i64.wrap (x.fst - (1 : Int)) = IntKind.i64.wrap (x.fst - (1 : Int)) ∧ True) (Tr.need ((x.snd.h = x.snd.h ∧ IntKind.u64.wrap ↑(BitVec.ofInt (64 : Nat) x.snd.l ||| BitVec.ofInt (64 : Nat) (IntKind.u64.wrap ((1 : Int) * (2 : Int) ^ min x.fst.toNat (64 : Nat)))).toNat = IntKind.u64.wrap ↑(BitVec.ofInt (64 : Nat) x.snd.l ||| BitVec.ofInt (64 : Nat) (IntKind.u64.wrap ((1 : Int) * (2 : Int) ^ min x.fst.toNat (64 : Nat)))).toNat ∧ True) ∧ True) (Tr.need (RootInv (num4 a) (IntKind.i64.wrap (x.fst - (1 : Int)), { h := x.snd.h, l := IntKind.u64.wrap ↑(BitVec.ofInt (64 : Nat) x.snd.l ||| BitVec.ofInt (64 : Nat) (IntKind.u64.wrap ((1 : Int) * (2 : Int) ^ min x.fst.toNat (64 : Nat)))).toNat })) (Tr.need ((IntKind.i64.wrap (x.fst - (1 : Int)) + (1 : Int)).toNat < (x.fst + (1 : Int)).toNat) Tr.done)))) (Tr.need (IntKind.i64.wrap (x.fst - (1 : Int)) = IntKind.i64.wrap (x.fst - (1 : Int)) ∧ True) (Tr.need ((x.snd.h = x.snd.h ∧ x.snd.l = x.snd.l ∧ True) ∧ True) (Tr.need (RootInv (num4 a) (IntKind.i64.wrap (x.fst - (1 : Int)), x.snd)) (Tr.need ((IntKind.i64.wrap (x.fst - (1 : Int)) + (1 : Int)).toNat < (x.fst + (1 : Int)).toNat) Tr.done))))))))) (Tr.ret (Cod.enc cTw x.snd))))) := by kernel_rfl
    rw [e]; clear e
    simp only [Tr.holds, cmp_le, num4_mk, decide_eq_true_eq, decide_eq_false_iff_not, true_and, and_true, or_is, and_self]
    refine ⟨⟨⟨by omega, by omega⟩, ⟨(inferInstance : U 0), (inferInstance : U 0)⟩, rfl, rfl⟩, ?_⟩
    rintro ⟨i, s⟩ hx
    have hx' := hx
    obtain ⟨⟨b1, b2⟩, hs, hm, hq⟩ := hx'
    simp only at b1 b2 hs hm hq ⊢
    have hw : IntKind.i64.wrap (i - 1) = i - 1 := wrap_i64_id _ (by omega)
    have key : 0 ≤ i → ∀ t : Fx, okT t → num t = num s + 2 ^ i.toNat → (okT t ∧ (ok4 (mk4 (num t * num t)) ∧ ok4 a) ∧ (num t * num t ≤ num4 a → RootInv (num4 a) (IntKind.i64.wrap (i - 1), t) ∧ (IntKind.i64.wrap (i - 1) + 1).toNat < (i + 1).toNat) ∧ (¬ num t * num t ≤ num4 a → RootInv (num4 a) (IntKind.i64.wrap (i - 1), s) ∧ (IntKind.i64.wrap (i - 1) + 1).toNat < (i + 1).toNat)) := by
      intro h0 t ht hn
      have hst := root_step (num4 a) i s hx h0 t ht hn
      rw [hw]
      refine ⟨ht, ⟨ok4_mk _ ?_, h⟩, fun hle => ⟨?_, by omega⟩, fun hle => ⟨?_, by omega⟩⟩
      · have := mul_bd (n := 340282366920938463463374607431768211455) ⟨(num_T t ht).1, by have := num_T t ht; omega⟩ ⟨(num_T t ht).1, by have := num_T t ht; omega⟩
        omega
      · rwa [if_pos hle] at hst
      · rwa [if_neg hle] at hst
    refine ⟨fun h0 => ⟨fun h64 => ?_, fun h64 => ?_⟩, fun h0 => ?_⟩
    · have hw2 : IntKind.i64.wrap (i - 64) = i - 64 := wrap_i64_id _ (by omega)
      rw [hw2, pow_U64 _ (by omega)]
      obtain ⟨k, hk⟩ : ∃ k : Nat, i = k + 64 := ⟨(i - 64).toNat, by omega⟩
      have hm2 : num s % (18446744073709551616 * 2 ^ (k + 1)) = 0 := by
        rw [← hm, show (i + 1).toNat = 64 + (k + 1) from by omega, Int.pow_add 2 64 (k + 1)]; rfl
      obtain ⟨o1, o2⟩ := or_bit s.h k (by omega) hs.1 (high_mod s hs k hm2)
      have e : (i - 64).toNat = k := by omega
      rw [e, o1]
      have hp := two_pos k
      refine ⟨by omega, key h0 _ ⟨⟨by have := hs.1.h; simp only; omega⟩, hs.2⟩ ?_⟩
      show (s.h + 2 ^ k) * 18446744073709551616 + s.l = (s.h * 18446744073709551616 + s.l) + 2 ^ i.toNat
      rw [show i.toNat = 64 + k from by omega, Int.pow_add 2 64 k, show (2 : Int) ^ 64 = 18446744073709551616 from by decide]
      omega
    · rw [pow_U64 _ (by omega)]
      obtain ⟨k, hk⟩ : ∃ k : Nat, i = k := ⟨i.toNat, by omega⟩
      rw [show (i + 1).toNat = k + 1 from by omega] at hm
      obtain ⟨o1, o2⟩ := or_bit s.l k (by omega) hs.2 (low_mod s hs k (by omega) hm)
      have e : i.toNat = k := by omega
      rw [e, o1]
      have hp := two_pos k
      refine ⟨by omega, key h0 _ ⟨hs.1, ⟨by have := hs.2.h; simp only; omega⟩⟩ ?_⟩
      show s.h * 18446744073709551616 + (s.l + 2 ^ k) = (s.h * 18446744073709551616 + s.l) + 2 ^ i.toNat
      rw [e]; omega
    · have hi : i = -1 := by omega
      subst hi
      have hq : num s = isq (num4 a) := hq
      rw [← hq, mk_num _ hs.2]
end Go.Proofs.YtpbklojdmkpkcaaDoor
