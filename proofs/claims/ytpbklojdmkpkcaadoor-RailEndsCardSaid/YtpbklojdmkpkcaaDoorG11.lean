import Derived.Test.YtpbklojdmkpkcaaDoorG10
/- Copies of rows; the table of directions, handed out; as contracts. -/
namespace Go.Proofs.YtpbklojdmkpkcaaDoor
open Go Go.RowKit
set_option linter.unusedVariables false
set_option linter.unusedSimpArgs false
set_option maxRecDepth 100000
theorem k_clone_Vec : CR Tryd.prog tid TabI 71 (aRow .vec) (aRow .vec) [] (fun l => l.length ≤ 1000000) id :=
  .ev (fun _ => []) mixed (mkOrc_ok (l := E0) (x := []) trivial) Tryd.func71 (fun _ => Nat.le_of_ble_eq_true rfl) rfl fun l h => by
    refine ⟨?_⟩
    have e : evR Tryd.prog (mkOrc E0 []) Tryd.f71 [] (aRow .vec) (aRow .vec) [] l =
      Tr.all Bool (fun c => c = true → l = []) fun x => Tr.ite (false != x) (Tr.ret []) (Tr.chk ((((0 : Nat) + l.length) * (32 : Nat)).ble (140737488355328 : Nat)) (Tr.ret ([] ++ l))) := by kernel_rfl
    rw [e]; clear e
    simp only [Tr.holds]
    refine fun x hx => ⟨fun hc => ?_, fun hc => ⟨by rw [Nat.ble_eq]; omega, rfl⟩⟩
    have : x = true := by cases x; cases hc; rfl
    rw [hx this]; rfl
theorem tab_cells : tabV.flatMap (ET.cells .vec) = tabCells.toList := by kernel_rfl
theorem clone_tab (w w1 : World) (t : TypeId) (E : Env) (hI : TabI.p w.heap.size w) (hs : w.heap.size < w1.heap.size) (hw : w1.heap[w.heap.size]? = some (.cells tabCells t (0, 0))) (hb : Below w.heap.size w w1) :
    Calls Tryd.prog 71 #[.slice (some ⟨w.heap.size, 0, none⟩) 14 14] w1 fun e w' => ∃ (E' : Env) (ns : List (Option Nat)), e = .returned ((encRow .vec (nmOf ns 0)).emb E') ∧ Below w.heap.size w w' ∧ ResOk tid w.heap.size E E' w' [] ns [⟨.vec, tabV⟩] := by
  let E1 : Env := ⟨fun _ => some (w.heap.size, 0), fun _ => 14, fun _ => 14⟩
  have hM1 : MemRel tid w1.heap.size E1 (canon (aRow .vec) tabV) w1 := by
    have is : ∀ n k, canon (aRow .vec) tabV n = some k → n = 0 ∧ k = .row false .vec tabV := by
      intro n k h
      cases n with
      | zero => cases h; exact ⟨rfl, rfl⟩
      | succ n => cases h
    refine ⟨fun n k h => ?_, fun n k h x hx => ?_, fun n c k kc x y f g hne h1 h2 o => ?_⟩
    · obtain ⟨rfl, rfl⟩ := is n k h
      refine ⟨rfl, (show 14 ≤ 14 by decide), fun j hj => ?_, fun _ => hs, (fun h => by cases h)⟩
      rw [tab_cells]
      simp only [Nat.zero_add, World.cell?, hw]
      simp
    · obtain ⟨rfl, rfl⟩ := is n k h; cases hx
    · obtain ⟨rfl, rfl⟩ := is n k h1; cases o
  refine (k_clone_Vec tabV (by decide) E1 w1 hM1 (TabI.mono _ _ _ (TabI.below _ _ _ hI hb) (Nat.le_of_lt hs))).mono ?_
  rintro e w' ⟨E', ns, rfl, hbel, hres⟩
  refine ⟨E', ns, rfl, hb.trans (hbel.mono (Nat.le_of_lt hs)), ⟨(fun j i hj ha => by cases ha), hres.nil, fun j r b h1 h2 h3 => ?_, hres.apart⟩⟩
  have := hres.row j r b h1 h2 h3
  unfold RowOk at this ⊢
  split
  · rename_i hk; rw [hk] at this; exact this
  · rename_i k f hk
    rw [hk] at this
    obtain ⟨p1, p2, p3, p4, p5⟩ := this
    exact ⟨p1, p2, p3, (fun h => by cases h), fun _ => ⟨Nat.le_trans (Nat.le_of_lt hs) (p5 rfl).1, (p5 rfl).2⟩⟩
theorem k_turn_Table : CR Tryd.prog tid TabI 34 aNil (aRow .vec) [] (fun _ => True) fun _ => tabV := by
  intro a _ E w hM hI
  have hI' := hI
  obtain ⟨h0, t, fr, hT⟩ := hI
  have HT := Lib.hid hT
  clear hT
  show Calls Tryd.prog 34 #[] w _
  go_enter Tryd.func34, Tryd.ntmps34
  go_wp2_with (first | (refine wpList_load_row rfl _ _ rfl 0 rfl t tabCells fr _ (((by (repeat (first | (with_reducible exact Below.refl _ _) | (with_reducible assumption) | (with_reducible refine Below.alloc ?_ (by first | (with_reducible exact Nat.le_refl _) | omega | (simp <;> omega)) _) | (with_reducible refine Below.setCell ?_ (by first | (with_reducible exact Nat.le_refl _) | omega | (simp <;> omega)) _) | (with_reducible refine Below.drew ?_) | (with_reducible refine bel_step (by assumption) ?_ (by first | (with_reducible exact Nat.le_refl _) | omega | (simp <;> omega))))) : Below w.heap.size w _).block 0 h0).trans HT.out) Tryd.underlying113 rfl (by kernel_rfl) ?_) | refine wpList_store_row rfl _ _ _ rfl w.heap.size tabCells rfl rfl _ _ (heap_alloc_new w _) (by kernel_rfl) rfl (by kernel_rfl) ?_)
  refine (clone_tab w _ 113 E hI' (by simp) (setRow_heap _ _ _ _ _ _ (heap_alloc_new w _)) (below_setRow (by (repeat (first | (with_reducible exact Below.refl _ _) | (with_reducible assumption) | (with_reducible refine Below.alloc ?_ (by first | (with_reducible exact Nat.le_refl _) | omega | (simp <;> omega)) _) | (with_reducible refine Below.setCell ?_ (by first | (with_reducible exact Nat.le_refl _) | omega | (simp <;> omega)) _) | (with_reducible refine Below.drew ?_) | (with_reducible refine bel_step (by assumption) ?_ (by first | (with_reducible exact Nat.le_refl _) | omega | (simp <;> omega)))))) (Nat.le_refl _) _)).mono ?_
  rintro e wn ⟨E', ns, rfl, hb, hres⟩
  simp only
  go_wp2_with fail
  refine ⟨rfl, (encRow .vec (nmOf ns 0)).emb E', ?_, E', ns, rfl, hb, hres⟩
  simp [results, Tryd.results34, go_sem]
end Go.Proofs.YtpbklojdmkpkcaaDoor
/- near, awake, rows alike: as contracts; the law TurnAll. -/
namespace Go.Proofs.YtpbklojdmkpkcaaDoor
open Go Go.RowKit
set_option linter.unusedVariables false
set_option linter.unusedSimpArgs false
set_option maxRecDepth 100000
def nearS (a b : Int) (n : Int) : Bool := errF (subF a b) == 0 && !below (2 ^ n.toNat - mag (valF (subF a b)))
theorem k_l5_near : C3 Tryd.prog TabI 30 cFx cFx (cI .i64) cB.enc (fun a b n => okF a ∧ okF b ∧ 0 ≤ n ∧ n ≤ 63) fun a b n => nearS (num a) (num b) n :=
  .ev (fun _ _ _ => []) mixed (mkOrc_ok (l := L7) (x := []) trivial) Tryd.func30 (by decide) fun a b n h => by
    refine ⟨?_⟩
    have e : evPure Tryd.prog (mkOrc L7 []) Tryd.f30 [] [cFx.enc a, cFx.enc b, (cI .i64).enc n] =
      Tr.chk (decide (okF a ∧ okF b)) (Tr.ite (errF (subF (num a) (num b)) == (0 : Int)) (Tr.chk (decide ((0 : Int) ≤ n)) (Tr.chk (decide (okF (mkx (valF (subF (num a) (num b)))))) (Tr.chk (decide (okT { h := (0 : Int), l := IntKind.u64.wrap ((1 : Int) * (2 : Int) ^ min n.toNat (64 : Nat)) } ∧ okT (mkx (mag (num (mkx (valF (subF (num a) (num b))))))))) (Tr.ret (PV.raw (Value.bool (bif true then !below (num { h := (0 : Int), l := IntKind.u64.wrap ((1 : Int) * (2 : Int) ^ min n.toNat (64 : Nat)) } - num (mkx (mag (num (mkx (valF (subF (num a) (num b)))))))) else false))))))) (Tr.ret (PV.raw (Value.bool false)))) := by kernel_rfl
    rw [e]; clear e
    obtain ⟨ha, hb, hn⟩ := h
    haveI := ha.2; haveI := hb.2
    have h1 := mag_nn (valF (subF (num a) (num b)))
    have h2 := mag_lt (valF (subF (num a) (num b)))
    have hp := two_pos n.toNat
    have hq : (2 : Int) ^ n.toNat ≤ 2 ^ 63 := two_le (by omega)
    have hr : (2 : Int) ^ 63 = 9223372036854775808 := by decide
    simp only [Tr.holds, num_mk, pow_U64 n hn, decide_eq_true_eq, num_lo, okT_mk_iff, cond_true, beq_iff_eq, beq_eq_false_iff_ne]
    unfold nearS
    refine ⟨⟨ha, hb⟩, fun h0 => ⟨hn.1, okF_mk _, ⟨⟨(inferInstance : U 0), ⟨by simp only; omega⟩⟩, by omega⟩, ?_⟩, fun h0 => ?_⟩
    · rw [h0]; rfl
    · rw [show (errF (subF (num a) (num b)) == 0) = false from beq_eq_false_iff_ne.2 h0]; rfl
theorem k_l5_awake : C0 Tryd.prog TabI 25 cB.enc true :=
  .ev [] mixed (mkOrc_ok (l := L7) (x := []) trivial) Tryd.func25 (by
    refine .force ⟨?_⟩
    have e : (evPure Tryd.prog (mkOrc L7 []) Tryd.f25 [] []).force = .ret (cB.enc true) := by kernel_rfl
    rw [e]; rfl)
def SameInv {α : Type} (l k : List α) (i : Int) : Prop := (0 ≤ i ∧ i ≤ l.length) ∧ l.take i.toNat = k.take i.toNat
theorem same_step {α : Type} {l k : List α} {i : Int} {d : α} (hl : l.length = k.length) (h : SameInv l k i) (hi : i < l.length) (he : l.getD i.toNat d = k.getD i.toNat d) : SameInv l k (i + 1) := by
  obtain ⟨⟨h1, h2⟩, h3⟩ := h
  refine ⟨⟨by omega, by omega⟩, ?_⟩
  have hk : i.toNat < l.length := by omega
  have hk' : i.toNat < k.length := by omega
  rw [show (i + 1).toNat = i.toNat + 1 from by omega, List.take_succ_eq_append_getElem hk, List.take_succ_eq_append_getElem hk', h3]
  congr 2
  simpa [List.getD, hk, hk'] using he
theorem same_end {α : Type} {l k : List α} {i : Int} (hl : l.length = k.length) (h : SameInv l k i) (hi : ¬ i < l.length) : l = k := by
  obtain ⟨⟨h1, h2⟩, h3⟩ := h
  rwa [show i.toNat = l.length from by omega, List.take_length, hl, List.take_length] at h3
theorem vecEq_is (a b : Vc) : (a.X.h == b.X.h && (a.X.l == b.X.l && true) && (a.Y.h == b.Y.h && (a.Y.l == b.Y.l && true) && true)) = decide (a = b) := by
  obtain ⟨⟨a1, a2⟩, a3, a4⟩ := a
  obtain ⟨⟨b1, b2⟩, b3, b4⟩ := b
  rw [Bool.eq_iff_iff]
  simp
theorem k_r10_SameVecs : CR Tryd.prog tid TabI 33 (aCat (aRow .vec) (aRow .vec)) (aPlain cB) [] (fun x => x.1.length ≤ 1000000 ∧ x.2.length ≤ 1000000) fun x => decide (x.1 = x.2) :=
  .ev (fun x => [intLoop 5 (SameInv x.1 x.2) fun i => (x.1.length - i).toNat]) mixed (mkOrc_ok (l := E0) (x := []) trivial) Tryd.func33 (fun _ => Nat.le_of_ble_eq_true rfl) rfl fun x h => by
    obtain ⟨l, k⟩ := x
    refine ⟨?_⟩
    simp only
    have e : evR Tryd.prog (mkOrc E0 []) Tryd.f33 [intLoop 5 (SameInv l k) fun i => (l.length - i).toNat] (aCat (aRow .vec) (aRow .vec)) (aPlain cB) [] (l, k) =
      Tr.ite ((↑l.length : Int) != (↑k.length : Int)) (Tr.ret false) (Tr.need ((0 : Int) = (0 : Int) ∧ True) (Tr.need True (Tr.need (SameInv l k (0 : Int)) (Tr.all Int (SameInv l k) fun x => Tr.ite (decide (x < (↑l.length : Int))) (Tr.chk (decide ((0 : Int) ≤ x) && decide (x < (↑l.length : Int))) (Tr.chk ((Int.toNat x).blt l.length) (Tr.chk (decide ((0 : Int) ≤ x) && decide (x < (↑k.length : Int))) (Tr.chk ((Int.toNat x).blt k.length) (Tr.ite (!((l.getD (Int.toNat x) ET.vec.dflt).X.h == (k.getD (Int.toNat x) ET.vec.dflt).X.h && ((l.getD (Int.toNat x) ET.vec.dflt).X.l == (k.getD (Int.toNat x) ET.vec.dflt).X.l && true) && ((l.getD (Int.toNat x) ET.vec.dflt).Y.h == (k.getD (Int.toNat x) ET.vec.dflt).Y.h && ((l.getD (Int.toNat x) ET.vec.dflt).Y.l == (k.getD (Int.toNat x) ET.vec.dflt).Y.l && true) && true))) (Tr.ret false) (Tr.need (IntKind.i64.wrap (x + (1 : Int)) = IntKind.i64.wrap (x + (1 : Int)) ∧ True) (Tr.need True (Tr.need (SameInv l k (IntKind.i64.wrap (x + (1 : Int)))) (Tr.need (((↑l.length : Int) - IntKind.i64.wrap (x + (1 : Int))).toNat < ((↑l.length : Int) - x).toNat) Tr.done))))))))) (Tr.ret true))))) := by kernel_rfl
    rw [e]; clear e
    have hl : l.length ≤ 1000000 := h.1
    simp only [Tr.holds, decide_eq_true_eq, decide_eq_false_iff_not, vecEq_is, Bool.and_eq_true, Nat.blt_eq, bne_iff_ne, bne_eq_false_iff_eq, Bool.not_eq_true', Bool.not_eq_false', true_and, and_true, ne_eq]
    refine ⟨fun hn => ?_, fun hn => ⟨⟨⟨by omega, by omega⟩, rfl⟩, fun i hi => ⟨fun hlt => ?_, fun hge => ?_⟩⟩⟩
    · rw [eq_comm, decide_eq_false_iff_not]
      intro e; rw [e] at hn; exact hn rfl
    · have hn : l.length = k.length := by omega
      have hw : IntKind.i64.wrap (i + 1) = i + 1 := wrap_i64_id _ (by have := hi.1; omega)
      rw [hw]
      have hi0 := hi.1.1
      refine ⟨⟨by omega, by omega⟩, by omega, ⟨by omega, by omega⟩, by omega, fun hne => ?_, fun he => ⟨same_step (d := ET.vec.dflt) hn hi hlt he, by omega⟩⟩
      rw [eq_comm, decide_eq_false_iff_not]
      intro e; rw [e] at hne; exact hne rfl
    · have hn : l.length = k.length := by omega
      rw [eq_comm, decide_eq_true_iff]
      exact same_end hn hi hge
def L8 : List (Ent Tryd.prog tid TabI) := e3 k_l5_near Tryd.func30 :: e0 k_l5_awake Tryd.func25 :: eR k_r10_SameVecs Tryd.func33 :: eR k_turn_Table Tryd.func34 :: L7
end Go.Proofs.YtpbklojdmkpkcaaDoor
/- The directions of the low bits, by numbers: each beside its mirror. -/
namespace Go.Proofs.YtpbklojdmkpkcaaDoor
/-- A number is known before one goes on. -/
def force (n : Nat) (k : Nat → List Nat) : List Nat := Nat.rec (k 0) (fun m _ => k (m + 1)) n
theorem force_eq (n : Nat) (k : Nat → List Nat) : force n k = k n := by cases n <;> rfl
def rd (n : Nat) : Nat := (n + 9223372036854775808) / 18446744073709551616
def pX (p : Nat) : Nat := p / 340282366920938463463374607431768211456
def pY (p : Nat) : Nat := p % 340282366920938463463374607431768211456
/-- A way by one direction of the table; nought where that is no way of the first quarter. -/
def pby (tx ty p : Nat) : Nat :=
  bif Nat.ble (rd (pY p * ty)) (rd (pX p * tx)) && (Nat.ble (rd (pX p * tx)) 73786976294838206464 && Nat.ble (rd (pY p * tx) + rd (pX p * ty)) 73786976294838206464)
  then (rd (pX p * tx) - rd (pY p * ty)) * 340282366920938463463374607431768211456 + (rd (pY p * tx) + rd (pX p * ty)) else 0
def grow (tx ty : Nat) : List Nat → List Nat
  | [] => []
  | p :: r => force (pby tx ty p) fun q => p :: q :: grow tx ty r
def lev : Nat → List Nat
  | 0 => [18446744073709551616 * 340282366920938463463374607431768211456]
  | k + 1 => grow (tabX k).toNat (tabY k).toNat (lev k)
def nearN (p q : Nat) : Bool := Nat.ble p (q + 1099511627776) && Nat.ble q (p + 1099511627776)
def mirs : List Nat → List Nat → Bool
  | p :: r, q :: s => bif (nearN (pX p) (pY q) && nearN (pY p) (pX q)) && (Nat.blt 0 p && Nat.blt 0 q) then mirs r s else false
  | [], [] => true
  | _, _ => false
set_option maxRecDepth 1000000 in
theorem mir_low : mirs (lev 14).tail (lev 14).tail.reverse = true := by decide +kernel
end Go.Proofs.YtpbklojdmkpkcaaDoor
/- An angle's direction, and its mirror's: plain arithmetic. -/
namespace Go.Proofs.YtpbklojdmkpkcaaDoor
set_option linter.unusedSimpArgs false
set_option linter.unusedVariables false
theorem grow_get (tx ty : Nat) : ∀ (l : List Nat) (i : Nat), (grow tx ty l)[i]? = (l[i / 2]?).map fun p => if i % 2 = 0 then p else pby tx ty p
  | [], i => by simp [grow]
  | p :: r, 0 => by simp [grow, force_eq]
  | p :: r, 1 => by simp [grow, force_eq]
  | p :: r, i + 2 => by
    have h := grow_get tx ty r i
    rw [show (i + 2) / 2 = i / 2 + 1 from by omega, show (i + 2) % 2 = i % 2 from by omega]
    simp only [grow, force_eq, List.getElem?_cons_succ]
    exact h
theorem grow_length (tx ty : Nat) : ∀ l : List Nat, (grow tx ty l).length = 2 * l.length
  | [] => rfl
  | p :: r => by simp only [grow, force_eq, List.length_cons, grow_length tx ty r]; omega
theorem lev_length : ∀ k, (lev k).length = 2 ^ k
  | 0 => rfl
  | k + 1 => by rw [lev, grow_length, lev_length k, Nat.pow_succ]; omega
theorem rd_int (n : Nat) : (((n : Nat) : Int) + 9223372036854775808) / 18446744073709551616 = ((rd n : Nat) : Int) := by unfold rd; omega
theorem mag_nat (x : Nat) : mag (x : Int) = x := by unfold mag; rw [if_neg (by omega)]
theorem mag_natN (x : Nat) : mag (-(x : Int)) = x := by unfold mag; split <;> omega
theorem neg_nat (x : Nat) : neg (x : Int) = false := by unfold neg; rw [decide_eq_false_iff_not]; omega
theorem neg_natN (x : Nat) (h : x ≠ 0) : neg (-(x : Int)) = true := by unfold neg; rw [decide_eq_true_iff]; omega
theorem tell_pos (r : Nat) (h : r < 170141183460469231731687303715884105728) : tell (r : Int) false = .ok (r : Int) := by
  unfold tell; rw [if_neg (by omega)]; rfl
theorem tell_neg (r : Nat) (h : r < 170141183460469231731687303715884105728) : tell (r : Int) true = .ok (-(r : Int)) := by
  unfold tell; rw [if_neg (by omega)]; rfl
theorem rd_zero (d : Nat) : rd (0 * d) = 0 := by rw [Nat.zero_mul]; decide
theorem mulF_is (a b : Int) : mulF a b = tell ((mag a * mag b + 9223372036854775808) / 18446744073709551616) (neg a != neg b) := rfl
theorem mulF_nat (x d : Nat) (h : rd (x * d) < 170141183460469231731687303715884105728) : mulF (x : Int) (d : Int) = .ok (rd (x * d) : Nat) := by
  rw [mulF_is, mag_nat, mag_nat, neg_nat, neg_nat, ← Int.natCast_mul, rd_int]
  exact tell_pos _ h
theorem mulF_natN (x d : Nat) (h : rd (x * d) < 170141183460469231731687303715884105728) : mulF (-(x : Int)) (d : Int) = .ok (-((rd (x * d) : Nat) : Int)) := by
  rw [mulF_is, mag_natN, mag_nat, neg_nat, ← Int.natCast_mul, rd_int]
  by_cases hx : x = 0
  · subst hx
    rw [rd_zero]
    rfl
  · rw [neg_natN x hx]
    exact tell_neg _ h
theorem addF_ok (a b : Int) (h : -170141183460469231731687303715884105728 < a + b ∧ a + b < 170141183460469231731687303715884105728) : addF a b = .ok (a + b) := by unfold addF; rw [if_pos h]
theorem pXY (x y N : Nat) (h : y < N) : (x * N + y) / N = x ∧ (x * N + y) % N = y := by
  have hN : 0 < N := by omega
  refine ⟨?_, ?_⟩
  · rw [Nat.add_comm, Nat.add_mul_div_right _ _ hN, Nat.div_eq_of_lt h, Nat.zero_add]
  · rw [Nat.add_comm, Nat.add_mul_mod_self_right, Nat.mod_eq_of_lt h]
theorem pX_mk (x y : Nat) (h : y < 340282366920938463463374607431768211456) : pX (x * 340282366920938463463374607431768211456 + y) = x := (pXY x y _ h).1
theorem pY_mk (x y : Nat) (h : y < 340282366920938463463374607431768211456) : pY (x * 340282366920938463463374607431768211456 + y) = y := (pXY x y _ h).2
theorem byF_of (x y dx dy : Int) (A B C D M : Nat) (hM : M < 85070591730234615865843651857942052864) (a1 : mulF x dx = .ok (A : Int)) (a2 : mulF y dx = .ok (B : Int)) (a3 : mulF (-y) dy = .ok (-(C : Int))) (a4 : mulF x dy = .ok (D : Int)) (h1 : C ≤ A) (h2 : A ≤ M) (h3 : B + D ≤ M) :
    byF x y dx dy = .ok (((A - C : Nat) : Int), ((B + D : Nat) : Int)) := by
  have p1 : byP x dx y = .ok ((A : Int), (B : Int)) := by unfold byP; rw [a1, a2]; rfl
  have p2 : byP (-y) dy x = .ok (-(C : Int), (D : Int)) := by unfold byP; rw [a3, a4]; rfl
  have p3 : byS x y dx dy = .ok ((A : Int) + -(C : Int), (B : Int) + (D : Int)) := by
    unfold byS; rw [p1, p2]
    show both (addF (A : Int) (-(C : Int))) (addF (B : Int) (D : Int)) = _
    rw [addF_ok _ _ (by omega), addF_ok _ _ (by omega)]; rfl
  unfold byF
  rw [p1, p2, p3]
  simp only [errW, bne_self_eq_false, Bool.false_eq_true, if_false]
  have e1 : ((A - C : Nat) : Int) = (A : Int) + -(C : Int) := by omega
  have e2 : ((B + D : Nat) : Int) = (B : Int) + (D : Int) := by omega
  rw [e1, e2]
theorem pby_is (tx ty p : Nat) (h : (Nat.ble (rd (pY p * ty)) (rd (pX p * tx)) && (Nat.ble (rd (pX p * tx)) 73786976294838206464 && Nat.ble (rd (pY p * tx) + rd (pX p * ty)) 73786976294838206464)) = true) :
    pby tx ty p = (rd (pX p * tx) - rd (pY p * ty)) * 340282366920938463463374607431768211456 + (rd (pY p * tx) + rd (pX p * ty)) := by
  unfold pby; rw [h, cond_true]
theorem pby_no (tx ty p : Nat) (h : (Nat.ble (rd (pY p * ty)) (rd (pX p * tx)) && (Nat.ble (rd (pX p * tx)) 73786976294838206464 && Nat.ble (rd (pY p * tx) + rd (pX p * ty)) 73786976294838206464)) = false) : pby tx ty p = 0 := by
  unfold pby; rw [h, cond_false]
theorem pby_ok (tx ty p : Nat) (h : pby tx ty p ≠ 0) : byF (pX p) (pY p) tx ty = .ok ((pX (pby tx ty p) : Int), (pY (pby tx ty p) : Int)) := by
  cases hc : (Nat.ble (rd (pY p * ty)) (rd (pX p * tx)) && (Nat.ble (rd (pX p * tx)) 73786976294838206464 && Nat.ble (rd (pY p * tx) + rd (pX p * ty)) 73786976294838206464))
  · exact absurd (pby_no tx ty p hc) h
  · rw [pby_is tx ty p hc]
    simp only [Bool.and_eq_true, Nat.ble_eq] at hc
    obtain ⟨h1, h2, h3⟩ := hc
    have a1 := mulF_nat (pX p) tx
    have a2 := mulF_nat (pY p) tx
    have a3 := mulF_natN (pY p) ty
    have a4 := mulF_nat (pX p) ty
    clear h
    revert a1 a2 a3 a4 h1 h2 h3
    generalize rd (pX p * tx) = A
    generalize rd (pY p * tx) = B
    generalize rd (pY p * ty) = C
    generalize rd (pX p * ty) = D
    intro h1 h2 h3 a1 a2 a3 a4
    rw [pX_mk _ _ (by omega), pY_mk _ _ (by omega)]
    exact byF_of _ _ _ _ A B C D 73786976294838206464 (by decide) (a1 (by omega)) (a2 (by omega)) (a3 (by omega)) (a4 (by omega)) h1 h2 h3
theorem lev_rot (m : Int) : ∀ k, k ≤ 14 → ∀ p, (lev k)[(m % 16384 / 2 ^ (14 - k)).toNat]? = some p → p ≠ 0 → rotL m 18446744073709551616 0 k = .ok ((pX p : Int), (pY p : Int))
  | 0, _, p, h, _ => by
    have e0 : (m % 16384 / (2 : Int) ^ (14 - 0 : Nat)).toNat = 0 := by simp only [Nat.sub_zero, Int.reducePow]; omega
    rw [e0] at h
    simp only [lev, List.getElem?_cons_zero, Option.some.injEq] at h
    subst h
    rfl
  | k + 1, hk, p, h, hp => by
    have e : (m % 16384 / 2 ^ (14 - (k + 1))).toNat / 2 = (m % 16384 / 2 ^ (14 - k)).toNat ∧ ((m % 16384 / 2 ^ (14 - (k + 1))).toNat % 2 : Nat) = (m / 2 ^ (13 - k) % 2) := by
      rw [show 14 - (k + 1) = 13 - k from by omega, show 14 - k = 13 - k + 1 from by omega]
      obtain ⟨j, hj, hj2⟩ : ∃ j, 13 - k = j ∧ j ≤ 13 := ⟨13 - k, rfl, by omega⟩
      rw [hj]
      rcases j with _ | _ | _ | _ | _ | _ | _ | _ | _ | _ | _ | _ | _ | _ | j
      all_goals first | (exfalso; omega) | (simp only [Nat.reduceAdd, Nat.zero_add, Int.reducePow]; omega)
    rw [lev, grow_get, e.1, Option.map_eq_some_iff] at h
    obtain ⟨q, hq, hqp⟩ := h
    have tn := tab_lt k
    split at hqp
    · subst hqp
      rename_i hz
      exact rotL_skip (lev_rot m k (by omega) q hq hp) (by rw [beq_iff_eq]; omega)
    · rename_i hz
      subst hqp
      have hq0 : q ≠ 0 := by
        intro h0; subst h0
        exact hp (by simp [pby, pX, pY, rd])
      rw [rotL_by (lev_rot m k (by omega) q hq hq0) (by rw [beq_eq_false_iff_ne]; omega)]
      have hb := pby_ok (tabX k).toNat (tabY k).toNat q hp
      rw [Int.toNat_of_nonneg tn.1, Int.toNat_of_nonneg tn.2.2.1] at hb
      exact hb
theorem mirs_get : ∀ (l s : List Nat), mirs l s = true → ∀ (i p q : Nat), l[i]? = some p → s[i]? = some q → (nearN (pX p) (pY q) = true ∧ nearN (pY p) (pX q) = true) ∧ 0 < p ∧ 0 < q
  | [], s, h, i, p, q, hp, hq => by simp at hp
  | a :: r, [], h, i, p, q, hp, hq => by simp at hq
  | a :: r, b :: s, h, i, p, q, hp, hq => by
    rw [mirs] at h
    cases hc : ((nearN (pX a) (pY b) && nearN (pY a) (pX b)) && (Nat.blt 0 a && Nat.blt 0 b))
    · rw [hc] at h; cases h
    · rw [hc] at h
      rcases i with _ | i
      · simp only [List.getElem?_cons_zero, Option.some.injEq] at hp hq
        subst hp; subst hq
        simp only [Bool.and_eq_true, Nat.blt_eq] at hc
        exact hc
      · simp only [List.getElem?_cons_succ] at hp hq
        exact mirs_get r s h i p q hp hq
/-- The low bits' direction, and their mirror's. -/
theorem low_mir (m m' : Int) (h : m % 16384 ≠ 0) (h' : m' % 16384 = 16384 - m % 16384) :
    ∃ x y x' y' : Int, rotL m 18446744073709551616 0 14 = .ok (x, y) ∧ rotL m' 18446744073709551616 0 14 = .ok (x', y') ∧
      -1099511627776 ≤ x - y' ∧ x - y' ≤ 1099511627776 ∧ -1099511627776 ≤ y - x' ∧ y - x' ≤ 1099511627776 := by
  obtain ⟨L, hL⟩ : ∃ L, L = lev 14 := ⟨_, rfl⟩
  have hl : L.length = 16384 := by rw [hL]; exact lev_length 14
  have hR := lev_rot m 14 (by omega)
  have hR' := lev_rot m' 14 (by omega)
  have hM := mir_low
  rw [← hL] at hR hR' hM
  obtain ⟨i, hi⟩ : ∃ i : Nat, (m % 16384).toNat = i + 1 := ⟨(m % 16384).toNat - 1, by omega⟩
  have hi2 : i < 16383 := by omega
  have hp : (i + 1) < L.length := by rw [hl]; omega
  have hq : (16383 - i) < L.length := by rw [hl]; omega
  have g1 : L.tail[i]? = some L[i + 1] := by rw [List.getElem?_tail]; exact List.getElem?_eq_getElem hp
  have g2 : L.tail.reverse[i]? = some L[16383 - i] := by
    rw [List.getElem?_reverse (by rw [List.length_tail, hl]; omega), List.length_tail, hl, List.getElem?_tail]
    rw [show 16384 - 1 - 1 - i + 1 = 16383 - i from by omega]
    exact List.getElem?_eq_getElem hq
  obtain ⟨⟨n1, n2⟩, p0, q0⟩ := mirs_get _ _ hM i _ _ g1 g2
  have k1 : (m % 16384 / (2 : Int) ^ (14 - 14 : Nat)).toNat = i + 1 := by simp only [Nat.sub_self, Int.pow_zero, Int.ediv_one]; exact hi
  have k2 : (m' % 16384 / (2 : Int) ^ (14 - 14 : Nat)).toNat = 16383 - i := by simp only [Nat.sub_self, Int.pow_zero, Int.ediv_one]; omega
  have r1 := hR L[i + 1] (by rw [k1]; exact List.getElem?_eq_getElem hp) (by omega)
  have r2 := hR' L[16383 - i] (by rw [k2]; exact List.getElem?_eq_getElem hq) (by omega)
  simp only [nearN, Bool.and_eq_true, Nat.ble_eq] at n1 n2
  exact ⟨_, _, _, _, r1, r2, by omega, by omega, by omega, by omega⟩
/-- An angle below nought is the mirror of that above, nearly. -/
theorem of_mirror (a : Int) :
    (-1099511627776 ≤ valX (ofF a) - valX (ofF (-a)) ∧ valX (ofF a) - valX (ofF (-a)) ≤ 1099511627776) ∧
    (-1099511627776 ≤ valY (ofF a) + valY (ofF (-a)) ∧ valY (ofF a) + valY (ofF (-a)) ≤ 1099511627776) := by
  unfold ofF rotF
  by_cases h0 : a % 16384 = 0
  · have z : ∀ m : Int, m % 16384 = 0 → rotL m 18446744073709551616 0 14 = .ok (18446744073709551616, 0) := by
      intro m hm
      rw [rotL_low (m' := 0) (by omega) 14 (by omega)]
      rfl
    rw [rotM_ok (z (a % 65536) (by omega)), rotM_ok (z (-a % 65536) (by omega))]
    obtain ⟨c, hc⟩ : ∃ c : Nat, (a % 65536 / 16384).toNat = c := ⟨_, rfl⟩
    have : c = 0 ∧ (-a % 65536 / 16384).toNat = 0 ∨ c = 1 ∧ (-a % 65536 / 16384).toNat = 3 ∨ c = 2 ∧ (-a % 65536 / 16384).toNat = 2 ∨ c = 3 ∧ (-a % 65536 / 16384).toNat = 1 := by omega
    rcases this with ⟨c0, c1⟩ | ⟨c0, c1⟩ | ⟨c0, c1⟩ | ⟨c0, c1⟩ <;> (rw [hc, c0, c1]; simp [qt, valX, valY])
  · obtain ⟨x, y, x', y', e1, e2, n1, n2, n3, n4⟩ := low_mir (a % 65536) (-a % 65536) (by omega) (by omega)
    rw [rotM_ok e1, rotM_ok e2]
    obtain ⟨c, hc⟩ : ∃ c : Nat, (a % 65536 / 16384).toNat = c := ⟨_, rfl⟩
    have : c = 0 ∧ (-a % 65536 / 16384).toNat = 3 ∨ c = 1 ∧ (-a % 65536 / 16384).toNat = 2 ∨ c = 2 ∧ (-a % 65536 / 16384).toNat = 1 ∨ c = 3 ∧ (-a % 65536 / 16384).toNat = 0 := by omega
    rcases this with ⟨c0, c1⟩ | ⟨c0, c1⟩ | ⟨c0, c1⟩ | ⟨c0, c1⟩ <;> (rw [hc, c0, c1]; simp only [qt, valX, valY]; omega)
end Go.Proofs.YtpbklojdmkpkcaaDoor
/- Every direction of the first quarter is as long as one. -/
namespace Go.Proofs.YtpbklojdmkpkcaaDoor
def longN (p : Nat) : Bool := Nat.blt 0 p && (Nat.ble (rd (pX p * pX p) + rd (pY p * pY p)) 18446744073709555712 && Nat.ble 18446744073709547520 (rd (pX p * pX p) + rd (pY p * pY p))) && (Nat.ble (pX p) 36893488147419103232 && Nat.ble (pY p) 36893488147419103232)
def longs : List Nat → Bool
  | p :: r => bif longN p then longs r else false
  | [] => true
set_option maxRecDepth 1000000 in
theorem long_low : longs (lev 14) = true := by decide +kernel
theorem longs_get : ∀ (l : List Nat), longs l = true → ∀ (i p : Nat), l[i]? = some p → longN p = true
  | q :: r, h, i, p, hp => by
    unfold longs at h
    cases hq : longN q <;> rw [hq] at h
    · cases h
    · cases i with
      | zero => simp at hp; subst hp; exact hq
      | succ i => exact longs_get r h i p (by simpa using hp)
end Go.Proofs.YtpbklojdmkpkcaaDoor
/- Every direction is as long as one. -/
namespace Go.Proofs.YtpbklojdmkpkcaaDoor
/-- The low part of a direction. -/
theorem low_dir (m : Int) : ∃ p : Nat, (lev 14)[(m % 16384).toNat]? = some p ∧ longN p = true ∧ rotL m 18446744073709551616 0 14 = .ok ((pX p : Int), (pY p : Int)) := by
  obtain ⟨L, hL⟩ : ∃ L, L = lev 14 := ⟨_, rfl⟩
  have hl : L.length = 16384 := by rw [hL]; exact lev_length 14
  have hR := lev_rot m 14 (by omega)
  have hM := long_low
  rw [← hL] at hR hM ⊢
  have hp : (m % 16384).toNat < L.length := by rw [hl]; omega
  have k1 : (m % 16384 / (2 : Int) ^ (14 - 14 : Nat)).toNat = (m % 16384).toNat := by simp only [Nat.sub_self, Int.pow_zero, Int.ediv_one]
  have hg := longs_get L hM _ _ (List.getElem?_eq_getElem hp)
  refine ⟨_, List.getElem?_eq_getElem hp, hg, hR _ (by rw [k1]; exact List.getElem?_eq_getElem hp) ?_⟩
  unfold longN at hg
  simp only [Bool.and_eq_true, Nat.blt_eq] at hg
  omega
theorem mulF_negneg (x : Int) : mulF (-x) (-x) = mulF x x := by
  unfold mulF
  rw [mag_neg']
  congr 1
  by_cases h : x = 0
  · subst h; rfl
  · cases neg x <;> cases neg (-x) <;> rfl
theorem of_dir (a : Int) : ∃ p : Nat, (lev 14)[(a % 16384).toNat]? = some p ∧ longN p = true ∧ ofF a = .ok (qt ((pX p : Int), (pY p : Int)) (a % 65536 / 16384).toNat) := by
  obtain ⟨p, h1, h2, h3⟩ := low_dir (a % 65536)
  rw [show a % 65536 % 16384 = a % 16384 from by omega] at h1
  exact ⟨p, h1, h2, rotM_ok h3⟩
theorem sq_qt (x y A B : Int) (hx : mulF x x = .ok A) (hy : mulF y y = .ok B) : ∀ q : Nat, (mulF (qt (x, y) q).1 (qt (x, y) q).1 = .ok A ∧ mulF (qt (x, y) q).2 (qt (x, y) q).2 = .ok B) ∨ (mulF (qt (x, y) q).1 (qt (x, y) q).1 = .ok B ∧ mulF (qt (x, y) q).2 (qt (x, y) q).2 = .ok A)
  | 0 => .inl ⟨hx, hy⟩
  | q + 1 => by
    show (mulF (-(qt (x, y) q).2) (-(qt (x, y) q).2) = _ ∧ mulF (qt (x, y) q).1 (qt (x, y) q).1 = _) ∨ (mulF (-(qt (x, y) q).2) (-(qt (x, y) q).2) = _ ∧ mulF (qt (x, y) q).1 (qt (x, y) q).1 = _)
    rw [mulF_negneg]
    rcases sq_qt x y A B hx hy q with ⟨h1, h2⟩ | ⟨h1, h2⟩
    · exact .inr ⟨h2, h1⟩
    · exact .inl ⟨h2, h1⟩
theorem dot_qt (x y A B : Int) (hx : mulF x x = .ok A) (hy : mulF y y = .ok B) (q : Nat) : dotF (qt (x, y) q).1 (qt (x, y) q).2 (qt (x, y) q).1 (qt (x, y) q).2 = addF A B := by
  unfold dotF
  rcases sq_qt x y A B hx hy q with ⟨h1, h2⟩ | ⟨h1, h2⟩
  · rw [h1, h2]; rfl
  · rw [h1, h2]; exact addF_comm _ _
theorem of_long (a : Int) : ∃ s : Int, dotF (valX (ofF a)) (valY (ofF a)) (valX (ofF a)) (valY (ofF a)) = .ok s ∧ 18446744073709547520 ≤ s ∧ s ≤ 18446744073709555712 := by
  obtain ⟨p, h1, h2, h3⟩ := of_dir a
  rw [h3]
  show ∃ s, dotF (qt _ _).1 (qt _ _).2 (qt _ _).1 (qt _ _).2 = _ ∧ _
  unfold longN at h2
  simp only [Bool.and_eq_true, Nat.blt_eq, Nat.ble_eq] at h2
  obtain ⟨⟨_, h4, h5⟩, h6, h7⟩ := h2
  have e1 := mulF_nat (pX p) (pX p) (by omega)
  have e2 := mulF_nat (pY p) (pY p) (by omega)
  rw [dot_qt _ _ _ _ e1 e2]
  refine ⟨((rd (pX p * pX p) : Nat) : Int) + ((rd (pY p * pY p) : Nat) : Int), ?_, by omega, by omega⟩
  exact addF_ok _ _ (by omega)
end Go.Proofs.YtpbklojdmkpkcaaDoor
