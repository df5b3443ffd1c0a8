/- turn: any angle. -/
import Derived.Test.YtpbklojdmkpkcaaDoorTurnA
import Derived.Lib.Hide
namespace Go.Proofs.YtpbklojdmkpkcaaDoor
open Go.RowKit
set_option linter.unusedSimpArgs false
set_option linter.unusedVariables false
/-- The table's numbers (lower words; all upper words are nought). -/
def tabX : Nat → Int
  | 0 => 13043817825332782212 | 1 => 17042569291174129989 | 2 => 18092295058859852118 | 3 => 18357917958986607856 | 4 => 18424524162600791837 | 5 => 18441188259278644697 | 6 => 18445355067807029947
  | 7 => 18446396818965434987 | 8 => 18446657259819241109 | 9 => 18446722370224206390 | 10 => 18446738647837417334 | 11 => 18446742717241468172 | 12 => 18446743734592527637 | 13 => 18446743988930295426 | _ => 0
def tabY : Nat → Int
  | 0 => 13043817825332782212 | 1 => 7059263338087549766 | 2 => 3598781241489102190 | 3 => 1808097102496279522 | 4 => 905138830610008564 | 5 => 452705761816584075 | 6 => 226369926147403944
  | 7 => 113187093788755799 | 8 => 56593813235639861 | 9 => 28296939910536567 | 10 => 14148474116859560 | 11 => 7074237578628960 | 12 => 3537118854339415 | 13 => 1768559435302795 | _ => 0
def tabCells : Array Value := ((List.range 14).flatMap fun k => [Value.int .i64 0, Value.int .u64 (tabX k), Value.int .i64 0, Value.int .u64 (tabY k)]).toArray
/-- The world holds the table. -/
def Tab (w : World) : Prop := ∃ t fr, w.heap[0]? = some (.cells tabCells t fr)
theorem Tab.below {w w' : World} (h : Tab w) (hb : Below w.heap.size w w') : Tab w' := by
  obtain ⟨t, fr, h⟩ := h
  refine ⟨t, fr, ?_⟩
  rw [hb.block _ (Array.getElem?_eq_some_iff.1 h).1]; exact h
/-- A call that only computes, in a world that holds the table. -/
def GivesT (f : FuncId) (args : Array Value) (v : Value) : Prop :=
  ∀ w : World, Tab w → Calls Tryd.prog f args w fun e w' => e = .returned v ∧ Below w.heap.size w w'
theorem tab_lt (k : Nat) : 0 ≤ tabX k ∧ tabX k < 18446744073709551616 ∧ 0 ≤ tabY k ∧ tabY k < 18446744073709551616 := by
  match k with
  | 0 | 1 | 2 | 3 | 4 | 5 | 6 | 7 | 8 | 9 | 10 | 11 | 12 | 13 => decide
  | n + 14 => exact ⟨Int.le_refl 0, by show (0 : Int) < 18446744073709551616; decide, Int.le_refl 0, by show (0 : Int) < 18446744073709551616; decide⟩
instance (k : Nat) : F (tabX k) := ⟨by have := tab_lt k; omega⟩
instance (k : Nat) : F (tabY k) := ⟨by have := tab_lt k; omega⟩
theorem tab_vec (k : Nat) : vec (tabX k) (tabY k) = .agg #[.int .i64 0, .int .u64 (tabX k), .int .i64 0, .int .u64 (tabY k)] := by
  have := tab_lt k
  unfold vec hi lo
  rw [show tabX k / 18446744073709551616 = 0 by omega, show tabY k / 18446744073709551616 = 0 by omega, show tabX k % 18446744073709551616 = tabX k by omega, show tabY k % 18446744073709551616 = tabY k by omega]
theorem tab_index (k : Nat) (hk : k < 14) (w : World) : (Instr.index 113 (.agg tabCells) (.int .i64 (k : Int))).run Tryd.prog w = .ok (vec (tabX k) (tabY k)) w := by
  rw [tab_vec]
  rcases k with _ | _ | _ | _ | _ | _ | _ | _ | _ | _ | _ | _ | _ | _ | k
  all_goals first | (exfalso; omega) | kernel_rfl
theorem and_full (a : Int) (h : -9223372036854775808 ≤ a ∧ a ≤ 9223372036854775807) : bits .and .i64 a 65535 = a % 65536 := by
  show IntKind.i64.wrap ((BitVec.ofInt 64 a &&& BitVec.ofInt 64 65535).toNat : Int) = _
  have e : (BitVec.ofInt 64 65535).toNat = 2 ^ 16 - 1 := by decide
  rw [BitVec.toNat_and, e, Nat.and_two_pow_sub_one_eq_mod, BitVec.toNat_ofInt, IntKind.wrap_i64]
  omega

theorem and_1 (n : Int) (h : 0 ≤ n ∧ n ≤ 65535) : bits .and .i64 n 1 = n % 2 := by
  show IntKind.i64.wrap ((BitVec.ofInt 64 n &&& BitVec.ofInt 64 1).toNat : Int) = _
  have e : (BitVec.ofInt 64 1).toNat = 2 ^ 1 - 1 := by decide
  rw [BitVec.toNat_and, e, Nat.and_two_pow_sub_one_eq_mod, BitVec.toNat_ofInt, IntKind.wrap_i64]
  omega
/-- The way behind so many steps, or the error. -/
def rotL (m x y : Int) : Nat → Except Int (Int × Int)
  | 0 => .ok (x, y)
  | k + 1 => match rotL m x y k with
    | .error e => .error e
    | .ok u => if (m / 2 ^ (13 - k) % 2 == 0) = true then .ok u else byF u.1 u.2 (tabX k) (tabY k)
theorem rotL_skip {m x y : Int} {k : Nat} {u : Int × Int} (h : rotL m x y k = .ok u) (hb : (m / 2 ^ (13 - k) % 2 == 0) = true) : rotL m x y (k + 1) = .ok u := by
  simp only [rotL, h]; rw [if_pos hb]
theorem rotL_by {m x y : Int} {k : Nat} {u : Int × Int} (h : rotL m x y k = .ok u) (hb : (m / 2 ^ (13 - k) % 2 == 0) = false) : rotL m x y (k + 1) = byF u.1 u.2 (tabX k) (tabY k) := by
  simp only [rotL, h]; rw [if_neg (by rw [hb]; decide)]
theorem rotL_err {m x y e : Int} {k : Nat} (h : rotL m x y k = .error e) : ∀ n, rotL m x y (k + n) = .error e
  | 0 => h
  | n + 1 => by show rotL m x y (k + n + 1) = _; simp only [rotL, rotL_err h n]
theorem way_ok' (u : Int × Int) : way (.ok u) = .tuple #[vec u.1 u.2, .int .i64 0] := rfl
/-- So many quarters more. -/
def qt (v : Int × Int) : Nat → Int × Int
  | 0 => v
  | k + 1 => (-(qt v k).2, (qt v k).1)
theorem qt_F (v : Int × Int) (h1 : F v.1) (h2 : F v.2) : ∀ k, F (qt v k).1 ∧ F (qt v k).2
  | 0 => ⟨h1, h2⟩
  | k + 1 => by
    obtain ⟨i1, i2⟩ := qt_F v h1 h2 k
    exact ⟨by show F (-(qt v k).2); infer_instance, i1⟩
def rotM (m x y : Int) : Except Int (Int × Int) := match rotL m x y 14 with
  | .error e => .error e
  | .ok u => .ok (qt u (m / 16384).toNat)
/-- A way turned, or the error. -/
def rotF (x y a : Int) : Except Int (Int × Int) := rotM (a % 65536) x y
theorem rotM_err {m x y e : Int} {k : Nat} (hk : k ≤ 14) (h : rotL m x y k = .error e) : rotM m x y = .error e := by
  have := rotL_err h (14 - k)
  rw [show k + (14 - k) = 14 from by omega] at this
  unfold rotM; rw [this]
theorem rotM_ok {m x y : Int} {u : Int × Int} (h : rotL m x y 14 = .ok u) : rotM m x y = .ok (qt u (m / 16384).toNat) := by
  unfold rotM; rw [h]
/-- A way lies in a block, and may be written over. -/
def VecAt (w : World) (b : Nat) (x y : Int) : Prop :=
  w.cell? ⟨b, 0, none⟩ = some (.int .i64 (hi x)) ∧ w.cell? ⟨b, 1, none⟩ = some (.int .u64 (lo x)) ∧ w.cell? ⟨b, 2, none⟩ = some (.int .i64 (hi y)) ∧ w.cell? ⟨b, 3, none⟩ = some (.int .u64 (lo y)) ∧
  w.frozen? ⟨b, 0, none⟩ = false ∧ w.frozen? ⟨b, 1, none⟩ = false ∧ w.frozen? ⟨b, 2, none⟩ = false ∧ w.frozen? ⟨b, 3, none⟩ = false
def RotRel (m x y : Int) (w wr : World) (k : Nat) : Prop := ∃ ux uy : Int, rotL m x y k = .ok (ux, uy) ∧ F ux ∧ F uy ∧ w.heap.size + 1 < wr.heap.size ∧ Below w.heap.size w wr ∧ VecAt wr w.heap.size ux uy ∧ VecAt wr (w.heap.size + 1) 0 0
def RotEnd (w wr : World) (ux uy : Int) : Prop := F ux ∧ F uy ∧ w.heap.size + 1 < wr.heap.size ∧ Below w.heap.size w wr ∧ VecAt wr w.heap.size ux uy ∧ VecAt wr (w.heap.size + 1) 0 0
set_option maxRecDepth 100000 in
set_option maxHeartbeats 3200000 in
theorem turn_Rotate (x y a : Int) [hx : F x] [hy : F y] (ha : -9223372036854775808 ≤ a ∧ a ≤ 9223372036854775807) : GivesT 26 #[vec x y, .int .i64 a] (way (rotF x y a)) := by
  intro w hT
  obtain ⟨t, fr, hT⟩ := hT
  have h0 : 0 < w.heap.size := (Array.getElem?_eq_some_iff.1 hT).1
  have HT := Lib.hid hT
  clear hT
  have hm := and_full a ha
  have hm0 : 0 ≤ a % 65536 := by omega
  have hm1 : a % 65536 ≤ 65535 := by omega
  unfold rotF
  go_enter Tryd.func26, Tryd.ntmps26
  go_wp2_with (refine wpList_load_row rfl _ _ rfl 0 rfl t tabCells fr _ (((by (repeat (first | (with_reducible exact Below.refl _ _) | (with_reducible assumption) | (with_reducible refine Below.alloc ?_ (by first | (with_reducible exact Nat.le_refl _) | omega | (simp <;> omega)) _) | (with_reducible refine Below.setCell ?_ (by first | (with_reducible exact Nat.le_refl _) | omega | (simp <;> omega)) _) | (with_reducible refine Below.drew ?_) | (with_reducible refine bel_step (by assumption) ?_ (by first | (with_reducible exact Nat.le_refl _) | omega | (simp <;> omega))))) : Below w.heap.size w _).block 0 h0).trans HT.out) Tryd.underlying113 rfl (by kernel_rfl) ?_)
  clear hm
  generalize hE : a % 65536 = m at *
  have HE := Lib.hid hE
  clear hE
  go_loopw [13] (fun s wr => ∃ k : Nat, k ≤ 14 ∧ s = .int .i64 k ∧ RotRel m x y w wr k) (fun s _ => 14 - (intOf s).toNat)
  case atStart =>
    refine ⟨0, by omega, rfl, x, y, rfl, hx, hy, by (first | omega | (simp <;> omega)), by (repeat (first | (with_reducible exact Below.refl _ _) | (with_reducible assumption) | (with_reducible refine Below.alloc ?_ (by first | (with_reducible exact Nat.le_refl _) | omega | (simp <;> omega)) _) | (with_reducible refine Below.setCell ?_ (by first | (with_reducible exact Nat.le_refl _) | omega | (simp <;> omega)) _) | (with_reducible refine Below.drew ?_) | (with_reducible refine bel_step (by assumption) ?_ (by first | (with_reducible exact Nat.le_refl _) | omega | (simp <;> omega))))), ?_, ?_⟩
    · unfold VecAt; refine ⟨?_, ?_, ?_, ?_, ?_, ?_, ?_, ?_⟩ <;> (simp (maxDischargeDepth := 8) [go_sem, *]; done)
    · unfold VecAt; rw [hi_0, lo_0]; refine ⟨?_, ?_, ?_, ?_, ?_, ?_, ?_, ?_⟩ <;> (simp (maxDischargeDepth := 8) [go_sem, *]; done)
  case round =>
    obtain ⟨k, hk, rfl, ux, uy, hr, fx, fy, hz, hbx, hv, hr0⟩ := hrel
    have HR := Lib.hid hr
    have HZ := Lib.hid hr0
    clear hr
    unfold VecAt at hv hr0
    obtain ⟨v0, v1, v2, v3, v4, v5, v6, v7⟩ := hv
    obtain ⟨r0, r1, r2, r3, r4, r5, r6, r7⟩ := hr0
    have hz0 : w.heap.size < wr.heap.size := by omega
    by_cases hlt : k < 14
    · have hix := tab_index k hlt
      have hp : 0 ≤ m / 2 ^ (13 - k) ∧ m / 2 ^ (13 - k) ≤ 65535 := by
        refine ⟨Int.ediv_nonneg hm0 (Int.le_of_lt (Int.pow_pos (by decide))), ?_⟩
        exact Int.le_trans (Int.ediv_le_self _ hm0) hm1
      have h1 := and_1 _ hp
      cases hb : (m / 2 ^ (13 - k) % 2 == 0)
      · have HB := Lib.hid hb
        go_wp2_with (go_at_call 67; refine (turn_by _ _ _ _ _).mono ?_; rintro e wn ⟨rfl, hbn⟩; obtain ⟨hcn, hfn, hzn0, hzn1, hzn2, hzn3, hzn4, hzn5, hzn6, hzn7, hzn8⟩ := bcell hbn; (try simp only [World.size_drew] at hcn hfn hzn0 hzn1 hzn2 hzn3 hzn4 hzn5 hzn6 hzn7 hzn8); have hsn := hbn.size; (try simp at hsn); (try have hq0 : w.heap.size < wn.heap.size := by omega); (try have hq1 : w.heap.size + 1 < wn.heap.size := by omega); (try have hq2 : w.heap.size + 1 + 1 < wn.heap.size := by omega); (try have hq3 : w.heap.size + 1 + 1 + 1 < wn.heap.size := by omega); (try have hq4 : w.heap.size + 1 + 1 + 1 + 1 < wn.heap.size := by omega); (try have hq5 : w.heap.size + 1 + 1 + 1 + 1 + 1 < wn.heap.size := by omega); (try have hq6 : w.heap.size + 1 + 1 + 1 + 1 + 1 + 1 < wn.heap.size := by omega); (try have hq7 : w.heap.size + 1 + 1 + 1 + 1 + 1 + 1 + 1 < wn.heap.size := by omega); (try have hggx : gx < wn.heap.size := by omega); (try have hggy : gy < wn.heap.size := by omega); (try have hggz : gz < wn.heap.size := by omega))
        · rw [HE.out, rotM_err (k := k + 1) (by omega) ((rotL_by HR.out HB.out).trans (EW_err ‹_›)), way_error]
          (simp (maxDischargeDepth := 8) [bodyPost, results, Tryd.results26, go_sem, *]; try (repeat (first | (with_reducible exact Below.refl _ _) | (with_reducible assumption) | (with_reducible refine Below.alloc ?_ (by first | (with_reducible exact Nat.le_refl _) | omega | (simp <;> omega)) _) | (with_reducible refine Below.setCell ?_ (by first | (with_reducible exact Nat.le_refl _) | omega | (simp <;> omega)) _) | (with_reducible refine Below.drew ?_) | (with_reducible refine bel_step (by assumption) ?_ (by first | (with_reducible exact Nat.le_refl _) | omega | (simp <;> omega))))))
        · go_roundw
          case rel =>
            refine ⟨k + 1, by omega, by go_num, _, _, (rotL_by HR.out HB.out).trans (byX_ok (by assumption)), inferInstance, inferInstance, by (first | omega | (simp <;> omega)), by (repeat (first | (with_reducible exact Below.refl _ _) | (with_reducible assumption) | (with_reducible refine Below.alloc ?_ (by first | (with_reducible exact Nat.le_refl _) | omega | (simp <;> omega)) _) | (with_reducible refine Below.setCell ?_ (by first | (with_reducible exact Nat.le_refl _) | omega | (simp <;> omega)) _) | (with_reducible refine Below.drew ?_) | (with_reducible refine bel_step (by assumption) ?_ (by first | (with_reducible exact Nat.le_refl _) | omega | (simp <;> omega))))), ?_, ?_⟩
            · unfold VecAt; refine ⟨?_, ?_, ?_, ?_, ?_, ?_, ?_, ?_⟩ <;> (simp (maxDischargeDepth := 8) [go_sem, *]; done)
            · unfold VecAt; refine ⟨?_, ?_, ?_, ?_, ?_, ?_, ?_, ?_⟩ <;> (simp (maxDischargeDepth := 8) [go_sem, *]; done)
          case measure => simp [intOf]; omega
      · have HB := Lib.hid hb
        go_wp2_with fail
        go_roundw
        case rel =>
          refine ⟨k + 1, by omega, by go_num, _, _, rotL_skip HR.out HB.out, fx, fy, by (first | omega | (simp <;> omega)), by (repeat (first | (with_reducible exact Below.refl _ _) | (with_reducible assumption) | (with_reducible refine Below.alloc ?_ (by first | (with_reducible exact Nat.le_refl _) | omega | (simp <;> omega)) _) | (with_reducible refine Below.setCell ?_ (by first | (with_reducible exact Nat.le_refl _) | omega | (simp <;> omega)) _) | (with_reducible refine Below.drew ?_) | (with_reducible refine bel_step (by assumption) ?_ (by first | (with_reducible exact Nat.le_refl _) | omega | (simp <;> omega))))), ?_, ?_⟩
          · unfold VecAt; refine ⟨?_, ?_, ?_, ?_, ?_, ?_, ?_, ?_⟩ <;> (simp (maxDischargeDepth := 8) [go_sem, *]; done)
          · unfold VecAt; refine ⟨?_, ?_, ?_, ?_, ?_, ?_, ?_, ?_⟩ <;> (simp (maxDischargeDepth := 8) [go_sem, *]; done)
        case measure => simp [intOf]; omega
    · have hk14 : 14 ≤ k := by omega
      have HK := Lib.hid (show k = 14 by omega)
      obtain ⟨wo, rfl⟩ : ∃ wo : World, wo = wr := ⟨_, rfl⟩
      go_wp2_with fail
      go_loopw [37] (fun s wr => ∃ j : Nat, (j : Int) ≤ m / 16384 ∧ s = .int .i64 j ∧ RotEnd w wr (qt (ux, uy) j).1 (qt (ux, uy) j).2) (fun s _ => (m / 16384).toNat - (intOf s).toNat)
      case atStart =>
        refine ⟨0, by omega, rfl, fx, fy, hz, hbx, ?_, HZ.out⟩
        unfold VecAt; exact ⟨v0, v1, v2, v3, v4, v5, v6, v7⟩
      case round =>
        clear v0 v1 v2 v3 v4 v5 v6 v7 r0 r1 r2 r3 r4 r5 r6 r7 HZ hz0 hz
        obtain ⟨j, hj, rfl, gx, gy, hz, hby, hv, hr0⟩ := hrel
        have HZ := Lib.hid hr0
        unfold VecAt at hv hr0
        obtain ⟨v0, v1, v2, v3, v4, v5, v6, v7⟩ := hv
        obtain ⟨r0, r1, r2, r3, r4, r5, r6, r7⟩ := hr0
        have hz0 : w.heap.size < wr.heap.size := by omega
        by_cases hlt : (j : Int) < m / 16384
        · go_wp2_with (go_at_call 68; refine (turn_quarter _ _ _).mono ?_; rintro e wn ⟨rfl, hbn⟩; obtain ⟨hcn, hfn, hzn0, hzn1, hzn2, hzn3, hzn4, hzn5, hzn6, hzn7, hzn8⟩ := bcell hbn; (try simp only [World.size_drew] at hcn hfn hzn0 hzn1 hzn2 hzn3 hzn4 hzn5 hzn6 hzn7 hzn8); have hsn := hbn.size; (try simp at hsn); (try have hq0 : w.heap.size < wn.heap.size := by omega); (try have hq1 : w.heap.size + 1 < wn.heap.size := by omega); (try have hq2 : w.heap.size + 1 + 1 < wn.heap.size := by omega); (try have hq3 : w.heap.size + 1 + 1 + 1 < wn.heap.size := by omega); (try have hq4 : w.heap.size + 1 + 1 + 1 + 1 < wn.heap.size := by omega); (try have hq5 : w.heap.size + 1 + 1 + 1 + 1 + 1 < wn.heap.size := by omega); (try have hq6 : w.heap.size + 1 + 1 + 1 + 1 + 1 + 1 < wn.heap.size := by omega); (try have hq7 : w.heap.size + 1 + 1 + 1 + 1 + 1 + 1 + 1 < wn.heap.size := by omega); (try have hggx : gx < wn.heap.size := by omega); (try have hggy : gy < wn.heap.size := by omega); (try have hggz : gz < wn.heap.size := by omega))
          go_roundw
          case rel =>
            refine ⟨j + 1, by omega, by go_num, ?_⟩
            unfold RotEnd
            refine ⟨by show F (-(qt (ux, uy) j).2); infer_instance, gx, by (first | omega | (simp <;> omega)), by (repeat (first | (with_reducible exact Below.refl _ _) | (with_reducible assumption) | (with_reducible refine Below.alloc ?_ (by first | (with_reducible exact Nat.le_refl _) | omega | (simp <;> omega)) _) | (with_reducible refine Below.setCell ?_ (by first | (with_reducible exact Nat.le_refl _) | omega | (simp <;> omega)) _) | (with_reducible refine Below.drew ?_) | (with_reducible refine bel_step (by assumption) ?_ (by first | (with_reducible exact Nat.le_refl _) | omega | (simp <;> omega))))), ?_, ?_⟩
            · show VecAt _ _ (-(qt (ux, uy) j).2) (qt (ux, uy) j).1; unfold VecAt; refine ⟨?_, ?_, ?_, ?_, ?_, ?_, ?_, ?_⟩ <;> (simp (maxDischargeDepth := 8) [go_sem, *]; done)
            · unfold VecAt; refine ⟨?_, ?_, ?_, ?_, ?_, ?_, ?_, ?_⟩ <;> (simp (maxDischargeDepth := 8) [go_sem, *]; done)
          case measure => simp [intOf]; omega
        · have e : (m / 16384).toNat = j := by omega
          have HJ := Lib.hid e
          clear e
          go_wp2_with fail
          rw [HE.out, rotM_ok (HK.out ▸ HR.out), HJ.out, way_ok']
          (simp (maxDischargeDepth := 8) [bodyPost, results, Tryd.results26, go_sem, *]; try (repeat (first | (with_reducible exact Below.refl _ _) | (with_reducible assumption) | (with_reducible refine Below.alloc ?_ (by first | (with_reducible exact Nat.le_refl _) | omega | (simp <;> omega)) _) | (with_reducible refine Below.setCell ?_ (by first | (with_reducible exact Nat.le_refl _) | omega | (simp <;> omega)) _) | (with_reducible refine Below.drew ?_) | (with_reducible refine bel_step (by assumption) ?_ (by first | (with_reducible exact Nat.le_refl _) | omega | (simp <;> omega))))))
/-- An angle's direction. -/
def ofF (a : Int) : Except Int (Int × Int) := rotF 18446744073709551616 0 a
theorem way_zero (x : Int) : (Value.agg #[.int .i64 (hi x), .int .u64 (lo x), .int .i64 0, .int .u64 0]) = vec x 0 := by unfold vec; rw [hi_0, lo_0]
theorem turn_Rotate_0 (x a : Int) [hx : F x] (ha : -9223372036854775808 ≤ a ∧ a ≤ 9223372036854775807) : GivesT 26 #[.agg #[.int .i64 (hi x), .int .u64 (lo x), .int .i64 0, .int .u64 0], .int .i64 a] (way (rotF x 0 a)) := by
  rw [way_zero]; exact turn_Rotate x 0 a ha
instance : F 18446744073709551616 := ⟨by decide⟩
set_option maxHeartbeats 1600000 in
theorem turn_Of (a : Int) (ha : -9223372036854775808 ≤ a ∧ a ≤ 9223372036854775807) : GivesT 21 #[.int .i64 a] (vec (valX (ofF a)) (valY (ofF a))) := by
  intro w hT
  have HA := Lib.hid ha
  unfold ofF
  go_enter Tryd.func21, Tryd.ntmps21
  go_wp2_with (first | (go_at_call 64; refine (fix_Int 1 (by decide) _).mono ?_; rintro e wn ⟨rfl, hbn⟩; obtain ⟨hcn, hfn, hzn0, hzn1, hzn2, hzn3, hzn4, hzn5, hzn6, hzn7, hzn8⟩ := bcell hbn; (try simp only [World.size_drew] at hcn hfn hzn0 hzn1 hzn2 hzn3 hzn4 hzn5 hzn6 hzn7 hzn8); have hsn := hbn.size; (try simp at hsn); (try have hq0 : w.heap.size < wn.heap.size := by omega); (try have hq1 : w.heap.size + 1 < wn.heap.size := by omega); (try have hq2 : w.heap.size + 1 + 1 < wn.heap.size := by omega); (try have hq3 : w.heap.size + 1 + 1 + 1 < wn.heap.size := by omega); (try have hq4 : w.heap.size + 1 + 1 + 1 + 1 < wn.heap.size := by omega); (try have hq5 : w.heap.size + 1 + 1 + 1 + 1 + 1 < wn.heap.size := by omega); (try have hq6 : w.heap.size + 1 + 1 + 1 + 1 + 1 + 1 < wn.heap.size := by omega); (try have hq7 : w.heap.size + 1 + 1 + 1 + 1 + 1 + 1 + 1 < wn.heap.size := by omega); (try have hggx : gx < wn.heap.size := by omega); (try have hggy : gy < wn.heap.size := by omega); (try have hggz : gz < wn.heap.size := by omega)) | (go_at_call 26; refine (turn_Rotate_0 _ _ HA.out _ (Tab.below hT ?_)).mono ?_; (focus ((repeat (first | (with_reducible exact Below.refl _ _) | (with_reducible assumption) | (with_reducible refine Below.alloc ?_ (by first | (with_reducible exact Nat.le_refl _) | omega | (simp <;> omega)) _) | (with_reducible refine Below.setCell ?_ (by first | (with_reducible exact Nat.le_refl _) | omega | (simp <;> omega)) _) | (with_reducible refine Below.drew ?_) | (with_reducible refine bel_step (by assumption) ?_ (by first | (with_reducible exact Nat.le_refl _) | omega | (simp <;> omega))))))); rintro e wn ⟨rfl, hbn⟩; obtain ⟨hcn, hfn, hzn0, hzn1, hzn2, hzn3, hzn4, hzn5, hzn6, hzn7, hzn8⟩ := bcell hbn; (try simp only [World.size_drew] at hcn hfn hzn0 hzn1 hzn2 hzn3 hzn4 hzn5 hzn6 hzn7 hzn8); have hsn := hbn.size; (try simp at hsn); (try have hq0 : w.heap.size < wn.heap.size := by omega); (try have hq1 : w.heap.size + 1 < wn.heap.size := by omega); (try have hq2 : w.heap.size + 1 + 1 < wn.heap.size := by omega); (try have hq3 : w.heap.size + 1 + 1 + 1 < wn.heap.size := by omega); (try have hq4 : w.heap.size + 1 + 1 + 1 + 1 < wn.heap.size := by omega); (try have hq5 : w.heap.size + 1 + 1 + 1 + 1 + 1 < wn.heap.size := by omega); (try have hq6 : w.heap.size + 1 + 1 + 1 + 1 + 1 + 1 < wn.heap.size := by omega); (try have hq7 : w.heap.size + 1 + 1 + 1 + 1 + 1 + 1 + 1 < wn.heap.size := by omega); (try have hggx : gx < wn.heap.size := by omega); (try have hggy : gy < wn.heap.size := by omega); (try have hggz : gz < wn.heap.size := by omega)))
  (simp (maxDischargeDepth := 8) [bodyPost, results, Tryd.results21, go_sem, *]; try (repeat (first | (with_reducible exact Below.refl _ _) | (with_reducible assumption) | (with_reducible refine Below.alloc ?_ (by first | (with_reducible exact Nat.le_refl _) | omega | (simp <;> omega)) _) | (with_reducible refine Below.setCell ?_ (by first | (with_reducible exact Nat.le_refl _) | omega | (simp <;> omega)) _) | (with_reducible refine Below.drew ?_) | (with_reducible refine bel_step (by assumption) ?_ (by first | (with_reducible exact Nat.le_refl _) | omega | (simp <;> omega))))))
end Go.Proofs.YtpbklojdmkpkcaaDoor
