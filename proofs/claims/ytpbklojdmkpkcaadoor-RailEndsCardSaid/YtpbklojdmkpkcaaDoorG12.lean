import Derived.Test.YtpbklojdmkpkcaaDoorCards
import Derived.Test.YtpbklojdmkpkcaaDoorTie
import Derived.ProofKit
import Derived.OpenShut
import Derived.Carry
import Derived.Deep.DeepHandedRow
import Derived.Lib.LaidTab
import Derived.Test.YtpbklojdmkpkcaaDoorG11
/- What the rows' readings give: numbers, ways, the table. -/
namespace Go.Proofs.YtpbklojdmkpkcaaDoor
open Go.ChangeShapes Go.WideShapes Go.ChangeAt Go.RowKit
set_option linter.unusedSimpArgs false
set_option linter.unusedVariables false
theorem cellsFix : Tryd.prog.cellsOf 24 = 2 := by kernel_rfl
theorem cellsVec : Tryd.prog.cellsOf 26 = 4 := by kernel_rfl
theorem cellsI64 : Tryd.prog.cellsOf 2 = 1 := by kernel_rfl
theorem cellsU64 : Tryd.prog.cellsOf 22 = 1 := by kernel_rfl
section
variable {H : Type} {enc : TypeId × Value → H} {w : World} {base : Nat} {spare : Nat → Bool} {held : Bool} {fuel : Nat} {cs : List Value} {x : DataW H × List MemPlace}
set_option maxRecDepth 100000 in
theorem trod_Fix (h : DataW.trod enc Tryd.prog w base spare held fuel 24 cs = some x) :
    ∃ a b : Int, cs = [.int .i64 a, .int .u64 b] ∧ x = (.agg [.lit (.int .i64 a), .lit (.int .u64 b)], []) ∧ (Lit.int .i64 a).wf = true ∧ (Lit.int .u64 b).wf = true := by
  obtain ⟨xs, n, rfl, rfl, hl, hx, hf⟩ := DataW.trod_struct Tryd.underlying24 h
  rw [cellsFix] at hl
  match cs, hl with
  | [c0, c1], _ =>
    match xs, hx with
    | [y0, y1], _ =>
      have h0 : DataW.trod enc Tryd.prog w base spare held n 2 (([c0, c1].drop 0).take (Tryd.prog.cellsOf 2)) = [y0, y1][0]? := hf 0 _ rfl
      have h1 : DataW.trod enc Tryd.prog w base spare held n 22 (([c0, c1].drop 1).take (Tryd.prog.cellsOf 22)) = [y0, y1][1]? := hf 1 _ rfl
      rw [cellsI64] at h0
      rw [cellsU64] at h1
      obtain ⟨a, e0, r0, w0⟩ := DataW.trod_int Tryd.underlying2 h0
      obtain ⟨b, e1, r1, w1⟩ := DataW.trod_int Tryd.underlying22 h1
      simp at e0 e1
      subst e0 e1 r0 r1
      exact ⟨a, b, rfl, rfl, w0, w1⟩
set_option maxRecDepth 100000 in
theorem trod_Vec (h : DataW.trod enc Tryd.prog w base spare held fuel 26 cs = some x) :
    ∃ a b c d : Int, cs = [.int .i64 a, .int .u64 b, .int .i64 c, .int .u64 d] ∧ x = (.agg [.agg [.lit (.int .i64 a), .lit (.int .u64 b)], .agg [.lit (.int .i64 c), .lit (.int .u64 d)]], []) ∧
      (Lit.int .i64 a).wf = true ∧ (Lit.int .u64 b).wf = true ∧ (Lit.int .i64 c).wf = true ∧ (Lit.int .u64 d).wf = true := by
  obtain ⟨xs, n, rfl, rfl, hl, hx, hf⟩ := DataW.trod_struct Tryd.underlying26 h
  rw [cellsVec] at hl
  match cs, hl with
  | [c0, c1, c2, c3], _ =>
    match xs, hx with
    | [y0, y1], _ =>
      have h0 : DataW.trod enc Tryd.prog w base spare held n 24 (([c0, c1, c2, c3].drop 0).take (Tryd.prog.cellsOf 24)) = [y0, y1][0]? := hf 0 _ rfl
      have h1 : DataW.trod enc Tryd.prog w base spare held n 24 (([c0, c1, c2, c3].drop 2).take (Tryd.prog.cellsOf 24)) = [y0, y1][1]? := hf 1 _ rfl
      rw [cellsFix] at h0 h1
      obtain ⟨a, b, e0, r0, w0, w1⟩ := trod_Fix h0
      obtain ⟨c, d, e1, r1, w2, w3⟩ := trod_Fix h1
      simp at e0 e1
      obtain ⟨rfl, rfl⟩ := e0
      obtain ⟨rfl, rfl⟩ := e1
      subst r0 r1
      exact ⟨a, b, c, d, rfl, rfl, w0, w1, w2, w3⟩
end
set_option maxRecDepth 100000 in
theorem shut_Vec {H : Type} {enc : TypeId × Value → H} {w : World} {base : Nat} {spare : Nat → Bool} {held : Bool} {a b c d : Int} (w0 : (Lit.int .i64 a).wf = true) (w1 : (Lit.int .u64 b).wf = true) (w2 : (Lit.int .i64 c).wf = true) (w3 : (Lit.int .u64 d).wf = true) :
    DataW.Trod enc Tryd.prog w base spare held 26 (.agg #[.int .i64 a, .int .u64 b, .int .i64 c, .int .u64 d]) (.agg [.agg [.lit (.int .i64 a), .lit (.int .u64 b)], .agg [.lit (.int .i64 c), .lit (.int .u64 d)]]) [] :=
  ⟨3, by simp [Value.cells, DataW.trod, Tryd.underlying26, Tryd.underlying24, Tryd.underlying2, Tryd.underlying22, cellsVec, cellsFix, cellsI64, cellsU64, w0, w1, w2, w3]⟩
theorem u64_wf {b : Int} (h : (Lit.int .u64 b).wf = true) : 0 ≤ b ∧ b < 18446744073709551616 := by
  simp [Lit.wf, IntKind.min, IntKind.max, IntKind.signed, IntKind.bits] at h; omega
theorem i64_wf {b : Int} (h : (Lit.int .i64 b).wf = true) : -9223372036854775808 ≤ b ∧ b ≤ 9223372036854775807 := by
  simp [Lit.wf, IntKind.min, IntKind.max, IntKind.signed, IntKind.bits] at h; omega
theorem i32_wf {b : Int} (h : (Lit.int .i32 b).wf = true) : -2147483648 ≤ b ∧ b ≤ 2147483647 := by
  simp [Lit.wf, IntKind.min, IntKind.max, IntKind.signed, IntKind.bits] at h; omega
theorem may_F {a b : Int} (w0 : (Lit.int .i64 a).wf = true) (w1 : (Lit.int .u64 b).wf = true) (h : (a != -9223372036854775808 || b != 0) = true) : F (val2 a b) ∧ hi (val2 a b) = a ∧ lo (val2 a b) = b := by
  have h0 := i64_wf w0
  have h1 := u64_wf w1
  rw [Bool.or_eq_true, bne_iff_ne, bne_iff_ne] at h
  haveI : U b := ⟨h1⟩
  refine ⟨⟨?_⟩, hi_val2 a b, lo_val2 a b⟩
  unfold val2; omega
theorem own : ownKnob Tryd.prog.godebug = none := by kernel_rfl
/-- A world for the witnesses: the settled one, the table holding what its initialiser lays. -/
noncomputable def laidWorld (os : Os) : World :=
  { World.holding Tryd.prog os ⟨#[], #[], []⟩ with heap := (World.holding Tryd.prog os ⟨#[], #[], []⟩).heap.modify 0 fun
      | .cells _ t frozen => .cells tabCells t frozen
      | o => o }
theorem flat4 (cs : List Value) : ∀ n : Nat, (List.range n).flatMap (fun i => (cs.drop (i * 4)).take 4) = cs.take (n * 4)
  | 0 => by simp
  | n + 1 => by
    rw [List.range_succ, List.flatMap_append, flat4 cs n, Nat.add_mul, Nat.one_mul, List.take_add]
    simp
theorem gTab : Tryd.prog.globalNamed "perigee/turn.table" = some 0 := by kernel_rfl
theorem gTabType : (Tryd.prog.globals[0]?).map (·.type) = some 113 := by kernel_rfl
theorem cellsTab : Tryd.prog.cellsOf 113 = 56 := by kernel_rfl
theorem laid_is : (Rows.laid_perigee_turn_table : DataW Unit) = .agg ((List.range 14).map fun k => .agg [.agg [.lit (.int .i64 0), .lit (.int .u64 (tabX k))], .agg [.lit (.int .i64 0), .lit (.int .u64 (tabY k))]]) := rfl
set_option maxRecDepth 100000 in
theorem tab_of_laid {W : World} (h : laidMetH Tryd.prog [("perigee/turn.table", Rows.laid_perigee_turn_table)] W) : Tab W := by
  obtain ⟨ps, ⟨g, t, cs, fuel, p, q, hg, ht, hvar, hd, _, _⟩, _⟩ := (show laidMet Tryd.prog [("perigee/turn.table", Rows.laid_perigee_turn_table)] W from h)
  obtain rfl := Option.some.inj (gTab.symm.trans hg)
  obtain rfl := Option.some.inj (gTabType.symm.trans ht)
  obtain ⟨xs, m, rfl, hx, hl, hn, he⟩ := DataW.trod_array Tryd.underlying113 hd
  rw [cellsTab] at hl
  rw [cellsVec] at he
  rw [laid_is] at hx
  simp only [Prod.mk.injEq, DataW.agg.injEq] at hx
  have hx1 := hx.1
  have key : ∀ i, i < 14 → (cs.toList.drop (i * 4)).take 4 = [.int .i64 0, .int .u64 (tabX i), .int .i64 0, .int .u64 (tabY i)] := by
    intro i hi
    have h1 := he i hi
    have h2 : xs[i]? = some (xs[i]'(by omega)) := List.getElem?_eq_getElem (by omega)
    rw [h2] at h1
    obtain ⟨a, b, c, d, e1, e2, _, _, _, _⟩ := trod_Vec h1
    have h3 : (xs.map (·.1))[i]? = some (xs[i]'(by omega)).1 := by rw [List.getElem?_map, h2]; rfl
    rw [← hx1, e2] at h3
    simp [hi] at h3
    obtain ⟨⟨rfl, rfl⟩, rfl, rfl⟩ := h3
    exact e1
  have e : cs = tabCells := by
    have h4 := flat4 cs.toList 14
    rw [List.take_of_length_le (by omega)] at h4
    have h5 : (List.range 14).flatMap (fun i => (cs.toList.drop (i * 4)).take 4) = (List.range 14).flatMap fun k => [Value.int .i64 0, Value.int .u64 (tabX k), Value.int .i64 0, Value.int .u64 (tabY k)] := by
      rw [List.flatMap_def, List.flatMap_def]
      exact congrArg List.flatten (List.map_congr_left fun i hi => key i (by simpa using hi))
    rw [h5] at h4
    unfold tabCells
    rw [h4]
  subst e
  unfold World.var? at hvar
  rw [gTab] at hvar
  simp only [Option.bind_some] at hvar
  split at hvar
  · rename_i c t fr hb
    cases hvar
    exact ⟨t, fr, hb⟩
  · cases hvar
end Go.Proofs.YtpbklojdmkpkcaaDoor
