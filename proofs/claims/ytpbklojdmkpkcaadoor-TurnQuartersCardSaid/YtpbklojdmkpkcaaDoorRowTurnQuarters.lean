/- The law TurnQuarters returns true for every input, in every world that holds the table of directions: the row's statement, and its tied card. No condition beside the listed table. -/
import Derived.Test.YtpbklojdmkpkcaaDoorLawTurnA
import Derived.Test.YtpbklojdmkpkcaaDoorKit
namespace Go.Proofs.YtpbklojdmkpkcaaDoor.turnQuarters
open Go.ChangeShapes Go.WideShapes Go.ChangeAt Go.RowKit
set_option linter.unusedVariables false
theorem walk (n a b c d : Int) (w0 : (Lit.int .i32 n).wf = true) (w1 : (Lit.int .i64 a).wf = true) (w2 : (Lit.int .u64 b).wf = true) (w3 : (Lit.int .i64 c).wf = true) (w4 : (Lit.int .u64 d).wf = true) (w : World) (hT : Tab w) :
    Calls Tryd.prog 3 #[.int .i32 n, .agg #[.int .i64 a, .int .u64 b, .int .i64 c, .int .u64 d]] w fun e w' => e = .returned (.bool true) ∧ Below w.heap.size w w' := by
  cases h : (mayF a b && mayF c d)
  · exact turnQuarters_no n a b c d (i32_wf w0) h w hT
  · rw [Bool.and_eq_true] at h
    obtain ⟨f1, e1, e2⟩ := may_F w1 w2 h.1
    obtain ⟨f2, e3, e4⟩ := may_F w3 w4 h.2
    have := turnQuarters_yes n (val2 a b) (val2 c d) (i32_wf w0) w hT
    unfold vec at this
    rwa [e1, e2, e3, e4] at this
set_option maxRecDepth 100000 in
theorem contract (H : Type) (enc : TypeId × Value → H) (W : World) (base : Nat) (args : Array Value) (ds gs : List (DataW H)) (before : List MemPlace)
    (hval : ∀ (j : Nat) t v, Tryd.f3.params[j]? = some t → args[j]? = some v → Value.okWide Tryd.prog W .any base t v)
    (hW : DataW.Whole enc Tryd.prog Tryd.f3.params.toList Rows.turnQuartersSpec.vars false W args.toList ds gs before) (hL : laidMetH Tryd.prog Rows.turnQuartersRow.laid W) :
    Calls Tryd.prog 3 args W fun e W' => ∃ v, e = .returned v ∧ Rows.turnQuartersSpec.post enc Tryd.prog Tryd.f3 false true false false W args v W' := by
  have hW' := hW
  obtain ⟨p, q, hA0, hV, rfl, hfz, hnd⟩ := hW
  have hA : DataW.TrodAll enc Tryd.prog W 0 (fun _ => true) true Tryd.f3.params.toList args.toList ds p := hA0
  rw [Tryd.params3] at hA hval
  obtain ⟨v0, vs0, d0, ds0, p0, q0, hargs, rfl, rfl, h0, r0⟩ := trodAll_cons hA
  obtain ⟨v1, vs1, d1, ds1, p1, q1, rfl, rfl, rfl, h1, r1⟩ := trodAll_cons r0
  obtain ⟨rfl, rfl, rfl⟩ := trodAll_nil r1
  obtain rfl : args = #[v0, v1] := by cases args; simp_all
  obtain ⟨rfl, rfl⟩ := trodVars_none hV
  obtain ⟨n, rfl, rfl, rfl, w0⟩ := open_int Tryd.underlying21 (hval 0 21 v0 rfl rfl) h0
  obtain ⟨cs, rfl, hcs⟩ := okWide_struct Tryd.underlying26 (hval 1 26 v1 rfl rfl)
  obtain ⟨fuel, h1⟩ := h1
  obtain ⟨a, b, c, d, e1, e2, w1, w2, w3, w4⟩ := trod_Vec h1
  obtain rfl : cs = #[.int .i64 a, .int .u64 b, .int .i64 c, .int .u64 d] := by cases cs; simpa [Value.cells] using e1
  simp only [Prod.mk.injEq] at e2
  obtain ⟨rfl, rfl⟩ := e2
  clear hA0
  simp only [List.append_nil] at hW'
  refine (walk n a b c d w0 w1 w2 w3 w4 W (tab_of_laid hL)).mono fun e W' ⟨he, hb⟩ => ?_
  subst he
  exact ⟨_, rfl, _, _, _, [], _, [], hW', trodAll_mk1 (shut_bool Tryd.underlying4 _),
    (trodAll_cons_mk (shut_int Tryd.underlying21 w0) (trodAll_cons_mk (shut_Vec w1 w2 w3 w4) trodAll_mk0)), rfl, hb.frame _, fun h => by cases h⟩
theorem laid_met (os : Os) : laidMet Tryd.prog Rows.turnQuartersRow.laid ((laidWorld os).forCall (fun _ _ => 0) ⟨#[], #[.int .i32 0, .agg #[.int .i64 0, .int .u64 0, .int .i64 0, .int .u64 0]], []⟩).memory :=
  laidMet_of_run' 8 (by kernel_rfl) (by kernel_rfl)
theorem reads (os : Os) {H : Type} (enc : TypeId × Value → H) : ∃ places, DataW.whole enc Tryd.prog ((laidWorld os).forCall (fun _ _ => 0) ⟨#[], #[.int .i32 0, .agg #[.int .i64 0, .int .u64 0, .int .i64 0, .int .u64 0]], []⟩).memory Tryd.f3.params.toList Rows.turnQuartersSpec.vars false #[Value.int .i32 0, .agg #[.int .i64 0, .int .u64 0, .int .i64 0, .int .u64 0]].toList 8 =
    some ([.lit (.int .i32 0), .agg [.agg [.lit (.int .i64 0), .lit (.int .u64 0)], .agg [.lit (.int .i64 0), .lit (.int .u64 0)]]], [], places) :=
  ⟨[], by kernel_rfl⟩
set_option maxRecDepth 100000 in
theorem lifted (os : Os) (started : os.Started) (H : Type) (enc : TypeId × Value → H) (Fi : Stop.Interp) :
    ReturnsInHanded {} Tryd.checked os 3 .any ((OpenSpec.ofChange Rows.turnQuartersSpec).preRow enc Tryd.prog Tryd.f3 Rows.turnQuartersRow.domain false Rows.turnQuartersRow.laid) (((OpenSpec.ofChange Rows.turnQuartersSpec).at Fi).post enc Tryd.prog Tryd.f3 false true false false) := by
  obtain ⟨places, hx⟩ := reads os enc
  refine returnsInHanded_of_row (C := Tryd.checked) (s := OpenSpec.ofChange Rows.turnQuartersSpec) own started (by kernel_rfl) Tryd.func3
    (witness_row_at (enc := enc) (C := Tryd.checked) false (laidWorld os) #[.int .i32 0, .agg #[.int .i64 0, .int .u64 0, .int .i64 0, .int .u64 0]] rfl (by kernel_rfl) (by kernel_rfl) (by kernel_rfl)
      (OpenSpec.preRow_of_cond 8 hx (by kernel_rfl) (fun k hk => by cases hk) (by kernel_rfl) (laid_met os))) ?_
  intro W base args ds gs before hval hW _ _ _ hL _ _
  exact contract H enc W base args ds gs before hval hW hL
theorem said : Rows.TurnQuartersSaid :=
  OpenClaim.holds_of_cond 3 Tryd.f3 rfl rfl rfl rfl rfl rfl rfl ⟨rfl, rfl, rfl, rfl, rfl⟩ rfl rfl rfl rfl rfl (by kernel_rfl) Tryd.func3 (by kernel_rfl)
    (of_decide_eq_true (by kernel_rfl)) (by unfold Func.isWrapper; first | (rw [if_pos (by decide +kernel)]; kernel_rfl) | (rw [if_neg (by decide +kernel)]; exact ⟨rfl, rfl⟩))
    (fun os started H enc _ Fi => by rw [OpenClaim.pre_eq_preRow]; exact lifted os started H enc Fi)
theorem plain (f : FuncId) (fn : Func) (hf : Tryd.pinned.checked.prog.funcNamed "perigee/perigeelaw5.TurnQuarters" = some f) (hfn : Tryd.pinned.checked.prog.funcs[f]? = some fn) :
    false = Tryd.pinned.checked.prog.looks [] ∧ ∀ (j : Nat) t, fn.params[j]? = some t → Tryd.pinned.checked.prog.wantsStandIn t = false := by
  obtain rfl : f = 3 := Option.some.inj ((show Tryd.prog.funcNamed "perigee/perigeelaw5.TurnQuarters" = some 3 by kernel_rfl).symm.trans hf) |>.symm
  obtain rfl : fn = Tryd.f3 := (Option.some.inj (Tryd.func3.symm.trans hfn)).symm
  refine ⟨by kernel_rfl, fun j t ht => ?_⟩
  rw [Tryd.params3] at ht
  have hm := Array.mem_of_getElem? ht
  simp only [List.mem_toArray, List.mem_cons, List.not_mem_nil, or_false] at hm
  rcases hm with rfl | rfl
  · exact (show Tryd.prog.wantsStandIn 21 = false by kernel_rfl)
  · exact (show Tryd.prog.wantsStandIn 26 = false by kernel_rfl)
/-- The card. -/
theorem card : Rows.TurnQuartersCardSaid :=
  Claim7.holds_tied_plain_at .later [] _ _ _ _ said (fun _ h => by cases h) (by kernel_rfl) (fun _ h => by cases h) turnQuarters_row_tie rfl ⟨rfl, rfl⟩ (by kernel_rfl) rfl plain (by kernel_rfl)
#print axioms card
end Go.Proofs.YtpbklojdmkpkcaaDoor.turnQuarters
