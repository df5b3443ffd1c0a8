/- The law TurnAll returns true for every input, in every world that holds the table of directions: the row's statement, and its tied card. No condition beside the listed table. -/
import Derived.Test.YtpbklojdmkpkcaaDoorLawAll
import Derived.Test.YtpbklojdmkpkcaaDoorKit
namespace Go.Proofs.YtpbklojdmkpkcaaDoor.turnAll
open Go.ChangeShapes Go.WideShapes Go.ChangeAt Go.RowKit
set_option linter.unusedVariables false
theorem wf_i64 {b : Int} (h : (Lit.int .i64 b).wf = true) : -9223372036854775808 ≤ b ∧ b ≤ 9223372036854775807 := by
  simp [Lit.wf, IntKind.min, IntKind.max, IntKind.signed, IntKind.bits] at h; omega
theorem wf_u64 {b : Int} (h : (Lit.int .u64 b).wf = true) : 0 ≤ b ∧ b ≤ 18446744073709551615 := by
  simp [Lit.wf, IntKind.min, IntKind.max, IntKind.signed, IntKind.bits] at h; omega
theorem walk (a0_0 : Int) (w0_0 : (Lit.int .i64 a0_0).wf = true) (a0_1 : Int) (w0_1 : (Lit.int .u64 a0_1).wf = true) (a0_2 : Int) (w0_2 : (Lit.int .i64 a0_2).wf = true) (a0_3 : Int) (w0_3 : (Lit.int .u64 a0_3).wf = true) (a1 : Int) (w1 : (Lit.int .i64 a1).wf = true) (w : World) (hT : Tab w) :
    Calls Tryd.prog 6 #[.agg #[.int .i64 a0_0, .int .u64 a0_1, .int .i64 a0_2, .int .u64 a0_3], .int .i64 a1] w fun e w' => e = .returned (.bool true) ∧ Below w.heap.size w w' :=
  k_l5_TurnAll ⟨⟨a0_0, a0_1⟩, ⟨a0_2, a0_3⟩⟩ a1 ⟨⟨⟨wf_i64 w0_0, wf_u64 w0_1⟩, ⟨wf_i64 w0_2, wf_u64 w0_3⟩⟩, wf_i64 w1⟩ ⟨fun _ => none, fun _ => 0, fun _ => 0⟩ w (TabI_of hT)
set_option maxRecDepth 100000 in
theorem contract (H : Type) (enc : TypeId × Value → H) (W : World) (base : Nat) (args : Array Value) (ds gs : List (DataW H)) (before : List MemPlace)
    (hval : ∀ (j : Nat) t v, Tryd.f6.params[j]? = some t → args[j]? = some v → Value.okWide Tryd.prog W .any base t v)
    (hW : DataW.Whole enc Tryd.prog Tryd.f6.params.toList Rows.turnAllSpec.vars false W args.toList ds gs before) (hL : laidMetH Tryd.prog Rows.turnAllRow.laid W) :
    Calls Tryd.prog 6 args W fun e W' => ∃ v, e = .returned v ∧ Rows.turnAllSpec.post enc Tryd.prog Tryd.f6 false true false false W args v W' := by
  have hW' := hW
  obtain ⟨p, q, hA0, hV, rfl, hfz, hnd⟩ := hW
  have hA : DataW.TrodAll enc Tryd.prog W 0 (fun _ => true) true Tryd.f6.params.toList args.toList ds p := hA0
  rw [Tryd.params6] at hA hval
  obtain ⟨v0, vs0, d0, ds0, p0, q0, hargs, rfl, rfl, h0, r0⟩ := trodAll_cons hA
  obtain ⟨v1, vs1, d1, ds1, p1, q1, rfl, rfl, rfl, h1, r1⟩ := trodAll_cons r0
  obtain ⟨rfl, rfl, rfl⟩ := trodAll_nil r1
  obtain rfl : args = #[v0, v1] := by cases args; simp_all
  obtain ⟨rfl, rfl⟩ := trodVars_none hV
  obtain ⟨cs0, rfl, hcs0⟩ := okWide_struct Tryd.underlying26 (hval 0 26 v0 rfl rfl)
  obtain ⟨fuel0, h0⟩ := h0
  obtain ⟨a0_0, a0_1, a0_2, a0_3, e01, e02, w0_0, w0_1, w0_2, w0_3⟩ := trod_Vec h0
  obtain rfl : cs0 = #[.int .i64 a0_0, .int .u64 a0_1, .int .i64 a0_2, .int .u64 a0_3] := by cases cs0; simpa [Value.cells] using e01
  simp only [Prod.mk.injEq] at e02
  obtain ⟨rfl, rfl⟩ := e02
  obtain ⟨a1, rfl, rfl, rfl, w1⟩ := open_int Tryd.underlying3 (hval 1 3 v1 rfl rfl) h1
  clear hA0
  simp only [List.append_nil] at hW'
  refine (walk a0_0 w0_0 a0_1 w0_1 a0_2 w0_2 a0_3 w0_3 a1 w1 W (tab_of_laid hL)).mono fun e W' ⟨he, hb⟩ => ?_
  subst he
  exact ⟨_, rfl, _, _, _, [], _, [], hW', trodAll_mk1 (shut_bool Tryd.underlying4 _),
    (trodAll_cons_mk (shut_Vec w0_0 w0_1 w0_2 w0_3) (trodAll_cons_mk (shut_int Tryd.underlying3 w1) trodAll_mk0)), rfl, hb.frame _, fun h => by cases h⟩
theorem laid_met (os : Os) : laidMet Tryd.prog Rows.turnAllRow.laid ((laidWorld os).forCall (fun _ _ => 0) ⟨#[], #[.agg #[.int .i64 0, .int .u64 0, .int .i64 0, .int .u64 0], Value.int .i64 0], []⟩).memory :=
  laidMet_of_run' 8 (by kernel_rfl) (by kernel_rfl)
theorem reads (os : Os) {H : Type} (enc : TypeId × Value → H) : ∃ places, DataW.whole enc Tryd.prog ((laidWorld os).forCall (fun _ _ => 0) ⟨#[], #[.agg #[.int .i64 0, .int .u64 0, .int .i64 0, .int .u64 0], Value.int .i64 0], []⟩).memory Tryd.f6.params.toList Rows.turnAllSpec.vars false #[.agg #[.int .i64 0, .int .u64 0, .int .i64 0, .int .u64 0], Value.int .i64 0].toList 8 =
    some ([.agg [.agg [.lit (.int .i64 0), .lit (.int .u64 0)], .agg [.lit (.int .i64 0), .lit (.int .u64 0)]], .lit (.int .i64 0)], [], places) :=
  ⟨[], by kernel_rfl⟩
set_option maxRecDepth 100000 in
theorem lifted (os : Os) (started : os.Started) (H : Type) (enc : TypeId × Value → H) (Fi : Stop.Interp) :
    ReturnsInHanded {} Tryd.checked os 6 .any ((OpenSpec.ofChange Rows.turnAllSpec).preRow enc Tryd.prog Tryd.f6 Rows.turnAllRow.domain false Rows.turnAllRow.laid) (((OpenSpec.ofChange Rows.turnAllSpec).at Fi).post enc Tryd.prog Tryd.f6 false true false false) := by
  obtain ⟨places, hx⟩ := reads os enc
  refine returnsInHanded_of_row (C := Tryd.checked) (s := OpenSpec.ofChange Rows.turnAllSpec) own started (by kernel_rfl) Tryd.func6
    (witness_row_at (enc := enc) (C := Tryd.checked) false (laidWorld os) #[.agg #[.int .i64 0, .int .u64 0, .int .i64 0, .int .u64 0], Value.int .i64 0] rfl (by kernel_rfl) (by kernel_rfl) (by kernel_rfl)
      (OpenSpec.preRow_of_cond 8 hx (by kernel_rfl) (fun k hk => by cases hk) (by kernel_rfl) (laid_met os))) ?_
  intro W base args ds gs before hval hW _ _ _ hL _ _
  exact contract H enc W base args ds gs before hval hW hL
theorem p1 : laidOutB Tryd.pinned.checked.prog = true := by kernel_rfl
theorem p2 : mapsRowed Tryd.pinned.checked.prog = true := by kernel_rfl
theorem p3 : (Rows.turnAllRow.inPlace == Tryd.pinned.checked.prog.inPlace 6) = true := by kernel_rfl
theorem p4 : (Rows.turnAllRow.unfollowed == Tryd.pinned.checked.prog.unfollowed 6) = true := by kernel_rfl
theorem p5 : (Rows.turnAllRow.recurses == Tryd.pinned.checked.prog.recurses 6) = true := by kernel_rfl
theorem p6 : (Rows.turnAllRow.named == Tryd.pinned.checked.prog.varsNamed 6) = true := by kernel_rfl
theorem closed : joinedFacts Tryd.pinned.checked.prog 6 Tryd.f6 (OpenSpec.ofChange Rows.turnAllSpec).bare Rows.turnAllRow = true := by
  unfold joinedFacts
  rw [p1, p2, p3, p4, p5, p6]
  kernel_rfl
theorem inst : Tryd.f6.isInstance Tryd.pinned.checked.prog Rows.turnAllRow.origin Rows.turnAllRow.targs := of_decide_eq_true (by kernel_rfl)
theorem wrapper : Tryd.f6.isWrapper Tryd.pinned.checked.prog Rows.turnAllRow.wrapper Rows.turnAllRow.mainSum := by
  unfold Func.isWrapper; first | (rw [if_pos (by decide +kernel)]; kernel_rfl) | (rw [if_neg (by decide +kernel)]; exact ⟨rfl, rfl⟩)
theorem funcIs : Tryd.pinned.checked.prog.funcNamed Rows.turnAllRow.func = some 6 := by kernel_rfl
theorem said : Rows.TurnAllSaid :=
  OpenClaim.holds_of_cond 6 Tryd.f6 rfl rfl rfl rfl rfl rfl rfl ⟨rfl, rfl, rfl, rfl, rfl⟩ rfl rfl rfl rfl rfl funcIs Tryd.func6 closed inst wrapper
    (fun os started H enc _ Fi => by rw [OpenClaim.pre_eq_preRow]; exact lifted os started H enc Fi)
theorem plain (f : FuncId) (fn : Func) (hf : Tryd.pinned.checked.prog.funcNamed "perigee/perigeelaw5.TurnAll" = some f) (hfn : Tryd.pinned.checked.prog.funcs[f]? = some fn) :
    false = Tryd.pinned.checked.prog.looks [] ∧ ∀ (j : Nat) t, fn.params[j]? = some t → Tryd.pinned.checked.prog.wantsStandIn t = false := by
  obtain rfl : f = 6 := Option.some.inj ((show Tryd.prog.funcNamed "perigee/perigeelaw5.TurnAll" = some 6 by kernel_rfl).symm.trans hf) |>.symm
  obtain rfl : fn = Tryd.f6 := (Option.some.inj (Tryd.func6.symm.trans hfn)).symm
  refine ⟨by kernel_rfl, fun j t ht => ?_⟩
  rw [Tryd.params6] at ht
  have hm := Array.mem_of_getElem? ht
  simp only [List.mem_toArray, List.mem_cons, List.not_mem_nil, or_false] at hm
  rcases hm with rfl | rfl
  · exact (show Tryd.prog.wantsStandIn 26 = false by kernel_rfl)
  · exact (show Tryd.prog.wantsStandIn 3 = false by kernel_rfl)
/-- The card. -/
theorem card : Rows.TurnAllCardSaid :=
  Claim7.holds_tied_plain_at .later [] _ _ _ _ said (fun _ h => by cases h) (by kernel_rfl) (fun _ h => by cases h) turnAll_row_tie rfl ⟨rfl, rfl⟩ (by kernel_rfl) rfl plain (by kernel_rfl)
#print axioms card
end Go.Proofs.YtpbklojdmkpkcaaDoor.turnAll
