/- The reference's ways: lengths, turns; as contracts. -/
import Derived.Test.YtpbklojdmkpkcaaDoorRefJ
namespace Go.Proofs.YtpbklojdmkpkcaaDoor
open Go Go.RowKit
set_option linter.unusedVariables false
set_option linter.unusedSimpArgs false
set_option maxRecDepth 100000
def decGot : PV → Option (Fx × Int)
  | .agg [.raw (.int .i64 h), .raw (.int .u64 l), .raw (.int .i64 e)] => some (⟨h, l⟩, e)
  | _ => none
def cGot : Cod (Fx × Int) := ⟨PV.got, decGot, fun _ => rfl, fun v a h => by
  unfold decGot at h; split at h
  · cases h; rfl
  · cases h⟩
/-- Two numbers, or the first error. -/
def bothS (x y : Fx × Int) : Vc × Int := if x.2 ≠ 0 then (⟨⟨0, 0⟩, ⟨0, 0⟩⟩, x.2) else if y.2 ≠ 0 then (⟨⟨0, 0⟩, ⟨0, 0⟩⟩, y.2) else (⟨x.1, y.1⟩, 0)
theorem bothS_is (x y : Except Int Int) [hx : E x] [hy : E y] : bothS (mkx (valF x), errF x) (mkx (valF y), errF y) = wayR (both x y) := by
  cases x with
  | ok a => cases y with
    | ok b => rfl
    | error e =>
      have t : ((mkx (valF (Except.error e)), errF (Except.error e)) : Fx × Int).2 ≠ 0 := hy.h e rfl
      unfold bothS
      rw [if_neg (by simp [errF]), if_pos t]; rfl
  | error e =>
    have t : ((mkx (valF (Except.error e)), errF (Except.error e)) : Fx × Int).2 ≠ 0 := hx.h e rfl
    unfold bothS
    rw [if_pos t]; rfl
theorem errW_both (x y : Except Int Int) [hx : E x] [hy : E y] : (wayR (both x y)).2 = errW (both x y) := rfl
instance (a b : Int) : E (divF a b) := ⟨fun e h => by unfold divF at h; split at h; (cases h; decide); exact (inferInstance : E (tell _ _)).h e h⟩
instance (a : Int) : E (sqrtF a) := ⟨fun e h => by unfold sqrtF at h; split at h; (cases h; decide); exact (inferInstance : E (tell _ _)).h e h⟩
instance (a b : Int) : F (valF (divF a b)) := F_val fun r h => by
  unfold divF at h; split at h
  · cases h
  · refine tell_F (Int.ediv_nonneg ?_ ?_) h <;> (have := mag_nn a; have := mag_nn b; omega)
instance (a : Int) : F (valF (sqrtF a)) := F_val fun r h => by
  unfold sqrtF at h; split at h
  · cases h
  · exact tell_F (isq_bd _).1 h
instance (a : Int) [h : F a] : F (halfF a) := ⟨by have := h.h; unfold halfF; split <;> omega⟩
theorem k_r1_both : C2 Tryd.prog TabI 89 cGot cGot PV.rway (fun a b => True) bothS :=
  .ev (fun a b => []) mixed (mkOrc_ok (l := L5r) (x := []) trivial) Tryd.func89 (by decide) fun a b h => by
    refine ⟨?_⟩
    have e : evPure Tryd.prog (mkOrc L5r []) Tryd.f89 [] [cGot.enc a, cGot.enc b] =
      Tr.ite (a.snd != (0 : Int)) (Tr.ret (PV.rway ({ X := { h := (0 : Int), l := (0 : Int) }, Y := { h := (0 : Int), l := (0 : Int) } }, a.snd))) (Tr.ite (b.snd != (0 : Int)) (Tr.ret (PV.rway ({ X := { h := (0 : Int), l := (0 : Int) }, Y := { h := (0 : Int), l := (0 : Int) } }, b.snd))) (Tr.ret (PV.rway ({ X := a.fst, Y := b.fst }, (0 : Int))))) := by kernel_rfl
    rw [e]; clear e
    simp only [Tr.holds, bne_iff_ne, bne_eq_false_iff_eq]
    unfold bothS
    exact ⟨fun h1 => by rw [if_pos h1], fun h1 => ⟨fun h2 => by rw [if_neg (by simp [h1]), if_pos h2], fun h2 => by rw [if_neg (by simp [h1]), if_neg (by simp [h2])]⟩⟩
theorem k_r1_May : C1 Tryd.prog TabI 66 cFx cB.enc (fun a => True) fun a => mayF a.h a.l := fun a _ E w _ => r1_May a.h a.l w
theorem k_r1_MayVec : C1 Tryd.prog TabI 24 cVc cB.enc (fun a => True) fun a => mayF a.X.h a.X.l && mayF a.Y.h a.Y.l := fun a _ E w _ => r1_MayVec a.X.h a.X.l a.Y.h a.Y.l w
theorem k_r1_NegVec : C1 Tryd.prog TabI 23 cVc cVc.enc okV fun a => ⟨mkx (-(num a.X)), mkx (-(num a.Y))⟩ := fun a h E w _ => by
  rw [emb_Vc a h]; haveI := h.1.2; haveI := h.2.2; exact r1_NegVec (num a.X) (num a.Y) w
def L6a : List (Ent Tryd.prog tid TabI) := e2 k_r1_both Tryd.func89 :: e1 k_r1_May Tryd.func66 :: e1 k_r1_MayVec Tryd.func24 :: e1 k_r1_NegVec Tryd.func23 :: L5r
theorem k_r1_AddVec : C2 Tryd.prog TabI 50 cVc cVc PV.rway (fun a b => okV a ∧ okV b) fun a b => wayR (both (addF (num a.X) (num b.X)) (addF (num a.Y) (num b.Y))) :=
  .ev (fun a b => []) mixed (mkOrc_ok (l := L6a) (x := []) trivial) Tryd.func50 (by decide) fun a b h => by
    refine ⟨?_⟩
    have e : evPure Tryd.prog (mkOrc L6a []) Tryd.f50 [] [cVc.enc a, cVc.enc b] =
      Tr.chk (decide (okF a.X ∧ okF b.X)) (Tr.chk (decide (okF a.Y ∧ okF b.Y)) (Tr.chk (decide True) (Tr.ret (PV.rway (bothS (mkx (valF (addF (num a.X) (num b.X))), errF (addF (num a.X) (num b.X))) (mkx (valF (addF (num a.Y) (num b.Y))), errF (addF (num a.Y) (num b.Y)))))))) := by kernel_rfl
    rw [e]; clear e
    simp only [Tr.holds, decide_eq_true_eq, bothS_is]
    exact ⟨⟨h.1.1, h.2.1⟩, ⟨h.1.2, h.2.2⟩, trivial, trivial⟩
theorem k_r1_Scale : C2 Tryd.prog TabI 63 cVc cFx PV.rway (fun a b => okV a ∧ okF b) fun a b => wayR (both (mulF (num a.X) (num b)) (mulF (num a.Y) (num b))) :=
  .ev (fun a b => []) mixed (mkOrc_ok (l := L6a) (x := []) trivial) Tryd.func63 (by decide) fun a b h => by
    refine ⟨?_⟩
    have e : evPure Tryd.prog (mkOrc L6a []) Tryd.f63 [] [cVc.enc a, cFx.enc b] =
      Tr.chk (decide (okF a.X ∧ okF b)) (Tr.chk (decide (okF a.Y ∧ okF b)) (Tr.chk (decide True) (Tr.ret (PV.rway (bothS (mkx (valF (mulF (num a.X) (num b))), errF (mulF (num a.X) (num b))) (mkx (valF (mulF (num a.Y) (num b))), errF (mulF (num a.Y) (num b)))))))) := by kernel_rfl
    rw [e]; clear e
    simp only [Tr.holds, decide_eq_true_eq, bothS_is]
    exact ⟨⟨h.1.1, h.2⟩, ⟨h.1.2, h.2⟩, trivial, trivial⟩
def dotF (ax ay bx y : Int) : Except Int Int := match both (mulF ax bx) (mulF ay y) with
  | .ok (p, q) => addF p q
  | .error e => .error e
theorem k_r1_Dot : C2 Tryd.prog TabI 73 cVc cVc PV.got (fun a b => okV a ∧ okV b) fun a b => gotR (dotF (num a.X) (num a.Y) (num b.X) (num b.Y)) :=
  .ev (fun a b => []) mixed (mkOrc_ok (l := L6a) (x := []) trivial) Tryd.func73 (by decide) fun a b h => by
    refine ⟨?_⟩
    have e : evPure Tryd.prog (mkOrc L6a []) Tryd.f73 [] [cVc.enc a, cVc.enc b] =
      Tr.chk (decide (okF a.X ∧ okF b.X)) (Tr.chk (decide (okF a.Y ∧ okF b.Y)) (Tr.chk (decide True) (Tr.ite ((bothS (mkx (valF (mulF (num a.X) (num b.X))), errF (mulF (num a.X) (num b.X))) (mkx (valF (mulF (num a.Y) (num b.Y))), errF (mulF (num a.Y) (num b.Y)))).snd != (0 : Int)) (Tr.ret (PV.got ({ h := (0 : Int), l := (0 : Int) }, (bothS (mkx (valF (mulF (num a.X) (num b.X))), errF (mulF (num a.X) (num b.X))) (mkx (valF (mulF (num a.Y) (num b.Y))), errF (mulF (num a.Y) (num b.Y)))).snd))) (Tr.chk (decide (okF (bothS (mkx (valF (mulF (num a.X) (num b.X))), errF (mulF (num a.X) (num b.X))) (mkx (valF (mulF (num a.Y) (num b.Y))), errF (mulF (num a.Y) (num b.Y)))).fst.X ∧ okF (bothS (mkx (valF (mulF (num a.X) (num b.X))), errF (mulF (num a.X) (num b.X))) (mkx (valF (mulF (num a.Y) (num b.Y))), errF (mulF (num a.Y) (num b.Y)))).fst.Y)) (Tr.ret (PV.got (gotR (addF (num (bothS (mkx (valF (mulF (num a.X) (num b.X))), errF (mulF (num a.X) (num b.X))) (mkx (valF (mulF (num a.Y) (num b.Y))), errF (mulF (num a.Y) (num b.Y)))).fst.X) (num (bothS (mkx (valF (mulF (num a.X) (num b.X))), errF (mulF (num a.X) (num b.X))) (mkx (valF (mulF (num a.Y) (num b.Y))), errF (mulF (num a.Y) (num b.Y)))).fst.Y))))))))) := by kernel_rfl
    rw [e]; clear e
    simp only [Tr.holds, decide_eq_true_eq, bothS_is]
    refine ⟨⟨h.1.1, h.2.1⟩, ⟨h.1.2, h.2.2⟩, trivial, fun he => ?_, fun he => ⟨⟨okF_mk _, okF_mk _⟩, ?_⟩⟩
    · have := EW_err (x := both (mulF (num a.X) (num b.X)) (mulF (num a.Y) (num b.Y))) he
      unfold dotF
      rw [this]; (try rfl)
    · have := EW_ok (x := both (mulF (num a.X) (num b.X)) (mulF (num a.Y) (num b.Y))) he
      simp only [wayR, num_mk]
      unfold dotF
      generalize both (mulF (num a.X) (num b.X)) (mulF (num a.Y) (num b.Y)) = z at *
      rw [this]; (try rfl)
instance (ax ay bx y : Int) : E (dotF ax ay bx y) := ⟨fun e h => by
  unfold dotF at h; split at h
  · exact (inferInstance : E (addF _ _)).h e h
  · rename_i e' he
    cases h
    exact (inferInstance : E (both (mulF ax bx) (mulF ay y))).h e he⟩
instance (ax ay bx y : Int) : F (valF (dotF ax ay bx y)) := F_val fun r h => by
  unfold dotF at h; split at h
  · exact addF_F h
  · cases h
def L6b : List (Ent Tryd.prog tid TabI) := e2 k_r1_AddVec Tryd.func50 :: e2 k_r1_Scale Tryd.func63 :: e2 k_r1_Dot Tryd.func73 :: L6a
theorem k_r1_Len2 : C1 Tryd.prog TabI 36 cVc PV.got okV fun a => gotR (dotF (num a.X) (num a.Y) (num a.X) (num a.Y)) :=
  .ev (fun a => []) mixed (mkOrc_ok (l := L6b) (x := []) trivial) Tryd.func36 (by decide) fun a h => by
    refine ⟨?_⟩
    have e : evPure Tryd.prog (mkOrc L6b []) Tryd.f36 [] [cVc.enc a] =
      Tr.chk (decide (okV a ∧ okV a)) (Tr.ret (PV.got (gotR (dotF (num a.X) (num a.Y) (num a.X) (num a.Y))))) := by kernel_rfl
    rw [e]; clear e
    simp only [Tr.holds, decide_eq_true_eq]
    exact ⟨⟨h, h⟩, trivial⟩
def L6c : List (Ent Tryd.prog tid TabI) := e1 k_r1_Len2 Tryd.func36 :: L6b
def lenF (x y : Int) : Except Int Int := match dotF x y x y with
  | .ok n => sqrtF n
  | .error e => .error e
theorem k_r1_Length : C1 Tryd.prog TabI 29 cVc PV.got okV fun a => gotR (lenF (num a.X) (num a.Y)) :=
  .ev (fun a => []) mixed (mkOrc_ok (l := L6c) (x := []) trivial) Tryd.func29 (by decide) fun a h => by
    refine ⟨?_⟩
    have e : evPure Tryd.prog (mkOrc L6c []) Tryd.f29 [] [cVc.enc a] =
      Tr.chk (decide (okV a)) (Tr.ite (errF (dotF (num a.X) (num a.Y) (num a.X) (num a.Y)) != (0 : Int)) (Tr.ret (PV.got (gotR (dotF (num a.X) (num a.Y) (num a.X) (num a.Y))))) (Tr.chk (decide (okF (mkx (valF (dotF (num a.X) (num a.Y) (num a.X) (num a.Y)))))) (Tr.ret (PV.got (gotR (sqrtF (num (mkx (valF (dotF (num a.X) (num a.Y) (num a.X) (num a.Y))))))))))) := by kernel_rfl
    rw [e]; clear e
    simp only [Tr.holds, decide_eq_true_eq]
    refine ⟨h, fun he => ?_, fun he => ⟨okF_mk _, ?_⟩⟩
    · have := E_err he
      unfold lenF
      generalize dotF (num a.X) (num a.Y) (num a.X) (num a.Y) = z at *
      rw [this]; (try rfl)
    · have := E_ok he
      unfold lenF
      rw [num_mk]
      generalize dotF (num a.X) (num a.Y) (num a.X) (num a.Y) = z at *
      rw [this]; (try rfl)
def L6 : List (Ent Tryd.prog tid TabI) := e1 k_r1_Length Tryd.func29 :: L6c
end Go.Proofs.YtpbklojdmkpkcaaDoor
