/-
  The row of 'PredictJoint': whatever the arguments are, the call returns true, and each argument reads behind the call as it read before.
  No condition is laid upon the input but the form's own: it reads what the call hands, and shows what the program's text answers.
-/
import Derived.Test.YtndomkpijjibiaaGreatDoorRows
import Derived.Test.YtndomkpijjibiaaGreatDoorPJ0
import Derived.WalkKit
import Derived.ProofKit
import Derived.OpenShut
import Derived.ShutString
import Derived.ChangeOld
import Derived.Below
import Derived.SizedLaws
import Derived.LaidMore
import Derived.Stop.Joined
import Derived.Lib.LaidTab
import Derived.SevenTiedAt
import Derived.Test.YtndomkpijjibiaaGreatDoorCards
import Derived.Test.YtndomkpijjibiaaGreatDoorTie
namespace Go.Proofs.YtndomkpijjibiaaGreatDoor.predictJoint
open Go.ChangeShapes Go.WideShapes Go.ChangeAt Go.RowKit Go.Ab
open Go.ChangeMaps (open_string shut_string)
set_option linter.unusedVariables false
theorem own : ownKnob Tryz.prog.godebug = none := by kernel_rfl
theorem laidOut : laidOutB Tryz.prog = true := by kernel_rfl

theorem door_met (os : Os) (args : Array Value) : laidMetH Tryz.prog Rows.predictJointRow.laid ((World.doorLaid Tryz.prog 400 os).forCall (fun _ _ => 0) ⟨#[], args, []⟩).memory :=
  laidMetH_of_parts3 (fuel := 8) (laidMet_of_run' 8 (by kernel_rfl) (by kernel_rfl)) (by kernel_rfl) (by kernel_rfl)
theorem tab_is {W : World} (h : laidMetH Tryz.prog Rows.predictJointRow.laid W) : Tab ⟨W.heap, #[]⟩ := by
  rw [MakeChecks.laidMetH_plain _ _ _ (by kernel_rfl)] at h
  have h2 : laidMet Tryz.prog (("math/bits.deBruijn64tab", Lib.tabData .u8 (tzTab.map fun x : Nat => (x : Int))) :: []) W := h
  have hg : Tryz.prog.globalNamed "math/bits.deBruijn64tab" = some 0 := by kernel_rfl
  have T := Lib.tabIs_of_head hg (t := 213) (by kernel_rfl) Tryz.underlying213 Tryz.underlying5 (by kernel_rfl) (by kernel_rfl) h2
  intro k hk
  have hl : (tzTab.map fun x : Nat => (x : Int)).length = 64 := by decide
  have e := T.cell hg k (by rw [hl]; exact hk)
  have e2 : (tzTab.map fun x : Nat => (x : Int)).getD k 0 = ((tzTab.getD k 0 : Nat) : Int) := by
    rw [List.length_map] at hl
    simp [List.getD, List.getElem?_eq_getElem (show k < tzTab.length by omega)]
  rw [e2] at e
  exact cell_old e

set_option maxRecDepth 100000 in
theorem lifted (os : Os) (started : os.Started) (H : Type) (enc : TypeId × Value → H) :
    ReturnsInHanded {} Tryz.checked os 3 .any (fun w args => (Rows.predictJointSpec.pre enc Tryz.prog Tryz.f3 [] false w args ∧ laidMetH Tryz.prog Rows.predictJointRow.laid w) ∧ sizedMet enc Tryz.prog Tryz.f3 (OpenSpec.ofChange Rows.predictJointSpec) false w args) (Rows.predictJointSpec.post enc Tryz.prog Tryz.f3 false true false false) := by
  refine returnsInHanded_of_change_and (C := Tryz.checked) (X := fun w _ => laidMetH Tryz.prog Rows.predictJointRow.laid w) (fun _ _ _ hh h => h.of_heap hh) own started (by kernel_rfl) Tryz.func3
    (ChangeSpec.witness_shaped (enc := enc) (C := Tryz.checked) (os := os) (X := fun w _ => laidMetH Tryz.prog Rows.predictJointRow.laid w) false (World.doorLaid Tryz.prog 400 os) #[.agg #[.slice none 0 0], .slice none 0 0, .agg #[.slice none 0 0, .slice none 0 0, .slice none 0 0]] 8 rfl (World.shaped_of_RefB (by kernel_rfl) (by kernel_rfl)) (by kernel_rfl) (by kernel_rfl) (by kernel_rfl) (door_met os _)) ?_
  intro W base args ds gs before hval0 hW hcnd hsz0 hL _
  have hval : ∀ (j : Nat) t v, Tryz.f3.params[j]? = some t → args[j]? = some v → Value.okWide Tryz.prog W .any base t v := hval0
  have hW' := hW
  obtain ⟨p, q, hA0, hV, rfl, hfz, hnd⟩ := hW
  have hA : DataW.TrodAll enc Tryz.prog W 0 (fun _ => true) true Tryz.f3.params.toList args.toList ds p := hA0
  rw [Tryz.params3] at hA hval
  obtain ⟨v0, vs0, d0, ds0, p0, q0, hargs, rfl, rfl, h0, r0⟩ := trodAll_cons hA
  obtain ⟨v1, vs1, d1, ds1, p1, q1, rfl, rfl, rfl, h1, r1⟩ := trodAll_cons r0
  obtain ⟨v2, vs2, d2, ds2, p2, q2, rfl, rfl, rfl, h2, r2⟩ := trodAll_cons r1
  obtain ⟨rfl, rfl, rfl⟩ := trodAll_nil r2
  obtain rfl : args = #[v0, v1, v2] := by cases args; simp_all
  obtain ⟨rfl, rfl⟩ := trodVars_none hV
  obtain ⟨x0, y0, z0⟩ := arg_open (P := Tryz.prog) 19 (by kernel_rfl) (hval 0 24 v0 rfl rfl) h0 (fun m hm => of_decide_eq_true (List.all_eq_true.1 hsz0 m (DataW.weights_mem_each (j := 0) (t := 24) (by rw [Tryz.params3]; rfl) rfl m hm)))
  have lt0 : ∀ x ∈ p0, x.block < W.heap.size := by obtain ⟨m, hm⟩ := h0; exact DataW.trod_lt m _ _ _ hm
  obtain ⟨x1, y1, z1⟩ := arg_open (P := Tryz.prog) 19 (by kernel_rfl) (hval 1 25 v1 rfl rfl) h1 (fun m hm => of_decide_eq_true (List.all_eq_true.1 hsz0 m (DataW.weights_mem_each (j := 1) (t := 25) (by rw [Tryz.params3]; rfl) rfl m hm)))
  have lt1 : ∀ x ∈ p1, x.block < W.heap.size := by obtain ⟨m, hm⟩ := h1; exact DataW.trod_lt m _ _ _ hm
  obtain ⟨x2, y2, z2⟩ := arg_open (P := Tryz.prog) 19 (by kernel_rfl) (hval 2 29 v2 rfl rfl) h2 (fun m hm => of_decide_eq_true (List.all_eq_true.1 hsz0 m (DataW.weights_mem_each (j := 2) (t := 29) (by rw [Tryz.params3]; rfl) rfl m hm)))
  have lt2 : ∀ x ∈ p2, x.block < W.heap.size := by obtain ⟨m, hm⟩ := h2; exact DataW.trod_lt m _ _ _ hm
  clear hA0 hval0 hsz0
  obtain ⟨h', e⟩ := PredictJointCard_law ⟨W.heap, #[]⟩ (tab_is hL) z0 z1 z2
  refine (Go.Ab.start (P := Tryz.prog) (by kernel_rfl) (K := keepOf keepTab) (W := W) (args := #[v0, v1, v2]) e (VRels.cons y0 (VRels.cons y1 (VRels.cons y2 VRels.nil)))).mono fun e W' ⟨he, bel⟩ => ?_
  subst he
  exact ⟨_, rfl, _, _, _, [], _, [], hW', trodAll_mk1 (shut_bool Tryz.underlying4 _), (trodAll_cons_mk (Below.trod laidOut (by kernel_rfl) (of_decide_eq_true (by kernel_rfl)) h0 bel lt0) (trodAll_cons_mk (Below.trod laidOut (by kernel_rfl) (of_decide_eq_true (by kernel_rfl)) h1 bel lt1) (trodAll_cons_mk (Below.trod laidOut (by kernel_rfl) (of_decide_eq_true (by kernel_rfl)) h2 bel lt2) trodAll_mk0))), rfl, bel.frame _, fun h => by cases h⟩

theorem over : Rows.predictJointRow.holds Tryz.pinned (OpenSpec.ofChange Rows.predictJointSpec) :=
  OpenClaim.holds_of_wide 3 Tryz.f3 rfl rfl rfl rfl rfl rfl rfl ⟨rfl, rfl, rfl, rfl, rfl⟩ rfl rfl rfl rfl rfl (by kernel_rfl) Tryz.func3 (by kernel_rfl)
    (of_decide_eq_true (by kernel_rfl)) (by unfold Func.isWrapper; first | (rw [if_pos (by decide +kernel)]; kernel_rfl) | (rw [if_neg (by decide +kernel)]; exact ⟨rfl, rfl⟩))
    (fun os started H enc _ => lifted os started H enc)
theorem proved : Rows.PredictJointSaid := over
#print axioms proved
end Go.Proofs.YtndomkpijjibiaaGreatDoor.predictJoint
namespace Go.Proofs.YtndomkpijjibiaaGreatDoor
open Go
/-- The row. -/
theorem predictJoint_holds : Rows.PredictJointSaid := predictJoint.proved
set_option maxRecDepth 100000 in
/-- The tied card. -/
theorem predictJointCard_holds : Rows.PredictJointCardSaid :=
  Claim7.holds_tied_plain_at .later [] [.data] true (true, "b2953d43bc2c77446cee72c6bbd8ae5534e9934cb626838042e2bb0c76c88434") false
    predictJoint_holds (fun _ h => by cases h) (by kernel_rfl) (fun _ h => by cases h) predictJoint_row_tie rfl ⟨rfl, rfl⟩ (by kernel_rfl) rfl
    (fun f fn hf hfn => by
      obtain rfl : f = 3 := Option.some.inj ((show Tryz.prog.funcNamed Rows.predictJointRow.func = some 3 by kernel_rfl).symm.trans hf) |>.symm
      obtain rfl : fn = Tryz.f3 := (Option.some.inj (Tryz.func3.symm.trans hfn)).symm
      exact ⟨by kernel_rfl, fun j t ht => by
        rw [Tryz.params3] at ht
        have hm : t ∈ [24, 25, 29] := by simpa using Array.mem_of_getElem? ht
        have hall : ([24, 25, 29].all fun u => !Tryz.prog.wantsStandIn u) = true := by kernel_rfl
        exact (show Tryz.prog.wantsStandIn t = false by simpa using List.all_eq_true.1 hall t hm)⟩)
    (by kernel_rfl)
#print axioms predictJointCard_holds
end Go.Proofs.YtndomkpijjibiaaGreatDoor
