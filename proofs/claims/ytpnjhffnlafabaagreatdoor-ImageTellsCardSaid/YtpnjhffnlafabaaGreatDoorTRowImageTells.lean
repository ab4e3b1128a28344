/- diapauselaw14.ImageTells returns true for every input, and leaves its arguments as they were. -/
import Derived.Test.YtpnjhffnlafabaaGreatDoorRows
import Derived.Test.YtpnjhffnlafabaaGreatDoorTImt
import Derived.Test.YtpnjhffnlafabaaGreatDoorTSd6
import Derived.Test.YtpnjhffnlafabaaGreatDoorTOp
import Derived.WalkKit
import Derived.ProofKit
import Derived.OpenShut
import Derived.ShutString
import Derived.ChangeOld
import Derived.Below
import Derived.Test.YtpnjhffnlafabaaGreatDoorTLaid
import Derived.Test.YtpnjhffnlafabaaGreatDoorTie
import Derived.Test.YtpnjhffnlafabaaGreatDoorCards
import Derived.SevenTiedAt
namespace Go.Proofs.YtpnjhffnlafabaaGreatDoor.RowImageTells
open Go.ChangeShapes Go.WideShapes Go.ChangeAt Go.RowKit Go.Proofs.Op Go.Proofs.YtpnjhffnlafabaaGreatDoorW.PrintWords
open Go.ChangeMaps (open_string shut_string)
set_option linter.unusedVariables false
set_option linter.unusedSimpArgs false
theorem own : ownKnob Tryz.prog.godebug = none := by kernel_rfl
theorem laidOut : laidOutB Tryz.prog = true := by kernel_rfl
set_option maxRecDepth 100000 in
theorem lifted (os : Os) (started : os.Started) (H : Type) (enc : TypeId × Value → H) :
    ReturnsInHanded {} Tryz.checked os 3 .any (fun w args => (Rows.imageTellsSpec.pre enc Tryz.prog Tryz.f3 [] false w args ∧ laidMetH Tryz.prog Laid.laid w) ∧ sizedMet enc Tryz.prog Tryz.f3 (OpenSpec.ofChange Rows.imageTellsSpec) false w args)
      (Rows.imageTellsSpec.post enc Tryz.prog Tryz.f3 false true false false) := by
  refine returnsInHanded_of_change_and (C := Tryz.checked) (X := fun w _ => laidMetH Tryz.prog Laid.laid w) (fun _ _ _ hh h => h.of_heap hh) own started (by kernel_rfl) Tryz.func3
    (ChangeSpec.witness_shaped (enc := enc) (C := Tryz.checked) (os := os) (X := fun w _ => laidMetH Tryz.prog Laid.laid w) false (World.doorLaid Tryz.prog 400 os) #[.agg #[.slice none 0 0, .slice none 0 0]] 8 rfl (World.shaped_of_RefB (by kernel_rfl) (by kernel_rfl)) (by kernel_rfl) (by kernel_rfl) (by kernel_rfl) (Laid.door_met os _)) ?_
  intro W base args ds gs before hval0 hW _ _ hL _
  have hval : ∀ (j : Nat) t v, Tryz.f3.params[j]? = some t → args[j]? = some v → Value.okWide Tryz.prog W .any base t v := hval0
  have hW' := hW
  obtain ⟨p, q, hA0, hV, rfl, hfz, hnd⟩ := hW
  have hA : DataW.TrodAll enc Tryz.prog W 0 (fun _ => true) true Tryz.f3.params.toList args.toList ds p := hA0
  rw [Tryz.params3] at hA hval
  obtain ⟨v0, vs0, d0, ds0, p0, q0, hargs, rfl, rfl, h0, r0⟩ := trodAll_cons hA
  obtain ⟨rfl, rfl, rfl⟩ := trodAll_nil r0
  obtain rfl : args = #[v0] := by cases args; simp_all
  obtain ⟨rfl, rfl⟩ := trodVars_none hV
  have k0 := h0
  have lt0 : ∀ x ∈ p0, x.block < W.heap.size := by obtain ⟨m, hm⟩ := k0; exact DataW.trod_lt m _ _ _ hm
  obtain ⟨cs0, rfl, _, hrow0⟩ := Sn.row_struct Tryz.underlying25 (hval 0 25 v0 rfl rfl)
  obtain ⟨l0, hK0, ho0⟩ := opens_Trod (d := Sn.kS) Sn.opens_S h0
  obtain ⟨A0, c0, B0, b0, he0, hA0, hG0, hB0, hT0⟩ := Sn.kS_cells hK0
  obtain rfl : cs0 = #[.slice A0 l0.1.length c0, .slice B0 l0.2.length b0] := by apply Array.ext'; rw [show cs0.toList = _ from he0]
  have hsp0 := Sn.scene_spots hrow0
  clear hA0 hval0
  refine (Im.ImageTells_calls W (Laid.of_laid hL) A0 _ c0 l0.1 B0 _ b0 l0.2 hG0 hA0 hT0 hB0 hsp0.2 ho0.1 ho0.2).mono fun e W' ⟨he, bel⟩ => ?_
  subst he
  exact ⟨_, rfl, _, _, _, [], _, [], hW', trodAll_mk1 (shut_bool Tryz.underlying4 _), (trodAll_cons_mk (Below.trod laidOut (by kernel_rfl) (of_decide_eq_true (by kernel_rfl)) k0 bel lt0) trodAll_mk0), rfl, bel.frame _, fun h => by cases h⟩
theorem over : Rows.imageTellsRow.holds Tryz.pinned (OpenSpec.ofChange Rows.imageTellsSpec) :=
  OpenClaim.holds_of_wide 3 Tryz.f3 rfl rfl rfl rfl rfl rfl rfl ⟨rfl, rfl, rfl, rfl, rfl⟩ rfl rfl rfl rfl rfl (by kernel_rfl) Tryz.func3 (by kernel_rfl)
    (of_decide_eq_true (by kernel_rfl)) (by unfold Func.isWrapper; first | (rw [if_pos (by decide +kernel)]; kernel_rfl) | (rw [if_neg (by decide +kernel)]; exact ⟨rfl, rfl⟩))
    (fun os started H enc _ => lifted os started H enc)
theorem proved : Rows.ImageTellsSaid := over
theorem card : Rows.ImageTellsCardSaid :=
  Claim7.holds_tied_plain_at .later [] [.data] true (true, "7ad568ad39ea177cd61bcbfe9ff50c84ddb777c1bd2bed9e9d30f19cba557462") false
    proved (fun _ h => by cases h) (by kernel_rfl) (fun _ h => by cases h) imageTells_row_tie rfl ⟨rfl, rfl⟩ (by kernel_rfl) rfl
    (fun f fn hf hfn => by
      obtain rfl : f = 3 := Option.some.inj ((show Tryz.prog.funcNamed "diapause/diapauselaw14.ImageTells" = some 3 by kernel_rfl).symm.trans hf) |>.symm
      obtain rfl : fn = Tryz.f3 := (Option.some.inj (Tryz.func3.symm.trans hfn)).symm
      exact ⟨by kernel_rfl, fun j t ht => by
        rw [Tryz.params3] at ht
        have hm : t ∈ [25] := by simpa using Array.mem_of_getElem? ht
        have hall : ([25].all fun u => !Tryz.prog.wantsStandIn u) = true := by kernel_rfl
        exact (show Tryz.prog.wantsStandIn t = false by simpa using List.all_eq_true.1 hall t hm)⟩)
    (by kernel_rfl)
end Go.Proofs.YtpnjhffnlafabaaGreatDoor.RowImageTells
namespace Go.Proofs.YtpnjhffnlafabaaGreatDoor
theorem imageTells_holds : Rows.ImageTellsCardSaid := RowImageTells.card
#print axioms imageTells_holds
end Go.Proofs.YtpnjhffnlafabaaGreatDoor
