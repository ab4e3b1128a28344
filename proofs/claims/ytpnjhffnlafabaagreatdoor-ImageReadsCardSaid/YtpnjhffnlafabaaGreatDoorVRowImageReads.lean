/- diapauselaw14.ImageReads returns true for every input, and leaves its arguments as they were. -/
import Derived.Test.YtpnjhffnlafabaaGreatDoorRows
import Derived.Test.YtpnjhffnlafabaaGreatDoorVIrl
import Derived.Test.YtpnjhffnlafabaaGreatDoorVOp
import Derived.WalkKit
import Derived.ProofKit
import Derived.OpenShut
import Derived.ShutString
import Derived.ChangeOld
import Derived.Below
import Derived.Test.YtpnjhffnlafabaaGreatDoorVLaid
import Derived.Test.YtpnjhffnlafabaaGreatDoorTie
import Derived.Test.YtpnjhffnlafabaaGreatDoorCards
import Derived.SevenTiedAt
namespace Go.Proofs.YtpnjhffnlafabaaGreatDoor.RowImageReads
open Go.ChangeShapes Go.WideShapes Go.ChangeAt Go.RowKit Go.Proofs.Op Go.Proofs.YtpnjhffnlafabaaGreatDoorW.PrintWords
open Go.ChangeMaps (open_string shut_string)
set_option linter.unusedVariables false
set_option linter.unusedSimpArgs false
theorem own : ownKnob Tryz.prog.godebug = none := by kernel_rfl
theorem laidOut : laidOutB Tryz.prog = true := by kernel_rfl
set_option maxRecDepth 100000 in
theorem lifted (os : Os) (started : os.Started) (H : Type) (enc : TypeId × Value → H) :
    ReturnsInHanded {} Tryz.checked os 4 .any (fun w args => (Rows.imageReadsSpec.pre enc Tryz.prog Tryz.f4 [] false w args ∧ laidMetH Tryz.prog Laid.laid w) ∧ sizedMet enc Tryz.prog Tryz.f4 (OpenSpec.ofChange Rows.imageReadsSpec) false w args)
      (Rows.imageReadsSpec.post enc Tryz.prog Tryz.f4 false true false false) := by
  refine returnsInHanded_of_change_and (C := Tryz.checked) (X := fun w _ => laidMetH Tryz.prog Laid.laid w) (fun _ _ _ hh h => h.of_heap hh) own started (by kernel_rfl) Tryz.func4
    (ChangeSpec.witness_shaped (enc := enc) (C := Tryz.checked) (os := os) (X := fun w _ => laidMetH Tryz.prog Laid.laid w) false (World.doorLaid Tryz.prog 400 os) #[.slice none 0 0, .slice none 0 0] 8 rfl (World.shaped_of_RefB (by kernel_rfl) (by kernel_rfl)) (by kernel_rfl) (by kernel_rfl) (by kernel_rfl) (Laid.door_met os _)) ?_
  intro W base args ds gs before hval0 hW _ _ hL _
  have hval : ∀ (j : Nat) t v, Tryz.f4.params[j]? = some t → args[j]? = some v → Value.okWide Tryz.prog W .any base t v := hval0
  have hW' := hW
  obtain ⟨p, q, hA0, hV, rfl, hfz, hnd⟩ := hW
  have hA : DataW.TrodAll enc Tryz.prog W 0 (fun _ => true) true Tryz.f4.params.toList args.toList ds p := hA0
  rw [Tryz.params4] at hA hval
  obtain ⟨v0, vs0, d0, ds0, p0, q0, hargs, rfl, rfl, h0, r0⟩ := trodAll_cons hA
  obtain ⟨v1, vs1, d1, ds1, p1, q1, rfl, rfl, rfl, h1, r1⟩ := trodAll_cons r0
  obtain ⟨rfl, rfl, rfl⟩ := trodAll_nil r1
  obtain rfl : args = #[v0, v1] := by cases args; simp_all
  obtain ⟨rfl, rfl⟩ := trodVars_none hV
  have k0 := h0
  have lt0 : ∀ x ∈ p0, x.block < W.heap.size := by obtain ⟨m, hm⟩ := k0; exact DataW.trod_lt m _ _ _ hm
  obtain ⟨a0, len0, cap0, rfl⟩ := okWide_slice Tryz.underlying28 (hval 0 28 v0 rfl rfl)
  obtain ⟨l0, hK0, ho0⟩ := opens_Trod (d := (Kd.slice 5 (Kd.int .u8))) (Opens.slice (d := (Kd.int .u8)) Tryz.underlying28 (by kernel_rfl) (Opens.int Tryz.underlying5)) h0
  obtain ⟨A0, c0, he0, hc0, hr0⟩ := slice_of_K hK0
  injection he0 with ea0 el0 ec0; subst ea0; subst ec0; rw [← el0] at hc0 hr0
  have k1 := h1
  have lt1 : ∀ x ∈ p1, x.block < W.heap.size := by obtain ⟨m, hm⟩ := k1; exact DataW.trod_lt m _ _ _ hm
  obtain ⟨a1, len1, cap1, rfl⟩ := okWide_slice Tryz.underlying34 (hval 1 34 v1 rfl rfl)
  obtain ⟨l1, hK1, ho1⟩ := opens_Trod (d := (Kd.slice 36 Im.kEA)) (Opens.slice (d := Im.kEA) Tryz.underlying34 (by kernel_rfl) Im.opens_E) h1
  obtain ⟨A1, c1, he1, hc1, hr1⟩ := slice_of_K hK1
  injection he1 with ea1 el1 ec1; subst ea1; subst ec1; rw [← el1] at hc1 hr1
  clear hA0 hval0
  refine (Im.ImageReadsI_calls W (Laid.of_laid hL) _ _ _ l0 hr0 hc0 ho0 _ _ _ l1 hr1 hc1 ho1).mono fun e W' ⟨he, bel⟩ => ?_
  subst he
  exact ⟨_, rfl, _, _, _, [], _, [], hW', trodAll_mk1 (shut_bool Tryz.underlying4 _), (trodAll_cons_mk (Below.trod laidOut (by kernel_rfl) (of_decide_eq_true (by kernel_rfl)) k0 bel lt0) (trodAll_cons_mk (Below.trod laidOut (by kernel_rfl) (of_decide_eq_true (by kernel_rfl)) k1 bel lt1) trodAll_mk0)), rfl, bel.frame _, fun h => by cases h⟩
theorem over : Rows.imageReadsRow.holds Tryz.pinned (OpenSpec.ofChange Rows.imageReadsSpec) :=
  OpenClaim.holds_of_wide 4 Tryz.f4 rfl rfl rfl rfl rfl rfl rfl ⟨rfl, rfl, rfl, rfl, rfl⟩ rfl rfl rfl rfl rfl (by kernel_rfl) Tryz.func4 (by kernel_rfl)
    (of_decide_eq_true (by kernel_rfl)) (by unfold Func.isWrapper; first | (rw [if_pos (by decide +kernel)]; kernel_rfl) | (rw [if_neg (by decide +kernel)]; exact ⟨rfl, rfl⟩))
    (fun os started H enc _ => lifted os started H enc)
theorem proved : Rows.ImageReadsSaid := over
theorem card : Rows.ImageReadsCardSaid :=
  Claim7.holds_tied_plain_at .later [] [.data] true (true, "7ad568ad39ea177cd61bcbfe9ff50c84ddb777c1bd2bed9e9d30f19cba557462") false
    proved (fun _ h => by cases h) (by kernel_rfl) (fun _ h => by cases h) imageReads_row_tie rfl ⟨rfl, rfl⟩ (by kernel_rfl) rfl
    (fun f fn hf hfn => by
      obtain rfl : f = 4 := Option.some.inj ((show Tryz.prog.funcNamed "diapause/diapauselaw14.ImageReads" = some 4 by kernel_rfl).symm.trans hf) |>.symm
      obtain rfl : fn = Tryz.f4 := (Option.some.inj (Tryz.func4.symm.trans hfn)).symm
      exact ⟨by kernel_rfl, fun j t ht => by
        rw [Tryz.params4] at ht
        have hm : t ∈ [28, 34] := by simpa using Array.mem_of_getElem? ht
        have hall : ([28, 34].all fun u => !Tryz.prog.wantsStandIn u) = true := by kernel_rfl
        exact (show Tryz.prog.wantsStandIn t = false by simpa using List.all_eq_true.1 hall t hm)⟩)
    (by kernel_rfl)
end Go.Proofs.YtpnjhffnlafabaaGreatDoor.RowImageReads
namespace Go.Proofs.YtpnjhffnlafabaaGreatDoor
theorem imageReads_holds : Rows.ImageReadsCardSaid := RowImageReads.card
#print axioms imageReads_holds
end Go.Proofs.YtpnjhffnlafabaaGreatDoor
