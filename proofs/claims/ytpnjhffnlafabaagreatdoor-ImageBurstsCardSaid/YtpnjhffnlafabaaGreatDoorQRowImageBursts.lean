/- diapauselaw14.ImageBursts returns true for every input, and leaves its arguments as they were. -/
import Derived.Test.YtpnjhffnlafabaaGreatDoorRows
import Derived.Test.YtpnjhffnlafabaaGreatDoorQImy
import Derived.Test.YtpnjhffnlafabaaGreatDoorQSd6
import Derived.Test.YtpnjhffnlafabaaGreatDoorQOp
import Derived.WalkKit
import Derived.ProofKit
import Derived.OpenShut
import Derived.ShutString
import Derived.ChangeOld
import Derived.Below
import Derived.Test.YtpnjhffnlafabaaGreatDoorQLaid
import Derived.Test.YtpnjhffnlafabaaGreatDoorTie
import Derived.Test.YtpnjhffnlafabaaGreatDoorCards
import Derived.SevenTiedAt
namespace Go.Proofs.YtpnjhffnlafabaaGreatDoor.RowImageBursts
open Go.ChangeShapes Go.WideShapes Go.ChangeAt Go.RowKit Go.Proofs.Op Go.Proofs.YtpnjhffnlafabaaGreatDoorW.PrintWords
open Go.ChangeMaps (open_string shut_string)
set_option linter.unusedVariables false
set_option linter.unusedSimpArgs false
theorem own : ownKnob Tryz.prog.godebug = none := by kernel_rfl
theorem laidOut : laidOutB Tryz.prog = true := by kernel_rfl
set_option maxRecDepth 100000 in
theorem lifted (os : Os) (started : os.Started) (H : Type) (enc : TypeId × Value → H) :
    ReturnsInHanded {} Tryz.checked os 7 .any (fun w args => (Rows.imageBurstsSpec.pre enc Tryz.prog Tryz.f7 [] false w args ∧ laidMetH Tryz.prog Laid.laid w) ∧ sizedMet enc Tryz.prog Tryz.f7 (OpenSpec.ofChange Rows.imageBurstsSpec) false w args)
      (Rows.imageBurstsSpec.post enc Tryz.prog Tryz.f7 false true false false) := by
  refine returnsInHanded_of_change_and (C := Tryz.checked) (X := fun w _ => laidMetH Tryz.prog Laid.laid w) (fun _ _ _ hh h => h.of_heap hh) own started (by kernel_rfl) Tryz.func7
    (ChangeSpec.witness_shaped (enc := enc) (C := Tryz.checked) (os := os) (X := fun w _ => laidMetH Tryz.prog Laid.laid w) false (World.doorLaid Tryz.prog 400 os) #[.agg #[.slice none 0 0, .slice none 0 0], .int .u16 0, .int .u32 0, .int .u16 0] 8 rfl (World.shaped_of_RefB (by kernel_rfl) (by kernel_rfl)) (by kernel_rfl) (by kernel_rfl) (by kernel_rfl) (Laid.door_met os _)) ?_
  intro W base args ds gs before hval0 hW _ _ hL _
  have hval : ∀ (j : Nat) t v, Tryz.f7.params[j]? = some t → args[j]? = some v → Value.okWide Tryz.prog W .any base t v := hval0
  have hW' := hW
  obtain ⟨p, q, hA0, hV, rfl, hfz, hnd⟩ := hW
  have hA : DataW.TrodAll enc Tryz.prog W 0 (fun _ => true) true Tryz.f7.params.toList args.toList ds p := hA0
  rw [Tryz.params7] at hA hval
  obtain ⟨v0, vs0, d0, ds0, p0, q0, hargs, rfl, rfl, h0, r0⟩ := trodAll_cons hA
  obtain ⟨v1, vs1, d1, ds1, p1, q1, rfl, rfl, rfl, h1, r1⟩ := trodAll_cons r0
  obtain ⟨v2, vs2, d2, ds2, p2, q2, rfl, rfl, rfl, h2, r2⟩ := trodAll_cons r1
  obtain ⟨v3, vs3, d3, ds3, p3, q3, rfl, rfl, rfl, h3, r3⟩ := trodAll_cons r2
  obtain ⟨rfl, rfl, rfl⟩ := trodAll_nil r3
  obtain rfl : args = #[v0, v1, v2, v3] := by cases args; simp_all
  obtain ⟨rfl, rfl⟩ := trodVars_none hV
  have k0 := h0
  have lt0 : ∀ x ∈ p0, x.block < W.heap.size := by obtain ⟨m, hm⟩ := k0; exact DataW.trod_lt m _ _ _ hm
  obtain ⟨cs0, rfl, _, hrow0⟩ := Sn.row_struct Tryz.underlying25 (hval 0 25 v0 rfl rfl)
  obtain ⟨l0, hK0, ho0⟩ := opens_Trod (d := Sn.kS) Sn.opens_S h0
  obtain ⟨A0, c0, B0, b0, he0, hA0, hG0, hB0, hT0⟩ := Sn.kS_cells hK0
  obtain rfl : cs0 = #[.slice A0 l0.1.length c0, .slice B0 l0.2.length b0] := by apply Array.ext'; rw [show cs0.toList = _ from he0]
  have hsp0 := Sn.scene_spots hrow0
  obtain ⟨a1, rfl, rfl, rfl, w1⟩ := open_int Tryz.underlying44 (hval 1 44 v1 rfl rfl) h1
  obtain ⟨a2, rfl, rfl, rfl, w2⟩ := open_int Tryz.underlying45 (hval 2 45 v2 rfl rfl) h2
  obtain ⟨a3, rfl, rfl, rfl, w3⟩ := open_int Tryz.underlying44 (hval 3 44 v3 rfl rfl) h3
  clear hA0 hval0
  refine (Im.ImageBurstsI_calls W (Laid.of_laid hL) A0 _ c0 l0.1 B0 _ b0 l0.2 hG0 hA0 hT0 hB0 hsp0.2 ho0.1 ho0.2 a1 w1 a2 w2 a3 w3).mono fun e W' ⟨he, bel⟩ => ?_
  subst he
  exact ⟨_, rfl, _, _, _, [], _, [], hW', trodAll_mk1 (shut_bool Tryz.underlying4 _), (trodAll_cons_mk (Below.trod laidOut (by kernel_rfl) (of_decide_eq_true (by kernel_rfl)) k0 bel lt0) (trodAll_cons_mk (shut_int Tryz.underlying44 w1) (trodAll_cons_mk (shut_int Tryz.underlying45 w2) (trodAll_cons_mk (shut_int Tryz.underlying44 w3) trodAll_mk0)))), rfl, bel.frame _, fun h => by cases h⟩
theorem over : Rows.imageBurstsRow.holds Tryz.pinned (OpenSpec.ofChange Rows.imageBurstsSpec) :=
  OpenClaim.holds_of_wide 7 Tryz.f7 rfl rfl rfl rfl rfl rfl rfl ⟨rfl, rfl, rfl, rfl, rfl⟩ rfl rfl rfl rfl rfl (by kernel_rfl) Tryz.func7 (by kernel_rfl)
    (of_decide_eq_true (by kernel_rfl)) (by unfold Func.isWrapper; first | (rw [if_pos (by decide +kernel)]; kernel_rfl) | (rw [if_neg (by decide +kernel)]; exact ⟨rfl, rfl⟩))
    (fun os started H enc _ => lifted os started H enc)
theorem proved : Rows.ImageBurstsSaid := over
theorem card : Rows.ImageBurstsCardSaid :=
  Claim7.holds_tied_plain_at .later [] [.data] true (true, "7ad568ad39ea177cd61bcbfe9ff50c84ddb777c1bd2bed9e9d30f19cba557462") false
    proved (fun _ h => by cases h) (by kernel_rfl) (fun _ h => by cases h) imageBursts_row_tie rfl ⟨rfl, rfl⟩ (by kernel_rfl) rfl
    (fun f fn hf hfn => by
      obtain rfl : f = 7 := Option.some.inj ((show Tryz.prog.funcNamed "diapause/diapauselaw14.ImageBursts" = some 7 by kernel_rfl).symm.trans hf) |>.symm
      obtain rfl : fn = Tryz.f7 := (Option.some.inj (Tryz.func7.symm.trans hfn)).symm
      exact ⟨by kernel_rfl, fun j t ht => by
        rw [Tryz.params7] at ht
        have hm : t ∈ [25, 44, 45, 44] := by simpa using Array.mem_of_getElem? ht
        have hall : ([25, 44, 45, 44].all fun u => !Tryz.prog.wantsStandIn u) = true := by kernel_rfl
        exact (show Tryz.prog.wantsStandIn t = false by simpa using List.all_eq_true.1 hall t hm)⟩)
    (by kernel_rfl)
end Go.Proofs.YtpnjhffnlafabaaGreatDoor.RowImageBursts
namespace Go.Proofs.YtpnjhffnlafabaaGreatDoor
theorem imageBursts_holds : Rows.ImageBurstsCardSaid := RowImageBursts.card
#print axioms imageBursts_holds
end Go.Proofs.YtpnjhffnlafabaaGreatDoor
