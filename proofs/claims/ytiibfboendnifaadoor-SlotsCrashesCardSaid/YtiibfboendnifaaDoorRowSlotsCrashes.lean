/- diapauselaw11.SlotsCrashes returns true for every input, and leaves its arguments as they were. -/
import Derived.Test.YtiibfboendnifaaDoorRows
import Derived.Test.YtiibfboendnifaaDoorSlW
import Derived.Test.YtiibfboendnifaaDoorOp
import Derived.WalkKit
import Derived.ProofKit
import Derived.OpenShut
import Derived.ShutString
import Derived.ChangeOld
import Derived.Below
import Derived.SizedLaws
import Derived.Test.YtiibfboendnifaaDoorLaid
import Derived.Test.YtiibfboendnifaaDoorTie
import Derived.Test.YtiibfboendnifaaDoorCards
import Derived.SevenTiedAt
namespace Go.Proofs.YtiibfboendnifaaDoor.RowSlotsCrashes
open Go.ChangeShapes Go.WideShapes Go.ChangeAt Go.RowKit Go.Proofs.Op Go.Proofs.YtiibfboendnifaaDoorW.PrintWords
open Go.ChangeMaps (open_string shut_string)
set_option linter.unusedVariables false
set_option linter.unusedSimpArgs false
theorem sized_row {H : Type} {P : Program} {enc : TypeId × Value → H} {W : World} {ts : List TypeId} {ds : List (DataW H)} {j : Nat} {t e : TypeId} {d : DataW H} {sp : Nat → Bool} {held : Bool} {b : Nat} {A : Option Addr} {n c B : Nat} {ps : List MemPlace}
    (hu : P.underlying t = some (.slice e)) (hb : P.bytesOf e = B) (hz : (DataW.weightsEach P ts ds).all (· ≤ reachBytes) = true) (ht : ts[j]? = some t) (hd : ds[j]? = some d)
    (h : DataW.Trod enc P W b sp held t (.slice A n c) d ps) : n * B ≤ reachBytes := by
  obtain ⟨fuel, hf⟩ := h
  have hcs : (Value.slice A n c).cells.toList = [.slice A n c] := rfl
  rw [hcs] at hf
  rcases DataW.trod_slice hu hf with ⟨he, _⟩ | ⟨a, len, cap, elems, rest, m, _, he, hx, _, _, _, hl, _⟩
  · injection he with he; injection he with _ h2 _; subst h2; simp
  · injection he with he; injection he with _ h2 _; subst h2
    have hd' : ds[j]? = some (.slice (elems.map (·.1)) (rest.map (·.1))) := by rw [hd]; exact congrArg some (congrArg Prod.fst hx)
    have h3 := sized_slice hz ht hd' hu
    rw [hb, List.length_map, List.length_map] at h3
    exact Nat.le_trans (Nat.mul_le_mul_right _ (by omega)) h3
theorem own : ownKnob Tryd.prog.godebug = none := by kernel_rfl
theorem laidOut : laidOutB Tryd.prog = true := by kernel_rfl
set_option maxRecDepth 100000 in
theorem lifted (os : Os) (started : os.Started) (H : Type) (enc : TypeId × Value → H) :
    ReturnsInHanded {} Tryd.checked os 7 .any (fun w args => (Rows.slotsCrashesSpec.pre enc Tryd.prog Tryd.f7 [] false w args ∧ laidMetH Tryd.prog Laid.laid w) ∧ sizedMet enc Tryd.prog Tryd.f7 (OpenSpec.ofChange Rows.slotsCrashesSpec) false w args)
      (Rows.slotsCrashesSpec.post enc Tryd.prog Tryd.f7 false true false false) := by
  refine returnsInHanded_of_change_and (C := Tryd.checked) (X := fun w _ => laidMetH Tryd.prog Laid.laid w) (fun _ _ _ hh h => h.of_heap hh) own started (by kernel_rfl) Tryd.func7
    (ChangeSpec.witness_shaped (enc := enc) (C := Tryd.checked) (os := os) (X := fun w _ => laidMetH Tryd.prog Laid.laid w) false (World.doorLaid Tryd.prog 400 os) #[.slice none 0 0, .agg #[.int .i64 0, .int .i64 0, .int .i64 0, .slice none 0 0, .slice none 0 0], .int .u8 0, .slice none 0 0] 8 rfl (World.shaped_of_RefB (by kernel_rfl) (by kernel_rfl)) (by kernel_rfl) (by kernel_rfl) (by kernel_rfl) (Laid.door_met os _)) ?_
  intro W base args ds gs before hval0 hW _ hZ hL _
  have hval : ∀ (j : Nat) t v, Tryd.f7.params[j]? = some t → args[j]? = some v → Value.okWide Tryd.prog W .any base t v := hval0
  have hW' := hW
  obtain ⟨p, q, hA0, hV, rfl, hfz, hnd⟩ := hW
  rw [Tryd.params7] at hZ
  have hA : DataW.TrodAll enc Tryd.prog W 0 (fun _ => true) true Tryd.f7.params.toList args.toList ds p := hA0
  rw [Tryd.params7] at hA hval
  obtain ⟨v0, vs0, d0, ds0, p0, q0, hargs, rfl, rfl, h0, r0⟩ := trodAll_cons hA
  obtain ⟨v1, vs1, d1, ds1, p1, q1, rfl, rfl, rfl, h1, r1⟩ := trodAll_cons r0
  obtain ⟨v2, vs2, d2, ds2, p2, q2, rfl, rfl, rfl, h2, r2⟩ := trodAll_cons r1
  obtain ⟨v3, vs3, d3, ds3, p3, q3, rfl, rfl, rfl, h3, r3⟩ := trodAll_cons r2
  obtain ⟨rfl, rfl, rfl⟩ := trodAll_nil r3
  obtain rfl : args = #[v0, v1, v2, v3] := by cases args; simp_all
  obtain ⟨rfl, rfl⟩ := trodVars_none hV
  have k0 := h0
  have lt0 : ∀ x ∈ p0, x.block < W.heap.size := by obtain ⟨m, hm⟩ := k0; exact DataW.trod_lt m _ _ _ hm
  obtain ⟨a0, len0, cap0, rfl⟩ := okWide_slice Tryd.underlying22 (hval 0 22 v0 rfl rfl)
  obtain ⟨l0, hK0, ho0⟩ := opens_Trod (d := (Kd.slice 35 Sl.kOp)) (Opens.slice (d := Sl.kOp) Tryd.underlying22 (by kernel_rfl) Sl.opens_Op) h0
  obtain ⟨A0, c0, he0, hc0, hr0⟩ := slice_of_K hK0
  injection he0 with ea0 el0 ec0; subst ea0; subst ec0; rw [← el0] at hc0 hr0
  have hz0 : _ * 72 ≤ reachBytes := sized_row (j := 0) Tryd.underlying22 (by kernel_rfl) hZ rfl rfl h0
  have k1 := h1
  have lt1 : ∀ x ∈ p1, x.block < W.heap.size := by obtain ⟨m, hm⟩ := k1; exact DataW.trod_lt m _ _ _ hm
  obtain ⟨cs1, rfl, _⟩ := okWide_struct Tryd.underlying35 (hval 1 35 v1 rfl rfl)
  obtain ⟨l1, hK1, ho1⟩ := opens_Trod (d := Sl.kOp) Sl.opens_Op h1
  obtain ⟨A1, c1, B1, b1, he1, hat1⟩ := Sl.kOp_cells hK1
  obtain rfl : cs1 = (Sl.opCells l1 A1 c1 B1 b1).toArray := by rw [← he1]; rfl
  have hKK1 : Sl.kOp.K W l1 (Sl.opCells l1 A1 c1 B1 b1) := hK1
  obtain ⟨a2, rfl, rfl, rfl, w2⟩ := open_int Tryd.underlying5 (hval 2 5 v2 rfl rfl) h2
  have k3 := h3
  have lt3 : ∀ x ∈ p3, x.block < W.heap.size := by obtain ⟨m, hm⟩ := k3; exact DataW.trod_lt m _ _ _ hm
  obtain ⟨a3, len3, cap3, rfl⟩ := okWide_slice Tryd.underlying33 (hval 3 33 v3 rfl rfl)
  obtain ⟨l3, hK3, ho3⟩ := opens_Trod (d := (Kd.slice 4 Kd.bool)) (Opens.slice (d := Kd.bool) Tryd.underlying33 (by kernel_rfl) (Opens.bool Tryd.underlying4)) h3
  obtain ⟨A3, c3, he3, hc3, hr3⟩ := slice_of_K hK3
  injection he3 with ea3 el3 ec3; subst ea3; subst ec3; rw [← el3] at hc3 hr3
  clear hA0 hval0
  refine (Sl.SlotsCrashes_calls W (Laid.of_laid hL) _ _ _ l0 hr0 hc0 ho0 hz0 l1 A1 c1 B1 b1 hat1 hKK1 ho1 a2 w2 _ _ _ l3 hr3 hc3 ho3).mono fun e W' ⟨he, bel⟩ => ?_
  subst he
  exact ⟨_, rfl, _, _, _, [], _, [], hW', trodAll_mk1 (shut_bool Tryd.underlying4 _), (trodAll_cons_mk (Below.trod laidOut (by kernel_rfl) (of_decide_eq_true (by kernel_rfl)) k0 bel lt0) (trodAll_cons_mk (Below.trod laidOut (by kernel_rfl) (of_decide_eq_true (by kernel_rfl)) k1 bel lt1) (trodAll_cons_mk (shut_int Tryd.underlying5 w2) (trodAll_cons_mk (Below.trod laidOut (by kernel_rfl) (of_decide_eq_true (by kernel_rfl)) k3 bel lt3) trodAll_mk0)))), rfl, bel.frame _, fun h => by cases h⟩
theorem over : Rows.slotsCrashesRow.holds Tryd.pinned (OpenSpec.ofChange Rows.slotsCrashesSpec) :=
  OpenClaim.holds_of_wide 7 Tryd.f7 rfl rfl rfl rfl rfl rfl rfl ⟨rfl, rfl, rfl, rfl, rfl⟩ rfl rfl rfl rfl rfl (by kernel_rfl) Tryd.func7 (by kernel_rfl)
    (of_decide_eq_true (by kernel_rfl)) (by unfold Func.isWrapper; first | (rw [if_pos (by decide +kernel)]; kernel_rfl) | (rw [if_neg (by decide +kernel)]; exact ⟨rfl, rfl⟩))
    (fun os started H enc _ => lifted os started H enc)
theorem proved : Rows.SlotsCrashesSaid := over
theorem card : Rows.SlotsCrashesCardSaid :=
  Claim7.holds_tied_plain_at .later [] [.data] true (true, "84c8459349bec5fcef925983fe61b9edb9a42b04e35d38c0c642bffff06d10d5") false
    proved (fun _ h => by cases h) (by kernel_rfl) (fun _ h => by cases h) slotsCrashes_row_tie rfl ⟨rfl, rfl⟩ (by kernel_rfl) rfl
    (fun f fn hf hfn => by
      obtain rfl : f = 7 := Option.some.inj ((show Tryd.prog.funcNamed "diapause/diapauselaw11.SlotsCrashes" = some 7 by kernel_rfl).symm.trans hf) |>.symm
      obtain rfl : fn = Tryd.f7 := (Option.some.inj (Tryd.func7.symm.trans hfn)).symm
      exact ⟨by kernel_rfl, fun j t ht => by
        rw [Tryd.params7] at ht
        have hm : t ∈ [22, 35, 5, 33] := by simpa using Array.mem_of_getElem? ht
        have hall : ([22, 35, 5, 33].all fun u => !Tryd.prog.wantsStandIn u) = true := by kernel_rfl
        exact (show Tryd.prog.wantsStandIn t = false by simpa using List.all_eq_true.1 hall t hm)⟩)
    (by kernel_rfl)
end Go.Proofs.YtiibfboendnifaaDoor.RowSlotsCrashes
namespace Go.Proofs.YtiibfboendnifaaDoor
theorem slotsCrashes_holds : Rows.SlotsCrashesCardSaid := RowSlotsCrashes.card
#print axioms slotsCrashes_holds
end Go.Proofs.YtiibfboendnifaaDoor
