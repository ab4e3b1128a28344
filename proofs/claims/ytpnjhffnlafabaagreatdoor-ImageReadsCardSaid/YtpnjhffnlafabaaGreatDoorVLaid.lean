/- What the program's start lays: the table of package crc. -/
import Derived.Test.YtpnjhffnlafabaaGreatDoorRows
import Derived.Test.YtpnjhffnlafabaaGreatDoorVLe1
import Derived.ProofKit
import Derived.LaidMore
import Derived.OpenShut
import Derived.Stop.Joined
namespace Go.Proofs.YtpnjhffnlafabaaGreatDoor.Laid
open Go Go.Proofs.YtpnjhffnlafabaaGreatDoor.Sl Go.Proofs.YtpnjhffnlafabaaGreatDoorW.PrintWords
set_option linter.unusedVariables false
theorem own : ownKnob Tryz.prog.godebug = none := by kernel_rfl
theorem gH : Tryz.prog.globalNamed "diapause/crc.halves" = some 0 := by kernel_rfl
theorem tH : (Tryz.prog.globals[0]?).map (·.type) = some 141 := by kernel_rfl
def laid : List (String × DataW Unit) := [("diapause/crc.halves", Rows.laid_diapause_crc_halves)]
theorem door_met (os : Os) (args : Array Value) : laidMetH Tryz.prog laid ((World.doorLaid Tryz.prog 400 os).forCall (fun _ _ => 0) ⟨#[], args, []⟩).memory :=
  laidMetH_of_parts3 (fuel := 8) (laidMet_of_run' 8 (by kernel_rfl) (by kernel_rfl)) (by kernel_rfl) (by kernel_rfl)
set_option maxRecDepth 100000 in
theorem of_laid {W : World} (h : laidMetH Tryz.prog laid W) : Tab W := by
  rw [MakeChecks.laidMetH_plain _ _ _ (by kernel_rfl)] at h
  obtain ⟨ps, ⟨g0, t0, cs0, f0, p0, q0, hg0, ht0, hv0, hd0, _⟩, _, _⟩ := h
  obtain rfl := Option.some.inj (gH.symm.trans hg0)
  obtain rfl := Option.some.inj (tH.symm.trans ht0)
  obtain ⟨xs, m1, rfl, hx1, hlen, hn3, hel⟩ := DataW.trod_array Tryz.underlying141 hd0
  have c3 : Tryz.prog.cellsOf 45 = 1 := by kernel_rfl
  have hx2 := congrArg Prod.fst hx1
  intro j hj
  have h0 := hel j hj
  rw [c3] at h0
  have hxj : xs[j]? = some (xs[j]'(by omega)) := List.getElem?_eq_getElem _
  rw [hxj] at h0
  obtain ⟨k, e1, e2, _⟩ := DataW.trod_int Tryz.underlying45 h0
  have hk : k = rd halves j := by
    have hx3 : Rows.laid_diapause_crc_halves (H := Unit) = .agg (xs.map (·.1)) := hx2
    unfold Rows.laid_diapause_crc_halves at hx3
    injection hx3 with hx4
    have h5 := congrArg (fun l => l[j]?) hx4
    simp only [List.getElem?_map, hxj, Option.map_some, e2] at h5
    have h6 : ∀ j : Nat, j < 16 → ([.lit (.int .u32 0), .lit (.int .u32 498536548), .lit (.int .u32 997073096), .lit (.int .u32 651767980), .lit (.int .u32 1994146192), .lit (.int .u32 1802195444), .lit (.int .u32 1303535960), .lit (.int .u32 1342533948), .lit (.int .u32 3988292384), .lit (.int .u32 4027552580), .lit (.int .u32 3604390888), .lit (.int .u32 3412177804), .lit (.int .u32 2607071920), .lit (.int .u32 2262029012), .lit (.int .u32 2685067896), .lit (.int .u32 3183342108)] : List (DataW Unit))[j]? = some (.lit (.int .u32 (rd halves j))) := by
      intro j hj
      rcases j with _ | _ | _ | _ | _ | _ | _ | _ | _ | _ | _ | _ | _ | _ | _ | _ | j
      all_goals first
        | rfl
        | omega
    rw [h6 j hj] at h5
    injection h5 with h5
    injection h5 with h5
    injection h5 with _ h5
    exact h5.symm
  have hc := World.var?_cell hg0 hv0 j
  rw [hc]
  have e3 := congrArg (fun l => l[0]?) e1
  simp only [Nat.mul_one, List.getElem?_take, List.getElem?_drop, Nat.add_zero] at e3
  simp at e3
  rw [← hk]
  simpa using e3
end Go.Proofs.YtpnjhffnlafabaaGreatDoor.Laid
