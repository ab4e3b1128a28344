/- The struct Pair of the reference of layer 12 in memory, as the kit's print has it (where a law's print does not reach it). -/
import Derived.Test.YtpnjhffnlafabaaGreatDoorVSd6
namespace Go.Proofs.YtpnjhffnlafabaaGreatDoor.PImageBack
open Go.RowKit Go.Proofs.YtpnjhffnlafabaaGreatDoorW.PrintWords Go.Proofs.YtpnjhffnlafabaaGreatDoorW.PrintLast Go.Proofs.YtpnjhffnlafabaaGreatDoorW.PrintMore
set_option linter.unusedVariables false
set_option linter.unusedSimpArgs false
/-! #### the struct Pair of the reference of layer 12 -/
structure S139 where
  f0 : Int
  f1 : Int
def z139 : S139 := ⟨(0 : Int), (0 : Int)⟩
def k139 : Kd S139 := Kd.iso (Kd.pair (Kd.int .i64) (Kd.int .i64)) (fun x : S139 => (x.f0, x.f1))
theorem k139_open {w : World} {x : S139} {cs : List Value} (h : k139.K w x cs) : cs = [.int .i64 x.f0, .int .i64 x.f1] := by
  obtain ⟨_, _, rfl, rfl, rfl⟩ := h
  exact rfl
theorem k139_mkM (w : World) (base : Nat) (ok : Nat → Prop) (x : S139)  : k139.M w base ok x [.int .i64 x.f0, .int .i64 x.f1] := ⟨[.int .i64 x.f0], [.int .i64 x.f1], rfl, rfl, rfl⟩
end Go.Proofs.YtpnjhffnlafabaaGreatDoor.PImageBack
