/- The reference of layer 10: what is wrong with sections; Pack. -/
import Derived.Test.YtpnjhffnlafabaaGreatDoorVRe1
namespace Go.Proofs.YtpnjhffnlafabaaGreatDoor.Im
set_option linter.unusedVariables false
set_option linter.unusedSimpArgs false
open Go.Proofs Go.RowKit Go.Proofs.Bk Go.Proofs.Bm Go.Proofs.Sc Go.Proofs.Kf Go.Proofs.YtpnjhffnlafabaaGreatDoorW.PrintWords Go.Proofs.YtpnjhffnlafabaaGreatDoor.Sl Go.Proofs.YtpnjhffnlafabaaGreatDoor.Sn Go.Proofs.YtpnjhffnlafabaaGreatDoor.PImageBack
set_option maxHeartbeats 4000000 in
theorem rcheck_calls (A : Option Addr) (n c : Nat) (l : List Int) (w : World) (h : U8.C w A n l) (hl : inB l) :
    Calls Tryz.prog 56 #[.slice A n c] w (BytsPost w (digs (crc l) 4)) := by
  have ko := rOf_calls A n c l w h hl
  have hr := crc_range l hl
  obtain ⟨z, hz⟩ : ∃ z : Nat, crc l = z := ⟨(crc l).toNat, by omega⟩
  rw [hz] at ko hr
  have hwz : IntKind.u64.wrap (z : Int) = (z : Int) := by rw [IntKind.wrap_u64]; omega
  have kd := rDigits_calls z 4 4 w (by omega) (by decide)
  rw [hz]
  replace ko := Aside0.mk ko; replace kd := Aside0.mk kd; replace hz := Aside0.mk hz
  go_enter Tryz.func56, Tryz.ntmps56
  go_wp2_with (first
    | (go_at_call 90; (with_reducible refine ko.out.mono ?_); rintro e w' ⟨rfl, hw'⟩; subst hw')
    | (go_at_call 25; (with_reducible refine kd.out.mono ?_); rintro e w1 ⟨v, rfl, r1, hb1⟩; replace r1 := Aside0.mk r1; replace hb1 := Aside0.mk hb1))
  go_ret
  exact ⟨_, rfl, r1.out, hb1.out⟩
end Go.Proofs.YtpnjhffnlafabaaGreatDoor.Im
