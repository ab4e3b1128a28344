/- ImageBack: what was encoded is decoded, each number of it; what can't be isn't encoded. -/
import Derived.Test.YtpnjhffnlafabaaGreatDoorTIml
import Derived.Test.YtpnjhffnlafabaaGreatDoorTRs
namespace Go.Proofs.YtpnjhffnlafabaaGreatDoor.Im
set_option linter.unusedVariables false
set_option linter.unusedSimpArgs false
open Go.Proofs Go.RowKit Go.Proofs.Bk Go.Proofs.Bm Go.Proofs.Sc Go.Proofs.Kf Go.Proofs.YtpnjhffnlafabaaGreatDoorW.PrintWords Go.Proofs.YtpnjhffnlafabaaGreatDoor.Sl Go.Proofs.YtpnjhffnlafabaaGreatDoor.Sn Go.Proofs.YtpnjhffnlafabaaGreatDoor.PImageBack
theorem okT_f3 {ts : List ST} (h : ∀ x ∈ ts, okT x) : ∀ t ∈ ts, 0 ≤ t.f3 ∧ t.f3 ≤ 18446744073709551615 := by
  intro t ht
  have := (h t ht).2.2.2.1
  simp [Lit.wf, IntKind.min, IntKind.max, IntKind.signed, IntKind.bits] at this
  omega
end Go.Proofs.YtpnjhffnlafabaaGreatDoor.Im
