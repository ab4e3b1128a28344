/- ImageBack: what was encoded is decoded, each number of it; what can't be isn't encoded. -/
import Derived.Test.YtpnjhffnlafabaaGreatDoorVIml
import Derived.Test.YtpnjhffnlafabaaGreatDoorVRs
namespace Go.Proofs.YtpnjhffnlafabaaGreatDoor.Im
set_option linter.unusedVariables false
set_option linter.unusedSimpArgs false
open Go.Proofs Go.RowKit Go.Proofs.Bk Go.Proofs.Bm Go.Proofs.Sc Go.Proofs.Kf Go.Proofs.YtpnjhffnlafabaaGreatDoorW.PrintWords Go.Proofs.YtpnjhffnlafabaaGreatDoor.Sl Go.Proofs.YtpnjhffnlafabaaGreatDoor.Sn Go.Proofs.YtpnjhffnlafabaaGreatDoor.PImageBack
end Go.Proofs.YtpnjhffnlafabaaGreatDoor.Im
