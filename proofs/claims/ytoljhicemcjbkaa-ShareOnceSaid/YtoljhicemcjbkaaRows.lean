/-
  No cell of these rows narrows 'for every input' (looked for: loops, veiled, ifaces, maps, wideKeys, modest, calm, conditions, laid).
  DERIVED. THE GIVEN ROWS OF THIS SEAT. 3 by the template 'for every input the law returns true; each argument reads behind the call as it read before'; 0 by the template 'total and deterministic' (their statements: YtoljhicemcjbkaaTotals.lean).
  GIVEN WITH THE SEED: the statements are not yours to turn. If you find one false, say at which input.
  Laid BY PROGRAM, IN A SANDBOX (cutbox-rows.mjs): the forced cells as the released guide's own fill.sh prints them over the translation 9436d8b3a102ba92… (all of the seat's roots in one cut). By AI agents, Wed Nov 11 2026. No macro, syntax, notation, axiom, sorry.
-/
import Derived.Test.YtoljhicemcjbkaaChecked
import GoSem.Claim
import GoSem.ClaimJoined
import GoSem.ClaimMapViews
import Derived.JoinedTies
import Derived.KernelRfl
namespace Go.Proofs.Ytoljhicemcjbkaa
/- THE CELL 'sum', in the pinned program and in every row, IS THE sha256 OF THE DUMP (.gsa) THAT YtoljhicemcjbkaaProg.lean LOADS. Nothing in Lean hashes anything: it is a label: what it is worth is what the hold of that sum in a sandbox is worth. -/
noncomputable def Try.pinned : Pinned := { name := "ytoljhicemcjbkaa", sum := "9436d8b3a102ba9221d22a6a6ff655fe3e8776e498b47e0558f6778ee06d7013", checked := Try.checked }
namespace Rows
def none {H : Type} : Left H := { results := [], args := [] }

/-- 'diapauselaw23.ShareParts': WHATEVER THE INPUT: true; the input reads as it did. -/
def sharePartsSpec : ChangeSpec := { name := "shareParts", fn := fun _ => fun
  | [d1, d2, d3, d4] => { results := [.lit (.bool true)], args := [d1, d2, d3, d4] }
  | _ => none }
def sharePartsRow : OpenClaim := { program := "ytoljhicemcjbkaa", sum := "9436d8b3a102ba9221d22a6a6ff655fe3e8776e498b47e0558f6778ee06d7013", func := "diapause/diapauselaw23.ShareParts", spec := "shareParts", apart := false }
def SharePartsSaid : Prop := sharePartsRow.holds Try.pinned (OpenSpec.ofChange sharePartsSpec)

/-- ITS FALSE NEIGHBOUR: 'it returns false'. Refute it at one input. -/
def sharePartsWrong : ChangeSpec := { name := "shareParts", fn := fun _ => fun
  | [d1, d2, d3, d4] => { results := [.lit (.bool false)], args := [d1, d2, d3, d4] }
  | _ => none }
def SharePartsWrongFalsely : Prop := sharePartsRow.holds Try.pinned (OpenSpec.ofChange sharePartsWrong)

/-- 'diapauselaw23.ShareOnce': WHATEVER THE INPUT: true; the input reads as it did. -/
def shareOnceSpec : ChangeSpec := { name := "shareOnce", fn := fun _ => fun
  | [d1, d2, d3] => { results := [.lit (.bool true)], args := [d1, d2, d3] }
  | _ => none }
def shareOnceRow : OpenClaim := { program := "ytoljhicemcjbkaa", sum := "9436d8b3a102ba9221d22a6a6ff655fe3e8776e498b47e0558f6778ee06d7013", func := "diapause/diapauselaw23.ShareOnce", spec := "shareOnce", apart := false }
def ShareOnceSaid : Prop := shareOnceRow.holds Try.pinned (OpenSpec.ofChange shareOnceSpec)

/-- ITS FALSE NEIGHBOUR: 'it returns false'. Refute it at one input. -/
def shareOnceWrong : ChangeSpec := { name := "shareOnce", fn := fun _ => fun
  | [d1, d2, d3] => { results := [.lit (.bool false)], args := [d1, d2, d3] }
  | _ => none }
def ShareOnceWrongFalsely : Prop := shareOnceRow.holds Try.pinned (OpenSpec.ofChange shareOnceWrong)

/-- 'diapauselaw23.ShareTells': WHATEVER THE INPUT: true; the input reads as it did. -/
def shareTellsSpec : ChangeSpec := { name := "shareTells", fn := fun _ => fun
  | [d1, d2, d3, d4, d5] => { results := [.lit (.bool true)], args := [d1, d2, d3, d4, d5] }
  | _ => none }
def shareTellsRow : OpenClaim := { program := "ytoljhicemcjbkaa", sum := "9436d8b3a102ba9221d22a6a6ff655fe3e8776e498b47e0558f6778ee06d7013", func := "diapause/diapauselaw23.ShareTells", spec := "shareTells", unfollowed := true, recurses := true, apart := false }
def ShareTellsSaid : Prop := shareTellsRow.holds Try.pinned (OpenSpec.ofChange shareTellsSpec)

/-- ITS FALSE NEIGHBOUR: 'it returns false'. Refute it at one input. -/
def shareTellsWrong : ChangeSpec := { name := "shareTells", fn := fun _ => fun
  | [d1, d2, d3, d4, d5] => { results := [.lit (.bool false)], args := [d1, d2, d3, d4, d5] }
  | _ => none }
def ShareTellsWrongFalsely : Prop := shareTellsRow.holds Try.pinned (OpenSpec.ofChange shareTellsWrong)

/- THE SECOND FORM. 'bulk': how many values and letters a reading holds, each counted each time it is reached (what is shared counts as often as it is met; a slice's spare places count too). A statement '..UptoSaid' is the law's where the arguments, and the package variables that the reading takes, are together of bulk at most 1048576: NARROWER than '..Said'. Prove '..Said' where nothing that the law and all that it calls make is longer than what came in: it says more and counts as full. Else prove '..UptoSaid'. A law counts once. -/
mutual
def uptoBulk {H : Type} : DataW H → Nat
  | .lit (.string bytes) => bytes.length + 1
  | .lit _ => 1
  | .nil => 1
  | .ptr d => uptoBulk d + 1
  | .slice elems spare => uptoBulkAll elems + uptoBulkAll spare + 1
  | .agg parts => uptoBulkAll parts + 1
  | .iface _ d => uptoBulk d + 1
  | .map entries => uptoBulkEntries entries + 1
  | .held _ => 1
def uptoBulkAll {H : Type} : List (DataW H) → Nat
  | [] => 0
  | d :: r => uptoBulk d + uptoBulkAll r
def uptoBulkEntries {H : Type} : List (Lit × DataW H) → Nat
  | [] => 0
  | x :: r => uptoBulkEntry x + uptoBulkEntries r
def uptoBulkEntry {H : Type} : Lit × DataW H → Nat
  | (.string bytes, d) => bytes.length + uptoBulk d + 1
  | (_, d) => uptoBulk d + 1
 end
def uptoSmall : (H : Type) → List (DataW H) → Bool := fun _ ds => decide (uptoBulkAll ds ≤ 1048576)
def OpenSpec.upto (s : _root_.Go.ChangeSpec) : _root_.Go.OpenSpec := { _root_.Go.OpenSpec.ofChange s with cond := some uptoSmall }

/-- 'diapauselaw23.ShareParts', WHERE WHAT IT READS IS OF BULK AT MOST 1048576: true; the input reads as it did. -/
def sharePartsUptoRow : OpenClaim := { program := "ytoljhicemcjbkaa", sum := "9436d8b3a102ba9221d22a6a6ff655fe3e8776e498b47e0558f6778ee06d7013", func := "diapause/diapauselaw23.ShareParts", spec := "shareParts", apart := false, narrowed := true }
def SharePartsUptoSaid : Prop := sharePartsUptoRow.holds Try.pinned (OpenSpec.upto sharePartsSpec)

/-- 'diapauselaw23.ShareOnce', WHERE WHAT IT READS IS OF BULK AT MOST 1048576: true; the input reads as it did. -/
def shareOnceUptoRow : OpenClaim := { program := "ytoljhicemcjbkaa", sum := "9436d8b3a102ba9221d22a6a6ff655fe3e8776e498b47e0558f6778ee06d7013", func := "diapause/diapauselaw23.ShareOnce", spec := "shareOnce", apart := false, narrowed := true }
def ShareOnceUptoSaid : Prop := shareOnceUptoRow.holds Try.pinned (OpenSpec.upto shareOnceSpec)

/-- 'diapauselaw23.ShareTells', WHERE WHAT IT READS IS OF BULK AT MOST 1048576: true; the input reads as it did. -/
def shareTellsUptoRow : OpenClaim := { program := "ytoljhicemcjbkaa", sum := "9436d8b3a102ba9221d22a6a6ff655fe3e8776e498b47e0558f6778ee06d7013", func := "diapause/diapauselaw23.ShareTells", spec := "shareTells", unfollowed := true, recurses := true, apart := false, narrowed := true }
def ShareTellsUptoSaid : Prop := shareTellsUptoRow.holds Try.pinned (OpenSpec.upto shareTellsSpec)

end Rows
end Go.Proofs.Ytoljhicemcjbkaa
