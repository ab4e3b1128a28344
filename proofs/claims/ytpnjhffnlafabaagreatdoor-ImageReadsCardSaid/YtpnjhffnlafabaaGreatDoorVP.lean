/- Parts of the proof. -/
import Derived.Test.YtpnjhffnlafabaaGreatDoorProg
import Derived.Below
import Derived.Deep.Draws
import Derived.Deep.AppendLies
import Derived.Maps.AppendAt
import Derived.OwnWalk
import Derived.Laws.BytesArg
import Derived.Laws.MakeOwn
import Derived.Laws.OwnMore
import Derived.Deep.OwnRows
import Derived.Tactics
import Derived.Lib.ConvBytes
import Derived.Laws.Slices
import Derived.WalkKit
import Derived.KernelRfl
import Derived.RowKit3
import Derived.Deep.LoopGhost
import Derived.Deep.QuietTactic
import Derived.BigQuiet
import Derived.WideLaws
import Derived.Deep.DeepCutAuto
import Derived.Deep.CutBlock
import Derived.Deep.RegionHeld3
import Derived.Laws.Rows
import Derived.Lib.AppendStr
import Derived.ArgAppend
import Derived.Laws.IdiomCopy
import Derived.OrdersHeld
import Derived.Laws.BitsLemmas
import Derived.RowKit
import Derived.Test.YtpnjhffnlafabaaGreatDoorVW
-- PRINTED BY print.sh 35421559b90ae4d0a3588c463048766b98c2df88dd9212a6774a882060cdf62d: not written by this session
namespace Go.Proofs.YtpnjhffnlafabaaGreatDoor.PImageBack
open Go.RowKit Go.Proofs.YtpnjhffnlafabaaGreatDoorW.PrintWords Go.Proofs.YtpnjhffnlafabaaGreatDoorW.PrintLast Go.Proofs.YtpnjhffnlafabaaGreatDoorW.PrintMore
attribute [local go_sem] max2_int min2_int max_two min_two max_three min_three max_four min_four   -- for this text's walks alone
set_option linter.unusedVariables false
set_option linter.unusedSimpArgs false
-- the values' own types
/-! #### struct type 36 -/
structure S36 where
  f0 : Int
  f1 : (List Int)
def z36 : S36 := ⟨(0 : Int), ([] : List Int)⟩
def k36 : Kd S36 := Kd.iso (Kd.pair (Kd.int .i64) (Kd.slice 5 (Kd.int .u8))) (fun x : S36 => (x.f0, x.f1))
theorem k36_open {w : World} {x : S36} {cs : List Value} (h : k36.K w x cs) : ∃ A1 c1, cs = [.int .i64 x.f0, .slice A1 x.f1.length c1] ∧ x.f1.length ≤ c1 ∧ (Kd.int .u8).C w A1 x.f1.length x.f1 := by
  obtain ⟨_, _, rfl, rfl, ⟨A1, c1, rfl, l1, g1⟩⟩ := h
  exact ⟨A1, c1, rfl, l1, g1⟩
theorem k36_mk (w : World) (x : S36) {A1 : Option Addr} {c1 : Nat} (l1 : x.f1.length ≤ c1) (g1 : (Kd.int .u8).C w A1 x.f1.length x.f1) : k36.K w x [.int .i64 x.f0, .slice A1 x.f1.length c1] := ⟨[.int .i64 x.f0], [.slice A1 x.f1.length c1], rfl, rfl, ⟨A1, c1, rfl, l1, g1⟩⟩
theorem k36_mkM (w : World) (base : Nat) (ok : Nat → Prop) (x : S36) {v1 : Value} (g1 : (Kd.int .u8).R 5 w base ok v1 x.f1) : k36.M w base ok x [.int .i64 x.f0, v1] := ⟨[.int .i64 x.f0], [v1], rfl, rfl, ⟨v1, rfl, g1⟩⟩
/-! #### struct type 48 -/
structure S48 where
  f0 : Int
  f1 : Int
  f2 : Int
def z48 : S48 := ⟨(0 : Int), (0 : Int), (0 : Int)⟩
def k48 : Kd S48 := Kd.iso (Kd.pair (Kd.int .i64) (Kd.pair (Kd.int .i64) (Kd.int .i64))) (fun x : S48 => (x.f0, x.f1, x.f2))
theorem k48_open {w : World} {x : S48} {cs : List Value} (h : k48.K w x cs) : cs = [.int .i64 x.f0, .int .i64 x.f1, .int .i64 x.f2] := by
  obtain ⟨_, _, rfl, rfl, ⟨_, _, rfl, rfl, rfl⟩⟩ := h
  exact rfl
theorem k48_mk (w : World) (x : S48)  : k48.K w x [.int .i64 x.f0, .int .i64 x.f1, .int .i64 x.f2] := ⟨[.int .i64 x.f0], [.int .i64 x.f1, .int .i64 x.f2], rfl, rfl, ⟨[.int .i64 x.f1], [.int .i64 x.f2], rfl, rfl, rfl⟩⟩
theorem k48_mkM (w : World) (base : Nat) (ok : Nat → Prop) (x : S48)  : k48.M w base ok x [.int .i64 x.f0, .int .i64 x.f1, .int .i64 x.f2] := ⟨[.int .i64 x.f0], [.int .i64 x.f1, .int .i64 x.f2], rfl, rfl, ⟨[.int .i64 x.f1], [.int .i64 x.f2], rfl, rfl, rfl⟩⟩
/-! #### struct type 50 -/
structure S50 where
  f0 : Int
  f1 : Int
  f2 : Int
  f3 : S48
def z50 : S50 := ⟨(0 : Int), (0 : Int), (0 : Int), z48⟩
def k50 : Kd S50 := Kd.iso (Kd.pair (Kd.int .i64) (Kd.pair (Kd.int .i64) (Kd.pair (Kd.int .i64) k48))) (fun x : S50 => (x.f0, x.f1, x.f2, x.f3))
theorem k50_open {w : World} {x : S50} {cs : List Value} (h : k50.K w x cs) : cs = [.int .i64 x.f0, .int .i64 x.f1, .int .i64 x.f2, .int .i64 x.f3.f0, .int .i64 x.f3.f1, .int .i64 x.f3.f2] := by
  obtain ⟨_, _, rfl, rfl, ⟨_, _, rfl, rfl, ⟨_, _, rfl, rfl, s3⟩⟩⟩ := h
  obtain rfl := k48_open s3
  exact rfl
theorem k50_mk (w : World) (x : S50)  : k50.K w x [.int .i64 x.f0, .int .i64 x.f1, .int .i64 x.f2, .int .i64 x.f3.f0, .int .i64 x.f3.f1, .int .i64 x.f3.f2] := ⟨[.int .i64 x.f0], [.int .i64 x.f1, .int .i64 x.f2, .int .i64 x.f3.f0, .int .i64 x.f3.f1, .int .i64 x.f3.f2], rfl, rfl, ⟨[.int .i64 x.f1], [.int .i64 x.f2, .int .i64 x.f3.f0, .int .i64 x.f3.f1, .int .i64 x.f3.f2], rfl, rfl, ⟨[.int .i64 x.f2], [.int .i64 x.f3.f0, .int .i64 x.f3.f1, .int .i64 x.f3.f2], rfl, rfl, (k48_mk w x.f3 )⟩⟩⟩
theorem k50_mkM (w : World) (base : Nat) (ok : Nat → Prop) (x : S50)  : k50.M w base ok x [.int .i64 x.f0, .int .i64 x.f1, .int .i64 x.f2, .int .i64 x.f3.f0, .int .i64 x.f3.f1, .int .i64 x.f3.f2] := ⟨[.int .i64 x.f0], [.int .i64 x.f1, .int .i64 x.f2, .int .i64 x.f3.f0, .int .i64 x.f3.f1, .int .i64 x.f3.f2], rfl, rfl, ⟨[.int .i64 x.f1], [.int .i64 x.f2, .int .i64 x.f3.f0, .int .i64 x.f3.f1, .int .i64 x.f3.f2], rfl, rfl, ⟨[.int .i64 x.f2], [.int .i64 x.f3.f0, .int .i64 x.f3.f1, .int .i64 x.f3.f2], rfl, rfl, (k48_mkM w base ok x.f3 )⟩⟩⟩
/-! #### struct type 57 -/
structure S57 where
  f0 : Int
  f1 : Int
def z57 : S57 := ⟨(0 : Int), (0 : Int)⟩
def k57 : Kd S57 := Kd.iso (Kd.pair (Kd.int .i64) (Kd.int .i64)) (fun x : S57 => (x.f0, x.f1))
theorem k57_open {w : World} {x : S57} {cs : List Value} (h : k57.K w x cs) : cs = [.int .i64 x.f0, .int .i64 x.f1] := by
  obtain ⟨_, _, rfl, rfl, rfl⟩ := h
  exact rfl
theorem k57_mk (w : World) (x : S57)  : k57.K w x [.int .i64 x.f0, .int .i64 x.f1] := ⟨[.int .i64 x.f0], [.int .i64 x.f1], rfl, rfl, rfl⟩
theorem k57_mkM (w : World) (base : Nat) (ok : Nat → Prop) (x : S57)  : k57.M w base ok x [.int .i64 x.f0, .int .i64 x.f1] := ⟨[.int .i64 x.f0], [.int .i64 x.f1], rfl, rfl, rfl⟩
/-! #### struct type 59 -/
structure S59 where
  f0 : Int
  f1 : Int
  f2 : Int
  f3 : Int
  f4 : Bool
  f5 : Int
  f6 : S57
def z59 : S59 := ⟨(0 : Int), (0 : Int), (0 : Int), (0 : Int), false, (0 : Int), z57⟩
def k59 : Kd S59 := Kd.iso (Kd.pair (Kd.int .i64) (Kd.pair (Kd.int .i64) (Kd.pair (Kd.int .i64) (Kd.pair (Kd.int .u64) (Kd.pair Kd.bool (Kd.pair (Kd.int .i64) k57)))))) (fun x : S59 => (x.f0, x.f1, x.f2, x.f3, x.f4, x.f5, x.f6))
theorem k59_open {w : World} {x : S59} {cs : List Value} (h : k59.K w x cs) : cs = [.int .i64 x.f0, .int .i64 x.f1, .int .i64 x.f2, .int .u64 x.f3, .bool x.f4, .int .i64 x.f5, .int .i64 x.f6.f0, .int .i64 x.f6.f1] := by
  obtain ⟨_, _, rfl, rfl, ⟨_, _, rfl, rfl, ⟨_, _, rfl, rfl, ⟨_, _, rfl, rfl, ⟨_, _, rfl, rfl, ⟨_, _, rfl, rfl, s6⟩⟩⟩⟩⟩⟩ := h
  obtain rfl := k57_open s6
  exact rfl
theorem k59_mk (w : World) (x : S59)  : k59.K w x [.int .i64 x.f0, .int .i64 x.f1, .int .i64 x.f2, .int .u64 x.f3, .bool x.f4, .int .i64 x.f5, .int .i64 x.f6.f0, .int .i64 x.f6.f1] := ⟨[.int .i64 x.f0], [.int .i64 x.f1, .int .i64 x.f2, .int .u64 x.f3, .bool x.f4, .int .i64 x.f5, .int .i64 x.f6.f0, .int .i64 x.f6.f1], rfl, rfl, ⟨[.int .i64 x.f1], [.int .i64 x.f2, .int .u64 x.f3, .bool x.f4, .int .i64 x.f5, .int .i64 x.f6.f0, .int .i64 x.f6.f1], rfl, rfl, ⟨[.int .i64 x.f2], [.int .u64 x.f3, .bool x.f4, .int .i64 x.f5, .int .i64 x.f6.f0, .int .i64 x.f6.f1], rfl, rfl, ⟨[.int .u64 x.f3], [.bool x.f4, .int .i64 x.f5, .int .i64 x.f6.f0, .int .i64 x.f6.f1], rfl, rfl, ⟨[.bool x.f4], [.int .i64 x.f5, .int .i64 x.f6.f0, .int .i64 x.f6.f1], rfl, rfl, ⟨[.int .i64 x.f5], [.int .i64 x.f6.f0, .int .i64 x.f6.f1], rfl, rfl, (k57_mk w x.f6 )⟩⟩⟩⟩⟩⟩
theorem k59_mkM (w : World) (base : Nat) (ok : Nat → Prop) (x : S59)  : k59.M w base ok x [.int .i64 x.f0, .int .i64 x.f1, .int .i64 x.f2, .int .u64 x.f3, .bool x.f4, .int .i64 x.f5, .int .i64 x.f6.f0, .int .i64 x.f6.f1] := ⟨[.int .i64 x.f0], [.int .i64 x.f1, .int .i64 x.f2, .int .u64 x.f3, .bool x.f4, .int .i64 x.f5, .int .i64 x.f6.f0, .int .i64 x.f6.f1], rfl, rfl, ⟨[.int .i64 x.f1], [.int .i64 x.f2, .int .u64 x.f3, .bool x.f4, .int .i64 x.f5, .int .i64 x.f6.f0, .int .i64 x.f6.f1], rfl, rfl, ⟨[.int .i64 x.f2], [.int .u64 x.f3, .bool x.f4, .int .i64 x.f5, .int .i64 x.f6.f0, .int .i64 x.f6.f1], rfl, rfl, ⟨[.int .u64 x.f3], [.bool x.f4, .int .i64 x.f5, .int .i64 x.f6.f0, .int .i64 x.f6.f1], rfl, rfl, ⟨[.bool x.f4], [.int .i64 x.f5, .int .i64 x.f6.f0, .int .i64 x.f6.f1], rfl, rfl, ⟨[.int .i64 x.f5], [.int .i64 x.f6.f0, .int .i64 x.f6.f1], rfl, rfl, (k57_mkM w base ok x.f6 )⟩⟩⟩⟩⟩⟩
/-! #### struct type 54 -/
structure S54 where
  f0 : Int
  f1 : Int
def z54 : S54 := ⟨(0 : Int), (0 : Int)⟩
def k54 : Kd S54 := Kd.iso (Kd.pair (Kd.int .u64) (Kd.int .i64)) (fun x : S54 => (x.f0, x.f1))
theorem k54_open {w : World} {x : S54} {cs : List Value} (h : k54.K w x cs) : cs = [.int .u64 x.f0, .int .i64 x.f1] := by
  obtain ⟨_, _, rfl, rfl, rfl⟩ := h
  exact rfl
theorem k54_mk (w : World) (x : S54)  : k54.K w x [.int .u64 x.f0, .int .i64 x.f1] := ⟨[.int .u64 x.f0], [.int .i64 x.f1], rfl, rfl, rfl⟩
end Go.Proofs.YtpnjhffnlafabaaGreatDoor.PImageBack
-- PRINTED BY print.sh 35421559b90ae4d0a3588c463048766b98c2df88dd9212a6774a882060cdf62d: not written by this session
namespace Go.Proofs.YtpnjhffnlafabaaGreatDoor.PImageBack
open Go.RowKit Go.Proofs.YtpnjhffnlafabaaGreatDoorW.PrintWords Go.Proofs.YtpnjhffnlafabaaGreatDoorW.PrintLast Go.Proofs.YtpnjhffnlafabaaGreatDoorW.PrintMore
attribute [local go_sem] max2_int min2_int max_two min_two max_three min_three max_four min_four   -- for this text's walks alone
set_option linter.unusedVariables false
set_option linter.unusedSimpArgs false
theorem eqA57 (d : Nat) (w : World) (x0 y0 : Int) (x1 y1 : Int) :
    (Op.equalIn (d + 2) 57 (.agg #[.int .i64 x0, .int .i64 x1]) (.agg #[.int .i64 y0, .int .i64 y1])).run Tryz.prog w = .ok (x0 == y0 && (x1 == y1)) w := by
  refine eqA_of Tryz.underlying57 (by kernel_rfl) ?_
  refine eqf_cons (by rfl) (by go_simp; rfl) (by go_simp; rfl) (by go_simp) ?_
  exact eqf_last (by rfl) (by go_simp; rfl) (by go_simp; rfl) (by go_simp)
theorem eqA59 (d : Nat) (w : World) (x0 y0 : Int) (x1 y1 : Int) (x2 y2 : Int) (x3 y3 : Int) (x4 y4 : Bool) (x5 y5 : Int) (x6 y6 : Int) (x7 y7 : Int) :
    (Op.equalIn (d + 3) 59 (.agg #[.int .i64 x0, .int .i64 x1, .int .i64 x2, .int .u64 x3, .bool x4, .int .i64 x5, .int .i64 x6, .int .i64 x7]) (.agg #[.int .i64 y0, .int .i64 y1, .int .i64 y2, .int .u64 y3, .bool y4, .int .i64 y5, .int .i64 y6, .int .i64 y7])).run Tryz.prog w = .ok (x0 == y0 && (x1 == y1 && (x2 == y2 && (x3 == y3 && (x4 == y4 && (x5 == y5 && ((x6 == y6 && (x7 == y7))))))))) w := by
  refine eqA_of Tryz.underlying59 (by kernel_rfl) ?_
  refine eqf_cons (by rfl) (by go_simp; rfl) (by go_simp; rfl) (by go_simp) ?_
  refine eqf_cons (by rfl) (by go_simp; rfl) (by go_simp; rfl) (by go_simp) ?_
  refine eqf_cons (by rfl) (by go_simp; rfl) (by go_simp; rfl) (by go_simp) ?_
  refine eqf_cons (by rfl) (by go_simp; rfl) (by go_simp; rfl) (by go_simp) ?_
  refine eqf_cons (by rfl) (by go_simp; rfl) (by go_simp; rfl) (by go_simp) ?_
  refine eqf_cons (by rfl) (by go_simp; rfl) (by go_simp; rfl) (by go_simp) ?_
  exact eqf_last (by rfl) (by go_simp) (by go_simp) (eqA57 (d + 0) w _ _ _ _)
end Go.Proofs.YtpnjhffnlafabaaGreatDoor.PImageBack
-- PRINTED BY print.sh 35421559b90ae4d0a3588c463048766b98c2df88dd9212a6774a882060cdf62d: not written by this session
namespace Go.Proofs.YtpnjhffnlafabaaGreatDoor.PImageBack
open Go.RowKit Go.Proofs.YtpnjhffnlafabaaGreatDoorW.PrintWords Go.Proofs.YtpnjhffnlafabaaGreatDoorW.PrintLast Go.Proofs.YtpnjhffnlafabaaGreatDoorW.PrintMore
attribute [local go_sem] max2_int min2_int max_two min_two max_three min_three max_four min_four   -- for this text's walks alone
set_option linter.unusedVariables false
set_option linter.unusedSimpArgs false
theorem eqA48 (d : Nat) (w : World) (x0 y0 : Int) (x1 y1 : Int) (x2 y2 : Int) :
    (Op.equalIn (d + 2) 48 (.agg #[.int .i64 x0, .int .i64 x1, .int .i64 x2]) (.agg #[.int .i64 y0, .int .i64 y1, .int .i64 y2])).run Tryz.prog w = .ok (x0 == y0 && (x1 == y1 && (x2 == y2))) w := by
  refine eqA_of Tryz.underlying48 (by kernel_rfl) ?_
  refine eqf_cons (by rfl) (by go_simp; rfl) (by go_simp; rfl) (by go_simp) ?_
  refine eqf_cons (by rfl) (by go_simp; rfl) (by go_simp; rfl) (by go_simp) ?_
  exact eqf_last (by rfl) (by go_simp; rfl) (by go_simp; rfl) (by go_simp)
end Go.Proofs.YtpnjhffnlafabaaGreatDoor.PImageBack
-- PRINTED BY print.sh 35421559b90ae4d0a3588c463048766b98c2df88dd9212a6774a882060cdf62d: not written by this session
namespace Go.Proofs.YtpnjhffnlafabaaGreatDoor.PImageBack
open Go.RowKit Go.Proofs.YtpnjhffnlafabaaGreatDoorW.PrintWords Go.Proofs.YtpnjhffnlafabaaGreatDoorW.PrintLast Go.Proofs.YtpnjhffnlafabaaGreatDoorW.PrintMore
attribute [local go_sem] max2_int min2_int max_two min_two max_three min_three max_four min_four   -- for this text's walks alone
set_option linter.unusedVariables false
set_option linter.unusedSimpArgs false
theorem eqA50 (d : Nat) (w : World) (x0 y0 : Int) (x1 y1 : Int) (x2 y2 : Int) (x3 y3 : Int) (x4 y4 : Int) (x5 y5 : Int) :
    (Op.equalIn (d + 3) 50 (.agg #[.int .i64 x0, .int .i64 x1, .int .i64 x2, .int .i64 x3, .int .i64 x4, .int .i64 x5]) (.agg #[.int .i64 y0, .int .i64 y1, .int .i64 y2, .int .i64 y3, .int .i64 y4, .int .i64 y5])).run Tryz.prog w = .ok (x0 == y0 && (x1 == y1 && (x2 == y2 && ((x3 == y3 && (x4 == y4 && (x5 == y5))))))) w := by
  refine eqA_of Tryz.underlying50 (by kernel_rfl) ?_
  refine eqf_cons (by rfl) (by go_simp; rfl) (by go_simp; rfl) (by go_simp) ?_
  refine eqf_cons (by rfl) (by go_simp; rfl) (by go_simp; rfl) (by go_simp) ?_
  refine eqf_cons (by rfl) (by go_simp; rfl) (by go_simp; rfl) (by go_simp) ?_
  exact eqf_last (by rfl) (by go_simp) (by go_simp) (eqA48 (d + 0) w _ _ _ _ _ _)
end Go.Proofs.YtpnjhffnlafabaaGreatDoor.PImageBack
