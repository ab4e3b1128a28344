/- The references' Same, of equal rows. -/
import Derived.Test.YtiibfboendnifaaDkM
namespace Go.Proofs.Ytiibfboendnifaa.Dk
set_option linter.unusedVariables false
set_option linter.unusedSimpArgs false
open Go.RowKit Go.Proofs.Bk Go.Proofs.Bm Go.Proofs.Op Go.Proofs.YtiibfboendnifaaW.PrintWords

theorem SlRow.c {w : World} {b off : Nat} {xs : List Int} (h : SlRow w b off xs) {n : Nat} (hn : xs.length = n) (hl : n ≤ 9223372036854775807) : (Kd.int .u8).C w (some ⟨b, off, none⟩) n xs := by
  refine ⟨hn, hl, fun _ => ⟨_, rfl, fun j p hj => ⟨[.int .u8 p], rfl, rfl, fun i u hu => ?_⟩⟩⟩
  have hi : i = 0 := by cases i with | zero => rfl | succ i => simp at hu
  subst hi
  simp at hu; subst hu
  show w.cell? ((⟨b, off, none⟩ : Addr).add (j * 1 + 0)) = _
  rw [addAt, show off + (j * 1 + 0) = off + j by omega]
  exact h j p hj
def SamePost (w : World) (e : Ending) (w' : World) : Prop := e = .returned (.bool true) ∧ ∃ m, w' = w.drewN m

set_option maxHeartbeats 1000000 in
theorem Same01_calls (A0 : Option Addr) (n0 c0 : Nat) (A1 : Option Addr) (c1 : Nat) (l : List Int) (w : World) (h0 : (Kd.int .u8).C w A0 n0 l) (h1 : (Kd.int .u8).C w A1 n0 l) :
    Calls Try.prog 16 #[.slice A0 n0 c0, .slice A1 n0 c1] w (SamePost w) := by
  have H0 := Aside0.mk h0
  have H1 := Aside0.mk h1
  have hn := h0.2.1
  clear h0 h1
  go_enter Try.func16, Try.ntmps16
  go_wp2_with fail
  go_loopw [5] (fun i wr => ∃ (k m : Nat), i = .int .i64 k ∧ k ≤ n0 ∧ wr = w.drewN m) (fun i _ => n0 - (intOf i).toNat)
  case atStart => exact ⟨0, 0, rfl, Nat.zero_le _, rfl⟩
  case round =>
    obtain ⟨k, m, rfl, hk, rfl⟩ := hrel
    by_cases hlt : k < n0
    · have p1 : 0 ≤ (k : Int) := by omega
      have q1 : (k : Int) < (n0 : Int) := by omega
      obtain ⟨a0, rfl, x0⟩ := Kd.at_int H0.out k p1 q1
      obtain ⟨a1, rfl, x1⟩ := Kd.at_int H1.out k p1 q1
      rw [Int.toNat_natCast] at x0 x1
      obtain ⟨z, hz⟩ : ∃ z, rd l k = z := ⟨_, rfl⟩
      rw [hz] at x0 x1
      replace hz := Aside0.mk hz
      have t1 : (z != z) = false := by simp
      go_wp2_with fail
      go_quiet (fail)
      go_wp2_with fail
      go_roundw
      case rel => exact ⟨k + 1, _, by simp, by omega, rfl⟩
      case measure => show n0 - ((k : Int) + 1).toNat < n0 - (k : Int).toNat; omega
    · go_wp2_with fail
      go_ret
      exact ⟨rfl, m, rfl⟩

set_option maxHeartbeats 1000000 in
theorem Same03_calls (A0 : Option Addr) (n0 c0 : Nat) (A1 : Option Addr) (c1 : Nat) (l : List Int) (w : World) (h0 : (Kd.int .i64).C w A0 n0 l) (h1 : (Kd.int .i64).C w A1 n0 l) :
    Calls Try.prog 15 #[.slice A0 n0 c0, .slice A1 n0 c1] w (SamePost w) := by
  have H0 := Aside0.mk h0
  have H1 := Aside0.mk h1
  have hn := h0.2.1
  clear h0 h1
  go_enter Try.func15, Try.ntmps15
  go_wp2_with fail
  go_loopw [5] (fun i wr => ∃ (k m : Nat), i = .int .i64 k ∧ k ≤ n0 ∧ wr = w.drewN m) (fun i _ => n0 - (intOf i).toNat)
  case atStart => exact ⟨0, 0, rfl, Nat.zero_le _, rfl⟩
  case round =>
    obtain ⟨k, m, rfl, hk, rfl⟩ := hrel
    by_cases hlt : k < n0
    · have p1 : 0 ≤ (k : Int) := by omega
      have q1 : (k : Int) < (n0 : Int) := by omega
      obtain ⟨a0, rfl, x0⟩ := Kd.at_int H0.out k p1 q1
      obtain ⟨a1, rfl, x1⟩ := Kd.at_int H1.out k p1 q1
      rw [Int.toNat_natCast] at x0 x1
      obtain ⟨z, hz⟩ : ∃ z, rd l k = z := ⟨_, rfl⟩
      rw [hz] at x0 x1
      replace hz := Aside0.mk hz
      have t1 : (z != z) = false := by simp
      go_wp2_with fail
      go_quiet (fail)
      go_wp2_with fail
      go_roundw
      case rel => exact ⟨k + 1, _, by simp, by omega, rfl⟩
      case measure => show n0 - ((k : Int) + 1).toNat < n0 - (k : Int).toNat; omega
    · go_wp2_with fail
      go_ret
      exact ⟨rfl, m, rfl⟩
end Go.Proofs.Ytiibfboendnifaa.Dk
