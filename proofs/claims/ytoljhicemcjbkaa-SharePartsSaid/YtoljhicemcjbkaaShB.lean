/- share.Worst, called, tells the plain function worst. -/
import Derived.Test.YtoljhicemcjbkaaShP
namespace Go.Proofs.Ytoljhicemcjbkaa.Sh
set_option linter.unusedVariables false
set_option linter.unusedSimpArgs false
open Go.RowKit Go.Proofs.YtoljhicemcjbkaaW.PrintWords Go.Proofs.YtoljhicemcjbkaaW.PrintLast Go.Proofs.YtoljhicemcjbkaaW.PrintMore PShareTells

def wfrom (xs ids ws : List Int) : Nat → Nat → Int → Int
  | 0, _, m => m
  | d + 1, n, m => wfrom xs ids ws d (n + 1) (mx m (ahead (counts (xs.take n) ids) ws))
def worst (xs ids ws : List Int) : Int := wfrom xs ids ws (xs.length + 1) 0 0

theorem run_slice_nn (A : Option Addr) (len c n : Nat) (h : n ≤ c) (W : World) :
    (Instr.slice 22 (.slice A len c) none (some (.int .i64 n)) (some (.int .i64 n))).run Try.prog W = .ok (.slice A n n) W := by
  have e1 : (Instr.sliceBound (.int .i64 n) c (.slice3Acap)).run Try.prog W = .ok n W := by
    simp [Instr.sliceBound, asIntOf, h]
  have e2 : (Instr.sliceBound (.int .i64 n) n (.slice3B)).run Try.prog W = .ok n W := by
    simp [Instr.sliceBound, asIntOf]
  have hs : (sizeOf 3).run Try.prog W = .ok 1 W := by kernel_rfl
  simp [Instr.slice, run_underlying Try.underlying22, Instr.sliceBounds, e1, e2, hs]
  intro _
  cases A <;> simp [Addr.add]

set_option maxHeartbeats 2000000 in
set_option maxRecDepth 100000 in
theorem Worst_calls0 (A0 : Option Addr) (c0 : Nat) (l0 : List Int) (A1 : Option Addr) (c1 : Nat) (l1 : List Int) (A2 : Option Addr) (c2 : Nat) (l2 : List Int) (w : World) (hr0 : Kd.C (Kd.int .i64) w A0 l0.length l0) (hc0 : l0.length ≤ c0) (hr1 : Kd.C (Kd.int .i64) w A1 l1.length l1) (hc1 : l1.length ≤ c1) (hr2 : Kd.C (Kd.int .i64) w A2 l2.length l2) (hc2 : l2.length ≤ c2)
    (hl1 : l1.length ≤ 17592186044416) (hl0 : (l0.length : Int) < 9223372036854775807) :
    Calls Try.prog 8 #[.slice A0 l0.length c0, .slice A1 l1.length c1, .slice A2 l2.length c2] w fun e w' => e = .returned (.int .i64 (worst l0 l1 l2)) ∧ Below w.heap.size w w' := by
  have HR0 := Aside0.mk hr0
  have HR1 := Aside0.mk hr1
  have HR2 := Aside0.mk hr2
  have HC0 := Aside0.mk hc0
  have HC1 := Aside0.mk hc1
  have HC2 := Aside0.mk hc2
  have HL1 := Aside0.mk hl1
  clear hr0 hr1 hr2 hc0 hc1 hc2 hl1
  go_enter Try.func8, Try.ntmps8
  go_wp2
  go_loopw [7, 12] (fun v i wr => ∃ (n : Nat) (m : Int), n ≤ l0.length + 1 ∧ i = .int .i64 n ∧ v = .int .i64 m ∧ Aside0 (wfrom l0 l1 l2 (l0.length + 1 - n) n m = worst l0 l1 l2) ∧ Aside0 (Below w.heap.size w wr))
    (fun _ i _ => l0.length + 1 - (intOf i).toNat)
  case atStart => exact ⟨0, 0, by omega, rfl, rfl, ⟨rfl⟩, ⟨Below.refl _ _⟩⟩
  case round =>
    obtain ⟨n, m, hn, rfl, rfl, HM, HB⟩ := hrel
    by_cases hlt : n < l0.length + 1
    · have hsl := fun W => run_slice_nn A0 l0.length c0 n (by have := HC0.out; omega) W
      have q1 : (n : Int) < (l0.length : Int) + 1 := by omega
      have hlt' : Aside0 (n ≤ l0.length) := ⟨by omega⟩
      have hrt : Aside0 (Kd.C (Kd.int .i64) w A0 n (l0.take n)) := ⟨by
        have h := Kd.C_take HR0.out (m := n) hlt'.out
        rw [List.length_take, Nat.min_eq_left hlt'.out] at h; exact h⟩
      go_wp2_with (first
        | (go_at_call 7; (with_reducible refine (Counts_calls A0 n n (l0.take n) A1 l1.length c1 l1 _ (Kd.C_below hrt.out HB.out) (Nat.le_refl _) (Kd.C_below HR1.out HB.out) HC1.out HL1.out).mono ?_); rintro e w1 ⟨A, c, rfl, h1, h2, hb1⟩; replace h1 := Aside0.mk h1; replace h2 := Aside0.mk h2; replace hb1 := Aside0.mk (below_then HB.out HB.out.size hb1))
        | (go_at_call 9; (with_reducible refine (Ahead_calls _ _ _ (counts (l0.take n) l1) A2 l2.length c2 l2 _ h2.out h1.out (Kd.C_below HR2.out hb1.out) HC2.out).mono ?_); rintro e w2 ⟨rfl, hb2⟩; replace hb2 := Aside0.mk (below_then hb1.out hb1.out.size hb2)))
      go_roundw
      case rel => exact ⟨n + 1, _, by omega, by go_num, rfl, ⟨by rw [← HM.out, show l0.length + 1 - n = (l0.length + 1 - (n + 1)) + 1 by omega]; rfl⟩, hb2⟩
      case measure => simp [intOf]; omega
    · have hkl : n = l0.length + 1 := by omega
      subst hkl
      go_wp2
      go_ret
      exact ⟨by rw [← HM.out, Nat.sub_self]; rfl, HB.out⟩
theorem Worst_calls (A0 : Option Addr) (n0 c0 : Nat) (l0 : List Int) (A1 : Option Addr) (n1 c1 : Nat) (l1 : List Int) (A2 : Option Addr) (n2 c2 : Nat) (l2 : List Int) (w : World) (hr0 : Kd.C (Kd.int .i64) w A0 n0 l0) (hc0 : n0 ≤ c0) (hr1 : Kd.C (Kd.int .i64) w A1 n1 l1) (hc1 : n1 ≤ c1) (hr2 : Kd.C (Kd.int .i64) w A2 n2 l2) (hc2 : n2 ≤ c2)
    (hl1 : n1 ≤ 17592186044416) (hl0 : (n0 : Int) < 9223372036854775807) :
    Calls Try.prog 8 #[.slice A0 n0 c0, .slice A1 n1 c1, .slice A2 n2 c2] w fun e w' => e = .returned (.int .i64 (worst l0 l1 l2)) ∧ Below w.heap.size w w' := by
  obtain rfl := hr0.1
  obtain rfl := hr1.1
  obtain rfl := hr2.1
  exact Worst_calls0 A0 c0 l0 A1 c1 l1 A2 c2 l2 w hr0 hc0 hr1 hc1 hr2 hc2 hl1 hl0
end Go.Proofs.Ytoljhicemcjbkaa.Sh
