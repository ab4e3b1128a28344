/- ShareTells answers true: the walk. -/
import Derived.Test.YtoljhicemcjbkaaShH
namespace Go.Proofs.Ytoljhicemcjbkaa.Sh
set_option linter.unusedVariables false
set_option linter.unusedSimpArgs false
open Go.RowKit Go.Proofs.Op Go.Proofs.YtoljhicemcjbkaaW.PrintWords Go.Proofs.YtoljhicemcjbkaaW.PrintLast Go.Proofs.YtoljhicemcjbkaaW.PrintMore PShareTells

theorem drawn_below {w w' : World} (h : Drawn0 w w') : Below w.heap.size w w' := h.below
theorem Same_calls (A0 : Option Addr) (n0 c0 : Nat) (A1 : Option Addr) (c1 : Nat) (l : List Int) (w : World) (hr0 : Kd.C (Kd.int .i64) w A0 n0 l) (hc0 : n0 ≤ c0) (hr1 : Kd.C (Kd.int .i64) w A1 n0 l) (hc1 : n0 ≤ c1) :
    Calls Try.prog 10 #[.slice A0 n0 c0, .slice A1 n0 c1] w fun e w' => e = .returned (.bool true) ∧ Below w.heap.size w w' := by
  obtain rfl := hr0.1
  have hl := hr0.2.1
  obtain ⟨k, hk⟩ := same_f l (by omega)
  exact (diapauseref03_Same.calls k A0 c0 l A1 c1 l _ w hr0 hc0 hr1 hc1 hk).mono fun e w' h => ⟨h.1, h.2.below⟩
theorem RCounts_calls (A0 : Option Addr) (n0 c0 : Nat) (l0 : List Int) (A1 : Option Addr) (n1 c1 : Nat) (l1 : List Int) (w : World) (hr0 : Kd.C (Kd.int .i64) w A0 n0 l0) (hc0 : n0 ≤ c0) (hr1 : Kd.C (Kd.int .i64) w A1 n1 l1) (hc1 : n1 ≤ c1) (hl : n1 ≤ 17592186044416) :
    Calls Try.prog 11 #[.slice A0 n0 c0, .slice A1 n1 c1] w fun e w' => ∃ A c, e = .returned (.slice A n1 c) ∧ n1 ≤ c ∧ Kd.C (Kd.int .i64) w' A n1 (counts l0 l1) ∧ Below w.heap.size w w' := by
  obtain rfl := hr0.1
  obtain rfl := hr1.1
  have hx := hr0.2.1
  refine (diapauseref23_Counts.calls _ A0 c0 l0 A1 c1 l1 _ w hr0 hc0 hr1 hc1 (rcounts_f l0 l1 (by omega) hl _ (Nat.le_refl _))).mono ?_
  rintro e w' ⟨v, rfl, hR, hB⟩
  obtain ⟨A, c, rfl, h1, h2⟩ := Kd.R_reads hR
  rw [counts_length] at h1 h2
  exact ⟨A, c, by rw [counts_length], h1, h2, hB⟩
theorem RAhead_calls (A0 : Option Addr) (n0 c0 : Nat) (l0 : List Int) (A1 : Option Addr) (n1 c1 : Nat) (l1 : List Int) (w : World) (hr0 : Kd.C (Kd.int .i64) w A0 n0 l0) (hc0 : n0 ≤ c0) (hr1 : Kd.C (Kd.int .i64) w A1 n1 l1) (hc1 : n1 ≤ c1) (hl : n0 ≤ 17592186044416) :
    Calls Try.prog 12 #[.slice A0 n0 c0, .slice A1 n1 c1] w fun e w' => e = .returned (.int .i64 (ahead l0 l1)) ∧ Below w.heap.size w w' := by
  obtain rfl := hr0.1
  obtain rfl := hr1.1
  exact diapauseref23_Ahead.calls _ A0 c0 l0 A1 c1 l1 _ w hr0 hc0 hr1 hc1 (rahead_f l0 l1 hl _ (Nat.le_refl _))
theorem RWorst_calls (A0 : Option Addr) (n0 c0 : Nat) (l0 : List Int) (A1 : Option Addr) (n1 c1 : Nat) (l1 : List Int) (A2 : Option Addr) (n2 c2 : Nat) (l2 : List Int) (w : World) (hr0 : Kd.C (Kd.int .i64) w A0 n0 l0) (hc0 : n0 ≤ c0) (hr1 : Kd.C (Kd.int .i64) w A1 n1 l1) (hc1 : n1 ≤ c1) (hr2 : Kd.C (Kd.int .i64) w A2 n2 l2) (hc2 : n2 ≤ c2)
    (hl1 : n1 ≤ 17592186044416) (hl0 : (n0 : Int) < 9223372036854775807) :
    Calls Try.prog 13 #[.slice A0 n0 c0, .slice A1 n1 c1, .slice A2 n2 c2] w fun e w' => e = .returned (.int .i64 (worst l0 l1 l2)) ∧ Below w.heap.size w w' := by
  obtain rfl := hr0.1
  obtain rfl := hr1.1
  obtain rfl := hr2.1
  obtain ⟨k, hk⟩ := rworst_f l0 l1 l2 hl0 hl1
  exact diapauseref23_Worst.calls k A0 c0 l0 A1 c1 l1 A2 c2 l2 _ w hr0 hc0 hr1 hc1 hr2 hc2 hk

set_option maxHeartbeats 4000000 in
set_option maxRecDepth 100000 in
theorem Tells_main (w : World) (A0 : Option Addr) (n0 c0 : Nat) (l0 : List Int) (hr0 : Kd.C (Kd.int .i64) w A0 n0 l0) (hc0 : n0 ≤ c0) (_ : ∀ x ∈ l0, (Lit.int .i64 x).wf = true) (A1 : Option Addr) (n1 c1 : Nat) (l1 : List Int) (hr1 : Kd.C (Kd.int .i64) w A1 n1 l1) (hc1 : n1 ≤ c1) (_ : ∀ x ∈ l1, (Lit.int .i64 x).wf = true)
    (A2 : Option Addr) (n2 c2 : Nat) (l2 : List Int) (hr2 : Kd.C (Kd.int .i64) w A2 n2 l2) (hc2 : n2 ≤ c2) (_ : ∀ x ∈ l2, (Lit.int .i64 x).wf = true) (A3 : Option Addr) (n3 c3 : Nat) (l3 : List Int) (hr3 : Kd.C (Kd.int .i64) w A3 n3 l3) (hc3 : n3 ≤ c3) (_ : ∀ x ∈ l3, (Lit.int .i64 x).wf = true)
    (A4 : Option Addr) (n4 c4 : Nat) (l4 : List (Int × Int)) (hr4 : Kd.C kP2 w A4 n4 l4) (_ : n4 ≤ c4) (_ : ∀ x ∈ l4, True) :
    Calls Try.prog 5 #[.slice A0 n0 c0, .slice A1 n1 c1, .slice A2 n2 c2, .slice A3 n3 c3, .slice A4 n4 c4] w fun e w' => e = .returned (.bool true) ∧ Below w.heap.size w w' := by
  have hn0 := hr0.2.1
  have hn1 := hr1.2.1
  have hn2 := hr2.2.1
  have hn3 := hr3.2.1
  have hn4 := hr4.2.1
  have HR0 := Aside0.mk hr0
  have HR1 := Aside0.mk hr1
  have HR2 := Aside0.mk hr2
  have HR3 := Aside0.mk hr3
  have HR4 := Aside0.mk hr4
  have HC0 := Aside0.mk hc0
  have HC1 := Aside0.mk hc1
  have HC2 := Aside0.mk hc2
  have HC3 := Aside0.mk hc3
  clear hr0 hr1 hr2 hr3 hr4 hc0 hc1 hc2 hc3
  by_cases hs : n0 ≤ 60 ∧ n1 ≤ 10 ∧ n2 ≤ 10 ∧ n3 ≤ 20 ∧ n4 ≤ 20
  · obtain ⟨hs0, hs1, hs2, hs3, hs4⟩ := hs
    go_enter Try.func5, Try.ntmps5
    go_wp2_with (first
      | (go_at_call 6; refine (awake_calls _).mono ?_; rintro e w1 ⟨rfl, HB⟩; replace HB := Aside0.mk HB))
    with_reducible refine (Counts_calls A0 n0 c0 l0 A1 n1 c1 l1 _ (Kd.C_below HR0.out HB.out) HC0.out (Kd.C_below HR1.out HB.out) HC1.out (by omega)).mono ?_
    rintro e w2 ⟨AX, cX, rfl, hcX, hX, h⟩
    replace hcX := Aside0.mk hcX; replace hX := Aside0.mk hX; replace HB := Aside0.mk (below_then HB.out HB.out.size h); clear h
    go_wp2_with fail
    with_reducible refine (RCounts_calls A0 n0 c0 l0 A1 n1 c1 l1 _ (Kd.C_below HR0.out HB.out) HC0.out (Kd.C_below HR1.out HB.out) HC1.out (by omega)).mono ?_
    rintro e w3 ⟨AY, cY, rfl, hcY, hY, h⟩
    replace hcY := Aside0.mk hcY; replace hY := Aside0.mk hY; replace hX := Aside0.mk (Kd.C_below hX.out h); replace HB := Aside0.mk (below_then HB.out HB.out.size h); clear h
    go_wp2_with fail
    with_reducible refine (Same_calls AX n1 cX AY cY _ _ hX.out hcX.out hY.out hcY.out).mono ?_
    rintro e w4 ⟨rfl, h⟩
    replace HB := Aside0.mk (below_then HB.out HB.out.size h); clear h hX hY hcX hcY
    go_wp2_with fail
    with_reducible refine (Ahead_calls A2 n2 c2 l2 A3 n3 c3 l3 _ (Kd.C_below HR2.out HB.out) HC2.out (Kd.C_below HR3.out HB.out) HC3.out).mono ?_
    rintro e w5 ⟨rfl, h⟩
    replace HB := Aside0.mk (below_then HB.out HB.out.size h); clear h
    go_wp2_with fail
    with_reducible refine (RAhead_calls A2 n2 c2 l2 A3 n3 c3 l3 _ (Kd.C_below HR2.out HB.out) HC2.out (Kd.C_below HR3.out HB.out) HC3.out (by omega)).mono ?_
    rintro e w6 ⟨rfl, h⟩
    replace HB := Aside0.mk (below_then HB.out HB.out.size h); clear h
    go_wp2_with fail
    with_reducible refine (Worst_calls A0 n0 c0 l0 A1 n1 c1 l1 A3 n3 c3 l3 _ (Kd.C_below HR0.out HB.out) HC0.out (Kd.C_below HR1.out HB.out) HC1.out (Kd.C_below HR3.out HB.out) HC3.out (by omega) (by omega)).mono ?_
    rintro e w7 ⟨rfl, h⟩
    replace HB := Aside0.mk (below_then HB.out HB.out.size h); clear h
    go_wp2_with fail
    with_reducible refine (RWorst_calls A0 n0 c0 l0 A1 n1 c1 l1 A3 n3 c3 l3 _ (Kd.C_below HR0.out HB.out) HC0.out (Kd.C_below HR1.out HB.out) HC1.out (Kd.C_below HR3.out HB.out) HC3.out (by omega) (by omega)).mono ?_
    rintro e w8 ⟨rfl, h⟩
    replace HB := Aside0.mk (below_then HB.out HB.out.size h); clear h
    go_wp2_with fail
    with_reducible refine (Fold_calls A0 n0 c0 l0 A4 n4 c4 l4 _ (Kd.C_below HR0.out HB.out) (Kd.C_below HR4.out HB.out) (by omega)).mono ?_
    rintro e w9 ⟨AX, cX, rfl, hcX, hX, h⟩
    replace hcX := Aside0.mk hcX; replace hX := Aside0.mk hX; replace HB := Aside0.mk (below_then HB.out HB.out.size h); clear h
    go_wp2_with fail
    with_reducible refine (RFold_calls A0 n0 c0 l0 A4 n4 c4 l4 _ (Kd.C_below HR0.out HB.out) (Kd.C_below HR4.out HB.out) (by omega)).mono ?_
    rintro e wA ⟨AY, cY, rfl, hcY, hY, h⟩
    replace hcY := Aside0.mk hcY; replace hY := Aside0.mk hY; replace hX := Aside0.mk (Kd.C_below hX.out h); replace HB := Aside0.mk (below_then HB.out HB.out.size h); clear h
    go_wp2_with fail
    with_reducible refine (Same_calls AX n0 cX AY cY _ _ hX.out hcX.out hY.out hcY.out).mono ?_
    rintro e wB ⟨rfl, h⟩
    replace HB := Aside0.mk (below_then HB.out HB.out.size h); clear h hX hY hcX hcY
    go_wp2_with fail
    go_ret
    exact ⟨rfl, HB.out⟩
  · have hs' : ¬ (n0 : Int) ≤ 60 ∨ ¬ (n1 : Int) ≤ 10 ∨ ¬ (n2 : Int) ≤ 10 ∨ ¬ (n3 : Int) ≤ 20 ∨ ¬ (n4 : Int) ≤ 20 := by omega
    clear hs
    replace hs' := Aside0.mk hs'
    go_enter Try.func5, Try.ntmps5
    go_wp2_with (go_at_call 6; refine (awake_calls _).mono ?_; rintro e w1 ⟨rfl, hb⟩; replace hb := Aside0.mk hb)
    all_goals first
      | (go_ret; exact ⟨rfl, hb.out⟩)
      | (exfalso; have := hs'.out; omega)
end Go.Proofs.Ytoljhicemcjbkaa.Sh
