/- diapauseref13.Same: the part of what the print wrote for it. -/
import Derived.Test.YtpnjhffnlafabaaPSceneOrdersx0
import Derived.Test.YtpnjhffnlafabaaPSceneOrdersx2
import Derived.Test.YtpnjhffnlafabaaPSceneOrdersx3
namespace Go.Proofs.Ytpnjhffnlafabaa.PSceneOrders
open Go.RowKit Go.Proofs.YtpnjhffnlafabaaW.PrintWords Go.Proofs.YtpnjhffnlafabaaW.PrintLast Go.Proofs.YtpnjhffnlafabaaW.PrintMore
attribute [local go_sem] max2_int min2_int max_two min_two max_three min_three max_four min_four   -- for this text's walks alone
set_option linter.unusedVariables false
set_option linter.unusedSimpArgs false

attribute [local go_sem high] eqA41 eqA46
/-! ### diapauseref13_Same: function 19 -/
mutual
def diapauseref13_Same.j0 : Nat → Bool → List (S41) → List (S46) → List (S41) → List (S46) → Option (Bool)
  | 0, _, _, _, _, _ => none
  | k + 1, x22, x305000, x305001, x306000, x306001 => if x22 = true then (some false) else (diapauseref13_Same.l0 k 0 x305000 x305001 x306000 x306001)
def diapauseref13_Same.l0 : Nat → Int → List (S41) → List (S46) → List (S41) → List (S46) → Option (Bool)
  | 0, _, _, _, _, _ => none
  | k + 1, x5, x305000, x305001, x306000, x306001 => if x5 < (x305000.length : Int) then (if 0 ≤ x5 then (if x5 < (x306000.length : Int) then (if (!(((rd_T41 x305000 x5).f0) == ((rd_T41 x306000 x5).f0)) || (!(((rd_T41 x305000 x5).f1) == ((rd_T41 x306000 x5).f1)) || (!(((rd_T41 x305000 x5).f2) == ((rd_T41 x306000 x5).f2)) || ((!(((rd_T41 x305000 x5).f3.f0) == ((rd_T41 x306000 x5).f3.f0)) || (!(((rd_T41 x305000 x5).f3.f1) == ((rd_T41 x306000 x5).f3.f1)) || (!(((rd_T41 x305000 x5).f3.f2) == ((rd_T41 x306000 x5).f3.f2))))))))) = true then (some false) else (diapauseref13_Same.l0 k (wrap64 (x5 + 1)) x305000 x305001 x306000 x306001)) else (none)) else (none)) else (diapauseref13_Same.l1 k 0 x305000 x305001 x306000 x306001)
def diapauseref13_Same.l1 : Nat → Int → List (S41) → List (S46) → List (S41) → List (S46) → Option (Bool)
  | 0, _, _, _, _, _ => none
  | k + 1, x6, x305000, x305001, x306000, x306001 => if x6 < (x305001.length : Int) then (if 0 ≤ x6 then (if x6 < (x306001.length : Int) then (if (!(((rd_T46 x305001 x6).f0) == ((rd_T46 x306001 x6).f0)) || (!(((rd_T46 x305001 x6).f1) == ((rd_T46 x306001 x6).f1)) || (!(((rd_T46 x305001 x6).f2) == ((rd_T46 x306001 x6).f2)) || (!(((rd_T46 x305001 x6).f3) == ((rd_T46 x306001 x6).f3)) || (!(((rd_T46 x305001 x6).f4) == ((rd_T46 x306001 x6).f4)) || (!(((rd_T46 x305001 x6).f5) == ((rd_T46 x306001 x6).f5)) || ((!(((rd_T46 x305001 x6).f6.f0) == ((rd_T46 x306001 x6).f6.f0)) || (!(((rd_T46 x305001 x6).f6.f1) == ((rd_T46 x306001 x6).f6.f1))))))))))) = true then (some false) else (diapauseref13_Same.l1 k (wrap64 (x6 + 1)) x305000 x305001 x306000 x306001)) else (none)) else (none)) else (some true)
end
def diapauseref13_Same.f (k : Nat) (l0_0 : List (S41)) (l0_1 : List (S46)) (l1_0 : List (S41)) (l1_1 : List (S46)) : Option (Bool) := if (l0_0.length : Int) = (l1_0.length : Int) then (diapauseref13_Same.j0 k ((l0_1.length : Int) != (l1_1.length : Int)) l0_0 l0_1 l1_0 l1_1) else (diapauseref13_Same.j0 k true l0_0 l0_1 l1_0 l1_1)
theorem diapauseref13_Same.mono_l : ∀ k, (∀ y0 y1 y2 y3 y4, LeO (diapauseref13_Same.j0 k y0 y1 y2 y3 y4) (diapauseref13_Same.j0 (k + 1) y0 y1 y2 y3 y4)) ∧ (∀ y0 y1 y2 y3 y4, LeO (diapauseref13_Same.l0 k y0 y1 y2 y3 y4) (diapauseref13_Same.l0 (k + 1) y0 y1 y2 y3 y4)) ∧ (∀ y0 y1 y2 y3 y4, LeO (diapauseref13_Same.l1 k y0 y1 y2 y3 y4) (diapauseref13_Same.l1 (k + 1) y0 y1 y2 y3 y4))
  | 0 => ⟨fun _ _ _ _ _ r h => by simp [diapauseref13_Same.j0] at h, fun _ _ _ _ _ r h => by simp [diapauseref13_Same.l0] at h, fun _ _ _ _ _ r h => by simp [diapauseref13_Same.l1] at h⟩
  | k + 1 => by
    obtain ⟨ih0, ih1, ih2⟩ := diapauseref13_Same.mono_l k
    refine ⟨?_, ?_, ?_⟩
    · intro y0 y1 y2 y3 y4
      unfold diapauseref13_Same.j0
      repeat' first
      | (with_reducible exact ih0 _ _ _ _ _)
      | (with_reducible exact ih1 _ _ _ _ _)
      | (with_reducible exact ih2 _ _ _ _ _)
      | (with_reducible exact LeO.refl _)
      | (with_reducible exact LeO.none _)
      | (with_reducible refine LeO.ite ?_ ?_)
      | (with_reducible refine LeO.bind ?_ (fun _ => ?_))
      | exact ih0 _ _ _ _ _
      | exact ih1 _ _ _ _ _
      | exact ih2 _ _ _ _ _
      | exact LeO.none _
      | refine LeO.ite ?_ ?_
      | refine LeO.bind ?_ (fun _ => ?_)
    · intro y0 y1 y2 y3 y4
      unfold diapauseref13_Same.l0
      repeat' first
      | (with_reducible exact ih0 _ _ _ _ _)
      | (with_reducible exact ih1 _ _ _ _ _)
      | (with_reducible exact ih2 _ _ _ _ _)
      | (with_reducible exact LeO.refl _)
      | (with_reducible exact LeO.none _)
      | (with_reducible refine LeO.ite ?_ ?_)
      | (with_reducible refine LeO.bind ?_ (fun _ => ?_))
      | exact ih0 _ _ _ _ _
      | exact ih1 _ _ _ _ _
      | exact ih2 _ _ _ _ _
      | exact LeO.none _
      | refine LeO.ite ?_ ?_
      | refine LeO.bind ?_ (fun _ => ?_)
    · intro y0 y1 y2 y3 y4
      unfold diapauseref13_Same.l1
      repeat' first
      | (with_reducible exact ih0 _ _ _ _ _)
      | (with_reducible exact ih1 _ _ _ _ _)
      | (with_reducible exact ih2 _ _ _ _ _)
      | (with_reducible exact LeO.refl _)
      | (with_reducible exact LeO.none _)
      | (with_reducible refine LeO.ite ?_ ?_)
      | (with_reducible refine LeO.bind ?_ (fun _ => ?_))
      | exact ih0 _ _ _ _ _
      | exact ih1 _ _ _ _ _
      | exact ih2 _ _ _ _ _
      | exact LeO.none _
      | refine LeO.ite ?_ ?_
      | refine LeO.bind ?_ (fun _ => ?_)
theorem diapauseref13_Same.mono : ∀ a0 a1 a2 a3 k, LeO (diapauseref13_Same.f k a0 a1 a2 a3) (diapauseref13_Same.f (k + 1) a0 a1 a2 a3) := by
  intro a0 a1 a2 a3 k
  obtain ⟨ih0, ih1, ih2⟩ := diapauseref13_Same.mono_l k
  unfold diapauseref13_Same.f
  repeat' first
      | (with_reducible exact ih0 _ _ _ _ _)
      | (with_reducible exact ih1 _ _ _ _ _)
      | (with_reducible exact ih2 _ _ _ _ _)
      | (with_reducible exact LeO.refl _)
      | (with_reducible exact LeO.none _)
      | (with_reducible refine LeO.ite ?_ ?_)
      | (with_reducible refine LeO.bind ?_ (fun _ => ?_))
      | exact ih0 _ _ _ _ _
      | exact ih1 _ _ _ _ _
      | exact ih2 _ _ _ _ _
      | exact LeO.none _
      | refine LeO.ite ?_ ?_
      | refine LeO.bind ?_ (fun _ => ?_)
set_option maxHeartbeats 8000000 in
set_option maxRecDepth 100000 in
theorem diapauseref13_Same.calls (k : Nat) (A0_0 : Option Addr) (c0_0 : Nat) (l0_0 : List (S41)) (A0_1 : Option Addr) (c0_1 : Nat) (l0_1 : List (S46)) (A1_0 : Option Addr) (c1_0 : Nat) (l1_0 : List (S41)) (A1_1 : Option Addr) (c1_1 : Nat) (l1_1 : List (S46)) (r : Bool) (w : World) (hr0_0 : Kd.C k41 w A0_0 l0_0.length l0_0) (hc0_0 : l0_0.length ≤ c0_0) (hr0_1 : Kd.C k46 w A0_1 l0_1.length l0_1) (hc0_1 : l0_1.length ≤ c0_1) (hr1_0 : Kd.C k41 w A1_0 l1_0.length l1_0) (hc1_0 : l1_0.length ≤ c1_0) (hr1_1 : Kd.C k46 w A1_1 l1_1.length l1_1) (hc1_1 : l1_1.length ≤ c1_1) (h : diapauseref13_Same.f k l0_0 l0_1 l1_0 l1_1 = some r) :
    Calls Try.prog 19 #[.agg #[.slice A0_0 l0_0.length c0_0, .slice A0_1 l0_1.length c0_1], .agg #[.slice A1_0 l1_0.length c1_0, .slice A1_1 l1_1.length c1_1]] w fun e w' => e = .returned (.bool r) ∧ Below w.heap.size w w' := by
  have hu25 := Try.underlying25
  have hu41 := Try.underlying41
  have hu46 := Try.underlying46
  have HR0_0 := Aside0.mk hr0_0
  have HC0_0 := Aside0.mk hc0_0
  clear hr0_0 hc0_0
  have HR0_1 := Aside0.mk hr0_1
  have HC0_1 := Aside0.mk hc0_1
  clear hr0_1 hc0_1
  have HR1_0 := Aside0.mk hr1_0
  have HC1_0 := Aside0.mk hc1_0
  clear hr1_0 hc1_0
  have HR1_1 := Aside0.mk hr1_1
  have HC1_1 := Aside0.mk hc1_1
  clear hr1_1 hc1_1
  have HB := Aside0.mk (Below.refl w.heap.size w)
  have H : (if (l0_0.length : Int) = (l1_0.length : Int) then (diapauseref13_Same.j0 k ((l0_1.length : Int) != (l1_1.length : Int)) l0_0 l0_1 l1_0 l1_1) else (diapauseref13_Same.j0 k true l0_0 l0_1 l1_0 l1_1)) = some r := h
  clear h
  have HC3 := Aside0.mk H
  clear H
  go_enter Try.func19, Try.ntmps19
  go_upto_region 1 with (first | ((with_reducible refine gate_dst (N := 2) rfl ?_); (try (refine gate_guard (by rfl) ?_; dsimp only)); refine box_event ?hg (N := 2) ?hd (cs := #[.slice A0_0 l0_0.length c0_0, .slice A0_1 l0_1.length c0_1]) (t := 25) ?hr ?_; (case hd => rfl); (case hg => rfl); (case hr => first | (go_simp; done) | (go_simp; rfl)); intro gb304 hg w4 hbox hb; have n0_ := Aside0.mk (below_step (by repeat (first | (with_reducible first | exact HB.out | apply below_alloc | apply pw_below_drewN | apply below_drew1) | exact HB.out)) hb); have n1_ := Aside0.mk (hbox); have n2_ := Aside0.mk ((by rw [hg]; exact (below_size (by repeat (first | (with_reducible first | exact HB.out | apply below_alloc | apply pw_below_drewN | apply below_drew1) | exact HB.out))) : w.heap.size ≤ gb304)); have n3_ := Aside0.mk ((by rw [hg]; exact (below_size (by repeat (first | (with_reducible first | exact HB.out | apply below_alloc | apply pw_below_drewN | apply below_drew1) | exact HB.out))) : w.heap.size ≤ gb304)); clear HB; have HB := n0_; have BK304 := n1_; have GW304 := n2_; have GE304 := n3_; clear n0_ n1_ n2_ n3_; clear hb hbox hg) | ((with_reducible refine gate_dst (N := 3) rfl ?_); (try (refine gate_guard (by rfl) ?_; dsimp only)); refine box_event ?hg (N := 3) ?hd (cs := #[.slice A1_0 l1_0.length c1_0, .slice A1_1 l1_1.length c1_1]) (t := 25) ?hr ?_; (case hd => rfl); (case hg => rfl); (case hr => first | (go_simp; done) | (go_simp; rfl)); intro gb305 hg w5 hbox hb; have n0_ := Aside0.mk (blk_below (g := gb304) (o := .cells #[.slice A0_0 l0_0.length c0_0, .slice A0_1 l0_1.length c0_1] 25 (0, 0)) (by (with_reducible repeat (first | refine blk_drewN ?_ _ | refine blk_drew ?_ | refine blk_alloc ?_ _)); exact BK304.out) hb); have n1_ := Aside0.mk (below_step (by repeat (first | (with_reducible first | exact HB.out | apply below_alloc | apply pw_below_drewN | apply below_drew1 | refine below_set ?_ GE304.out) | exact HB.out)) hb); have n2_ := Aside0.mk (hbox); have n3_ := Aside0.mk ((by rw [hg]; exact (below_size (by repeat (first | (with_reducible first | exact HB.out | apply below_alloc | apply pw_below_drewN | apply below_drew1 | refine below_set ?_ GE304.out) | exact HB.out))) : w.heap.size ≤ gb305)); have n4_ := Aside0.mk ((by rw [hg]; exact (below_size (by repeat (first | (with_reducible first | exact HB.out | apply below_alloc | apply pw_below_drewN | apply below_drew1 | refine below_set ?_ GE304.out) | exact HB.out))) : w.heap.size ≤ gb305)); have n5_ := Aside0.mk ((by rw [hg]; exact Nat.ne_of_lt (blk_lt (g := gb304) (o := .cells #[.slice A0_0 l0_0.length c0_0, .slice A0_1 l0_1.length c0_1] 25 (0, 0)) (by (with_reducible repeat (first | refine blk_drewN ?_ _ | refine blk_drew ?_ | refine blk_alloc ?_ _)); exact BK304.out)) : gb304 ≠ gb305)); have n6_ := Aside0.mk ((by rw [hg]; exact Nat.ne_of_gt (blk_lt (g := gb304) (o := .cells #[.slice A0_0 l0_0.length c0_0, .slice A0_1 l0_1.length c0_1] 25 (0, 0)) (by (with_reducible repeat (first | refine blk_drewN ?_ _ | refine blk_drew ?_ | refine blk_alloc ?_ _)); exact BK304.out)) : gb305 ≠ gb304)); clear BK304; clear HB; have BK304 := n0_; have HB := n1_; have BK305 := n2_; have GW305 := n3_; have GE305 := n4_; have NB304_305 := n5_; have NB305_304 := n6_; clear n0_ n1_ n2_ n3_ n4_ n5_ n6_; clear hb hbox hg))
  repeat (go_quiet (first | ((with_reducible refine gate_dst (N := 2) rfl ?_); (try (refine gate_guard (by rfl) ?_; dsimp only)); refine box_event ?hg (N := 2) ?hd (cs := #[.slice A0_0 l0_0.length c0_0, .slice A0_1 l0_1.length c0_1]) (t := 25) ?hr ?_; (case hd => rfl); (case hg => rfl); (case hr => first | (go_simp; done) | (go_simp; rfl)); intro gb304 hg w4 hbox hb; have n0_ := Aside0.mk (below_step (by repeat (first | (with_reducible first | exact HB.out | apply below_alloc | apply pw_below_drewN | apply below_drew1) | exact HB.out)) hb); have n1_ := Aside0.mk (hbox); have n2_ := Aside0.mk ((by rw [hg]; exact (below_size (by repeat (first | (with_reducible first | exact HB.out | apply below_alloc | apply pw_below_drewN | apply below_drew1) | exact HB.out))) : w.heap.size ≤ gb304)); have n3_ := Aside0.mk ((by rw [hg]; exact (below_size (by repeat (first | (with_reducible first | exact HB.out | apply below_alloc | apply pw_below_drewN | apply below_drew1) | exact HB.out))) : w.heap.size ≤ gb304)); clear HB; have HB := n0_; have BK304 := n1_; have GW304 := n2_; have GE304 := n3_; clear n0_ n1_ n2_ n3_; clear hb hbox hg) | ((with_reducible refine gate_dst (N := 3) rfl ?_); (try (refine gate_guard (by rfl) ?_; dsimp only)); refine box_event ?hg (N := 3) ?hd (cs := #[.slice A1_0 l1_0.length c1_0, .slice A1_1 l1_1.length c1_1]) (t := 25) ?hr ?_; (case hd => rfl); (case hg => rfl); (case hr => first | (go_simp; done) | (go_simp; rfl)); intro gb305 hg w5 hbox hb; have n0_ := Aside0.mk (blk_below (g := gb304) (o := .cells #[.slice A0_0 l0_0.length c0_0, .slice A0_1 l0_1.length c0_1] 25 (0, 0)) (by (with_reducible repeat (first | refine blk_drewN ?_ _ | refine blk_drew ?_ | refine blk_alloc ?_ _)); exact BK304.out) hb); have n1_ := Aside0.mk (below_step (by repeat (first | (with_reducible first | exact HB.out | apply below_alloc | apply pw_below_drewN | apply below_drew1 | refine below_set ?_ GE304.out) | exact HB.out)) hb); have n2_ := Aside0.mk (hbox); have n3_ := Aside0.mk ((by rw [hg]; exact (below_size (by repeat (first | (with_reducible first | exact HB.out | apply below_alloc | apply pw_below_drewN | apply below_drew1 | refine below_set ?_ GE304.out) | exact HB.out))) : w.heap.size ≤ gb305)); have n4_ := Aside0.mk ((by rw [hg]; exact (below_size (by repeat (first | (with_reducible first | exact HB.out | apply below_alloc | apply pw_below_drewN | apply below_drew1 | refine below_set ?_ GE304.out) | exact HB.out))) : w.heap.size ≤ gb305)); have n5_ := Aside0.mk ((by rw [hg]; exact Nat.ne_of_lt (blk_lt (g := gb304) (o := .cells #[.slice A0_0 l0_0.length c0_0, .slice A0_1 l0_1.length c0_1] 25 (0, 0)) (by (with_reducible repeat (first | refine blk_drewN ?_ _ | refine blk_drew ?_ | refine blk_alloc ?_ _)); exact BK304.out)) : gb304 ≠ gb305)); have n6_ := Aside0.mk ((by rw [hg]; exact Nat.ne_of_gt (blk_lt (g := gb304) (o := .cells #[.slice A0_0 l0_0.length c0_0, .slice A0_1 l0_1.length c0_1] 25 (0, 0)) (by (with_reducible repeat (first | refine blk_drewN ?_ _ | refine blk_drew ?_ | refine blk_alloc ?_ _)); exact BK304.out)) : gb305 ≠ gb304)); clear BK304; clear HB; have BK304 := n0_; have HB := n1_; have BK305 := n2_; have GW305 := n3_; have GE305 := n4_; have NB304_305 := n5_; have NB305_304 := n6_; clear n0_ n1_ n2_ n3_ n4_ n5_ n6_; clear hb hbox hg)); go_upto_region 1 with (first | ((with_reducible refine gate_dst (N := 2) rfl ?_); (try (refine gate_guard (by rfl) ?_; dsimp only)); refine box_event ?hg (N := 2) ?hd (cs := #[.slice A0_0 l0_0.length c0_0, .slice A0_1 l0_1.length c0_1]) (t := 25) ?hr ?_; (case hd => rfl); (case hg => rfl); (case hr => first | (go_simp; done) | (go_simp; rfl)); intro gb304 hg w4 hbox hb; have n0_ := Aside0.mk (below_step (by repeat (first | (with_reducible first | exact HB.out | apply below_alloc | apply pw_below_drewN | apply below_drew1) | exact HB.out)) hb); have n1_ := Aside0.mk (hbox); have n2_ := Aside0.mk ((by rw [hg]; exact (below_size (by repeat (first | (with_reducible first | exact HB.out | apply below_alloc | apply pw_below_drewN | apply below_drew1) | exact HB.out))) : w.heap.size ≤ gb304)); have n3_ := Aside0.mk ((by rw [hg]; exact (below_size (by repeat (first | (with_reducible first | exact HB.out | apply below_alloc | apply pw_below_drewN | apply below_drew1) | exact HB.out))) : w.heap.size ≤ gb304)); clear HB; have HB := n0_; have BK304 := n1_; have GW304 := n2_; have GE304 := n3_; clear n0_ n1_ n2_ n3_; clear hb hbox hg) | ((with_reducible refine gate_dst (N := 3) rfl ?_); (try (refine gate_guard (by rfl) ?_; dsimp only)); refine box_event ?hg (N := 3) ?hd (cs := #[.slice A1_0 l1_0.length c1_0, .slice A1_1 l1_1.length c1_1]) (t := 25) ?hr ?_; (case hd => rfl); (case hg => rfl); (case hr => first | (go_simp; done) | (go_simp; rfl)); intro gb305 hg w5 hbox hb; have n0_ := Aside0.mk (blk_below (g := gb304) (o := .cells #[.slice A0_0 l0_0.length c0_0, .slice A0_1 l0_1.length c0_1] 25 (0, 0)) (by (with_reducible repeat (first | refine blk_drewN ?_ _ | refine blk_drew ?_ | refine blk_alloc ?_ _)); exact BK304.out) hb); have n1_ := Aside0.mk (below_step (by repeat (first | (with_reducible first | exact HB.out | apply below_alloc | apply pw_below_drewN | apply below_drew1 | refine below_set ?_ GE304.out) | exact HB.out)) hb); have n2_ := Aside0.mk (hbox); have n3_ := Aside0.mk ((by rw [hg]; exact (below_size (by repeat (first | (with_reducible first | exact HB.out | apply below_alloc | apply pw_below_drewN | apply below_drew1 | refine below_set ?_ GE304.out) | exact HB.out))) : w.heap.size ≤ gb305)); have n4_ := Aside0.mk ((by rw [hg]; exact (below_size (by repeat (first | (with_reducible first | exact HB.out | apply below_alloc | apply pw_below_drewN | apply below_drew1 | refine below_set ?_ GE304.out) | exact HB.out))) : w.heap.size ≤ gb305)); have n5_ := Aside0.mk ((by rw [hg]; exact Nat.ne_of_lt (blk_lt (g := gb304) (o := .cells #[.slice A0_0 l0_0.length c0_0, .slice A0_1 l0_1.length c0_1] 25 (0, 0)) (by (with_reducible repeat (first | refine blk_drewN ?_ _ | refine blk_drew ?_ | refine blk_alloc ?_ _)); exact BK304.out)) : gb304 ≠ gb305)); have n6_ := Aside0.mk ((by rw [hg]; exact Nat.ne_of_gt (blk_lt (g := gb304) (o := .cells #[.slice A0_0 l0_0.length c0_0, .slice A0_1 l0_1.length c0_1] 25 (0, 0)) (by (with_reducible repeat (first | refine blk_drewN ?_ _ | refine blk_drew ?_ | refine blk_alloc ?_ _)); exact BK304.out)) : gb305 ≠ gb304)); clear BK304; clear HB; have BK304 := n0_; have HB := n1_; have BK305 := n2_; have GW305 := n3_; have GE305 := n4_; have NB304_305 := n5_; have NB305_304 := n6_; clear n0_ n1_ n2_ n3_ n4_ n5_ n6_; clear hb hbox hg)))
  (try simp only [Act.put, List.setIfInBounds_toArray, List.set_cons_zero, List.set_cons_succ])
  go_cut [22] (fun v22 wc => ∃ (kq : Nat) (x22_2 : Bool), v22 = .bool x22_2 ∧ Aside0 (diapauseref13_Same.j0 kq x22_2 l0_0 l0_1 l1_0 l1_1 = some r) ∧ Aside0 (kq ≤ k) ∧ Aside0 (wc.heap[gb304]? = some (.cells #[(.slice A0_0 l0_0.length c0_0), (.slice A0_1 l0_1.length c0_1)] 25 (0, 0))) ∧ Aside0 (wc.heap[gb305]? = some (.cells #[(.slice A1_0 l1_0.length c1_0), (.slice A1_1 l1_1.length c1_1)] 25 (0, 0))) ∧ Aside0 (Below w.heap.size w wc))
  case first =>
    have H := HC3.out
    clear HC3
    by_cases c6 : (l0_0.length : Int) = (l1_0.length : Int)
    · rw [if_pos c6] at H
      have c6b0 : ((l0_0.length : Int) == (l1_0.length : Int)) = true := beq_iff_eq.mpr c6
      have c6b1 : ((l0_0.length : Int) != (l1_0.length : Int)) = false := bne_eq_false_iff_eq.mpr c6
      have c6b2 : (l0_0.length == l1_0.length) = true := by first | simpa using c6 | (simp at c6 ⊢; omega)
      clear c6
      (first | rw [c6b0] | (simp only [i64_w, i32_w]; rw [c6b0]) | skip)
      have H' := Aside0.mk H
      clear H
      have hnb7 := NB304_305.out
      have hnc7 := NB305_304.out
      have hcz8_0 : w5.cell? ⟨gb304, 0, none⟩ = some (.slice A0_0 l0_0.length c0_0) := (blk_cell BK304.out 0).trans rfl
      have hcz8_1 : w5.cell? ⟨gb304, 1, none⟩ = some (.slice A0_1 l0_1.length c0_1) := (blk_cell BK304.out 1).trans rfl
      have hfz8_0 := blk_frozen BK304.out 0
      have hfz8_1 := blk_frozen BK304.out 1
      have hcz9_0 : w5.cell? ⟨gb305, 0, none⟩ = some (.slice A1_0 l1_0.length c1_0) := (blk_cell BK305.out 0).trans rfl
      have hcz9_1 : w5.cell? ⟨gb305, 1, none⟩ = some (.slice A1_1 l1_1.length c1_1) := (blk_cell BK305.out 1).trans rfl
      have hfz9_0 := blk_frozen BK305.out 0
      have hfz9_1 := blk_frozen BK305.out 1
      go_wp2
      repeat (go_quiet (fail); try go_wp2)
      go_meet
      case rel => exact ⟨_, (((l0_1.length : Int) != (l1_1.length : Int))), (by first | rfl | (simp; done) | (simp [*]; done)), H', ⟨by first | omega | exact Nat.le_refl _⟩, ⟨by (with_reducible repeat (first | refine blk_drewN ?_ _ | refine blk_drew ?_ | refine blk_alloc ?_ _)); exact BK304.out⟩, ⟨by (with_reducible repeat (first | refine blk_drewN ?_ _ | refine blk_drew ?_ | refine blk_alloc ?_ _)); exact BK305.out⟩, ⟨by repeat (first | (with_reducible first | exact HB.out | apply below_alloc | apply pw_below_drewN | apply below_drew1 | refine below_set ?_ GE304.out | refine below_set ?_ GE305.out) | exact HB.out)⟩⟩
    · rw [if_neg c6] at H
      have c6b0 : ((l0_0.length : Int) == (l1_0.length : Int)) = false := beq_eq_false_iff_ne.mpr c6
      have c6b1 : ((l0_0.length : Int) != (l1_0.length : Int)) = true := bne_iff_ne.mpr c6
      have c6b2 : (l0_0.length == l1_0.length) = false := by first | simpa using c6 | (simp at c6 ⊢; omega)
      (first | rw [c6b0] | (simp only [i64_w, i32_w]; rw [c6b0]) | skip)
      have H' := Aside0.mk H
      clear H
      have hnb10 := NB304_305.out
      have hnc10 := NB305_304.out
      have hcz11_0 : w5.cell? ⟨gb304, 0, none⟩ = some (.slice A0_0 l0_0.length c0_0) := (blk_cell BK304.out 0).trans rfl
      have hcz11_1 : w5.cell? ⟨gb304, 1, none⟩ = some (.slice A0_1 l0_1.length c0_1) := (blk_cell BK304.out 1).trans rfl
      have hfz11_0 := blk_frozen BK304.out 0
      have hfz11_1 := blk_frozen BK304.out 1
      have hcz12_0 : w5.cell? ⟨gb305, 0, none⟩ = some (.slice A1_0 l1_0.length c1_0) := (blk_cell BK305.out 0).trans rfl
      have hcz12_1 : w5.cell? ⟨gb305, 1, none⟩ = some (.slice A1_1 l1_1.length c1_1) := (blk_cell BK305.out 1).trans rfl
      have hfz12_0 := blk_frozen BK305.out 0
      have hfz12_1 := blk_frozen BK305.out 1
      go_wp2
      repeat (go_quiet (fail); try go_wp2)
      go_meet
      case rel => exact ⟨_, (true), (by first | rfl | (simp; done) | (simp [*]; done)), H', ⟨by first | omega | exact Nat.le_refl _⟩, ⟨by (with_reducible repeat (first | refine blk_drewN ?_ _ | refine blk_drew ?_ | refine blk_alloc ?_ _)); exact BK304.out⟩, ⟨by (with_reducible repeat (first | refine blk_drewN ?_ _ | refine blk_drew ?_ | refine blk_alloc ?_ _)); exact BK305.out⟩, ⟨by repeat (first | (with_reducible first | exact HB.out | apply below_alloc | apply pw_below_drewN | apply below_drew1 | refine below_set ?_ GE304.out | refine below_set ?_ GE305.out) | exact HB.out)⟩⟩
  case rest =>
    clear HC3
    try clear c1
    try clear p2
    try clear c6
    try clear c6b0
    try clear c6b1
    try clear c6b2
    try clear c7
    try clear c10
    try clear hcz11_0
    try clear hcz11_1
    try clear hcz12_0
    try clear hcz12_1
    try clear hcz8_0
    try clear hcz8_1
    try clear hcz9_0
    try clear hcz9_1
    try clear hfz11_0
    try clear hfz11_1
    try clear hfz12_0
    try clear hfz12_1
    try clear hfz8_0
    try clear hfz8_1
    try clear hfz9_0
    try clear hfz9_1
    obtain ⟨kq, x22_2, rfl, HA, HJ2, BK304, BK305, HB⟩ := hcut
    cases kq with
    | zero => exact absurd HA.out (by simp [diapauseref13_Same.j0])
    | succ kj2 =>
      have H := HA.out
      clear HA
      simp only [diapauseref13_Same.j0] at H
      by_cases c13 : x22_2 = true
      · subst c13
        have H1 : (some false) = some r := by rw [if_pos rfl] at H; exact H
        clear H
        have H := H1
        clear H1
        obtain rfl := Option.some.inj H
        go_wp2
        repeat (go_quiet (fail); try go_wp2)
        go_ret
        exact ⟨by first | rfl | (simp [errW_none, errW_some] <;> rfl) | (simp [*, errW_none, errW_some] <;> rfl), by repeat (first | (with_reducible first | exact HB.out | apply below_alloc | apply pw_below_drewN | apply below_drew1 | refine below_set ?_ GE304.out | refine below_set ?_ GE305.out) | exact HB.out)⟩
      · replace c13 := Bool.eq_false_iff.mpr c13
        subst c13
        have H1 : (diapauseref13_Same.l0 kj2 0 l0_0 l0_1 l1_0 l1_1) = some r := by rw [if_neg (show ¬ (false = true) by decide)] at H; exact H
        clear H
        have H := H1
        clear H1
        have H' := Aside0.mk H
        clear H
        go_wp2
        repeat (go_quiet (fail); try go_wp2)
        go_loopg [5] kj2 (fun kq v5 w' => ∃ (x5_2 : Int), v5 = .int .i64 x5_2 ∧ Aside0 (diapauseref13_Same.l0 kq x5_2 l0_0 l0_1 l1_0 l1_1 = some r) ∧ Aside0 (kq ≤ kj2) ∧ Aside0 (w'.heap[gb304]? = some (.cells #[(.slice A0_0 l0_0.length c0_0), (.slice A0_1 l0_1.length c0_1)] 25 (0, 0))) ∧ Aside0 (w'.heap[gb305]? = some (.cells #[(.slice A1_0 l1_0.length c1_0), (.slice A1_1 l1_1.length c1_1)] 25 (0, 0))) ∧ Aside0 (Below w.heap.size w w'))
        case atStart => exact ⟨(0), (by first | rfl | (simp; done) | (simp [*]; done)), H', ⟨Nat.le_refl _⟩, ⟨by (with_reducible repeat (first | refine blk_drewN ?_ _ | refine blk_drew ?_ | refine blk_alloc ?_ _)); exact BK304.out⟩, ⟨by (with_reducible repeat (first | refine blk_drewN ?_ _ | refine blk_drew ?_ | refine blk_alloc ?_ _)); exact BK305.out⟩, ⟨by repeat (first | (with_reducible first | exact HB.out | apply below_alloc | apply pw_below_drewN | apply below_drew1 | refine below_set ?_ GE304.out | refine below_set ?_ GE305.out) | exact HB.out)⟩⟩
        case round =>
          clear H'
          try clear c1
          try clear p2
          try clear c6
          try clear c6b0
          try clear c6b1
          try clear c6b2
          try clear c7
          try clear c10
          try clear c13
          try clear hcz11_0
          try clear hcz11_1
          try clear hcz12_0
          try clear hcz12_1
          try clear hcz8_0
          try clear hcz8_1
          try clear hcz9_0
          try clear hcz9_1
          try clear hfz11_0
          try clear hfz11_1
          try clear hfz12_0
          try clear hfz12_1
          try clear hfz8_0
          try clear hfz8_1
          try clear hfz9_0
          try clear hfz9_1
          try clear p2
          obtain ⟨x5_2, rfl, HA, HK2, BK304, BK305, HB⟩ := hrel
          cases gk with
          | zero => exact absurd HA.out (by simp [diapauseref13_Same.l0])
          | succ k2 =>
            have H := HA.out
            clear HA
            simp only [diapauseref13_Same.l0] at H
            by_cases c14 : x5_2 < (l0_0.length : Int)
            · rw [if_pos c14] at H
              have c14b0 : decide (x5_2 < (l0_0.length : Int)) = true := decide_eq_true c14
              clear c14
              by_cases c15 : 0 ≤ x5_2
              · rw [if_pos c15] at H
                have c15b0 : decide (0 ≤ x5_2) = true := decide_eq_true c15
                clear c15
                by_cases c16 : x5_2 < (l1_0.length : Int)
                · rw [if_pos c16] at H
                  have c16b0 : decide (x5_2 < (l1_0.length : Int)) = true := decide_eq_true c16
                  clear c16
                  by_cases c17 : (!(((rd_T41 l0_0 x5_2).f0) == ((rd_T41 l1_0 x5_2).f0)) || (!(((rd_T41 l0_0 x5_2).f1) == ((rd_T41 l1_0 x5_2).f1)) || (!(((rd_T41 l0_0 x5_2).f2) == ((rd_T41 l1_0 x5_2).f2)) || ((!(((rd_T41 l0_0 x5_2).f3.f0) == ((rd_T41 l1_0 x5_2).f3.f0)) || (!(((rd_T41 l0_0 x5_2).f3.f1) == ((rd_T41 l1_0 x5_2).f3.f1)) || (!(((rd_T41 l0_0 x5_2).f3.f2) == ((rd_T41 l1_0 x5_2).f3.f2))))))))) = true
                  · rw [if_pos c17] at H
                    have c17b0 : (!(((rd_T41 l0_0 x5_2).f0) == ((rd_T41 l1_0 x5_2).f0)) || (!(((rd_T41 l0_0 x5_2).f1) == ((rd_T41 l1_0 x5_2).f1)) || (!(((rd_T41 l0_0 x5_2).f2) == ((rd_T41 l1_0 x5_2).f2)) || ((!(((rd_T41 l0_0 x5_2).f3.f0) == ((rd_T41 l1_0 x5_2).f3.f0)) || (!(((rd_T41 l0_0 x5_2).f3.f1) == ((rd_T41 l1_0 x5_2).f3.f1)) || (!(((rd_T41 l0_0 x5_2).f3.f2) == ((rd_T41 l1_0 x5_2).f3.f2))))))))) = true := c17
                    clear c17
                    obtain rfl := Option.some.inj H
                    have hnb18 := NB304_305.out
                    have hnc18 := NB305_304.out
                    have hcz19_0 : wr.cell? ⟨gb304, 0, none⟩ = some (.slice A0_0 l0_0.length c0_0) := (blk_cell BK304.out 0).trans rfl
                    have hcz19_1 : wr.cell? ⟨gb304, 1, none⟩ = some (.slice A0_1 l0_1.length c0_1) := (blk_cell BK304.out 1).trans rfl
                    have hfz19_0 := blk_frozen BK304.out 0
                    have hfz19_1 := blk_frozen BK304.out 1
                    have p306 : 0 ≤ (x5_2 : Int) := of_decide_eq_true (by first | (with_reducible assumption) | assumption)
                    have q306 : x5_2 < (l0_0.length : Int) := of_decide_eq_true (by first | (with_reducible assumption) | assumption)
                    obtain ⟨ad306, e306, hx306_0, hx306_1, hx306_2, hx306_3, hx306_4, hx306_5⟩ := at_T41 HR0_0.out x5_2 p306 q306
                    cases e306
                    replace hx306_0 := (HB.out.cell (World.block_lt_of_cell? w _ hx306_0)).trans hx306_0
                    replace hx306_1 := (HB.out.cell (World.block_lt_of_cell? w _ hx306_1)).trans hx306_1
                    replace hx306_2 := (HB.out.cell (World.block_lt_of_cell? w _ hx306_2)).trans hx306_2
                    replace hx306_3 := (HB.out.cell (World.block_lt_of_cell? w _ hx306_3)).trans hx306_3
                    replace hx306_4 := (HB.out.cell (World.block_lt_of_cell? w _ hx306_4)).trans hx306_4
                    replace hx306_5 := (HB.out.cell (World.block_lt_of_cell? w _ hx306_5)).trans hx306_5
                    replace p306 := eq_true p306
                    replace q306 := eq_true q306
                    have hcz20_0 : wr.cell? ⟨gb305, 0, none⟩ = some (.slice A1_0 l1_0.length c1_0) := (blk_cell BK305.out 0).trans rfl
                    have hcz20_1 : wr.cell? ⟨gb305, 1, none⟩ = some (.slice A1_1 l1_1.length c1_1) := (blk_cell BK305.out 1).trans rfl
                    have hfz20_0 := blk_frozen BK305.out 0
                    have hfz20_1 := blk_frozen BK305.out 1
                    have p307 : 0 ≤ (x5_2 : Int) := of_decide_eq_true (by first | (with_reducible assumption) | assumption)
                    have q307 : x5_2 < (l1_0.length : Int) := of_decide_eq_true (by first | (with_reducible assumption) | assumption)
                    obtain ⟨ad307, e307, hx307_0, hx307_1, hx307_2, hx307_3, hx307_4, hx307_5⟩ := at_T41 HR1_0.out x5_2 p307 q307
                    cases e307
                    replace hx307_0 := (HB.out.cell (World.block_lt_of_cell? w _ hx307_0)).trans hx307_0
                    replace hx307_1 := (HB.out.cell (World.block_lt_of_cell? w _ hx307_1)).trans hx307_1
                    replace hx307_2 := (HB.out.cell (World.block_lt_of_cell? w _ hx307_2)).trans hx307_2
                    replace hx307_3 := (HB.out.cell (World.block_lt_of_cell? w _ hx307_3)).trans hx307_3
                    replace hx307_4 := (HB.out.cell (World.block_lt_of_cell? w _ hx307_4)).trans hx307_4
                    replace hx307_5 := (HB.out.cell (World.block_lt_of_cell? w _ hx307_5)).trans hx307_5
                    replace p307 := eq_true p307
                    replace q307 := eq_true q307
                    go_wp2
                    repeat (go_quiet (fail); try go_wp2)
                    go_ret
                    exact ⟨by first | rfl | (simp [errW_none, errW_some] <;> rfl) | (simp [*, errW_none, errW_some] <;> rfl), by repeat (first | (with_reducible first | exact HB.out | apply below_alloc | apply pw_below_drewN | apply below_drew1 | refine below_set ?_ GE304.out | refine below_set ?_ GE305.out) | exact HB.out)⟩
                  · rw [if_neg c17] at H
                    have c17b0 : (!(((rd_T41 l0_0 x5_2).f0) == ((rd_T41 l1_0 x5_2).f0)) || (!(((rd_T41 l0_0 x5_2).f1) == ((rd_T41 l1_0 x5_2).f1)) || (!(((rd_T41 l0_0 x5_2).f2) == ((rd_T41 l1_0 x5_2).f2)) || ((!(((rd_T41 l0_0 x5_2).f3.f0) == ((rd_T41 l1_0 x5_2).f3.f0)) || (!(((rd_T41 l0_0 x5_2).f3.f1) == ((rd_T41 l1_0 x5_2).f3.f1)) || (!(((rd_T41 l0_0 x5_2).f3.f2) == ((rd_T41 l1_0 x5_2).f3.f2))))))))) = false := by simpa using c17
                    clear c17
                    have H' := Aside0.mk H
                    clear H
                    have hnb21 := NB304_305.out
                    have hnc21 := NB305_304.out
                    have hcz22_0 : wr.cell? ⟨gb304, 0, none⟩ = some (.slice A0_0 l0_0.length c0_0) := (blk_cell BK304.out 0).trans rfl
                    have hcz22_1 : wr.cell? ⟨gb304, 1, none⟩ = some (.slice A0_1 l0_1.length c0_1) := (blk_cell BK304.out 1).trans rfl
                    have hfz22_0 := blk_frozen BK304.out 0
                    have hfz22_1 := blk_frozen BK304.out 1
                    have p306 : 0 ≤ (x5_2 : Int) := of_decide_eq_true (by first | (with_reducible assumption) | assumption)
                    have q306 : x5_2 < (l0_0.length : Int) := of_decide_eq_true (by first | (with_reducible assumption) | assumption)
                    obtain ⟨ad306, e306, hx306_0, hx306_1, hx306_2, hx306_3, hx306_4, hx306_5⟩ := at_T41 HR0_0.out x5_2 p306 q306
                    cases e306
                    replace hx306_0 := (HB.out.cell (World.block_lt_of_cell? w _ hx306_0)).trans hx306_0
                    replace hx306_1 := (HB.out.cell (World.block_lt_of_cell? w _ hx306_1)).trans hx306_1
                    replace hx306_2 := (HB.out.cell (World.block_lt_of_cell? w _ hx306_2)).trans hx306_2
                    replace hx306_3 := (HB.out.cell (World.block_lt_of_cell? w _ hx306_3)).trans hx306_3
                    replace hx306_4 := (HB.out.cell (World.block_lt_of_cell? w _ hx306_4)).trans hx306_4
                    replace hx306_5 := (HB.out.cell (World.block_lt_of_cell? w _ hx306_5)).trans hx306_5
                    replace p306 := eq_true p306
                    replace q306 := eq_true q306
                    have hcz23_0 : wr.cell? ⟨gb305, 0, none⟩ = some (.slice A1_0 l1_0.length c1_0) := (blk_cell BK305.out 0).trans rfl
                    have hcz23_1 : wr.cell? ⟨gb305, 1, none⟩ = some (.slice A1_1 l1_1.length c1_1) := (blk_cell BK305.out 1).trans rfl
                    have hfz23_0 := blk_frozen BK305.out 0
                    have hfz23_1 := blk_frozen BK305.out 1
                    have p307 : 0 ≤ (x5_2 : Int) := of_decide_eq_true (by first | (with_reducible assumption) | assumption)
                    have q307 : x5_2 < (l1_0.length : Int) := of_decide_eq_true (by first | (with_reducible assumption) | assumption)
                    obtain ⟨ad307, e307, hx307_0, hx307_1, hx307_2, hx307_3, hx307_4, hx307_5⟩ := at_T41 HR1_0.out x5_2 p307 q307
                    cases e307
                    replace hx307_0 := (HB.out.cell (World.block_lt_of_cell? w _ hx307_0)).trans hx307_0
                    replace hx307_1 := (HB.out.cell (World.block_lt_of_cell? w _ hx307_1)).trans hx307_1
                    replace hx307_2 := (HB.out.cell (World.block_lt_of_cell? w _ hx307_2)).trans hx307_2
                    replace hx307_3 := (HB.out.cell (World.block_lt_of_cell? w _ hx307_3)).trans hx307_3
                    replace hx307_4 := (HB.out.cell (World.block_lt_of_cell? w _ hx307_4)).trans hx307_4
                    replace hx307_5 := (HB.out.cell (World.block_lt_of_cell? w _ hx307_5)).trans hx307_5
                    replace p307 := eq_true p307
                    replace q307 := eq_true q307
                    go_wp2
                    repeat (go_quiet (fail); try go_wp2)
                    go_roundg k2
                    case measure => have := HJ2.out; have := HK2.out; omega
                    case rel => exact ⟨(wrap64 (x5_2 + 1)), (by first | rfl | (simp; done) | (simp [*]; done)), H', ⟨by have := HJ2.out; have := HK2.out; omega⟩, ⟨by (with_reducible repeat (first | refine blk_drewN ?_ _ | refine blk_drew ?_ | refine blk_alloc ?_ _)); exact BK304.out⟩, ⟨by (with_reducible repeat (first | refine blk_drewN ?_ _ | refine blk_drew ?_ | refine blk_alloc ?_ _)); exact BK305.out⟩, ⟨by repeat (first | (with_reducible first | exact HB.out | apply below_alloc | apply pw_below_drewN | apply below_drew1 | refine below_set ?_ GE304.out | refine below_set ?_ GE305.out) | exact HB.out)⟩⟩
                · rw [if_neg c16] at H
                  exact absurd H (by simp)
              · rw [if_neg c15] at H
                exact absurd H (by simp)
            · rw [if_neg c14] at H
              have c14b0 : decide (x5_2 < (l0_0.length : Int)) = false := decide_eq_false c14
              clear c14
              have H' := Aside0.mk H
              clear H
              have hnb24 := NB304_305.out
              have hnc24 := NB305_304.out
              have hcz25_0 : wr.cell? ⟨gb304, 0, none⟩ = some (.slice A0_0 l0_0.length c0_0) := (blk_cell BK304.out 0).trans rfl
              have hcz25_1 : wr.cell? ⟨gb304, 1, none⟩ = some (.slice A0_1 l0_1.length c0_1) := (blk_cell BK304.out 1).trans rfl
              have hfz25_0 := blk_frozen BK304.out 0
              have hfz25_1 := blk_frozen BK304.out 1
              go_wp2
              repeat (go_quiet (fail); try go_wp2)
              go_loopg [6] k2 (fun kq v6 w' => ∃ (x6_3 : Int), v6 = .int .i64 x6_3 ∧ Aside0 (diapauseref13_Same.l1 kq x6_3 l0_0 l0_1 l1_0 l1_1 = some r) ∧ Aside0 (kq ≤ k2) ∧ Aside0 (w'.heap[gb304]? = some (.cells #[(.slice A0_0 l0_0.length c0_0), (.slice A0_1 l0_1.length c0_1)] 25 (0, 0))) ∧ Aside0 (w'.heap[gb305]? = some (.cells #[(.slice A1_0 l1_0.length c1_0), (.slice A1_1 l1_1.length c1_1)] 25 (0, 0))) ∧ Aside0 (Below w.heap.size w w'))
              case atStart => exact ⟨(0), (by first | rfl | (simp; done) | (simp [*]; done)), H', ⟨Nat.le_refl _⟩, ⟨by (with_reducible repeat (first | refine blk_drewN ?_ _ | refine blk_drew ?_ | refine blk_alloc ?_ _)); exact BK304.out⟩, ⟨by (with_reducible repeat (first | refine blk_drewN ?_ _ | refine blk_drew ?_ | refine blk_alloc ?_ _)); exact BK305.out⟩, ⟨by repeat (first | (with_reducible first | exact HB.out | apply below_alloc | apply pw_below_drewN | apply below_drew1 | refine below_set ?_ GE304.out | refine below_set ?_ GE305.out) | exact HB.out)⟩⟩
              case round =>
                clear H'
                try clear c1
                try clear c2
                try clear p2
                try clear p3
                try clear q3
                try clear hx3
                try clear c6
                try clear c6b0
                try clear c6b1
                try clear c6b2
                try clear p6
                try clear c7
                try clear c10
                try clear c13
                try clear c14
                try clear c14b0
                try clear c15
                try clear c15b0
                try clear c16
                try clear c16b0
                try clear c17
                try clear c17b0
                try clear c18
                try clear c19
                try clear c21
                try clear c24
                try clear hcz11_0
                try clear hcz11_1
                try clear hcz12_0
                try clear hcz12_1
                try clear hcz19_0
                try clear hcz19_1
                try clear hcz20_0
                try clear hcz20_1
                try clear hcz22_0
                try clear hcz22_1
                try clear hcz23_0
                try clear hcz23_1
                try clear hcz25_0
                try clear hcz25_1
                try clear hcz8_0
                try clear hcz8_1
                try clear hcz9_0
                try clear hcz9_1
                try clear hfz11_0
                try clear hfz11_1
                try clear hfz12_0
                try clear hfz12_1
                try clear hfz19_0
                try clear hfz19_1
                try clear hfz20_0
                try clear hfz20_1
                try clear hfz22_0
                try clear hfz22_1
                try clear hfz23_0
                try clear hfz23_1
                try clear hfz25_0
                try clear hfz25_1
                try clear hfz8_0
                try clear hfz8_1
                try clear hfz9_0
                try clear hfz9_1
                try clear hx306_0
                try clear hx306_1
                try clear hx306_2
                try clear hx306_3
                try clear hx306_4
                try clear hx306_5
                try clear hx307_0
                try clear hx307_1
                try clear hx307_2
                try clear hx307_3
                try clear hx307_4
                try clear hx307_5
                try clear p2
                try clear p306
                try clear p307
                try clear q306
                try clear q307
                obtain ⟨x6_3, rfl, HA, HK3, BK304, BK305, HB⟩ := hrel
                cases gk with
                | zero => exact absurd HA.out (by simp [diapauseref13_Same.l1])
                | succ k3 =>
                  have H := HA.out
                  clear HA
                  simp only [diapauseref13_Same.l1] at H
                  by_cases c26 : x6_3 < (l0_1.length : Int)
                  · rw [if_pos c26] at H
                    have c26b0 : decide (x6_3 < (l0_1.length : Int)) = true := decide_eq_true c26
                    clear c26
                    by_cases c27 : 0 ≤ x6_3
                    · rw [if_pos c27] at H
                      have c27b0 : decide (0 ≤ x6_3) = true := decide_eq_true c27
                      clear c27
                      by_cases c28 : x6_3 < (l1_1.length : Int)
                      · rw [if_pos c28] at H
                        have c28b0 : decide (x6_3 < (l1_1.length : Int)) = true := decide_eq_true c28
                        clear c28
                        by_cases c29 : (!(((rd_T46 l0_1 x6_3).f0) == ((rd_T46 l1_1 x6_3).f0)) || (!(((rd_T46 l0_1 x6_3).f1) == ((rd_T46 l1_1 x6_3).f1)) || (!(((rd_T46 l0_1 x6_3).f2) == ((rd_T46 l1_1 x6_3).f2)) || (!(((rd_T46 l0_1 x6_3).f3) == ((rd_T46 l1_1 x6_3).f3)) || (!(((rd_T46 l0_1 x6_3).f4) == ((rd_T46 l1_1 x6_3).f4)) || (!(((rd_T46 l0_1 x6_3).f5) == ((rd_T46 l1_1 x6_3).f5)) || ((!(((rd_T46 l0_1 x6_3).f6.f0) == ((rd_T46 l1_1 x6_3).f6.f0)) || (!(((rd_T46 l0_1 x6_3).f6.f1) == ((rd_T46 l1_1 x6_3).f6.f1))))))))))) = true
                        · rw [if_pos c29] at H
                          have c29b0 : (!(((rd_T46 l0_1 x6_3).f0) == ((rd_T46 l1_1 x6_3).f0)) || (!(((rd_T46 l0_1 x6_3).f1) == ((rd_T46 l1_1 x6_3).f1)) || (!(((rd_T46 l0_1 x6_3).f2) == ((rd_T46 l1_1 x6_3).f2)) || (!(((rd_T46 l0_1 x6_3).f3) == ((rd_T46 l1_1 x6_3).f3)) || (!(((rd_T46 l0_1 x6_3).f4) == ((rd_T46 l1_1 x6_3).f4)) || (!(((rd_T46 l0_1 x6_3).f5) == ((rd_T46 l1_1 x6_3).f5)) || ((!(((rd_T46 l0_1 x6_3).f6.f0) == ((rd_T46 l1_1 x6_3).f6.f0)) || (!(((rd_T46 l0_1 x6_3).f6.f1) == ((rd_T46 l1_1 x6_3).f6.f1))))))))))) = true := c29
                          clear c29
                          obtain rfl := Option.some.inj H
                          have hnb30 := NB304_305.out
                          have hnc30 := NB305_304.out
                          have hcz31_0 : wr.cell? ⟨gb304, 0, none⟩ = some (.slice A0_0 l0_0.length c0_0) := (blk_cell BK304.out 0).trans rfl
                          have hcz31_1 : wr.cell? ⟨gb304, 1, none⟩ = some (.slice A0_1 l0_1.length c0_1) := (blk_cell BK304.out 1).trans rfl
                          have hfz31_0 := blk_frozen BK304.out 0
                          have hfz31_1 := blk_frozen BK304.out 1
                          have p308 : 0 ≤ (x6_3 : Int) := of_decide_eq_true (by first | (with_reducible assumption) | assumption)
                          have q308 : x6_3 < (l0_1.length : Int) := of_decide_eq_true (by first | (with_reducible assumption) | assumption)
                          obtain ⟨ad308, e308, hx308_0, hx308_1, hx308_2, hx308_3, hx308_4, hx308_5, hx308_6, hx308_7⟩ := at_T46 HR0_1.out x6_3 p308 q308
                          cases e308
                          replace hx308_0 := (HB.out.cell (World.block_lt_of_cell? w _ hx308_0)).trans hx308_0
                          replace hx308_1 := (HB.out.cell (World.block_lt_of_cell? w _ hx308_1)).trans hx308_1
                          replace hx308_2 := (HB.out.cell (World.block_lt_of_cell? w _ hx308_2)).trans hx308_2
                          replace hx308_3 := (HB.out.cell (World.block_lt_of_cell? w _ hx308_3)).trans hx308_3
                          replace hx308_4 := (HB.out.cell (World.block_lt_of_cell? w _ hx308_4)).trans hx308_4
                          replace hx308_5 := (HB.out.cell (World.block_lt_of_cell? w _ hx308_5)).trans hx308_5
                          replace hx308_6 := (HB.out.cell (World.block_lt_of_cell? w _ hx308_6)).trans hx308_6
                          replace hx308_7 := (HB.out.cell (World.block_lt_of_cell? w _ hx308_7)).trans hx308_7
                          replace p308 := eq_true p308
                          replace q308 := eq_true q308
                          have hcz32_0 : wr.cell? ⟨gb305, 0, none⟩ = some (.slice A1_0 l1_0.length c1_0) := (blk_cell BK305.out 0).trans rfl
                          have hcz32_1 : wr.cell? ⟨gb305, 1, none⟩ = some (.slice A1_1 l1_1.length c1_1) := (blk_cell BK305.out 1).trans rfl
                          have hfz32_0 := blk_frozen BK305.out 0
                          have hfz32_1 := blk_frozen BK305.out 1
                          have p309 : 0 ≤ (x6_3 : Int) := of_decide_eq_true (by first | (with_reducible assumption) | assumption)
                          have q309 : x6_3 < (l1_1.length : Int) := of_decide_eq_true (by first | (with_reducible assumption) | assumption)
                          obtain ⟨ad309, e309, hx309_0, hx309_1, hx309_2, hx309_3, hx309_4, hx309_5, hx309_6, hx309_7⟩ := at_T46 HR1_1.out x6_3 p309 q309
                          cases e309
                          replace hx309_0 := (HB.out.cell (World.block_lt_of_cell? w _ hx309_0)).trans hx309_0
                          replace hx309_1 := (HB.out.cell (World.block_lt_of_cell? w _ hx309_1)).trans hx309_1
                          replace hx309_2 := (HB.out.cell (World.block_lt_of_cell? w _ hx309_2)).trans hx309_2
                          replace hx309_3 := (HB.out.cell (World.block_lt_of_cell? w _ hx309_3)).trans hx309_3
                          replace hx309_4 := (HB.out.cell (World.block_lt_of_cell? w _ hx309_4)).trans hx309_4
                          replace hx309_5 := (HB.out.cell (World.block_lt_of_cell? w _ hx309_5)).trans hx309_5
                          replace hx309_6 := (HB.out.cell (World.block_lt_of_cell? w _ hx309_6)).trans hx309_6
                          replace hx309_7 := (HB.out.cell (World.block_lt_of_cell? w _ hx309_7)).trans hx309_7
                          replace p309 := eq_true p309
                          replace q309 := eq_true q309
                          go_wp2
                          repeat (go_quiet (fail); try go_wp2)
                          go_ret
                          exact ⟨by first | rfl | (simp [errW_none, errW_some] <;> rfl) | (simp [*, errW_none, errW_some] <;> rfl), by repeat (first | (with_reducible first | exact HB.out | apply below_alloc | apply pw_below_drewN | apply below_drew1 | refine below_set ?_ GE304.out | refine below_set ?_ GE305.out) | exact HB.out)⟩
                        · rw [if_neg c29] at H
                          have c29b0 : (!(((rd_T46 l0_1 x6_3).f0) == ((rd_T46 l1_1 x6_3).f0)) || (!(((rd_T46 l0_1 x6_3).f1) == ((rd_T46 l1_1 x6_3).f1)) || (!(((rd_T46 l0_1 x6_3).f2) == ((rd_T46 l1_1 x6_3).f2)) || (!(((rd_T46 l0_1 x6_3).f3) == ((rd_T46 l1_1 x6_3).f3)) || (!(((rd_T46 l0_1 x6_3).f4) == ((rd_T46 l1_1 x6_3).f4)) || (!(((rd_T46 l0_1 x6_3).f5) == ((rd_T46 l1_1 x6_3).f5)) || ((!(((rd_T46 l0_1 x6_3).f6.f0) == ((rd_T46 l1_1 x6_3).f6.f0)) || (!(((rd_T46 l0_1 x6_3).f6.f1) == ((rd_T46 l1_1 x6_3).f6.f1))))))))))) = false := by simpa using c29
                          clear c29
                          have H' := Aside0.mk H
                          clear H
                          have hnb33 := NB304_305.out
                          have hnc33 := NB305_304.out
                          have hcz34_0 : wr.cell? ⟨gb304, 0, none⟩ = some (.slice A0_0 l0_0.length c0_0) := (blk_cell BK304.out 0).trans rfl
                          have hcz34_1 : wr.cell? ⟨gb304, 1, none⟩ = some (.slice A0_1 l0_1.length c0_1) := (blk_cell BK304.out 1).trans rfl
                          have hfz34_0 := blk_frozen BK304.out 0
                          have hfz34_1 := blk_frozen BK304.out 1
                          have p308 : 0 ≤ (x6_3 : Int) := of_decide_eq_true (by first | (with_reducible assumption) | assumption)
                          have q308 : x6_3 < (l0_1.length : Int) := of_decide_eq_true (by first | (with_reducible assumption) | assumption)
                          obtain ⟨ad308, e308, hx308_0, hx308_1, hx308_2, hx308_3, hx308_4, hx308_5, hx308_6, hx308_7⟩ := at_T46 HR0_1.out x6_3 p308 q308
                          cases e308
                          replace hx308_0 := (HB.out.cell (World.block_lt_of_cell? w _ hx308_0)).trans hx308_0
                          replace hx308_1 := (HB.out.cell (World.block_lt_of_cell? w _ hx308_1)).trans hx308_1
                          replace hx308_2 := (HB.out.cell (World.block_lt_of_cell? w _ hx308_2)).trans hx308_2
                          replace hx308_3 := (HB.out.cell (World.block_lt_of_cell? w _ hx308_3)).trans hx308_3
                          replace hx308_4 := (HB.out.cell (World.block_lt_of_cell? w _ hx308_4)).trans hx308_4
                          replace hx308_5 := (HB.out.cell (World.block_lt_of_cell? w _ hx308_5)).trans hx308_5
                          replace hx308_6 := (HB.out.cell (World.block_lt_of_cell? w _ hx308_6)).trans hx308_6
                          replace hx308_7 := (HB.out.cell (World.block_lt_of_cell? w _ hx308_7)).trans hx308_7
                          replace p308 := eq_true p308
                          replace q308 := eq_true q308
                          have hcz35_0 : wr.cell? ⟨gb305, 0, none⟩ = some (.slice A1_0 l1_0.length c1_0) := (blk_cell BK305.out 0).trans rfl
                          have hcz35_1 : wr.cell? ⟨gb305, 1, none⟩ = some (.slice A1_1 l1_1.length c1_1) := (blk_cell BK305.out 1).trans rfl
                          have hfz35_0 := blk_frozen BK305.out 0
                          have hfz35_1 := blk_frozen BK305.out 1
                          have p309 : 0 ≤ (x6_3 : Int) := of_decide_eq_true (by first | (with_reducible assumption) | assumption)
                          have q309 : x6_3 < (l1_1.length : Int) := of_decide_eq_true (by first | (with_reducible assumption) | assumption)
                          obtain ⟨ad309, e309, hx309_0, hx309_1, hx309_2, hx309_3, hx309_4, hx309_5, hx309_6, hx309_7⟩ := at_T46 HR1_1.out x6_3 p309 q309
                          cases e309
                          replace hx309_0 := (HB.out.cell (World.block_lt_of_cell? w _ hx309_0)).trans hx309_0
                          replace hx309_1 := (HB.out.cell (World.block_lt_of_cell? w _ hx309_1)).trans hx309_1
                          replace hx309_2 := (HB.out.cell (World.block_lt_of_cell? w _ hx309_2)).trans hx309_2
                          replace hx309_3 := (HB.out.cell (World.block_lt_of_cell? w _ hx309_3)).trans hx309_3
                          replace hx309_4 := (HB.out.cell (World.block_lt_of_cell? w _ hx309_4)).trans hx309_4
                          replace hx309_5 := (HB.out.cell (World.block_lt_of_cell? w _ hx309_5)).trans hx309_5
                          replace hx309_6 := (HB.out.cell (World.block_lt_of_cell? w _ hx309_6)).trans hx309_6
                          replace hx309_7 := (HB.out.cell (World.block_lt_of_cell? w _ hx309_7)).trans hx309_7
                          replace p309 := eq_true p309
                          replace q309 := eq_true q309
                          go_wp2
                          repeat (go_quiet (fail); try go_wp2)
                          go_roundg k3
                          case measure => have := HJ2.out; have := HK2.out; have := HK3.out; omega
                          case rel => exact ⟨(wrap64 (x6_3 + 1)), (by first | rfl | (simp; done) | (simp [*]; done)), H', ⟨by have := HJ2.out; have := HK2.out; have := HK3.out; omega⟩, ⟨by (with_reducible repeat (first | refine blk_drewN ?_ _ | refine blk_drew ?_ | refine blk_alloc ?_ _)); exact BK304.out⟩, ⟨by (with_reducible repeat (first | refine blk_drewN ?_ _ | refine blk_drew ?_ | refine blk_alloc ?_ _)); exact BK305.out⟩, ⟨by repeat (first | (with_reducible first | exact HB.out | apply below_alloc | apply pw_below_drewN | apply below_drew1 | refine below_set ?_ GE304.out | refine below_set ?_ GE305.out) | exact HB.out)⟩⟩
                      · rw [if_neg c28] at H
                        exact absurd H (by simp)
                    · rw [if_neg c27] at H
                      exact absurd H (by simp)
                  · rw [if_neg c26] at H
                    have c26b0 : decide (x6_3 < (l0_1.length : Int)) = false := decide_eq_false c26
                    clear c26
                    obtain rfl := Option.some.inj H
                    have hnb36 := NB304_305.out
                    have hnc36 := NB305_304.out
                    have hcz37_0 : wr.cell? ⟨gb304, 0, none⟩ = some (.slice A0_0 l0_0.length c0_0) := (blk_cell BK304.out 0).trans rfl
                    have hcz37_1 : wr.cell? ⟨gb304, 1, none⟩ = some (.slice A0_1 l0_1.length c0_1) := (blk_cell BK304.out 1).trans rfl
                    have hfz37_0 := blk_frozen BK304.out 0
                    have hfz37_1 := blk_frozen BK304.out 1
                    go_wp2
                    repeat (go_quiet (fail); try go_wp2)
                    go_ret
                    exact ⟨by first | rfl | (simp [errW_none, errW_some] <;> rfl) | (simp [*, errW_none, errW_some] <;> rfl), by repeat (first | (with_reducible first | exact HB.out | apply below_alloc | apply pw_below_drewN | apply below_drew1 | refine below_set ?_ GE304.out | refine below_set ?_ GE305.out) | exact HB.out)⟩

end Go.Proofs.Ytpnjhffnlafabaa.PSceneOrders
