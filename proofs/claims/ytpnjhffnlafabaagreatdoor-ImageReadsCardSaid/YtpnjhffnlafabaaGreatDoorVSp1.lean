/- oddGroup and oddTask of package scene, walked by hand (in the place of the printed texts x4 and x5, which are long). -/
import Derived.Test.YtpnjhffnlafabaaGreatDoorVP
import Derived.Test.YtpnjhffnlafabaaGreatDoorVSc1
import Derived.Test.YtpnjhffnlafabaaGreatDoorVBk
import Derived.StillTailTactics
import Derived.Deep.RegionHeld
import Derived.Test.YtpnjhffnlafabaaGreatDoorVKf
namespace Go.Proofs.YtpnjhffnlafabaaGreatDoor.Sn
set_option linter.unusedVariables false
set_option linter.unusedSimpArgs false
open Go.RowKit Go.Proofs.Bk Go.Proofs.Bm Go.Proofs.Sc Go.Proofs.Kf Go.Proofs.YtpnjhffnlafabaaGreatDoorW.PrintWords Go.Proofs.YtpnjhffnlafabaaGreatDoor.PImageBack
def PurePost (v : Value) (w : World) (e : Ending) (w' : World) : Prop := e = .returned v ∧ w' = w
def BelowPost (v : Value) (w : World) (e : Ending) (w' : World) : Prop := e = .returned v ∧ Below w.heap.size w w'
theorem within_c (n m : Int) (w : World) : Calls Tryz.prog 68 #[.int .i64 n, .int .i64 m] w (PurePost (.bool (within1 n m)) w) := by
  unfold within1
  by_cases h1 : 1 ≤ n
  · by_cases h2 : n ≤ m
    · go_enter Tryz.func68, Tryz.ntmps68
      go_wp2_with fail
      go_ret
      exact ⟨by simp [h1, h2], rfl⟩
    · go_enter Tryz.func68, Tryz.ntmps68
      go_wp2_with fail
      go_ret
      exact ⟨by simp [h1, h2], rfl⟩
  · go_enter Tryz.func68, Tryz.ntmps68
    go_wp2_with fail
    go_ret
    exact ⟨by simp; omega, rfl⟩
theorem bwithin_c (n m : Int) (w : World) : Calls Tryz.prog 93 #[.int .i64 n, .int .i64 m] w (PurePost (.bool (within0 n m)) w) := by
  unfold within0
  by_cases h1 : 0 ≤ n
  · by_cases h2 : n ≤ m
    · go_enter Tryz.func93, Tryz.ntmps93
      go_wp2_with fail
      go_ret
      exact ⟨by simp [h1, h2], rfl⟩
    · go_enter Tryz.func93, Tryz.ntmps93
      go_wp2_with fail
      go_ret
      exact ⟨by simp [h1, h2], rfl⟩
  · go_enter Tryz.func93, Tryz.ntmps93
    go_wp2_with fail
    go_ret
    exact ⟨by simp; omega, rfl⟩
def bandR (p q u : Int) : Bool := if q = 0 then within0 p 1048576 && (decide (q = 0) && decide (u = 0)) else within0 (wrap64 (p - 1)) 1048575 && within0 q 1048576 && within0 u 1099511627776
set_option maxHeartbeats 2000000 in
set_option maxRecDepth 100000 in
theorem band_c (p q u : Int) (w : World) : Calls Tryz.prog 69 #[.agg #[.int .i64 p, .int .i64 q, .int .i64 u]] w (BelowPost (.bool (bandR p q u)) w) := by
  have hb := below_alloc (Below.refl w.heap.size w) (.cells #[.int .i64 p, .int .i64 q, .int .i64 u] 48)
  have k1 := fun W => bwithin_c p 1048576 W
  have k2 := fun W => bwithin_c (wrap64 (p - 1)) 1048575 W
  have k3 := fun W => bwithin_c q 1048576 W
  have k4 := fun W => bwithin_c u 1099511627776 W
  unfold bandR
  generalize within0 p 1048576 = b1 at k1 ⊢
  generalize within0 (wrap64 (p - 1)) 1048575 = b2 at k2 ⊢
  generalize within0 q 1048576 = b3 at k3 ⊢
  generalize within0 u 1099511627776 = b4 at k4 ⊢
  replace k1 := Aside0.mk k1
  replace k2 := Aside0.mk k2
  replace k3 := Aside0.mk k3
  replace k4 := Aside0.mk k4
  replace hb := Aside0.mk hb
  by_cases h0 : q = 0
  · subst h0
    rw [if_pos rfl]
    cases b1
    · go_enter Tryz.func69, Tryz.ntmps69
      go_wp2_with (go_at_call 93; (with_reducible refine (k1.out _).mono ?_); rintro e w' ⟨rfl, rfl⟩)
      go_ret
      exact ⟨rfl, hb.out⟩
    · by_cases hu : u = 0
      · subst hu
        go_enter Tryz.func69, Tryz.ntmps69
        go_wp2_with (go_at_call 93; (with_reducible refine (k1.out _).mono ?_); rintro e w' ⟨rfl, rfl⟩)
        go_ret
        exact ⟨rfl, hb.out⟩
      · have hu' : (u == 0) = false := by simpa using hu
        have hu2 : decide (u = 0) = false := decide_eq_false hu
        go_enter Tryz.func69, Tryz.ntmps69
        go_wp2_with (go_at_call 93; (with_reducible refine (k1.out _).mono ?_); rintro e w' ⟨rfl, rfl⟩)
        go_ret
        exact ⟨by simp [hu], hb.out⟩
  · rw [if_neg h0]
    have h0' : (q == 0) = false := by simpa using h0
    cases b2
    · go_enter Tryz.func69, Tryz.ntmps69
      go_wp2_with (go_at_call 93; (with_reducible refine (k2.out _).mono ?_); rintro e w' ⟨rfl, rfl⟩)
      go_ret
      exact ⟨rfl, hb.out⟩
    · cases b3
      · go_enter Tryz.func69, Tryz.ntmps69
        go_wp2_with (first | (go_at_call 93; (with_reducible refine (k2.out _).mono ?_); rintro e w' ⟨rfl, rfl⟩) | (go_at_call 93; (with_reducible refine (k3.out _).mono ?_); rintro e w' ⟨rfl, rfl⟩))
        go_ret
        exact ⟨rfl, hb.out⟩
      · go_enter Tryz.func69, Tryz.ntmps69
        go_wp2_with (first | (go_at_call 93; (with_reducible refine (k2.out _).mono ?_); rintro e w' ⟨rfl, rfl⟩) | (go_at_call 93; (with_reducible refine (k3.out _).mono ?_); rintro e w' ⟨rfl, rfl⟩) | (go_at_call 93; (with_reducible refine (k4.out _).mono ?_); rintro e w' ⟨rfl, rfl⟩))
        go_ret
        exact ⟨by simp, hb.out⟩
theorem held_c (a b c : Int) (w : World) : Calls Tryz.prog 107 #[.int .i64 a, .int .i64 b, .int .i64 c] w (PurePost (.int .i64 (max b (min a c))) w) := by
  by_cases h1 : c < a
  · by_cases h2 : b < c
    · go_enter Tryz.func107, Tryz.ntmps107
      go_wp2_with fail
      go_ret
      exact ⟨by rw [show max b (min a c) = c by omega]; rfl, rfl⟩
    · go_enter Tryz.func107, Tryz.ntmps107
      go_wp2_with fail
      go_ret
      exact ⟨by rw [show max b (min a c) = b by omega]; rfl, rfl⟩
  · by_cases h2 : b < a
    · go_enter Tryz.func107, Tryz.ntmps107
      go_wp2_with fail
      go_ret
      exact ⟨by rw [show max b (min a c) = a by omega]; rfl, rfl⟩
    · go_enter Tryz.func107, Tryz.ntmps107
      go_wp2_with fail
      go_ret
      exact ⟨by rw [show max b (min a c) = b by omega]; rfl, rfl⟩
theorem weighs_c (n : Int) (w : World) : Calls Tryz.prog 94 #[.int .i64 n] w (PurePost (.int .i64 (weighs n)) w) := by
  have k := Aside0.mk (fun W => held_c n 1 1048576 W)
  unfold weighs
  go_enter Tryz.func94, Tryz.ntmps94
  go_wp2_with (go_at_call 107; (with_reducible refine (k.out _).mono ?_); rintro e w' ⟨rfl, rfl⟩)
  go_ret
  exact ⟨rfl, rfl⟩
set_option maxHeartbeats 2000000 in
set_option maxRecDepth 100000 in
theorem pace_c (v r n : Int) (w : World) : Calls Tryz.prog 71 #[.agg #[.int .i64 v, .int .i64 r], .int .i64 n] w (BelowPost (.bool (paceRight v r n)) w) := by
  have k := fun W => weighs_c n W
  unfold paceRight
  generalize weighs n = wt at k ⊢
  replace k := Aside0.mk k
  by_cases h1 : 0 ≤ v
  · by_cases h2 : v ≤ 2305843009213693952
    · by_cases h3 : 0 ≤ r
      · skip
        go_enter Tryz.func71, Tryz.ntmps71
        go_wp2_with (((with_reducible refine gate_dst (N := 2) rfl ?_); refine box_event ?hg (N := 2) ?hd (cs := #[.int .i64 v, .int .i64 r]) (t := 57) ?hr ?_; (case hd => rfl); (case hg => rfl); (case hr => first | (go_simp; done) | (go_simp; rfl)); intro b2 hb2 w1 kb2 bb2; replace hb2 := Aside0.mk hb2; replace kb2 := Aside0.mk kb2; replace bb2 := Aside0.mk bb2); have c0 := (cell_row kb2.out 0).trans (rfl : _ = some (Value.int .i64 v)); have c1 := (cell_row kb2.out 1).trans (rfl : _ = some (Value.int .i64 r)))
        first
        | (go_region_held (fun w' => w'.cell? ⟨b2, 0, none⟩ = some (.int .i64 v) ∧ w'.cell? ⟨b2, 1, none⟩ = some (.int .i64 r)) (first | (with_reducible exact ⟨c0, c1⟩) | go_keep) (first | (go_at_call 94; (with_reducible refine (k.out _).mono ?_); rintro e w' ⟨rfl, rfl⟩)))
        | fail
        all_goals go_wp2_with fail
        all_goals go_ret
        all_goals exact ⟨by simp [h1, h2, h3], bb2.out.drew⟩
      · skip
        have e0 : (decide (0 ≤ v) && decide (v ≤ 2305843009213693952) && decide (0 ≤ r) && decide (r < wt)) = false := by simp [h1, h2, h3]
        rw [e0]
        go_enter Tryz.func71, Tryz.ntmps71
        go_wp2_with (((with_reducible refine gate_dst (N := 2) rfl ?_); refine box_event ?hg (N := 2) ?hd (cs := #[.int .i64 v, .int .i64 r]) (t := 57) ?hr ?_; (case hd => rfl); (case hg => rfl); (case hr => first | (go_simp; done) | (go_simp; rfl)); intro b2 hb2 w1 kb2 bb2; replace hb2 := Aside0.mk hb2; replace kb2 := Aside0.mk kb2; replace bb2 := Aside0.mk bb2); have c0 := (cell_row kb2.out 0).trans (rfl : _ = some (Value.int .i64 v)); have c1 := (cell_row kb2.out 1).trans (rfl : _ = some (Value.int .i64 r)))
        first
        | (go_region_with (go_at_call 94; (with_reducible refine (k.out _).mono ?_); rintro e w' ⟨rfl, rfl⟩))
        | fail
        all_goals go_wp2_with fail
        all_goals go_ret
        all_goals exact ⟨rfl, bb2.out.drew⟩
    · skip
      have e0 : (decide (0 ≤ v) && decide (v ≤ 2305843009213693952) && decide (0 ≤ r) && decide (r < wt)) = false := by simp [h1, h2]
      rw [e0]
      go_enter Tryz.func71, Tryz.ntmps71
      go_wp2_with (((with_reducible refine gate_dst (N := 2) rfl ?_); refine box_event ?hg (N := 2) ?hd (cs := #[.int .i64 v, .int .i64 r]) (t := 57) ?hr ?_; (case hd => rfl); (case hg => rfl); (case hr => first | (go_simp; done) | (go_simp; rfl)); intro b2 hb2 w1 kb2 bb2; replace hb2 := Aside0.mk hb2; replace kb2 := Aside0.mk kb2; replace bb2 := Aside0.mk bb2); have c0 := (cell_row kb2.out 0).trans (rfl : _ = some (Value.int .i64 v)); have c1 := (cell_row kb2.out 1).trans (rfl : _ = some (Value.int .i64 r)))
      first
      | (go_region_with (go_at_call 94; (with_reducible refine (k.out _).mono ?_); rintro e w' ⟨rfl, rfl⟩))
      | fail
      all_goals go_wp2_with fail
      all_goals go_ret
      all_goals exact ⟨rfl, bb2.out.drew⟩
  · skip
    have e0 : (decide (0 ≤ v) && decide (v ≤ 2305843009213693952) && decide (0 ≤ r) && decide (r < wt)) = false := by simp [h1]
    rw [e0]
    go_enter Tryz.func71, Tryz.ntmps71
    go_wp2_with (((with_reducible refine gate_dst (N := 2) rfl ?_); refine box_event ?hg (N := 2) ?hd (cs := #[.int .i64 v, .int .i64 r]) (t := 57) ?hr ?_; (case hd => rfl); (case hg => rfl); (case hr => first | (go_simp; done) | (go_simp; rfl)); intro b2 hb2 w1 kb2 bb2; replace hb2 := Aside0.mk hb2; replace kb2 := Aside0.mk kb2; replace bb2 := Aside0.mk bb2); have c0 := (cell_row kb2.out 0).trans (rfl : _ = some (Value.int .i64 v)); have c1 := (cell_row kb2.out 1).trans (rfl : _ = some (Value.int .i64 r)))
    first
    | (go_region_with (go_at_call 94; (with_reducible refine (k.out _).mono ?_); rintro e w' ⟨rfl, rfl⟩))
    | fail
    all_goals go_wp2_with fail
    all_goals go_ret
    all_goals exact ⟨rfl, bb2.out.drew⟩
set_option maxHeartbeats 2000000 in
set_option maxRecDepth 100000 in
theorem oddG_c (a b c p q u : Int) (w : World) : Calls Tryz.prog 40 #[.agg #[.int .i64 a, .int .i64 b, .int .i64 c, .int .i64 p, .int .i64 q, .int .i64 u]] w (BelowPost (.bool (!within1 a 1048576 || !within1 c 1048576 || !bandR p q u)) w) := by
  have k1 := fun W => within_c a 1048576 W
  have k2 := fun W => within_c c 1048576 W
  have k3 := fun W => band_c p q u W
  generalize within1 a 1048576 = b1 at k1 ⊢
  generalize within1 c 1048576 = b2 at k2 ⊢
  generalize bandR p q u = b3 at k3 ⊢
  replace k1 := Aside0.mk k1
  replace k2 := Aside0.mk k2
  replace k3 := Aside0.mk k3
  cases b1
  · go_enter Tryz.func40, Tryz.ntmps40
    go_wp2_with (first | (((with_reducible refine gate_dst (N := 1) rfl ?_); refine box_event ?hg (N := 1) ?hd (cs := #[.int .i64 a, .int .i64 b, .int .i64 c, .int .i64 p, .int .i64 q, .int .i64 u]) (t := 50) ?hr ?_; (case hd => rfl); (case hg => rfl); (case hr => first | (go_simp; done) | (go_simp; rfl)); intro gb hgb w1 kgb bgb; replace hgb := Aside0.mk hgb; replace kgb := Aside0.mk kgb; replace bgb := Aside0.mk bgb); have c0 := (cell_row kgb.out 0).trans (rfl : _ = some (Value.int .i64 a)); have c2 := (cell_row kgb.out 2).trans (rfl : _ = some (Value.int .i64 c)); have c3 := (cell_row kgb.out 3).trans (rfl : _ = some (Value.int .i64 p)); have c4 := (cell_row kgb.out 4).trans (rfl : _ = some (Value.int .i64 q)); have c5 := (cell_row kgb.out 5).trans (rfl : _ = some (Value.int .i64 u))) | (go_at_call 68; (with_reducible refine (k1.out _).mono ?_); rintro e w' ⟨rfl, rfl⟩))
    go_ret
    exact ⟨rfl, bgb.out⟩
  · cases b2
    · go_enter Tryz.func40, Tryz.ntmps40
      go_wp2_with (first | (((with_reducible refine gate_dst (N := 1) rfl ?_); refine box_event ?hg (N := 1) ?hd (cs := #[.int .i64 a, .int .i64 b, .int .i64 c, .int .i64 p, .int .i64 q, .int .i64 u]) (t := 50) ?hr ?_; (case hd => rfl); (case hg => rfl); (case hr => first | (go_simp; done) | (go_simp; rfl)); intro gb hgb w1 kgb bgb; replace hgb := Aside0.mk hgb; replace kgb := Aside0.mk kgb; replace bgb := Aside0.mk bgb); have c0 := (cell_row kgb.out 0).trans (rfl : _ = some (Value.int .i64 a)); have c2 := (cell_row kgb.out 2).trans (rfl : _ = some (Value.int .i64 c)); have c3 := (cell_row kgb.out 3).trans (rfl : _ = some (Value.int .i64 p)); have c4 := (cell_row kgb.out 4).trans (rfl : _ = some (Value.int .i64 q)); have c5 := (cell_row kgb.out 5).trans (rfl : _ = some (Value.int .i64 u))) | (go_at_call 68; (with_reducible refine (k1.out _).mono ?_); rintro e w' ⟨rfl, rfl⟩) | (go_at_call 68; (with_reducible refine (k2.out _).mono ?_); rintro e w' ⟨rfl, rfl⟩))
      go_ret
      exact ⟨rfl, bgb.out⟩
    · go_enter Tryz.func40, Tryz.ntmps40
      go_wp2_with (first | (((with_reducible refine gate_dst (N := 1) rfl ?_); refine box_event ?hg (N := 1) ?hd (cs := #[.int .i64 a, .int .i64 b, .int .i64 c, .int .i64 p, .int .i64 q, .int .i64 u]) (t := 50) ?hr ?_; (case hd => rfl); (case hg => rfl); (case hr => first | (go_simp; done) | (go_simp; rfl)); intro gb hgb w1 kgb bgb; replace hgb := Aside0.mk hgb; replace kgb := Aside0.mk kgb; replace bgb := Aside0.mk bgb); have c0 := (cell_row kgb.out 0).trans (rfl : _ = some (Value.int .i64 a)); have c2 := (cell_row kgb.out 2).trans (rfl : _ = some (Value.int .i64 c)); have c3 := (cell_row kgb.out 3).trans (rfl : _ = some (Value.int .i64 p)); have c4 := (cell_row kgb.out 4).trans (rfl : _ = some (Value.int .i64 q)); have c5 := (cell_row kgb.out 5).trans (rfl : _ = some (Value.int .i64 u))) | (go_at_call 68; (with_reducible refine (k1.out _).mono ?_); rintro e w' ⟨rfl, rfl⟩) | (go_at_call 68; (with_reducible refine (k2.out _).mono ?_); rintro e w' ⟨rfl, rfl⟩) | (go_at_call 69; (with_reducible refine (k3.out _).mono ?_); rintro e w2 ⟨rfl, hb2⟩; replace hb2 := Aside0.mk hb2))
      go_ret
      exact ⟨by simp, bgb.out.trans (hb2.out.mono bgb.out.size)⟩
set_option maxHeartbeats 4000000 in
set_option maxRecDepth 100000 in
theorem oddT_c (a b c x : Int) (s : Bool) (r v m : Int) (w : World) : Calls Tryz.prog 42 #[.agg #[.int .i64 a, .int .i64 b, .int .i64 c, .int .u64 x, .bool s, .int .i64 r, .int .i64 v, .int .i64 m]] w (BelowPost (.bool (!within1 a 1048576 || !within1 c 1048576 || decide (x = 0) || decide (r < 0) || decide (1099511627776 < r) || !paceRight v m c)) w) := by
  have k1 := fun W => within_c a 1048576 W
  have k2 := fun W => within_c c 1048576 W
  have k3 := fun W => pace_c v m c W
  generalize within1 a 1048576 = b1 at k1 ⊢
  generalize within1 c 1048576 = b2 at k2 ⊢
  generalize paceRight v m c = b3 at k3 ⊢
  replace k1 := Aside0.mk k1
  replace k2 := Aside0.mk k2
  replace k3 := Aside0.mk k3
  have fin : ∀ (z : Bool) (W : World), z = (!b1 || !b2 || decide (x = 0) || decide (r < 0) || decide (1099511627776 < r) || !b3) → Below w.heap.size w W → BelowPost (.bool (!b1 || !b2 || decide (x = 0) || decide (r < 0) || decide (1099511627776 < r) || !b3)) w (.returned (.bool z)) W := fun z W h hb => ⟨by rw [h], hb⟩
  replace fin := Aside0.mk fin
  cases b1
  · skip
    go_enter Tryz.func42, Tryz.ntmps42
    go_wp2_with (first | (((with_reducible refine gate_dst (N := 1) rfl ?_); refine box_event ?hg (N := 1) ?hd (cs := #[.int .i64 a, .int .i64 b, .int .i64 c, .int .u64 x, .bool s, .int .i64 r, .int .i64 v, .int .i64 m]) (t := 59) ?hr ?_; (case hd => rfl); (case hg => rfl); (case hr => first | (go_simp; done) | (go_simp; rfl)); intro gb hgb w1 kgb bgb; replace hgb := Aside0.mk hgb; replace kgb := Aside0.mk kgb; replace bgb := Aside0.mk bgb); have c0 := (cell_row kgb.out 0).trans (rfl : _ = some (Value.int .i64 a)); have c2 := (cell_row kgb.out 2).trans (rfl : _ = some (Value.int .i64 c)); have c3 := (cell_row kgb.out 3).trans (rfl : _ = some (Value.int .u64 x)); have c5 := (cell_row kgb.out 5).trans (rfl : _ = some (Value.int .i64 r)); have c6 := (cell_row kgb.out 6).trans (rfl : _ = some (Value.int .i64 v)); have c7 := (cell_row kgb.out 7).trans (rfl : _ = some (Value.int .i64 m))) | (go_at_call 68; (with_reducible refine (k1.out _).mono ?_); rintro e w' ⟨rfl, rfl⟩) | (go_at_call 68; (with_reducible refine (k2.out _).mono ?_); rintro e w' ⟨rfl, rfl⟩) | (go_at_call 71; (with_reducible refine (k3.out _).mono ?_); rintro e w2 ⟨rfl, hb2⟩; replace hb2 := Aside0.mk hb2))
    go_ret
    exact fin.out _ _ (by simp) bgb.out
  · cases b2
    · skip
      go_enter Tryz.func42, Tryz.ntmps42
      go_wp2_with (first | (((with_reducible refine gate_dst (N := 1) rfl ?_); refine box_event ?hg (N := 1) ?hd (cs := #[.int .i64 a, .int .i64 b, .int .i64 c, .int .u64 x, .bool s, .int .i64 r, .int .i64 v, .int .i64 m]) (t := 59) ?hr ?_; (case hd => rfl); (case hg => rfl); (case hr => first | (go_simp; done) | (go_simp; rfl)); intro gb hgb w1 kgb bgb; replace hgb := Aside0.mk hgb; replace kgb := Aside0.mk kgb; replace bgb := Aside0.mk bgb); have c0 := (cell_row kgb.out 0).trans (rfl : _ = some (Value.int .i64 a)); have c2 := (cell_row kgb.out 2).trans (rfl : _ = some (Value.int .i64 c)); have c3 := (cell_row kgb.out 3).trans (rfl : _ = some (Value.int .u64 x)); have c5 := (cell_row kgb.out 5).trans (rfl : _ = some (Value.int .i64 r)); have c6 := (cell_row kgb.out 6).trans (rfl : _ = some (Value.int .i64 v)); have c7 := (cell_row kgb.out 7).trans (rfl : _ = some (Value.int .i64 m))) | (go_at_call 68; (with_reducible refine (k1.out _).mono ?_); rintro e w' ⟨rfl, rfl⟩) | (go_at_call 68; (with_reducible refine (k2.out _).mono ?_); rintro e w' ⟨rfl, rfl⟩) | (go_at_call 71; (with_reducible refine (k3.out _).mono ?_); rintro e w2 ⟨rfl, hb2⟩; replace hb2 := Aside0.mk hb2))
      go_ret
      exact fin.out _ _ (by simp) bgb.out
    · by_cases h1 : x = 0
      · have h1' : (x == 0) = true := by simpa using h1
        go_enter Tryz.func42, Tryz.ntmps42
        go_wp2_with (first | (((with_reducible refine gate_dst (N := 1) rfl ?_); refine box_event ?hg (N := 1) ?hd (cs := #[.int .i64 a, .int .i64 b, .int .i64 c, .int .u64 x, .bool s, .int .i64 r, .int .i64 v, .int .i64 m]) (t := 59) ?hr ?_; (case hd => rfl); (case hg => rfl); (case hr => first | (go_simp; done) | (go_simp; rfl)); intro gb hgb w1 kgb bgb; replace hgb := Aside0.mk hgb; replace kgb := Aside0.mk kgb; replace bgb := Aside0.mk bgb); have c0 := (cell_row kgb.out 0).trans (rfl : _ = some (Value.int .i64 a)); have c2 := (cell_row kgb.out 2).trans (rfl : _ = some (Value.int .i64 c)); have c3 := (cell_row kgb.out 3).trans (rfl : _ = some (Value.int .u64 x)); have c5 := (cell_row kgb.out 5).trans (rfl : _ = some (Value.int .i64 r)); have c6 := (cell_row kgb.out 6).trans (rfl : _ = some (Value.int .i64 v)); have c7 := (cell_row kgb.out 7).trans (rfl : _ = some (Value.int .i64 m))) | (go_at_call 68; (with_reducible refine (k1.out _).mono ?_); rintro e w' ⟨rfl, rfl⟩) | (go_at_call 68; (with_reducible refine (k2.out _).mono ?_); rintro e w' ⟨rfl, rfl⟩) | (go_at_call 71; (with_reducible refine (k3.out _).mono ?_); rintro e w2 ⟨rfl, hb2⟩; replace hb2 := Aside0.mk hb2))
        go_ret
        exact fin.out _ _ (by simp [h1]) bgb.out
      · have h1' : (x == 0) = false := by simpa using h1
        by_cases h2 : r < 0
        · skip
          go_enter Tryz.func42, Tryz.ntmps42
          go_wp2_with (first | (((with_reducible refine gate_dst (N := 1) rfl ?_); refine box_event ?hg (N := 1) ?hd (cs := #[.int .i64 a, .int .i64 b, .int .i64 c, .int .u64 x, .bool s, .int .i64 r, .int .i64 v, .int .i64 m]) (t := 59) ?hr ?_; (case hd => rfl); (case hg => rfl); (case hr => first | (go_simp; done) | (go_simp; rfl)); intro gb hgb w1 kgb bgb; replace hgb := Aside0.mk hgb; replace kgb := Aside0.mk kgb; replace bgb := Aside0.mk bgb); have c0 := (cell_row kgb.out 0).trans (rfl : _ = some (Value.int .i64 a)); have c2 := (cell_row kgb.out 2).trans (rfl : _ = some (Value.int .i64 c)); have c3 := (cell_row kgb.out 3).trans (rfl : _ = some (Value.int .u64 x)); have c5 := (cell_row kgb.out 5).trans (rfl : _ = some (Value.int .i64 r)); have c6 := (cell_row kgb.out 6).trans (rfl : _ = some (Value.int .i64 v)); have c7 := (cell_row kgb.out 7).trans (rfl : _ = some (Value.int .i64 m))) | (go_at_call 68; (with_reducible refine (k1.out _).mono ?_); rintro e w' ⟨rfl, rfl⟩) | (go_at_call 68; (with_reducible refine (k2.out _).mono ?_); rintro e w' ⟨rfl, rfl⟩) | (go_at_call 71; (with_reducible refine (k3.out _).mono ?_); rintro e w2 ⟨rfl, hb2⟩; replace hb2 := Aside0.mk hb2))
          go_ret
          exact fin.out _ _ (by simp [h1, h2]) bgb.out
        · by_cases h3 : 1099511627776 < r
          · skip
            go_enter Tryz.func42, Tryz.ntmps42
            go_wp2_with (first | (((with_reducible refine gate_dst (N := 1) rfl ?_); refine box_event ?hg (N := 1) ?hd (cs := #[.int .i64 a, .int .i64 b, .int .i64 c, .int .u64 x, .bool s, .int .i64 r, .int .i64 v, .int .i64 m]) (t := 59) ?hr ?_; (case hd => rfl); (case hg => rfl); (case hr => first | (go_simp; done) | (go_simp; rfl)); intro gb hgb w1 kgb bgb; replace hgb := Aside0.mk hgb; replace kgb := Aside0.mk kgb; replace bgb := Aside0.mk bgb); have c0 := (cell_row kgb.out 0).trans (rfl : _ = some (Value.int .i64 a)); have c2 := (cell_row kgb.out 2).trans (rfl : _ = some (Value.int .i64 c)); have c3 := (cell_row kgb.out 3).trans (rfl : _ = some (Value.int .u64 x)); have c5 := (cell_row kgb.out 5).trans (rfl : _ = some (Value.int .i64 r)); have c6 := (cell_row kgb.out 6).trans (rfl : _ = some (Value.int .i64 v)); have c7 := (cell_row kgb.out 7).trans (rfl : _ = some (Value.int .i64 m))) | (go_at_call 68; (with_reducible refine (k1.out _).mono ?_); rintro e w' ⟨rfl, rfl⟩) | (go_at_call 68; (with_reducible refine (k2.out _).mono ?_); rintro e w' ⟨rfl, rfl⟩) | (go_at_call 71; (with_reducible refine (k3.out _).mono ?_); rintro e w2 ⟨rfl, hb2⟩; replace hb2 := Aside0.mk hb2))
            go_ret
            exact fin.out _ _ (by simp [h1, h2, h3]) bgb.out
          · skip
            go_enter Tryz.func42, Tryz.ntmps42
            go_wp2_with (first | (((with_reducible refine gate_dst (N := 1) rfl ?_); refine box_event ?hg (N := 1) ?hd (cs := #[.int .i64 a, .int .i64 b, .int .i64 c, .int .u64 x, .bool s, .int .i64 r, .int .i64 v, .int .i64 m]) (t := 59) ?hr ?_; (case hd => rfl); (case hg => rfl); (case hr => first | (go_simp; done) | (go_simp; rfl)); intro gb hgb w1 kgb bgb; replace hgb := Aside0.mk hgb; replace kgb := Aside0.mk kgb; replace bgb := Aside0.mk bgb); have c0 := (cell_row kgb.out 0).trans (rfl : _ = some (Value.int .i64 a)); have c2 := (cell_row kgb.out 2).trans (rfl : _ = some (Value.int .i64 c)); have c3 := (cell_row kgb.out 3).trans (rfl : _ = some (Value.int .u64 x)); have c5 := (cell_row kgb.out 5).trans (rfl : _ = some (Value.int .i64 r)); have c6 := (cell_row kgb.out 6).trans (rfl : _ = some (Value.int .i64 v)); have c7 := (cell_row kgb.out 7).trans (rfl : _ = some (Value.int .i64 m))) | (go_at_call 68; (with_reducible refine (k1.out _).mono ?_); rintro e w' ⟨rfl, rfl⟩) | (go_at_call 68; (with_reducible refine (k2.out _).mono ?_); rintro e w' ⟨rfl, rfl⟩) | (go_at_call 71; (with_reducible refine (k3.out _).mono ?_); rintro e w2 ⟨rfl, hb2⟩; replace hb2 := Aside0.mk hb2))
            go_ret
            exact fin.out _ _ (by simp [h1, h2, h3]) (bgb.out.trans (hb2.out.mono bgb.out.size))
end Go.Proofs.YtpnjhffnlafabaaGreatDoor.Sn
