/- The example of law 13; few. A scene as a law's argument. A scene that is built in a block of its own: its two rows grow. -/
import Derived.Test.YtpnjhffnlafabaaSc5
import Derived.WideShapes
namespace Go.Proofs.Ytpnjhffnlafabaa.Sn
set_option linter.unusedVariables false
set_option linter.unusedSimpArgs false
open Go.RowKit Go.Sort Go.Shelf Go.Lib Go.Proofs.Bk Go.Proofs.Bm Go.Proofs.Op Go.Proofs.Sc Go.Proofs.Kf Go.Proofs.YtpnjhffnlafabaaW.PrintWords Go.Proofs.Ytpnjhffnlafabaa.PSceneOrders Go.Proofs.Ytpnjhffnlafabaa.St

def OkPost (w : World) (e : Ending) (w' : World) : Prop := e = .returned (.bool true) ∧ Below w.heap.size w w'
def sg (a b : Int) : SG := ⟨a, b, 1, ⟨0, 0, 0⟩⟩
def xs0 : List SG := [sg 7 0, sg 9 7, sg 8 7]
def xs1 : List SG := [sg 7 0, sg 8 7, sg 9 7]
theorem xs0_whole : wholeOf (xs0.map gOf) = true := by decide
theorem xs0_under : underOf (xs0.map gOf) = xs1.map gOf := by simp [xs0, xs1, sg, gOf, underOf, walk, kidsS, kidsOf, List.mergeSort]
theorem xs1_under : underOf (xs1.map gOf) = xs1.map gOf := by simp [xs0, xs1, sg, gOf, underOf, walk, kidsS, kidsOf, List.mergeSort]
theorem xs0_tree : Tree (xs0.map gOf) := tree_of (by decide) (by decide) xs0_whole
theorem xs0_check : checkOf (xs0.map gOf) [] = 5 := by
  unfold checkOf orderOf
  rw [xs0_whole, if_pos rfl, xs0_under, if_neg (by decide), if_neg (by decide), if_neg (by decide), if_neg (by decide), if_pos (.inr (fun e => by
    have := congrArg Prod.fst e
    revert this
    show ¬ xs1.map gOf = xs0.map gOf
    decide))]
theorem xs1_check : checkOf (xs1.map gOf) [] = 0 := by
  unfold checkOf orderOf
  rw [show wholeOf (xs1.map gOf) = true by decide, if_pos rfl, xs1_under, if_neg (by decide), if_neg (by decide), if_neg (by decide), if_neg (by decide), if_neg (by simp [sortT]), if_neg (by decide)]
theorem xs1_tall : tallOf (xs1.map gOf) = 1 := by decide
theorem xs0_ok : ∀ x ∈ xs0, okG x := by
  intro x hx
  simp [xs0] at hx
  rcases hx with rfl | rfl | rfl <;> exact ⟨by decide, by decide, by decide, by decide, by decide, by decide⟩
theorem xs1_ok : ∀ x ∈ xs1, okG x := by
  intro x hx
  simp [xs1] at hx
  rcases hx with rfl | rfl | rfl <;> exact ⟨by decide, by decide, by decide, by decide, by decide, by decide⟩
def cs0 : Array Value := #[.int .i64 7, .int .i64 0, .int .i64 1, .int .i64 0, .int .i64 0, .int .i64 0, .int .i64 9, .int .i64 7, .int .i64 1, .int .i64 0, .int .i64 0, .int .i64 0, .int .i64 8, .int .i64 7, .int .i64 1, .int .i64 0, .int .i64 0, .int .i64 0]
def awW (w : World) : World := (w.alloc (.cells #[.int .i64 7, .int .i64 0, .int .i64 1, .int .i64 0, .int .i64 0, .int .i64 0, .int .i64 9, .int .i64 7, .int .i64 1, .int .i64 0, .int .i64 0, .int .i64 0, .int .i64 8, .int .i64 7, .int .i64 1, .int .i64 0, .int .i64 0, .int .i64 0] 41)).alloc (.cells #[.slice (some ⟨w.heap.size, 0, none⟩) 3 3, .slice none 0 0] 25)
theorem kG_row {w : World} {g : Nat} {cs : Array Value} {t : TypeId} {fr : Nat × Nat} {xs : List SG} (h : w.heap[g]? = some (.cells cs t fr)) (hn : xs.length ≤ 9223372036854775807) (hc : ∀ j x, xs[j]? = some x → ∀ i v, (gC x)[i]? = some v → cs[j * 6 + i]? = some v) : kG.C w (some ⟨g, 0, none⟩) xs.length xs := by
  refine ⟨rfl, hn, fun _ => ⟨_, rfl, fun j p hp => ⟨gC p, rfl, k41_mk w p, fun i u hu => ?_⟩⟩⟩
  rw [add_at, Nat.zero_add]
  exact (cell_row h _).trans (hc j p hp i u hu)
theorem awW_facts (w : World) : kG.C (awW w) (some ⟨w.heap.size, 0, none⟩) 3 xs0 ∧ Below w.heap.size w (awW w) ∧ (awW w).cell? ⟨w.heap.size + 1, 0, none⟩ = some (.slice (some ⟨w.heap.size, 0, none⟩) 3 3) ∧ (awW w).cell? ⟨w.heap.size + 1, 1, none⟩ = some (.slice none 0 0) := by
  have b1 := below_alloc (Below.refl w.heap.size w) (.cells cs0 41)
  have b2 := below_alloc (Below.refl (w.alloc (.cells cs0 41)).heap.size _) (.cells #[.slice (some ⟨w.heap.size, 0, none⟩) 3 3, .slice none 0 0] 25)
  have h1 := heap_alloc_same w (.cells cs0 41)
  have h2 := heap_alloc_same (w.alloc (.cells cs0 41)) (.cells #[.slice (some ⟨w.heap.size, 0, none⟩) 3 3, .slice none 0 0] 25)
  have hs : (w.alloc (.cells cs0 41)).heap.size = w.heap.size + 1 := by simp
  rw [hs] at h2
  refine ⟨kG_row (xs := xs0) (row_below b2 h1) (by decide) ?_, b1.trans (b2.mono b1.size), ?_, ?_⟩
  · intro j x hx i v hv
    match j, hx with
    | 0, hx => cases hx; match i, hv with
      | 0, hv | 1, hv | 2, hv | 3, hv | 4, hv | 5, hv => cases hv; rfl
    | 1, hx => cases hx; match i, hv with
      | 0, hv | 1, hv | 2, hv | 3, hv | 4, hv | 5, hv => cases hv; rfl
    | 2, hx => cases hx; match i, hv with
      | 0, hv | 1, hv | 2, hv | 3, hv | 4, hv | 5, hv => cases hv; rfl
  · exact (cell_row h2 0).trans rfl
  · exact (cell_row h2 1).trans rfl
theorem one2 {A : Option Addr} {n c : Nat} {B : Option Addr} {m d : Nat} : ∀ v ∈ ([.slice A n c, .slice B m d] : List Value), v.oneCell' = true := by
  intro v hv; simp at hv; rcases hv with rfl | rfl <;> rfl
theorem kT_none (w : World) : kT.C w none 0 [] := ⟨rfl, by decide, fun h => absurd h (Nat.lt_irrefl _)⟩
set_option maxHeartbeats 8000000 in
set_option maxRecDepth 100000 in
theorem awake_calls (w : World) : Calls Try.prog 9 #[] w (OkPost w) := by
  obtain ⟨hG, hB, c0, c1⟩ := awW_facts w
  go_enter Try.func9, Try.ntmps9
  go_wp2_with fail
  change Calls _ _ _ (awW w) _
  generalize hg0 : w.heap.size = g0 at hG c0 c1 ⊢
  generalize awW w = W2 at hG hB c0 c1 ⊢
  replace hG := Aside0.mk hG; replace hB := Aside0.mk hB; replace hg0 := Aside0.mk hg0
  with_reducible refine (Order_calls (some ⟨g0, 0, none⟩) 3 3 xs0 none 0 0 [] W2 hG.out (Nat.le_refl _) (by omega) (kT_none _) (by omega) (fun ad h => by cases h) xs0_tree xs0_whole (by simp)).mono ?_
  rintro e w3 ⟨A3, d3, B3, f3, gs, ts, rfl, y1, y2, y3, y4, y5, y6, y7, hb3⟩
  obtain rfl : ts = [] := by
    have := congrArg List.length y6
    rw [List.length_map] at this
    exact List.length_eq_zero_iff.1 (by rw [this]; simp [sortT])
  obtain rfl : gs = xs1 := map_inj (fun _ _ => gOf_inj.1) (y5.trans xs0_under)
  change kG.C w3 A3 3 xs1 at y3
  change kT.C w3 B3 0 [] at y4
  change 3 ≤ d3 at y1
  clear y5 y6
  have hB3 := hB.out.trans (hb3.mono hB.out.size)
  have hG3 := Kd.C_below hG.out hb3
  replace c0 := pw_cell_below hb3 c0
  replace c1 := pw_cell_below hb3 c1
  replace hB3 := Aside0.mk hB3; replace hG3 := Aside0.mk hG3; replace y1 := Aside0.mk y1; replace y2 := Aside0.mk y2; replace y3 := Aside0.mk y3; replace y4 := Aside0.mk y4; replace y7 := Aside0.mk y7
  clear hb3 hB hG
  have hgl : g0 + 1 < w3.heap.size := World.block_lt_of_cell? w3 _ c0
  go_wp2_with (first
    | (((with_reducible refine gate_dst (N := 2) rfl ?_); refine box_event ?hg (N := 2) ?hd (cs := #[.slice none 0 0, .slice none 0 0]) (t := 25) ?hr ?_; (case hd => rfl); (case hg => rfl); (case hr => first | (go_simp; done) | (go_simp; rfl)); intro b2 hb2 w4 kb2 bb2; replace hb2 := Aside0.mk hb2; replace kb2 := Aside0.mk kb2; replace bb2 := Aside0.mk bb2))
    | ((with_reducible refine gate_op (.store 25 (.tmp 2) (.tmp 9)) rfl ?_); refine wpList_store_midB rfl _ _ _ rfl b2 0 [.slice A3 3 d3, .slice B3 0 f3] rfl rfl 25 [.slice none 0 0, .slice none 0 0] kb2.out info_S (Nat.le_refl _) one2 ?_; obtain ⟨kk, bb⟩ := boxed (cs := [.slice none 0 0, .slice none 0 0]) (cs2 := [.slice A3 3 d3, .slice B3 0 f3]) hb2.out kb2.out bb2.out rfl; revert kk bb; generalize World.setRow _ b2 (splice [.slice none 0 0, .slice none 0 0] 0 [.slice A3 3 d3, .slice B3 0 f3]).toArray = w5; clear kb2 bb2; intro kb2 bb2; replace kb2 := Aside0.mk kb2; replace bb2 := Aside0.mk bb2)
    | ((with_reducible refine gate_op (.load 25 (.tmp 1)) rfl ?_); refine wpList_load_midB rfl _ _ rfl ⟨g0 + 1, 0, none⟩ rfl [.slice (some ⟨g0, 0, none⟩) 3 3, .slice none 0 0] _ (two_cells (pw_cell_below bb2.out c0) (pw_cell_below bb2.out c1)) Try.underlying25 rfl info_S ?_))
  have hB5 := hB3.out.trans (bb2.out.mono hB3.out.size)
  replace hG3 := Kd.C_below hG3.out bb2.out
  replace y3 := Kd.C_below y3.out bb2.out
  replace y4 := Kd.C_below y4.out bb2.out
  obtain ⟨b3, o3, ea3, hb3l, hc3⟩ := G_at y3 (by omega)
  subst ea3
  have d0 := (Kf.cell_row kb2.out 0).trans (rfl : _ = some (Value.slice (some ⟨b3, o3, none⟩) 3 d3))
  have d1 := (Kf.cell_row kb2.out 1).trans (rfl : _ = some (Value.slice B3 0 f3))
  have e8 : w5.cell? ⟨b3, o3 + 1 * 6 + 0, none⟩ = some (.int .i64 8) := hc3 1 (by decide) 0 _ rfl
  clear bb2 kb2 c0 c1 hc3
  with_reducible refine (Check_calls (some ⟨g0, 0, none⟩) 3 3 xs0 none 0 0 [] w5 hG3 (Nat.le_refl _) (kT_none _) (Nat.le_refl _) (fun ad h => by cases h) xs0_ok).mono ?_
  rintro e w6 ⟨rfl, hb6⟩
  rw [show checkOf (xs0.map gOf) (([] : List ST).map tOf) = 5 from xs0_check]
  replace hB5 := hB5.trans (hb6.mono hB5.size)
  replace y3 := Kd.C_below y3 hb6
  replace y4 := Kd.C_below y4 hb6
  replace d0 := pw_cell_below hb6 d0
  replace d1 := pw_cell_below hb6 d1
  replace e8 := pw_cell_below hb6 e8
  clear hb6 hG3
  replace hB5 := Aside0.mk hB5; replace y3 := Aside0.mk y3; replace y4 := Aside0.mk y4
  go_wp2_with (first
    | ((with_reducible refine gate_op (.load 25 (.tmp 2)) rfl ?_); refine wpList_load_midB rfl _ _ rfl ⟨b2, 0, none⟩ rfl [.slice (some ⟨b3, o3, none⟩) 3 d3, .slice B3 0 f3] _ (two_cells d0 d1) Try.underlying25 rfl info_S ?_))
  with_reducible refine (Check_calls (some ⟨b3, o3, none⟩) 3 d3 xs1 B3 0 f3 [] w6 y3.out y1.out y4.out (Nat.zero_le _) y7.out xs1_ok).mono ?_
  rintro e w7 ⟨rfl, hb7⟩
  rw [show checkOf (xs1.map gOf) (([] : List ST).map tOf) = 0 from xs1_check]
  have hB7 := hB5.out.trans (hb7.mono hB5.out.size)
  replace y3 := Kd.C_below y3.out hb7
  replace d0 := pw_cell_below hb7 d0
  replace d1 := pw_cell_below hb7 d1
  replace hB7 := Aside0.mk hB7; replace y3 := Aside0.mk y3
  clear hb7
  go_wp2_with (first
    | ((with_reducible refine gate_op (.load 25 (.tmp 2)) rfl ?_); refine wpList_load_midB rfl _ _ rfl ⟨b2, 0, none⟩ rfl [.slice (some ⟨b3, o3, none⟩) 3 d3, .slice B3 0 f3] _ (two_cells d0 d1) Try.underlying25 rfl info_S ?_))
  with_reducible refine (Tall_calls (some ⟨b3, o3, none⟩) 3 d3 xs1 B3 0 f3 w7 y3.out (by omega)).mono ?_
  rintro e w8 ⟨rfl, hb8⟩
  rw [show tallOf (xs1.map gOf) = 1 from xs1_tall]
  go_wp2_with fail
  go_ret
  exact ⟨rfl, hB7.out.trans (hb8.mono hB7.out.size)⟩

theorem few_calls (A : Option Addr) (n c : Nat) (xs : List SG) (B : Option Addr) (m d : Nat) (ts : List ST) (w : World) (hG : kG.C w A n xs) (hc : n ≤ c) (hT : kT.C w B m ts) (hd : m ≤ d) :
    Calls Try.prog 10 #[.agg #[.slice A n c, .slice B m d]] w (AnyPost (decide (n ≤ 30 ∧ m ≤ 30)) w) := by
  clear hG hT hc hd
  by_cases h1 : n ≤ 30
  · by_cases h2 : m ≤ 30
    · have e0 := Aside0.mk (decide_eq_true (⟨h1, h2⟩ : n ≤ 30 ∧ m ≤ 30))
      have i1 : (n : Int) ≤ 30 := by omega
      have i2 : (m : Int) ≤ 30 := by omega
      rw [e0.out]
      go_enter Try.func10, Try.ntmps10
      go_wp2_with (((with_reducible refine gate_dst (N := 1) rfl ?_); refine box_event ?hg (N := 1) ?hd (cs := #[.slice A n c, .slice B m d]) (t := 25) ?hr ?_; (case hd => rfl); (case hg => rfl); (case hr => first | (go_simp; done) | (go_simp; rfl)); intro b1 hb1 w1 kb1 bb1; replace hb1 := Aside0.mk hb1; replace kb1 := Aside0.mk kb1; replace bb1 := Aside0.mk bb1); have c0 := (cell_row kb1.out 0).trans (rfl : _ = some (Value.slice A n c)); have c1 := (cell_row kb1.out 1).trans (rfl : _ = some (Value.slice B m d)))
      go_ret
      exact ⟨rfl, bb1.out⟩
    · have e0 := Aside0.mk (decide_eq_false (show ¬ (n ≤ 30 ∧ m ≤ 30) from fun h => h2 h.2))
      have i1 : (n : Int) ≤ 30 := by omega
      have i2 : ¬ (m : Int) ≤ 30 := by omega
      rw [e0.out]
      go_enter Try.func10, Try.ntmps10
      go_wp2_with (((with_reducible refine gate_dst (N := 1) rfl ?_); refine box_event ?hg (N := 1) ?hd (cs := #[.slice A n c, .slice B m d]) (t := 25) ?hr ?_; (case hd => rfl); (case hg => rfl); (case hr => first | (go_simp; done) | (go_simp; rfl)); intro b1 hb1 w1 kb1 bb1; replace hb1 := Aside0.mk hb1; replace kb1 := Aside0.mk kb1; replace bb1 := Aside0.mk bb1); have c0 := (cell_row kb1.out 0).trans (rfl : _ = some (Value.slice A n c)); have c1 := (cell_row kb1.out 1).trans (rfl : _ = some (Value.slice B m d)))
      go_ret
      exact ⟨rfl, bb1.out⟩
  · have e0 := Aside0.mk (decide_eq_false (show ¬ (n ≤ 30 ∧ m ≤ 30) from fun h => h1 h.1))
    have i1 : ¬ (n : Int) ≤ 30 := by omega
    rw [e0.out]
    go_enter Try.func10, Try.ntmps10
    go_wp2_with (((with_reducible refine gate_dst (N := 1) rfl ?_); refine box_event ?hg (N := 1) ?hd (cs := #[.slice A n c, .slice B m d]) (t := 25) ?hr ?_; (case hd => rfl); (case hg => rfl); (case hr => first | (go_simp; done) | (go_simp; rfl)); intro b1 hb1 w1 kb1 bb1; replace hb1 := Aside0.mk hb1; replace kb1 := Aside0.mk kb1; replace bb1 := Aside0.mk bb1); have c0 := (cell_row kb1.out 0).trans (rfl : _ = some (Value.slice A n c)); have c1 := (cell_row kb1.out 1).trans (rfl : _ = some (Value.slice B m d)))
    go_ret
    exact ⟨rfl, bb1.out⟩
end Go.Proofs.Ytpnjhffnlafabaa.Sn
namespace Go.Proofs.Ytpnjhffnlafabaa.Sn
set_option linter.unusedVariables false
set_option linter.unusedSimpArgs false
open Go.RowKit Go.Shelf Go.Proofs.Bk Go.Proofs.Bm Go.Proofs.Op Go.Proofs.Sc Go.Proofs.Kf Go.Proofs.YtpnjhffnlafabaaW.PrintWords Go.Proofs.Ytpnjhffnlafabaa.PSceneOrders

def ok39 (x : S39) : Prop := (Lit.int .i64 x.f0).wf = true ∧ (Lit.int .i64 x.f1).wf = true ∧ (Lit.int .i64 x.f2).wf = true
theorem opens_Band : Opens Try.prog 39 k39 ok39 :=
  Opens.struct (fun x : S39 => (x.f0, x.f1, x.f2)) (fun p => ⟨p.1, p.2.1, p.2.2⟩) (fun _ => rfl) Try.underlying39 (by kernel_rfl)
    (OpensF.cons rfl (by kernel_rfl) (Opens.int Try.underlying3) (OpensF.cons rfl (by kernel_rfl) (Opens.int Try.underlying3) (OpensF.one rfl (by kernel_rfl) (Opens.int Try.underlying3))))
theorem opens_G : Opens Try.prog 41 kG okG :=
  Opens.struct (fun x : SG => (x.f0, x.f1, x.f2, x.f3)) (fun p => ⟨p.1, p.2.1, p.2.2.1, p.2.2.2⟩) (fun _ => rfl) Try.underlying41 (by kernel_rfl)
    (OpensF.cons rfl (by kernel_rfl) (Opens.int Try.underlying3) (OpensF.cons rfl (by kernel_rfl) (Opens.int Try.underlying3) (OpensF.cons rfl (by kernel_rfl) (Opens.int Try.underlying3) (OpensF.one rfl (by kernel_rfl) opens_Band))))
def okT (x : ST) : Prop := (Lit.int .i64 x.f0).wf = true ∧ (Lit.int .i64 x.f1).wf = true ∧ (Lit.int .i64 x.f2).wf = true ∧ (Lit.int .u64 x.f3).wf = true ∧ True ∧ (Lit.int .i64 x.f5).wf = true ∧ (Lit.int .i64 x.f6.f0).wf = true ∧ (Lit.int .i64 x.f6.f1).wf = true
theorem opens_Lag : Opens Try.prog 44 k44 (fun x => (Lit.int .i64 x.f0).wf = true ∧ (Lit.int .i64 x.f1).wf = true) :=
  Opens.struct (fun x : S44 => (x.f0, x.f1)) (fun p => ⟨p.1, p.2⟩) (fun _ => rfl) Try.underlying44 (by kernel_rfl)
    (OpensF.cons rfl (by kernel_rfl) (Opens.int Try.underlying3) (OpensF.one rfl (by kernel_rfl) (Opens.int Try.underlying3)))
theorem opens_T : Opens Try.prog 46 kT okT :=
  Opens.struct (fun x : ST => (x.f0, x.f1, x.f2, x.f3, x.f4, x.f5, x.f6)) (fun p => ⟨p.1, p.2.1, p.2.2.1, p.2.2.2.1, p.2.2.2.2.1, p.2.2.2.2.2.1, p.2.2.2.2.2.2⟩) (fun _ => rfl) Try.underlying46 (by kernel_rfl)
    (OpensF.cons rfl (by kernel_rfl) (Opens.int Try.underlying3) (OpensF.cons rfl (by kernel_rfl) (Opens.int Try.underlying3) (OpensF.cons rfl (by kernel_rfl) (Opens.int Try.underlying3) (OpensF.cons rfl (by kernel_rfl) (Opens.int Try.underlying42) (OpensF.cons rfl (by kernel_rfl) (Opens.bool Try.underlying4) (OpensF.cons rfl (by kernel_rfl) (Opens.int Try.underlying3) (OpensF.one rfl (by kernel_rfl) opens_Lag)))))))
abbrev SS := List SG × List ST
def kS : Kd SS := Kd.iso (Kd.pair (Kd.slice 41 kG) (Kd.slice 46 kT)) (fun x : SS => x)
def okS (x : SS) : Prop := (∀ g ∈ x.1, okG g) ∧ (∀ t ∈ x.2, okT t)
theorem opens_S : Opens Try.prog 25 kS okS :=
  Opens.struct (fun x : SS => x) (fun p => p) (fun _ => rfl) Try.underlying25 (by kernel_rfl)
    (OpensF.cons rfl (by kernel_rfl) (Opens.slice Try.underlying22 (by kernel_rfl) opens_G) (OpensF.one rfl (by kernel_rfl) (Opens.slice Try.underlying23 (by kernel_rfl) opens_T)))
theorem kS_cells {w : World} {x : SS} {cs : List Value} (h : kS.K w x cs) : ∃ A c B d, cs = [.slice A x.1.length c, .slice B x.2.length d] ∧ x.1.length ≤ c ∧ kG.C w A x.1.length x.1 ∧ x.2.length ≤ d ∧ kT.C w B x.2.length x.2 := by
  obtain ⟨x0, y0, rfl, h0, h1⟩ := h
  obtain ⟨A, c, rfl, e0, hb⟩ := h0
  obtain ⟨B, d, rfl, e1, hk⟩ := h1
  exact ⟨A, c, B, d, rfl, e0, hb, e1, hk⟩
theorem row_struct {P : Program} {w : World} {r : Reach} {base : Nat} {t : TypeId} {v : Value} {fs : Array Field} (ht : P.underlying t = some (.struct fs)) (h : Value.okWide P w r base t v) : ∃ cs, v = .agg cs ∧ cs.size = P.cellsOf t ∧ Row.okWide P w r base t cs := by
  simp only [Value.okWide, ht] at h
  exact h
theorem types_S : Try.prog.cellTypes Try.prog.depth 25 = some [22, 23] := by kernel_rfl
theorem spot_cell {P : Program} {w : World} {r : Reach} {base : Nat} {t e : TypeId} {B : Option Addr} {m d : Nat} (ht : P.underlying t = some (.slice e)) (h : Cell.okWide P w r base t (.slice B m d)) : ∀ ad, B = some ad → ad.spot = none := by
  rintro ad rfl
  unfold Cell.okWide at h
  rw [ht] at h
  have h : Cell.ok P w r base t (.slice (some ad) m d) := h
  unfold Cell.ok at h
  rw [ht] at h
  exact h.2.2.2.1
set_option maxRecDepth 100000 in
theorem scene_spots {w : World} {r : Reach} {base : Nat} {A : Option Addr} {n c : Nat} {B : Option Addr} {m d : Nat} (h : Row.okWide Try.prog w r base 25 #[.slice A n c, .slice B m d]) : (∀ ad, A = some ad → ad.spot = none) ∧ (∀ ad, B = some ad → ad.spot = none) := by
  obtain ⟨ts, h1, _, h2⟩ := h
  rw [types_S] at h1
  have h1 : [22, 23] = ts := Option.some.inj h1
  rw [← h1] at h2
  obtain ⟨u0, e0, r0⟩ := h2 0 _ rfl
  obtain ⟨u1, e1, r1⟩ := h2 1 _ rfl
  have e0 : 22 = u0 := Option.some.inj e0
  have e1 : 23 = u1 := Option.some.inj e1
  rw [← e0] at r0
  rw [← e1] at r1
  exact ⟨spot_cell Try.underlying22 r0, spot_cell Try.underlying23 r1⟩
end Go.Proofs.Ytpnjhffnlafabaa.Sn
namespace Go.Proofs.Ytpnjhffnlafabaa.Sn
set_option linter.unusedVariables false
set_option linter.unusedSimpArgs false
open Go.RowKit Go.Sort Go.Shelf Go.Lib Go.Proofs.Bk Go.Proofs.Bm Go.Proofs.Op Go.Proofs.Sc Go.Proofs.Kf Go.Proofs.YtpnjhffnlafabaaW.PrintWords Go.Proofs.Ytpnjhffnlafabaa.PSceneOrders Go.Proofs.Ytpnjhffnlafabaa.St

section
variable {P : Program} {W : World} {ops : Array Oper} {rest : List Oper} {o : Oper} {a : Act} {Q : Exit → Act → World → Prop}
/-- a value of one cell is stored into a cell that is there -/
theorem storeCell_event (hgd : o.guard = none) (ty : TypeId) (x y : Operand) (ho : o.op = .store ty x y) (ad : Addr) (v u : Value) (hx : a.eval x = .pointer (some ad)) (hy : a.eval y = v)
    (hv : v.oneCell' = true) (hc : W.cell? ad = some u) (hf : W.frozen? ad = false) (hi : (P.info? ty).map (·.size) = some 1) (hcs : v.cells = #[v]) (had : ad.add 0 = ad)
    (h : wpList P ops Q rest (a.put o.dst undef) (W.setCell ad v)) : wpList P ops Q (o :: rest) a W := by
  have h1 : (storeVar ty ad v).run P W = .ok () (W.setCell ad v) := by
    cases hq : P.info? ty with
    | none => simp [hq] at hi
    | some i =>
      have hs : i.size = 1 := by simpa [hq] using hi
      have hst : (store ad v).run P W = .ok () (W.setCell ad v) := by rw [run_store P W _ v _ hv, hc]; simp [hf]
      simp [storeVar, sizeOf, typeInfo, hq, hcs, hs, storeCells, had, hst, Sem.run_bind]
  refine wpList_plain hgd fun _ hK => ?_
  unfold Oper.wp execOp
  simp only [ho, hx, hy, Instr.storeAt, Instr.sureAddr, Sem.run_bind, Sem.run_pure, Result.andThen_ok, h1]
  exact hK _ _ h
end

structure Bld (base : Nat) (w0 : World) (b : Nat) (A : Option Addr) (c : Nat) (gs : List SG) (B : Option Addr) (d : Nat) (ts : List ST) (w : World) : Prop where
  below : Below base w0 w
  lo : base ≤ b
  row : w.heap[b]? = some (.cells #[.slice A gs.length c, .slice B ts.length d] 25 (0, 0))
  rg : kG.R 41 w base (fun _ => True) (.slice A gs.length c) gs
  rt : kT.R 46 w base (fun _ => True) (.slice B ts.length d) ts
section
variable {base : Nat} {w0 w w1 : World} {b : Nat} {A : Option Addr} {c : Nat} {gs : List SG} {B : Option Addr} {d : Nat} {ts : List ST}
theorem Bld.size (h : Bld base w0 b A c gs B d ts w) : base ≤ w.heap.size := Nat.le_of_lt (Nat.lt_of_le_of_lt h.lo (lt_row h.row))
theorem Bld.start (hb : Below base w0 w) (hl : base ≤ b) (hr : w.heap[b]? = some (.cells #[.slice none 0 0, .slice none 0 0] 25 (0, 0))) : Bld base w0 b none 0 [] none 0 [] w :=
  ⟨hb, hl, hr, Kd.R_nil _ _ _ _ _, Kd.R_nil _ _ _ _ _⟩
theorem Bld.grow (h : Bld base w0 b A c gs B d ts w) (hb : Below w.heap.size w w1) : Bld base w0 b A c gs B d ts w1 :=
  ⟨h.below.trans (hb.mono h.size), h.lo, row_below hb h.row, Kd.R_below h.rg hb, Kd.R_below h.rt hb⟩
theorem Bld.drew (h : Bld base w0 b A c gs B d ts w) : Bld base w0 b A c gs B d ts w.drew := h.grow (Below.refl _ _).drew
theorem Bld.cellG (h : Bld base w0 b A c gs B d ts w) : w.cell? ⟨b, 0, none⟩ = some (.slice A gs.length c) := (cell_row h.row 0).trans rfl
theorem Bld.cellT (h : Bld base w0 b A c gs B d ts w) : w.cell? ⟨b, 1, none⟩ = some (.slice B ts.length d) := (cell_row h.row 1).trans rfl
/-- a row of another element type has been written -/
theorem R_type {α β : Type} {κ : Kd α} {κ' : Kd β} {e e' base base' : Nat} {ok ok' : Nat → Prop} {v v' : Value} {xs : List α} {ys : List β} {w w1 : World} (h : κ.R e w base ok v xs) (h' : κ'.R e' w base' ok' v' ys) (hg : w.grownBy w1 v'.ownBlock) (hE : κ.E = []) (hne : e ≠ e') :
    κ.R e w1 base ok v xs := by
  have h1 := Kd.R_bound h
  refine Kd.R_mono (Kd.R_move h1 (fun k hk => hg.block k hk.2.2.1 (fun e9 => ?_))) (fun k hk => hk.1)
  obtain ⟨q, hq, cells, hc⟩ := hk.2.2.2
  rw [hE] at hq
  simp at hq
  subst hq
  exact Kd.R_ne h' hc (Ne.symm hne) e9
/-- a cell of another block has been stored -/
theorem R_cell {α : Type} {κ : Kd α} {e base g t i : Nat} {ok : Nat → Prop} {v u : Value} {xs : List α} {cs : Array Value} {w : World} (h : κ.R e w base ok v xs) (hr : w.heap[g]? = some (.cells cs t (0, 0))) (hE : κ.E = []) (hne : e ≠ t) :
    κ.R e (w.setCell ⟨g, i, none⟩ u) base ok v xs := by
  have h1 := Kd.R_bound h
  refine Kd.R_mono (Kd.R_move h1 (fun k hk => Below.heap_setCell w _ u k (fun e9 => ?_))) (fun k hk => hk.1)
  obtain ⟨q, hq, cells, hc⟩ := hk.2.2.2
  rw [hE] at hq
  simp at hq
  subst hq
  have e9 : k = g := e9
  rw [e9, hr] at hc
  injection hc with hc
  injection hc with _ hc _
  exact hne hc.symm
theorem own_some {α : Type} {κ : Kd α} {e base : Nat} {ok : Nat → Prop} {v : Value} {xs : List α} {w : World} (h : κ.R e w base ok v xs) (k : Nat) (hk : v.ownBlock = some k) : base ≤ k := by
  rcases Kd.R_base2 h with h1 | ⟨j, h1, h2⟩
  · rw [h1] at hk; cases hk
  · rw [h1] at hk; injection hk with hk; omega
theorem Bld.pushG (h : Bld base w0 b A c gs B d ts w) {A1 : Option Addr} {c1 : Nat} {gs1 : List SG} (hR : kG.R 41 w1 base (fun _ => True) (.slice A1 gs1.length c1) gs1) (hb : Below base w0 w1) (hg : w.grownBy w1 (Value.slice A gs.length c).ownBlock) :
    Bld base w0 b A1 c1 gs1 B d ts (w1.setCell ⟨b, 0, none⟩ (.slice A1 gs1.length c1)) := by
  have hr : w1.heap[b]? = some (.cells #[.slice A gs.length c, .slice B ts.length d] 25 (0, 0)) := (hg.block b (lt_row h.row) (fun e => Kd.R_ne h.rg h.row (by decide) e)).trans h.row
  refine ⟨hb.trans ((KeepF.setCell w1 _ _).to_below (Nat.le_of_lt (Nat.lt_of_le_of_lt h.lo (lt_row hr))) (fun i hi => by rw [hi]; exact h.lo)), h.lo, ?_, R_cell hR hr rfl (by decide), R_cell (R_type h.rt h.rg hg rfl (by decide)) hr rfl (by decide)⟩
  rw [setCell_row hr]; rfl
theorem Bld.pushT (h : Bld base w0 b A c gs B d ts w) {B1 : Option Addr} {d1 : Nat} {ts1 : List ST} (hR : kT.R 46 w1 base (fun _ => True) (.slice B1 ts1.length d1) ts1) (hb : Below base w0 w1) (hg : w.grownBy w1 (Value.slice B ts.length d).ownBlock) :
    Bld base w0 b A c gs B1 d1 ts1 (w1.setCell ⟨b, 1, none⟩ (.slice B1 ts1.length d1)) := by
  have hr : w1.heap[b]? = some (.cells #[.slice A gs.length c, .slice B ts.length d] 25 (0, 0)) := (hg.block b (lt_row h.row) (fun e => Kd.R_ne h.rt h.row (by decide) e)).trans h.row
  refine ⟨hb.trans ((KeepF.setCell w1 _ _).to_below (Nat.le_of_lt (Nat.lt_of_le_of_lt h.lo (lt_row hr))) (fun i hi => by rw [hi]; exact h.lo)), h.lo, ?_, R_cell (R_type h.rg h.rt hg rfl (by decide)) hr rfl (by decide), R_cell hR hr rfl (by decide)⟩
  rw [setCell_row hr]; rfl
/-- another scene's block stays -/
theorem Bld.keepT (h : Bld base w0 b A c gs B d ts w) (hg : w.grownBy w1 (Value.slice B ts.length d).ownBlock) {k : Nat} {cs : Array Value} {v : Value} (hk : w.heap[k]? = some (.cells cs 25 (0, 0))) (hne : k ≠ b) : (w1.setCell ⟨b, 1, none⟩ v).heap[k]? = some (.cells cs 25 (0, 0)) :=
  (Below.heap_setCell w1 _ v k hne).trans ((hg.block k (lt_row hk) (fun e => Kd.R_ne h.rt hk (by decide) e)).trans hk)
theorem Bld.keepG (h : Bld base w0 b A c gs B d ts w) (hg : w.grownBy w1 (Value.slice A gs.length c).ownBlock) {k : Nat} {cs : Array Value} {v : Value} (hk : w.heap[k]? = some (.cells cs 25 (0, 0))) (hne : k ≠ b) : (w1.setCell ⟨b, 0, none⟩ v).heap[k]? = some (.cells cs 25 (0, 0)) :=
  (Below.heap_setCell w1 _ v k hne).trans ((hg.block k (lt_row hk) (fun e => Kd.R_ne h.rg hk (by decide) e)).trans hk)
theorem R_spot {α : Type} {κ : Kd α} {e base : Nat} {ok : Nat → Prop} {A : Option Addr} {n c : Nat} {xs : List α} {w : World} (h : κ.R e w base ok (.slice A n c) xs) : ∀ ad, A = some ad → ad.spot = none := by
  intro ad e1
  obtain ⟨inner, hlen, ho⟩ := Kd.R_own h
  rcases ho with ⟨e2, _⟩ | ⟨g, cap, cur, e2, _⟩
  · injection e2 with e2; rw [e1] at e2; cases e2
  · injection e2 with e2; rw [e1] at e2; injection e2 with e2; rw [e2]
theorem C_take {α : Type} {κ : Kd α} {A : Option Addr} {n k : Nat} {xs : List α} {w : World} (h : κ.C w A n xs) (hk : k ≤ n) : κ.C w A k (xs.take k) := by
  refine ⟨by rw [List.length_take, h.1]; omega, by have := h.2.1; omega, fun h0 => ?_⟩
  obtain ⟨ad, e, hc⟩ := h.2.2 (by omega)
  refine ⟨ad, e, fun j p hp => ?_⟩
  by_cases hj : j < k
  · rw [List.getElem?_take_of_lt hj] at hp; exact hc j p hp
  · rw [List.getElem?_take_eq_none (by omega)] at hp; cases hp
theorem info_rowT : (Try.prog.info? 23).map (·.size) = some 1 := by kernel_rfl
theorem KM_G {w : World} {base : Nat} {ok : Nat → Prop} {x : SG} {cs : List Value} (h : kG.K w x cs) : kG.M w base ok x cs := by
  obtain rfl := k41_open h; exact k41_mkM _ _ _ _
theorem KM_T {w : World} {base : Nat} {ok : Nat → Prop} {x : ST} {cs : List Value} (h : kT.K w x cs) : kT.M w base ok x cs := by
  obtain rfl := k46_open h; exact k46_mkM _ _ _ _
theorem Bld.reads (h : Bld base w0 b A c gs B d ts w) : kG.C w A gs.length gs ∧ gs.length ≤ c ∧ kT.C w B ts.length ts ∧ ts.length ≤ d ∧ (∀ ad, A = some ad → ad.spot = none) ∧ (∀ ad, B = some ad → ad.spot = none) := by
  obtain ⟨h1, h2, h3⟩ := Kd.R_reads' h.rg
  obtain ⟨h4, h5, h6⟩ := Kd.R_reads' h.rt
  exact ⟨h3, h2, h6, h5, R_spot h.rg, R_spot h.rt⟩
end
end Go.Proofs.Ytpnjhffnlafabaa.Sn
