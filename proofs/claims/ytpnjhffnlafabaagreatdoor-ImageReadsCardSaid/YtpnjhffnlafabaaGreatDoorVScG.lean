/- names of package scene: who belongs to whom. -/
import Derived.Test.YtpnjhffnlafabaaGreatDoorVSc2
import Derived.Deep.RegionHeld3
import Derived.Deep.DrawnRows
import Derived.WalkSpells
import Derived.WalkLawsBesides
import Derived.Test.YtpnjhffnlafabaaGreatDoorVSc1
namespace Go.Proofs.YtpnjhffnlafabaaGreatDoor.Sn
set_option linter.unusedVariables false
set_option linter.unusedSimpArgs false
open Go.RowKit Go.Sort Go.Shelf Go.Proofs.Bk Go.Proofs.Bm Go.Proofs.Op Go.Proofs.Sc Go.Proofs.Kf Go.Proofs.YtpnjhffnlafabaaGreatDoorW.PrintWords Go.Proofs.YtpnjhffnlafabaaGreatDoor.PImageBack
theorem info_G : (Tryz.prog.info? 50).map (·.size) = some 6 := by kernel_rfl
theorem one_G (x : SG) : ∀ v ∈ gC x, v.oneCell' = true := by
  intro v hv; unfold gC at hv; simp at hv; rcases hv with rfl | rfl | rfl | rfl | rfl | rfl <;> rfl
def zG : List Value := [.int .i64 0, .int .i64 0, .int .i64 0, .int .i64 0, .int .i64 0, .int .i64 0]
theorem G_cells {w : World} {A : Option Addr} {n : Nat} {xs : List SG} (h : kG.C w A n xs) {k : Nat} (hk : k < n) :
    ∃ ad x, A = some ad ∧ xs[k]? = some x ∧ ∀ i u, (gC x)[i]? = some u → w.cell? ((ad.add (k * 6)).add i) = some u := by
  obtain ⟨ad, rfl, hc⟩ := h.2.2 (by omega)
  have hl := h.1
  obtain ⟨c, _, h2, h3⟩ := hc k _ (List.getElem?_eq_getElem (show k < xs.length by omega))
  obtain rfl := k50_open h2
  exact ⟨ad, _, rfl, List.getElem?_eq_getElem _, fun i u hu => by rw [Addr.add_add]; exact h3 i u hu⟩
theorem aget_true (k : Int) : ∀ (xs : List SG) (l : List (Int × Bool)), aget (xs.foldl (fun l x => aset l x.f0 true) l) k = if k ∈ gids (xs.map gOf) then some true else aget l k
  | [], l => by simp [gids]
  | x :: xs, l => by
    rw [List.foldl_cons, aget_true k xs, aget_aset]
    by_cases h : k ∈ gids (xs.map gOf)
    · rw [if_pos h, if_pos (by simp only [List.map_cons, gids, List.mem_cons]; exact .inr h)]
    · rw [if_neg h]
      by_cases h2 : k = x.f0
      · rw [if_pos h2, if_pos (by simp only [List.map_cons, gids, List.mem_cons]; exact .inl h2)]
      · rw [if_neg h2, if_neg]
        simp only [List.map_cons, gids, List.mem_cons, not_or]
        exact ⟨h2, h⟩
theorem zero_bool (w : World) : (zeroValue 4).run Tryz.prog w = .ok (.bool false) w := by
  have := Tryz.zeroValue4; exact this w
theorem look_true {w : World} {mb : Nat} {xs : List SG} (h : IMap .i64 Value.bool w mb (xs.foldl (fun l x => aset l x.f0 true) [])) (k : Int) :
    (Instr.lookup 112 (.map (some mb)) (.int .i64 k) false).run Tryz.prog w = .ok (.bool (decide (k ∈ gids (xs.map gOf)))) w := by
  have := run_lookup_imap (P := Tryz.prog) Tryz.underlying112 Tryz.underlying3 (zero_bool w) h k
  rw [this, aget_true]
  by_cases hk : k ∈ gids (xs.map gOf)
  · simp [hk]
  · simp [hk, aget_nil]
set_option maxHeartbeats 2000000 in
theorem predGroup (w : World) (mb b4 : Nat) (xs : List SG) (h4 : w.heap[b4]? = some (.cells #[.map (some mb)] 112 (0, 0))) (hI : IMap .i64 Value.bool w mb (xs.foldl (fun l x => aset l x.f0 true) [])) :
    PredBelow Tryz.prog 75 #[.pointer (some ⟨b4, 0, none⟩)] (fun x => .agg (tC x).toArray) (fun x => !decide (x.f1 ∈ gids (xs.map gOf))) w := fun W x hb => by
  have h4W := (hb.block _ (lt_row h4)).trans h4
  have hIW := hI.of_block (hb.block _ hI.lt)
  have hmW := hIW.lt
  have hb4 : b4 < W.heap.size := lt_row h4W
  obtain ⟨r, hr⟩ : ∃ r, decide (x.f1 ∈ gids (xs.map gOf)) = r := ⟨_, rfl⟩
  have hl : ∀ W2 : World, Below W.heap.size W W2 → (Instr.lookup 112 (.map (some mb)) (.int .i64 x.f1) false).run Tryz.prog W2 = .ok (.bool r) W2 := fun W2 h2 => by
    rw [← hr]; exact look_true (hIW.of_block (h2.block _ hmW)) x.f1
  show Calls Tryz.prog 75 #[.agg ([.int .i64 x.f0, .int .i64 x.f1, .int .i64 x.f2, .int .u64 x.f3, .bool x.f4, .int .i64 x.f5, .int .i64 x.f6.f0, .int .i64 x.f6.f1] : List Value).toArray, .pointer (some ⟨b4, 0, none⟩)] W fun e w' => e = .returned (.bool (!decide (x.f1 ∈ gids (xs.map gOf)))) ∧ Below w.heap.size w w'
  rw [hr]
  replace h4W := Aside0.mk h4W; replace hIW := Aside0.mk hIW; replace hI := Aside0.mk hI; replace h4 := Aside0.mk h4; replace hr := Aside0.mk hr; replace hl := Aside0.mk hl; replace hb := Aside0.mk hb
  clear hmW
  go_enter Tryz.func75, Tryz.ntmps75
  go_wp2_with (first
    | (((with_reducible refine gate_dst (N := 2) rfl ?_); refine box_event ?hg (N := 2) ?hd (cs := ([.int .i64 x.f0, .int .i64 x.f1, .int .i64 x.f2, .int .u64 x.f3, .bool x.f4, .int .i64 x.f5, .int .i64 x.f6.f0, .int .i64 x.f6.f1] : List Value).toArray) (t := 59) ?hr ?_; (case hd => rfl); (case hg => rfl); (case hr => first | (go_simp; done) | (go_simp; rfl)); intro gb hgb w1 kgb bgb; replace hgb := Aside0.mk hgb; replace kgb := Aside0.mk kgb; replace bgb := Aside0.mk bgb); have c4 : w1.cell? ⟨b4, 0, none⟩ = some (.map (some mb)) := pw_cell_below bgb.out ((Kf.cell_row h4W.out 0).trans rfl); have g1 : w1.cell? ⟨gb, 1, none⟩ = some (.int .i64 x.f1) := (Kf.cell_row kgb.out 1).trans rfl; have hl1 := hl.out w1 bgb.out))
  go_ret
  exact ⟨rfl, hb.out.trans (bgb.out.mono hb.out.size)⟩
def NamesPost (gs : List G) (ts : List T) (w : World) (e : Ending) (w' : World) : Prop := e = .returned (.int .i64 (namesOf gs ts)) ∧ Below w.heap.size w w'
set_option maxHeartbeats 8000000 in
set_option maxRecDepth 100000 in
theorem names_calls (A : Option Addr) (n c : Nat) (xs : List SG) (B : Option Addr) (m d : Nat) (ts : List ST) (w : World) (hG : kG.C w A n xs) (hc : n ≤ c) (hT : kT.C w B m ts) (hd : m ≤ d) (hn0 : 0 < n) (hn : n ≤ 4096) (hm : m ≤ 4096) :
    Calls Tryz.prog 43 #[.agg #[.slice A n c, .slice B m d]] w (NamesPost (xs.map gOf) (ts.map tOf) w) := by
  have hln := hG.1
  have hlm := hT.1
  have hil : (idsS xs ts).length = n + m := by simp [idsS, hln, hlm]
  have HG := Aside0.mk hG
  have HT := Aside0.mk hT
  clear hG hT
  replace hln := Aside0.mk hln; replace hlm := Aside0.mk hlm; replace hil := Aside0.mk hil; replace hc := Aside0.mk hc; replace hd := Aside0.mk hd
  go_enter Tryz.func43, Tryz.ntmps43
  go_wp2_with (first
    | (((with_reducible refine gate_dst (N := 1) rfl ?_); refine box_event ?hg (N := 1) ?hd (cs := #[.slice A n c, .slice B m d]) (t := 25) ?hr ?_; (case hd => rfl); (case hg => rfl); (case hr => first | (go_simp; done) | (go_simp; rfl)); intro b0 hb0 w1 kb0 bb0; replace hb0 := Aside0.mk hb0; replace kb0 := Aside0.mk kb0; replace bb0 := Aside0.mk bb0); have c0 : w1.cell? ⟨b0, 0, none⟩ = some (.slice A n c) := (Kf.cell_row kb0.out 0).trans rfl; have c1 : w1.cell? ⟨b0, 1, none⟩ = some (.slice B m d) := (Kf.cell_row kb0.out 1).trans rfl))
  with_reducible refine (Ids_calls A n c xs B m d ts w1 (Kd.C_below HG.out bb0.out) hc.out (Kd.C_below HT.out bb0.out) hd.out (by omega)).mono ?_
  rintro e w2 ⟨v, rfl, hR, hB2⟩
  obtain ⟨g, cap, _, rfl, hg1, _⟩ := row_int hR (by rw [hil.out]; omega)
  have hb0s := lt_row kb0.out
  have hn0g : ¬ b0 = g := by omega
  replace c0 := pw_cell_below hB2 c0
  replace c1 := pw_cell_below hB2 c1
  rw [hil.out] at hR ⊢
  replace hR := Aside0.mk hR; replace hB2 := Aside0.mk hB2; replace hg1 := Aside0.mk hg1; replace hb0s := Aside0.mk hb0s; replace hn0g := Aside0.mk hn0g
  go_wp2_with fail
  have hS := Sort_calls w1.heap.size g cap _ (idsS xs ts) w2 (by rw [hil.out]; exact hR.out) (by rw [hil.out]; omega) (by rw [hil.out]; omega)
  rw [hil.out] at hS
  with_reducible refine hS.mono ?_
  clear hS
  rintro e w3 ⟨rfl, hg3, hR3⟩
  have hk3 := KeepF.of_grown hg3
  replace c0 := keepF_cell hk3 c0 (fun e => hn0g.out (Option.some.inj e))
  replace c1 := keepF_cell hk3 c1 (fun e => hn0g.out (Option.some.inj e))
  have hws : w.heap.size ≤ b0 := Nat.le_of_eq hb0.out.symm
  have hwg : w.heap.size ≤ g := by have := hg1.out; have := hb0s.out; omega
  have hB3 : Below w.heap.size w w3 := (below_step bb0.out hB2.out).trans (hk3.to_below (base := w.heap.size) (below_step bb0.out hB2.out).size (fun i hi => by injection hi with hi; omega))
  obtain ⟨q, hq⟩ : ∃ q, (Lib.compact ((idsS xs ts).mergeSort leI)).length = q := ⟨_, rfl⟩
  have hcm := compact_mergeSort (idsS xs ts)
  rw [hq, hil.out, idsS_eq] at hcm
  have hsl : ((idsS xs ts).mergeSort leI).length = n + m := by rw [(List.mergeSort_perm _ leI).length_eq, hil.out]
  have hq2 := Lib.compact_length_le ((idsS xs ts).mergeSort leI)
  rw [hq, hsl] at hq2
  have hC4 : ∀ W : World, Below w3.heap.size w3 W → Calls Tryz.prog 74 #[.slice (some ⟨g, 0, none⟩) (n + m) cap] W (CompPost g cap ((idsS xs ts).mergeSort leI) W) := fun W hW => by
    have hr := Kd.R_below hR3 hW
    rw [← hsl] at hr ⊢
    exact Compact_calls w1.heap.size g cap _ _ W hr (by omega) (by omega)
  have hnm0 : (0 : Int) ≤ (n : Int) + (m : Int) := by omega
  have hnm1 : (n : Int) + (m : Int) ≤ 8192 := by omega
  have hw3 : IntKind.i64.wrap ((n : Int) + (m : Int)) = (n : Int) + (m : Int) := by rw [IntKind.wrap_i64]; omega
  clear hk3 hg3
  replace hR3 := Aside0.mk hR3; replace hB3 := Aside0.mk hB3; replace hq := Aside0.mk hq; replace hsl := Aside0.mk hsl; replace hC4 := Aside0.mk hC4; replace hws := Aside0.mk hws; replace hwg := Aside0.mk hwg
  by_cases hnd : (idsOf (xs.map gOf) (ts.map tOf)).Nodup
  case neg =>
    have hlt : (q : Int) < (n : Int) + (m : Int) := by have := hcm.2 hnd; omega
    have hnames : namesOf (xs.map gOf) (ts.map tOf) = 9 := by unfold namesOf; rw [if_pos hnd]
    clear hcm
    replace hnd := Aside0.mk hnd; replace hnames := Aside0.mk hnames
    go_wp2_with fail
    go_region_held3 (fun w' => w'.cell? ⟨b0, 0, none⟩ = some (.slice A n c) ∧ w'.cell? ⟨b0, 1, none⟩ = some (.slice B m d)) (first | (with_reducible exact ⟨c0, c1⟩) | exact ⟨keepF_cell hk4.out c0 hn0g.out, keepF_cell hk4.out c1 hn0g.out⟩ | go_keep)
      ((go_at_call 74; refine (hC4.out w3.drew (below_drew (Below.refl _ _))).mono ?_; rintro e w4 ⟨rfl, hk4⟩; rw [hq.out]; replace hk4 := Aside0.mk (show KeepF (fun k => k = g) w3 w4 from ⟨hk4.os, hk4.tape, hk4.output, hk4.size, hk4.block⟩)))
    go_wp2_with fail
    go_ret
    exact ⟨by rw [hnames.out]; rfl, hB3.out.trans (hk4.out.to_below (base := w.heap.size) hB3.out.size (fun i hi => by have := hwg.out; omega))⟩
  case pos =>
    have hlt : ¬ (q : Int) < (n : Int) + (m : Int) := by
      intro h
      exact hcm.1 (by omega) hnd
    clear hcm
    replace hnd := Aside0.mk hnd
    go_wp2_with fail
    go_region_held3 (fun w' => w'.cell? ⟨b0, 0, none⟩ = some (.slice A n c) ∧ w'.cell? ⟨b0, 1, none⟩ = some (.slice B m d)) (first | (with_reducible exact ⟨c0, c1⟩) | exact ⟨keepF_cell hk4.out c0 hn0g.out, keepF_cell hk4.out c1 hn0g.out⟩ | go_keep)
      ((go_at_call 74; refine (hC4.out w3.drew (below_drew (Below.refl _ _))).mono ?_; rintro e w4 ⟨rfl, hk4⟩; rw [hq.out]; replace hk4 := Aside0.mk (show KeepF (fun k => k = g) w3 w4 from ⟨hk4.os, hk4.tape, hk4.output, hk4.size, hk4.block⟩)))
    have hB4 := hB3.out.trans (hk4.out.to_below (base := w.heap.size) hB3.out.size (fun i hi => by have := hwg.out; omega))
    replace c0 := keepF_cell hk4.out c0 hn0g.out
    replace c1 := keepF_cell hk4.out c1 hn0g.out
    have hlt0 : (0 : Int) < (n : Int) := by omega
    clear hk4 hC4 hR3 hR hB2 hB3 bb0 kb0
    have hb04 := World.block_lt_of_cell? w4 _ c0
    replace hB4 := Aside0.mk hB4; replace hb04 := Aside0.mk hb04
    go_wp2_with (first
      | (((with_reducible refine gate_dst (N := 24) rfl ?_); refine mkmap_event ?hg (N := 24) ?hd 112 ?ho ?_; (case hd => rfl); (case hg => rfl); (case ho => rfl); intro mb hmb w5 kmb bmb; replace hmb := Aside0.mk hmb; replace kmb := Aside0.mk kmb; replace bmb := Aside0.mk bmb); replace c0 := pw_cell_below bmb.out c0; replace c1 := pw_cell_below bmb.out c1; have q0 := pw_cell_below (below_alloc (Below.refl w5.heap.size w5) (.cells #[.map (some mb)] 112)) c0; have q1 := pw_cell_below (below_alloc (Below.refl w5.heap.size w5) (.cells #[.map (some mb)] 112)) c1)
      )
    have k4 : (w5.alloc (.cells #[.map (some mb)] 112)).heap[w5.heap.size]? = some (.cells #[.map (some mb)] 112 (0, 0)) := heap_alloc_same w5 _
    have kM : (w5.alloc (.cells #[.map (some mb)] 112)).heap[mb]? = some (.map #[] 0) := row_below (below_alloc (Below.refl w5.heap.size w5) _) kmb.out
    have hB6 : Below w.heap.size w (w5.alloc (.cells #[.map (some mb)] 112)) := below_alloc (below_step hB4.out bmb.out) _
    have hml := lt_row kmb.out
    have hmb4 : w4.heap.size ≤ mb := Nat.le_of_eq hmb.out.symm
    have hb0m : b0 < mb := by have := hb04.out; omega
    have hwm : w.heap.size ≤ mb := by have := hws.out; omega
    obtain ⟨b4, hb4⟩ : ∃ b4, w5.heap.size = b4 := ⟨_, rfl⟩
    rw [hb4] at k4
    rw [hb4]
    obtain ⟨w6, hw6⟩ : ∃ w6, w5.alloc (.cells #[.map (some mb)] 112) = w6 := ⟨_, rfl⟩
    rw [hw6] at q0 q1 k4 kM hB6 ⊢
    have n4m : mb < b4 := by omega
    clear c0 c1
    have hI0 : IMap .i64 Value.bool w6 mb [] := Kf.IMap.new kM
    replace k4 := Aside0.mk k4; replace hB6 := Aside0.mk hB6; replace hmb4 := Aside0.mk hmb4; replace hb0m := Aside0.mk hb0m; replace hwm := Aside0.mk hwm; replace n4m := Aside0.mk n4m; replace hI0 := Aside0.mk hI0
    clear kM
    go_loopw [28] (fun t28 wr => ∃ (k : Nat), t28 = .int .i64 k ∧ k ≤ n ∧ Aside0 (IMap .i64 Value.bool wr mb ((xs.take k).foldl (fun l x => aset l x.f0 true) [])) ∧ Aside0 (KeepF (fun i => i = mb) w6 wr)) (fun t28 _ => n - (intOf t28).toNat)
    case atStart => exact ⟨0, rfl, Nat.zero_le _, hI0, ⟨KeepF.refl _ _⟩⟩
    case round =>
      obtain ⟨k, rfl, hk, hI, hK⟩ := hrel
      have c0 := keepF_cell hK.out q0 (show ¬ b0 = mb by have := hb0m.out; omega)
      have c1 := keepF_cell hK.out q1 (show ¬ b0 = mb by have := hb0m.out; omega)
      have k4r : wr.heap[b4]? = some (.cells #[.map (some mb)] 112 (0, 0)) := (hK.out.block _ (lt_row k4.out) (by have := n4m.out; omega)).trans k4.out
      have c4 : wr.cell? ⟨b4, 0, none⟩ = some (.map (some mb)) := (Kf.cell_row k4r 0).trans rfl
      have hBr := hB6.out.trans (hK.out.to_below (base := w.heap.size) hB6.out.size (fun i hi => by have := hwm.out; omega))
      replace k4r := Aside0.mk k4r; replace hBr := Aside0.mk hBr
      by_cases hlt : k < n
      · have p1 : (0 : Int) ≤ (k : Int) := by omega
        have q1' : (k : Int) < (n : Int) := by omega
        obtain ⟨ad, x, rfl, hx, hcs⟩ := G_cells (Kd.C_below HG.out hBr.out) hlt
        have htk : xs.take (k + 1) = xs.take k ++ [x] := by rw [List.take_add_one, hx]; rfl
        have e1 := one_G x
        change ∀ v ∈ ([.int .i64 x.f0, .int .i64 x.f1, .int .i64 x.f2, .int .i64 x.f3.f0, .int .i64 x.f3.f1, .int .i64 x.f3.f2] : List Value), v.oneCell' = true at e1
        change ∀ i u, ([.int .i64 x.f0, .int .i64 x.f1, .int .i64 x.f2, .int .i64 x.f3.f0, .int .i64 x.f3.f1, .int .i64 x.f3.f2] : List Value)[i]? = some u → wr.cell? ((ad.add (k * 6)).add i) = some u at hcs
        have hmr := hI.out.lt
        replace hx := Aside0.mk hx; replace hcs := Aside0.mk hcs; replace htk := Aside0.mk htk; replace e1 := Aside0.mk e1; replace hmr := Aside0.mk hmr
        go_wp2_with (first
          | ((with_reducible refine gate_op (.load 50 (.tmp 30)) rfl ?_); refine wpList_load_midB rfl _ _ rfl (ad.add (k * 6)) rfl ([.int .i64 x.f0, .int .i64 x.f1, .int .i64 x.f2, .int .i64 x.f3.f0, .int .i64 x.f3.f1, .int .i64 x.f3.f2] : List Value) _ hcs.out Tryz.underlying50 rfl info_G ?_)
          | (((with_reducible refine gate_dst (N := 6) rfl ?_); refine box_event ?hg (N := 6) ?hd (cs := zG.toArray) (t := 50) ?hr ?_; (case hd => rfl); (case hg => rfl); (case hr => first | (go_simp; done) | (go_simp; rfl)); intro gb hgb w7 kgb bgb; replace hgb := Aside0.mk hgb; replace kgb := Aside0.mk kgb; replace bgb := Aside0.mk bgb))
          | (((with_reducible refine gate_op (.store 50 (.tmp 6) (.tmp 31)) rfl ?_); refine wpList_store_midB rfl _ _ _ rfl gb 0 ([.int .i64 x.f0, .int .i64 x.f1, .int .i64 x.f2, .int .i64 x.f3.f0, .int .i64 x.f3.f1, .int .i64 x.f3.f2] : List Value) rfl rfl 50 zG kgb.out info_G (Nat.le_refl _) e1.out ?_; obtain ⟨kk, bb⟩ := boxed (cs := zG) (cs2 := ([.int .i64 x.f0, .int .i64 x.f1, .int .i64 x.f2, .int .i64 x.f3.f0, .int .i64 x.f3.f1, .int .i64 x.f3.f2] : List Value)) hgb.out kgb.out bgb.out rfl; revert kk bb; generalize World.setRow _ gb (splice zG 0 ([.int .i64 x.f0, .int .i64 x.f1, .int .i64 x.f2, .int .i64 x.f3.f0, .int .i64 x.f3.f1, .int .i64 x.f3.f2] : List Value)).toArray = w8; clear kgb bgb; intro kgb bgb; replace kgb := Aside0.mk kgb; replace bgb := Aside0.mk bgb); replace c0 := pw_cell_below bgb.out c0; replace c1 := pw_cell_below bgb.out c1; replace c4 := pw_cell_below bgb.out c4; have g0 : w8.cell? ⟨gb, 0, none⟩ = some (.int .i64 x.f0) := (Kf.cell_row kgb.out 0).trans rfl; have hI8 := Aside0.mk (hI.out.of_block (bgb.out.block _ hmr.out)))
          | ((with_reducible refine gate_op (.mapUpdate 112 (.tmp 32) (.tmp 34) (.const (.bool true))) rfl ?_); refine wpList_mapUpdate_imap (enc := Value.bool) rfl _ _ _ 112 rfl Tryz.underlying112 Tryz.underlying3 mb _ x.f0 true rfl rfl rfl hI8.out ?_; intro ob hM9; replace hM9 := Aside0.mk hM9))
        go_roundw
        case measure => show n - ((k : Int) + 1).toNat < n - (k : Int).toNat; omega
        case rel => exact ⟨k + 1, by simp, by omega, ⟨by rw [htk.out, List.foldl_append]; exact hM9.out⟩, ⟨(hK.out.trans (KeepF.of_below (F := fun i => i = mb) bgb.out) (fun _ _ h => h)).trans (KeepF.bset w8 mb ob) (fun _ _ h => h)⟩⟩
      · obtain rfl : k = n := by omega
        have hall : xs.take k = xs := List.take_of_length_le (by rw [hln.out]; exact Nat.le_refl _)
        rw [hall] at hI
        have hgn : ((gids (xs.map gOf)).length = k) := by simp [gids, hln.out]
        clear hlt
        replace hall := Aside0.mk hall; replace hgn := Aside0.mk hgn
        go_wp2_with fail
        clear c0 c1 c4
        obtain ⟨wp, rfl⟩ : ∃ wp, wp = wr := ⟨_, rfl⟩
        go_loopw [39] (fun t39 wq => ∃ (i : Nat), t39 = .int .i64 i ∧ i ≤ k ∧ Aside0 (Below wp.heap.size wp wq) ∧ Aside0 (∀ j x, j < i → xs[j]? = some x → (x.f1 = 0 ∨ (j ≠ 0 ∧ x.f1 ∈ gids (xs.map gOf))))) (fun t39 _ => k - (intOf t39).toNat)
        case atStart => exact ⟨0, rfl, Nat.zero_le _, ⟨Below.refl _ _⟩, ⟨fun j x h => absurd h (Nat.not_lt_zero _)⟩⟩
        case round =>
          obtain ⟨i, rfl, hi, hBq, hpar⟩ := hrel
          have q0r : wp.cell? ⟨b0, 0, none⟩ = some (.slice A k c) := keepF_cell hK.out q0 (show ¬ b0 = mb by have := hb0m.out; omega)
          have q1r : wp.cell? ⟨b0, 1, none⟩ = some (.slice B m d) := keepF_cell hK.out q1 (show ¬ b0 = mb by have := hb0m.out; omega)
          have c0 := pw_cell_below hBq.out q0r
          have c1 := pw_cell_below hBq.out q1r
          have k4q := row_below hBq.out k4r.out
          have c4 : wr.cell? ⟨b4, 0, none⟩ = some (.map (some mb)) := (Kf.cell_row k4q 0).trans rfl
          have hIq := hI.out.of_block (hBq.out.block _ hI.out.lt)
          have hBw := hBr.out.trans (hBq.out.mono hBr.out.size)
          clear q0r q1r
          replace k4q := Aside0.mk k4q; replace hIq := Aside0.mk hIq; replace hBw := Aside0.mk hBw
          by_cases hlt : i < k
          · have p1 : (0 : Int) ≤ (i : Int) := by omega
            have q1' : (i : Int) < (k : Int) := by omega
            obtain ⟨ad, x, rfl, hx, hcs⟩ := G_cells (Kd.C_below HG.out hBw.out) hlt
            have e1 := one_G x
            change ∀ v ∈ ([.int .i64 x.f0, .int .i64 x.f1, .int .i64 x.f2, .int .i64 x.f3.f0, .int .i64 x.f3.f1, .int .i64 x.f3.f2] : List Value), v.oneCell' = true at e1
            change ∀ i' u, ([.int .i64 x.f0, .int .i64 x.f1, .int .i64 x.f2, .int .i64 x.f3.f0, .int .i64 x.f3.f1, .int .i64 x.f3.f2] : List Value)[i']? = some u → wr.cell? ((ad.add (i * 6)).add i') = some u at hcs
            have hxm := List.mem_of_getElem? hx
            obtain ⟨r, hr⟩ : ∃ r, decide (x.f1 ∈ gids (xs.map gOf)) = r := ⟨_, rfl⟩
            have hlk : ∀ W2 : World, Below wr.heap.size wr W2 → (Instr.lookup 112 (.map (some mb)) (.int .i64 x.f1) false).run Tryz.prog W2 = .ok (.bool r) W2 := fun W2 h2 => by
              rw [← hr]; exact look_true (hIq.out.of_block (h2.block _ hIq.out.lt)) x.f1
            have hbad : (i = 0 ∧ x.f1 ≠ 0) ∨ (i ≠ 0 ∧ x.f1 ≠ 0 ∧ r = false) → namesOf (xs.map gOf) (ts.map tOf) = 8 := by
              intro h
              unfold namesOf
              rw [if_neg (by simpa using hnd.out), if_pos]
              rcases h with ⟨h1, h2⟩ | ⟨h1, h2, h3⟩
              · left
                subst h1
                cases xs with
                | nil => simp at hx
                | cons y ys =>
                  simp at hx; subst hx
                  exact h2
              · right; left
                refine ⟨gOf x, List.mem_map.2 ⟨x, hxm, rfl⟩, h2, ?_⟩
                intro h4
                rw [h3] at hr
                exact (of_decide_eq_false hr) h4
            have hnext : (x.f1 = 0 ∨ (i ≠ 0 ∧ r = true)) → ∀ j y, j < i + 1 → xs[j]? = some y → (y.f1 = 0 ∨ (j ≠ 0 ∧ y.f1 ∈ gids (xs.map gOf))) := by
              intro h j y hj hy
              rcases Nat.lt_or_ge j i with h1 | h1
              · exact hpar.out j y h1 hy
              · obtain rfl : j = i := by omega
                rw [hx] at hy
                injection hy with hy
                subst hy
                rcases h with h | ⟨h, h2⟩
                · exact .inl h
                · exact .inr ⟨h, by rw [h2] at hr; exact of_decide_eq_true hr⟩
            obtain ⟨pv, hpv⟩ : ∃ pv, x.f1 = pv := ⟨_, rfl⟩
            rw [hpv] at hbad hnext e1 hcs hlk
            replace hx := Aside0.mk hx; replace hxm := Aside0.mk hxm; replace hcs := Aside0.mk hcs; replace e1 := Aside0.mk e1; replace hr := Aside0.mk hr; replace hlk := Aside0.mk hlk; replace hbad := Aside0.mk hbad; replace hnext := Aside0.mk hnext; replace hpv := Aside0.mk hpv
            have hcase : (pv = 0) ∨ (pv ≠ 0 ∧ i = 0) ∨ (pv ≠ 0 ∧ 0 < i ∧ r = true) ∨ (pv ≠ 0 ∧ 0 < i ∧ r = false) := by
              by_cases a1 : pv = 0
              · exact .inl a1
              · by_cases a2 : i = 0
                · exact .inr (.inl ⟨a1, a2⟩)
                · cases r with
                  | true => exact .inr (.inr (.inl ⟨a1, by omega, rfl⟩))
                  | false => exact .inr (.inr (.inr ⟨a1, by omega, rfl⟩))
            have hI1 : IntKind.i64.wrap ((i : Int) + 1) = (i : Int) + 1 := by rw [IntKind.wrap_i64]; omega
            replace hI1 := Aside0.mk hI1
            rcases hcase with h1 | ⟨h1, h2⟩ | ⟨h1, h2, h3⟩ | ⟨h1, h2, h3⟩
            · subst h1
              rcases Nat.eq_zero_or_pos i with hi0 | hi0
              · subst hi0
                go_wp2_with (first
                  | ((with_reducible refine gate_op (.load 50 (.tmp 42)) rfl ?_); refine wpList_load_midB rfl _ _ rfl (ad.add (0 * 6)) rfl ([.int .i64 x.f0, .int .i64 0, .int .i64 x.f2, .int .i64 x.f3.f0, .int .i64 x.f3.f1, .int .i64 x.f3.f2] : List Value) _ hcs.out Tryz.underlying50 rfl info_G ?_)
                  | (((with_reducible refine gate_dst (N := 8) rfl ?_); refine box_event ?hg (N := 8) ?hd (cs := zG.toArray) (t := 50) ?hr ?_; (case hd => rfl); (case hg => rfl); (case hr => first | (go_simp; done) | (go_simp; rfl)); intro gb hgb w7 kgb bgb; replace hgb := Aside0.mk hgb; replace kgb := Aside0.mk kgb; replace bgb := Aside0.mk bgb))
                  | (((with_reducible refine gate_op (.store 50 (.tmp 8) (.tmp 43)) rfl ?_); refine wpList_store_midB rfl _ _ _ rfl gb 0 ([.int .i64 x.f0, .int .i64 0, .int .i64 x.f2, .int .i64 x.f3.f0, .int .i64 x.f3.f1, .int .i64 x.f3.f2] : List Value) rfl rfl 50 zG kgb.out info_G (Nat.le_refl _) e1.out ?_; obtain ⟨kk, bb⟩ := boxed (cs := zG) (cs2 := ([.int .i64 x.f0, .int .i64 0, .int .i64 x.f2, .int .i64 x.f3.f0, .int .i64 x.f3.f1, .int .i64 x.f3.f2] : List Value)) hgb.out kgb.out bgb.out rfl; revert kk bb; generalize World.setRow _ gb (splice zG 0 ([.int .i64 x.f0, .int .i64 0, .int .i64 x.f2, .int .i64 x.f3.f0, .int .i64 x.f3.f1, .int .i64 x.f3.f2] : List Value)).toArray = w8; clear kgb bgb; intro kgb bgb; replace kgb := Aside0.mk kgb; replace bgb := Aside0.mk bgb); replace c0 := pw_cell_below bgb.out c0; replace c1 := pw_cell_below bgb.out c1; replace c4 := pw_cell_below bgb.out c4; have g0 : w8.cell? ⟨gb, 1, none⟩ = some (.int .i64 0) := (Kf.cell_row kgb.out 1).trans rfl; have hL8 := hlk.out w8 bgb.out))
                all_goals (
                  go_roundw
                  case measure => show k - ((0 : Int) + 1).toNat < k - ((0 : Nat) : Int).toNat; omega
                  case rel => exact ⟨0 + 1, rfl, by omega, ⟨hBq.out.trans (bgb.out.mono hBq.out.size)⟩, ⟨hnext.out (.inl rfl)⟩⟩)
              · have h2' : ¬ i = 0 := by omega
                go_wp2_with (first
                  | ((with_reducible refine gate_op (.load 50 (.tmp 42)) rfl ?_); refine wpList_load_midB rfl _ _ rfl (ad.add (i * 6)) rfl ([.int .i64 x.f0, .int .i64 0, .int .i64 x.f2, .int .i64 x.f3.f0, .int .i64 x.f3.f1, .int .i64 x.f3.f2] : List Value) _ hcs.out Tryz.underlying50 rfl info_G ?_)
                  | (((with_reducible refine gate_dst (N := 8) rfl ?_); refine box_event ?hg (N := 8) ?hd (cs := zG.toArray) (t := 50) ?hr ?_; (case hd => rfl); (case hg => rfl); (case hr => first | (go_simp; done) | (go_simp; rfl)); intro gb hgb w7 kgb bgb; replace hgb := Aside0.mk hgb; replace kgb := Aside0.mk kgb; replace bgb := Aside0.mk bgb))
                  | (((with_reducible refine gate_op (.store 50 (.tmp 8) (.tmp 43)) rfl ?_); refine wpList_store_midB rfl _ _ _ rfl gb 0 ([.int .i64 x.f0, .int .i64 0, .int .i64 x.f2, .int .i64 x.f3.f0, .int .i64 x.f3.f1, .int .i64 x.f3.f2] : List Value) rfl rfl 50 zG kgb.out info_G (Nat.le_refl _) e1.out ?_; obtain ⟨kk, bb⟩ := boxed (cs := zG) (cs2 := ([.int .i64 x.f0, .int .i64 0, .int .i64 x.f2, .int .i64 x.f3.f0, .int .i64 x.f3.f1, .int .i64 x.f3.f2] : List Value)) hgb.out kgb.out bgb.out rfl; revert kk bb; generalize World.setRow _ gb (splice zG 0 ([.int .i64 x.f0, .int .i64 0, .int .i64 x.f2, .int .i64 x.f3.f0, .int .i64 x.f3.f1, .int .i64 x.f3.f2] : List Value)).toArray = w8; clear kgb bgb; intro kgb bgb; replace kgb := Aside0.mk kgb; replace bgb := Aside0.mk bgb); replace c0 := pw_cell_below bgb.out c0; replace c1 := pw_cell_below bgb.out c1; replace c4 := pw_cell_below bgb.out c4; have g0 : w8.cell? ⟨gb, 1, none⟩ = some (.int .i64 0) := (Kf.cell_row kgb.out 1).trans rfl; have hL8 := hlk.out w8 bgb.out))
                all_goals (
                  go_roundw
                  case measure => show k - ((i : Int) + 1).toNat < k - (i : Int).toNat; omega
                  case rel => exact ⟨i + 1, by simp, by omega, ⟨hBq.out.trans (bgb.out.mono hBq.out.size)⟩, ⟨hnext.out (.inl rfl)⟩⟩)
            · subst h2
              have hr8 : namesOf (xs.map gOf) (ts.map tOf) = 8 := hbad.out (.inl ⟨rfl, h1⟩)
              replace hr8 := Aside0.mk hr8
              have h1' : (pv == 0) = false := by simpa using h1
              go_wp2_with (first
                | ((with_reducible refine gate_op (.load 50 (.tmp 42)) rfl ?_); refine wpList_load_midB rfl _ _ rfl (ad.add (0 * 6)) rfl ([.int .i64 x.f0, .int .i64 pv, .int .i64 x.f2, .int .i64 x.f3.f0, .int .i64 x.f3.f1, .int .i64 x.f3.f2] : List Value) _ hcs.out Tryz.underlying50 rfl info_G ?_)
                | (((with_reducible refine gate_dst (N := 8) rfl ?_); refine box_event ?hg (N := 8) ?hd (cs := zG.toArray) (t := 50) ?hr ?_; (case hd => rfl); (case hg => rfl); (case hr => first | (go_simp; done) | (go_simp; rfl)); intro gb hgb w7 kgb bgb; replace hgb := Aside0.mk hgb; replace kgb := Aside0.mk kgb; replace bgb := Aside0.mk bgb))
                | (((with_reducible refine gate_op (.store 50 (.tmp 8) (.tmp 43)) rfl ?_); refine wpList_store_midB rfl _ _ _ rfl gb 0 ([.int .i64 x.f0, .int .i64 pv, .int .i64 x.f2, .int .i64 x.f3.f0, .int .i64 x.f3.f1, .int .i64 x.f3.f2] : List Value) rfl rfl 50 zG kgb.out info_G (Nat.le_refl _) e1.out ?_; obtain ⟨kk, bb⟩ := boxed (cs := zG) (cs2 := ([.int .i64 x.f0, .int .i64 pv, .int .i64 x.f2, .int .i64 x.f3.f0, .int .i64 x.f3.f1, .int .i64 x.f3.f2] : List Value)) hgb.out kgb.out bgb.out rfl; revert kk bb; generalize World.setRow _ gb (splice zG 0 ([.int .i64 x.f0, .int .i64 pv, .int .i64 x.f2, .int .i64 x.f3.f0, .int .i64 x.f3.f1, .int .i64 x.f3.f2] : List Value)).toArray = w8; clear kgb bgb; intro kgb bgb; replace kgb := Aside0.mk kgb; replace bgb := Aside0.mk bgb); replace c0 := pw_cell_below bgb.out c0; replace c1 := pw_cell_below bgb.out c1; replace c4 := pw_cell_below bgb.out c4; have g0 : w8.cell? ⟨gb, 1, none⟩ = some (.int .i64 pv) := (Kf.cell_row kgb.out 1).trans rfl; have hL8 := hlk.out w8 bgb.out))
              go_ret
              exact ⟨by rw [hr8.out]; rfl, hBw.out.trans (bgb.out.mono hBw.out.size)⟩
            · subst h3
              have h1' : (pv == 0) = false := by simpa using h1
              have h2' : ¬ i = 0 := by omega
              go_wp2_with (first
                | ((with_reducible refine gate_op (.load 50 (.tmp 42)) rfl ?_); refine wpList_load_midB rfl _ _ rfl (ad.add (i * 6)) rfl ([.int .i64 x.f0, .int .i64 pv, .int .i64 x.f2, .int .i64 x.f3.f0, .int .i64 x.f3.f1, .int .i64 x.f3.f2] : List Value) _ hcs.out Tryz.underlying50 rfl info_G ?_)
                | (((with_reducible refine gate_dst (N := 8) rfl ?_); refine box_event ?hg (N := 8) ?hd (cs := zG.toArray) (t := 50) ?hr ?_; (case hd => rfl); (case hg => rfl); (case hr => first | (go_simp; done) | (go_simp; rfl)); intro gb hgb w7 kgb bgb; replace hgb := Aside0.mk hgb; replace kgb := Aside0.mk kgb; replace bgb := Aside0.mk bgb))
                | (((with_reducible refine gate_op (.store 50 (.tmp 8) (.tmp 43)) rfl ?_); refine wpList_store_midB rfl _ _ _ rfl gb 0 ([.int .i64 x.f0, .int .i64 pv, .int .i64 x.f2, .int .i64 x.f3.f0, .int .i64 x.f3.f1, .int .i64 x.f3.f2] : List Value) rfl rfl 50 zG kgb.out info_G (Nat.le_refl _) e1.out ?_; obtain ⟨kk, bb⟩ := boxed (cs := zG) (cs2 := ([.int .i64 x.f0, .int .i64 pv, .int .i64 x.f2, .int .i64 x.f3.f0, .int .i64 x.f3.f1, .int .i64 x.f3.f2] : List Value)) hgb.out kgb.out bgb.out rfl; revert kk bb; generalize World.setRow _ gb (splice zG 0 ([.int .i64 x.f0, .int .i64 pv, .int .i64 x.f2, .int .i64 x.f3.f0, .int .i64 x.f3.f1, .int .i64 x.f3.f2] : List Value)).toArray = w8; clear kgb bgb; intro kgb bgb; replace kgb := Aside0.mk kgb; replace bgb := Aside0.mk bgb); replace c0 := pw_cell_below bgb.out c0; replace c1 := pw_cell_below bgb.out c1; replace c4 := pw_cell_below bgb.out c4; have g0 : w8.cell? ⟨gb, 1, none⟩ = some (.int .i64 pv) := (Kf.cell_row kgb.out 1).trans rfl; have hL8 := hlk.out w8 bgb.out))
              all_goals (
                go_roundw
                case measure => show k - ((i : Int) + 1).toNat < k - (i : Int).toNat; omega
                case rel => exact ⟨i + 1, by simp, by omega, ⟨hBq.out.trans (bgb.out.mono hBq.out.size)⟩, ⟨hnext.out (.inr ⟨by omega, rfl⟩)⟩⟩)
            · subst h3
              have hr8 : namesOf (xs.map gOf) (ts.map tOf) = 8 := hbad.out (.inr ⟨by omega, h1, rfl⟩)
              replace hr8 := Aside0.mk hr8
              have h1' : (pv == 0) = false := by simpa using h1
              have h2' : ¬ i = 0 := by omega
              go_wp2_with (first
                | ((with_reducible refine gate_op (.load 50 (.tmp 42)) rfl ?_); refine wpList_load_midB rfl _ _ rfl (ad.add (i * 6)) rfl ([.int .i64 x.f0, .int .i64 pv, .int .i64 x.f2, .int .i64 x.f3.f0, .int .i64 x.f3.f1, .int .i64 x.f3.f2] : List Value) _ hcs.out Tryz.underlying50 rfl info_G ?_)
                | (((with_reducible refine gate_dst (N := 8) rfl ?_); refine box_event ?hg (N := 8) ?hd (cs := zG.toArray) (t := 50) ?hr ?_; (case hd => rfl); (case hg => rfl); (case hr => first | (go_simp; done) | (go_simp; rfl)); intro gb hgb w7 kgb bgb; replace hgb := Aside0.mk hgb; replace kgb := Aside0.mk kgb; replace bgb := Aside0.mk bgb))
                | (((with_reducible refine gate_op (.store 50 (.tmp 8) (.tmp 43)) rfl ?_); refine wpList_store_midB rfl _ _ _ rfl gb 0 ([.int .i64 x.f0, .int .i64 pv, .int .i64 x.f2, .int .i64 x.f3.f0, .int .i64 x.f3.f1, .int .i64 x.f3.f2] : List Value) rfl rfl 50 zG kgb.out info_G (Nat.le_refl _) e1.out ?_; obtain ⟨kk, bb⟩ := boxed (cs := zG) (cs2 := ([.int .i64 x.f0, .int .i64 pv, .int .i64 x.f2, .int .i64 x.f3.f0, .int .i64 x.f3.f1, .int .i64 x.f3.f2] : List Value)) hgb.out kgb.out bgb.out rfl; revert kk bb; generalize World.setRow _ gb (splice zG 0 ([.int .i64 x.f0, .int .i64 pv, .int .i64 x.f2, .int .i64 x.f3.f0, .int .i64 x.f3.f1, .int .i64 x.f3.f2] : List Value)).toArray = w8; clear kgb bgb; intro kgb bgb; replace kgb := Aside0.mk kgb; replace bgb := Aside0.mk bgb); replace c0 := pw_cell_below bgb.out c0; replace c1 := pw_cell_below bgb.out c1; replace c4 := pw_cell_below bgb.out c4; have g0 : w8.cell? ⟨gb, 1, none⟩ = some (.int .i64 pv) := (Kf.cell_row kgb.out 1).trans rfl; have hL8 := hlk.out w8 bgb.out))
              go_ret
              exact ⟨by rw [hr8.out]; rfl, hBw.out.trans (bgb.out.mono hBw.out.size)⟩
          · obtain rfl : i = k := by omega
            have hTq := Kd.C_below HT.out hBw.out
            have hcon := fun W (hW : Below wr.heap.size wr W) => ContainsT_calls (fun x => !decide (x.f1 ∈ gids (xs.map gOf))) 75 #[.pointer (some ⟨b4, 0, none⟩)] (enters_of Tryz.func75 (by kernel_rfl) rfl) B m d ts W (Kd.C_below hTq hW) (predGroup W mb b4 xs (row_below hW k4q.out) (hIq.out.of_block (hW.block _ hIq.out.lt)))
            obtain ⟨r, hr⟩ : ∃ r, ts.any (fun x => !decide (x.f1 ∈ gids (xs.map gOf))) = r := ⟨_, rfl⟩
            have hfin : namesOf (xs.map gOf) (ts.map tOf) = if r = true then 8 else 0 := by
              unfold namesOf
              rw [if_neg (by simpa using hnd.out)]
              have a1 : headPar (xs.map gOf) = 0 := by
                cases xs with
                | nil => rfl
                | cons y ys =>
                  have := hpar.out 0 y (by simp at hgn; have := hgn.out; simp [gids] at this; omega) rfl
                  rcases this with h | h
                  · exact h
                  · exact absurd rfl h.1
              have a2 : ¬ ∃ g ∈ xs.map gOf, g.parent ≠ 0 ∧ g.parent ∉ gids (xs.map gOf) := by
                rintro ⟨g, hg, h1, h2⟩
                obtain ⟨y, hy, rfl⟩ := List.mem_map.1 hg
                obtain ⟨j, hj⟩ := List.mem_iff_getElem?.1 hy
                have hj2 : j < xs.length := (List.getElem?_eq_some_iff.1 hj).1
                rcases hpar.out j y (by rw [hln.out] at hj2; exact hj2) hj with h | h
                · exact h1 h
                · exact h2 h.2
              have a3 : (∃ t ∈ ts.map tOf, t.group ∉ gids (xs.map gOf)) ↔ r = true := by
                rw [← hr, List.any_eq_true]
                constructor
                · rintro ⟨t, ht, h⟩
                  obtain ⟨y, hy, rfl⟩ := List.mem_map.1 ht
                  exact ⟨y, hy, by show (!decide (y.f1 ∈ gids (xs.map gOf))) = true; rw [decide_eq_false (show ¬ y.f1 ∈ gids (xs.map gOf) from h)]; rfl⟩
                · rintro ⟨y, hy, h⟩
                  exact ⟨tOf y, List.mem_map.2 ⟨y, hy, rfl⟩, by have h2 : (!decide (y.f1 ∈ gids (xs.map gOf))) = true := h; show ¬ y.f1 ∈ gids (xs.map gOf); simpa using h2⟩
              by_cases h : r = true
              · rw [if_pos h, if_pos (.inr (.inr (a3.2 h)))]
              · rw [if_neg h, if_neg]
                rintro (h1 | h1 | h1)
                · exact h1 a1
                · exact a2 h1
                · exact h (a3.1 h1)
            simp only [hr] at hcon
            clear hlt
            replace hTq := Aside0.mk hTq; replace hcon := Aside0.mk hcon; replace hr := Aside0.mk hr; replace hfin := Aside0.mk hfin
            go_wp2_with fail
            with_reducible refine (hcon.out _ (Below.refl _ _)).mono ?_
            rintro e w9 ⟨rfl, hb9⟩
            cases r with
            | true =>
              go_wp2_with fail
              go_ret
              exact ⟨by rw [hfin.out]; rfl, hBw.out.trans (hb9.mono hBw.out.size)⟩
            | false =>
              go_wp2_with fail
              go_ret
              exact ⟨by rw [hfin.out]; rfl, hBw.out.trans (hb9.mono hBw.out.size)⟩
end Go.Proofs.YtpnjhffnlafabaaGreatDoor.Sn
