/- The reference of law 13: Order: walked by hand. The reference of law 13: Check: walked by hand: what it tells is what the program tells. -/
import Derived.Test.YtpnjhffnlafabaaGreatDoorVG
import Derived.Test.YtpnjhffnlafabaaGreatDoorVHt
import Derived.Test.YtpnjhffnlafabaaGreatDoorVRs
namespace Go.Proofs.YtpnjhffnlafabaaGreatDoor.Sn
set_option linter.unusedVariables false
set_option linter.unusedSimpArgs false
open Go.Proofs Go.RowKit Go.Sort Go.Shelf Go.Lib Go.Proofs.Bk Go.Proofs.Bm Go.Proofs.Op Go.Proofs.Sc Go.Proofs.Kf Go.Proofs.YtpnjhffnlafabaaGreatDoorW.PrintWords Go.Proofs.YtpnjhffnlafabaaGreatDoor.PImageBack
section
variable {base : Nat} {w0 w w1 : World} {b : Nat} {A : Option Addr} {c : Nat} {gs : List SG} {B : Option Addr} {d : Nat} {ts : List ST}
theorem Bld.other (h : Bld base w0 b A c gs B d ts w) {α : Type} {κ' : Kd α} {e' base' : Nat} {ok' : Nat → Prop} {v' : Value} {ys : List α} (h' : κ'.R e' w base' ok' v' ys) (hg : w.grownBy w1 v'.ownBlock) (hb : Below base w0 w1)
    (n1 : 50 ≠ e') (n2 : 59 ≠ e') (n3 : e' ≠ 25) : Bld base w0 b A c gs B d ts w1 :=
  ⟨hb, h.lo, (hg.block b (lt_row h.row) (fun e => Kd.R_ne h' h.row n3 e)).trans h.row, R_type h.rg h' hg rfl n1, R_type h.rt h' hg rfl n2⟩
end
theorem R_keepf {α : Type} {κ : Kd α} {e base g t : Nat} {ok : Nat → Prop} {v : Value} {xs : List α} {cs : Array Value} {w w1 : World} (h : κ.R e w base ok v xs) (hk : KeepF (fun i => i = g) w w1) (hr : w.heap[g]? = some (.cells cs t (0, 0))) (hE : κ.E = []) (hne : e ≠ t) :
    κ.R e w1 base ok v xs := by
  refine Kd.R_mono (Kd.R_move (Kd.R_bound h) (fun q hq => hk.block q hq.2.2.1 (fun e9 => ?_))) (fun k hk => hk.1)
  obtain ⟨ty, hty, cells, hcs⟩ := hq.2.2.2
  rw [hE] at hty
  simp at hty
  subst hty
  rw [e9, hr] at hcs
  injection hcs with hcs
  injection hcs with _ hcs _
  exact hne hcs.symm
theorem Bld.none {base : Nat} {w0 w w1 : World} {b : Nat} {A : Option Addr} {c : Nat} {gs : List SG} {B : Option Addr} {d : Nat} {ts : List ST} (h : Bld base w0 b A c gs B d ts w) (hg : w.grownBy w1 none) (hb : Below base w0 w1) : Bld base w0 b A c gs B d ts w1 :=
  ⟨hb, h.lo, (hg.block b (lt_row h.row) (fun e => by cases e)).trans h.row, Kd.R_grown h.rg hg (fun k _ e => by cases e), Kd.R_grown h.rt hg (fun k _ e => by cases e)⟩
theorem eight_at {b o n : Nat} {xs : List ST} {w : World} (h : kT.C w (some ⟨b, o, none⟩) n xs) {k : Nat} {x : ST} (hx : xs[k]? = some x) (hk : k < n) :
    w.cell? ⟨b, o + k * 8, none⟩ = some (.int .i64 x.f0) ∧ w.cell? ⟨b, o + k * 8 + 1, none⟩ = some (.int .i64 x.f1) ∧ w.cell? ⟨b, o + k * 8 + 2, none⟩ = some (.int .i64 x.f2) ∧ w.cell? ⟨b, o + k * 8 + 3, none⟩ = some (.int .u64 x.f3) ∧ w.cell? ⟨b, o + k * 8 + 4, none⟩ = some (.bool x.f4) ∧ w.cell? ⟨b, o + k * 8 + 5, none⟩ = some (.int .i64 x.f5) ∧ w.cell? ⟨b, o + k * 8 + 6, none⟩ = some (.int .i64 x.f6.f0) ∧ w.cell? ⟨b, o + k * 8 + 7, none⟩ = some (.int .i64 x.f6.f1) := by
  obtain ⟨b', o', x', e, -, hx', t⟩ := T_one h hk
  cases e
  rw [hx] at hx'
  cases hx'
  exact t
theorem gint_is {xs : List SG} (h : Named xs) {x : SG} (hx : x ∈ xs) : ∃ j : Nat, gint xs x.f0 = (j : Int) ∧ xs[j]? = some x := by
  obtain ⟨j, hj⟩ := gidx_is (xs := xs) (id := x.f0) (by rw [gids_map]; exact List.mem_map.2 ⟨x, hx, rfl⟩)
  obtain ⟨y, hy, hy0⟩ := gidx_at xs _ _ hj
  obtain ⟨i, hi⟩ := List.mem_iff_getElem?.1 hx
  have := h.inj hy hi hy0
  subst this
  rw [hy] at hi; cases hi
  exact ⟨j, by unfold gint; rw [hj], hy⟩
theorem six_at {b o n : Nat} {xs : List SG} {w : World} (h : kG.C w (some ⟨b, o, none⟩) n xs) {k : Nat} {x : SG} (hx : xs[k]? = some x) (hk : k < n) :
    w.cell? ⟨b, o + k * 6, none⟩ = some (.int .i64 x.f0) ∧ w.cell? ⟨b, o + k * 6 + 1, none⟩ = some (.int .i64 x.f1) ∧ w.cell? ⟨b, o + k * 6 + 2, none⟩ = some (.int .i64 x.f2) ∧ w.cell? ⟨b, o + k * 6 + 3, none⟩ = some (.int .i64 x.f3.f0) ∧ w.cell? ⟨b, o + k * 6 + 4, none⟩ = some (.int .i64 x.f3.f1) ∧ w.cell? ⟨b, o + k * 6 + 5, none⟩ = some (.int .i64 x.f3.f2) := by
  obtain ⟨b', o', x', e, -, hx', t⟩ := G_one h hk
  cases e
  rw [hx] at hx'
  cases hx'
  exact t
theorem info_B : (Tryz.prog.info? 4).map (fun i => (i.zero, i.size, i.bytes)) = some (some (.bool false), 1, 1) := by kernel_rfl
def left (m b : Nat) (w : World) : Nat := m - (match w.cell? ⟨b, 1, none⟩ with | some (.slice _ k _) => k | _ => 0)
theorem left_is {m b k d : Nat} {A : Option Addr} {w : World} (h : w.cell? ⟨b, 1, none⟩ = some (.slice A k d)) : left m b w = m - k := by unfold left; rw [h]
set_option maxHeartbeats 8000000 in
set_option maxRecDepth 100000 in
theorem rOrder_calls (A : Option Addr) (n c : Nat) (xs : List SG) (B : Option Addr) (m d : Nat) (ts : List ST) (w : World) (hG : kG.C w A n xs) (hT : kT.C w B m ts) (hn0 : 0 < n) (hn : n ≤ 4096) (hm : m ≤ 4096)
    (hN : Named xs) (Y : Tree (xs.map gOf)) (hwh : rwhole xs = true) (hnd : (ts.map (·.f0)).Nodup) :
    Calls Tryz.prog 52 #[.agg #[.slice A n c, .slice B m d]] w (OrderPost xs ts w) := by
  have hln := hG.1
  have hlm := hT.1
  obtain ⟨ys, id0, hid0, hys, hyx, hru, hyl, hrok⟩ := under_rows Y (by rintro rfl; simp at hln; omega)
  rw [hln] at hru hrok hyl
  have hyl2 : ys.length ≤ 16785408 := Nat.le_trans hyl (by have := Nat.mul_le_mul (show n + 2 ≤ 4098 by omega) hn; omega)
  clear hyl
  obtain ⟨bG, oG, x0, rfl, -, hx0, z0, -, -, -, -, -⟩ := G_one hG hn0
  rw [hx0] at hid0
  have hid0 : x0.f0 = id0 := Option.some.inj hid0
  rw [hid0] at z0
  rw [show oG + 0 * 6 = oG by omega] at z0
  have zk := fun (W : World) (hW : Below w.heap.size w W) => pw_cell_below hW z0
  clear z0
  have HG := Aside0.mk hG
  have HT := Aside0.mk hT
  clear hG hT
  have p0 : (0 : Int) < (n : Int) := by omega
  have i0' : ((n : Int) == 0) = false := by simp; omega
  have kw := fun (W : World) (hW : Below w.heap.size w W) => Whole_calls (some ⟨bG, oG, none⟩) n c xs B m d W (Kd.C_below HG.out hW) (by omega)
  have kt := fun (W : World) (hW : Below w.heap.size w W) => tree_calls (some ⟨bG, oG, none⟩) n c xs B m d W (Kd.C_below HG.out hW) (by omega)
  rw [hwh] at kw
  replace hln := Aside0.mk hln; replace hlm := Aside0.mk hlm; replace hid0 := Aside0.mk hid0; replace hys := Aside0.mk hys; replace hyx := Aside0.mk hyx; replace hru := Aside0.mk hru; replace hyl2 := Aside0.mk hyl2; replace hrok := Aside0.mk hrok; replace zk := Aside0.mk zk; replace kw := Aside0.mk kw; replace kt := Aside0.mk kt; replace hN := Aside0.mk hN; replace Y := Aside0.mk Y; replace hwh := Aside0.mk hwh; replace hnd := Aside0.mk hnd
  go_enter Tryz.func52, Tryz.ntmps52
  go_wp2_with (first
    | (((with_reducible refine gate_dst (N := 1) rfl ?_); refine box_event ?hg (N := 1) ?hd (cs := #[.slice (some ⟨bG, oG, none⟩) n c, .slice B m d]) (t := 25) ?hr ?_; (case hd => rfl); (case hg => rfl); (case hr => first | (go_simp; done) | (go_simp; rfl)); intro b1 hb1 w1 kb1 bb1; replace hb1 := Aside0.mk hb1; replace kb1 := Aside0.mk kb1; replace bb1 := Aside0.mk bb1))
    | (((with_reducible refine gate_dst (N := 2) rfl ?_); refine box_event ?hg (N := 2) ?hd (cs := #[.slice none 0 0, .slice none 0 0]) (t := 25) ?hr ?_; (case hd => rfl); (case hg => rfl); (case hr => first | (go_simp; done) | (go_simp; rfl)); intro b2 hb2 w2 kb2 bb2; replace hb2 := Aside0.mk hb2; replace kb2 := Aside0.mk kb2; replace bb2 := Aside0.mk bb2); have k12 := Aside0.mk (row_below bb2.out kb1.out); have hB2 := Aside0.mk (bb1.out.trans (bb2.out.mono bb1.out.size)); have c0 := (Kf.cell_row k12.out 0).trans (rfl : _ = some (Value.slice (some ⟨bG, oG, none⟩) n c)); have c1 := (Kf.cell_row k12.out 1).trans (rfl : _ = some (Value.slice B m d)))
    | ((with_reducible refine gate_op (.load 25 (.tmp 1)) rfl ?_); refine wpList_load_midB rfl _ _ rfl ⟨b1, 0, none⟩ rfl [.slice (some ⟨bG, oG, none⟩) n c, .slice B m d] _ (two_cells c0 c1) Tryz.underlying25 rfl info_S ?_)
    | (go_at_call 51; (with_reducible refine (kw.out _ hB2.out).mono ?_); rintro e w3 ⟨rfl, hb3⟩; have hB3 := Aside0.mk (hB2.out.trans (hb3.mono hB2.out.size)); have k13 := Aside0.mk (row_below hb3 k12.out); have k23 := Aside0.mk (row_below hb3 kb2.out); replace c0 := pw_cell_below hb3 c0; replace c1 := pw_cell_below hb3 c1; clear hb3)
    | (((with_reducible refine gate_dst (N := 3) rfl ?_); refine box_event ?hg (N := 3) ?hd (cs := #[.slice none 0 0, .slice none 0 0]) (t := 25) ?hr ?_; (case hd => rfl); (case hg => rfl); (case hr => first | (go_simp; done) | (go_simp; rfl)); intro b3 hb3 w4 kb3 bb3; replace hb3 := Aside0.mk hb3; replace kb3 := Aside0.mk kb3; replace bb3 := Aside0.mk bb3); have k14 := Aside0.mk (row_below bb3.out k13.out); have k24 := Aside0.mk (row_below bb3.out k23.out); have hS := Aside0.mk (Bld.start (hB3.out.trans (bb3.out.mono hB3.out.size)) (by have := hb3.out; have := hB3.out.size; omega) kb3.out)))
  have h13 : Aside0 (b1 ≠ b3) := ⟨by have := hb3.out; have := lt_row k13.out; omega⟩
  have h23 : Aside0 (b2 ≠ b3) := ⟨by have := hb3.out; have := lt_row k23.out; omega⟩
  have h2w : Aside0 (w.heap.size ≤ b2) := ⟨by have := hb2.out; have := bb1.out.size; omega⟩
  have h12 : Aside0 (b1 ≠ b2) := ⟨by have := hb2.out; have := lt_row kb1.out; omega⟩
  replace c0 := pw_cell_below bb3.out c0
  replace c1 := pw_cell_below bb3.out c1
  have hSd := Aside0.mk hS.out.drew
  have z0 := zk.out _ hSd.out.below
  have z0' := zk.out _ hS.out.below
  clear kb1 bb1 kb2 bb2 k12 kb3 bb3 hb1 hb2 hb3 hB2 hB3 k13 k23
  go_region_held3 (fun w' => w'.cell? ⟨b1, 0, none⟩ = some (.slice (some ⟨bG, oG, none⟩) n c) ∧ w'.cell? ⟨b1, 1, none⟩ = some (.slice B m d) ∧ w'.cell? ⟨bG, oG, none⟩ = some (.int .i64 id0))
    (first | (with_reducible exact ⟨c0, c1, z0'⟩) | (with_reducible exact ⟨c0, c1, z0⟩) | (with_reducible exact s5) | (with_reducible exact s6) | go_keep)
    (first
      | (go_at_call 88; (with_reducible refine (kt.out _ hSd.out.below).mono ?_); rintro e w5 ⟨gt, Pt, ct, rfl, hIT, hb5⟩; have hS5 := Aside0.mk (hSd.out.grow hb5); have s5 : w5.cell? ⟨b1, 0, none⟩ = some (.slice (some ⟨bG, oG, none⟩) n c) ∧ w5.cell? ⟨b1, 1, none⟩ = some (.slice B m d) ∧ w5.cell? ⟨bG, oG, none⟩ = some (.int .i64 id0) := ⟨pw_cell_below hb5 c0, pw_cell_below hb5 c1, zk.out _ hS5.out.below⟩; have k15 := Aside0.mk (row_below hb5 (show w4.drew.heap[b1]? = _ from k14.out)); have k25 := Aside0.mk (row_below hb5 (show w4.drew.heap[b2]? = _ from k24.out)); clear hb5; replace hIT := Aside0.mk hIT)
      | (go_at_call 89; (with_reducible refine (Under_calls gt Pt ct (pairs xs) (by unfold pairs; rw [List.length_map, hln.out]; omega) (n + 1) id0 w5 hIT.out hrok.out (by rw [hru.out, List.length_map]; have := hyl2.out; omega)).mono ?_); rintro e w6 ⟨v6, rfl, hL6, hb6⟩; have hS6 := Aside0.mk (hS5.out.grow hb6); have s6 : w6.cell? ⟨b1, 0, none⟩ = some (.slice (some ⟨bG, oG, none⟩) n c) ∧ w6.cell? ⟨b1, 1, none⟩ = some (.slice B m d) ∧ w6.cell? ⟨bG, oG, none⟩ = some (.int .i64 id0) := ⟨pw_cell_below hb6 s5.1, pw_cell_below hb6 s5.2.1, zk.out _ hS6.out.below⟩; have k16 := Aside0.mk (row_below hb6 k15.out); have k26 := Aside0.mk (row_below hb6 k25.out); rw [hru.out] at hL6; replace hL6 := Aside0.mk (Kd.R_lower hL6 hS5.out.size); clear hb6)
      | ((with_reducible refine gate_op (.load 25 (.tmp 1)) rfl ?_); refine wpList_load_midB rfl _ _ rfl ⟨b1, 0, none⟩ rfl [.slice (some ⟨bG, oG, none⟩) n c, .slice B m d] _ (two_cells c0 c1) Tryz.underlying25 rfl info_S ?_))
  obtain ⟨ny, hny⟩ : ∃ ny, ys.length = ny := ⟨_, rfl⟩
  obtain ⟨A6, c6, e6, -, -⟩ := Kd.R_reads hL6.out
  rw [List.length_map, hny] at e6
  subst e6
  clear c0 c1 hSd z0 z0' hIT s5 s6 hS hS5 k14 k24 k15 k25 zk
  have hny2 : ny ≤ 16785408 := by rw [← hny]; exact hyl2.out
  replace hny := Aside0.mk hny
  go_wp2_with fail
  go_loopw [5] (fun iv wr => ∃ (k : Nat) (A1 : Option Addr) (cq : Nat) (gs : List SG), iv = .int .i64 k ∧ k ≤ ny ∧ Aside0 (gs = ys.take k) ∧ Aside0 (Bld w.heap.size w b3 A1 cq gs none 0 [] wr) ∧ Aside0 (wr.heap[b1]? = some (.cells #[.slice (some ⟨bG, oG, none⟩) n c, .slice B m d] 25 (0, 0))) ∧ Aside0 (wr.heap[b2]? = some (.cells #[.slice none 0 0, .slice none 0 0] 25 (0, 0))) ∧ Aside0 ((Kd.int .i64).R 3 wr w.heap.size (fun _ => True) (.slice A6 ny c6) (ys.map (·.f0)))) (fun iv _ => ny - (intOf iv).toNat)
  case atStart => exact ⟨0, none, 0, [], rfl, Nat.zero_le _, ⟨by simp⟩, hS6, k16, k26, hL6⟩
  case round =>
    clear hS6 k16 k26 hL6
    obtain ⟨k, A1, cq, gs, rfl, hk, hgs, hSr, k1r, k2r, hLr⟩ := hrel
    have e0 := (Kf.cell_row k1r.out 0).trans (rfl : _ = some (Value.slice (some ⟨bG, oG, none⟩) n c))
    have e1 := (Kf.cell_row k1r.out 1).trans (rfl : _ = some (Value.slice B m d))
    by_cases hlt : k < ny
    · have p1 : 0 ≤ (k : Int) := by omega
      have q1 : (k : Int) < (ny : Int) := by omega
      obtain ⟨x1, hx1⟩ : ∃ x1, ys[k]? = some x1 := ⟨_, List.getElem?_eq_getElem (by rw [hny.out]; exact hlt)⟩
      obtain ⟨j, hj, hxj⟩ := gint_is hN.out (hyx.out x1 (List.mem_of_getElem? hx1))
      have hjn : j < n := by have := (List.getElem?_eq_some_iff.1 hxj).1; rw [hln.out] at this; exact this
      have pj : 0 ≤ (j : Int) := by omega
      have qj : (j : Int) < (n : Int) := by omega
      have hrdk : ∀ W (v : Value), (Kd.int .i64).R 3 W w.heap.size (fun _ => True) (.slice A6 ny c6) (ys.map (·.f0)) → ∃ ad, A6 = some ad ∧ W.cell? (ad.add k) = some (.int .i64 x1.f0) := fun W _ h => by
        obtain ⟨-, -, hC⟩ := Kd.R_reads' h
        rw [List.length_map, hny.out] at hC
        obtain ⟨ad, e, h2⟩ := Kd.at_int hC (k : Int) p1 q1
        rw [Int.toNat_natCast, show Go.Proofs.YtpnjhffnlafabaaGreatDoorW.PrintWords.rd (ys.map (·.f0)) k = x1.f0 from by unfold Go.Proofs.YtpnjhffnlafabaaGreatDoorW.PrintWords.rd; rw [Int.toNat_natCast, List.getD_eq_getElem?_getD, List.getElem?_map, hx1]; rfl] at h2
        exact ⟨ad, e, h2⟩
      obtain ⟨ad, rfl, y1⟩ := hrdk wr undef hLr.out
      have sOf : ∀ W, Below w.heap.size w W → W.heap[b1]? = some (.cells #[.slice (some ⟨bG, oG, none⟩) n c, .slice B m d] 25 (0, 0)) → (Kd.int .i64).R 3 W w.heap.size (fun _ => True) (.slice (some ad) ny c6) (ys.map (·.f0)) → (W.cell? ⟨b1, 0, none⟩ = some (.slice (some ⟨bG, oG, none⟩) n c) ∧ W.cell? ⟨b1, 1, none⟩ = some (.slice B m d) ∧ W.cell? (ad.add k) = some (.int .i64 x1.f0) ∧ W.cell? ⟨bG, oG + j * 6, none⟩ = some (.int .i64 x1.f0) ∧ W.cell? ⟨bG, oG + j * 6 + 1, none⟩ = some (.int .i64 x1.f1) ∧ W.cell? ⟨bG, oG + j * 6 + 2, none⟩ = some (.int .i64 x1.f2) ∧ W.cell? ⟨bG, oG + j * 6 + 3, none⟩ = some (.int .i64 x1.f3.f0) ∧ W.cell? ⟨bG, oG + j * 6 + 4, none⟩ = some (.int .i64 x1.f3.f1) ∧ W.cell? ⟨bG, oG + j * 6 + 5, none⟩ = some (.int .i64 x1.f3.f2)) := fun W h1 h2 h3 => by
        obtain ⟨ad', e, h4⟩ := hrdk W undef h3
        cases e
        exact ⟨(Kf.cell_row h2 0).trans rfl, (Kf.cell_row h2 1).trans rfl, h4, six_at (Kd.C_below HG.out h1) hxj hjn⟩
      have d0r := (cell_row hSr.out.row 0).trans (rfl : _ = some (Value.slice A1 gs.length cq))
      obtain ⟨n1, hn1⟩ : ∃ n1, gs.length = n1 := ⟨_, rfl⟩
      have hl8 : (gs.length + 1) * 48 ≤ 140737488355328 := by
        rw [hgs.out]
        have h2 := List.length_take_le k ys
        omega
      rw [hn1] at d0r
      obtain ⟨n2, hn2⟩ : ∃ n2, (gs ++ [x1]).length = n2 := ⟨_, rfl⟩
      have hSd := Aside0.mk hSr.out.drew
      have hLd := Aside0.mk (Kd.R_drew hLr.out)
      have s0 := sOf wr.drew hSd.out.below k1r.out hLd.out
      have kg := group_calls (some ⟨bG, oG, none⟩) n c xs (.slice B m d) x1.f0 wr.drew (Kd.C_below HG.out hSd.out.below)
      rw [hj] at kg
      have hgs' : gs ++ [x1] = ys.take (k + 1) := by rw [List.take_add_one, hx1, hgs.out]; rfl
      clear y1 e0 e1
      have d0d : wr.drew.cell? ⟨b3, 0, none⟩ = some (.slice A1 n1 cq) := d0r
      replace hx1 := Aside0.mk hx1; replace hn1 := Aside0.mk hn1; replace hl8 := Aside0.mk hl8; replace hn2 := Aside0.mk hn2; replace hgs' := Aside0.mk hgs'; replace hj := Aside0.mk hj; replace hxj := Aside0.mk hxj; replace hrdk := Aside0.mk hrdk; replace sOf := Aside0.mk sOf; replace kg := Aside0.mk kg
      go_wp2_with fail
      (refine Ht.begin2 13 (fun w' => w'.cell? ⟨b3, 0, none⟩ = some (.slice A1 n1 cq) ∧ w'.cell? ⟨b1, 0, none⟩ = some (.slice (some ⟨bG, oG, none⟩) n c) ∧ w'.cell? ⟨b1, 1, none⟩ = some (.slice B m d) ∧ w'.cell? (ad.add k) = some (.int .i64 x1.f0) ∧ w'.cell? ⟨bG, oG + j * 6, none⟩ = some (.int .i64 x1.f0) ∧ w'.cell? ⟨bG, oG + j * 6 + 1, none⟩ = some (.int .i64 x1.f1) ∧ w'.cell? ⟨bG, oG + j * 6 + 2, none⟩ = some (.int .i64 x1.f2) ∧ w'.cell? ⟨bG, oG + j * 6 + 3, none⟩ = some (.int .i64 x1.f3.f0) ∧ w'.cell? ⟨bG, oG + j * 6 + 4, none⟩ = some (.int .i64 x1.f3.f1) ∧ w'.cell? ⟨bG, oG + j * 6 + 5, none⟩ = some (.int .i64 x1.f3.f2)) (by kernel_rfl) (by kernel_rfl) ⟨d0d, s0⟩ ?_; intro hSnow; (try dsimp only at hSnow); simp only [List.take_succ_cons, List.take_zero, List.drop_succ_cons, List.drop_zero]; repeat (refine Ht.Hx.take (v := ?_) (by kernel_rfl) (by kernel_rfl) (fun _ _ _ h => h) (by with_reducible exact hSnow) (Or.inl ⟨by rfl, fun w hSw => ?_⟩) ?_; rotate_left; focus ((try dsimp only at hSw); go_simp; (try with_reducible rfl); done)); (try simp only [Act.put, List.setIfInBounds_toArray, List.set_cons_zero, List.set_cons_succ]))
      (refine Ht.Hx.effect (by kernel_rfl) ?_; go_wp2_with ((go_at_call 50; (with_reducible refine kg.out.mono ?_); rintro e w10 ⟨rfl, hb10⟩; have hS10 := Aside0.mk (hSd.out.grow hb10); have k110 := Aside0.mk (row_below hb10 (show wr.drew.heap[b1]? = _ from k1r.out)); have k210 := Aside0.mk (row_below hb10 (show wr.drew.heap[b2]? = _ from k2r.out)); have hL10 := Aside0.mk (Kd.R_below hLd.out hb10);  have ba := below_alloc (Below.refl w10.heap.size w10) (.cells #[.int .i64 x1.f0, .int .i64 x1.f1, .int .i64 x1.f2, .int .i64 x1.f3.f0, .int .i64 x1.f3.f1, .int .i64 x1.f3.f2] 50);  have d010 := (cell_row hS10.out.row 0).trans (rfl : _ = some (Value.slice A1 gs.length cq)); rw [hn1.out] at d010; have s10 := (⟨d010, sOf.out w10 hS10.out.below k110.out hL10.out⟩ : _ ∧ _); have s10a := (⟨pw_cell_below ba d010, sOf.out _ (hS10.out.grow ba).below (row_below ba k110.out) (Kd.R_below hL10.out ba)⟩ : _ ∧ _); have hR10 : kG.R 50 w10 w.heap.size (fun _ => True) (.slice A1 n1 cq) gs := (by rw [← hn1.out]; exact hS10.out.rg); replace hR10 := Aside0.mk hR10; clear hb10 ba d010)); refine ⟨s10, ?_⟩; clear hSnow; (have hSnow := s10); repeat (refine Ht.Hx.take (v := ?_) (by kernel_rfl) (by kernel_rfl) (fun _ _ _ h => h) (by with_reducible exact hSnow) (Or.inl ⟨by rfl, fun w hSw => ?_⟩) ?_; rotate_left; focus ((try dsimp only at hSw); go_simp; (try with_reducible rfl); done)); (try simp only [Act.put, List.setIfInBounds_toArray, List.set_cons_zero, List.set_cons_succ]))
      (refine Ht.Hx.effect (by kernel_rfl) ?_; go_wp2_with (fail); refine ⟨s10a, ?_⟩; clear hSnow; (have hSnow := s10a); repeat (refine Ht.Hx.take (v := ?_) (by kernel_rfl) (by kernel_rfl) (fun _ _ _ h => h) (by with_reducible exact hSnow) (Or.inl ⟨by rfl, fun w hSw => ?_⟩) ?_; rotate_left; focus ((try dsimp only at hSw); go_simp; (try with_reducible rfl); done)); (try simp only [Act.put, List.setIfInBounds_toArray, List.set_cons_zero, List.set_cons_succ]))
      (refine Ht.Hx.done (by kernel_rfl) ?_; clear hSnow)
      go_wp2_with (((with_reducible refine gate_builtin (b := .append) (xs := #[.tmp 34, .tmp 45]) rfl ?_); at_builtin; refine Kd.R_append kG (w0 := w) w.heap.size rfl (.tmp 34) (.tmp 45) 22 50 (.agg zG.toArray) 48 rfl Tryz.underlying22 infoG3 rfl (by decide) (by omega) (.slice A1 n1 cq) gs x1 ([.int .i64 x1.f0, .int .i64 x1.f1, .int .i64 x1.f2, .int .i64 x1.f3.f0, .int .i64 x1.f3.f1, .int .i64 x1.f3.f2] : List Value) (fun _ => True) (fun _ => False) rfl rfl ?aP (fun _ hk => hk.elim) (fun _ _ => trivial) hR10.out hS10.out.below hS10.out.size hl8.out ?_; (case aP => exact k50_mkM _ _ _ _); intro v2 w11 hR11 hb11 hg11 hat11; obtain ⟨A2, c2, ev2, hd2, _⟩ := Kd.R_reads hR11; rw [hn2.out] at ev2; subst ev2; rw [← hn2.out] at hR11; rw [← hn1.out] at hg11; have hr11 := (hg11.block b3 (lt_row hS10.out.row) (fun e => Kd.R_ne hS10.out.rg hS10.out.row (by decide) e)).trans hS10.out.row; have d011 := (cell_row hr11 0).trans (rfl : _ = some (Value.slice A1 gs.length cq)); have d111 : w11.frozen? ⟨b3, 0, none⟩ = false := frozen_row hr11 0; have hL11 := R_type hL10.out hS10.out.rg hg11 rfl (by decide); have k111 := (hg11.block b1 (lt_row k110.out) (fun e => Kd.R_ne hS10.out.rg k110.out (by decide) e)).trans k110.out; have hS12 := Aside0.mk (hS10.out.pushG hR11 hb11 hg11); rw [hn2.out] at hS12; have k112 := Aside0.mk (hS10.out.keepG (v := .slice A2 n2 c2) hg11 k110.out h13.out); have k212 := Aside0.mk (hS10.out.keepG (v := .slice A2 n2 c2) hg11 k210.out h23.out); have hL12 := Aside0.mk (R_cell (i := 0) (u := .slice A2 n2 c2) hL11 hr11 rfl (by decide)); replace hR11 := Aside0.mk hR11; replace hb11 := Aside0.mk hb11; replace hg11 := Aside0.mk hg11; replace hat11 := Aside0.mk hat11; replace hr11 := Aside0.mk hr11; replace hL11 := Aside0.mk hL11; replace k111 := Aside0.mk k111))
      all_goals go_wp2_with fail
      all_goals go_roundw
      all_goals try (case measure => show ny - ((k : Int) + 1).toNat < ny - (k : Int).toNat; omega)
      all_goals exact ⟨k + 1, A2, c2, gs ++ [x1], by simp, by omega, hgs', hS12, k112, k212, hL12⟩
    · obtain rfl : ny = k := by omega
      have hgsA : Aside0 (gs = ys) := ⟨by rw [hgs.out, List.take_of_length_le (by rw [hny.out]; exact Nat.le_refl _)]⟩
      clear hgs hLr
      go_wp2_with ((with_reducible refine gate_dst (N := 51) rfl ?_); refine Kd.R_make Kd.bool (w0 := w) w.heap.size 4 rfl (N := 51) rfl 125 (.tmp 50) (.tmp 50) rfl (m : Int) rfl rfl Tryz.underlying125 (.bool false) 1 info_B rfl (by decide) (by decide) false (ok := fun _ => True) (okp := fun _ => False) rfl (fun _ h => h.elim) trivial (by omega) (by omega) hSr.out.below hSr.out.size ?_; intro v6 w6 hU6 hb6 hg6 hat6; rw [Int.toNat_natCast] at hU6; have hS6 := Aside0.mk (hSr.out.none hg6 hb6); have k16 := Aside0.mk ((hg6.block b1 (lt_row k1r.out) (fun e => by cases e)).trans k1r.out); have k26 := Aside0.mk ((hg6.block b2 (lt_row k2r.out) (fun e => by cases e)).trans k2r.out); replace hU6 := Aside0.mk hU6; replace hb6 := Aside0.mk hb6; replace hg6 := Aside0.mk hg6; replace hat6 := Aside0.mk hat6)
      obtain ⟨AU, cU, eU, -, -⟩ := Kd.R_reads hU6.out
      rw [List.length_replicate] at eU
      subst eU
      have hSel0 := Aside0.mk (Sel.start ts)
      rw [hlm.out] at hSel0
      clear hSr k1r k2r e0 e1 hb6 hg6 hat6
      go_loopw [7] (fun _ wt => ∃ (j : Nat) (B1 : Option Addr) (d1 : Nat) (us : List Bool), j ≤ m ∧ Aside0 (Bld w.heap.size w b3 A1 cq gs B1 d1 ((sortS ts).take j) wt) ∧ Aside0 (wt.heap[b1]? = some (.cells #[.slice (some ⟨bG, oG, none⟩) n c, .slice B m d] 25 (0, 0))) ∧ Aside0 (wt.heap[b2]? = some (.cells #[.slice none 0 0, .slice none 0 0] 25 (0, 0))) ∧ Aside0 (Kd.bool.R 4 wt w.heap.size (fun _ => True) (.slice AU m cU) us) ∧ Aside0 (Sel ts us j)) (fun _ wt => left m b3 wt)
      case atStart => exact ⟨0, none, 0, _, Nat.zero_le _, hS6, k16, k26, hU6, hSel0⟩
      case round =>
        clear hS6 k16 k26 hU6 hSel0
        obtain ⟨j, B1, d1, us, hjm, hSr, k1r, k2r, hUr, hSel⟩ := hrel
        have hls : (sortS ts).length = m := by rw [(sortS_perm ts).length_eq, hlm.out]
        have htl : ((sortS ts).take j).length = j := by rw [List.length_take, hls]; omega
        have e1 := (Kf.cell_row k1r.out 1).trans (rfl : _ = some (Value.slice B m d))
        have d1r := (cell_row hSr.out.row 1).trans (rfl : _ = some (Value.slice B1 ((sortS ts).take j).length d1))
        rw [htl] at d1r
        by_cases hlt : j < m
        · have q1 : (j : Int) < (m : Int) := by omega
          obtain ⟨bi, x1, hbest, hxb, hxj, hub, hSel'⟩ := hSel.out.next hnd.out (by rw [hlm.out]; exact hlt)
          rw [hlm.out] at hbest
          have d1r' := Aside0.mk d1r
          replace hls := Aside0.mk hls; replace htl := Aside0.mk htl; replace hbest := Aside0.mk hbest; replace hxb := Aside0.mk hxb; replace hxj := Aside0.mk hxj; replace hub := Aside0.mk hub; replace hSel' := Aside0.mk hSel'
          go_wp2_with fail
          go_loopw [7, 8] (fun bv iv wz => ∃ (b : Int) (k : Nat), bv = .int .i64 b ∧ iv = .int .i64 k ∧ k ≤ m ∧ Aside0 ((List.range k).foldl (rbestF us ts) (-1) = b) ∧ Aside0 (Below wr.heap.size wr wz)) (fun _ iv _ => m - (intOf iv).toNat)
          case atStart => exact ⟨-1, 0, rfl, rfl, Nat.zero_le _, ⟨rfl⟩, ⟨Below.refl _ _⟩⟩
          case round =>
            obtain ⟨b, k, rfl, rfl, hk, hbk, hbz⟩ := hrel
            have e1z := pw_cell_below hbz.out e1
            by_cases hlk : k < m
            · have p2 : 0 ≤ (k : Int) := by omega
              have q2 : (k : Int) < (m : Int) := by omega
              have HTz := Kd.C_below HT.out (hSr.out.grow hbz.out).below
              obtain ⟨bT, oT, tk, rfl, -, htk, y0, -, -, -, -, -, -, -⟩ := T_one HTz hlk
              obtain ⟨hn9, -, hC9⟩ := Kd.R_reads' (Kd.R_below hUr.out hbz.out)
              rw [← hn9] at hC9
              obtain ⟨ad, rfl, y9⟩ := Kd.at_bool hC9 (k : Int) p2 q2
              rw [Int.toNat_natCast] at y9
              have hus : us[k]? = some (rdOf false us (k : Int)) := by
                unfold rdOf
                rw [Int.toNat_natCast, List.getD_eq_getElem?_getD, List.getElem?_eq_getElem (by omega)]; rfl
              obtain ⟨u, hu⟩ : ∃ u, rdOf false us (k : Int) = u := ⟨_, rfl⟩
              rw [hu] at y9 hus
              have hsp := rbest_spec us ts k
              simp only [] at hsp
              rw [hbk.out] at hsp
              have hnext : ∀ r : Int, rbestF us ts b k = r → (List.range (k + 1)).foldl (rbestF us ts) (-1) = r := fun r h => by
                rw [List.range_succ, List.foldl_append, hbk.out]; exact h
              have htidk : tid ts (k : Int) = tk.f0 := by unfold tid; rw [Int.toNat_natCast, htk]; rfl
              clear hn9 hC9 hu
              cases u with
              | true =>
                have hb' := hnext b (by unfold rbestF; rw [if_neg]; rw [hus]; rintro ⟨h, -⟩; cases h)
                clear hsp y0
                replace htk := Aside0.mk htk; replace hus := Aside0.mk hus; replace hnext := Aside0.mk hnext; replace htidk := Aside0.mk htidk; replace hb' := Aside0.mk hb'; replace HTz := Aside0.mk HTz
                go_wp2_with fail
                go_quiet (fail)
                go_wp2_with fail
                go_roundw
                case rel => exact ⟨b, k + 1, rfl, by simp, by omega, hb', ⟨pw_below_drewN hbz.out _⟩⟩
                case measure => show m - ((k : Int) + 1).toNat < m - (k : Int).toNat; omega
              | false =>
                rcases hsp with ⟨rfl, -⟩ | ⟨jb, hjb, rfl, -, -⟩
                · have hb' := hnext (k : Int) (by unfold rbestF; rw [if_pos ⟨hus, .inl (by omega)⟩])
                  have z1 : (-1 : Int) < 0 := by omega
                  clear y0
                  replace htk := Aside0.mk htk; replace hus := Aside0.mk hus; replace hnext := Aside0.mk hnext; replace htidk := Aside0.mk htidk; replace hb' := Aside0.mk hb'; replace HTz := Aside0.mk HTz
                  go_wp2_with fail
                  go_quiet (fail)
                  go_wp2_with fail
                  go_roundw
                  case rel => exact ⟨(k : Int), k + 1, rfl, by simp, by omega, hb', ⟨pw_below_drewN hbz.out _⟩⟩
                  case measure => show m - ((k : Int) + 1).toNat < m - (k : Int).toNat; omega
                · have hjm2 : jb < m := by omega
                  have p3 : 0 ≤ (jb : Int) := by omega
                  have q3 : (jb : Int) < (m : Int) := by omega
                  have z1 : ¬ (jb : Int) < 0 := by omega
                  obtain ⟨bT', oT', tj, e9, -, htj, y1, -, -, -, -, -, -, -⟩ := T_one HTz hjm2
                  cases e9
                  have htidj : tid ts (jb : Int) = tj.f0 := by unfold tid; rw [Int.toNat_natCast, htj]; rfl
                  by_cases hcmp : tk.f0 < tj.f0
                  · have hb' := hnext (k : Int) (by unfold rbestF; rw [if_pos ⟨hus, .inr (by rw [htidk, htidj]; exact hcmp)⟩])
                    replace htk := Aside0.mk htk; replace htj := Aside0.mk htj; replace hus := Aside0.mk hus; replace hnext := Aside0.mk hnext; replace htidk := Aside0.mk htidk; replace htidj := Aside0.mk htidj; replace hb' := Aside0.mk hb'; replace HTz := Aside0.mk HTz
                    go_wp2_with fail
                    go_quiet (fail)
                    go_wp2_with fail
                    go_roundw
                    case rel => exact ⟨(k : Int), k + 1, rfl, by simp, by omega, hb', ⟨pw_below_drewN hbz.out _⟩⟩
                    case measure => show m - ((k : Int) + 1).toNat < m - (k : Int).toNat; omega
                  · have hb' := hnext (jb : Int) (by unfold rbestF; rw [if_neg]; rintro ⟨-, h | h⟩; · omega
                                                     · rw [htidk, htidj] at h; omega)
                    replace htk := Aside0.mk htk; replace htj := Aside0.mk htj; replace hus := Aside0.mk hus; replace hnext := Aside0.mk hnext; replace htidk := Aside0.mk htidk; replace htidj := Aside0.mk htidj; replace hb' := Aside0.mk hb'; replace HTz := Aside0.mk HTz
                    go_wp2_with fail
                    go_quiet (fail)
                    go_wp2_with fail
                    go_roundw
                    case rel => exact ⟨(jb : Int), k + 1, rfl, by simp, by omega, hb', ⟨pw_below_drewN hbz.out _⟩⟩
                    case measure => show m - ((k : Int) + 1).toNat < m - (k : Int).toNat; omega
            · obtain rfl : m = k := by omega
              have hbe : (bi : Int) = b := by rw [← hbest.out]; exact hbk.out
              subst hbe
              have hbm : bi < m := by have := (List.getElem?_eq_some_iff.1 hxb.out).1; rw [hlm.out] at this; exact this
              have p2 : 0 ≤ (bi : Int) := by omega
              have q2 : (bi : Int) < (m : Int) := by omega
              have hSz := Aside0.mk (hSr.out.grow hbz.out)
              have k1z := Aside0.mk (row_below hbz.out k1r.out)
              have k2z := Aside0.mk (row_below hbz.out k2r.out)
              have hUz := Aside0.mk (Kd.R_below hUr.out hbz.out)
              clear hSr k1r k2r hUr hbz e1 d1r hbk hbest
              obtain ⟨bT, oT, x1', rfl, -, -, -, -, -, -, -, -, -, -⟩ := T_one (Kd.C_below HT.out hSz.out.below) hbm
              obtain ⟨hn9, -, hC9⟩ := Kd.R_reads' hUz.out
              rw [← hn9] at hC9
              obtain ⟨ad, rfl, y9⟩ := Kd.at_bool hC9 (bi : Int) p2 q2
              obtain ⟨gu, rfl⟩ := Kd.R_head hUz.out
              rw [show rdOf false us (bi : Int) = false from by unfold rdOf; rw [Int.toNat_natCast, List.getD_eq_getElem?_getD, hub.out]; rfl] at y9
              clear hn9 hC9
              have y9' := y9
              rw [Int.toNat_natCast] at y9
              have hcc : ∀ i1 v1, ([.bool false] : List Value)[i1]? = some v1 → wr.cell? ⟨gu, (bi : Int).toNat * Kd.bool.sz + i1, none⟩ = some v1 := by
                intro i1 v1 hv1
                cases i1 with
                | zero => cases hv1; exact (by simpa [Kd.bool, Kd.scalar, add_at] using y9')
                | succ i1 => simp at hv1
              replace hcc := Aside0.mk hcc
              clear y9'
              go_wp2_with (refine Kd.R_store Kd.bool (w0 := w) w.heap.size rfl rfl 4 _ _ rfl 4 (bi : Int) 0 us true (.bool true) [.bool true] [.bool false] (fun _ => True) (fun _ => False) rfl (by simp [Kd.bool, Kd.scalar]) rfl rfl (by kernel_rfl) (fun v hv => by simp at hv; subst hv; rfl) hUz.out p2 q2 rfl hcc.out (by decide) rfl (fun _ h => h.elim) hSz.out.below ?_; intro w7 hU7 hb7 hg7; rw [Int.toNat_natCast] at hU7; have hS7 := Aside0.mk (hSz.out.other hUz.out hg7 hb7 (by decide) (by decide) (by decide)); have k17 := Aside0.mk ((hg7.block b1 (lt_row k1z.out) (fun e => Kd.R_ne hUz.out k1z.out (by decide) e)).trans k1z.out); have k27 := Aside0.mk ((hg7.block b2 (lt_row k2z.out) (fun e => Kd.R_ne hUz.out k2z.out (by decide) e)).trans k2z.out); replace hU7 := Aside0.mk hU7; replace hb7 := Aside0.mk hb7; replace hg7 := Aside0.mk hg7)
              have d17 := (cell_row hS7.out.row 1).trans (rfl : _ = some (Value.slice B1 ((sortS ts).take j).length d1))
              rw [htl.out] at d17
              have d1d : w7.drew.cell? ⟨b3, 1, none⟩ = some (.slice B1 j d1) := d17
              have sOf : ∀ W, Below w.heap.size w W → W.cell? ⟨b3, 1, none⟩ = some (.slice B1 j d1) → W.heap[b1]? = some (.cells #[.slice (some ⟨bG, oG, none⟩) n c, .slice (some ⟨bT, oT, none⟩) m d] 25 (0, 0)) → (W.cell? ⟨b3, 1, none⟩ = some (.slice B1 j d1) ∧ W.cell? ⟨b1, 1, none⟩ = some (.slice (some ⟨bT, oT, none⟩) m d) ∧ W.cell? ⟨bT, oT + bi * 8, none⟩ = some (.int .i64 x1.f0) ∧ W.cell? ⟨bT, oT + bi * 8 + 1, none⟩ = some (.int .i64 x1.f1) ∧ W.cell? ⟨bT, oT + bi * 8 + 2, none⟩ = some (.int .i64 x1.f2) ∧ W.cell? ⟨bT, oT + bi * 8 + 3, none⟩ = some (.int .u64 x1.f3) ∧ W.cell? ⟨bT, oT + bi * 8 + 4, none⟩ = some (.bool x1.f4) ∧ W.cell? ⟨bT, oT + bi * 8 + 5, none⟩ = some (.int .i64 x1.f5) ∧ W.cell? ⟨bT, oT + bi * 8 + 6, none⟩ = some (.int .i64 x1.f6.f0) ∧ W.cell? ⟨bT, oT + bi * 8 + 7, none⟩ = some (.int .i64 x1.f6.f1)) := fun W h1 h2 h3 => ⟨h2, (Kf.cell_row h3 1).trans rfl, eight_at (Kd.C_below HT.out h1) hxb.out hbm⟩
              have s0 := sOf w7.drew hS7.out.drew.below d1d k17.out
              have ba := below_alloc (Below.refl w7.drew.heap.size w7.drew) (.cells #[.int .i64 x1.f0, .int .i64 x1.f1, .int .i64 x1.f2, .int .u64 x1.f3, .bool x1.f4, .int .i64 x1.f5, .int .i64 x1.f6.f0, .int .i64 x1.f6.f1] 59)
              have s1 := sOf _ (hS7.out.drew.grow ba).below (pw_cell_below ba d1d) (row_below ba (show w7.drew.heap[b1]? = _ from k17.out))
              have hSd := Aside0.mk hS7.out.drew
              have hRd : kT.R 59 w7.drew w.heap.size (fun _ => True) (.slice B1 j d1) ((sortS ts).take j) := by have := hSd.out.rt; rw [htl.out] at this; exact this
              have hl8 : (((sortS ts).take j).length + 1) * 64 ≤ 140737488355328 := by rw [htl.out]; omega
              have htk1 : (sortS ts).take j ++ [x1] = (sortS ts).take (j + 1) := by rw [List.take_add_one, hxj.out]; rfl
              have hn2 : ((sortS ts).take (j + 1)).length = j + 1 := by rw [List.length_take, hls.out]; omega
              replace hRd := Aside0.mk hRd; replace hl8 := Aside0.mk hl8; replace htk1 := Aside0.mk htk1; replace hn2 := Aside0.mk hn2; replace ba := Aside0.mk ba; replace sOf := Aside0.mk sOf; replace d1d := Aside0.mk d1d
              clear d17 y9 e1z
              go_wp2_with fail
              (refine Ht.begin2 8 (fun w' => w'.cell? ⟨b3, 1, none⟩ = some (.slice B1 j d1) ∧ w'.cell? ⟨b1, 1, none⟩ = some (.slice (some ⟨bT, oT, none⟩) m d) ∧ w'.cell? ⟨bT, oT + bi * 8, none⟩ = some (.int .i64 x1.f0) ∧ w'.cell? ⟨bT, oT + bi * 8 + 1, none⟩ = some (.int .i64 x1.f1) ∧ w'.cell? ⟨bT, oT + bi * 8 + 2, none⟩ = some (.int .i64 x1.f2) ∧ w'.cell? ⟨bT, oT + bi * 8 + 3, none⟩ = some (.int .u64 x1.f3) ∧ w'.cell? ⟨bT, oT + bi * 8 + 4, none⟩ = some (.bool x1.f4) ∧ w'.cell? ⟨bT, oT + bi * 8 + 5, none⟩ = some (.int .i64 x1.f5) ∧ w'.cell? ⟨bT, oT + bi * 8 + 6, none⟩ = some (.int .i64 x1.f6.f0) ∧ w'.cell? ⟨bT, oT + bi * 8 + 7, none⟩ = some (.int .i64 x1.f6.f1)) (by kernel_rfl) (by kernel_rfl) s0 ?_; intro hSnow; (try dsimp only at hSnow); simp only [List.take_succ_cons, List.take_zero, List.drop_succ_cons, List.drop_zero]; repeat (refine Ht.Hx.take (v := ?_) (by kernel_rfl) (by kernel_rfl) (fun _ _ _ h => h) (by with_reducible exact hSnow) (Or.inl ⟨by rfl, fun w hSw => ?_⟩) ?_; rotate_left; focus ((try dsimp only at hSw); go_simp; (try with_reducible rfl); done)); (try simp only [Act.put, List.setIfInBounds_toArray, List.set_cons_zero, List.set_cons_succ]))
              (refine Ht.Hx.effect (by kernel_rfl) ?_; go_wp2_with (fail); refine ⟨s1, ?_⟩; clear hSnow; (have hSnow := s1); repeat (refine Ht.Hx.take (v := ?_) (by kernel_rfl) (by kernel_rfl) (fun _ _ _ h => h) (by with_reducible exact hSnow) (Or.inl ⟨by rfl, fun w hSw => ?_⟩) ?_; rotate_left; focus ((try dsimp only at hSw); go_simp; (try with_reducible rfl); done)); (try simp only [Act.put, List.setIfInBounds_toArray, List.set_cons_zero, List.set_cons_succ]))
              (refine Ht.Hx.done (by kernel_rfl) ?_; clear hSnow)
              go_wp2_with (((with_reducible refine gate_builtin (b := .append) (xs := #[.tmp 95, .tmp 101]) rfl ?_); at_builtin; refine Kd.R_append kT (w0 := w) w.heap.size rfl (.tmp 95) (.tmp 101) 23 59 (.agg #[.int .i64 0, .int .i64 0, .int .i64 0, .int .u64 0, .bool false, .int .i64 0, .int .i64 0, .int .i64 0]) 64 rfl Tryz.underlying23 infoT rfl (by decide) (by omega) (.slice B1 j d1) ((sortS ts).take j) x1 ([.int .i64 x1.f0, .int .i64 x1.f1, .int .i64 x1.f2, .int .u64 x1.f3, .bool x1.f4, .int .i64 x1.f5, .int .i64 x1.f6.f0, .int .i64 x1.f6.f1] : List Value) (fun _ => True) (fun _ => False) rfl rfl ?aP (fun _ hk => hk.elim) (fun _ _ => trivial) hRd.out hSd.out.below hSd.out.size hl8.out ?_; (case aP => exact k59_mkM _ _ _ _); intro v2 w10 hR10 hb10 hg10 hat10; obtain ⟨B2, d2, ev2, hd2, _⟩ := Kd.R_reads hR10; rw [htk1.out] at ev2 hR10; rw [hn2.out] at ev2; subst ev2; have hR10' : kT.R 59 w10 w.heap.size (fun _ => True) (.slice B2 ((sortS ts).take (j + 1)).length d2) ((sortS ts).take (j + 1)) := (by rw [hn2.out]; exact hR10); have hg10' : w7.drew.grownBy w10 (Value.slice B1 ((sortS ts).take j).length d1).ownBlock := (by rw [htl.out]; exact hg10); have hr10 := (hg10.block b3 (lt_row hSd.out.row) (fun e => Kd.R_ne hRd.out hSd.out.row (by decide) e)).trans hSd.out.row; have s10 := (cell_row hr10 1).trans (rfl : _ = some (Value.slice B1 ((sortS ts).take j).length d1)); have s11 : w10.frozen? ⟨b3, 1, none⟩ = false := frozen_row hr10 1; have hS12 := hSd.out.pushT hR10' hb10 hg10'; rw [hn2.out] at hS12; have k112 := Aside0.mk (hSd.out.keepT (v := .slice B2 (j + 1) d2) hg10' (show w7.drew.heap[b1]? = _ from k17.out) h13.out); have k212 := Aside0.mk (hSd.out.keepT (v := .slice B2 (j + 1) d2) hg10' (show w7.drew.heap[b2]? = _ from k27.out) h23.out); have hU12 := Aside0.mk (R_cell (i := 1) (u := .slice B2 (j + 1) d2) (R_type (Kd.R_drew hU7.out) hRd.out hg10 rfl (by decide)) hr10 rfl (by decide)); replace hS12 := Aside0.mk hS12; replace hR10 := Aside0.mk hR10; replace hR10' := Aside0.mk hR10'; replace hb10 := Aside0.mk hb10; replace hg10 := Aside0.mk hg10; replace hg10' := Aside0.mk hg10'; replace hat10 := Aside0.mk hat10; replace hr10 := Aside0.mk hr10))
              go_roundw
              case rel => exact ⟨j + 1, B2, d2, us.set bi true, by omega, hS12, k112, k212, hU12, hSel'⟩
              case measure =>
                have e3 := (cell_row hS12.out.row 1).trans (rfl : _ = some (Value.slice B2 ((sortS ts).take (j + 1)).length d2))
                rw [hn2.out] at e3
                rw [left_is e3, left_is d1r'.out]
                omega
        · obtain rfl : m = j := by omega
          have hts : Aside0 ((sortS ts).take m = sortS ts) := ⟨List.take_of_length_le (by rw [hls]; exact Nat.le_refl _)⟩
          have d0r := (cell_row hSr.out.row 0).trans (rfl : _ = some (Value.slice A1 gs.length cq))
          have d1q := (cell_row hSr.out.row 1).trans (rfl : _ = some (Value.slice B1 ((sortS ts).take m).length d1))
          obtain ⟨r1, r2, r3, r4, r5, r6⟩ := hSr.out.reads
          have hsz := hSr.out.size
          rw [htl] at d1q r3 r4
          have hn1 : gs.length = ny := by rw [hgsA.out, hny.out]
          rw [hn1] at d0r r1 r2
          replace hls := Aside0.mk hls; replace htl := Aside0.mk htl; replace r1 := Aside0.mk r1; replace r2 := Aside0.mk r2; replace r3 := Aside0.mk r3; replace r4 := Aside0.mk r4; replace r5 := Aside0.mk r5; replace r6 := Aside0.mk r6; replace hsz := Aside0.mk hsz; replace hn1 := Aside0.mk hn1
          go_wp2_with (first
            | ((with_reducible refine gate_op (.load 25 (.tmp 3)) rfl ?_); refine wpList_load_midB rfl _ _ rfl ⟨b3, 0, none⟩ rfl [.slice A1 ny cq, .slice B1 m d1] _ (two_cells d0r d1q) Tryz.underlying25 rfl info_S ?_)
            | ((with_reducible refine gate_op (.store 25 (.tmp 2) (.tmp 104)) rfl ?_); refine wpList_store_midB rfl _ _ _ rfl b2 0 [.slice A1 ny cq, .slice B1 m d1] rfl rfl 25 [.slice none 0 0, .slice none 0 0] k2r.out info_S (Nat.le_refl _) one2 ?_; have k7 := KeepF.setRow wr b2 (splice [Value.slice none 0 0, .slice none 0 0] 0 [.slice A1 ny cq, .slice B1 m d1]).toArray; have h7 := setRow_heap wr b2 _ (splice [Value.slice none 0 0, .slice none 0 0] 0 [.slice A1 ny cq, .slice B1 m d1]).toArray 25 _ k2r.out; rw [splice_all _ _ (by rfl)] at k7 h7; revert k7 h7; rw [splice_all _ _ (by rfl)]; generalize wr.setRow b2 _ = w7; intro k7 h7; replace k7 := Aside0.mk k7; replace h7 := Aside0.mk h7))
          refine bodyPost_ret (results_cell_row rfl _ _ b2 _ _ _ _ rfl h7.out Tryz.underlying25 rfl ?hi) rfl ?_
          case hi => exact info_S
          have b7 : Below w.heap.size w w7 := hSr.out.below.trans (k7.out.to_below hsz.out (fun i hi => by rw [hi]; exact h2w.out))
          have g7 : kG.C w7 A1 gs.length gs := by
            have h9 : kG.R 50 w7 w.heap.size (fun _ => True) (.slice A1 gs.length cq) gs := R_keepf hSr.out.rg k7.out k2r.out rfl (by decide)
            exact (Kd.R_reads' h9).2.2
          have g8 : kT.C w7 B1 ((sortS ts).take m).length ((sortS ts).take m) := by
            have h9 : kT.R 59 w7 w.heap.size (fun _ => True) (.slice B1 ((sortS ts).take m).length d1) ((sortS ts).take m) := R_keepf hSr.out.rt k7.out k2r.out rfl (by decide)
            exact (Kd.R_reads' h9).2.2
          have hlsm : (sortS ts).length = m := hls.out
          rw [hts.out, hlsm] at g8
          rw [hn1.out, hgsA.out] at g7
          refine ⟨A1, cq, B1, d1, ys, sortS ts, ?_, ?_, ?_, ?_, ?_, hys.out, sortS_T hnd.out, r6.out, b7⟩
          · rw [hny.out, hlsm]
          · rw [hny.out]; exact r2.out
          · rw [hlsm]; exact r4.out
          · rw [hny.out]; exact g7
          · rw [hlsm]; exact g8
end Go.Proofs.YtpnjhffnlafabaaGreatDoor.Sn
namespace Go.Proofs.YtpnjhffnlafabaaGreatDoor.Sn
set_option linter.unusedVariables false
set_option linter.unusedSimpArgs false
open Go.Proofs Go.RowKit Go.Sort Go.Shelf Go.Lib Go.Proofs.Bk Go.Proofs.Bm Go.Proofs.Op Go.Proofs.Sc Go.Proofs.Kf Go.Proofs.YtpnjhffnlafabaaGreatDoorW.PrintWords Go.Proofs.YtpnjhffnlafabaaGreatDoor.PImageBack
theorem roddG_any (xs : List SG) : xs.any roddG = (xs.map gOf).any oddG := by
  rw [List.any_map]; congr 1; funext x; exact roddG_eq x
theorem roddT_any (ts : List ST) : ts.any roddT = (ts.map tOf).any oddT := by
  rw [List.any_map]; congr 1; funext x; exact roddT_eq x
set_option maxHeartbeats 8000000 in
set_option maxRecDepth 100000 in
theorem rCheck_calls (A : Option Addr) (n c : Nat) (xs : List SG) (B : Option Addr) (m d : Nat) (ts : List ST) (w : World) (hG : kG.C w A n xs) (hc : n ≤ c) (hT : kT.C w B m ts) (hd : m ≤ d) :
    Calls Tryz.prog 23 #[.agg #[.slice A n c, .slice B m d]] w (CheckPost (xs.map gOf) (ts.map tOf) w) := by
  have hln := hG.1
  have hlm := hT.1
  have hn63 := hG.2.1
  have hm63 := hT.2.1
  have HG := Aside0.mk hG
  have HT := Aside0.mk hT
  clear hG hT
  obtain ⟨ck, hcke⟩ : ∃ ck, checkOf (xs.map gOf) (ts.map tOf) = ck := ⟨_, rfl⟩
  have hck : ∀ (r : Int) w', r = ck → Below w.heap.size w w' → CheckPost (xs.map gOf) (ts.map tOf) w (.returned (.int .i64 r)) w' := fun r w' h1 h2 => ⟨by rw [h1, hcke], h2⟩
  have hgl : (xs.map gOf).length = n := by rw [List.length_map, hln]
  have hul : (ts.map tOf).length = m := by rw [List.length_map, hlm]
  have hcd : ck = if n = 0 then 2 else if 4096 < n ∨ 4096 < m then 7 else if (xs.map gOf).any oddG || (ts.map tOf).any oddT then 1
      else if namesOf (xs.map gOf) (ts.map tOf) ≠ 0 then namesOf (xs.map gOf) (ts.map tOf) else if wholeOf (xs.map gOf) = false ∨ orderOf (xs.map gOf) (ts.map tOf) ≠ (xs.map gOf, ts.map tOf) then 5 else if 16 ≤ tallOf (xs.map gOf) then 10 else 0 := by
    rw [← hcke, ← hgl, ← hul]; rfl
  replace hln := Aside0.mk hln; replace hlm := Aside0.mk hlm; replace hc := Aside0.mk hc; replace hd := Aside0.mk hd; replace hgl := Aside0.mk hgl; replace hul := Aside0.mk hul; replace hck := Aside0.mk hck; replace hcke := Aside0.mk hcke
  by_cases h0 : n = 0
  · rw [if_pos h0] at hcd
    subst h0
    replace hcd := Aside0.mk hcd
    go_enter Tryz.func23, Tryz.ntmps23
    go_wp2_with (first
      | (((with_reducible refine gate_dst (N := 1) rfl ?_); refine box_event ?hg (N := 1) ?hd (cs := #[.slice A 0 c, .slice B m d]) (t := 25) ?hr ?_; (case hd => rfl); (case hg => rfl); (case hr => first | (go_simp; done) | (go_simp; rfl)); intro b0 hb0 w1 kb0 bb0; replace hb0 := Aside0.mk hb0; replace kb0 := Aside0.mk kb0; replace bb0 := Aside0.mk bb0); have c0 := (Kf.cell_row kb0.out 0).trans (rfl : _ = some (Value.slice A 0 c)); have c1 := (Kf.cell_row kb0.out 1).trans (rfl : _ = some (Value.slice B m d))))
    go_ret
    exact hck.out _ _ hcd.out.symm bb0.out
  · rw [if_neg h0] at hcd
    have i0 : ¬ (n : Int) = 0 := by omega
    have i0' : ((n : Int) == 0) = false := by simpa using i0
    by_cases h1 : 4096 < n
    · rw [if_pos (.inl h1)] at hcd
      have i1 : (4096 : Int) < (n : Int) := by omega
      replace hcd := Aside0.mk hcd
      go_enter Tryz.func23, Tryz.ntmps23
      go_wp2_with (first
        | (((with_reducible refine gate_dst (N := 1) rfl ?_); refine box_event ?hg (N := 1) ?hd (cs := #[.slice A n c, .slice B m d]) (t := 25) ?hr ?_; (case hd => rfl); (case hg => rfl); (case hr => first | (go_simp; done) | (go_simp; rfl)); intro b0 hb0 w1 kb0 bb0; replace hb0 := Aside0.mk hb0; replace kb0 := Aside0.mk kb0; replace bb0 := Aside0.mk bb0); have c0 := (Kf.cell_row kb0.out 0).trans (rfl : _ = some (Value.slice A n c)); have c1 := (Kf.cell_row kb0.out 1).trans (rfl : _ = some (Value.slice B m d))))
      go_ret
      exact hck.out _ _ hcd.out.symm bb0.out
    have i1 : ¬ (4096 : Int) < (n : Int) := by omega
    by_cases h2 : 4096 < m
    · rw [if_pos (.inr h2)] at hcd
      have i2 : (4096 : Int) < (m : Int) := by omega
      replace hcd := Aside0.mk hcd
      go_enter Tryz.func23, Tryz.ntmps23
      go_wp2_with (first
        | (((with_reducible refine gate_dst (N := 1) rfl ?_); refine box_event ?hg (N := 1) ?hd (cs := #[.slice A n c, .slice B m d]) (t := 25) ?hr ?_; (case hd => rfl); (case hg => rfl); (case hr => first | (go_simp; done) | (go_simp; rfl)); intro b0 hb0 w1 kb0 bb0; replace hb0 := Aside0.mk hb0; replace kb0 := Aside0.mk kb0; replace bb0 := Aside0.mk bb0); have c0 := (Kf.cell_row kb0.out 0).trans (rfl : _ = some (Value.slice A n c)); have c1 := (Kf.cell_row kb0.out 1).trans (rfl : _ = some (Value.slice B m d))))
      go_ret
      exact hck.out _ _ hcd.out.symm bb0.out
    have i2 : ¬ (4096 : Int) < (m : Int) := by omega
    rw [if_neg (by omega)] at hcd
    have hod := fun W (hW : Below w.heap.size w W) => odd_calls A n c xs B m d ts W (Kd.C_below HG.out hW) hc.out (Kd.C_below HT.out hW) hd.out
    rw [roddG_any, roddT_any] at hod
    obtain ⟨ob, hob⟩ : ∃ ob, ((xs.map gOf).any oddG || (ts.map tOf).any oddT) = ob := ⟨_, rfl⟩
    rw [hob] at hod hcd
    cases ob with
    | true =>
      rw [if_pos rfl] at hcd
      replace hcd := Aside0.mk hcd; replace hod := Aside0.mk hod; replace hob := Aside0.mk hob
      go_enter Tryz.func23, Tryz.ntmps23
      go_wp2_with (first
        | (((with_reducible refine gate_dst (N := 1) rfl ?_); refine box_event ?hg (N := 1) ?hd (cs := #[.slice A n c, .slice B m d]) (t := 25) ?hr ?_; (case hd => rfl); (case hg => rfl); (case hr => first | (go_simp; done) | (go_simp; rfl)); intro b0 hb0 w1 kb0 bb0; replace hb0 := Aside0.mk hb0; replace kb0 := Aside0.mk kb0; replace bb0 := Aside0.mk bb0); have c0 := (Kf.cell_row kb0.out 0).trans (rfl : _ = some (Value.slice A n c)); have c1 := (Kf.cell_row kb0.out 1).trans (rfl : _ = some (Value.slice B m d)))
        | ((with_reducible refine gate_op (.load 25 (.tmp 1)) rfl ?_); refine wpList_load_midB rfl _ _ rfl ⟨b0, 0, none⟩ rfl [.slice A n c, .slice B m d] _ (two_cells c0 c1) Tryz.underlying25 rfl info_S ?_)
        | (go_at_call 48; (with_reducible refine (hod.out _ bb0.out).mono ?_); rintro e w2 ⟨rfl, hb2⟩; have hB2 := Aside0.mk (bb0.out.trans (hb2.mono bb0.out.size)); clear hb2 c0 c1))
      go_ret
      exact hck.out _ _ hcd.out.symm hB2.out
    | false =>
      have hoG : (xs.map gOf).any oddG = false := by cases hx : (xs.map gOf).any oddG with
        | false => rfl
        | true => rw [hx] at hob; simp at hob
      have hoT : (ts.map tOf).any oddT = false := by rw [hoG] at hob; simpa using hob
      have hask' : Asked (xs.map gOf) (ts.map tOf) ck := by rw [← hcke.out]; exact asked (by rw [hgl.out]; exact h0) (by rw [hgl.out]; omega) (by rw [hul.out]; omega) hoG hoT
      have hidE := idsS_eq xs ts
      obtain ⟨ids, hids⟩ : ∃ ids, idsS xs ts = ids := ⟨_, rfl⟩
      have hno : ids.Nodup → (∀ x ∈ xs, x.f1 ≠ 0 → x.f1 ∈ gids (xs.map gOf)) → Named xs := fun h hp => okids (ts := ts) hoG (by rw [hids]; exact h) hp
      have hT0 : ids.Nodup → (ts.map (·.f0)).Nodup := fun h => by rw [← hids] at h; exact (List.nodup_append.1 h).2.1
      have hidl : ids.length = n + m := by rw [← hids]; unfold idsS; rw [List.length_append, List.length_map, List.length_map, hln.out, hlm.out]
      have hidsk := fun W (hW : Below w.heap.size w W) => rIds_calls A n c xs B m d ts W (Kd.C_below HG.out hW) hc.out (Kd.C_below HT.out hW) hd.out (by omega)
      obtain ⟨k9, k8, k5, k0⟩ := hask'
      rw [← hidE, hids] at k9 k8 k5 k0
      rw [hids] at hidsk
      clear hidE
      replace k9 := Aside0.mk k9; replace k8 := Aside0.mk k8; replace k5 := Aside0.mk k5; replace k0 := Aside0.mk k0; replace hno := Aside0.mk hno; replace hT0 := Aside0.mk hT0; replace hids := Aside0.mk hids; replace hidl := Aside0.mk hidl; replace hidsk := Aside0.mk hidsk; replace hod := Aside0.mk hod; replace hob := Aside0.mk hob; replace hoG := Aside0.mk hoG; replace hoT := Aside0.mk hoT; replace hcd := Aside0.mk hcd
      go_enter Tryz.func23, Tryz.ntmps23
      go_wp2_with (first
        | (((with_reducible refine gate_dst (N := 1) rfl ?_); refine box_event ?hg (N := 1) ?hd (cs := #[.slice A n c, .slice B m d]) (t := 25) ?hr ?_; (case hd => rfl); (case hg => rfl); (case hr => first | (go_simp; done) | (go_simp; rfl)); intro b0 hb0 w1 kb0 bb0; replace hb0 := Aside0.mk hb0; replace kb0 := Aside0.mk kb0; replace bb0 := Aside0.mk bb0); have c0 := (Kf.cell_row kb0.out 0).trans (rfl : _ = some (Value.slice A n c)); have c1 := (Kf.cell_row kb0.out 1).trans (rfl : _ = some (Value.slice B m d)))
        | ((with_reducible refine gate_op (.load 25 (.tmp 1)) rfl ?_); refine wpList_load_midB rfl _ _ rfl ⟨b0, 0, none⟩ rfl [.slice A n c, .slice B m d] _ (two_cells c0 c1) Tryz.underlying25 rfl info_S ?_)
        | (go_at_call 48; (with_reducible refine (hod.out _ bb0.out).mono ?_); rintro e w2 ⟨rfl, hb2⟩; have hB2 := Aside0.mk (bb0.out.trans (hb2.mono bb0.out.size)); replace c0 := pw_cell_below hb2 c0; replace c1 := pw_cell_below hb2 c1; clear hb2 kb0 bb0 hb0))
      with_reducible refine (hidsk.out _ hB2.out).mono ?_
      rintro e w4 ⟨v4, rfl, hI4, hb4⟩
      obtain ⟨A4, c4, rfl, -, hI⟩ := Kd.R_reads hI4
      have hB4 := hB2.out.trans (hb4.mono hB2.out.size)
      have hcW : ∀ W, Below w4.heap.size w4 W → W.cell? ⟨b0, 0, none⟩ = some (.slice A n c) ∧ W.cell? ⟨b0, 1, none⟩ = some (.slice B m d) := fun W hW => ⟨pw_cell_below hW (pw_cell_below hb4 c0), pw_cell_below hW (pw_cell_below hb4 c1)⟩
      have hBW : ∀ W, Below w4.heap.size w4 W → Below w.heap.size w W := fun W hW => hB4.trans (hW.mono hB4.size)
      obtain ⟨nl, hnl⟩ : ∃ nl, ids.length = nl := ⟨_, rfl⟩
      rw [hnl] at hI ⊢
      have hnl63 : nl ≤ 9223372036854775807 := hI.2.1
      clear hI4 hb4 c0 c1 hB2 hB4
      replace hI := Aside0.mk hI; replace hcW := Aside0.mk hcW; replace hBW := Aside0.mk hBW; replace hnl := Aside0.mk hnl
      go_wp2_with fail
      go_loopw [5] (fun iv wr => ∃ i : Nat, iv = .int .i64 i ∧ i ≤ nl ∧ Aside0 ((ids.take i).Nodup) ∧ Aside0 (Below w4.heap.size w4 wr)) (fun iv _ => nl - (intOf iv).toNat)
      case atStart => exact ⟨0, rfl, Nat.zero_le _, ⟨by simp⟩, ⟨Below.refl _ _⟩⟩
      case round =>
        obtain ⟨i, rfl, hi, hnd, hb⟩ := hrel
        by_cases hlt : i < nl
        · go_wp2_with fail
          go_loopw [6] (fun kv wt => ∃ k : Nat, kv = .int .i64 k ∧ k ≤ i ∧ Aside0 (∀ q < k, ids[q]? ≠ ids[i]?) ∧ Aside0 (Below w4.heap.size w4 wt)) (fun kv _ => i - (intOf kv).toNat)
          case atStart => exact ⟨0, rfl, Nat.zero_le _, ⟨fun q hq => absurd hq (Nat.not_lt_zero _)⟩, hb⟩
          case round =>
            obtain ⟨k, rfl, hk, hq, hb1⟩ := hrel
            obtain ⟨z, hz⟩ : ∃ z, ids[i]? = some z := ⟨_, List.getElem?_eq_getElem (by rw [hnl.out]; exact hlt)⟩
            by_cases hlk : k < i
            · obtain ⟨x, hx⟩ : ∃ x, ids[k]? = some x := ⟨_, List.getElem?_eq_getElem (by rw [hnl.out]; omega)⟩
              have p1 : 0 ≤ (k : Int) := by omega
              have q1 : (k : Int) < (nl : Int) := by omega
              have p2 : 0 ≤ (i : Int) := by omega
              have q2 : (i : Int) < (nl : Int) := by omega
              have hIt := Kd.C_below hI.out hb1.out
              obtain ⟨ad, rfl, y1⟩ := Kd.at_int hIt (k : Int) p1 q1
              obtain ⟨ad2, e2, y2⟩ := Kd.at_int hIt (i : Int) p2 q2
              cases e2
              rw [Int.toNat_natCast, show Go.Proofs.YtpnjhffnlafabaaGreatDoorW.PrintWords.rd ids k = x from by unfold Go.Proofs.YtpnjhffnlafabaaGreatDoorW.PrintWords.rd; rw [Int.toNat_natCast, List.getD_eq_getElem?_getD, hx]; rfl] at y1
              rw [Int.toNat_natCast, show Go.Proofs.YtpnjhffnlafabaaGreatDoorW.PrintWords.rd ids i = z from by unfold Go.Proofs.YtpnjhffnlafabaaGreatDoorW.PrintWords.rd; rw [Int.toNat_natCast, List.getD_eq_getElem?_getD, hz]; rfl] at y2
              have hxz : (x == z) = decide (x = z) := rfl
              clear hIt
              by_cases he : x = z
              · have hck9 : ck = 9 := k9.out (not_nodup hx (he ▸ hz) (by omega))
                rw [decide_eq_true he] at hxz
                replace he := Aside0.mk he; replace hck9 := Aside0.mk hck9; replace hx := Aside0.mk hx; replace hz := Aside0.mk hz
                go_wp2_with fail
                go_quiet (fail)
                go_wp2_with fail
                go_ret
                exact hck.out _ _ hck9.out.symm (hBW.out _ (pw_below_drewN hb1.out _))
              · have hq' : ∀ q < k + 1, ids[q]? ≠ ids[i]? := by
                  intro q hqk
                  by_cases hqe : q = k
                  · subst hqe; rw [hx, hz]; intro e; exact he (Option.some.inj e)
                  · exact hq.out q (by omega)
                rw [decide_eq_false he] at hxz
                replace he := Aside0.mk he; replace hx := Aside0.mk hx; replace hz := Aside0.mk hz; replace hq' := Aside0.mk hq'
                go_wp2_with fail
                go_quiet (fail)
                go_wp2_with fail
                go_roundw
                case rel => exact ⟨k + 1, by simp, by omega, hq', ⟨pw_below_drewN hb1.out _⟩⟩
                case measure => show i - ((k : Int) + 1).toNat < i - (k : Int).toNat; omega
            · obtain rfl : i = k := by omega
              have hnd' := Aside0.mk (nodup_take hnd.out hz (fun q h => by rw [← hz]; exact hq.out q h))
              replace hz := Aside0.mk hz
              go_wp2_with fail
              go_roundw
              case rel => exact ⟨i + 1, by simp, by omega, hnd', hb1⟩
              case measure => show nl - ((i : Int) + 1).toNat < nl - (i : Int).toNat; omega
        · obtain rfl : nl = i := by omega
          have hND : Aside0 ids.Nodup := ⟨by have := hnd.out; rw [List.take_of_length_le (by rw [hnl.out]; exact Nat.le_refl _)] at this; exact this⟩
          have hn0 : 0 < n := by omega
          obtain ⟨c0, c1⟩ := hcW.out _ hb.out
          obtain ⟨bG, oG, x0, rfl, -, hx0, -, t1, -, -, -, -⟩ := G_one (Kd.C_below HG.out (hBW.out _ hb.out)) hn0
          rw [show oG + 0 * 6 + 1 = oG + 1 by omega] at t1
          have hhp : headPar (xs.map gOf) = x0.f1 := by
            cases xs with
            | nil => simp at hx0
            | cons y ys => simp at hx0; subst hx0; rfl
          have hz : (x0.f1 != 0) = !decide (x0.f1 = 0) := rfl
          have p0 : (0 : Int) < (n : Int) := by omega
          by_cases hp0 : x0.f1 = 0
          case neg =>
            have hck8 : ck = 8 := k8.out hND.out (.inl (by rw [hhp]; exact hp0))
            rw [decide_eq_false hp0] at hz
            replace hp0 := Aside0.mk hp0; replace hck8 := Aside0.mk hck8; replace hhp := Aside0.mk hhp; replace hx0 := Aside0.mk hx0
            go_wp2_with fail
            go_ret
            exact hck.out _ _ hck8.out.symm (hBW.out _ hb.out)
          case pos =>
          rw [decide_eq_true hp0] at hz
          replace hp0 := Aside0.mk hp0; replace hhp := Aside0.mk hhp; replace hx0 := Aside0.mk hx0
          go_wp2_with fail
          go_loopw [7] (fun iv wt => ∃ i : Nat, iv = .int .i64 i ∧ 1 ≤ i ∧ i ≤ n ∧ Aside0 (∀ q < i, ∀ x, xs[q]? = some x → x.f1 ≠ 0 → x.f1 ∈ gids (xs.map gOf)) ∧ Aside0 (Below w4.heap.size w4 wt)) (fun iv _ => n - (intOf iv).toNat)
          case atStart =>
            refine ⟨1, rfl, Nat.le_refl _, by omega, ⟨fun q hq x hx hx1 => ?_⟩, hb⟩
            obtain rfl : q = 0 := by omega
            rw [hx0.out] at hx
            cases hx
            exact absurd hp0.out hx1
          case round =>
            clear hb c0 c1 t1 hnd
            obtain ⟨i, rfl, h1i, hi, hpar, hb⟩ := hrel
            obtain ⟨c0, c1⟩ := hcW.out _ hb.out
            by_cases hlt : i < n
            · have p1 : 0 ≤ (i : Int) := by omega
              have q1 : (i : Int) < (n : Int) := by omega
              obtain ⟨b, o, x, e9, -, hx, -, t1, -, -, -, -⟩ := G_one (Kd.C_below HG.out (hBW.out _ hb.out)) hlt
              cases e9
              have hz : (x.f1 != 0) = !decide (x.f1 = 0) := rfl
              by_cases hp : x.f1 = 0
              · have hpar' : ∀ q < i + 1, ∀ x, xs[q]? = some x → x.f1 ≠ 0 → x.f1 ∈ gids (xs.map gOf) := by
                  intro q hq y hy hy1
                  by_cases hqe : q = i
                  · subst hqe; rw [hx] at hy; cases hy; exact absurd hp hy1
                  · exact hpar.out q (by omega) y hy hy1
                rw [decide_eq_true hp] at hz
                replace hp := Aside0.mk hp; replace hx := Aside0.mk hx; replace hpar' := Aside0.mk hpar'
                go_wp2_with fail
                go_quiet (fail)
                go_wp2_with fail
                go_roundw
                case rel => exact ⟨i + 1, by simp, by omega, by omega, hpar', ⟨pw_below_drewN hb.out _⟩⟩
                case measure => show n - ((i : Int) + 1).toNat < n - (i : Int).toNat; omega
              · rw [decide_eq_false hp] at hz
                have hbd := Aside0.mk hb.out.drew
                have kg := group_calls _ n c xs (.slice B m d) x.f1 wr.drew (Kd.C_below HG.out (hBW.out _ hbd.out))
                obtain ⟨gi, hgi⟩ : ∃ gi, gint xs x.f1 = gi := ⟨_, rfl⟩
                rw [hgi] at kg
                by_cases hneg : gi < 0
                · have hck8 : ck = 8 := k8.out hND.out (.inr (.inl ⟨gOf x, List.mem_map.2 ⟨x, List.mem_of_getElem? hx, rfl⟩, hp, gint_neg (by rw [← hgi] at hneg; exact hneg)⟩))
                  replace hp := Aside0.mk hp; replace hx := Aside0.mk hx; replace hgi := Aside0.mk hgi; replace kg := Aside0.mk kg; replace hck8 := Aside0.mk hck8
                  go_wp2_with fail
                  (refine Ht.begin2 16 (fun w' => w'.cell? ⟨b0, 0, none⟩ = some (.slice (some ⟨bG, oG, none⟩) n c) ∧ w'.cell? ⟨b0, 1, none⟩ = some (.slice B m d) ∧ w'.cell? ⟨bG, oG + i * 6 + 1, none⟩ = some (.int .i64 x.f1)) (by kernel_rfl) (by kernel_rfl) ⟨c0, c1, t1⟩ ?_; intro hSnow; (try dsimp only at hSnow); simp only [List.take_succ_cons, List.take_zero, List.drop_succ_cons, List.drop_zero]; repeat (refine Ht.Hx.take (v := ?_) (by kernel_rfl) (by kernel_rfl) (fun _ _ _ h => h) (by with_reducible exact hSnow) (Or.inl ⟨by rfl, fun w hSw => ?_⟩) ?_; rotate_left; focus ((try dsimp only at hSw); go_simp; (try with_reducible rfl); done)); (try simp only [Act.put, List.setIfInBounds_toArray, List.set_cons_zero, List.set_cons_succ]))
                  (refine Ht.Hx.effect (by kernel_rfl) ?_; go_wp2_with ((go_at_call 50; (with_reducible refine kg.out.mono ?_); rintro e w5 ⟨rfl, hb5⟩; have hb5' := Aside0.mk (hbd.out.trans (hb5.mono hbd.out.size)); have s5 : w5.cell? ⟨b0, 0, none⟩ = some (.slice (some ⟨bG, oG, none⟩) n c) ∧ w5.cell? ⟨b0, 1, none⟩ = some (.slice B m d) ∧ w5.cell? ⟨bG, oG + i * 6 + 1, none⟩ = some (.int .i64 x.f1) := ⟨pw_cell_below hb5 c0, pw_cell_below hb5 c1, pw_cell_below hb5 t1⟩; clear hb5)); refine ⟨s5, ?_⟩; clear hSnow; (have hSnow := s5); repeat (refine Ht.Hx.take (v := ?_) (by kernel_rfl) (by kernel_rfl) (fun _ _ _ h => h) (by with_reducible exact hSnow) (Or.inl ⟨by rfl, fun w hSw => ?_⟩) ?_; rotate_left; focus ((try dsimp only at hSw); go_simp; (try with_reducible rfl); done)); (try simp only [Act.put, List.setIfInBounds_toArray, List.set_cons_zero, List.set_cons_succ]))
                  (refine Ht.Hx.done (by kernel_rfl) ?_; clear hSnow)
                  all_goals go_wp2_with fail
                  all_goals go_ret
                  all_goals exact hck.out _ _ hck8.out.symm (hBW.out _ hb5'.out)
                · have hpar' : ∀ q < i + 1, ∀ x, xs[q]? = some x → x.f1 ≠ 0 → x.f1 ∈ gids (xs.map gOf) := by
                    intro q hq y hy hy1
                    by_cases hqe : q = i
                    · subst hqe; rw [hx] at hy; cases hy; exact gint_pos (by rw [hgi]; exact hneg)
                    · exact hpar.out q (by omega) y hy hy1
                  replace hp := Aside0.mk hp; replace hx := Aside0.mk hx; replace hgi := Aside0.mk hgi; replace kg := Aside0.mk kg; replace hpar' := Aside0.mk hpar'
                  go_wp2_with fail
                  (refine Ht.begin2 16 (fun w' => w'.cell? ⟨b0, 0, none⟩ = some (.slice (some ⟨bG, oG, none⟩) n c) ∧ w'.cell? ⟨b0, 1, none⟩ = some (.slice B m d) ∧ w'.cell? ⟨bG, oG + i * 6 + 1, none⟩ = some (.int .i64 x.f1)) (by kernel_rfl) (by kernel_rfl) ⟨c0, c1, t1⟩ ?_; intro hSnow; (try dsimp only at hSnow); simp only [List.take_succ_cons, List.take_zero, List.drop_succ_cons, List.drop_zero]; repeat (refine Ht.Hx.take (v := ?_) (by kernel_rfl) (by kernel_rfl) (fun _ _ _ h => h) (by with_reducible exact hSnow) (Or.inl ⟨by rfl, fun w hSw => ?_⟩) ?_; rotate_left; focus ((try dsimp only at hSw); go_simp; (try with_reducible rfl); done)); (try simp only [Act.put, List.setIfInBounds_toArray, List.set_cons_zero, List.set_cons_succ]))
                  (refine Ht.Hx.effect (by kernel_rfl) ?_; go_wp2_with ((go_at_call 50; (with_reducible refine kg.out.mono ?_); rintro e w5 ⟨rfl, hb5⟩; have hb5' := Aside0.mk (hbd.out.trans (hb5.mono hbd.out.size)); have s5 : w5.cell? ⟨b0, 0, none⟩ = some (.slice (some ⟨bG, oG, none⟩) n c) ∧ w5.cell? ⟨b0, 1, none⟩ = some (.slice B m d) ∧ w5.cell? ⟨bG, oG + i * 6 + 1, none⟩ = some (.int .i64 x.f1) := ⟨pw_cell_below hb5 c0, pw_cell_below hb5 c1, pw_cell_below hb5 t1⟩; clear hb5)); refine ⟨s5, ?_⟩; clear hSnow; (have hSnow := s5); repeat (refine Ht.Hx.take (v := ?_) (by kernel_rfl) (by kernel_rfl) (fun _ _ _ h => h) (by with_reducible exact hSnow) (Or.inl ⟨by rfl, fun w hSw => ?_⟩) ?_; rotate_left; focus ((try dsimp only at hSw); go_simp; (try with_reducible rfl); done)); (try simp only [Act.put, List.setIfInBounds_toArray, List.set_cons_zero, List.set_cons_succ]))
                  (refine Ht.Hx.done (by kernel_rfl) ?_; clear hSnow)
                  all_goals go_wp2_with fail
                  all_goals go_roundw
                  all_goals first
                    | (case rel => exact ⟨i + 1, by simp, by omega, by omega, hpar', hb5'⟩)
                    | (case measure => show n - ((i : Int) + 1).toNat < n - (i : Int).toNat; omega)
            · obtain rfl : n = i := by omega
              have hPAR : ∀ x ∈ xs, x.f1 ≠ 0 → x.f1 ∈ gids (xs.map gOf) := by
                intro x hx hx1
                obtain ⟨q, hq⟩ := List.mem_iff_getElem?.1 hx
                exact hpar.out q (by have := (List.getElem?_eq_some_iff.1 hq).1; rw [hln.out] at this; exact this) x hq hx1
              have hNM := hno.out hND.out hPAR
              clear hpar
              replace hPAR := Aside0.mk hPAR; replace hNM := Aside0.mk hNM
              go_wp2_with fail
              go_loopw [8] (fun iv wt => ∃ i : Nat, iv = .int .i64 i ∧ i ≤ m ∧ Aside0 (∀ q < i, ∀ x, ts[q]? = some x → x.f1 ∈ gids (xs.map gOf)) ∧ Aside0 (Below w4.heap.size w4 wt)) (fun iv _ => m - (intOf iv).toNat)
              case atStart => exact ⟨0, rfl, Nat.zero_le _, ⟨fun q hq => absurd hq (Nat.not_lt_zero _)⟩, hb⟩
              case round =>
                clear hb c0 c1
                obtain ⟨i, rfl, hi, hgrp, hb⟩ := hrel
                obtain ⟨c0, c1⟩ := hcW.out _ hb.out
                by_cases hlt : i < m
                · have p1 : 0 ≤ (i : Int) := by omega
                  have q1 : (i : Int) < (m : Int) := by omega
                  obtain ⟨b, o, x, rfl, -, hx, -, t1, -, -, -, -, -, -⟩ := T_one (Kd.C_below HT.out (hBW.out _ hb.out)) hlt
                  have hbd := Aside0.mk hb.out.drew
                  have kg := group_calls _ n c xs (.slice (some ⟨b, o, none⟩) m d) x.f1 wr.drew (Kd.C_below HG.out (hBW.out _ hbd.out))
                  obtain ⟨gi, hgi⟩ : ∃ gi, gint xs x.f1 = gi := ⟨_, rfl⟩
                  rw [hgi] at kg
                  by_cases hneg : gi < 0
                  · have hck8 : ck = 8 := k8.out hND.out (.inr (.inr ⟨tOf x, List.mem_map.2 ⟨x, List.mem_of_getElem? hx, rfl⟩, gint_neg (by rw [← hgi] at hneg; exact hneg)⟩))
                    replace hx := Aside0.mk hx; replace hgi := Aside0.mk hgi; replace kg := Aside0.mk kg; replace hck8 := Aside0.mk hck8
                    go_wp2_with fail
                    (refine Ht.begin2 8 (fun w' => w'.cell? ⟨b0, 0, none⟩ = some (.slice (some ⟨bG, oG, none⟩) n c) ∧ w'.cell? ⟨b0, 1, none⟩ = some (.slice (some ⟨b, o, none⟩) m d) ∧ w'.cell? ⟨b, o + i * 8 + 1, none⟩ = some (.int .i64 x.f1)) (by kernel_rfl) (by kernel_rfl) ⟨c0, c1, t1⟩ ?_; intro hSnow; (try dsimp only at hSnow); simp only [List.take_succ_cons, List.take_zero, List.drop_succ_cons, List.drop_zero]; repeat (refine Ht.Hx.take (v := ?_) (by kernel_rfl) (by kernel_rfl) (fun _ _ _ h => h) (by with_reducible exact hSnow) (Or.inl ⟨by rfl, fun w hSw => ?_⟩) ?_; rotate_left; focus ((try dsimp only at hSw); go_simp; (try with_reducible rfl); done)); (try simp only [Act.put, List.setIfInBounds_toArray, List.set_cons_zero, List.set_cons_succ]))
                    (refine Ht.Hx.effect (by kernel_rfl) ?_; go_wp2_with ((go_at_call 50; (with_reducible refine kg.out.mono ?_); rintro e w5 ⟨rfl, hb5⟩; have hb5' := Aside0.mk (hbd.out.trans (hb5.mono hbd.out.size)); have s5 : w5.cell? ⟨b0, 0, none⟩ = some (.slice (some ⟨bG, oG, none⟩) n c) ∧ w5.cell? ⟨b0, 1, none⟩ = some (.slice (some ⟨b, o, none⟩) m d) ∧ w5.cell? ⟨b, o + i * 8 + 1, none⟩ = some (.int .i64 x.f1) := ⟨pw_cell_below hb5 c0, pw_cell_below hb5 c1, pw_cell_below hb5 t1⟩; clear hb5)); refine ⟨s5, ?_⟩; clear hSnow; (have hSnow := s5); repeat (refine Ht.Hx.take (v := ?_) (by kernel_rfl) (by kernel_rfl) (fun _ _ _ h => h) (by with_reducible exact hSnow) (Or.inl ⟨by rfl, fun w hSw => ?_⟩) ?_; rotate_left; focus ((try dsimp only at hSw); go_simp; (try with_reducible rfl); done)); (try simp only [Act.put, List.setIfInBounds_toArray, List.set_cons_zero, List.set_cons_succ]))
                    (refine Ht.Hx.done (by kernel_rfl) ?_; clear hSnow)
                    go_wp2_with fail
                    go_ret
                    exact hck.out _ _ hck8.out.symm (hBW.out _ hb5'.out)
                  · have hgrp' : ∀ q < i + 1, ∀ x, ts[q]? = some x → x.f1 ∈ gids (xs.map gOf) := by
                      intro q hq y hy
                      by_cases hqe : q = i
                      · subst hqe; rw [hx] at hy; cases hy; exact gint_pos (by rw [hgi]; exact hneg)
                      · exact hgrp.out q (by omega) y hy
                    replace hx := Aside0.mk hx; replace hgi := Aside0.mk hgi; replace kg := Aside0.mk kg; replace hgrp' := Aside0.mk hgrp'
                    go_wp2_with fail
                    (refine Ht.begin2 8 (fun w' => w'.cell? ⟨b0, 0, none⟩ = some (.slice (some ⟨bG, oG, none⟩) n c) ∧ w'.cell? ⟨b0, 1, none⟩ = some (.slice (some ⟨b, o, none⟩) m d) ∧ w'.cell? ⟨b, o + i * 8 + 1, none⟩ = some (.int .i64 x.f1)) (by kernel_rfl) (by kernel_rfl) ⟨c0, c1, t1⟩ ?_; intro hSnow; (try dsimp only at hSnow); simp only [List.take_succ_cons, List.take_zero, List.drop_succ_cons, List.drop_zero]; repeat (refine Ht.Hx.take (v := ?_) (by kernel_rfl) (by kernel_rfl) (fun _ _ _ h => h) (by with_reducible exact hSnow) (Or.inl ⟨by rfl, fun w hSw => ?_⟩) ?_; rotate_left; focus ((try dsimp only at hSw); go_simp; (try with_reducible rfl); done)); (try simp only [Act.put, List.setIfInBounds_toArray, List.set_cons_zero, List.set_cons_succ]))
                    (refine Ht.Hx.effect (by kernel_rfl) ?_; go_wp2_with ((go_at_call 50; (with_reducible refine kg.out.mono ?_); rintro e w5 ⟨rfl, hb5⟩; have hb5' := Aside0.mk (hbd.out.trans (hb5.mono hbd.out.size)); have s5 : w5.cell? ⟨b0, 0, none⟩ = some (.slice (some ⟨bG, oG, none⟩) n c) ∧ w5.cell? ⟨b0, 1, none⟩ = some (.slice (some ⟨b, o, none⟩) m d) ∧ w5.cell? ⟨b, o + i * 8 + 1, none⟩ = some (.int .i64 x.f1) := ⟨pw_cell_below hb5 c0, pw_cell_below hb5 c1, pw_cell_below hb5 t1⟩; clear hb5)); refine ⟨s5, ?_⟩; clear hSnow; (have hSnow := s5); repeat (refine Ht.Hx.take (v := ?_) (by kernel_rfl) (by kernel_rfl) (fun _ _ _ h => h) (by with_reducible exact hSnow) (Or.inl ⟨by rfl, fun w hSw => ?_⟩) ?_; rotate_left; focus ((try dsimp only at hSw); go_simp; (try with_reducible rfl); done)); (try simp only [Act.put, List.setIfInBounds_toArray, List.set_cons_zero, List.set_cons_succ]))
                    (refine Ht.Hx.done (by kernel_rfl) ?_; clear hSnow)
                    go_wp2_with fail
                    go_roundw
                    case rel => exact ⟨i + 1, by simp, by omega, hgrp', hb5'⟩
                    case measure => show m - ((i : Int) + 1).toNat < m - (i : Int).toNat; omega
                · obtain rfl : m = i := by omega
                  have hGRP : ∀ x ∈ ts, x.f1 ∈ gids (xs.map gOf) := by
                    intro x hx
                    obtain ⟨q, hq⟩ := List.mem_iff_getElem?.1 hx
                    exact hgrp.out q (by have := (List.getElem?_eq_some_iff.1 hq).1; rw [hlm.out] at this; exact this) x hq
                  have hNB : ¬ Bad (xs.map gOf) (ts.map tOf) := by
                    rintro (h | ⟨g, hg, h1, h2⟩ | ⟨t, ht, h1⟩)
                    · exact h (by rw [hhp.out]; exact hp0.out)
                    · obtain ⟨x, hx, rfl⟩ := List.mem_map.1 hg
                      exact h2 (hPAR.out x hx h1)
                    · obtain ⟨x, hx, rfl⟩ := List.mem_map.1 ht
                      exact h1 (hGRP x hx)
                  have hbd := Aside0.mk hb.out.drew
                  have kw := Whole_calls (some ⟨bG, oG, none⟩) n c xs B m d wr.drew (Kd.C_below HG.out (hBW.out _ hbd.out)) (by omega)
                  clear hgrp
                  cases hw : rwhole xs with
                  | false =>
                    have hck5 : ck = 5 := k5.out hND.out hNB (.inl (by rw [← hNM.out.wholeE]; exact hw))
                    rw [hw] at kw
                    replace hGRP := Aside0.mk hGRP; replace hNB := Aside0.mk hNB; replace kw := Aside0.mk kw; replace hw := Aside0.mk hw; replace hck5 := Aside0.mk hck5
                    go_wp2_with fail
                    go_region_with (first
                      | (go_at_call 51; (with_reducible refine kw.out.mono ?_); rintro e w5 ⟨rfl, hb5⟩; have hb5' := Aside0.mk (hbd.out.trans (hb5.mono hbd.out.size)); clear hb5)
                      | ((with_reducible refine gate_op (.load 25 (.tmp 1)) rfl ?_); refine wpList_load_midB rfl _ _ rfl ⟨b0, 0, none⟩ rfl [.slice (some ⟨bG, oG, none⟩) n c, .slice B m d] _ (two_cells c0 c1) Tryz.underlying25 rfl info_S ?_))
                    all_goals go_wp2_with fail
                    all_goals go_ret
                    all_goals exact hck.out _ _ hck5.out.symm (hBW.out _ hb5'.out)
                  | true =>
                    have hwo : wholeOf (xs.map gOf) = true := by rw [← hNM.out.wholeE]; exact hw
                    have hY : Tree (xs.map gOf) := tree_of hNM.out.nd hoG.out hwo
                    rw [hw] at kw
                    have ko := fun W (hW : Below w.heap.size w W) => rOrder_calls (some ⟨bG, oG, none⟩) n c xs B m d ts W (Kd.C_below HG.out hW) (Kd.C_below HT.out hW) hn0 (by omega) (by omega) hNM.out hY hw (hT0.out hND.out)
                    have ks := fun A' n' c' xs' B' m' d' ts' W (hW : Below w.heap.size w W) (h1 : kG.C W A' n' xs') (h2 : n' ≤ c') (h3 : kT.C W B' m' ts') (h4 : m' ≤ d') (h5 : n' < 4611686018427387904) (h6 : m' < 4611686018427387904) => same_calls A' n' c' xs' B' m' d' ts' (some ⟨bG, oG, none⟩) n c xs B m d ts W h1 h2 h3 h4 (Kd.C_below HG.out hW) hc.out (Kd.C_below HT.out hW) hd.out h5 h6
                    have kt := fun W (hW : Below w.heap.size w W) => rTall_calls (some ⟨bG, oG, none⟩) n c xs B m d W (Kd.C_below HG.out hW) (by omega)
                    rw [hNM.out.tallE] at kt
                    have k0' := k0.out hND.out hNB hwo
                    have k5' : orderOf (xs.map gOf) (ts.map tOf) ≠ (xs.map gOf, ts.map tOf) → ck = 5 := fun h => k5.out hND.out hNB (.inr h)
                    have hul6 : ∀ gs6 : List SG, gs6.map gOf = underOf (xs.map gOf) → gs6.length < 4611686018427387904 := fun gs6 h => by
                      obtain ⟨ys, id0, -, h1, -, -, h4, -⟩ := under_rows hY (by rintro rfl; have := hln.out; simp at this; omega)
                      have h5 := congrArg List.length (h.trans h1.symm)
                      rw [List.length_map, List.length_map] at h5
                      have h6 := Nat.mul_le_mul (show xs.length + 2 ≤ 4098 by rw [hln.out]; omega) (show xs.length ≤ 4096 by rw [hln.out]; omega)
                      omega
                    have hut6 : ∀ ts6 : List ST, ts6.map tOf = sortT (ts.map tOf) → ts6.length < 4611686018427387904 := fun ts6 h => by
                      have h5 := congrArg List.length h
                      rw [List.length_map, show (sortT (ts.map tOf)).length = (ts.map tOf).length from List.length_mergeSort _, List.length_map, hlm.out] at h5
                      omega
                    obtain ⟨so, hso⟩ : ∃ so, decide (orderOf (xs.map gOf) (ts.map tOf) = (xs.map gOf, ts.map tOf)) = so := ⟨_, rfl⟩
                    replace hGRP := Aside0.mk hGRP; replace hNB := Aside0.mk hNB; replace kw := Aside0.mk kw; replace hw := Aside0.mk hw; replace hwo := Aside0.mk hwo; replace hY := Aside0.mk hY; replace ko := Aside0.mk ko; replace ks := Aside0.mk ks; replace kt := Aside0.mk kt; replace k0' := Aside0.mk k0'; replace k5' := Aside0.mk k5'; replace hul6 := Aside0.mk hul6; replace hut6 := Aside0.mk hut6; replace hso := Aside0.mk hso
                    cases so with
                    | false =>
                      have hck5 := Aside0.mk (k5'.out (of_decide_eq_false hso.out))
                      go_wp2_with fail
                      (first | (go_region_held3 (fun w' => w'.cell? ⟨b0, 0, none⟩ = some (.slice (some ⟨bG, oG, none⟩) n c) ∧ w'.cell? ⟨b0, 1, none⟩ = some (.slice B m d))
                        (first | (with_reducible exact ⟨c0, c1⟩) | (with_reducible exact s5) | (with_reducible exact s6) | (with_reducible exact s7) | go_keep)
                        (first
                          | (go_at_call 51; (with_reducible refine kw.out.mono ?_); rintro e w5 ⟨rfl, hb5⟩; have hb5' := Aside0.mk (hbd.out.trans (hb5.mono hbd.out.size)); have s5 : w5.cell? ⟨b0, 0, none⟩ = some (.slice (some ⟨bG, oG, none⟩) n c) ∧ w5.cell? ⟨b0, 1, none⟩ = some (.slice B m d) := ⟨pw_cell_below hb5 c0, pw_cell_below hb5 c1⟩; clear hb5)
                          | (go_at_call 52; (with_reducible refine (ko.out w5 (hBW.out _ hb5'.out)).mono ?_); rintro e w6 ⟨A6, c6, B6, d6, gs6, ts6, rfl, q1, q2, q3, q4, q5, q6, q7, hb6⟩; have hb6' := Aside0.mk (hb5'.out.trans (hb6.mono hb5'.out.size)); have s6 : w6.cell? ⟨b0, 0, none⟩ = some (.slice (some ⟨bG, oG, none⟩) n c) ∧ w6.cell? ⟨b0, 1, none⟩ = some (.slice B m d) := ⟨pw_cell_below hb6 s5.1, pw_cell_below hb6 s5.2⟩; have ks6 := ks.out A6 gs6.length c6 gs6 B6 ts6.length d6 ts6 w6 (hBW.out _ hb6'.out) q3 q1 q4 q2 (hul6.out gs6 q5) (hut6.out ts6 q6); rw [same_order hwo.out q5 q6, hso.out] at ks6; clear hb6 q1 q2 q3 q4 q5 q6 q7; replace ks6 := Aside0.mk ks6)
                          | (go_at_call 17; (with_reducible refine ks6.out.mono ?_); rintro e w7 ⟨rfl, hb7⟩; have hb7' := Aside0.mk (hb6'.out.trans (hb7.mono hb6'.out.size)); have s7 : w7.cell? ⟨b0, 0, none⟩ = some (.slice (some ⟨bG, oG, none⟩) n c) ∧ w7.cell? ⟨b0, 1, none⟩ = some (.slice B m d) := ⟨pw_cell_below hb7 s6.1, pw_cell_below hb7 s6.2⟩; clear hb7))) | fail)
                      all_goals go_wp2_with fail
                      all_goals go_ret
                      all_goals exact hck.out _ _ hck5.out.symm (hBW.out _ hb7'.out)
                    | true =>
                      have hck0 := k0'.out (of_decide_eq_true hso.out)
                      obtain ⟨tl, htl⟩ : ∃ tl, tallOf (xs.map gOf) = tl := ⟨_, rfl⟩
                      rw [htl] at hck0 kt
                      replace htl := Aside0.mk htl; replace hck0 := Aside0.mk hck0
                      go_wp2_with fail
                      (first | (go_region_held3 (fun w' => w'.cell? ⟨b0, 0, none⟩ = some (.slice (some ⟨bG, oG, none⟩) n c) ∧ w'.cell? ⟨b0, 1, none⟩ = some (.slice B m d))
                        (first | (with_reducible exact ⟨c0, c1⟩) | (with_reducible exact s5) | (with_reducible exact s6) | (with_reducible exact s7) | go_keep)
                        (first
                          | (go_at_call 51; (with_reducible refine kw.out.mono ?_); rintro e w5 ⟨rfl, hb5⟩; have hb5' := Aside0.mk (hbd.out.trans (hb5.mono hbd.out.size)); have s5 : w5.cell? ⟨b0, 0, none⟩ = some (.slice (some ⟨bG, oG, none⟩) n c) ∧ w5.cell? ⟨b0, 1, none⟩ = some (.slice B m d) := ⟨pw_cell_below hb5 c0, pw_cell_below hb5 c1⟩; clear hb5)
                          | (go_at_call 52; (with_reducible refine (ko.out w5 (hBW.out _ hb5'.out)).mono ?_); rintro e w6 ⟨A6, c6, B6, d6, gs6, ts6, rfl, q1, q2, q3, q4, q5, q6, q7, hb6⟩; have hb6' := Aside0.mk (hb5'.out.trans (hb6.mono hb5'.out.size)); have s6 : w6.cell? ⟨b0, 0, none⟩ = some (.slice (some ⟨bG, oG, none⟩) n c) ∧ w6.cell? ⟨b0, 1, none⟩ = some (.slice B m d) := ⟨pw_cell_below hb6 s5.1, pw_cell_below hb6 s5.2⟩; have ks6 := ks.out A6 gs6.length c6 gs6 B6 ts6.length d6 ts6 w6 (hBW.out _ hb6'.out) q3 q1 q4 q2 (hul6.out gs6 q5) (hut6.out ts6 q6); rw [same_order hwo.out q5 q6, hso.out] at ks6; clear hb6 q1 q2 q3 q4 q5 q6 q7; replace ks6 := Aside0.mk ks6)
                          | (go_at_call 17; (with_reducible refine ks6.out.mono ?_); rintro e w7 ⟨rfl, hb7⟩; have hb7' := Aside0.mk (hb6'.out.trans (hb7.mono hb6'.out.size)); have s7 : w7.cell? ⟨b0, 0, none⟩ = some (.slice (some ⟨bG, oG, none⟩) n c) ∧ w7.cell? ⟨b0, 1, none⟩ = some (.slice B m d) := ⟨pw_cell_below hb7 s6.1, pw_cell_below hb7 s6.2⟩; clear hb7))) | fail)
                      obtain ⟨c07, c17⟩ := s7
                      by_cases h16 : 16 ≤ tl
                      · have hck10 := hck0.out
                        rw [if_pos h16] at hck10
                        replace hck10 := Aside0.mk hck10
                        all_goals go_wp2_with (first
                          | ((with_reducible refine gate_op (.load 25 (.tmp 1)) rfl ?_); refine wpList_load_midB rfl _ _ rfl ⟨b0, 0, none⟩ rfl [.slice (some ⟨bG, oG, none⟩) n c, .slice B m d] _ (two_cells c07 c17) Tryz.underlying25 rfl info_S ?_)
                          | (go_at_call 53; (with_reducible refine (kt.out _ (hBW.out _ hb7'.out)).mono ?_); rintro e w8 ⟨rfl, hb8⟩; have hb8' := Aside0.mk (hb7'.out.trans (hb8.mono hb7'.out.size)); clear hb8))
                        all_goals go_ret
                        all_goals exact hck.out _ _ hck10.out.symm (hBW.out _ hb8'.out)
                      · have hck10 := hck0.out
                        rw [if_neg h16] at hck10
                        replace hck10 := Aside0.mk hck10
                        all_goals go_wp2_with (first
                          | ((with_reducible refine gate_op (.load 25 (.tmp 1)) rfl ?_); refine wpList_load_midB rfl _ _ rfl ⟨b0, 0, none⟩ rfl [.slice (some ⟨bG, oG, none⟩) n c, .slice B m d] _ (two_cells c07 c17) Tryz.underlying25 rfl info_S ?_)
                          | (go_at_call 53; (with_reducible refine (kt.out _ (hBW.out _ hb7'.out)).mono ?_); rintro e w8 ⟨rfl, hb8⟩; have hb8' := Aside0.mk (hb7'.out.trans (hb8.mono hb7'.out.size)); clear hb8))
                        all_goals go_ret
                        all_goals exact hck.out _ _ hck10.out.symm (hBW.out _ hb8'.out)
end Go.Proofs.YtpnjhffnlafabaaGreatDoor.Sn
