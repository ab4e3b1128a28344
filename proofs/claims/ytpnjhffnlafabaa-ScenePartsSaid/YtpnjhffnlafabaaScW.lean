/- SceneParts: a scene without its tasks can be, if it can; and so it can without its last group, if nothing is in that. -/
import Derived.Test.YtpnjhffnlafabaaSc6
import Derived.Deep.AppendLies
namespace Go.Proofs.Ytpnjhffnlafabaa.Sn
set_option linter.unusedVariables false
set_option linter.unusedSimpArgs false
open Go.RowKit Go.Sort Go.Shelf Go.Lib Go.Proofs.Bk Go.Proofs.Bm Go.Proofs.Op Go.Proofs.Sc Go.Proofs.Kf Go.Proofs.YtpnjhffnlafabaaW.PrintWords Go.Proofs.Ytpnjhffnlafabaa.PSceneOrders Go.Proofs.Ytpnjhffnlafabaa.St

set_option maxHeartbeats 8000000 in
set_option maxRecDepth 100000 in
theorem SceneParts_calls (w : World) (A : Option Addr) (n c : Nat) (xs : List SG) (B : Option Addr) (m d : Nat) (ts : List ST) (hG : kG.C w A n xs) (hc : n ≤ c) (hT : kT.C w B m ts) (hd : m ≤ d) (hB : ∀ ad, B = some ad → ad.spot = none) (ho : ∀ x ∈ xs, okG x) :
    Calls Try.prog 5 #[.agg #[.slice A n c, .slice B m d]] w (OkPost w) := by
  have hln := hG.1
  have hlm := hT.1
  have HG := Aside0.mk hG
  have HT := Aside0.mk hT
  clear hG hT
  replace hln := Aside0.mk hln; replace hlm := Aside0.mk hlm; replace hc := Aside0.mk hc; replace hd := Aside0.mk hd; replace hB := Aside0.mk hB; replace ho := Aside0.mk ho
  go_enter Try.func5, Try.ntmps5
  go_wp2_with (first
    | (((with_reducible refine gate_dst (N := 1) rfl ?_); refine box_event ?hg (N := 1) ?hd (cs := #[.slice A n c, .slice B m d]) (t := 25) ?hr ?_; (case hd => rfl); (case hg => rfl); (case hr => first | (go_simp; done) | (go_simp; rfl)); intro b0 hb0 w1 kb0 bb0; replace hb0 := Aside0.mk hb0; replace kb0 := Aside0.mk kb0; replace bb0 := Aside0.mk bb0); have k0 := Aside0.mk kb0.out; have c0 := (Kf.cell_row kb0.out 0).trans (rfl : _ = some (Value.slice A n c)); have c1 := (Kf.cell_row kb0.out 1).trans (rfl : _ = some (Value.slice B m d))))
  with_reducible refine (awake_calls w1).mono ?_
  rintro e w2 ⟨rfl, hb2⟩
  have hB2 := bb0.out.trans (hb2.mono bb0.out.size)
  replace c0 := pw_cell_below hb2 c0
  replace c1 := pw_cell_below hb2 c1
  replace k0 := Aside0.mk (row_below hb2 k0.out)
  clear hb2 kb0 bb0
  replace hB2 := Aside0.mk hB2
  go_wp2_with (first
    | ((with_reducible refine gate_op (.load 25 (.tmp 1)) rfl ?_); refine wpList_load_midB rfl _ _ rfl ⟨b0, 0, none⟩ rfl [.slice A n c, .slice B m d] _ (two_cells c0 c1) Try.underlying25 rfl info_S ?_))
  with_reducible refine (few_calls A n c xs B m d ts w2 (Kd.C_below HG.out hB2.out) hc.out (Kd.C_below HT.out hB2.out) hd.out).mono ?_
  rintro e w3 ⟨rfl, hb3⟩
  have hB3 := Aside0.mk (hB2.out.trans (hb3.mono hB2.out.size))
  replace c0 := pw_cell_below hb3 c0
  replace c1 := pw_cell_below hb3 c1
  replace k0 := Aside0.mk (row_below hb3 k0.out)
  clear hb3 hB2
  obtain ⟨few, hfew⟩ : ∃ few, decide (n ≤ 30 ∧ m ≤ 30) = few := ⟨_, rfl⟩
  rw [hfew]
  go_wp2_with (first
    | ((with_reducible refine gate_op (.load 25 (.tmp 1)) rfl ?_); refine wpList_load_midB rfl _ _ rfl ⟨b0, 0, none⟩ rfl [.slice A n c, .slice B m d] _ (two_cells c0 c1) Try.underlying25 rfl info_S ?_))
  with_reducible refine (Check_calls A n c xs B m d ts w3 (Kd.C_below HG.out hB3.out) hc.out (Kd.C_below HT.out hB3.out) hd.out hB.out ho.out).mono ?_
  rintro e w4 ⟨rfl, hb4⟩
  have hB4 := Aside0.mk (hB3.out.trans (hb4.mono hB3.out.size))
  replace c0 := pw_cell_below hb4 c0
  replace c1 := pw_cell_below hb4 c1
  replace k0 := Aside0.mk (row_below hb4 k0.out)
  clear hb4 hB3
  obtain ⟨ck, hck⟩ : ∃ ck, checkOf (xs.map gOf) (ts.map tOf) = ck := ⟨_, rfl⟩
  rw [hck]
  cases few with
  | false =>
    clear hfew hck
    go_wp2_with fail
    go_ret
    exact ⟨rfl, hB4.out⟩
  | true =>
    by_cases hz : ck = 0
    · subst hz
      have F := (fine_iff _ _).1 hck
      have hnm := of_decide_eq_true hfew
      have hn0 : 0 < n := by
        have := F.ne
        rcases Nat.eq_zero_or_pos n with h | h
        · exfalso; apply this
          have h2 := hln.out
          rw [h] at h2
          rw [List.length_eq_zero_iff.1 h2]; rfl
        · exact h
      obtain ⟨hn30, hm30⟩ := hnm
      have HG4 := Kd.C_below HG.out hB4.out
      obtain ⟨bG, oG, eA, hbG, hcG⟩ := G_at HG4 hn0
      subst eA
      clear hfew hck
      have hBare : checkOf (xs.map gOf) (([] : List ST).map tOf) = 0 := (fine_iff _ _).2 (bare_law F)
      obtain ⟨gs0, x, hxs⟩ : ∃ gs0 x, xs = gs0 ++ [x] := ⟨xs.dropLast, xs.getLast (by intro h; rw [h] at F; exact F.ne rfl), (List.dropLast_concat_getLast _).symm⟩
      have hg0l : gs0.length = n - 1 := by have := hln.out; rw [hxs] at this; simp at this; omega
      replace F := Aside0.mk F; replace HG4 := Aside0.mk HG4; replace hcG := Aside0.mk hcG; replace hBare := Aside0.mk hBare; replace hxs := Aside0.mk hxs; replace hg0l := Aside0.mk hg0l
      have w1 : IntKind.i64.wrap ((n : Int) - 1) = ((n - 1 : Nat) : Int) := by rw [IntKind.wrap_i64]; omega
      go_wp2_with (first
        | (((with_reducible refine gate_dst (N := 6) rfl ?_); refine box_event ?hg (N := 6) ?hd (cs := #[.slice none 0 0, .slice none 0 0]) (t := 25) ?hr ?_; (case hd => rfl); (case hg => rfl); (case hr => first | (go_simp; done) | (go_simp; rfl)); intro b6 hb6 w5 kb6 bb6; replace hb6 := Aside0.mk hb6; replace kb6 := Aside0.mk kb6; replace bb6 := Aside0.mk bb6))
        | ((with_reducible refine gate_op (.store 25 (.tmp 6) (.tmp 26)) rfl ?_); refine wpList_store_midB rfl _ _ _ rfl b6 0 [.slice (some ⟨bG, oG, none⟩) n c, .slice none 0 0] rfl rfl 25 [.slice none 0 0, .slice none 0 0] kb6.out info_S (Nat.le_refl _) one2 ?_; obtain ⟨kk, bb⟩ := boxed (cs := [.slice none 0 0, .slice none 0 0]) (cs2 := [.slice (some ⟨bG, oG, none⟩) n c, .slice none 0 0]) hb6.out kb6.out bb6.out rfl; revert kk bb; generalize World.setRow _ b6 (splice [.slice none 0 0, .slice none 0 0] 0 [.slice (some ⟨bG, oG, none⟩) n c, .slice none 0 0]).toArray = w6; clear kb6 bb6; intro kb6 bb6; replace kb6 := Aside0.mk kb6; replace bb6 := Aside0.mk bb6)
        | ((with_reducible refine gate_op (.load 25 (.tmp 6)) rfl ?_); refine wpList_load_midB rfl _ _ rfl ⟨b6, 0, none⟩ rfl [.slice (some ⟨bG, oG, none⟩) n c, .slice none 0 0] _ (two_cells ((Kf.cell_row kb6.out 0).trans rfl) ((Kf.cell_row kb6.out 1).trans rfl)) Try.underlying25 rfl info_S ?_))
      have hB6 := Aside0.mk (hB4.out.trans (bb6.out.mono hB4.out.size))
      have hb06 : w.heap.size ≤ b6 := by have := hb6.out; have := hB4.out.size; omega
      have c06 := pw_cell_below bb6.out c0
      have c16 := pw_cell_below bb6.out c1
      have HG6 := Kd.C_below HG4.out bb6.out
      have HT6 := Kd.C_below HT.out hB6.out
      with_reducible refine (Check_calls (some ⟨bG, oG, none⟩) n c xs none 0 0 [] w6 HG6 hc.out (kT_none _) (Nat.le_refl _) (fun ad h => by cases h) ho.out).mono ?_
      rintro e w7 ⟨rfl, hb7⟩
      rw [hBare.out]
      have hB7 := Aside0.mk (hB6.out.trans (hb7.mono hB6.out.size))
      have c07 := pw_cell_below hb7 c06
      have c17 := pw_cell_below hb7 c16
      have HG7 := Kd.C_below HG6 hb7
      have HT7 := Kd.C_below HT6 hb7
      obtain ⟨xl, hxl⟩ : ∃ xl, x.f0 = xl := ⟨_, rfl⟩
      have cl : w7.cell? ⟨bG, oG + (n - 1) * 6, none⟩ = some (.int .i64 xl) := by
        obtain ⟨b', o', e', _, h'⟩ := G_at HG7 hn0
        injection e' with e'; injection e' with e1 e2
        subst e1; subst e2
        refine h' (n - 1) (by have := hln.out; omega) 0 _ ?_
        have : xs[n - 1]! = x := by
          rw [hxs.out, ← hg0l.out, getElem!_pos _ _ (by simp)]; simp
        rw [this, ← hxl]; rfl
      replace k0 := Aside0.mk (row_below hb7 (row_below bb6.out k0.out))
      clear c0 c1 c06 c16 kb6 bb6 hcG hb7 hb6 HG6 HT6
      have c07r := Aside0.mk k0.out
      replace HG7 := Aside0.mk HG7; replace HT7 := Aside0.mk HT7; replace hxl := Aside0.mk hxl; replace hb06 := Aside0.mk hb06
      have i1 : ((n - 1 : Nat) : Int) < (n : Int) := by omega
      have i2 : (0 : Int) ≤ ((n - 1 : Nat) : Int) := by omega
      have i3 : ((n - 1 : Nat) : Int) ≤ (c : Int) := by have := hc.out; omega
      go_wp2_with (first
        | (((with_reducible refine gate_dst (N := 9) rfl ?_); refine box_event ?hg (N := 9) ?hd (cs := #[.slice none 0 0, .slice none 0 0]) (t := 25) ?hr ?_; (case hd => rfl); (case hg => rfl); (case hr => first | (go_simp; done) | (go_simp; rfl)); intro b9 hb9 w8 kb9 bb9; replace hb9 := Aside0.mk hb9; replace kb9 := Aside0.mk kb9; replace bb9 := Aside0.mk bb9); have c08 := pw_cell_below bb9.out c07; have c18 := pw_cell_below bb9.out c17; have d08 := (Kf.cell_row kb9.out 0).trans (rfl : _ = some (Value.slice none 0 0)); have d18 := (Kf.cell_row kb9.out 1).trans (rfl : _ = some (Value.slice none 0 0))))
      go_still_tail 6, (by kernel_rfl)
      change wpList _ _ _ _ _ w8.drew
      have hS8 : Bld w.heap.size w b9 none 0 [] none 0 [] w8 := Bld.start (hB7.out.trans (bb9.out.mono hB7.out.size)) (by have := hb9.out; have := hB7.out.size; omega) kb9.out
      have hS9 := Aside0.mk hS8.drew
      have bb9' := Aside0.mk bb9.out.drew
      replace k0 := Aside0.mk (row_below bb9'.out k0.out)
      have hb90 : Aside0 (b0 ≠ b9) := ⟨by have := lt_row c07r.out; have := hb9.out; omega⟩
      have HG9 := Aside0.mk (Kd.C_below HG7.out bb9'.out)
      have HT9 := Aside0.mk (Kd.C_below HT7.out bb9'.out)
      have c09 : w8.drew.cell? ⟨b0, 0, none⟩ = _ := c08
      have c19 : w8.drew.cell? ⟨b0, 1, none⟩ = _ := c18
      have hgs0 : Aside0 (xs.take (n - 1) = gs0) := ⟨by rw [hxs.out, List.take_append_of_le_length (by rw [hg0l.out]; exact Nat.le_refl _), List.take_of_length_le (by rw [hg0l.out]; exact Nat.le_refl _)]⟩
      have HX9 : Aside0 (kG.C w8.drew (some ⟨bG, oG, none⟩) (n - 1) gs0) := ⟨by rw [← hgs0.out]; exact C_take HG9.out (by omega)⟩
      obtain ⟨w9, hw9⟩ : ∃ w9, w8.drew = w9 := ⟨_, rfl⟩
      rw [hw9] at k0 hS9 bb9' HG9 HT9 c09 c19 HX9 ⊢
      clear kb9 bb9 c08 c18 d08 d18 hS8 hw9 c07 c17 cl c07r
      go_wp2_with (first
        | ((with_reducible refine gate_op (.call ⟨.builtin .append, #[.tmp 41, .tmp 45], #[22, 22]⟩) rfl ?_); refine Kd.R_append_rows kG (w0 := w) w.heap.size rfl (.tmp 41) (.tmp 45) 22 41 (.agg zG.toArray) 48 rfl Try.underlying22 infoG3 rfl (by decide) (by omega) (.slice none 0 0) [] gs0 (some ⟨bG, oG, none⟩) (n - 1) c (fun _ => True) (fun _ => False) rfl rfl hS9.out.rg HX9.out (fun _ _ h => KM_G h) (fun _ hk => hk.elim) (fun _ _ => trivial) hS9.out.below hS9.out.size ?aL ?_; (case aL => simp only [List.length_nil]; omega); intro v10 w10 hR10 hb10 hg10 hat10; rw [List.nil_append] at hR10; obtain ⟨A10, d10, rfl, hd10, _⟩ := Kd.R_reads hR10; replace hR10 := Aside0.mk hR10; replace hb10 := Aside0.mk hb10; replace hg10 := Aside0.mk hg10; replace hat10 := Aside0.mk hat10; replace hd10 := Aside0.mk hd10; have hr10 := Aside0.mk ((hg10.out.block b9 (lt_row hS9.out.row) (by intro e; cases e)).trans hS9.out.row))
        | ((with_reducible refine gate_op (.store 22 (.tmp 47) (.tmp 46)) rfl ?_); refine storeCell_event rfl _ _ _ rfl ⟨b9, 0, none⟩ (.slice A10 gs0.length d10) (.slice none 0 0) rfl rfl rfl ((cell_row hr10.out 0).trans rfl) (frozen_row hr10.out 0) info_rowG rfl rfl ?_; have hS11 := Aside0.mk (hS9.out.pushG hR10.out hb10.out hg10.out); have k011 := Aside0.mk (hS9.out.keepG (v := .slice A10 gs0.length d10) hg10.out k0.out hb90.out); generalize w10.setCell _ _ = w11 at hS11 k011 ⊢))
      clear hR10 hb10 hg10 hat10 hr10 hS9 bb9' HG9 HT9 HX9 k0 c09 c19
      go_loopw [10] (fun iv wr => ∃ (k : Nat) (B1 : Option Addr) (d1 : Nat) (us : List ST), iv = .int .i64 k ∧ k ≤ m ∧ Aside0 (us = (ts.take k).filter (fun t => !decide (t.f1 = xl))) ∧ Aside0 (Bld w.heap.size w b9 A10 d10 gs0 B1 d1 us wr) ∧ Aside0 (wr.heap[b0]? = some (.cells #[.slice (some ⟨bG, oG, none⟩) n c, .slice B m d] 25 (0, 0)))) (fun iv _ => m - (intOf iv).toNat)
      case atStart => exact ⟨0, none, 0, [], rfl, Nat.zero_le _, ⟨by simp⟩, hS11, k011⟩
      case round =>
        obtain ⟨k, B1, d1, us, rfl, hk, hus, hSr, k0r⟩ := hrel
        have c1 := (Kf.cell_row k0r.out 1).trans (rfl : _ = some (Value.slice B m d))
        by_cases hlt : k < m
        · have p1 : 0 ≤ (k : Int) := by omega
          have q1 : (k : Int) < (m : Int) := by omega
          have HTr := Kd.C_below HT.out hSr.out.below
          obtain ⟨bT, oT, x1, eB, hbT, hx1, t0, t1, t2, t3, t4, t5, t6, t7⟩ := T_one HTr hlt
          subst eB
          have htk : ts.take (k + 1) = ts.take k ++ [x1] := by rw [List.take_add_one, hx1]; rfl
          replace HTr := Aside0.mk HTr; replace hx1 := Aside0.mk hx1; replace htk := Aside0.mk htk
          by_cases he : x1.f1 = xl
          · have hus' : Aside0 (us = (ts.take (k + 1)).filter (fun t => !decide (t.f1 = xl))) := ⟨by rw [htk.out, List.filter_append, hus.out]; simp [he]⟩
            have i9 : (x1.f1 != xl) = false := by simpa using he
            go_wp2_with fail
            go_roundw
            case rel => exact ⟨k + 1, B1, d1, us, by simp, by omega, hus', hSr, k0r⟩
            case measure => show m - ((k : Int) + 1).toNat < m - (k : Int).toNat; omega
          · have hus' : Aside0 (us ++ [x1] = (ts.take (k + 1)).filter (fun t => !decide (t.f1 = xl))) := ⟨by rw [htk.out, List.filter_append, hus.out]; simp [he]⟩
            have i9 : (x1.f1 != xl) = true := by simpa using he
            replace he := Aside0.mk he
            go_wp2_with fail
            have d1r := (cell_row hSr.out.row 1).trans (rfl : _ = some (Value.slice B1 us.length d1))
            obtain ⟨n1, hn1⟩ : ∃ n1, us.length = n1 := ⟨_, rfl⟩
            have hl8 : (us.length + 1) * 64 ≤ 140737488355328 := by
              have h1 : us.length ≤ (ts.take k).length := by rw [hus.out]; exact List.length_filter_le _ _
              have h2 := List.length_take_le k ts
              omega
            rw [hn1] at d1r
            replace hn1 := Aside0.mk hn1; replace hl8 := Aside0.mk hl8
            obtain ⟨n2, hn2⟩ : ∃ n2, (us ++ [x1]).length = n2 := ⟨_, rfl⟩
            have hSd := Aside0.mk hSr.out.drew
            have hRd : kT.R 46 wr.drew w.heap.size (fun _ => True) (.slice B1 n1 d1) us := by rw [← hn1.out]; exact hSd.out.rt
            have d1a : (wr.alloc (.cells #[.int .i64 x1.f0, .int .i64 x1.f1, .int .i64 x1.f2, .int .u64 x1.f3, .bool x1.f4, .int .i64 x1.f5, .int .i64 x1.f6.f0, .int .i64 x1.f6.f1] 46)).cell? ⟨b9, 1, none⟩ = some (.slice B1 n1 d1) := pw_cell_below (below_alloc (Below.refl _ wr) _) d1r
            replace hn2 := Aside0.mk hn2; replace hRd := Aside0.mk hRd
            go_region_law (first
              | (refine Kd.R_append_step kT (w0 := w) w.heap.size (by rfl) _ _ 23 46 (.agg #[.int .i64 0, .int .i64 0, .int .i64 0, .int .u64 0, .bool false, .int .i64 0, .int .i64 0, .int .i64 0]) 64 (by rfl) Try.underlying23 infoT rfl (by decide) (by omega) (.slice B1 n1 d1) us x1 ([.int .i64 x1.f0, .int .i64 x1.f1, .int .i64 x1.f2, .int .u64 x1.f3, .bool x1.f4, .int .i64 x1.f5, .int .i64 x1.f6.f0, .int .i64 x1.f6.f1] : List Value) (fun _ => True) (fun _ => False) (by rfl) (by rfl) ?aP (fun _ hk => hk.elim) (fun _ _ => trivial) hRd.out hSd.out.below hSd.out.size hl8.out ?_; (case aP => exact k46_mkM _ _ _ _); intro v2 w10 hR10 hb10 hg10 hat10; obtain ⟨B2, d2, ev2, hd2, _⟩ := Kd.R_reads hR10; rw [hn2.out] at ev2; subst ev2; rw [← hn2.out] at hR10; rw [← hn1.out] at hg10; have hr10 := (hg10.block b9 (lt_row hSd.out.row) (fun e => Kd.R_ne hSd.out.rt hSd.out.row (by decide) e)).trans hSd.out.row; have s10 := (cell_row hr10 1).trans (rfl : _ = some (Value.slice B1 us.length d1)); have s11 : w10.frozen? ⟨b9, 1, none⟩ = false := frozen_row hr10 1; replace hR10 := Aside0.mk hR10; replace hb10 := Aside0.mk hb10; replace hg10 := Aside0.mk hg10; replace hat10 := Aside0.mk hat10; replace hr10 := Aside0.mk hr10))
            all_goals go_wp2_with fail
            all_goals go_roundw
            all_goals try (case measure => show m - ((k : Int) + 1).toNat < m - (k : Int).toNat; omega)
            all_goals
              refine ⟨k + 1, B2, d2, us ++ [x1], by simp, by omega, hus', ⟨?_⟩, ⟨?_⟩⟩
              · rw [← hn2.out]; exact hSd.out.pushT hR10.out hb10.out hg10.out
              · exact hSd.out.keepT hg10.out k0r.out hb90.out
        · have d0r := (cell_row hSr.out.row 0).trans (rfl : _ = some (Value.slice A10 gs0.length d10))
          have d1r := (cell_row hSr.out.row 1).trans (rfl : _ = some (Value.slice B1 us.length d1))
          go_wp2_with (first
            | ((with_reducible refine gate_op (.load 25 (.tmp 9)) rfl ?_); refine wpList_load_midB rfl _ _ rfl ⟨b9, 0, none⟩ rfl [.slice A10 gs0.length d10, .slice B1 us.length d1] _ (two_cells d0r d1r) Try.underlying25 rfl info_S ?_))
          obtain rfl : k = m := by omega
          have husA : us = ts.filter (fun t => !decide (t.f1 = xl)) := by rw [hus.out, List.take_of_length_le (by rw [hlm.out]; exact Nat.le_refl _)]
          obtain ⟨r1, r2, r3, r4, r5, r6⟩ := hSr.out.reads
          have F2 : Fine (gs0.map gOf ++ [gOf x]) (ts.map tOf) := by
            have := F.out
            rw [hxs.out, List.map_append] at this; exact this
          have hut : us.map tOf = (ts.map tOf).filter fun t => !decide (t.group = (gOf x).id) := by
            rw [husA, List.filter_map, show (gOf x).id = xl from hxl.out]; rfl
          have hck2 : checkOf (gs0.map gOf) (us.map tOf) = if n - 1 = 0 then 2 else 0 := by
            by_cases h1 : n - 1 = 0
            · rw [if_pos h1]
              have : gs0 = [] := List.length_eq_zero_iff.1 (by rw [hg0l.out]; exact h1)
              rw [this]; rfl
            · rw [if_neg h1, hut]
              refine (fine_iff _ _).2 (parts_law F2 (fun e => h1 ?_))
              have := congrArg List.length e
              rw [List.length_map, hg0l.out] at this; exact this
          with_reducible refine (Check_calls A10 gs0.length d10 gs0 B1 us.length d1 us wr r1 r2 r3 r4 r6 (fun y hy => ho.out y (by rw [hxs.out]; simp [hy]))).mono ?_
          rintro e w12 ⟨rfl, hb12⟩
          rw [hck2]
          have hBf := hSr.out.below.trans (hb12.mono hSr.out.below.size)
          clear hut F2 r1 r2 r3 r4 r5 r6 husA hSr k0r d0r d1r
          replace hBf := Aside0.mk hBf
          by_cases h1 : n - 1 = 0
          · have h2 : ((n - 1 : Nat) : Int) = 0 := by omega
            rw [if_pos h1]
            go_wp2_with fail
            go_ret
            exact ⟨rfl, hBf.out⟩
          · have h2 : ¬ ((n - 1 : Nat) : Int) = 0 := by omega
            have h3 : (0 : Int) < ((n - 1 : Nat) : Int) := by omega
            rw [if_neg h1]
            go_wp2_with fail
            go_ret
            exact ⟨rfl, hBf.out⟩
    · clear hck
      go_wp2_with fail
      go_ret
      exact ⟨rfl, hB4.out⟩
end Go.Proofs.Ytpnjhffnlafabaa.Sn
