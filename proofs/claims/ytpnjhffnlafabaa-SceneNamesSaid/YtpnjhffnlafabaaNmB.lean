/- SceneNames: what is renamed can be, just if it could, and is as it was but for its numbers; in two steps it is as in one. -/
import Derived.Test.YtpnjhffnlafabaaNmA
namespace Go.Proofs.Ytpnjhffnlafabaa.Sn
set_option linter.unusedVariables false
set_option linter.unusedSimpArgs false
open Go.RowKit Go.Sort Go.Shelf Go.Lib Go.Proofs.Bk Go.Proofs.Bm Go.Proofs.Op Go.Proofs.Sc Go.Proofs.Kf Go.Proofs.YtpnjhffnlafabaaW.PrintWords Go.Proofs.Ytpnjhffnlafabaa.PSceneOrders Go.Proofs.Ytpnjhffnlafabaa.St

set_option maxHeartbeats 8000000 in
set_option maxRecDepth 100000 in
theorem SceneNames_calls (w : World) (A : Option Addr) (n c : Nat) (xs : List SG) (B : Option Addr) (m d : Nat) (ts : List ST) (hG : kG.C w A n xs) (hc : n ≤ c) (hT : kT.C w B m ts) (hd : m ≤ d) (hB : ∀ ad, B = some ad → ad.spot = none) (ho : ∀ x ∈ xs, okG x)
    (a1 : Int) (v1 : (Lit.int .u16 a1).wf = true) (a2 : Int) (v2 : (Lit.int .u16 a2).wf = true) :
    Calls Try.prog 8 #[.agg #[.slice A n c, .slice B m d], .int .u16 a1, .int .u16 a2] w (OkPost w) := by
  have ha1 : 0 ≤ a1 ∧ a1 ≤ 65535 := by simp [Lit.wf, IntKind.min, IntKind.max, IntKind.signed, IntKind.bits] at v1; omega
  have ha2 : 0 ≤ a2 ∧ a2 ≤ 65535 := by simp [Lit.wf, IntKind.min, IntKind.max, IntKind.signed, IntKind.bits] at v2; omega
  obtain ⟨p1, p2⟩ := ha1
  obtain ⟨p3, p4⟩ := ha2
  clear v1 v2
  have z1 : IntKind.i64.wrap a1 = a1 := by rw [IntKind.wrap_i64]; omega
  have z2 : IntKind.i64.wrap a2 = a2 := by rw [IntKind.wrap_i64]; omega
  have z3 : IntKind.i64.wrap (a1 + a2) = a1 + a2 := by rw [IntKind.wrap_i64]; omega
  have hln := hG.1
  have hlm := hT.1
  have HG := Aside0.mk hG
  have HT := Aside0.mk hT
  clear hG hT
  replace hln := Aside0.mk hln; replace hlm := Aside0.mk hlm; replace hc := Aside0.mk hc; replace hd := Aside0.mk hd; replace hB := Aside0.mk hB; replace ho := Aside0.mk ho
  go_enter Try.func8, Try.ntmps8
  go_wp2_with (first
    | (((with_reducible refine gate_dst (N := 3) rfl ?_); refine box_event ?hg (N := 3) ?hd (cs := #[.slice A n c, .slice B m d]) (t := 25) ?hr ?_; (case hd => rfl); (case hg => rfl); (case hr => first | (go_simp; done) | (go_simp; rfl)); intro b0 hb0 w1 kb0 bb0; replace hb0 := Aside0.mk hb0; replace kb0 := Aside0.mk kb0; replace bb0 := Aside0.mk bb0); have k0 := Aside0.mk kb0.out; have c0 := (Kf.cell_row kb0.out 0).trans (rfl : _ = some (Value.slice A n c)); have c1 := (Kf.cell_row kb0.out 1).trans (rfl : _ = some (Value.slice B m d))))
  with_reducible refine (awake_calls w1).mono ?_
  rintro e w2 ⟨rfl, hb2⟩
  have hB2 := bb0.out.trans (hb2.mono bb0.out.size)
  replace c0 := pw_cell_below hb2 c0
  replace c1 := pw_cell_below hb2 c1
  replace k0 := Aside0.mk (row_below hb2 k0.out)
  clear hb2 kb0 bb0
  replace hB2 := Aside0.mk hB2
  go_wp2_with (first
    | ((with_reducible refine gate_op (.load 25 (.tmp 3)) rfl ?_); refine wpList_load_midB rfl _ _ rfl ⟨b0, 0, none⟩ rfl [.slice A n c, .slice B m d] _ (two_cells c0 c1) Try.underlying25 rfl info_S ?_))
  with_reducible refine (few_calls A n c xs B m d ts w2 (Kd.C_below HG.out hB2.out) hc.out (Kd.C_below HT.out hB2.out) hd.out).mono ?_
  rintro e w3 ⟨rfl, hb3⟩
  have hB3 := Aside0.mk (hB2.out.trans (hb3.mono hB2.out.size))
  replace c0 := pw_cell_below hb3 c0
  replace c1 := pw_cell_below hb3 c1
  replace k0 := Aside0.mk (row_below hb3 k0.out)
  clear hb3 hB2
  obtain ⟨few, hfew⟩ : ∃ few, decide (n ≤ 30 ∧ m ≤ 30) = few := ⟨_, rfl⟩
  rw [hfew]
  cases few with
  | false =>
    clear hfew
    go_wp2_with fail
    go_ret
    exact ⟨rfl, hB3.out⟩
  | true =>
    obtain ⟨hn30, hm30⟩ := of_decide_eq_true hfew
    clear hfew
    go_wp2_with (first
      | ((with_reducible refine gate_op (.load 25 (.tmp 3)) rfl ?_); refine wpList_load_midB rfl _ _ rfl ⟨b0, 0, none⟩ rfl [.slice A n c, .slice B m d] _ (two_cells c0 c1) Try.underlying25 rfl info_S ?_))
    with_reducible refine (Rename_calls w3 A n c xs B m d ts (Kd.C_below HG.out hB3.out) hc.out (Kd.C_below HT.out hB3.out) hd.out hB.out ho.out a1).mono ?_
    rintro e w4 ⟨A4, c4, B4, d4, gs, us, er, rfl, y1, y2, y3, y4, y5, y6, y7, hb4⟩
    have hB4 := Aside0.mk (hB3.out.trans (hb4.mono hB3.out.size))
    replace c0 := pw_cell_below hb4 c0
    replace c1 := pw_cell_below hb4 c1
    replace k0 := Aside0.mk (row_below hb4 k0.out)
    clear hb4 hB3
    by_cases he : er = 0
    case neg =>
      obtain ⟨h1, h2, h3⟩ := ren_err p1 (by omega) y6 he
      obtain rfl : gs = [] := by cases gs with | nil => rfl | cons x l => simp at h1
      obtain rfl : us = [] := by cases us with | nil => rfl | cons x l => simp at h2
      have he' : ¬ er = 0 := he
      obtain ⟨ck, hck⟩ : ∃ ck, checkOf (xs.map gOf) (ts.map tOf) = ck := ⟨_, rfl⟩
      rw [hck] at h3
      change kG.C w4 A4 0 [] at y3
      replace y3 := Aside0.mk y3; replace y4 := Aside0.mk y4; replace y5 := Aside0.mk y5; replace y6 := Aside0.mk y6; replace y7 := Aside0.mk y7; replace hck := Aside0.mk hck; replace h1 := Aside0.mk h1; replace h2 := Aside0.mk h2; replace h3 := Aside0.mk h3; replace y1 := Aside0.mk y1; replace y2 := Aside0.mk y2
      go_wp2_with (first
        | (((with_reducible refine gate_dst (N := 9) rfl ?_); refine box_event ?hg (N := 9) ?hd (cs := #[.slice none 0 0, .slice none 0 0]) (t := 25) ?hr ?_; (case hd => rfl); (case hg => rfl); (case hr => first | (go_simp; done) | (go_simp; rfl)); intro b9 hb9 w5 kb9 bb9; replace hb9 := Aside0.mk hb9; replace kb9 := Aside0.mk kb9; replace bb9 := Aside0.mk bb9))
        | (((with_reducible refine gate_op (.store 25 (.tmp 9) (.tmp 28)) rfl ?_); refine wpList_store_midB rfl _ _ _ rfl b9 0 [.slice A4 0 c4, .slice B4 0 d4] rfl rfl 25 [.slice none 0 0, .slice none 0 0] kb9.out info_S (Nat.le_refl _) one2 ?_; obtain ⟨kk, bb⟩ := boxed (cs := [.slice none 0 0, .slice none 0 0]) (cs2 := [.slice A4 0 c4, .slice B4 0 d4]) hb9.out kb9.out bb9.out rfl; revert kk bb; generalize World.setRow _ b9 (splice [.slice none 0 0, .slice none 0 0] 0 [.slice A4 0 c4, .slice B4 0 d4]).toArray = w6; clear kb9 bb9; intro kb9 bb9; replace kb9 := Aside0.mk kb9; replace bb9 := Aside0.mk bb9); have e0 := (Kf.cell_row kb9.out 0).trans (rfl : _ = some (Value.slice A4 0 c4)); have e1 := (Kf.cell_row kb9.out 1).trans (rfl : _ = some (Value.slice B4 0 d4)); have q0 := pw_cell_below bb9.out c0; have q1 := pw_cell_below bb9.out c1)
        | ((with_reducible refine gate_op (.load 25 (.tmp 3)) rfl ?_); refine wpList_load_midB rfl _ _ rfl ⟨b0, 0, none⟩ rfl [.slice A n c, .slice B m d] _ (two_cells q0 q1) Try.underlying25 rfl info_S ?_))
      have hB6 := hB4.out.trans (bb9.out.mono hB4.out.size)
      with_reducible refine (Check_calls A n c xs B m d ts w6 (Kd.C_below HG.out hB6) hc.out (Kd.C_below HT.out hB6) hd.out hB.out ho.out).mono ?_
      rintro e w7 ⟨rfl, hb7⟩
      rw [hck.out]
      have hB7 := Aside0.mk (hB6.trans (hb7.mono hB6.size))
      clear kb9 bb9 hb7 hB6
      by_cases h6 : er = 6
      · have hc0 := h3.out.1 h6
        subst h6
        subst hc0
        go_wp2_with fail
        go_ret
        exact ⟨rfl, hB7.out⟩
      · have hc0 : ¬ ck = 0 := fun h => h6 (h3.out.2 h)
        have i6 : (er == 6) = false := by simpa using h6
        have i7 : (ck == 0) = false := by simpa using hc0
        go_wp2_with fail
        go_ret
        exact ⟨rfl, hB7.out⟩
    case pos =>
      subst he
      obtain ⟨F, -, hm, hgs, hus⟩ := ren_ok y6
      obtain ⟨hg9, hu9⟩ := y7 rfl
      have F2 : Fine (gs.map gOf) (us.map tOf) := by rw [hgs, hus]; exact names_law F p1 hm
      have hok2 : ∀ x ∈ gs, okG x := by rw [hg9]; exact renSL_ok F p1 (by omega) ho.out
      obtain ⟨n4, hn4⟩ : ∃ n4, gs.length = n4 := ⟨_, rfl⟩
      obtain ⟨m4, hm4⟩ : ∃ m4, us.length = m4 := ⟨_, rfl⟩
      have hn4e : n4 = n := by rw [← hn4, hg9, renSL_len, hln.out]
      have hm4e : m4 = m := by rw [← hm4, hu9, List.length_map, hlm.out]
      rw [hn4] at y1 y3 ⊢
      rw [hm4] at y2 y4 ⊢
      obtain ⟨tl, htl⟩ : ∃ tl, tallOf (xs.map gOf) = tl := ⟨_, rfl⟩
      have htl2 : tallOf (gs.map gOf) = tl := by rw [hgs, tall_ren F p1, htl]
      have hck1 : checkOf (xs.map gOf) (ts.map tOf) = 0 := (fine_iff _ _).2 F
      have hck2 : checkOf (gs.map gOf) (us.map tOf) = 0 := (fine_iff _ _).2 F2
      subst hn4e
      subst hm4e
      replace F := Aside0.mk F; replace hm := Aside0.mk hm; replace hgs := Aside0.mk hgs; replace hus := Aside0.mk hus; replace hg9 := Aside0.mk hg9; replace hu9 := Aside0.mk hu9; replace F2 := Aside0.mk F2; replace hok2 := Aside0.mk hok2; replace hn4 := Aside0.mk hn4; replace hm4 := Aside0.mk hm4; replace htl := Aside0.mk htl; replace htl2 := Aside0.mk htl2; replace hck1 := Aside0.mk hck1; replace hck2 := Aside0.mk hck2; replace y1 := Aside0.mk y1; replace y2 := Aside0.mk y2; replace y3 := Aside0.mk y3; replace y4 := Aside0.mk y4; replace y5 := Aside0.mk y5; replace y6 := Aside0.mk y6
      clear y7
      go_wp2_with (first
        | (((with_reducible refine gate_dst (N := 9) rfl ?_); refine box_event ?hg (N := 9) ?hd (cs := #[.slice none 0 0, .slice none 0 0]) (t := 25) ?hr ?_; (case hd => rfl); (case hg => rfl); (case hr => first | (go_simp; done) | (go_simp; rfl)); intro b9 hb9 w5 kb9 bb9; replace hb9 := Aside0.mk hb9; replace kb9 := Aside0.mk kb9; replace bb9 := Aside0.mk bb9))
        | (((with_reducible refine gate_op (.store 25 (.tmp 9) (.tmp 28)) rfl ?_); refine wpList_store_midB rfl _ _ _ rfl b9 0 [.slice A4 n4 c4, .slice B4 m4 d4] rfl rfl 25 [.slice none 0 0, .slice none 0 0] kb9.out info_S (Nat.le_refl _) one2 ?_; obtain ⟨kk, bb⟩ := boxed (cs := [.slice none 0 0, .slice none 0 0]) (cs2 := [.slice A4 n4 c4, .slice B4 m4 d4]) hb9.out kb9.out bb9.out rfl; revert kk bb; generalize World.setRow _ b9 (splice [.slice none 0 0, .slice none 0 0] 0 [.slice A4 n4 c4, .slice B4 m4 d4]).toArray = w6; clear kb9 bb9; intro kb9 bb9; replace kb9 := Aside0.mk kb9; replace bb9 := Aside0.mk bb9); have e0 := (Kf.cell_row kb9.out 0).trans (rfl : _ = some (Value.slice A4 n4 c4)); have e1 := (Kf.cell_row kb9.out 1).trans (rfl : _ = some (Value.slice B4 m4 d4)); have q0 := pw_cell_below bb9.out c0; have q1 := pw_cell_below bb9.out c1))
      have hB9 : Aside0 (Below w.heap.size w w6.drew) := ⟨(hB4.out.trans (bb9.out.mono hB4.out.size)).drew⟩
      have z90 : Aside0 (Below w4.heap.size w4 w6.drew) := ⟨bb9.out.drew⟩
      have c09 : w6.drew.cell? ⟨b0, 0, none⟩ = _ := q0
      have c19 : w6.drew.cell? ⟨b0, 1, none⟩ = _ := q1
      have e09 : w6.drew.cell? ⟨b9, 0, none⟩ = _ := e0
      have e19 : w6.drew.cell? ⟨b9, 1, none⟩ = _ := e1
      have hC1 : ∀ W, Below w4.heap.size w4 W → Calls Try.prog 12 #[.agg #[.slice A4 n4 c4, .slice B4 m4 d4]] W fun e w' => e = .returned (.int .i64 0) ∧ Below W.heap.size W w' := fun W hW => by
        have := Check_calls A4 n4 c4 gs B4 m4 d4 us W (Kd.C_below y3.out hW) y1.out (Kd.C_below y4.out hW) y2.out y5.out hok2.out
        exact this.mono fun e w' ⟨h1, h2⟩ => ⟨by rw [h1, hck2.out], h2⟩
      have hC2 : ∀ W, Below w.heap.size w W → Calls Try.prog 12 #[.agg #[.slice A n4 c, .slice B m4 d]] W fun e w' => e = .returned (.int .i64 0) ∧ Below W.heap.size W w' := fun W hW => by
        have := Check_calls A n4 c xs B m4 d ts W (Kd.C_below HG.out hW) hc.out (Kd.C_below HT.out hW) hd.out hB.out ho.out
        exact this.mono fun e w' ⟨h1, h2⟩ => ⟨by rw [h1, hck1.out], h2⟩
      have hT1 : ∀ W, Below w4.heap.size w4 W → Calls Try.prog 16 #[.agg #[.slice A4 n4 c4, .slice B4 m4 d4]] W fun e w' => e = .returned (.int .i64 tl) ∧ Below W.heap.size W w' := fun W hW => by
        have := Tall_calls A4 n4 c4 gs B4 m4 d4 W (Kd.C_below y3.out hW) (by omega)
        exact this.mono fun e w' ⟨h1, h2⟩ => ⟨by rw [h1, htl2.out], h2⟩
      have hT2 : ∀ W, Below w.heap.size w W → Calls Try.prog 16 #[.agg #[.slice A n4 c, .slice B m4 d]] W fun e w' => e = .returned (.int .i64 tl) ∧ Below W.heap.size W w' := fun W hW => by
        have := Tall_calls A n4 c xs B m4 d W (Kd.C_below HG.out hW) (by omega)
        exact this.mono fun e w' ⟨h1, h2⟩ => ⟨by rw [h1, htl.out], h2⟩
      replace hC1 := Aside0.mk hC1; replace hC2 := Aside0.mk hC2; replace hT1 := Aside0.mk hT1; replace hT2 := Aside0.mk hT2
      go_region_held3 (fun w' => w'.cell? ⟨b0, 0, none⟩ = some (.slice A n4 c) ∧ w'.cell? ⟨b0, 1, none⟩ = some (.slice B m4 d) ∧ w'.cell? ⟨b9, 0, none⟩ = some (.slice A4 n4 c4) ∧ w'.cell? ⟨b9, 1, none⟩ = some (.slice B4 m4 d4))
        (first | (with_reducible exact ⟨c09, c19, e09, e19⟩) | (with_reducible exact ⟨c010, c110, e010, e110⟩) | (with_reducible exact ⟨c011, c111, e011, e111⟩) | (with_reducible exact ⟨c012, c112, e012, e112⟩) | (with_reducible exact ⟨c013, c113, e013, e113⟩) | go_keep)
        (first
          | (go_at_call 12; (with_reducible refine (hC1.out w6.drew z90.out).mono ?_); rintro e w10 ⟨rfl, hb10⟩; have c010 := pw_cell_below hb10 c09; have c110 := pw_cell_below hb10 c19; have e010 := pw_cell_below hb10 e09; have e110 := pw_cell_below hb10 e19; have hB10 := Aside0.mk (hB9.out.trans (hb10.mono hB9.out.size)); have z100 := Aside0.mk (z90.out.trans (hb10.mono z90.out.size)); clear hb10)
          | (go_at_call 12; (with_reducible refine (hC2.out w10 hB10.out).mono ?_); rintro e w11 ⟨rfl, hb11⟩; have c011 := pw_cell_below hb11 c010; have c111 := pw_cell_below hb11 c110; have e011 := pw_cell_below hb11 e010; have e111 := pw_cell_below hb11 e110; have hB11 := Aside0.mk (hB10.out.trans (hb11.mono hB10.out.size)); have z110 := Aside0.mk (z100.out.trans (hb11.mono z100.out.size)); clear hb11)
          | (go_at_call 16; (with_reducible refine (hT1.out w11 z110.out).mono ?_); rintro e w12 ⟨rfl, hb12⟩; have c012 := pw_cell_below hb12 c011; have c112 := pw_cell_below hb12 c111; have e012 := pw_cell_below hb12 e011; have e112 := pw_cell_below hb12 e111; have hB12 := Aside0.mk (hB11.out.trans (hb12.mono hB11.out.size)); have z120 := Aside0.mk (z110.out.trans (hb12.mono z110.out.size)); clear hb12)
          | (go_at_call 16; (with_reducible refine (hT2.out w12 hB12.out).mono ?_); rintro e w13 ⟨rfl, hb13⟩; have c013 := pw_cell_below hb13 c012; have c113 := pw_cell_below hb13 c112; have e013 := pw_cell_below hb13 e012; have e113 := pw_cell_below hb13 e112; have hB13 := Aside0.mk (hB12.out.trans (hb13.mono hB12.out.size)); have z130 := Aside0.mk (z120.out.trans (hb13.mono z120.out.size)); clear hb13))
      have k0d : Aside0 (Below w.heap.size w w13) := hB13
      clear c09 c19 e09 e19 c010 c110 e010 e110 c011 c111 e011 e111 c012 c112 e012 e112 q0 q1 e0 e1 c0 c1 hB10 hB11 hB12 z100 z110 z120 hC1 hC2 hT1 hT2 hB9 z90 kb9 bb9 k0
      go_wp2_with fail
      go_loopw [11] (fun iv wr => ∃ k : Nat, iv = .int .i64 k ∧ k ≤ m4 ∧ Aside0 (Below w13.heap.size w13 wr)) (fun iv _ => m4 - (intOf iv).toNat)
      case atStart => exact ⟨0, rfl, Nat.zero_le _, ⟨Below.refl _ _⟩⟩
      case round =>
        obtain ⟨k, rfl, hk, hr⟩ := hrel
        have c0r := pw_cell_below hr.out c013
        have c1r := pw_cell_below hr.out c113
        have e0r := pw_cell_below hr.out e013
        have e1r := pw_cell_below hr.out e113
        by_cases hlt : k < m4
        · have q1 : 0 ≤ (k : Int) := by omega
          have q2 : (k : Int) < (m4 : Int) := by omega
          have hBr := hB13.out.trans (hr.out.mono hB13.out.size)
          have hzr := z130.out.trans (hr.out.mono z130.out.size)
          obtain ⟨bT, oT, x, eB, hbT, hx, t0, t1, t2, t3, t4, t5, t6, t7⟩ := T_one (Kd.C_below HT.out hBr) hlt
          obtain ⟨bU, oU, x', eU, hbU, hx', s0, s1, s2, s3, s4, s5, s6, s7⟩ := T_one (Kd.C_below y4.out hzr) hlt
          subst eB
          subst eU
          have hxe : x' = renST a1 x := by
            rw [hu9.out, List.getElem?_map, hx] at hx'
            exact (Option.some.inj hx').symm
          subst hxe
          have hid : -1048576 ≤ x.f0 ∧ x.f0 ≤ 1048576 ∧ -1048576 ≤ x.f1 ∧ x.f1 ≤ 1048576 := by
            have hxF : tOf x ∈ ts.map tOf := List.mem_map.2 ⟨x, List.mem_of_getElem? hx, rfl⟩
            have i1 : 1 ≤ x.f0 ∧ x.f0 ≤ 1048576 := within1_iff.1 (oddT_id (F.out.ot _ hxF))
            obtain ⟨y, hy, hye⟩ := List.mem_map.1 (F.out.grp _ hxF)
            have i2 := within1_iff.1 (oddG_id (F.out.og y hy))
            rw [hye] at i2
            have i3 : 1 ≤ x.f1 ∧ x.f1 ≤ 1048576 := i2
            omega
          obtain ⟨x0, x1, x2, x3, x4, x5, ⟨x6, x7⟩⟩ := x
          change -1048576 ≤ x0 ∧ x0 ≤ 1048576 ∧ -1048576 ≤ x1 ∧ x1 ≤ 1048576 at hid
          obtain ⟨i1, i2, i3, i4⟩ := hid
          change wr.cell? _ = some (Value.int .i64 (x0 + a1)) at s0
          change wr.cell? _ = some (Value.int .i64 (x1 + a1)) at s1
          change wr.cell? _ = some (Value.int .i64 x2) at s2
          change wr.cell? _ = some (Value.int .u64 x3) at s3
          change wr.cell? _ = some (Value.bool x4) at s4
          change wr.cell? _ = some (Value.int .i64 x5) at s5
          change wr.cell? _ = some (Value.int .i64 x6) at s6
          change wr.cell? _ = some (Value.int .i64 x7) at s7
          change wr.cell? _ = some (Value.int .i64 x0) at t0
          change wr.cell? _ = some (Value.int .i64 x1) at t1
          change wr.cell? _ = some (Value.int .i64 x2) at t2
          change wr.cell? _ = some (Value.int .u64 x3) at t3
          change wr.cell? _ = some (Value.bool x4) at t4
          change wr.cell? _ = some (Value.int .i64 x5) at t5
          change wr.cell? _ = some (Value.int .i64 x6) at t6
          change wr.cell? _ = some (Value.int .i64 x7) at t7
          have w0 : x0 + a1 - a1 = x0 := by omega
          have w1 : x1 + a1 - a1 = x1 := by omega
          replace hx := Aside0.mk hx; replace hx' := Aside0.mk hx'; replace hBr := Aside0.mk hBr; replace hzr := Aside0.mk hzr; replace hB13 := Aside0.mk hB13; replace z130 := Aside0.mk z130
          have nn : ∀ a v, wr.cell? a = some v → ∀ o, (wr.alloc o).cell? a = some v := fun a v h o => pw_cell_below (below_alloc (Below.refl _ wr) o) h
          have hcs : ∀ o, (wr.alloc o).cell? ⟨b0, 1, none⟩ = some (.slice (some ⟨bT, oT, none⟩) m4 d) := fun o => nn _ _ c1r o
          have h0 := fun o => nn _ _ t0 o
          have h1 := fun o => nn _ _ t1 o
          have h2 := fun o => nn _ _ t2 o
          have h3 := fun o => nn _ _ t3 o
          have h4 := fun o => nn _ _ t4 o
          have h5 := fun o => nn _ _ t5 o
          have h6 := fun o => nn _ _ t6 o
          have h7 := fun o => nn _ _ t7 o
          replace nn := Aside0.mk nn
          go_wp2_with fail
          have hra : Aside0 (Below w13.heap.size w13 (wr.alloc (.cells #[.int .i64 x0, .int .i64 x1, .int .i64 x2, .int .u64 x3, .bool x4, .int .i64 x5, .int .i64 x6, .int .i64 x7] 46))) := ⟨hr.out.trans ((below_alloc (Below.refl wr.heap.size wr) _).mono hr.out.size)⟩
          go_quiet (fail)
          go_wp2_with fail
          go_roundw
          case rel => exact ⟨k + 1, by simp, by omega, ⟨⟨hra.out.os, hra.out.tape, hra.out.output, hra.out.size, hra.out.block⟩⟩⟩
          case measure => show m4 - ((k : Int) + 1).toNat < m4 - (k : Int).toNat; omega
        · obtain rfl : m4 = k := by omega
          have hBr := Aside0.mk (hB13.out.trans (hr.out.mono hB13.out.size))
          have hzr := Aside0.mk (z130.out.trans (hr.out.mono z130.out.size))
          clear hr hB13 z130 k0d
          go_wp2_with (first
            | ((with_reducible refine gate_op (.load 25 (.tmp 9)) rfl ?_); refine wpList_load_midB rfl _ _ rfl ⟨b9, 0, none⟩ rfl [.slice A4 n4 c4, .slice B4 m4 d4] _ (two_cells e0r e1r) Try.underlying25 rfl info_S ?_))
          with_reducible refine (Rename_calls wr A4 n4 c4 gs B4 m4 d4 us (Kd.C_below y3.out hzr.out) y1.out (Kd.C_below y4.out hzr.out) y2.out y5.out hok2.out a2).mono ?_
          rintro e w14 ⟨A5, c5, B5, d5, us5, vs5, er5, rfl, g1, g2, g3, g4, g5, g6, -, hb14⟩
          have hB14 := Aside0.mk (hBr.out.trans (hb14.mono hBr.out.size))
          have c014 := pw_cell_below hb14 c0r
          have c114 := pw_cell_below hb14 c1r
          clear hb14 c0r c1r e0r e1r c013 c113 e013 e113
          obtain ⟨n5, hn5⟩ : ∃ n5, us5.length = n5 := ⟨_, rfl⟩
          obtain ⟨m5, hm5⟩ : ∃ m5, vs5.length = m5 := ⟨_, rfl⟩
          rw [hn5, hm5]
          rw [hn5] at g1 g3
          rw [hm5] at g2 g4
          have g6' : (er5, us5.map gOf, vs5.map tOf) = renameOf (xs.map gOf) (ts.map tOf) (a1 + a2) := by
            rw [g6, hgs.out, hus.out]; exact ren_two F.out p1 p3 (by omega) hm.out
          replace g1 := Aside0.mk g1; replace g2 := Aside0.mk g2; replace g3 := Aside0.mk g3; replace g4 := Aside0.mk g4; replace g5 := Aside0.mk g5; replace g6 := Aside0.mk g6; replace hn5 := Aside0.mk hn5; replace hm5 := Aside0.mk hm5; replace g6' := Aside0.mk g6'
          go_wp2_with (first
            | (((with_reducible refine gate_dst (N := 13) rfl ?_); refine box_event ?hg (N := 13) ?hd (cs := #[.slice none 0 0, .slice none 0 0]) (t := 25) ?hr ?_; (case hd => rfl); (case hg => rfl); (case hr => first | (go_simp; done) | (go_simp; rfl)); intro b13 hb13 w15 kb13 bb13; replace hb13 := Aside0.mk hb13; replace kb13 := Aside0.mk kb13; replace bb13 := Aside0.mk bb13))
            | (((with_reducible refine gate_op (.store 25 (.tmp 13) (.tmp 113)) rfl ?_); refine wpList_store_midB rfl _ _ _ rfl b13 0 [.slice A5 n5 c5, .slice B5 m5 d5] rfl rfl 25 [.slice none 0 0, .slice none 0 0] kb13.out info_S (Nat.le_refl _) one2 ?_; obtain ⟨kk, bb⟩ := boxed (cs := [.slice none 0 0, .slice none 0 0]) (cs2 := [.slice A5 n5 c5, .slice B5 m5 d5]) hb13.out kb13.out bb13.out rfl; revert kk bb; generalize World.setRow _ b13 (splice [.slice none 0 0, .slice none 0 0] 0 [.slice A5 n5 c5, .slice B5 m5 d5]).toArray = w16; clear kb13 bb13; intro kb13 bb13; replace kb13 := Aside0.mk kb13; replace bb13 := Aside0.mk bb13); have f0 := (Kf.cell_row kb13.out 0).trans (rfl : _ = some (Value.slice A5 n5 c5)); have f1 := (Kf.cell_row kb13.out 1).trans (rfl : _ = some (Value.slice B5 m5 d5)); have c016 := pw_cell_below bb13.out c014; have c116 := pw_cell_below bb13.out c114)
            | ((with_reducible refine gate_op (.load 25 (.tmp 3)) rfl ?_); refine wpList_load_midB rfl _ _ rfl ⟨b0, 0, none⟩ rfl [.slice A n4 c, .slice B m4 d] _ (two_cells c016 c116) Try.underlying25 rfl info_S ?_))
          have hB16 := Aside0.mk (hB14.out.trans (bb13.out.mono hB14.out.size))
          have x3' := Aside0.mk (Kd.C_below g3.out bb13.out)
          have x4' := Aside0.mk (Kd.C_below g4.out bb13.out)
          clear kb13 bb13 hb13 c014 c114
          with_reducible refine (Rename_calls w16 A n4 c xs B m4 d ts (Kd.C_below HG.out hB16.out) hc.out (Kd.C_below HT.out hB16.out) hd.out hB.out ho.out (a1 + a2)).mono ?_
          rintro e w17 ⟨A7, c7, B7, d7, us7, vs7, er7, rfl, j1, j2, j3, j4, j5, j6, -, hb17⟩
          have hev := g6'.out.trans j6.symm
          have h75 : er7 = er5 := (congrArg Prod.fst hev).symm
          have hus : us7 = us5 := (map_inj (fun _ _ => gOf_inj.1) (congrArg (fun p => p.2.1) hev)).symm
          have hvs : vs7 = vs5 := (map_inj (fun _ _ => tOf_inj.1) (congrArg (fun p => p.2.2) hev)).symm
          subst h75
          subst hus
          subst hvs
          rw [hn5.out, hm5.out]
          rw [hn5.out] at j1 j3
          rw [hm5.out] at j2 j4
          have hB17 := Aside0.mk (hB16.out.trans (hb17.mono hB16.out.size))
          replace x3' := Aside0.mk (Kd.C_below x3'.out hb17)
          replace x4' := Aside0.mk (Kd.C_below x4'.out hb17)
          replace f0 := pw_cell_below hb17 f0
          replace f1 := pw_cell_below hb17 f1
          clear hb17 hev c016 c116
          replace j1 := Aside0.mk j1; replace j2 := Aside0.mk j2; replace j3 := Aside0.mk j3; replace j4 := Aside0.mk j4; replace j5 := Aside0.mk j5; replace j6 := Aside0.mk j6
          go_wp2_with (first
            | (((with_reducible refine gate_dst (N := 15) rfl ?_); refine box_event ?hg (N := 15) ?hd (cs := #[.slice none 0 0, .slice none 0 0]) (t := 25) ?hr ?_; (case hd => rfl); (case hg => rfl); (case hr => first | (go_simp; done) | (go_simp; rfl)); intro b15 hb15 w18 kb15 bb15; replace hb15 := Aside0.mk hb15; replace kb15 := Aside0.mk kb15; replace bb15 := Aside0.mk bb15))
            | (((with_reducible refine gate_op (.store 25 (.tmp 15) (.tmp 123)) rfl ?_); refine wpList_store_midB rfl _ _ _ rfl b15 0 [.slice A7 n5 c7, .slice B7 m5 d7] rfl rfl 25 [.slice none 0 0, .slice none 0 0] kb15.out info_S (Nat.le_refl _) one2 ?_; obtain ⟨kk, bb⟩ := boxed (cs := [.slice none 0 0, .slice none 0 0]) (cs2 := [.slice A7 n5 c7, .slice B7 m5 d7]) hb15.out kb15.out bb15.out rfl; revert kk bb; generalize World.setRow _ b15 (splice [.slice none 0 0, .slice none 0 0] 0 [.slice A7 n5 c7, .slice B7 m5 d7]).toArray = w19; clear kb15 bb15; intro kb15 bb15; replace kb15 := Aside0.mk kb15; replace bb15 := Aside0.mk bb15); have r0 := (Kf.cell_row kb15.out 0).trans (rfl : _ = some (Value.slice A7 n5 c7)); have r1 := (Kf.cell_row kb15.out 1).trans (rfl : _ = some (Value.slice B7 m5 d7)); have r2 := pw_cell_below bb15.out f0; have r3 := pw_cell_below bb15.out f1)
            | ((with_reducible refine gate_op (.load 25 (.tmp 13)) rfl ?_); refine wpList_load_midB rfl _ _ rfl ⟨b13, 0, none⟩ rfl [.slice A5 n5 c5, .slice B5 m5 d5] _ (two_cells r2 r3) Try.underlying25 rfl info_S ?_)
            | ((with_reducible refine gate_op (.load 25 (.tmp 15)) rfl ?_); refine wpList_load_midB rfl _ _ rfl ⟨b15, 0, none⟩ rfl [.slice A7 n5 c7, .slice B7 m5 d7] _ (two_cells r0 r1) Try.underlying25 rfl info_S ?_))
          have hl := ren_len g6'.out
          rw [List.length_map, List.length_map, List.length_map, List.length_map, hn5.out, hm5.out, hln.out, hlm.out] at hl
          have hsm := same_calls A5 n5 c5 us7 B5 m5 d5 vs7 A7 n5 c7 us7 B7 m5 d7 vs7 w19 (Kd.C_below x3'.out bb15.out) g1.out (Kd.C_below x4'.out bb15.out) g2.out (Kd.C_below j3.out bb15.out) j1.out (Kd.C_below j4.out bb15.out) j2.out (by omega) (by omega)
          rw [decide_eq_true (⟨rfl, rfl⟩ : us7 = us7 ∧ vs7 = vs7)] at hsm
          have hB19 := Aside0.mk (hB17.out.trans (bb15.out.mono hB17.out.size))
          with_reducible refine hsm.mono ?_
          rintro e w20 ⟨rfl, hb20⟩
          have hB20 := Aside0.mk (hB19.out.trans (hb20.mono hB19.out.size))
          clear hb20 hsm kb15 bb15 r0 r1 r2 r3 f0 f1
          go_wp2_with fail
          go_ret
          exact ⟨rfl, hB20.out⟩
end Go.Proofs.Ytpnjhffnlafabaa.Sn
