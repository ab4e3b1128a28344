/- The reference of law 13: Rename: walked by hand. The statement SceneOrders of law 13: what it computes is true. -/
import Derived.Test.YtpnjhffnlafabaaRf7
import Derived.Test.YtpnjhffnlafabaaRn
namespace Go.Proofs.Ytpnjhffnlafabaa.Sn
set_option linter.unusedVariables false
set_option linter.unusedSimpArgs false
open Go.RowKit Go.Sort Go.Shelf Go.Lib Go.Proofs.Bk Go.Proofs.Bm Go.Proofs.Op Go.Proofs.Sc Go.Proofs.Kf Go.Proofs.YtpnjhffnlafabaaW.PrintWords Go.Proofs.Ytpnjhffnlafabaa.PSceneOrders Go.Proofs.Ytpnjhffnlafabaa.St

theorem take_snoc {α : Type} {l : List α} {k : Nat} {x : α} (h : l[k]? = some x) : l.take (k + 1) = l.take k ++ [x] := by rw [List.take_add_one, h]; rfl
theorem foldl_mem : ∀ (l : List Int) (b k : Int), k ∈ l → k ≤ l.foldl max b
  | x :: l, b, k, h => by
    rw [List.foldl_cons]
    rcases List.mem_cons.1 h with rfl | h
    · exact Int.le_trans (Int.le_max_right b k) (foldl_ge l (max b k))
    · exact foldl_mem l (max b x) k h
set_option maxHeartbeats 8000000 in
set_option maxRecDepth 100000 in
theorem rRename_calls (w : World) (A : Option Addr) (n c : Nat) (xs : List SG) (B : Option Addr) (m d : Nat) (ts : List ST) (hG : kG.C w A n xs) (hc : n ≤ c) (hT : kT.C w B m ts) (hd : m ≤ d) (a : Int) (hn0 : n ≤ 30) (hm0 : m ≤ 30) :
    Calls Try.prog 22 #[.agg #[.slice A n c, .slice B m d], .int .i64 a] w (RenPost xs ts a w) := by
  have hln := hG.1
  have hlm := hT.1
  have HG := Aside0.mk hG
  have HT := Aside0.mk hT
  clear hG hT
  replace hln := Aside0.mk hln; replace hlm := Aside0.mk hlm; replace hc := Aside0.mk hc; replace hd := Aside0.mk hd
  by_cases r0 : a < 0 ∨ 1048576 < a
  · have hr : Aside0 (renameOf (xs.map gOf) (ts.map tOf) a = (1, [], [])) := ⟨by unfold renameOf; rw [if_pos r0]⟩
    go_enter Try.func22, Try.ntmps22
    go_wp2_with (first
      | (((with_reducible refine gate_dst (N := 2) rfl ?_); refine box_event ?hg (N := 2) ?hd (cs := #[.slice A n c, .slice B m d]) (t := 25) ?hr ?_; (case hd => rfl); (case hg => rfl); (case hr => first | (go_simp; done) | (go_simp; rfl)); intro b2 hb2 w1 kb2 bb2; replace hb2 := Aside0.mk hb2; replace kb2 := Aside0.mk kb2; replace bb2 := Aside0.mk bb2))
      | (((with_reducible refine gate_dst (N := 4) rfl ?_); refine box_event ?hg (N := 4) ?hd (cs := #[.slice none 0 0, .slice none 0 0]) (t := 25) ?hr ?_; (case hd => rfl); (case hg => rfl); (case hr => first | (go_simp; done) | (go_simp; rfl)); intro b4 hb4 w2 kb4 bb4; replace hb4 := Aside0.mk hb4; replace kb4 := Aside0.mk kb4; replace bb4 := Aside0.mk bb4))
      | ((with_reducible refine gate_op (.store 25 (.tmp 4) (.tmp 20)) rfl ?_); refine wpList_store_midB rfl _ _ _ rfl b4 0 [.slice none 0 0, .slice none 0 0] rfl rfl 25 [.slice none 0 0, .slice none 0 0] kb4.out info_S (Nat.le_refl _) one2 ?_; obtain ⟨kk, bb⟩ := boxed (cs := [.slice none 0 0, .slice none 0 0]) (cs2 := [.slice none 0 0, .slice none 0 0]) hb4.out kb4.out bb4.out rfl; revert kk bb; generalize World.setRow _ b4 (splice [.slice none 0 0, .slice none 0 0] 0 [.slice none 0 0, .slice none 0 0]).toArray = w3; clear kb4 bb4; intro kb4 bb4; replace kb4 := Aside0.mk kb4; replace bb4 := Aside0.mk bb4))
    all_goals refine bodyPost_ret (results_scene rfl rfl kb4.out rfl) rfl ?_
    all_goals exact RenPost.odd hr.out (by decide) (bb2.out.trans (bb4.out.mono bb2.out.size))
  · have ra0 : 0 ≤ a := by omega
    have ra1 : a ≤ 1048576 := by omega
    have ra2 : ¬ a < 0 := by omega
    have ra3 : ¬ 1048576 < a := by omega
    obtain ⟨ck, hck⟩ : ∃ ck, checkOf (xs.map gOf) (ts.map tOf) = ck := ⟨_, rfl⟩
    by_cases hz : ck = 0
    case neg =>
      have hr : Aside0 (renameOf (xs.map gOf) (ts.map tOf) a = (ck, [], [])) := ⟨by unfold renameOf; rw [if_neg r0, hck, if_pos hz]⟩
      have hz' : ¬ ck = 0 := hz
      replace r0 := Aside0.mk r0; replace hck := Aside0.mk hck
      go_enter Try.func22, Try.ntmps22
      go_wp2_with (first
        | (((with_reducible refine gate_dst (N := 2) rfl ?_); refine box_event ?hg (N := 2) ?hd (cs := #[.slice A n c, .slice B m d]) (t := 25) ?hr ?_; (case hd => rfl); (case hg => rfl); (case hr => first | (go_simp; done) | (go_simp; rfl)); intro b2 hb2 w1 kb2 bb2; replace hb2 := Aside0.mk hb2; replace kb2 := Aside0.mk kb2; replace bb2 := Aside0.mk bb2))
        | (((with_reducible refine gate_dst (N := 4) rfl ?_); refine box_event ?hg (N := 4) ?hd (cs := #[.slice none 0 0, .slice none 0 0]) (t := 25) ?hr ?_; (case hd => rfl); (case hg => rfl); (case hr => first | (go_simp; done) | (go_simp; rfl)); intro b4 hb4 w2 kb4 bb4; replace hb4 := Aside0.mk hb4; replace kb4 := Aside0.mk kb4; replace bb4 := Aside0.mk bb4); have k22 := Aside0.mk (row_below bb4.out kb2.out))
        | ((with_reducible refine gate_op (.load 25 (.tmp 2)) rfl ?_); refine wpList_load_midB rfl _ _ rfl ⟨b2, 0, none⟩ rfl [.slice A n c, .slice B m d] _ (two_cells ((Kf.cell_row k22.out 0).trans rfl) ((Kf.cell_row k22.out 1).trans rfl)) Try.underlying25 rfl info_S ?_))
      have hB2 := Aside0.mk (bb2.out.trans (bb4.out.mono bb2.out.size))
      with_reducible refine (rCheck_calls A n c xs B m d ts w2 (Kd.C_below HG.out hB2.out) hc.out (Kd.C_below HT.out hB2.out) hd.out).mono ?_
      rintro e w3 ⟨rfl, hb3⟩
      rw [hck.out]
      have k43 := Aside0.mk (row_below hb3 kb4.out)
      have hB3 := Aside0.mk (hB2.out.trans (hb3.mono hB2.out.size))
      have h4w : Aside0 (w.heap.size ≤ b4) := ⟨by have := hb4.out; have := bb2.out.size; omega⟩
      clear hb3 kb4 bb4 kb2 bb2 k22 hB2 hb2 hb4
      go_wp2_with (first
        | ((with_reducible refine gate_op (.store 25 (.tmp 4) (.tmp 25)) rfl ?_); refine wpList_store_midB rfl _ _ _ rfl b4 0 [.slice none 0 0, .slice none 0 0] rfl rfl 25 [.slice none 0 0, .slice none 0 0] k43.out info_S (Nat.le_refl _) one2 ?_; have k7 := KeepF.setRow w3 b4 (splice [Value.slice none 0 0, .slice none 0 0] 0 [.slice none 0 0, .slice none 0 0]).toArray; have h7 := setRow_heap w3 b4 _ (splice [Value.slice none 0 0, .slice none 0 0] 0 [.slice none 0 0, .slice none 0 0]).toArray 25 _ k43.out; rw [splice_all _ _ (by rfl)] at k7 h7; revert k7 h7; rw [splice_all _ _ (by rfl)]; generalize w3.setRow b4 _ = w7; intro k7 h7; replace k7 := Aside0.mk k7; replace h7 := Aside0.mk h7))
      refine bodyPost_ret (results_scene rfl rfl h7.out rfl) rfl ?_
      exact RenPost.odd hr.out hz (hB3.out.trans (k7.out.to_below hB3.out.size (fun i hi => by rw [hi]; exact h4w.out)))
    case pos =>
      subst hz
      have F := (fine_iff _ _).1 hck
      obtain ⟨ids, hids⟩ : ∃ ids, idsS xs ts = ids := ⟨_, rfl⟩
      have hidp : ∀ k ∈ ids, 1 ≤ k ∧ k ≤ 1048576 := by
        rw [← hids, idsS_eq]
        intro k hk
        rcases List.mem_append.1 hk with h | h
        · obtain ⟨x, hx, rfl⟩ := List.mem_map.1 h
          exact within1_iff.1 (oddG_id (F.og x hx))
        · obtain ⟨x, hx, rfl⟩ := List.mem_map.1 h
          exact within1_iff.1 (oddT_id (F.ot x hx))
      have hidl : ids.length = n + m := by rw [← hids]; unfold idsS; rw [List.length_append, List.length_map, List.length_map, hln.out, hlm.out]
      have hren : renameOf (xs.map gOf) (ts.map tOf) a = if 1048576 < ids.foldl max 0 + a then (6, [], []) else (0, renL a (xs.map gOf), (ts.map tOf).map (renT a)) := by
        unfold renameOf
        rw [if_neg r0, hck, if_neg (fun h => h rfl), ← hids, idsS_eq]
      have hsub : IntKind.i64.wrap (1048576 - a) = 1048576 - a := by rw [IntKind.wrap_i64]; omega
      replace r0 := Aside0.mk r0; replace hck := Aside0.mk hck; replace F := Aside0.mk F; replace hids := Aside0.mk hids; replace hidp := Aside0.mk hidp; replace hidl := Aside0.mk hidl; replace hren := Aside0.mk hren
      go_enter Try.func22, Try.ntmps22
      go_wp2_with (first
        | (((with_reducible refine gate_dst (N := 2) rfl ?_); refine box_event ?hg (N := 2) ?hd (cs := #[.slice A n c, .slice B m d]) (t := 25) ?hr ?_; (case hd => rfl); (case hg => rfl); (case hr => first | (go_simp; done) | (go_simp; rfl)); intro b2 hb2 w1 kb2 bb2; replace hb2 := Aside0.mk hb2; replace kb2 := Aside0.mk kb2; replace bb2 := Aside0.mk bb2))
        | (((with_reducible refine gate_dst (N := 4) rfl ?_); refine box_event ?hg (N := 4) ?hd (cs := #[.slice none 0 0, .slice none 0 0]) (t := 25) ?hr ?_; (case hd => rfl); (case hg => rfl); (case hr => first | (go_simp; done) | (go_simp; rfl)); intro b4 hb4 w2 kb4 bb4; replace hb4 := Aside0.mk hb4; replace kb4 := Aside0.mk kb4; replace bb4 := Aside0.mk bb4); have k22 := Aside0.mk (row_below bb4.out kb2.out))
        | ((with_reducible refine gate_op (.load 25 (.tmp 2)) rfl ?_); refine wpList_load_midB rfl _ _ rfl ⟨b2, 0, none⟩ rfl [.slice A n c, .slice B m d] _ (two_cells ((Kf.cell_row k22.out 0).trans rfl) ((Kf.cell_row k22.out 1).trans rfl)) Try.underlying25 rfl info_S ?_))
      have hB2 := Aside0.mk (bb2.out.trans (bb4.out.mono bb2.out.size))
      with_reducible refine (rCheck_calls A n c xs B m d ts w2 (Kd.C_below HG.out hB2.out) hc.out (Kd.C_below HT.out hB2.out) hd.out).mono ?_
      rintro e w3 ⟨rfl, hb3⟩
      rw [hck.out]
      have k43 := Aside0.mk (row_below hb3 kb4.out)
      have k23 := Aside0.mk (row_below hb3 k22.out)
      have hB3 := Aside0.mk (hB2.out.trans (hb3.mono hB2.out.size))
      have h4w : Aside0 (w.heap.size ≤ b4) := ⟨by have := hb4.out; have := bb2.out.size; omega⟩
      have h24 : Aside0 (b2 < b4) := ⟨by have := hb4.out; have := lt_row kb2.out; omega⟩
      clear hb3 kb4 bb4 kb2 bb2 k22 hB2 hb2 hb4
      have c0 := (Kf.cell_row k23.out 0).trans (rfl : _ = some (Value.slice A n c))
      have c1 := (Kf.cell_row k23.out 1).trans (rfl : _ = some (Value.slice B m d))
      go_wp2_with (first
        | ((with_reducible refine gate_op (.load 25 (.tmp 2)) rfl ?_); refine wpList_load_midB rfl _ _ rfl ⟨b2, 0, none⟩ rfl [.slice A n c, .slice B m d] _ (two_cells c0 c1) Try.underlying25 rfl info_S ?_))
      with_reducible refine (rIds_calls A n c xs B m d ts w3 (Kd.C_below HG.out hB3.out) hc.out (Kd.C_below HT.out hB3.out) hd.out (by omega)).mono ?_
      rintro e w4 ⟨v4, rfl, hR4, hb4⟩
      rw [hids.out] at hR4
      obtain ⟨A4, c4, rfl, -, hI⟩ := Kd.R_reads hR4
      have k44 := Aside0.mk (row_below hb4 k43.out)
      have k24 := Aside0.mk (row_below hb4 k23.out)
      have hB4 := Aside0.mk (hB3.out.trans (hb4.mono hB3.out.size))
      obtain ⟨nl, hnl⟩ : ∃ nl, ids.length = nl := ⟨_, rfl⟩
      rw [hnl] at hI ⊢
      clear hb4 hR4 k43 k23 c0 c1 hB3
      replace hI := Aside0.mk hI; replace hnl := Aside0.mk hnl
      go_wp2_with fail
      go_loop [8] (fun iv => ∃ i : Nat, iv = .int .i64 i ∧ i ≤ nl ∧ Aside0 (∀ k ∈ ids.take i, k ≤ 1048576 - a)) (fun iv => nl - (intOf iv).toNat)
      case atStart => exact ⟨0, rfl, Nat.zero_le _, ⟨by simp⟩⟩
      case round =>
        obtain ⟨i, rfl, hi, hle⟩ := hrel
        by_cases hlt : i < nl
        · have p1 : 0 ≤ (i : Int) := by omega
          have q1 : (i : Int) < (nl : Int) := by have := hnl.out; omega
          have hnl63 : nl ≤ 60 := by rw [← hnl.out, hidl.out]; omega
          obtain ⟨ad, rfl, y1⟩ := Kd.at_int hI.out (i : Int) p1 q1
          obtain ⟨z, hzz⟩ : ∃ z, ids[i]? = some z := ⟨_, List.getElem?_eq_getElem (by rw [hnl.out]; exact hlt)⟩
          rw [Int.toNat_natCast, show Go.Proofs.YtpnjhffnlafabaaW.PrintWords.rd ids i = z from by unfold Go.Proofs.YtpnjhffnlafabaaW.PrintWords.rd; rw [Int.toNat_natCast, List.getD_eq_getElem?_getD, hzz]; rfl] at y1
          by_cases hbig : 1048576 - a < z
          · have hr : Aside0 (renameOf (xs.map gOf) (ts.map tOf) a = (6, [], [])) := ⟨by
              rw [hren.out, if_pos]
              have h2 := foldl_mem ids 0 z (List.mem_of_getElem? hzz)
              omega⟩
            replace hzz := Aside0.mk hzz
            go_wp2_with (first
              | ((with_reducible refine gate_op (.store 25 (.tmp 4) (.tmp 42)) rfl ?_); refine wpList_store_midB rfl _ _ _ rfl b4 0 [.slice none 0 0, .slice none 0 0] rfl rfl 25 [.slice none 0 0, .slice none 0 0] k44.out info_S (Nat.le_refl _) one2 ?_; have k7 := KeepF.setRow w4 b4 (splice [Value.slice none 0 0, .slice none 0 0] 0 [.slice none 0 0, .slice none 0 0]).toArray; have h7 := setRow_heap w4 b4 _ (splice [Value.slice none 0 0, .slice none 0 0] 0 [.slice none 0 0, .slice none 0 0]).toArray 25 _ k44.out; rw [splice_all _ _ (by rfl)] at k7 h7; revert k7 h7; rw [splice_all _ _ (by rfl)]; generalize w4.setRow b4 _ = w7; intro k7 h7; replace k7 := Aside0.mk k7; replace h7 := Aside0.mk h7))
            refine bodyPost_ret (results_scene rfl rfl h7.out rfl) rfl ?_
            exact RenPost.odd hr.out (by decide) (hB4.out.trans (k7.out.to_below hB4.out.size (fun i hi => by rw [hi]; exact h4w.out)))
          · have hle' : ∀ k ∈ ids.take (i + 1), k ≤ 1048576 - a := by
              intro k hk
              rw [List.take_add_one, hzz, List.mem_append] at hk
              rcases hk with hk | hk
              · exact hle.out k hk
              · simp at hk; subst hk; omega
            replace hzz := Aside0.mk hzz; replace hle' := Aside0.mk hle'
            go_wp2_with fail
            go_round
            case rel => exact ⟨i + 1, by simp, by omega, hle'⟩
            case measure => show nl - ((i : Int) + 1).toNat < nl - (i : Int).toNat; omega
        · obtain rfl : nl = i := by omega
          have hr : Aside0 (renameOf (xs.map gOf) (ts.map tOf) a = (0, renL a (xs.map gOf), (ts.map tOf).map (renT a))) := ⟨by
            rw [hren.out, if_neg]
            have h1 := hle.out
            rw [List.take_of_length_le (by rw [hnl.out]; exact Nat.le_refl _)] at h1
            have h2 := foldl_le ids 0 (1048576 - a) (by omega) h1
            omega⟩
          have L1 := Aside0.mk (renSL_len a xs)
          clear hle hren
          go_wp2_with (((with_reducible refine gate_dst (N := 9) rfl ?_); refine box_event ?hg (N := 9) ?hd (cs := #[.slice none 0 0, .slice none 0 0]) (t := 25) ?hr ?_; (case hd => rfl); (case hg => rfl); (case hr => first | (go_simp; done) | (go_simp; rfl)); intro b9 hb9 w5 kb9 bb9; replace hb9 := Aside0.mk hb9; replace kb9 := Aside0.mk kb9; replace bb9 := Aside0.mk bb9); have k25 := Aside0.mk (row_below bb9.out k24.out); have k45 := Aside0.mk (row_below bb9.out k44.out); have hS := Aside0.mk (Bld.start (hB4.out.trans (bb9.out.mono hB4.out.size)) (by have := hb9.out; have := hB4.out.size; omega) kb9.out))
          have h29 : Aside0 (b2 ≠ b9) := ⟨by have := hb9.out; have := lt_row k24.out; omega⟩
          have h49 : Aside0 (b4 ≠ b9) := ⟨by have := hb9.out; have := lt_row k44.out; omega⟩
          clear kb9 bb9 hb9 k24 k44
          go_loopw [10] (fun iv wr => ∃ (k : Nat) (A1 : Option Addr) (c1 : Nat) (gs : List SG), iv = .int .i64 k ∧ k ≤ n ∧ Aside0 (gs = (renSL a xs).take k) ∧ Aside0 (Bld w.heap.size w b9 A1 c1 gs none 0 [] wr) ∧ Aside0 (wr.heap[b2]? = some (.cells #[.slice A n c, .slice B m d] 25 (0, 0))) ∧ Aside0 (wr.heap[b4]? = some (.cells #[.slice none 0 0, .slice none 0 0] 25 (0, 0)))) (fun iv _ => n - (intOf iv).toNat)
          case atStart => exact ⟨0, none, 0, [], rfl, Nat.zero_le _, ⟨by simp⟩, hS, k25, k45⟩
          case round =>
            clear hS k25 k45
            obtain ⟨k, A1, c1, gs, rfl, hk, hgs, hSr, k2r, k4r⟩ := hrel
            have e0 := (Kf.cell_row k2r.out 0).trans (rfl : _ = some (Value.slice A n c))
            by_cases hlt : k < n
            · have p1 : 0 ≤ (k : Int) := by omega
              have q1 : (k : Int) < (n : Int) := by omega
              obtain ⟨bG, oG, x, rfl, -, hx, t0, t1, t2, t3, t4, t5⟩ := G_one (Kd.C_below HG.out hSr.out.below) hlt
              have hxF : gOf x ∈ xs.map gOf := List.mem_map.2 ⟨x, List.mem_of_getElem? hx, rfl⟩
              have hid : 1 ≤ x.f0 ∧ x.f0 ≤ 1048576 := within1_iff.1 (oddG_id (F.out.og _ hxF))
              have hpar : 0 ≤ x.f1 ∧ x.f1 ≤ 1048576 := by
                by_cases h : x.f1 = 0
                · omega
                · obtain ⟨y, hy, hye⟩ := List.mem_map.1 (F.out.par _ hxF h)
                  have := within1_iff.1 (oddG_id (F.out.og y hy))
                  rw [hye] at this
                  have h9 : (gOf x).parent = x.f1 := rfl
                  rw [h9] at this
                  omega
              obtain ⟨hid1, hid2⟩ := hid
              obtain ⟨hp1, hp2⟩ := hpar
              have z0 : IntKind.i64.wrap (x.f0 + a) = x.f0 + a := by rw [IntKind.wrap_i64]; omega
              have z1 : IntKind.i64.wrap (x.f1 + a) = x.f1 + a := by rw [IntKind.wrap_i64]; omega
              have d0r := (cell_row hSr.out.row 0).trans (rfl : _ = some (Value.slice A1 gs.length c1))
              obtain ⟨n1, hn1⟩ : ∃ n1, gs.length = n1 := ⟨_, rfl⟩
              have hl8 : (gs.length + 1) * 48 ≤ 140737488355328 := by
                rw [hgs.out]
                have h2 := List.length_take_le k (renSL a xs)
                omega
              rw [hn1] at d0r
              have htk := take_snoc (renSL_get a hx)
              rw [← hgs.out] at htk
              have dB : ∀ W, Below wr.heap.size wr W → W.cell? ⟨b9, 0, none⟩ = some (.slice A1 n1 c1) := fun W hW => pw_cell_below hW d0r
              clear d0r
              by_cases hk0 : k = 0
              · have z9 : ¬ (0 : Int) < (k : Int) := by omega
                obtain ⟨xn, hxn⟩ : ∃ xn : SG, xn = ⟨x.f0 + a, x.f1, x.f2, x.f3⟩ := ⟨_, rfl⟩
                rw [show renS a (decide (k = 0)) x = xn from by rw [hxn, hk0]; rfl] at htk
                obtain ⟨n2, hn2⟩ : ∃ n2, (gs ++ [xn]).length = n2 := ⟨_, rfl⟩
                replace hk0 := Aside0.mk hk0
                replace hx := Aside0.mk hx; replace hxF := Aside0.mk hxF; replace hn1 := Aside0.mk hn1; replace hl8 := Aside0.mk hl8; replace htk := Aside0.mk htk; replace hn2 := Aside0.mk hn2; replace hxn := Aside0.mk hxn; replace dB := Aside0.mk dB
                go_wp2_with (first
                  | (((with_reducible refine gate_dst (N := 11) rfl ?_); refine box_event ?hg (N := 11) ?hd (cs := #[.int .i64 0, .int .i64 0, .int .i64 0, .int .i64 0, .int .i64 0, .int .i64 0]) (t := 41) ?hr ?_; (case hd => rfl); (case hg => rfl); (case hr => first | (go_simp; done) | (go_simp; rfl)); intro gb hgb w2 kgb bgb; replace hgb := Aside0.mk hgb; replace kgb := Aside0.mk kgb; replace bgb := Aside0.mk bgb))
                  | (((with_reducible refine gate_op (.store 41 (.tmp 11) (.tmp 54)) rfl ?_); refine wpList_store_midB rfl _ _ _ rfl gb 0 [.int .i64 x.f0, .int .i64 x.f1, .int .i64 x.f2, .int .i64 x.f3.f0, .int .i64 x.f3.f1, .int .i64 x.f3.f2] rfl rfl 41 [.int .i64 0, .int .i64 0, .int .i64 0, .int .i64 0, .int .i64 0, .int .i64 0] kgb.out szG6 (Nat.le_refl _) oneG6 ?_; obtain ⟨kk, bb⟩ := boxed (cs := [.int .i64 0, .int .i64 0, .int .i64 0, .int .i64 0, .int .i64 0, .int .i64 0]) (cs2 := [.int .i64 x.f0, .int .i64 x.f1, .int .i64 x.f2, .int .i64 x.f3.f0, .int .i64 x.f3.f1, .int .i64 x.f3.f2]) hgb.out kgb.out bgb.out rfl; revert kk bb; generalize World.setRow _ gb (splice [.int .i64 0, .int .i64 0, .int .i64 0, .int .i64 0, .int .i64 0, .int .i64 0] 0 [.int .i64 x.f0, .int .i64 x.f1, .int .i64 x.f2, .int .i64 x.f3.f0, .int .i64 x.f3.f1, .int .i64 x.f3.f2]).toArray = w3; clear kgb bgb; intro kgb bgb; replace kgb := Aside0.mk kgb; replace bgb := Aside0.mk bgb); (have g0 := (cell_row kgb.out 0).trans (rfl : _ = some (Value.int .i64 x.f0))))
                  | ((with_reducible refine gate_op (.store 3 (.tmp 59) (.tmp 58)) rfl ?_); refine storeCell_event rfl _ _ _ rfl ⟨gb, 0, none⟩ (.int .i64 (x.f0 + a)) (.int .i64 x.f0) rfl rfl rfl ((cell_row kgb.out 0).trans rfl) (frozen_row kgb.out 0) info_int1 rfl rfl ?_; have kg1 : (w3.setCell ⟨gb, 0, none⟩ (.int .i64 (x.f0 + a))).heap[gb]? = some (.cells #[.int .i64 (x.f0 + a), .int .i64 x.f1, .int .i64 x.f2, .int .i64 x.f3.f0, .int .i64 x.f3.f1, .int .i64 x.f3.f2] 41 (0, 0)) := (by rw [setCell_row kgb.out]; rfl); have bg1 : Below wr.heap.size wr (w3.setCell ⟨gb, 0, none⟩ (.int .i64 (x.f0 + a))) := bgb.out.trans ((KeepF.setCell w3 _ _).to_below bgb.out.size (fun i hi => by rw [hi]; exact Nat.le_of_eq hgb.out.symm)); generalize w3.setCell _ _ = W1 at kg1 bg1 ⊢; (have g0 := (cell_row kg1 0).trans (rfl : _ = some (Value.int .i64 (x.f0 + a)))); (have d01 := dB.out W1 bg1); replace kg1 := Aside0.mk kg1; replace bg1 := Aside0.mk bg1)
                  | ((with_reducible refine gate_op (.load 41 (.tmp 11)) rfl ?_); refine wpList_load_midB rfl _ _ rfl ⟨gb, 0, none⟩ rfl [.int .i64 (x.f0 + a), .int .i64 x.f1, .int .i64 x.f2, .int .i64 x.f3.f0, .int .i64 x.f3.f1, .int .i64 x.f3.f2] _ (fun j v hv => by rw [add_at]; exact (cell_row kg1.out _).trans (by simpa using hv)) Try.underlying41 rfl szG6 ?_)
                  | ((with_reducible refine gate_builtin (b := .append) (xs := #[.tmp 68, .tmp 70]) rfl ?_); at_builtin; (have hSf := Aside0.mk (hSr.out.grow bg1.out)); (have hRf : kG.R 41 W1 w.heap.size (fun _ => True) (.slice A1 n1 c1) gs := (by rw [← hn1.out]; exact hSf.out.rg)); refine Kd.R_append kG (w0 := w) w.heap.size rfl (.tmp 68) (.tmp 70) 22 41 (.agg zG.toArray) 48 rfl Try.underlying22 infoG3 rfl (by decide) (by omega) (.slice A1 n1 c1) gs xn [.int .i64 (x.f0 + a), .int .i64 x.f1, .int .i64 x.f2, .int .i64 x.f3.f0, .int .i64 x.f3.f1, .int .i64 x.f3.f2] (fun _ => True) (fun _ => False) rfl rfl ?aP (fun _ hk => hk.elim) (fun _ _ => trivial) hRf hSf.out.below hSf.out.size hl8.out ?_; (case aP => rw [hxn.out]; exact k41_mkM _ _ _ _); intro v2 w10 hR10 hb10 hg10 hat10; obtain ⟨A2, c2, ev2, hd2, _⟩ := Kd.R_reads hR10; rw [hn2.out] at ev2; subst ev2; rw [← hn2.out] at hR10; rw [← hn1.out] at hg10; (have hr10 := (hg10.block b9 (lt_row hSf.out.row) (fun e => Kd.R_ne hSf.out.rg hSf.out.row (by decide) e)).trans hSf.out.row); (have s10 := (cell_row hr10 0).trans (rfl : _ = some (Value.slice A1 gs.length c1))); (have s11 : w10.frozen? ⟨b9, 0, none⟩ = false := frozen_row hr10 0); (have hS12 := Aside0.mk (hSf.out.pushG hR10 hb10 hg10)); (have k212 := Aside0.mk (hSf.out.keepG (v := .slice A2 n2 c2) hg10 (row_below bg1.out k2r.out) h29.out)); (have k412 := Aside0.mk (hSf.out.keepG (v := .slice A2 n2 c2) hg10 (row_below bg1.out k4r.out) h49.out)); rw [hn2.out] at hS12; replace hR10 := Aside0.mk hR10; replace hb10 := Aside0.mk hb10; replace hg10 := Aside0.mk hg10; replace hat10 := Aside0.mk hat10; replace hr10 := Aside0.mk hr10))
                go_roundw
                case measure => show n - ((k : Int) + 1).toNat < n - (k : Int).toNat; omega
                case rel => exact ⟨k + 1, A2, c2, gs ++ [xn], by simp, by omega, ⟨htk.out.symm⟩, hS12, k212, k412⟩
              · have z9 : (0 : Int) < (k : Int) := by omega
                obtain ⟨xn, hxn⟩ : ∃ xn : SG, xn = ⟨x.f0 + a, x.f1 + a, x.f2, x.f3⟩ := ⟨_, rfl⟩
                rw [show renS a (decide (k = 0)) x = xn from by rw [hxn, decide_eq_false hk0]; rfl] at htk
                obtain ⟨n2, hn2⟩ : ∃ n2, (gs ++ [xn]).length = n2 := ⟨_, rfl⟩
                replace hx := Aside0.mk hx; replace hxF := Aside0.mk hxF; replace hn1 := Aside0.mk hn1; replace hl8 := Aside0.mk hl8; replace htk := Aside0.mk htk; replace hn2 := Aside0.mk hn2; replace hxn := Aside0.mk hxn; replace dB := Aside0.mk dB
                go_wp2_with (first
                  | (((with_reducible refine gate_dst (N := 11) rfl ?_); refine box_event ?hg (N := 11) ?hd (cs := #[.int .i64 0, .int .i64 0, .int .i64 0, .int .i64 0, .int .i64 0, .int .i64 0]) (t := 41) ?hr ?_; (case hd => rfl); (case hg => rfl); (case hr => first | (go_simp; done) | (go_simp; rfl)); intro gb hgb w2 kgb bgb; replace hgb := Aside0.mk hgb; replace kgb := Aside0.mk kgb; replace bgb := Aside0.mk bgb))
                  | (((with_reducible refine gate_op (.store 41 (.tmp 11) (.tmp 54)) rfl ?_); refine wpList_store_midB rfl _ _ _ rfl gb 0 [.int .i64 x.f0, .int .i64 x.f1, .int .i64 x.f2, .int .i64 x.f3.f0, .int .i64 x.f3.f1, .int .i64 x.f3.f2] rfl rfl 41 [.int .i64 0, .int .i64 0, .int .i64 0, .int .i64 0, .int .i64 0, .int .i64 0] kgb.out szG6 (Nat.le_refl _) oneG6 ?_; obtain ⟨kk, bb⟩ := boxed (cs := [.int .i64 0, .int .i64 0, .int .i64 0, .int .i64 0, .int .i64 0, .int .i64 0]) (cs2 := [.int .i64 x.f0, .int .i64 x.f1, .int .i64 x.f2, .int .i64 x.f3.f0, .int .i64 x.f3.f1, .int .i64 x.f3.f2]) hgb.out kgb.out bgb.out rfl; revert kk bb; generalize World.setRow _ gb (splice [.int .i64 0, .int .i64 0, .int .i64 0, .int .i64 0, .int .i64 0, .int .i64 0] 0 [.int .i64 x.f0, .int .i64 x.f1, .int .i64 x.f2, .int .i64 x.f3.f0, .int .i64 x.f3.f1, .int .i64 x.f3.f2]).toArray = w3; clear kgb bgb; intro kgb bgb; replace kgb := Aside0.mk kgb; replace bgb := Aside0.mk bgb); (have g0 := (cell_row kgb.out 0).trans (rfl : _ = some (Value.int .i64 x.f0))))
                  | ((with_reducible refine gate_op (.store 3 (.tmp 59) (.tmp 58)) rfl ?_); refine storeCell_event rfl _ _ _ rfl ⟨gb, 0, none⟩ (.int .i64 (x.f0 + a)) (.int .i64 x.f0) rfl rfl rfl ((cell_row kgb.out 0).trans rfl) (frozen_row kgb.out 0) info_int1 rfl rfl ?_; have kg1 : (w3.setCell ⟨gb, 0, none⟩ (.int .i64 (x.f0 + a))).heap[gb]? = some (.cells #[.int .i64 (x.f0 + a), .int .i64 x.f1, .int .i64 x.f2, .int .i64 x.f3.f0, .int .i64 x.f3.f1, .int .i64 x.f3.f2] 41 (0, 0)) := (by rw [setCell_row kgb.out]; rfl); have bg1 : Below wr.heap.size wr (w3.setCell ⟨gb, 0, none⟩ (.int .i64 (x.f0 + a))) := bgb.out.trans ((KeepF.setCell w3 _ _).to_below bgb.out.size (fun i hi => by rw [hi]; exact Nat.le_of_eq hgb.out.symm)); generalize w3.setCell _ _ = W1 at kg1 bg1 ⊢; (have g0 := (cell_row kg1 0).trans (rfl : _ = some (Value.int .i64 (x.f0 + a)))); (have g1 := (cell_row kg1 1).trans (rfl : _ = some (Value.int .i64 x.f1))); replace kg1 := Aside0.mk kg1; replace bg1 := Aside0.mk bg1)
                  | ((with_reducible refine gate_op (.store 3 (.tmp 66) (.tmp 65)) rfl ?_); refine storeCell_event rfl _ _ _ rfl ⟨gb, 1, none⟩ (.int .i64 (x.f1 + a)) (.int .i64 x.f1) rfl rfl rfl ((cell_row kg1.out 1).trans rfl) (frozen_row kg1.out 1) info_int1 rfl rfl ?_; have kg2 : (W1.setCell ⟨gb, 1, none⟩ (.int .i64 (x.f1 + a))).heap[gb]? = some (.cells #[.int .i64 (x.f0 + a), .int .i64 (x.f1 + a), .int .i64 x.f2, .int .i64 x.f3.f0, .int .i64 x.f3.f1, .int .i64 x.f3.f2] 41 (0, 0)) := (by rw [setCell_row kg1.out]; rfl); have bg2 : Below wr.heap.size wr (W1.setCell ⟨gb, 1, none⟩ (.int .i64 (x.f1 + a))) := bg1.out.trans ((KeepF.setCell W1 _ _).to_below bg1.out.size (fun i hi => by rw [hi]; exact Nat.le_of_eq hgb.out.symm)); generalize W1.setCell _ _ = W2 at kg2 bg2 ⊢; (have g0 := (cell_row kg2 0).trans (rfl : _ = some (Value.int .i64 (x.f0 + a)))); (have d01 := dB.out W2 bg2); replace kg2 := Aside0.mk kg2; replace bg2 := Aside0.mk bg2)
                  | ((with_reducible refine gate_op (.load 41 (.tmp 11)) rfl ?_); refine wpList_load_midB rfl _ _ rfl ⟨gb, 0, none⟩ rfl [.int .i64 (x.f0 + a), .int .i64 (x.f1 + a), .int .i64 x.f2, .int .i64 x.f3.f0, .int .i64 x.f3.f1, .int .i64 x.f3.f2] _ (fun j v hv => by rw [add_at]; exact (cell_row kg2.out _).trans (by simpa using hv)) Try.underlying41 rfl szG6 ?_)
                  | ((with_reducible refine gate_builtin (b := .append) (xs := #[.tmp 68, .tmp 70]) rfl ?_); at_builtin; (have hSf := Aside0.mk (hSr.out.grow bg2.out)); (have hRf : kG.R 41 W2 w.heap.size (fun _ => True) (.slice A1 n1 c1) gs := (by rw [← hn1.out]; exact hSf.out.rg)); refine Kd.R_append kG (w0 := w) w.heap.size rfl (.tmp 68) (.tmp 70) 22 41 (.agg zG.toArray) 48 rfl Try.underlying22 infoG3 rfl (by decide) (by omega) (.slice A1 n1 c1) gs xn [.int .i64 (x.f0 + a), .int .i64 (x.f1 + a), .int .i64 x.f2, .int .i64 x.f3.f0, .int .i64 x.f3.f1, .int .i64 x.f3.f2] (fun _ => True) (fun _ => False) rfl rfl ?aP (fun _ hk => hk.elim) (fun _ _ => trivial) hRf hSf.out.below hSf.out.size hl8.out ?_; (case aP => rw [hxn.out]; exact k41_mkM _ _ _ _); intro v2 w10 hR10 hb10 hg10 hat10; obtain ⟨A2, c2, ev2, hd2, _⟩ := Kd.R_reads hR10; rw [hn2.out] at ev2; subst ev2; rw [← hn2.out] at hR10; rw [← hn1.out] at hg10; (have hr10 := (hg10.block b9 (lt_row hSf.out.row) (fun e => Kd.R_ne hSf.out.rg hSf.out.row (by decide) e)).trans hSf.out.row); (have s10 := (cell_row hr10 0).trans (rfl : _ = some (Value.slice A1 gs.length c1))); (have s11 : w10.frozen? ⟨b9, 0, none⟩ = false := frozen_row hr10 0); (have hS12 := Aside0.mk (hSf.out.pushG hR10 hb10 hg10)); (have k212 := Aside0.mk (hSf.out.keepG (v := .slice A2 n2 c2) hg10 (row_below bg2.out k2r.out) h29.out)); (have k412 := Aside0.mk (hSf.out.keepG (v := .slice A2 n2 c2) hg10 (row_below bg2.out k4r.out) h49.out)); rw [hn2.out] at hS12; replace hR10 := Aside0.mk hR10; replace hb10 := Aside0.mk hb10; replace hg10 := Aside0.mk hg10; replace hat10 := Aside0.mk hat10; replace hr10 := Aside0.mk hr10))
                go_roundw
                case measure => show n - ((k : Int) + 1).toNat < n - (k : Int).toNat; omega
                case rel => exact ⟨k + 1, A2, c2, gs ++ [xn], by simp, by omega, ⟨htk.out.symm⟩, hS12, k212, k412⟩
            · obtain rfl : n = k := by omega
              have hgsA : Aside0 (gs = renSL a xs) := ⟨by rw [hgs.out, List.take_of_length_le (by rw [L1.out, hln.out]; exact Nat.le_refl _)]⟩
              clear hgs
              go_wp2_with fail
              go_loopw [12] (fun iv wr => ∃ (k : Nat) (B1 : Option Addr) (d1 : Nat) (us : List ST), iv = .int .i64 k ∧ k ≤ m ∧ Aside0 (us = (ts.take k).map (renST a)) ∧ Aside0 (Bld w.heap.size w b9 A1 c1 gs B1 d1 us wr) ∧ Aside0 (wr.heap[b2]? = some (.cells #[.slice A n c, .slice B m d] 25 (0, 0))) ∧ Aside0 (wr.heap[b4]? = some (.cells #[.slice none 0 0, .slice none 0 0] 25 (0, 0)))) (fun iv _ => m - (intOf iv).toNat)
              case atStart => exact ⟨0, none, 0, [], rfl, Nat.zero_le _, ⟨by simp⟩, hSr, k2r, k4r⟩
              case round =>
                clear hSr k2r k4r e0
                obtain ⟨k, B1, d1, us, rfl, hk, hus, hSr, k2r, k4r⟩ := hrel
                have e1 := (Kf.cell_row k2r.out 1).trans (rfl : _ = some (Value.slice B m d))
                by_cases hlt : k < m
                · have p1 : 0 ≤ (k : Int) := by omega
                  have q1 : (k : Int) < (m : Int) := by omega
                  obtain ⟨bT, oT, x, rfl, -, hx, t0, t1, t2, t3, t4, t5, t6, t7⟩ := T_one (Kd.C_below HT.out hSr.out.below) hlt
                  have hxF : tOf x ∈ ts.map tOf := List.mem_map.2 ⟨x, List.mem_of_getElem? hx, rfl⟩
                  have hid : 1 ≤ x.f0 ∧ x.f0 ≤ 1048576 := within1_iff.1 (oddT_id (F.out.ot _ hxF))
                  have hpar : 1 ≤ x.f1 ∧ x.f1 ≤ 1048576 := by
                    obtain ⟨y, hy, hye⟩ := List.mem_map.1 (F.out.grp _ hxF)
                    have := within1_iff.1 (oddG_id (F.out.og y hy))
                    rw [hye] at this
                    exact this
                  obtain ⟨hid1, hid2⟩ := hid
                  obtain ⟨hp1, hp2⟩ := hpar
                  have z0 : IntKind.i64.wrap (x.f0 + a) = x.f0 + a := by rw [IntKind.wrap_i64]; omega
                  have z1 : IntKind.i64.wrap (x.f1 + a) = x.f1 + a := by rw [IntKind.wrap_i64]; omega
                  have d0r := (cell_row hSr.out.row 1).trans (rfl : _ = some (Value.slice B1 us.length d1))
                  obtain ⟨n1, hn1⟩ : ∃ n1, us.length = n1 := ⟨_, rfl⟩
                  have hl8 : (us.length + 1) * 64 ≤ 140737488355328 := by
                    rw [hus.out]
                    have h2 := List.length_take_le k ts
                    rw [List.length_map]
                    omega
                  rw [hn1] at d0r
                  obtain ⟨xn, hxn⟩ : ∃ xn : ST, xn = ⟨x.f0 + a, x.f1 + a, x.f2, x.f3, x.f4, x.f5, x.f6⟩ := ⟨_, rfl⟩
                  have htk : us ++ [xn] = (ts.take (k + 1)).map (renST a) := by rw [List.take_add_one, hx, List.map_append, hus.out, hxn]; rfl
                  obtain ⟨n2, hn2⟩ : ∃ n2, (us ++ [xn]).length = n2 := ⟨_, rfl⟩
                  have dB : ∀ W, Below wr.heap.size wr W → W.cell? ⟨b9, 1, none⟩ = some (.slice B1 n1 d1) := fun W hW => pw_cell_below hW d0r
                  clear d0r
                  replace hx := Aside0.mk hx; replace hxF := Aside0.mk hxF; replace hn1 := Aside0.mk hn1; replace hl8 := Aside0.mk hl8; replace htk := Aside0.mk htk; replace hn2 := Aside0.mk hn2; replace hxn := Aside0.mk hxn; replace dB := Aside0.mk dB
                  go_wp2_with (first
                    | (((with_reducible refine gate_dst (N := 13) rfl ?_); refine box_event ?hg (N := 13) ?hd (cs := #[.int .i64 0, .int .i64 0, .int .i64 0, .int .u64 0, .bool false, .int .i64 0, .int .i64 0, .int .i64 0]) (t := 46) ?hr ?_; (case hd => rfl); (case hg => rfl); (case hr => first | (go_simp; done) | (go_simp; rfl)); intro gb hgb w2 kgb bgb; replace hgb := Aside0.mk hgb; replace kgb := Aside0.mk kgb; replace bgb := Aside0.mk bgb))
                    | (((with_reducible refine gate_op (.store 46 (.tmp 13) (.tmp 84)) rfl ?_); refine wpList_store_midB rfl _ _ _ rfl gb 0 [.int .i64 x.f0, .int .i64 x.f1, .int .i64 x.f2, .int .u64 x.f3, .bool x.f4, .int .i64 x.f5, .int .i64 x.f6.f0, .int .i64 x.f6.f1] rfl rfl 46 [.int .i64 0, .int .i64 0, .int .i64 0, .int .u64 0, .bool false, .int .i64 0, .int .i64 0, .int .i64 0] kgb.out szT8 (Nat.le_refl _) oneT8 ?_; obtain ⟨kk, bb⟩ := boxed (cs := [.int .i64 0, .int .i64 0, .int .i64 0, .int .u64 0, .bool false, .int .i64 0, .int .i64 0, .int .i64 0]) (cs2 := [.int .i64 x.f0, .int .i64 x.f1, .int .i64 x.f2, .int .u64 x.f3, .bool x.f4, .int .i64 x.f5, .int .i64 x.f6.f0, .int .i64 x.f6.f1]) hgb.out kgb.out bgb.out rfl; revert kk bb; generalize World.setRow _ gb (splice [.int .i64 0, .int .i64 0, .int .i64 0, .int .u64 0, .bool false, .int .i64 0, .int .i64 0, .int .i64 0] 0 [.int .i64 x.f0, .int .i64 x.f1, .int .i64 x.f2, .int .u64 x.f3, .bool x.f4, .int .i64 x.f5, .int .i64 x.f6.f0, .int .i64 x.f6.f1]).toArray = w3; clear kgb bgb; intro kgb bgb; replace kgb := Aside0.mk kgb; replace bgb := Aside0.mk bgb); (have g0 := (cell_row kgb.out 0).trans (rfl : _ = some (Value.int .i64 x.f0))))
                    | ((with_reducible refine gate_op (.store 3 (.tmp 89) (.tmp 88)) rfl ?_); refine storeCell_event rfl _ _ _ rfl ⟨gb, 0, none⟩ (.int .i64 (x.f0 + a)) (.int .i64 x.f0) rfl rfl rfl ((cell_row kgb.out 0).trans rfl) (frozen_row kgb.out 0) info_int1 rfl rfl ?_; have kg1 : (w3.setCell ⟨gb, 0, none⟩ (.int .i64 (x.f0 + a))).heap[gb]? = some (.cells #[.int .i64 (x.f0 + a), .int .i64 x.f1, .int .i64 x.f2, .int .u64 x.f3, .bool x.f4, .int .i64 x.f5, .int .i64 x.f6.f0, .int .i64 x.f6.f1] 46 (0, 0)) := (by rw [setCell_row kgb.out]; rfl); have bg1 : Below wr.heap.size wr (w3.setCell ⟨gb, 0, none⟩ (.int .i64 (x.f0 + a))) := bgb.out.trans ((KeepF.setCell w3 _ _).to_below bgb.out.size (fun i hi => by rw [hi]; exact Nat.le_of_eq hgb.out.symm)); generalize w3.setCell _ _ = W1 at kg1 bg1 ⊢; (have g0 := (cell_row kg1 0).trans (rfl : _ = some (Value.int .i64 (x.f0 + a)))); (have g1 := (cell_row kg1 1).trans (rfl : _ = some (Value.int .i64 x.f1))); replace kg1 := Aside0.mk kg1; replace bg1 := Aside0.mk bg1)
                    | ((with_reducible refine gate_op (.store 3 (.tmp 94) (.tmp 93)) rfl ?_); refine storeCell_event rfl _ _ _ rfl ⟨gb, 1, none⟩ (.int .i64 (x.f1 + a)) (.int .i64 x.f1) rfl rfl rfl ((cell_row kg1.out 1).trans rfl) (frozen_row kg1.out 1) info_int1 rfl rfl ?_; have kg2 : (W1.setCell ⟨gb, 1, none⟩ (.int .i64 (x.f1 + a))).heap[gb]? = some (.cells #[.int .i64 (x.f0 + a), .int .i64 (x.f1 + a), .int .i64 x.f2, .int .u64 x.f3, .bool x.f4, .int .i64 x.f5, .int .i64 x.f6.f0, .int .i64 x.f6.f1] 46 (0, 0)) := (by rw [setCell_row kg1.out]; rfl); have bg2 : Below wr.heap.size wr (W1.setCell ⟨gb, 1, none⟩ (.int .i64 (x.f1 + a))) := bg1.out.trans ((KeepF.setCell W1 _ _).to_below bg1.out.size (fun i hi => by rw [hi]; exact Nat.le_of_eq hgb.out.symm)); generalize W1.setCell _ _ = W2 at kg2 bg2 ⊢; (have g0 := (cell_row kg2 0).trans (rfl : _ = some (Value.int .i64 (x.f0 + a)))); (have d01 := dB.out W2 bg2); replace kg2 := Aside0.mk kg2; replace bg2 := Aside0.mk bg2)
                    | ((with_reducible refine gate_op (.load 46 (.tmp 13)) rfl ?_); refine wpList_load_midB rfl _ _ rfl ⟨gb, 0, none⟩ rfl [.int .i64 (x.f0 + a), .int .i64 (x.f1 + a), .int .i64 x.f2, .int .u64 x.f3, .bool x.f4, .int .i64 x.f5, .int .i64 x.f6.f0, .int .i64 x.f6.f1] _ (fun j v hv => by rw [add_at]; exact (cell_row kg2.out _).trans (by simpa using hv)) Try.underlying46 rfl szT8 ?_)
                    | ((with_reducible refine gate_builtin (b := .append) (xs := #[.tmp 96, .tmp 98]) rfl ?_); at_builtin; (have hSf := Aside0.mk (hSr.out.grow bg2.out)); (have hRf : kT.R 46 W2 w.heap.size (fun _ => True) (.slice B1 n1 d1) us := (by rw [← hn1.out]; exact hSf.out.rt)); refine Kd.R_append kT (w0 := w) w.heap.size rfl (.tmp 96) (.tmp 98) 23 46 (.agg #[.int .i64 0, .int .i64 0, .int .i64 0, .int .u64 0, .bool false, .int .i64 0, .int .i64 0, .int .i64 0]) 64 rfl Try.underlying23 infoT rfl (by decide) (by omega) (.slice B1 n1 d1) us xn [.int .i64 (x.f0 + a), .int .i64 (x.f1 + a), .int .i64 x.f2, .int .u64 x.f3, .bool x.f4, .int .i64 x.f5, .int .i64 x.f6.f0, .int .i64 x.f6.f1] (fun _ => True) (fun _ => False) rfl rfl ?aP (fun _ hk => hk.elim) (fun _ _ => trivial) hRf hSf.out.below hSf.out.size hl8.out ?_; (case aP => rw [hxn.out]; exact k46_mkM _ _ _ _); intro v2 w10 hR10 hb10 hg10 hat10; obtain ⟨B2, d2, ev2, hd2, _⟩ := Kd.R_reads hR10; rw [hn2.out] at ev2; subst ev2; rw [← hn2.out] at hR10; rw [← hn1.out] at hg10; (have hr10 := (hg10.block b9 (lt_row hSf.out.row) (fun e => Kd.R_ne hSf.out.rt hSf.out.row (by decide) e)).trans hSf.out.row); (have s10 := (cell_row hr10 1).trans (rfl : _ = some (Value.slice B1 us.length d1))); (have s11 : w10.frozen? ⟨b9, 1, none⟩ = false := frozen_row hr10 1); (have hS12 := Aside0.mk (hSf.out.pushT hR10 hb10 hg10)); (have k212 := Aside0.mk (hSf.out.keepT (v := .slice B2 n2 d2) hg10 (row_below bg2.out k2r.out) h29.out)); (have k412 := Aside0.mk (hSf.out.keepT (v := .slice B2 n2 d2) hg10 (row_below bg2.out k4r.out) h49.out)); rw [hn2.out] at hS12; replace hR10 := Aside0.mk hR10; replace hb10 := Aside0.mk hb10; replace hg10 := Aside0.mk hg10; replace hat10 := Aside0.mk hat10; replace hr10 := Aside0.mk hr10))
                  go_roundw
                  case measure => show m - ((k : Int) + 1).toNat < m - (k : Int).toNat; omega
                  case rel => exact ⟨k + 1, B2, d2, us ++ [xn], by simp, by omega, htk, hS12, k212, k412⟩
                · obtain rfl : m = k := by omega
                  have husA : Aside0 (us = ts.map (renST a)) := ⟨by rw [hus.out, List.take_of_length_le (by rw [hlm.out]; exact Nat.le_refl _)]⟩
                  have d0r := (cell_row hSr.out.row 0).trans (rfl : _ = some (Value.slice A1 gs.length c1))
                  have d1r := (cell_row hSr.out.row 1).trans (rfl : _ = some (Value.slice B1 us.length d1))
                  clear hus
                  go_wp2_with (first
                    | ((with_reducible refine gate_op (.load 25 (.tmp 9)) rfl ?_); refine wpList_load_midB rfl _ _ rfl ⟨b9, 0, none⟩ rfl [.slice A1 gs.length c1, .slice B1 us.length d1] _ (two_cells d0r d1r) Try.underlying25 rfl info_S ?_)
                    | ((with_reducible refine gate_op (.store 25 (.tmp 4) (.tmp 101)) rfl ?_); refine wpList_store_midB rfl _ _ _ rfl b4 0 [.slice A1 gs.length c1, .slice B1 us.length d1] rfl rfl 25 [.slice none 0 0, .slice none 0 0] k4r.out info_S (Nat.le_refl _) one2 ?_; have k7 := KeepF.setRow wr b4 (splice [Value.slice none 0 0, .slice none 0 0] 0 [.slice A1 gs.length c1, .slice B1 us.length d1]).toArray; have h7 := setRow_heap wr b4 _ (splice [Value.slice none 0 0, .slice none 0 0] 0 [.slice A1 gs.length c1, .slice B1 us.length d1]).toArray 25 _ k4r.out; rw [splice_all _ _ (by rfl)] at k7 h7; revert k7 h7; rw [splice_all _ _ (by rfl)]; generalize wr.setRow b4 _ = w7; intro k7 h7; replace k7 := Aside0.mk k7; replace h7 := Aside0.mk h7))
                  obtain ⟨r1, r2, r3, r4, r5, r6⟩ := hSr.out.reads
                  have hsz := hSr.out.size
                  refine bodyPost_ret (results_scene rfl rfl h7.out rfl) rfl ?_
                  have b7 : Below w.heap.size w w7 := hSr.out.below.trans (k7.out.to_below hsz (fun i hi => by rw [hi]; exact h4w.out))
                  have g7 : kG.C w7 A1 gs.length gs := by
                    have h9 : kG.R 41 w7 w.heap.size (fun _ => True) (.slice A1 gs.length c1) gs := R_keepf hSr.out.rg k7.out k4r.out rfl (by decide)
                    exact (Kd.R_reads' h9).2.2
                  have g8 : kT.C w7 B1 us.length us := by
                    have h9 : kT.R 46 w7 w.heap.size (fun _ => True) (.slice B1 us.length d1) us := R_keepf hSr.out.rt k7.out k4r.out rfl (by decide)
                    exact (Kd.R_reads' h9).2.2
                  refine ⟨A1, c1, B1, d1, gs, us, 0, rfl, r2, r4, g7, g8, r6, ?_, fun _ => ⟨hgsA.out, husA.out⟩, b7⟩
                  rw [hr.out, hgsA.out, husA.out, renSL_map, renST_map]
end Go.Proofs.Ytpnjhffnlafabaa.Sn
namespace Go.Proofs.Ytpnjhffnlafabaa.Sn
set_option linter.unusedVariables false
set_option linter.unusedSimpArgs false
open Go.Proofs Go.RowKit Go.Sort Go.Shelf Go.Lib Go.Proofs.Bk Go.Proofs.Bm Go.Proofs.Op Go.Proofs.Sc Go.Proofs.Kf Go.Proofs.YtpnjhffnlafabaaW.PrintWords Go.Proofs.Ytpnjhffnlafabaa.PSceneOrders Go.Proofs.Ytpnjhffnlafabaa.St

theorem after_names {gs : List G} {us : List T} (h : checkOf gs us = 0 ∨ checkOf gs us = 5 ∨ checkOf gs us = 10) : gs.any oddG = false ∧ (idsOf gs us).Nodup ∧ ¬ Bad gs us := by
  unfold checkOf at h
  by_cases h0 : gs.length = 0
  · rw [if_pos h0] at h; omega
  rw [if_neg h0] at h
  by_cases h1 : 4096 < gs.length ∨ 4096 < us.length
  · rw [if_pos h1] at h; omega
  rw [if_neg h1] at h
  by_cases h2 : (gs.any oddG || us.any oddT) = true
  · rw [if_pos h2] at h; omega
  rw [if_neg h2] at h
  have h2' : gs.any oddG = false := by
    cases hx : gs.any oddG with
    | false => rfl
    | true => rw [hx] at h2; simp at h2
  refine ⟨h2', ?_⟩
  by_cases h3 : (idsOf gs us).Nodup
  · refine ⟨h3, fun hb => ?_⟩
    have n8 : namesOf gs us = 8 := by unfold namesOf; rw [if_neg (fun h' => h' h3)]; exact if_pos hb
    rw [n8, if_pos (by decide)] at h
    omega
  · have n9 : namesOf gs us = 9 := by unfold namesOf; rw [if_pos h3]
    rw [n9, if_pos (by decide)] at h
    omega
theorem ren_len {gs G1 : List G} {us U1 : List T} {a er : Int} (h : (er, G1, U1) = renameOf gs us a) : G1.length ≤ gs.length ∧ U1.length ≤ us.length := by
  unfold renameOf at h
  split at h
  · cases h; simp
  · split at h
    · cases h; simp
    · split at h
      · cases h; simp
      · cases h
        refine ⟨?_, by simp⟩
        cases gs <;> simp [renL]
set_option maxHeartbeats 8000000 in
set_option maxRecDepth 100000 in
theorem SceneOrders_calls (w : World) (A : Option Addr) (n c : Nat) (xs : List SG) (B : Option Addr) (m d : Nat) (ts : List ST) (hG : kG.C w A n xs) (hc : n ≤ c) (hT : kT.C w B m ts) (hd : m ≤ d) (hB : ∀ ad, B = some ad → ad.spot = none) (ho : ∀ x ∈ xs, okG x) (a1 : Int) (w1 : (Lit.int .i64 a1).wf = true) :
    Calls Try.prog 7 #[.agg #[.slice A n c, .slice B m d], .int .i64 a1] w (OkPost w) := by
  have hln := hG.1
  have hlm := hT.1
  have HG := Aside0.mk hG
  have HT := Aside0.mk hT
  clear hG hT w1
  replace hln := Aside0.mk hln; replace hlm := Aside0.mk hlm; replace hc := Aside0.mk hc; replace hd := Aside0.mk hd; replace hB := Aside0.mk hB; replace ho := Aside0.mk ho
  go_enter Try.func7, Try.ntmps7
  go_wp2_with (first
    | (((with_reducible refine gate_dst (N := 2) rfl ?_); refine box_event ?hg (N := 2) ?hd (cs := #[.slice A n c, .slice B m d]) (t := 25) ?hr ?_; (case hd => rfl); (case hg => rfl); (case hr => first | (go_simp; done) | (go_simp; rfl)); intro b0 hb0 w1 kb0 bb0; replace hb0 := Aside0.mk hb0; replace kb0 := Aside0.mk kb0; replace bb0 := Aside0.mk bb0); have c0 := (Kf.cell_row kb0.out 0).trans (rfl : _ = some (Value.slice A n c)); have c1 := (Kf.cell_row kb0.out 1).trans (rfl : _ = some (Value.slice B m d))))
  with_reducible refine (awake_calls w1).mono ?_
  rintro e w2 ⟨rfl, hb2⟩
  have hB2 := bb0.out.trans (hb2.mono bb0.out.size)
  replace c0 := pw_cell_below hb2 c0
  replace c1 := pw_cell_below hb2 c1
  clear hb2 kb0 bb0
  replace hB2 := Aside0.mk hB2
  go_wp2_with (first
    | ((with_reducible refine gate_op (.load 25 (.tmp 2)) rfl ?_); refine wpList_load_midB rfl _ _ rfl ⟨b0, 0, none⟩ rfl [.slice A n c, .slice B m d] _ (two_cells c0 c1) Try.underlying25 rfl info_S ?_))
  with_reducible refine (few_calls A n c xs B m d ts w2 (Kd.C_below HG.out hB2.out) hc.out (Kd.C_below HT.out hB2.out) hd.out).mono ?_
  rintro e w3 ⟨rfl, hb3⟩
  have hB3 := Aside0.mk (hB2.out.trans (hb3.mono hB2.out.size))
  replace c0 := pw_cell_below hb3 c0
  replace c1 := pw_cell_below hb3 c1
  clear hb3 hB2
  obtain ⟨few, hfew⟩ : ∃ few, decide (n ≤ 30 ∧ m ≤ 30) = few := ⟨_, rfl⟩
  rw [hfew]
  cases few with
  | false =>
    clear hfew
    go_wp2_with fail
    go_ret
    exact ⟨rfl, hB3.out⟩
  | true =>
    obtain ⟨hn30, hm30⟩ := of_decide_eq_true hfew
    clear hfew
    go_wp2_with (first
      | ((with_reducible refine gate_op (.load 25 (.tmp 2)) rfl ?_); refine wpList_load_midB rfl _ _ rfl ⟨b0, 0, none⟩ rfl [.slice A n c, .slice B m d] _ (two_cells c0 c1) Try.underlying25 rfl info_S ?_))
    with_reducible refine (Rename_calls w3 A n c xs B m d ts (Kd.C_below HG.out hB3.out) hc.out (Kd.C_below HT.out hB3.out) hd.out hB.out ho.out a1).mono ?_
    rintro e w4 ⟨A4, c4, B4, d4, gs, us, er, rfl, y1, y2, y3, y4, -, y6, -, hb4⟩
    have hB4 := Aside0.mk (hB3.out.trans (hb4.mono hB3.out.size))
    replace c0 := pw_cell_below hb4 c0
    replace c1 := pw_cell_below hb4 c1
    clear hb4 hB3
    obtain ⟨n4, hn4⟩ : ∃ n4, gs.length = n4 := ⟨_, rfl⟩
    obtain ⟨m4, hm4⟩ : ∃ m4, us.length = m4 := ⟨_, rfl⟩
    rw [hn4] at y1 y3 ⊢
    rw [hm4] at y2 y4 ⊢
    replace y1 := Aside0.mk y1; replace y2 := Aside0.mk y2; replace y3 := Aside0.mk y3; replace y4 := Aside0.mk y4; replace y6 := Aside0.mk y6; replace hn4 := Aside0.mk hn4; replace hm4 := Aside0.mk hm4
    go_wp2_with (first
      | (((with_reducible refine gate_dst (N := 7) rfl ?_); refine box_event ?hg (N := 7) ?hd (cs := #[.slice none 0 0, .slice none 0 0]) (t := 25) ?hr ?_; (case hd => rfl); (case hg => rfl); (case hr => first | (go_simp; done) | (go_simp; rfl)); intro b7 hb7 w5 kb7 bb7; replace hb7 := Aside0.mk hb7; replace kb7 := Aside0.mk kb7; replace bb7 := Aside0.mk bb7))
      | (((with_reducible refine gate_op (.store 25 (.tmp 7) (.tmp 23)) rfl ?_); refine wpList_store_midB rfl _ _ _ rfl b7 0 [.slice A4 n4 c4, .slice B4 m4 d4] rfl rfl 25 [.slice none 0 0, .slice none 0 0] kb7.out info_S (Nat.le_refl _) one2 ?_; obtain ⟨kk, bb⟩ := boxed (cs := [.slice none 0 0, .slice none 0 0]) (cs2 := [.slice A4 n4 c4, .slice B4 m4 d4]) hb7.out kb7.out bb7.out rfl; revert kk bb; generalize World.setRow _ b7 (splice [.slice none 0 0, .slice none 0 0] 0 [.slice A4 n4 c4, .slice B4 m4 d4]).toArray = w6; clear kb7 bb7; intro kb7 bb7; replace kb7 := Aside0.mk kb7; replace bb7 := Aside0.mk bb7); have e0 := (Kf.cell_row kb7.out 0).trans (rfl : _ = some (Value.slice A4 n4 c4)); have e1 := (Kf.cell_row kb7.out 1).trans (rfl : _ = some (Value.slice B4 m4 d4)); have q0 := pw_cell_below bb7.out c0; have q1 := pw_cell_below bb7.out c1; have hB6 := Aside0.mk (hB4.out.trans (bb7.out.mono hB4.out.size)); have y36 := Aside0.mk (Kd.C_below y3.out bb7.out); have y46 := Aside0.mk (Kd.C_below y4.out bb7.out); clear c0 c1)
      | ((with_reducible refine gate_op (.load 25 (.tmp 2)) rfl ?_); refine wpList_load_midB rfl _ _ rfl ⟨b0, 0, none⟩ rfl [.slice A n c, .slice B m d] _ (two_cells q0 q1) Try.underlying25 rfl info_S ?_))
    clear kb7 bb7 hb7 y3 y4 hB4
    with_reducible refine (rRename_calls w6 A n c xs B m d ts (Kd.C_below HG.out hB6.out) hc.out (Kd.C_below HT.out hB6.out) hd.out a1 hn30 hm30).mono ?_
    rintro e w7 ⟨A7, c7, B7, d7, gs', us', er', rfl, v1, v2, v3, v4, -, v6, -, hb7⟩
    have hh := y6.out.trans v6.symm
    obtain ⟨h1, h2⟩ := Prod.mk.inj hh
    obtain ⟨h3, h4⟩ := Prod.mk.inj h2
    obtain rfl : er' = er := h1.symm
    obtain rfl : gs' = gs := (map_inj (fun _ _ => gOf_inj.1) h3).symm
    obtain rfl : us' = us := (map_inj (fun _ _ => tOf_inj.1) h4).symm
    clear hh h1 h2 h3 h4
    have hB7 := Aside0.mk (hB6.out.trans (hb7.mono hB6.out.size))
    replace q0 := pw_cell_below hb7 q0
    replace q1 := pw_cell_below hb7 q1
    replace e0 := pw_cell_below hb7 e0
    replace e1 := pw_cell_below hb7 e1
    have y37 := Aside0.mk (Kd.C_below y36.out hb7)
    have y47 := Aside0.mk (Kd.C_below y46.out hb7)
    rw [hn4.out] at v1 v3 ⊢
    rw [hm4.out] at v2 v4 ⊢
    clear hb7 hB6 y36 y46
    replace v1 := Aside0.mk v1; replace v2 := Aside0.mk v2; replace v3 := Aside0.mk v3; replace v4 := Aside0.mk v4; replace v6 := Aside0.mk v6
    have z1 : (er' != er') = false := by simp
    obtain ⟨hgl, hul⟩ := ren_len v6.out
    rw [List.length_map, List.length_map, hn4.out, hln.out] at hgl
    rw [List.length_map, List.length_map, hm4.out, hlm.out] at hul
    go_wp2_with (first
      | (((with_reducible refine gate_dst (N := 9) rfl ?_); refine box_event ?hg (N := 9) ?hd (cs := #[.slice none 0 0, .slice none 0 0]) (t := 25) ?hr ?_; (case hd => rfl); (case hg => rfl); (case hr => first | (go_simp; done) | (go_simp; rfl)); intro b9 hb9 w8 kb9 bb9; replace hb9 := Aside0.mk hb9; replace kb9 := Aside0.mk kb9; replace bb9 := Aside0.mk bb9))
      | (((with_reducible refine gate_op (.store 25 (.tmp 9) (.tmp 29)) rfl ?_); refine wpList_store_midB rfl _ _ _ rfl b9 0 [.slice A7 n4 c7, .slice B7 m4 d7] rfl rfl 25 [.slice none 0 0, .slice none 0 0] kb9.out info_S (Nat.le_refl _) one2 ?_; obtain ⟨kk, bb⟩ := boxed (cs := [.slice none 0 0, .slice none 0 0]) (cs2 := [.slice A7 n4 c7, .slice B7 m4 d7]) hb9.out kb9.out bb9.out rfl; revert kk bb; generalize World.setRow _ b9 (splice [.slice none 0 0, .slice none 0 0] 0 [.slice A7 n4 c7, .slice B7 m4 d7]).toArray = w9; clear kb9 bb9; intro kb9 bb9; replace kb9 := Aside0.mk kb9; replace bb9 := Aside0.mk bb9); have f0 := (Kf.cell_row kb9.out 0).trans (rfl : _ = some (Value.slice A7 n4 c7)); have f1 := (Kf.cell_row kb9.out 1).trans (rfl : _ = some (Value.slice B7 m4 d7)); replace q0 := pw_cell_below bb9.out q0; replace q1 := pw_cell_below bb9.out q1; replace e0 := pw_cell_below bb9.out e0; replace e1 := pw_cell_below bb9.out e1; have hB9 := Aside0.mk (hB7.out.trans (bb9.out.mono hB7.out.size)); have y39 := Aside0.mk (Kd.C_below y37.out bb9.out); have y49 := Aside0.mk (Kd.C_below y47.out bb9.out); have v39 := Aside0.mk (Kd.C_below v3.out bb9.out); have v49 := Aside0.mk (Kd.C_below v4.out bb9.out))
      | ((with_reducible refine gate_op (.load 25 (.tmp 7)) rfl ?_); refine wpList_load_midB rfl _ _ rfl ⟨b7, 0, none⟩ rfl [.slice A4 n4 c4, .slice B4 m4 d4] _ (two_cells e0 e1) Try.underlying25 rfl info_S ?_)
      | ((with_reducible refine gate_op (.load 25 (.tmp 9)) rfl ?_); refine wpList_load_midB rfl _ _ rfl ⟨b9, 0, none⟩ rfl [.slice A7 n4 c7, .slice B7 m4 d7] _ (two_cells f0 f1) Try.underlying25 rfl info_S ?_))
    with_reducible refine (same_calls A4 n4 c4 gs' B4 m4 d4 us' A7 n4 c7 gs' B7 m4 d7 us' w9 y39.out y1.out y49.out y2.out v39.out v1.out v49.out v2.out (by omega) (by omega)).mono ?_
    rw [decide_eq_true (⟨rfl, rfl⟩ : gs' = gs' ∧ us' = us')]
    rintro e w10 ⟨rfl, hb10⟩
    have hB10 := Aside0.mk (hB9.out.trans (hb10.mono hB9.out.size))
    replace q0 := pw_cell_below hb10 q0
    replace q1 := pw_cell_below hb10 q1
    clear hb10 kb9 bb9 hb9 e0 e1 f0 f1 y39 y49 v39 v49 y37 y47 v3 v4 hB7 hB9 z1
    go_wp2_with (first
      | ((with_reducible refine gate_op (.load 25 (.tmp 2)) rfl ?_); refine wpList_load_midB rfl _ _ rfl ⟨b0, 0, none⟩ rfl [.slice A n c, .slice B m d] _ (two_cells q0 q1) Try.underlying25 rfl info_S ?_))
    with_reducible refine (rCheck_calls A n c xs B m d ts w10 (Kd.C_below HG.out hB10.out) hc.out (Kd.C_below HT.out hB10.out) hd.out).mono ?_
    rintro e w11 ⟨rfl, hb11⟩
    have hB11 := Aside0.mk (hB10.out.trans (hb11.mono hB10.out.size))
    replace q0 := pw_cell_below hb11 q0
    replace q1 := pw_cell_below hb11 q1
    clear hb11 hB10
    have han := after_names (gs := xs.map gOf) (us := ts.map tOf)
    have h00 : n = 0 → checkOf (xs.map gOf) (ts.map tOf) = 2 := fun h => by
      unfold checkOf; rw [if_pos (by rw [List.length_map, hln.out]; exact h)]
    obtain ⟨ck, hck⟩ : ∃ ck, checkOf (xs.map gOf) (ts.map tOf) = ck := ⟨_, rfl⟩
    rw [hck] at han h00 ⊢
    replace han := Aside0.mk han; replace hck := Aside0.mk hck
    by_cases hn0 : n = 0
    · obtain rfl := h00 hn0
      subst hn0
      go_wp2_with fail
      go_ret
      exact ⟨rfl, hB11.out⟩
    · have p0 : (0 : Int) < (n : Int) := by omega
      clear h00
      have kw := Whole_calls A n c xs B m d w11 (Kd.C_below HG.out hB11.out) (by omega)
      by_cases hin : ck = 0 ∨ ck = 5 ∨ ck = 10
      case neg =>
        have i0 : (ck != 0) = true := by simpa using fun h => hin (.inl h)
        have i1 : (ck != 5) = true := by simpa using fun h => hin (.inr (.inl h))
        have i2 : (ck != 10) = true := by simpa using fun h => hin (.inr (.inr h))
        replace kw := Aside0.mk kw
        go_wp2_with (first
          | ((with_reducible refine gate_op (.load 25 (.tmp 2)) rfl ?_); refine wpList_load_midB rfl _ _ rfl ⟨b0, 0, none⟩ rfl [.slice A n c, .slice B m d] _ (two_cells q0 q1) Try.underlying25 rfl info_S ?_)
          | (go_at_call 23; (with_reducible refine kw.out.mono ?_); rintro e w12 ⟨rfl, hb12⟩; have hB12 := Aside0.mk (hB11.out.trans (hb12.mono hB11.out.size)); clear hb12))
        go_ret
        exact ⟨rfl, hB12.out⟩
      case pos =>
        obtain ⟨hoG, hnd, hnb⟩ := han.out hin
        have hnm : Named xs := okids (ts := ts) hoG (by rw [idsS_eq]; exact hnd) (fun x hx h1 => by
          apply Decidable.byContradiction
          intro h2
          exact hnb (.inr (.inl ⟨gOf x, List.mem_map.2 ⟨x, hx, rfl⟩, h1, h2⟩)))
        have hT0 : (ts.map (·.f0)).Nodup := by rw [← idsS_eq] at hnd; exact (List.nodup_append.1 hnd).2.1
        cases hw : rwhole xs with
        | false =>
          rw [hw] at kw
          replace hnm := Aside0.mk hnm; replace hT0 := Aside0.mk hT0; replace hw := Aside0.mk hw; replace kw := Aside0.mk kw; replace hnd := Aside0.mk hnd; replace hnb := Aside0.mk hnb; replace hoG := Aside0.mk hoG
          clear han hck
          rcases hin with rfl | rfl | rfl
          all_goals go_wp2_with (first
            | ((with_reducible refine gate_op (.load 25 (.tmp 2)) rfl ?_); refine wpList_load_midB rfl _ _ rfl ⟨b0, 0, none⟩ rfl [.slice A n c, .slice B m d] _ (two_cells q0 q1) Try.underlying25 rfl info_S ?_)
            | (go_at_call 23; (with_reducible refine kw.out.mono ?_); rintro e w12 ⟨rfl, hb12⟩; have hB12 := Aside0.mk (hB11.out.trans (hb12.mono hB11.out.size)); clear hb12))
          all_goals go_ret
          all_goals exact ⟨rfl, hB12.out⟩
        | true =>
          have hwo : wholeOf (xs.map gOf) = true := by rw [← hnm.wholeE]; exact hw
          have hY : Tree (xs.map gOf) := tree_of hnm.nd hoG hwo
          rw [hw] at kw
          have ko := fun W (hW : Below w.heap.size w W) => rOrder_calls A n c xs B m d ts W (Kd.C_below HG.out hW) (Kd.C_below HT.out hW) (by omega) (by omega) (by omega) hnm hY hw hT0
          have kp := fun W (hW : Below w.heap.size w W) => Order_calls A n c xs B m d ts W (Kd.C_below HG.out hW) hc.out (by omega) (Kd.C_below HT.out hW) (by omega) hB.out hY hwo hT0
          have hul6 : ∀ gs6 : List SG, gs6.map gOf = underOf (xs.map gOf) → gs6.length < 4611686018427387904 := fun gs6 h => by
            obtain ⟨ys, id0, -, h1, -, -, h4, -⟩ := under_rows hY (by rintro rfl; have := hln.out; simp at this; omega)
            have h5 := congrArg List.length (h.trans h1.symm)
            rw [List.length_map, List.length_map] at h5
            have h6 := Nat.mul_le_mul (show xs.length + 2 ≤ 4098 by rw [hln.out]; omega) (show xs.length ≤ 4096 by rw [hln.out]; omega)
            omega
          have hut6 : ∀ ts6 : List ST, ts6.map tOf = sortT (ts.map tOf) → ts6.length < 4611686018427387904 := fun ts6 h => by
            have h5 := congrArg List.length h
            rw [List.length_map, show (sortT (ts.map tOf)).length = (ts.map tOf).length from List.length_mergeSort _, List.length_map, hlm.out] at h5
            omega
          replace hnm := Aside0.mk hnm; replace hT0 := Aside0.mk hT0; replace hw := Aside0.mk hw; replace kw := Aside0.mk kw; replace hnd := Aside0.mk hnd; replace hnb := Aside0.mk hnb; replace hoG := Aside0.mk hoG; replace hwo := Aside0.mk hwo; replace hY := Aside0.mk hY; replace ko := Aside0.mk ko; replace kp := Aside0.mk kp; replace hul6 := Aside0.mk hul6; replace hut6 := Aside0.mk hut6
          clear han hck
          rcases hin with rfl | rfl | rfl
          all_goals go_wp2_with (first
            | ((with_reducible refine gate_op (.load 25 (.tmp 2)) rfl ?_); refine wpList_load_midB rfl _ _ rfl ⟨b0, 0, none⟩ rfl [.slice A n c, .slice B m d] _ (two_cells q0 q1) Try.underlying25 rfl info_S ?_)
            | (go_at_call 23; (with_reducible refine kw.out.mono ?_); rintro e w12 ⟨rfl, hb12⟩; have hB12 := Aside0.mk (hB11.out.trans (hb12.mono hB11.out.size)); replace q0 := pw_cell_below hb12 q0; replace q1 := pw_cell_below hb12 q1; clear hb12; have hBd := Aside0.mk hB12.out.drew))
          all_goals (first | (go_region_held3 (fun w' => w'.cell? ⟨b0, 0, none⟩ = some (.slice A n c) ∧ w'.cell? ⟨b0, 1, none⟩ = some (.slice B m d))
            (first | (with_reducible exact ⟨q0, q1⟩) | (with_reducible exact s5) | (with_reducible exact s6) | (with_reducible exact s7) | go_keep)
            (first
              | (go_at_call 20; (with_reducible refine (kp.out _ hBd.out).mono ?_); rintro e w13 ⟨A5, c5, B5, d5, gs5, ts5, rfl, r1, r2, r3, r4, r5, r6, r7, hb13⟩; have hB13 := Aside0.mk (hBd.out.trans (hb13.mono hBd.out.size)); have s5 : w13.cell? ⟨b0, 0, none⟩ = some (.slice A n c) ∧ w13.cell? ⟨b0, 1, none⟩ = some (.slice B m d) := ⟨pw_cell_below hb13 q0, pw_cell_below hb13 q1⟩; clear hb13; replace r1 := Aside0.mk r1; replace r2 := Aside0.mk r2; replace r3 := Aside0.mk r3; replace r4 := Aside0.mk r4; replace r5 := Aside0.mk r5; replace r6 := Aside0.mk r6; replace r7 := Aside0.mk r7)
              | (go_at_call 24; (with_reducible refine (ko.out w13 hB13.out).mono ?_); rintro e w14 ⟨A6, c6, B6, d6, gs6, ts6, rfl, p1, p2, p3, p4, p5, p6, p7, hb14⟩; have hB14 := Aside0.mk (hB13.out.trans (hb14.mono hB13.out.size)); have s6 : w14.cell? ⟨b0, 0, none⟩ = some (.slice A n c) ∧ w14.cell? ⟨b0, 1, none⟩ = some (.slice B m d) := ⟨pw_cell_below hb14 s5.1, pw_cell_below hb14 s5.2⟩; have ks6 := same_calls A5 gs5.length c5 gs5 B5 ts5.length d5 ts5 A6 gs6.length c6 gs6 B6 ts6.length d6 ts6 w14 (Kd.C_below r3.out hb14) r1.out (Kd.C_below r4.out hb14) r2.out p3 p1 p4 p2 (hul6.out _ r5.out) (hut6.out _ r6.out); rw [decide_eq_true (⟨map_inj (fun _ _ => gOf_inj.1) (r5.out.trans p5.symm), map_inj (fun _ _ => tOf_inj.1) (r6.out.trans p6.symm)⟩ : gs5 = gs6 ∧ ts5 = ts6)] at ks6; clear hb14 p1 p2 p3 p4 p5 p6 p7; replace ks6 := Aside0.mk ks6)
              | (go_at_call 19; (with_reducible refine ks6.out.mono ?_); rintro e w15 ⟨rfl, hb15⟩; have hB15 := Aside0.mk (hB14.out.trans (hb15.mono hB14.out.size)); have s7 : w15.cell? ⟨b0, 0, none⟩ = some (.slice A n c) ∧ w15.cell? ⟨b0, 1, none⟩ = some (.slice B m d) := ⟨pw_cell_below hb15 s6.1, pw_cell_below hb15 s6.2⟩; clear hb15))) | fail)
          all_goals go_wp2_with fail
          all_goals go_ret
          all_goals exact ⟨rfl, hB15.out⟩
end Go.Proofs.Ytpnjhffnlafabaa.Sn
