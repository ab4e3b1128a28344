/- ImageReads: any bytes' scene, or what is wrong with them, is as the document says; so is that of any sections. -/
import Derived.Test.YtpnjhffnlafabaaGreatDoorVImw
import Derived.Test.YtpnjhffnlafabaaGreatDoorVRe7
import Derived.Test.YtpnjhffnlafabaaGreatDoorVOp
namespace Go.Proofs.YtpnjhffnlafabaaGreatDoor.Im
set_option linter.unusedVariables false
set_option linter.unusedSimpArgs false
open Go.Proofs Go.RowKit Go.Proofs.Op Go.Proofs.Bk Go.Proofs.Bm Go.Proofs.Sc Go.Proofs.Kf Go.Proofs.YtpnjhffnlafabaaGreatDoorW.PrintWords Go.Proofs.YtpnjhffnlafabaaGreatDoor.Sl Go.Proofs.YtpnjhffnlafabaaGreatDoor.Sn Go.Proofs.YtpnjhffnlafabaaGreatDoor.PImageBack
theorem decodeS_len {a b c d : List Int} {er : Int} {gs : List SG} {ts : List ST} (h : (er, gs, ts) = decodeS a b c d) : gs.length ≤ a.length ∧ ts.length ≤ c.length := by
  unfold decodeS at h
  repeat' split at h
  all_goals
    injection h with h1 h2
    injection h2 with h2 h3
    subst h2 h3
  · simp
  · simp
  · simp
  · rw [groupsR_length, tasksR_length]; exact ⟨Nat.div_le_self _ _, Nat.div_le_self _ _⟩
theorem decode_len {b : List Int} {er : Int} {gs : List SG} {ts : List ST} (hb : inB b) (h : (er, gs, ts) = decodeOf b) : gs.length ≤ 65535 ∧ ts.length ≤ 65535 := by
  unfold decodeOf at h
  by_cases hu : (unpackOf b).1 = 0
  case neg =>
    rw [if_pos hu] at h
    injection h with h1 h2
    injection h2 with h2 h3
    subst h2 h3
    simp
  rw [if_neg (by simp [hu])] at h
  obtain ⟨hok, -⟩ := pack_unpack (ss := (unpackOf b).2) hb (by rw [← hu])
  obtain ⟨ss, hss⟩ : ∃ ss, (unpackOf b).2 = ss := ⟨_, rfl⟩
  rw [hss] at h hok
  have other : decodeL ss = (21, [], []) → gs.length ≤ 65535 ∧ ts.length ≤ 65535 := fun e => by
    rw [e] at h; cases h; simp
  match ss, h, hok, other with
  | [], _, _, o => exact o rfl
  | [_], _, _, o => exact o rfl
  | [_, _], _, _, o => exact o rfl
  | [_, _, _], _, _, o => exact o rfl
  | _ :: _ :: _ :: _ :: _ :: _, _, _, o => exact o rfl
  | [s0, s1, s2, s3], h, hok, o =>
    by_cases h4 : s3.f0 = 4
    case neg => exact o (by unfold decodeL; dsimp only; rw [if_pos h4])
    unfold decodeL at h
    dsimp only at h
    rw [if_neg (by simp [h4])] at h
    obtain ⟨h1, h2⟩ := decodeS_len h
    have l0 := hok.long s0 (by simp)
    have l2 := hok.long s2 (by simp)
    omega
theorem flat_le2 : ∀ ss : List SE, (∀ s ∈ ss, s.f1.length ≤ 65535) → ((ss.map (·.f1)).flatten).length ≤ 65535 * ss.length
  | [], _ => by simp
  | s :: ss, h => by
    have h1 := h s (by simp)
    have h2 := flat_le2 ss (fun t ht => h t (by simp [ht]))
    rw [List.map_cons, List.flatten_cons, List.length_append, List.length_cons]; omega
theorem pack_bs {ss : List SE} {er : Int} {bs : List Int} (h : (er, bs) = packOf ss) (hb : ∀ s ∈ ss, inB s.f1) : inB bs ∧ bs.length ≤ 2000000 := by
  have nil : bs = [] → inB bs ∧ bs.length ≤ 2000000 := fun e => by subst e; exact ⟨fun x hx => by simp at hx, by simp⟩
  unfold packOf at h
  split at h
  · injection h with _ h; exact nil h
  rename_i h16
  split at h
  · injection h with _ h; exact nil h
  rename_i hr
  split at h
  · injection h with _ h; exact nil h
  rename_i hl
  injection h with _ h
  subst h
  have hlong : ∀ s ∈ ss, s.f1.length ≤ 65535 := fun s hs => by
    have := List.any_eq_false.1 (by simpa using hl) s hs
    unfold longE at this
    simpa using this
  refine ⟨pack_inB ⟨by omega, by simpa using hr, hlong, hb⟩, ?_⟩
  have := flat_le2 ss hlong
  unfold packB bodies
  rw [List.length_append, List.length_append, packT_len, digs_length]
  omega
theorem wpList_load_midW {P : Program} {w : World} {ops : Array Oper} {rest : List Oper} {o : Oper} {a : Act} {Q : Exit → Act → World → Prop} (hw : Region.wanted o (yielded ops a.tmps) = true) (ty : TypeId) (x : Operand) (ho : o.op = .load ty x) (ad : Addr) (hx : a.eval x = .pointer (some ad)) (cs : List Value) (d : TypeDesc) (hc : ∀ j v, cs[j]? = some v → w.cell? (ad.add j) = some v)
    (hu : P.underlying ty = some d) (hd : isAggD d = true) (hi : (P.info? ty).map (·.size) = some cs.length) (h : wpList P ops Q rest (a.put o.dst (.agg cs.toArray)) w) : wpList P ops Q (o :: rest) a w := by
  unfold wpList; rw [if_pos hw]; exact .inl (wp_load_midB ty x ho ad hx cs d hc hu hd hi h)
set_option maxHeartbeats 8000000 in
set_option maxRecDepth 100000 in
theorem ImageReads_calls (w : World) (hT : Tab w) (A : Option Addr) (n c : Nat) (b : List Int) (h : U8.C w A n b) (hc : n ≤ c) (hby : inB b) (A1 : Option Addr) (n1 c1 : Nat) (ss : List SE) (hS : kE.C w A1 n1 ss) (hc1 : n1 ≤ c1) (hbs : ∀ s ∈ ss, inB s.f1) :
    Calls Tryz.prog 4 #[.slice A n c, .slice A1 n1 c1] w (OkPost w) := by
  have hln := h.1
  have hnn := h.2.1
  have hnn1 := hS.2.1
  have HE := Aside0.mk h
  have HS := Aside0.mk hS
  clear h hS
  replace hT := Aside0.mk hT; replace hby := Aside0.mk hby; replace hln := Aside0.mk hln; replace hbs := Aside0.mk hbs
  go_enter Tryz.func4, Tryz.ntmps4
  go_wp2_with fail
  with_reducible refine (awake_calls w hT.out).mono ?_
  rintro e w2 ⟨rfl, hb2⟩
  have hB2 := Aside0.mk hb2
  clear hb2
  by_cases hk : 1000 < n
  · have z1 : (1000 : Int) < (n : Int) := by omega
    go_wp2_with fail
    go_ret
    exact ⟨rfl, hB2.out⟩
  have z1 : ¬ (1000 : Int) < (n : Int) := by omega
  by_cases hk1 : 20 < n1
  · have z2 : (20 : Int) < (n1 : Int) := by omega
    go_wp2_with fail
    go_ret
    exact ⟨rfl, hB2.out⟩
  have z2 : ¬ (20 : Int) < (n1 : Int) := by omega
  go_wp2_with fail
  go_loopw [6] (fun iv wr => ∃ i : Nat, iv = .int .i64 i ∧ i ≤ n1 ∧ w2 = wr) (fun iv _ => n1 - (intOf iv).toNat)
  case atStart => exact ⟨0, rfl, Nat.zero_le _, rfl⟩
  case round =>
    obtain ⟨i, rfl, hi, rfl⟩ := hrel
    by_cases hlt : i < n1
    · have p1 : 0 ≤ (i : Int) := by omega
      have q1 : (i : Int) < (n1 : Int) := by omega
      obtain ⟨g, o, x, A3, c3, rfl, -, hx, -, t1, -, -⟩ := E_one (Kd.C_below HS.out hB2.out) hlt
      obtain ⟨L, hL⟩ : ∃ L, x.f1.length = L := ⟨_, rfl⟩
      rw [hL] at t1
      replace hx := Aside0.mk hx; replace hL := Aside0.mk hL
      by_cases hl : 400 < L
      · have z3 : (400 : Int) < (L : Int) := by omega
        go_wp2_with fail
        go_ret
        exact ⟨rfl, hB2.out⟩
      have z3 : ¬ (400 : Int) < (L : Int) := by omega
      go_wp2_with fail
      go_roundw
      case rel => exact ⟨i + 1, by simp, by omega, trivial⟩
      case measure => show n1 - ((i : Int) + 1).toNat < n1 - (i : Int).toNat; omega
    obtain rfl : n1 = i := by omega
    obtain ⟨wy, rfl⟩ : ∃ W, W = w2 := ⟨_, rfl⟩
    go_wp2_with fail
    with_reducible refine (Decode_calls A n c b wy (hT.out.step hB2.out) (Kd.C_below HE.out hB2.out) hc (by omega) hby.out).mono ?_
    rintro e w3 ⟨A4, c4, B4, d4, er, gs, ts, rfl, hde, hb3, k1, k2, hG, hT4, -, -⟩
    have hB3 := Aside0.mk (hB2.out.trans (hb3.mono hB2.out.size))
    obtain ⟨lg, lt⟩ := decode_len hby.out hde
    obtain ⟨ng, hng⟩ : ∃ ng, gs.length = ng := ⟨_, rfl⟩
    obtain ⟨nt, hnt⟩ : ∃ nt, ts.length = nt := ⟨_, rfl⟩
    rw [hng] at hG k1 lg
    rw [hnt] at hT4 k2 lt
    rw [hng, hnt]
    clear hb3
    replace hde := Aside0.mk hde; replace hG := Aside0.mk hG; replace hT4 := Aside0.mk hT4; replace hng := Aside0.mk hng; replace hnt := Aside0.mk hnt
    go_wp2_with (first
      | (((with_reducible refine gate_dst (N := 7) rfl ?_); refine box_event ?hg (N := 7) ?hd (cs := #[.slice none 0 0, .slice none 0 0]) (t := 25) ?hr ?_; (case hd => rfl); (case hg => rfl); (case hr => first | (go_simp; done) | (go_simp; rfl)); intro b7 hb7 w4 kb7 bb7; replace hb7 := Aside0.mk hb7; replace kb7 := Aside0.mk kb7; replace bb7 := Aside0.mk bb7))
      | (((with_reducible refine gate_op (.store 25 (.tmp 7) (.tmp 44)) rfl ?_); refine wpList_store_midB rfl _ _ _ rfl b7 0 [.slice A4 ng c4, .slice B4 nt d4] rfl rfl 25 [.slice none 0 0, .slice none 0 0] kb7.out szS2 (Nat.le_refl _) oneS2 ?_; obtain ⟨kk, bb⟩ := boxed (cs := [.slice none 0 0, .slice none 0 0]) (cs2 := [.slice A4 ng c4, .slice B4 nt d4]) hb7.out kb7.out bb7.out rfl; revert kk bb; generalize World.setRow _ b7 (splice [.slice none 0 0, .slice none 0 0] 0 [.slice A4 ng c4, .slice B4 nt d4]).toArray = w5; clear kb7 bb7; intro kb7 bb7; replace kb7 := Aside0.mk kb7; replace bb7 := Aside0.mk bb7)))
    have hB5 := Aside0.mk (hB3.out.trans (bb7.out.mono hB3.out.size))
    replace hG := Aside0.mk (Kd.C_below hG.out bb7.out)
    replace hT4 := Aside0.mk (Kd.C_below hT4.out bb7.out)
    with_reducible refine (rDecode_calls A n c b w5 (Kd.C_below HE.out hB5.out) hc (by omega) hby.out).mono ?_
    rintro e w6 ⟨A5, c5, B5, d5, er5, gs5, ts5, rfl, hde5, hb6, k3, k4, hG5, hT5, -, -⟩
    rw [← hde.out] at hde5
    obtain rfl : er5 = er := congrArg Prod.fst hde5
    obtain rfl : gs5 = gs := congrArg (fun p => p.2.1) hde5
    obtain rfl : ts5 = ts := congrArg (fun p => p.2.2) hde5
    rw [hng.out] at hG5 k3
    rw [hnt.out] at hT5 k4
    rw [hng.out, hnt.out]
    have hB6 := Aside0.mk (hB5.out.trans (hb6.mono hB5.out.size))
    replace hG := Aside0.mk (Kd.C_below hG.out hb6)
    replace hT4 := Aside0.mk (Kd.C_below hT4.out hb6)
    replace kb7 := Aside0.mk (row_below hb6 kb7.out)
    clear hde5 hb6 bb7 hb7
    have ze : (er5 != er5) = false := by simp
    replace hG5 := Aside0.mk hG5; replace hT5 := Aside0.mk hT5
    go_wp2_with (first
      | (((with_reducible refine gate_dst (N := 9) rfl ?_); refine box_event ?hg (N := 9) ?hd (cs := #[.slice none 0 0, .slice none 0 0]) (t := 25) ?hr ?_; (case hd => rfl); (case hg => rfl); (case hr => first | (go_simp; done) | (go_simp; rfl)); intro b9 hb9 w7 kb9 bb9; replace hb9 := Aside0.mk hb9; replace kb9 := Aside0.mk kb9; replace bb9 := Aside0.mk bb9))
      | (((with_reducible refine gate_op (.store 25 (.tmp 9) (.tmp 49)) rfl ?_); refine wpList_store_midB rfl _ _ _ rfl b9 0 [.slice A5 ng c5, .slice B5 nt d5] rfl rfl 25 [.slice none 0 0, .slice none 0 0] kb9.out szS2 (Nat.le_refl _) oneS2 ?_; obtain ⟨kk, bb⟩ := boxed (cs := [.slice none 0 0, .slice none 0 0]) (cs2 := [.slice A5 ng c5, .slice B5 nt d5]) hb9.out kb9.out bb9.out rfl; revert kk bb; generalize World.setRow _ b9 (splice [.slice none 0 0, .slice none 0 0] 0 [.slice A5 ng c5, .slice B5 nt d5]).toArray = w8; clear kb9 bb9; intro kb9 bb9; replace kb9 := Aside0.mk kb9; replace bb9 := Aside0.mk bb9); (have hB8 := Aside0.mk (hB6.out.trans (bb9.out.mono hB6.out.size))); (replace hG := Aside0.mk (Kd.C_below hG.out bb9.out)); (replace hT4 := Aside0.mk (Kd.C_below hT4.out bb9.out)); (replace hG5 := Aside0.mk (Kd.C_below hG5.out bb9.out)); (replace hT5 := Aside0.mk (Kd.C_below hT5.out bb9.out)); (replace kb7 := Aside0.mk (row_below bb9.out kb7.out)))
      | ((with_reducible refine gate_op (.load 25 (.tmp 7)) rfl ?_); refine wpList_load_midW (by kernel_rfl) _ _ rfl ⟨b7, 0, none⟩ rfl [.slice A4 ng c4, .slice B4 nt d4] _ (Bk.cells_row kb7.out) Tryz.underlying25 rfl szS2 ?_)
      | ((with_reducible refine gate_op (.load 25 (.tmp 9)) rfl ?_); refine wpList_load_midW (by kernel_rfl) _ _ rfl ⟨b9, 0, none⟩ rfl [.slice A5 ng c5, .slice B5 nt d5] _ (Bk.cells_row kb9.out) Tryz.underlying25 rfl szS2 ?_)
      | (go_at_call 17; (with_reducible refine (same_calls A4 ng c4 gs5 B4 nt d4 ts5 A5 ng c5 gs5 B5 nt d5 ts5 w8 hG.out k1 hT4.out k2 hG5.out k3 hT5.out k4 (by omega) (by omega)).mono ?_); rintro e w9 ⟨rfl, hb9x⟩; rw [decide_eq_true (show gs5 = gs5 ∧ ts5 = ts5 from ⟨rfl, rfl⟩)]; (have hB9 := Aside0.mk (hB8.out.trans (hb9x.mono hB8.out.size))); clear hb9x))
    clear hG hT4 hG5 hT5 kb7 kb9 bb9 hb9
    with_reducible refine (Pack_calls A1 n1 c1 ss w9 (hT.out.step hB9.out) (Kd.C_below HS.out hB9.out) hbs.out).mono ?_
    rintro e w10 ⟨v, ep, p, rfl, hbp, hb10, hpk⟩
    obtain ⟨A6, c6, rfl, hc6, hC6⟩ := Kd.R_reads hbp
    obtain ⟨hpB, hpl⟩ := pack_bs hpk hbs.out
    obtain ⟨np, hnp⟩ : ∃ k, p.length = k := ⟨_, rfl⟩
    rw [hnp] at hC6 hc6 hpl
    rw [hnp]
    have hB10 := Aside0.mk (hB9.out.trans (hb10.mono hB9.out.size))
    clear hbp hb10 hpk
    replace hC6 := Aside0.mk hC6; replace hpB := Aside0.mk hpB; replace hnp := Aside0.mk hnp
    go_wp2_with fail
    with_reducible refine (Decode_calls A6 np c6 p w10 (hT.out.step hB10.out) hC6.out hc6 (by omega) hpB.out).mono ?_
    rintro e w11 ⟨A14, c14, B14, d14, eq, us, vs, rfl, hde, hb11, k5, k6, hG, hT4, -, -⟩
    have hB11 := Aside0.mk (hB10.out.trans (hb11.mono hB10.out.size))
    replace hC6 := Aside0.mk (Kd.C_below hC6.out hb11)
    obtain ⟨lg2, lt2⟩ := decode_len hpB.out hde
    obtain ⟨mg, hmg⟩ : ∃ ng, us.length = ng := ⟨_, rfl⟩
    obtain ⟨mt, hmt⟩ : ∃ nt, vs.length = nt := ⟨_, rfl⟩
    rw [hmg] at hG k5 lg2
    rw [hmt] at hT4 k6 lt2
    rw [hmg, hmt]
    clear hb11
    replace hde := Aside0.mk hde; replace hG := Aside0.mk hG; replace hT4 := Aside0.mk hT4; replace hmg := Aside0.mk hmg; replace hmt := Aside0.mk hmt
    go_wp2_with (first
      | (((with_reducible refine gate_dst (N := 13) rfl ?_); refine box_event ?hg (N := 13) ?hd (cs := #[.slice none 0 0, .slice none 0 0]) (t := 25) ?hr ?_; (case hd => rfl); (case hg => rfl); (case hr => first | (go_simp; done) | (go_simp; rfl)); intro b13 hb13 w12 kb13 bb13; replace hb13 := Aside0.mk hb13; replace kb13 := Aside0.mk kb13; replace bb13 := Aside0.mk bb13))
      | (((with_reducible refine gate_op (.store 25 (.tmp 13) (.tmp 68)) rfl ?_); refine wpList_store_midB rfl _ _ _ rfl b13 0 [.slice A14 mg c14, .slice B14 mt d14] rfl rfl 25 [.slice none 0 0, .slice none 0 0] kb13.out szS2 (Nat.le_refl _) oneS2 ?_; obtain ⟨kk, bb⟩ := boxed (cs := [.slice none 0 0, .slice none 0 0]) (cs2 := [.slice A14 mg c14, .slice B14 mt d14]) hb13.out kb13.out bb13.out rfl; revert kk bb; generalize World.setRow _ b13 (splice [.slice none 0 0, .slice none 0 0] 0 [.slice A14 mg c14, .slice B14 mt d14]).toArray = w13; clear kb13 bb13; intro kb13 bb13; replace kb13 := Aside0.mk kb13; replace bb13 := Aside0.mk bb13)))
    have hB13 := Aside0.mk (hB11.out.trans (bb13.out.mono hB11.out.size))
    replace hG := Aside0.mk (Kd.C_below hG.out bb13.out)
    replace hT4 := Aside0.mk (Kd.C_below hT4.out bb13.out)
    replace hC6 := Aside0.mk (Kd.C_below hC6.out bb13.out)
    with_reducible refine (rDecode_calls A6 np c6 p w13 hC6.out hc6 (by omega) hpB.out).mono ?_
    rintro e w14 ⟨A15, c15, B15, d15, eq5, us5, vs5, rfl, hde5, hb14, k7, k8, hG5, hT5, -, -⟩
    rw [← hde.out] at hde5
    obtain rfl : eq5 = eq := congrArg Prod.fst hde5
    obtain rfl : us5 = us := congrArg (fun p => p.2.1) hde5
    obtain rfl : vs5 = vs := congrArg (fun p => p.2.2) hde5
    rw [hmg.out] at hG5 k7
    rw [hmt.out] at hT5 k8
    rw [hmg.out, hmt.out]
    have hB14 := Aside0.mk (hB13.out.trans (hb14.mono hB13.out.size))
    replace hG := Aside0.mk (Kd.C_below hG.out hb14)
    replace hT4 := Aside0.mk (Kd.C_below hT4.out hb14)
    replace kb13 := Aside0.mk (row_below hb14 kb13.out)
    clear hde5 hb14 bb13 hb13
    have ze2 : (eq5 == eq5) = true := by simp
    replace hG5 := Aside0.mk hG5; replace hT5 := Aside0.mk hT5
    go_wp2_with (first
      | (((with_reducible refine gate_dst (N := 15) rfl ?_); refine box_event ?hg (N := 15) ?hd (cs := #[.slice none 0 0, .slice none 0 0]) (t := 25) ?hr ?_; (case hd => rfl); (case hg => rfl); (case hr => first | (go_simp; done) | (go_simp; rfl)); intro b15 hb15 w15 kb15 bb15; replace hb15 := Aside0.mk hb15; replace kb15 := Aside0.mk kb15; replace bb15 := Aside0.mk bb15))
      | (((with_reducible refine gate_op (.store 25 (.tmp 15) (.tmp 73)) rfl ?_); refine wpList_store_midB rfl _ _ _ rfl b15 0 [.slice A15 mg c15, .slice B15 mt d15] rfl rfl 25 [.slice none 0 0, .slice none 0 0] kb15.out szS2 (Nat.le_refl _) oneS2 ?_; obtain ⟨kk, bb⟩ := boxed (cs := [.slice none 0 0, .slice none 0 0]) (cs2 := [.slice A15 mg c15, .slice B15 mt d15]) hb15.out kb15.out bb15.out rfl; revert kk bb; generalize World.setRow _ b15 (splice [.slice none 0 0, .slice none 0 0] 0 [.slice A15 mg c15, .slice B15 mt d15]).toArray = w16; clear kb15 bb15; intro kb15 bb15; replace kb15 := Aside0.mk kb15; replace bb15 := Aside0.mk bb15); (have hB16 := Aside0.mk (hB14.out.trans (bb15.out.mono hB14.out.size))); (replace hG := Aside0.mk (Kd.C_below hG.out bb15.out)); (replace hT4 := Aside0.mk (Kd.C_below hT4.out bb15.out)); (replace hG5 := Aside0.mk (Kd.C_below hG5.out bb15.out)); (replace hT5 := Aside0.mk (Kd.C_below hT5.out bb15.out)); (replace kb13 := Aside0.mk (row_below bb15.out kb13.out)))
      | ((with_reducible refine gate_op (.load 25 (.tmp 13)) rfl ?_); refine wpList_load_midW (by kernel_rfl) _ _ rfl ⟨b13, 0, none⟩ rfl [.slice A14 mg c14, .slice B14 mt d14] _ (Bk.cells_row kb13.out) Tryz.underlying25 rfl szS2 ?_)
      | ((with_reducible refine gate_op (.load 25 (.tmp 15)) rfl ?_); refine wpList_load_midW (by kernel_rfl) _ _ rfl ⟨b15, 0, none⟩ rfl [.slice A15 mg c15, .slice B15 mt d15] _ (Bk.cells_row kb15.out) Tryz.underlying25 rfl szS2 ?_)
      | (go_at_call 17; (with_reducible refine (same_calls A14 mg c14 us5 B14 mt d14 vs5 A15 mg c15 us5 B15 mt d15 vs5 w16 hG.out k5 hT4.out k6 hG5.out k7 hT5.out k8 (by omega) (by omega)).mono ?_); rintro e w17 ⟨rfl, hb17⟩; rw [decide_eq_true (show us5 = us5 ∧ vs5 = vs5 from ⟨rfl, rfl⟩)]; (have hB17 := Aside0.mk (hB16.out.trans (hb17.mono hB16.out.size))); clear hb17))
    go_ret
    exact ⟨rfl, hB17.out⟩
/-! ### sections as an argument -/
def SE.f (x : SE) : Int × List Int := (x.f0, x.f1)
def SE.g (x : Int × List Int) : SE := ⟨x.1, x.2⟩
def kEA : Kd SE := Kd.iso (Kd.pair (Kd.int .i64) (Kd.slice 5 (Kd.int .u8))) SE.f
def okE (x : SE) : Prop := (Lit.int .i64 x.f0).wf = true ∧ (∀ y ∈ x.f1, (Lit.int .u8 y).wf = true)
theorem opens_E : Opens Tryz.prog 36 kEA okE :=
  Opens.struct SE.f SE.g (fun _ => rfl) Tryz.underlying36 (by kernel_rfl)
    (OpensF.cons rfl (by kernel_rfl) (Opens.int Tryz.underlying3) (OpensF.one rfl (by kernel_rfl) (Opens.slice Tryz.underlying28 (by kernel_rfl) (Opens.int Tryz.underlying5))))
theorem kEA_C {w : World} {A : Option Addr} {n : Nat} {l : List SE} (h : kEA.C w A n l) : kE.C w A n l := by
  refine ⟨h.1, h.2.1, fun hn => ?_⟩
  obtain ⟨ad, e, hc⟩ := h.2.2 hn
  refine ⟨ad, e, fun j p hj => ?_⟩
  obtain ⟨cs, q1, q2, q3⟩ := hc j p hj
  refine ⟨cs, q1, ?_, q3⟩
  obtain ⟨x0, y0, rfl, h0, h1⟩ := q2
  obtain rfl : x0 = [.int .i64 p.f0] := h0
  obtain ⟨A1, c1, rfl, hl, hb⟩ := h1
  exact k36_mk w p hl hb
theorem okE_inB {l : List SE} (h : ∀ x ∈ l, okE x) : ∀ s ∈ l, inB s.f1 := by
  intro s hs x hx
  have := (h s hs).2 x hx
  simp [Lit.wf, IntKind.min, IntKind.max, IntKind.signed, IntKind.bits] at this
  omega
theorem ImageReadsI_calls (w : World) (hT : Tab w) (A : Option Addr) (n c : Nat) (b : List Int) (h : (Kd.int .u8).C w A n b) (hc : n ≤ c) (hby : ∀ x ∈ b, (Lit.int .u8 x).wf = true) (A1 : Option Addr) (n1 c1 : Nat) (ss : List SE) (hS : kEA.C w A1 n1 ss) (hc1 : n1 ≤ c1) (hbs : ∀ s ∈ ss, okE s) :
    Calls Tryz.prog 4 #[.slice A n c, .slice A1 n1 c1] w (OkPost w) :=
  ImageReads_calls w hT A n c b h hc (fun x hx => by
    have := hby x hx
    simp [Lit.wf, IntKind.min, IntKind.max, IntKind.signed, IntKind.bits] at this
    omega) A1 n1 c1 ss (kEA_C hS) hc1 (okE_inB hbs)
end Go.Proofs.YtpnjhffnlafabaaGreatDoor.Im
