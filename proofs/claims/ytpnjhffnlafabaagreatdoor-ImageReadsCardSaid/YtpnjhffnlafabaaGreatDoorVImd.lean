/- Decode of package image: the walk. -/
import Derived.Test.YtpnjhffnlafabaaGreatDoorVImr
import Derived.Test.YtpnjhffnlafabaaGreatDoorVHt
namespace Go.Proofs.YtpnjhffnlafabaaGreatDoor.Im
set_option linter.unusedVariables false
set_option linter.unusedSimpArgs false
open Go.Proofs Go.RowKit Go.Proofs.Bk Go.Proofs.Bm Go.Proofs.Sc Go.Proofs.Kf Go.Proofs.YtpnjhffnlafabaaGreatDoorW.PrintWords Go.Proofs.YtpnjhffnlafabaaGreatDoor.Sl Go.Proofs.YtpnjhffnlafabaaGreatDoor.Sn Go.Proofs.YtpnjhffnlafabaaGreatDoor.PImageBack
theorem szS2 : (Tryz.prog.info? 25).map (·.size) = some 2 := by kernel_rfl
theorem oneS2 {A B : Option Addr} {n c m d : Nat} : ∀ v ∈ ([.slice A n c, .slice B m d] : List Value), v.oneCell' = true := by
  intro v hv; simp at hv; rcases hv with rfl | rfl <;> rfl
theorem szA4 : (Tryz.prog.info? 65).map (·.size) = some 4 := by kernel_rfl
theorem oneA4 {a b c d : Int} : ∀ v ∈ ([.int .i64 a, .int .i64 b, .int .i64 c, .int .i64 d] : List Value), v.oneCell' = true := by
  intro v hv; simp at hv; rcases hv with rfl | rfl | rfl | rfl <;> rfl
def DecPost (b : List Int) (w : World) (e : Ending) (w' : World) : Prop :=
  ∃ (A : Option Addr) (c : Nat) (B : Option Addr) (d : Nat) (er : Int) (gs : List SG) (ts : List ST), e = .returned (.tuple #[.agg #[.slice A gs.length c, .slice B ts.length d], .int .i64 er]) ∧ (er, gs, ts) = decodeOf b ∧ Below w.heap.size w w' ∧ gs.length ≤ c ∧ ts.length ≤ d ∧ kG.C w' A gs.length gs ∧ kT.C w' B ts.length ts ∧ (∀ ad, A = some ad → ad.spot = none) ∧ (∀ ad, B = some ad → ad.spot = none)
theorem DecPost.odd {b : List Int} {w w' : World} {er : Int} (h : decodeOf b = (er, [], [])) (hb : Below w.heap.size w w') : DecPost b w (.returned (.tuple #[.agg #[.slice none 0 0, .slice none 0 0], .int .i64 er])) w' :=
  ⟨none, 0, none, 0, er, [], [], rfl, h.symm, hb, Nat.le_refl _, Nat.le_refl _, Kd.C_nil _ _, Kd.C_nil _ _, (fun ad e => by cases e), (fun ad e => by cases e)⟩
set_option maxHeartbeats 8000000 in
set_option maxRecDepth 100000 in
theorem Decode_calls (A : Option Addr) (n c : Nat) (b : List Int) (w : World) (hT : Tab w) (h : U8.C w A n b) (hc : n ≤ c) (hn : n ≤ 140737488355328) (hby : inB b) :
    Calls Tryz.prog 15 #[.slice A n c] w (DecPost b w) := by
  have HE := Aside0.mk h
  have HT := Aside0.mk hT
  clear h hT
  obtain ⟨U, hU⟩ : ∃ U, decodeOf b = U := ⟨_, rfl⟩
  have hU' := hU
  unfold decodeOf at hU'
  have hpk := fun ss => pack_unpack (ss := ss) hby
  replace hby := Aside0.mk hby; replace hU := Aside0.mk hU; replace hU' := Aside0.mk hU'; replace hpk := Aside0.mk hpk
  go_enter Tryz.func15, Tryz.ntmps15
  go_wp2_with (((with_reducible refine gate_dst (N := 2) rfl ?_); refine box_event ?hg (N := 2) ?hd (cs := #[.slice none 0 0, .slice none 0 0]) (t := 25) ?hr ?_; (case hd => rfl); (case hg => rfl); (case hr => first | (go_simp; done) | (go_simp; rfl)); intro b2 hb2 w1 kb2 bb2; replace hb2 := Aside0.mk hb2; replace kb2 := Aside0.mk kb2; replace bb2 := Aside0.mk bb2))
  with_reducible refine (Unpack_calls A n c b w1 (HT.out.step bb2.out) (Kd.C_below HE.out bb2.out) hc hn hby.out).mono ?_
  rintro e w2 ⟨A2, c2, er, ss, rfl, hun, hu2, hc2, hC2⟩
  replace kb2 := Aside0.mk (row_below hu2 kb2.out)
  replace bb2 := Aside0.mk (bb2.out.trans (hu2.mono bb2.out.size))
  clear hu2
  replace hun := Aside0.mk hun; replace hC2 := Aside0.mk hC2
  by_cases her : er = 0
  case neg =>
    have z1 : (er != 0) = true := by simpa using her
    have ht : Aside0 (decodeOf b = (er, [], [])) := ⟨by have := hU'.out; rw [← hun.out, if_pos her] at this; rw [hU.out, ← this]⟩
    clear hun hC2
    go_wp2_with (((with_reducible refine gate_op (.store 25 (.tmp 2) (.tmp 23)) rfl ?_); refine wpList_store_midB rfl _ _ _ rfl b2 0 [.slice none 0 0, .slice none 0 0] rfl rfl 25 [.slice none 0 0, .slice none 0 0] kb2.out szS2 (Nat.le_refl _) oneS2 ?_; obtain ⟨kk, bb⟩ := boxed (cs := [.slice none 0 0, .slice none 0 0]) (cs2 := [.slice none 0 0, .slice none 0 0]) hb2.out kb2.out bb2.out rfl; revert kk bb; generalize World.setRow _ b2 (splice [.slice none 0 0, .slice none 0 0] 0 [.slice none 0 0, .slice none 0 0]).toArray = w3; clear kb2 bb2; intro kb2 bb2; replace kb2 := Aside0.mk kb2; replace bb2 := Aside0.mk bb2))
    refine bodyPost_ret (results_ct rfl _ _ b2 _ _ _ _ rfl kb2.out Tryz.underlying25 rfl ?hi) rfl ?_
    case hi => exact szS2
    exact DecPost.odd ht.out bb2.out
  subst her
  have hU2 := hU'.out
  rw [← hun.out, if_neg (by simp)] at hU2
  obtain ⟨hok, -⟩ := hpk.out ss (by rw [hun.out])
  by_cases h4 : ss.length = 4
  case neg =>
    have z4 : ((ss.length : Int) != 4) = true := by simp; omega
    have hd : decodeL ss = (21, [], []) := by
      match ss, h4 with
      | [], _ => rfl
      | [_], _ => rfl
      | [_, _], _ => rfl
      | [_, _, _], _ => rfl
      | [_, _, _, _], h => exact absurd rfl h
      | _ :: _ :: _ :: _ :: _ :: _, _ => rfl
    have ht : Aside0 (decodeOf b = (21, [], [])) := ⟨by rw [hU.out, ← hU2]; exact hd⟩
    clear hun hC2 hd hU2 hok
    generalize ss.length = N at *
    go_wp2_with (first
      | (((with_reducible refine gate_dst (N := 6) rfl ?_); refine box_event ?hg (N := 6) ?hd (cs := #[.int .i64 0, .int .i64 0, .int .i64 0, .int .i64 0]) (t := 65) ?hr ?_; (case hd => rfl); (case hg => rfl); (case hr => first | (go_simp; done) | (go_simp; rfl)); intro b6 hb6 w3 kb6 bb6; replace hb6 := Aside0.mk hb6; replace kb6 := Aside0.mk kb6; replace bb6 := Aside0.mk bb6))
      | (((with_reducible refine gate_op (.store 65 (.tmp 6) (.tmp 25)) rfl ?_); refine wpList_store_midB rfl _ _ _ rfl b6 0 [.int .i64 9, .int .i64 12, .int .i64 27, .int .i64 8] rfl rfl 65 [.int .i64 0, .int .i64 0, .int .i64 0, .int .i64 0] kb6.out szA4 (Nat.le_refl _) oneA4 ?_; obtain ⟨kk, bb⟩ := boxed (cs := [.int .i64 0, .int .i64 0, .int .i64 0, .int .i64 0]) (cs2 := [.int .i64 9, .int .i64 12, .int .i64 27, .int .i64 8]) hb6.out kb6.out bb6.out rfl; revert kk bb; generalize World.setRow _ b6 (splice [.int .i64 0, .int .i64 0, .int .i64 0, .int .i64 0] 0 [.int .i64 9, .int .i64 12, .int .i64 27, .int .i64 8]).toArray = w4; clear kb6 bb6; intro kb6 bb6; replace kb6 := Aside0.mk kb6; replace bb6 := Aside0.mk bb6); (replace kb2 := Aside0.mk (row_below bb6.out kb2.out)); (replace bb2 := Aside0.mk (bb2.out.trans (bb6.out.mono bb2.out.size))))
      | (((with_reducible refine gate_op (.store 25 (.tmp 2) (.tmp 36)) rfl ?_); refine wpList_store_midB rfl _ _ _ rfl b2 0 [.slice none 0 0, .slice none 0 0] rfl rfl 25 [.slice none 0 0, .slice none 0 0] kb2.out szS2 (Nat.le_refl _) oneS2 ?_; obtain ⟨kk, bb⟩ := boxed (cs := [.slice none 0 0, .slice none 0 0]) (cs2 := [.slice none 0 0, .slice none 0 0]) hb2.out kb2.out bb2.out rfl; revert kk bb; generalize World.setRow _ b2 (splice [.slice none 0 0, .slice none 0 0] 0 [.slice none 0 0, .slice none 0 0]).toArray = w5; clear kb2 bb2; intro kb2 bb2; replace kb2 := Aside0.mk kb2; replace bb2 := Aside0.mk bb2)))
    refine bodyPost_ret (results_ct rfl _ _ b2 _ _ _ _ rfl kb2.out Tryz.underlying25 rfl ?hi) rfl ?_
    case hi => exact szS2
    exact DecPost.odd ht.out bb2.out
  obtain ⟨s0, s1, s2, s3, rfl⟩ : ∃ s0 s1 s2 s3, ss = [s0, s1, s2, s3] := by
    match ss, h4 with
    | [a, b, c, d], _ => exact ⟨a, b, c, d, rfl⟩
  have hb0 := hok.inb s0 (by simp)
  have hb1 := hok.inb s1 (by simp)
  have hb2' := hok.inb s2 (by simp)
  have hb3 := hok.inb s3 (by simp)
  have hm0 := hok.long s0 (by simp)
  have hm1 := hok.long s1 (by simp)
  have hm2 := hok.long s2 (by simp)
  have hm3 := hok.long s3 (by simp)
  clear hok hpk hun h4
  change decodeL [s0, s1, s2, s3] = U at hU2
  have hC4 : kE.C w2 A2 4 [s0, s1, s2, s3] := hC2.out
  obtain ⟨q, o, A0, c0, A1, c1, B2, d2, A3, c3, rfl, hq, ⟨x1, x3, x5, x7, x6⟩, k0, k1, k2, k3⟩ := E_four hC4
  have hF := Aside0.mk (F4.mk x1 x3 x5 x7 x6 k0 k1 k2 k3)
  clear x1 x3 x5 x7 x6 k0 k1 k2 k3 hC4 hC2 hq
  change 4 ≤ c2 at hc2
  rw [show [s0, s1, s2, s3].length = 4 from rfl]
  obtain ⟨kd, hkd⟩ : ∃ kd, s3.f0 = kd := ⟨_, rfl⟩
  have hU3 : (if kd ≠ 4 then (21, [], []) else decodeS s0.f1 s1.f1 s2.f1 s3.f1) = U := by rw [← hkd]; exact hU2
  rw [hkd] at hF
  clear hU2 hkd
  obtain ⟨L0, hL0⟩ : ∃ L, s0.f1 = L := ⟨_, rfl⟩
  obtain ⟨L1, hL1⟩ : ∃ L, s1.f1 = L := ⟨_, rfl⟩
  obtain ⟨L2, hL2⟩ : ∃ L, s2.f1 = L := ⟨_, rfl⟩
  obtain ⟨L3, hL3⟩ : ∃ L, s3.f1 = L := ⟨_, rfl⟩
  rw [hL0, hL1, hL2, hL3] at hF hU3
  rw [hL0] at hb0 hm0
  rw [hL1] at hb1 hm1
  rw [hL2] at hb2' hm2
  rw [hL3] at hb3 hm3
  clear hL0 hL1 hL2 hL3
  have x6 := hF.out.x6
  by_cases h3 : kd = 4
  case neg =>
    have z4 : (kd != 4) = true := by simpa using h3
    have ht : Aside0 (decodeOf b = (21, [], [])) := ⟨by rw [hU.out, ← hU3, if_pos h3]⟩
    clear hU3 hb0 hb1 hb2' hb3 h3
    go_wp2_with (first
      | (((with_reducible refine gate_dst (N := 6) rfl ?_); refine box_event ?hg (N := 6) ?hd (cs := #[.int .i64 0, .int .i64 0, .int .i64 0, .int .i64 0]) (t := 65) ?hr ?_; (case hd => rfl); (case hg => rfl); (case hr => first | (go_simp; done) | (go_simp; rfl)); intro b6 hb6 w3 kb6 bb6; replace hb6 := Aside0.mk hb6; replace kb6 := Aside0.mk kb6; replace bb6 := Aside0.mk bb6))
      | (((with_reducible refine gate_op (.store 65 (.tmp 6) (.tmp 25)) rfl ?_); refine wpList_store_midB rfl _ _ _ rfl b6 0 [.int .i64 9, .int .i64 12, .int .i64 27, .int .i64 8] rfl rfl 65 [.int .i64 0, .int .i64 0, .int .i64 0, .int .i64 0] kb6.out szA4 (Nat.le_refl _) oneA4 ?_; obtain ⟨kk, bb⟩ := boxed (cs := [.int .i64 0, .int .i64 0, .int .i64 0, .int .i64 0]) (cs2 := [.int .i64 9, .int .i64 12, .int .i64 27, .int .i64 8]) hb6.out kb6.out bb6.out rfl; revert kk bb; generalize World.setRow _ b6 (splice [.int .i64 0, .int .i64 0, .int .i64 0, .int .i64 0] 0 [.int .i64 9, .int .i64 12, .int .i64 27, .int .i64 8]).toArray = w4; clear kb6 bb6; intro kb6 bb6; replace kb6 := Aside0.mk kb6; replace bb6 := Aside0.mk bb6); (replace kb2 := Aside0.mk (row_below bb6.out kb2.out)); (replace bb2 := Aside0.mk (bb2.out.trans (bb6.out.mono bb2.out.size))); (replace x6 := pw_cell_below bb6.out x6))
      | (((with_reducible refine gate_op (.store 25 (.tmp 2) (.tmp 36)) rfl ?_); refine wpList_store_midB rfl _ _ _ rfl b2 0 [.slice none 0 0, .slice none 0 0] rfl rfl 25 [.slice none 0 0, .slice none 0 0] kb2.out szS2 (Nat.le_refl _) oneS2 ?_; obtain ⟨kk, bb⟩ := boxed (cs := [.slice none 0 0, .slice none 0 0]) (cs2 := [.slice none 0 0, .slice none 0 0]) hb2.out kb2.out bb2.out rfl; revert kk bb; generalize World.setRow _ b2 (splice [.slice none 0 0, .slice none 0 0] 0 [.slice none 0 0, .slice none 0 0]).toArray = w5; clear kb2 bb2; intro kb2 bb2; replace kb2 := Aside0.mk kb2; replace bb2 := Aside0.mk bb2)))
    refine bodyPost_ret (results_ct rfl _ _ b2 _ _ _ _ rfl kb2.out Tryz.underlying25 rfl ?hi) rfl ?_
    case hi => exact szS2
    exact DecPost.odd ht.out bb2.out
  subst h3
  rw [if_neg (by simp)] at hU3
  obtain ⟨G, hG⟩ : ∃ G, L0.length / 9 = G := ⟨_, rfl⟩
  obtain ⟨T, hTn⟩ : ∃ T, L2.length / 27 = T := ⟨_, rfl⟩
  have hGi : ((L0.length : Nat) : Int).tdiv 9 = (G : Int) := by rw [Int.tdiv_eq_ediv_of_nonneg (by omega)]; omega
  have hTi : ((L2.length : Nat) : Int).tdiv 27 = (T : Int) := by rw [Int.tdiv_eq_ediv_of_nonneg (by omega)]; omega
  have hG1 : G ≤ 7281 := by omega
  have hT1 : T ≤ 2427 := by omega
  replace hU3 := Aside0.mk hU3; replace hb0 := Aside0.mk hb0; replace hb1 := Aside0.mk hb1; replace hb2' := Aside0.mk hb2'; replace hb3 := Aside0.mk hb3; replace hG := Aside0.mk hG; replace hTn := Aside0.mk hTn; replace hm0 := Aside0.mk hm0; replace hm1 := Aside0.mk hm1; replace hm2 := Aside0.mk hm2; replace hm3 := Aside0.mk hm3
  go_wp2_with (first
    | (((with_reducible refine gate_dst (N := 6) rfl ?_); refine box_event ?hg (N := 6) ?hd (cs := #[.int .i64 0, .int .i64 0, .int .i64 0, .int .i64 0]) (t := 65) ?hr ?_; (case hd => rfl); (case hg => rfl); (case hr => first | (go_simp; done) | (go_simp; rfl)); intro b6 hb6 w3 kb6 bb6; replace hb6 := Aside0.mk hb6; replace kb6 := Aside0.mk kb6; replace bb6 := Aside0.mk bb6))
    | (((with_reducible refine gate_op (.store 65 (.tmp 6) (.tmp 25)) rfl ?_); refine wpList_store_midB rfl _ _ _ rfl b6 0 [.int .i64 9, .int .i64 12, .int .i64 27, .int .i64 8] rfl rfl 65 [.int .i64 0, .int .i64 0, .int .i64 0, .int .i64 0] kb6.out szA4 (Nat.le_refl _) oneA4 ?_; obtain ⟨kk, bb⟩ := boxed (cs := [.int .i64 0, .int .i64 0, .int .i64 0, .int .i64 0]) (cs2 := [.int .i64 9, .int .i64 12, .int .i64 27, .int .i64 8]) hb6.out kb6.out bb6.out rfl; revert kk bb; generalize World.setRow _ b6 (splice [.int .i64 0, .int .i64 0, .int .i64 0, .int .i64 0] 0 [.int .i64 9, .int .i64 12, .int .i64 27, .int .i64 8]).toArray = w4; clear kb6 bb6; intro kb6 bb6; replace kb6 := Aside0.mk kb6; replace bb6 := Aside0.mk bb6); (replace kb2 := Aside0.mk (row_below bb6.out kb2.out)); (replace bb2 := Aside0.mk (bb2.out.trans (bb6.out.mono bb2.out.size))); (replace x6 := pw_cell_below bb6.out x6))
    | (((with_reducible refine gate_dst (N := 7) rfl ?_); refine box_event ?hg (N := 7) ?hd (cs := #[.pointer none, .pointer none, .pointer none, .pointer none]) (t := 67) ?hr ?_; (case hd => rfl); (case hg => rfl); (case hr => first | (go_simp; done) | (go_simp; rfl)); intro b7 hb7 w5 kb7 bb7; replace hb7 := Aside0.mk hb7; replace kb7 := Aside0.mk kb7; replace bb7 := Aside0.mk bb7)))
  have x1 := hF.out.x1
  have x5 := hF.out.x5
  have hB25 := Aside0.mk (bb6.out.trans (bb7.out.mono bb6.out.size))
  have kb2s := kb2
  have bb2s := bb2
  have kb6s := kb6
  replace kb2 := Aside0.mk (row_below bb7.out kb2.out)
  replace bb2 := Aside0.mk (bb2.out.trans (bb7.out.mono bb2.out.size))
  replace kb6 := Aside0.mk (row_below bb7.out kb6.out)
  replace x1 := pw_cell_below hB25.out x1
  replace x5 := pw_cell_below hB25.out x5
  have hwG : IntKind.i64.wrap (G : Int) = (G : Int) := by rw [IntKind.wrap_i64]; omega
  have hwT : IntKind.i64.wrap (T : Int) = (T : Int) := by rw [IntKind.wrap_i64]; omega
  go_quiet (fail)
  obtain ⟨wB, hwB⟩ : ∃ W, w5.drewN nq = W := ⟨_, rfl⟩
  have hBB : Below w5.heap.size w5 wB := by rw [← hwB]; exact KeepF.to_below ((KeepF.refl (fun _ => False) w5).drewN nq) (Nat.le_refl _) (fun _ h => h.elim)
  rw [hwB]
  clear hwB
  replace kb2 := Aside0.mk (row_below hBB kb2.out)
  replace kb6 := Aside0.mk (row_below hBB kb6.out)
  replace kb7 := Aside0.mk (row_below hBB kb7.out)
  replace bb2 := Aside0.mk (bb2.out.trans (hBB.mono bb2.out.size))
  have hB2B := Aside0.mk (hB25.out.trans (hBB.mono hB25.out.size))
  have h7lt := lt_row kb7.out
  have h7 : w2.heap.size ≤ b7 ∧ b2 < b7 ∧ b6 < b7 ∧ w.heap.size ≤ b7 := by
    have e1 := hb7.out
    have e2 := hb6.out
    have e3 := lt_row kb2s.out
    have e4 := bb6.out.size
    have e5 := lt_row kb6s.out
    have e6 := bb2s.out.size
    omega
  obtain ⟨h72, h7a, h7b, h7w⟩ := h7
  clear hB25 hBB x1 x5
  go_wp2_with fail
  go_loopw [54] (fun iv wr => ∃ z : Int, iv = .int .i64 z ∧ Aside0 (RL wB b7 L0 L1 L2 L3 G T z wr)) (fun iv _ => 4 - (intOf iv).toNat)
  case atStart => exact ⟨0, rfl, ⟨RL.start kb7.out⟩⟩
  case round =>
    obtain ⟨z, rfl, hRL⟩ := hrel
    have hkb := hRL.out.keep
    have r2 := Aside0.mk ((hkb.block b2 (lt_row kb2.out) (fun e => by have e : b2 = b7 := e; omega)).trans kb2.out)
    have r6 := Aside0.mk ((hkb.block b6 (lt_row kb6.out) (fun e => by have e : b6 = b7 := e; omega)).trans kb6.out)
    have hBr := Aside0.mk (hB2B.out.trans (KeepF.to_below hkb hB2B.out.size (fun i e => by have e : i = b7 := e; omega)))
    have hWr := Aside0.mk (bb2.out.trans (KeepF.to_below hkb bb2.out.size (fun i e => by have e : i = b7 := e; omega)))
    have fR := Aside0.mk (hF.out.below hBr.out)
    clear hkb
    rcases hRL.out.range with rfl | rfl | rfl | rfl | rfl
    · have xj := fR.out.x1
      have rj := (Kf.cell_row r6.out 0).trans (rfl : _ = some (Value.int .i64 9))
      have ij : ∀ w : World, (Instr.index 65 (.agg #[.int .i64 G, .int .i64 G, .int .i64 T, .int .i64 T]) (.int .i64 0)).run Tryz.prog w = .ok (.int .i64 G) w := fun _ => by kernel_rfl
      by_cases hl : L0.length = 9 * G
      case neg =>
        have z1 : (((L0.length : Nat) : Int) != (G : Int) * 9) = true := by simp; omega
        have ht : Aside0 (decodeOf b = (5, [], [])) := ⟨by rw [hU.out, ← hU3.out]; unfold decodeS; rw [if_pos (by have h1 := hG.out; have h2 := hTn.out; rw [h1, h2]; omega)]⟩
        clear hl
        go_wp2_with fail
        go_quiet (fail)
        have hd : KeepF (fun _ => False) wr (wr.drewN nq) := (KeepF.refl _ wr).drewN nq
        generalize wr.drewN nq = wq at hd ⊢
        replace kb2 := Aside0.mk ((hd.block b2 (lt_row r2.out) id).trans r2.out)
        replace bb2 := Aside0.mk (hWr.out.trans (KeepF.to_below hd hWr.out.size (fun _ h => h.elim)))
        go_wp2_with (((with_reducible refine gate_op (.store 25 (.tmp 2) (.tmp 70)) rfl ?_); refine wpList_store_midB rfl _ _ _ rfl b2 0 [.slice none 0 0, .slice none 0 0] rfl rfl 25 [.slice none 0 0, .slice none 0 0] kb2.out szS2 (Nat.le_refl _) oneS2 ?_; obtain ⟨kk, bb⟩ := boxed (cs := [.slice none 0 0, .slice none 0 0]) (cs2 := [.slice none 0 0, .slice none 0 0]) hb2.out kb2.out bb2.out rfl; revert kk bb; generalize World.setRow _ b2 (splice [.slice none 0 0, .slice none 0 0] 0 [.slice none 0 0, .slice none 0 0]).toArray = w6; clear kb2 bb2; intro kb2 bb2; replace kb2 := Aside0.mk kb2; replace bb2 := Aside0.mk bb2))
        refine bodyPost_ret (results_ct rfl _ _ b2 _ _ _ _ rfl kb2.out Tryz.underlying25 rfl ?hi) rfl ?_
        case hi => exact szS2
        exact DecPost.odd ht.out bb2.out
      have z1 : (((L0.length : Nat) : Int) != (G : Int) * 9) = false := by simp; omega
      replace hl := Aside0.mk hl
      go_wp2_with fail
      go_quiet (fail)
      have hd : Below wr.heap.size wr (wr.drewN nq) := KeepF.to_below ((KeepF.refl (fun _ => False) wr).drewN nq) (Nat.le_refl _) (fun _ h => h.elim)
      generalize wr.drewN nq = wq at hd ⊢
      have fQ := Aside0.mk (fR.out.below hd)
      replace xj := fQ.out.x1
      replace hd := Aside0.mk hd
      clear rj z1 ij
      go_wp2_with (first
        | (go_at_call 28; (with_reducible refine (NewR_calls A0 L0.length c0 L0 wq fQ.out.k0 (by have := hm0.out; omega)).mono ?_); rintro e wn ⟨rn, gn, rfl, i1, i2, i3, -⟩; (have hbn := hd.out.trans (i3.mono hd.out.size)); (have hrn := Nat.le_trans hd.out.size i2); (obtain ⟨csn, hcs, hcz⟩ := hRL.out.row); (have hcs2 := row_below hbn hcs); (have hpush := hRL.out.push h7lt (j := 0) rfl (by decide) rfl i1 hrn hbn hl.out); replace i1 := Aside0.mk i1; replace i3 := Aside0.mk i3; replace hbn := Aside0.mk hbn; replace hpush := Aside0.mk hpush; replace hcs2 := Aside0.mk hcs2; clear hcs)
        | ((with_reducible refine gate_op (.store 66 (.tmp 78) (.tmp 77)) rfl ?_); go_must (refine storeCell_event rfl _ _ _ rfl ⟨b7, 0, none⟩ (.pointer (some ⟨rn, 0, none⟩)) csn[0] rfl rfl rfl ((Kf.cell_row hcs2.out 0).trans (Array.getElem?_eq_getElem _)) (frozen_row hcs2.out 0) szR1 rfl rfl ?_); generalize World.setCell wn _ _ = wz at hpush ⊢))
      go_roundw
      case rel => exact ⟨1, rfl, hpush⟩
      case measure => show 4 - (1 : Int).toNat < 4 - (0 : Int).toNat; decide
    · have xj := fR.out.x3
      have rj := (Kf.cell_row r6.out 1).trans (rfl : _ = some (Value.int .i64 12))
      have ij : ∀ w : World, (Instr.index 65 (.agg #[.int .i64 G, .int .i64 G, .int .i64 T, .int .i64 T]) (.int .i64 1)).run Tryz.prog w = .ok (.int .i64 G) w := fun _ => by kernel_rfl
      by_cases hl : L1.length = 12 * G
      case neg =>
        have z1 : (((L1.length : Nat) : Int) != (G : Int) * 12) = true := by simp; omega
        have ht : Aside0 (decodeOf b = (5, [], [])) := ⟨by rw [hU.out, ← hU3.out]; unfold decodeS; rw [if_pos (by have h1 := hG.out; have h2 := hTn.out; rw [h1, h2]; omega)]⟩
        clear hl
        go_wp2_with fail
        go_quiet (fail)
        have hd : KeepF (fun _ => False) wr (wr.drewN nq) := (KeepF.refl _ wr).drewN nq
        generalize wr.drewN nq = wq at hd ⊢
        replace kb2 := Aside0.mk ((hd.block b2 (lt_row r2.out) id).trans r2.out)
        replace bb2 := Aside0.mk (hWr.out.trans (KeepF.to_below hd hWr.out.size (fun _ h => h.elim)))
        go_wp2_with (((with_reducible refine gate_op (.store 25 (.tmp 2) (.tmp 70)) rfl ?_); refine wpList_store_midB rfl _ _ _ rfl b2 0 [.slice none 0 0, .slice none 0 0] rfl rfl 25 [.slice none 0 0, .slice none 0 0] kb2.out szS2 (Nat.le_refl _) oneS2 ?_; obtain ⟨kk, bb⟩ := boxed (cs := [.slice none 0 0, .slice none 0 0]) (cs2 := [.slice none 0 0, .slice none 0 0]) hb2.out kb2.out bb2.out rfl; revert kk bb; generalize World.setRow _ b2 (splice [.slice none 0 0, .slice none 0 0] 0 [.slice none 0 0, .slice none 0 0]).toArray = w6; clear kb2 bb2; intro kb2 bb2; replace kb2 := Aside0.mk kb2; replace bb2 := Aside0.mk bb2))
        refine bodyPost_ret (results_ct rfl _ _ b2 _ _ _ _ rfl kb2.out Tryz.underlying25 rfl ?hi) rfl ?_
        case hi => exact szS2
        exact DecPost.odd ht.out bb2.out
      have z1 : (((L1.length : Nat) : Int) != (G : Int) * 12) = false := by simp; omega
      replace hl := Aside0.mk hl
      go_wp2_with fail
      go_quiet (fail)
      have hd : Below wr.heap.size wr (wr.drewN nq) := KeepF.to_below ((KeepF.refl (fun _ => False) wr).drewN nq) (Nat.le_refl _) (fun _ h => h.elim)
      generalize wr.drewN nq = wq at hd ⊢
      have fQ := Aside0.mk (fR.out.below hd)
      replace xj := fQ.out.x3
      replace hd := Aside0.mk hd
      clear rj z1 ij
      go_wp2_with (first
        | (go_at_call 28; (with_reducible refine (NewR_calls A1 L1.length c1 L1 wq fQ.out.k1 (by have := hm1.out; omega)).mono ?_); rintro e wn ⟨rn, gn, rfl, i1, i2, i3, -⟩; (have hbn := hd.out.trans (i3.mono hd.out.size)); (have hrn := Nat.le_trans hd.out.size i2); (obtain ⟨csn, hcs, hcz⟩ := hRL.out.row); (have hcs2 := row_below hbn hcs); (have hpush := hRL.out.push h7lt (j := 1) rfl (by decide) rfl i1 hrn hbn hl.out); replace i1 := Aside0.mk i1; replace i3 := Aside0.mk i3; replace hbn := Aside0.mk hbn; replace hpush := Aside0.mk hpush; replace hcs2 := Aside0.mk hcs2; clear hcs)
        | ((with_reducible refine gate_op (.store 66 (.tmp 78) (.tmp 77)) rfl ?_); go_must (refine storeCell_event rfl _ _ _ rfl ⟨b7, 1, none⟩ (.pointer (some ⟨rn, 0, none⟩)) csn[1] rfl rfl rfl ((Kf.cell_row hcs2.out 1).trans (Array.getElem?_eq_getElem _)) (frozen_row hcs2.out 1) szR1 rfl rfl ?_); generalize World.setCell wn _ _ = wz at hpush ⊢))
      go_roundw
      case rel => exact ⟨2, rfl, hpush⟩
      case measure => show 4 - (2 : Int).toNat < 4 - (1 : Int).toNat; decide
    · have xj := fR.out.x5
      have rj := (Kf.cell_row r6.out 2).trans (rfl : _ = some (Value.int .i64 27))
      have ij : ∀ w : World, (Instr.index 65 (.agg #[.int .i64 G, .int .i64 G, .int .i64 T, .int .i64 T]) (.int .i64 2)).run Tryz.prog w = .ok (.int .i64 T) w := fun _ => by kernel_rfl
      by_cases hl : L2.length = 27 * T
      case neg =>
        have z1 : (((L2.length : Nat) : Int) != (T : Int) * 27) = true := by simp; omega
        have ht : Aside0 (decodeOf b = (5, [], [])) := ⟨by rw [hU.out, ← hU3.out]; unfold decodeS; rw [if_pos (by have h1 := hG.out; have h2 := hTn.out; rw [h1, h2]; omega)]⟩
        clear hl
        go_wp2_with fail
        go_quiet (fail)
        have hd : KeepF (fun _ => False) wr (wr.drewN nq) := (KeepF.refl _ wr).drewN nq
        generalize wr.drewN nq = wq at hd ⊢
        replace kb2 := Aside0.mk ((hd.block b2 (lt_row r2.out) id).trans r2.out)
        replace bb2 := Aside0.mk (hWr.out.trans (KeepF.to_below hd hWr.out.size (fun _ h => h.elim)))
        go_wp2_with (((with_reducible refine gate_op (.store 25 (.tmp 2) (.tmp 70)) rfl ?_); refine wpList_store_midB rfl _ _ _ rfl b2 0 [.slice none 0 0, .slice none 0 0] rfl rfl 25 [.slice none 0 0, .slice none 0 0] kb2.out szS2 (Nat.le_refl _) oneS2 ?_; obtain ⟨kk, bb⟩ := boxed (cs := [.slice none 0 0, .slice none 0 0]) (cs2 := [.slice none 0 0, .slice none 0 0]) hb2.out kb2.out bb2.out rfl; revert kk bb; generalize World.setRow _ b2 (splice [.slice none 0 0, .slice none 0 0] 0 [.slice none 0 0, .slice none 0 0]).toArray = w6; clear kb2 bb2; intro kb2 bb2; replace kb2 := Aside0.mk kb2; replace bb2 := Aside0.mk bb2))
        refine bodyPost_ret (results_ct rfl _ _ b2 _ _ _ _ rfl kb2.out Tryz.underlying25 rfl ?hi) rfl ?_
        case hi => exact szS2
        exact DecPost.odd ht.out bb2.out
      have z1 : (((L2.length : Nat) : Int) != (T : Int) * 27) = false := by simp; omega
      replace hl := Aside0.mk hl
      go_wp2_with fail
      go_quiet (fail)
      have hd : Below wr.heap.size wr (wr.drewN nq) := KeepF.to_below ((KeepF.refl (fun _ => False) wr).drewN nq) (Nat.le_refl _) (fun _ h => h.elim)
      generalize wr.drewN nq = wq at hd ⊢
      have fQ := Aside0.mk (fR.out.below hd)
      replace xj := fQ.out.x5
      replace hd := Aside0.mk hd
      clear rj z1 ij
      go_wp2_with (first
        | (go_at_call 28; (with_reducible refine (NewR_calls B2 L2.length d2 L2 wq fQ.out.k2 (by have := hm2.out; omega)).mono ?_); rintro e wn ⟨rn, gn, rfl, i1, i2, i3, -⟩; (have hbn := hd.out.trans (i3.mono hd.out.size)); (have hrn := Nat.le_trans hd.out.size i2); (obtain ⟨csn, hcs, hcz⟩ := hRL.out.row); (have hcs2 := row_below hbn hcs); (have hpush := hRL.out.push h7lt (j := 2) rfl (by decide) rfl i1 hrn hbn hl.out); replace i1 := Aside0.mk i1; replace i3 := Aside0.mk i3; replace hbn := Aside0.mk hbn; replace hpush := Aside0.mk hpush; replace hcs2 := Aside0.mk hcs2; clear hcs)
        | ((with_reducible refine gate_op (.store 66 (.tmp 78) (.tmp 77)) rfl ?_); go_must (refine storeCell_event rfl _ _ _ rfl ⟨b7, 2, none⟩ (.pointer (some ⟨rn, 0, none⟩)) csn[2] rfl rfl rfl ((Kf.cell_row hcs2.out 2).trans (Array.getElem?_eq_getElem _)) (frozen_row hcs2.out 2) szR1 rfl rfl ?_); generalize World.setCell wn _ _ = wz at hpush ⊢))
      go_roundw
      case rel => exact ⟨3, rfl, hpush⟩
      case measure => show 4 - (3 : Int).toNat < 4 - (2 : Int).toNat; decide
    · have xj := fR.out.x7
      have rj := (Kf.cell_row r6.out 3).trans (rfl : _ = some (Value.int .i64 8))
      have ij : ∀ w : World, (Instr.index 65 (.agg #[.int .i64 G, .int .i64 G, .int .i64 T, .int .i64 T]) (.int .i64 3)).run Tryz.prog w = .ok (.int .i64 T) w := fun _ => by kernel_rfl
      by_cases hl : L3.length = 8 * T
      case neg =>
        have z1 : (((L3.length : Nat) : Int) != (T : Int) * 8) = true := by simp; omega
        have ht : Aside0 (decodeOf b = (5, [], [])) := ⟨by rw [hU.out, ← hU3.out]; unfold decodeS; rw [if_pos (by have h1 := hG.out; have h2 := hTn.out; rw [h1, h2]; omega)]⟩
        clear hl
        go_wp2_with fail
        go_quiet (fail)
        have hd : KeepF (fun _ => False) wr (wr.drewN nq) := (KeepF.refl _ wr).drewN nq
        generalize wr.drewN nq = wq at hd ⊢
        replace kb2 := Aside0.mk ((hd.block b2 (lt_row r2.out) id).trans r2.out)
        replace bb2 := Aside0.mk (hWr.out.trans (KeepF.to_below hd hWr.out.size (fun _ h => h.elim)))
        go_wp2_with (((with_reducible refine gate_op (.store 25 (.tmp 2) (.tmp 70)) rfl ?_); refine wpList_store_midB rfl _ _ _ rfl b2 0 [.slice none 0 0, .slice none 0 0] rfl rfl 25 [.slice none 0 0, .slice none 0 0] kb2.out szS2 (Nat.le_refl _) oneS2 ?_; obtain ⟨kk, bb⟩ := boxed (cs := [.slice none 0 0, .slice none 0 0]) (cs2 := [.slice none 0 0, .slice none 0 0]) hb2.out kb2.out bb2.out rfl; revert kk bb; generalize World.setRow _ b2 (splice [.slice none 0 0, .slice none 0 0] 0 [.slice none 0 0, .slice none 0 0]).toArray = w6; clear kb2 bb2; intro kb2 bb2; replace kb2 := Aside0.mk kb2; replace bb2 := Aside0.mk bb2))
        refine bodyPost_ret (results_ct rfl _ _ b2 _ _ _ _ rfl kb2.out Tryz.underlying25 rfl ?hi) rfl ?_
        case hi => exact szS2
        exact DecPost.odd ht.out bb2.out
      have z1 : (((L3.length : Nat) : Int) != (T : Int) * 8) = false := by simp; omega
      replace hl := Aside0.mk hl
      go_wp2_with fail
      go_quiet (fail)
      have hd : Below wr.heap.size wr (wr.drewN nq) := KeepF.to_below ((KeepF.refl (fun _ => False) wr).drewN nq) (Nat.le_refl _) (fun _ h => h.elim)
      generalize wr.drewN nq = wq at hd ⊢
      have fQ := Aside0.mk (fR.out.below hd)
      replace xj := fQ.out.x7
      replace hd := Aside0.mk hd
      clear rj z1 ij
      go_wp2_with (first
        | (go_at_call 28; (with_reducible refine (NewR_calls A3 L3.length c3 L3 wq fQ.out.k3 (by have := hm3.out; omega)).mono ?_); rintro e wn ⟨rn, gn, rfl, i1, i2, i3, -⟩; (have hbn := hd.out.trans (i3.mono hd.out.size)); (have hrn := Nat.le_trans hd.out.size i2); (obtain ⟨csn, hcs, hcz⟩ := hRL.out.row); (have hcs2 := row_below hbn hcs); (have hpush := hRL.out.push h7lt (j := 3) rfl (by decide) rfl i1 hrn hbn hl.out); replace i1 := Aside0.mk i1; replace i3 := Aside0.mk i3; replace hbn := Aside0.mk hbn; replace hpush := Aside0.mk hpush; replace hcs2 := Aside0.mk hcs2; clear hcs)
        | ((with_reducible refine gate_op (.store 66 (.tmp 78) (.tmp 77)) rfl ?_); go_must (refine storeCell_event rfl _ _ _ rfl ⟨b7, 3, none⟩ (.pointer (some ⟨rn, 0, none⟩)) csn[3] rfl rfl rfl ((Kf.cell_row hcs2.out 3).trans (Array.getElem?_eq_getElem _)) (frozen_row hcs2.out 3) szR1 rfl rfl ?_); generalize World.setCell wn _ _ = wz at hpush ⊢))
      go_roundw
      case rel => exact ⟨4, rfl, hpush⟩
      case measure => show 4 - (4 : Int).toNat < 4 - (3 : Int).toNat; decide
    · obtain ⟨wx, rfl⟩ : ∃ W, W = wr := ⟨_, rfl⟩
      obtain ⟨⟨l0, l1, l2, l3⟩, r0, r1, r2', r3, g0, g1, g2, g3, kr7, ⟨i0, i1, i2, i3⟩, ⟨lo0, lo1, lo2, lo3⟩, n01, n02, n03, n12, n13, n23⟩ := hRL.out.done
      have q0 := i0.lt
      have q1 := i1.lt
      have q2 := i2.lt
      have q3 := i3.lt
      have s0' := i0.glt
      have s1' := i1.glt
      have s2' := i2.glt
      have s3' := i3.glt
      have q7 := lt_row kr7
      have q2b := lt_row r2.out
      have hdS : Aside0 (decodeOf b = if flagsOk L2 T = false then (5, [], []) else if checkOf ((groupsR L0 L1 G).map gOf) ((tasksR L2 L3 T).map tOf) ≠ 0 then (checkOf ((groupsR L0 L1 G).map gOf) ((tasksR L2 L3 T).map tOf), [], []) else (0, groupsR L0 L1 G, tasksR L2 L3 T)) := ⟨by
        rw [hU.out, ← hU3.out]; unfold decodeS; rw [hG.out, hTn.out, if_neg (by omega)]⟩
      have n7 : b7 ≠ r0 ∧ b7 ≠ r1 ∧ b7 ≠ r2' ∧ b7 ≠ r3 := by omega
      obtain ⟨n70, n71, n72, n73⟩ := n7
      replace l0 := Aside0.mk l0; replace l1 := Aside0.mk l1; replace l2 := Aside0.mk l2; replace l3 := Aside0.mk l3; replace kr7 := Aside0.mk kr7; replace i0 := Aside0.mk i0; replace i1 := Aside0.mk i1; replace i2 := Aside0.mk i2; replace i3 := Aside0.mk i3; replace s0' := Aside0.mk s0'; replace s1' := Aside0.mk s1'; replace s2' := Aside0.mk s2'; replace s3' := Aside0.mk s3'
      clear hU3 hG hTn
      go_wp2_with (((with_reducible refine gate_dst (N := 12) rfl ?_); refine box_event ?hg (N := 12) ?hd (cs := #[.slice none 0 0, .slice none 0 0]) (t := 25) ?hr ?_; (case hd => rfl); (case hg => rfl); (case hr => first | (go_simp; done) | (go_simp; rfl)); intro b12 hb12 w12 kb12 bb12; replace hb12 := Aside0.mk hb12; replace kb12 := Aside0.mk kb12; replace bb12 := Aside0.mk bb12))
      have hRI0 : Aside0 (RI wx.heap.size wx w12 b12 r0 r1 g0 g1 L0 L1 none 0 [] none 0 []) := ⟨⟨(Sn.Bld.start (w0 := w12) (Below.refl _ _) (by rw [hb12.out]; exact Nat.le_refl _) kb12.out).rebase, i0.out.keep (F := fun _ => False) (KeepF.of_below bb12.out) id (fun _ => id), i1.out.keep (F := fun _ => False) (KeepF.of_below bb12.out) id (fun _ => id), KeepF.of_below bb12.out⟩⟩
      clear kb12 bb12
      go_loopw [81] (fun iv wg => ∃ (k : Nat) (Ag : Option Addr) (cg : Nat), iv = .int .i64 k ∧ k ≤ G ∧ Aside0 (RI wx.heap.size wx wg b12 r0 r1 g0 g1 (L0.drop (9 * k)) (L1.drop (12 * k)) Ag cg (groupsR L0 L1 k) none 0 [])) (fun iv _ => G - (intOf iv).toNat)
      case atStart => exact ⟨0, none, 0, rfl, Nat.zero_le _, hRI0⟩
      case round =>
        obtain ⟨k, Ag, cg, rfl, hk, hI⟩ := hrel
        by_cases hlt : k < G
        · have p1 : 0 ≤ (k : Int) := by omega
          have q1' : (k : Int) < (G : Int) := by omega
          have hn1 := groupsR_length L0 L1 k
          have hId := Aside0.mk hI.out.drew
          have e7 := hId.out.row kr7.out q7 n70 n71
          have d0d := hId.out.bld.cellG
          rw [hn1] at d0d
          have s0 : wr.drew.cell? ⟨b12, 0, none⟩ = some (.slice Ag k cg) ∧ wr.drew.cell? ⟨b7, 0, none⟩ = some (.pointer (some ⟨r0, 0, none⟩)) ∧ wr.drew.cell? ⟨b7, 1, none⟩ = some (.pointer (some ⟨r1, 0, none⟩)) := ⟨d0d, (Kf.cell_row e7 0).trans rfl, (Kf.cell_row e7 1).trans rfl⟩
          have m0 : 9 ≤ (L0.drop (9 * k)).length := by rw [List.length_drop]; have := l0.out; omega
          have m1 : 12 ≤ (L1.drop (12 * k)).length := by rw [List.length_drop]; have := l1.out; omega
          have hg0 : g0 < wx.heap.size := s0'.out (by have := l0.out; omega)
          have hg1 : g1 < wx.heap.size := s1'.out (by have := l1.out; omega)
          have kg := group_calls r0 g0 r1 g1 (L0.drop (9 * k)) (L1.drop (12 * k)) wr.drew hId.out.i0 hId.out.i1 n01 (hId.out.i0.cross hId.out.i1 (by omega)) (hId.out.i1.cross hId.out.i0 (by omega)) (inB_drop hb0.out _) (inB_drop hb1.out _) m0 m1
          simp only [List.drop_drop] at kg
          rw [show 9 * k + 9 = 9 * (k + 1) by omega, show 12 * k + 12 = 12 * (k + 1) by omega] at kg
          have hsucc := groupsR_succ L0 L1 k
          obtain ⟨xg, hxg⟩ : ∃ x, groupR (L0.drop (9 * k)) (L1.drop (12 * k)) = x := ⟨_, rfl⟩
          rw [hxg] at kg hsucc
          have hl8 : ((groupsR L0 L1 k).length + 1) * 48 ≤ 140737488355328 := by rw [hn1]; omega
          obtain ⟨n2, hn2⟩ : ∃ n, (groupsR L0 L1 k ++ [xg]).length = n := ⟨_, rfl⟩
          replace hn1 := Aside0.mk hn1; replace e7 := Aside0.mk e7; replace kg := Aside0.mk kg; replace hsucc := Aside0.mk hsucc; replace hxg := Aside0.mk hxg; replace hl8 := Aside0.mk hl8; replace hn2 := Aside0.mk hn2; replace m0 := Aside0.mk m0; replace m1 := Aside0.mk m1
          clear d0d
          go_wp2_with fail
          (refine Ht.begin2 8 (fun w' => w'.cell? ⟨b12, 0, none⟩ = some (.slice Ag k cg) ∧ w'.cell? ⟨b7, 0, none⟩ = some (.pointer (some ⟨r0, 0, none⟩)) ∧ w'.cell? ⟨b7, 1, none⟩ = some (.pointer (some ⟨r1, 0, none⟩))) (by kernel_rfl) (by kernel_rfl) s0 ?_; intro hSnow; (try dsimp only at hSnow); simp only [List.take_succ_cons, List.take_zero, List.drop_succ_cons, List.drop_zero]; repeat (refine Ht.Hx.take (v := ?_) (by kernel_rfl) (by kernel_rfl) (fun _ _ _ h => h) (by with_reducible exact hSnow) (Or.inl ⟨by rfl, fun w hSw => ?_⟩) ?_; rotate_left; focus ((try dsimp only at hSw); go_simp; (try with_reducible rfl); done)); (try simp only [Act.put, List.setIfInBounds_toArray, List.set_cons_zero, List.set_cons_succ]))
          (refine Ht.Hx.effect (by kernel_rfl) ?_; go_wp2_with ((go_at_call 29; (with_reducible refine kg.out.mono ?_); rintro e w10 ⟨rfl, j0, j1, hk10⟩; have hB10 := Aside0.mk (hId.out.moved hk10 q0 q1); have e710 := (hk10.block b7 (lt_row e7.out) (fun e => by rcases e with e | e <;> omega)).trans e7.out; have d010 := hB10.out.cellG; rw [hn1.out] at d010; have s10 : w10.cell? ⟨b12, 0, none⟩ = some (.slice Ag k cg) ∧ w10.cell? ⟨b7, 0, none⟩ = some (.pointer (some ⟨r0, 0, none⟩)) ∧ w10.cell? ⟨b7, 1, none⟩ = some (.pointer (some ⟨r1, 0, none⟩)) := ⟨d010, (Kf.cell_row e710 0).trans rfl, (Kf.cell_row e710 1).trans rfl⟩; have ba := below_alloc (Below.refl w10.heap.size w10) (.cells #[.int .i64 xg.f0, .int .i64 xg.f1, .int .i64 xg.f2, .int .i64 xg.f3.f0, .int .i64 xg.f3.f1, .int .i64 xg.f3.f2] 50); have s10a := (⟨pw_cell_below ba s10.1, pw_cell_below ba s10.2.1, pw_cell_below ba s10.2.2⟩ : _ ∧ _ ∧ _); have hR10 : kG.R 50 w10 wx.heap.size (fun _ => True) (.slice Ag k cg) (groupsR L0 L1 k) := (by have := hB10.out.rg; rwa [hn1.out] at this); replace hR10 := Aside0.mk hR10; clear ba d010 e710; replace j0 := Aside0.mk j0; replace j1 := Aside0.mk j1; replace hk10 := Aside0.mk hk10)); refine ⟨s10, ?_⟩; clear hSnow; (have hSnow := s10); repeat (refine Ht.Hx.take (v := ?_) (by kernel_rfl) (by kernel_rfl) (fun _ _ _ h => h) (by with_reducible exact hSnow) (Or.inl ⟨by rfl, fun w hSw => ?_⟩) ?_; rotate_left; focus ((try dsimp only at hSw); go_simp; (try with_reducible rfl); done)); (try simp only [Act.put, List.setIfInBounds_toArray, List.set_cons_zero, List.set_cons_succ]))
          (refine Ht.Hx.effect (by kernel_rfl) ?_; go_wp2_with (fail); refine ⟨s10a, ?_⟩; clear hSnow; (have hSnow := s10a); repeat (refine Ht.Hx.take (v := ?_) (by kernel_rfl) (by kernel_rfl) (fun _ _ _ h => h) (by with_reducible exact hSnow) (Or.inl ⟨by rfl, fun w hSw => ?_⟩) ?_; rotate_left; focus ((try dsimp only at hSw); go_simp; (try with_reducible rfl); done)); (try simp only [Act.put, List.setIfInBounds_toArray, List.set_cons_zero, List.set_cons_succ]))
          (refine Ht.Hx.done (by kernel_rfl) ?_; clear hSnow)
          go_wp2_with (((with_reducible refine gate_builtin (b := .append) (xs := #[.tmp 84, .tmp 90]) rfl ?_); at_builtin; refine Kd.R_append kG (w0 := w10) wx.heap.size rfl (.tmp 84) (.tmp 90) 22 50 (.agg zG.toArray) 48 rfl Tryz.underlying22 infoG3 rfl (by decide) (by omega) (.slice Ag k cg) (groupsR L0 L1 k) xg ([.int .i64 xg.f0, .int .i64 xg.f1, .int .i64 xg.f2, .int .i64 xg.f3.f0, .int .i64 xg.f3.f1, .int .i64 xg.f3.f2] : List Value) (fun _ => True) (fun _ => False) rfl rfl ?aP (fun _ hk => hk.elim) (fun _ _ => trivial) hR10.out (Below.refl _ _) hB10.out.size hl8.out ?_; (case aP => exact k50_mkM _ _ _ _); intro v2 w11 hR11 hb11 hg11 hat11; obtain ⟨A2g, c2g, ev2, hd2, _⟩ := Kd.R_reads hR11; rw [hn2.out] at ev2; subst ev2; rw [← hn2.out] at hR11; (have hg11' : w10.grownBy w11 (Value.slice Ag (groupsR L0 L1 k).length cg).ownBlock := (by rw [hn1.out]; exact hg11)); have hr11 := (hg11'.block b12 (lt_row hB10.out.row) (fun e => Kd.R_ne hB10.out.rg hB10.out.row (by decide) e)).trans hB10.out.row; have d011 := (Kf.cell_row hr11 0).trans (rfl : _ = some (Value.slice Ag (groupsR L0 L1 k).length cg)); have d111 : w11.frozen? ⟨b12, 0, none⟩ = false := frozen_row hr11 0; have hS12 := hB10.out.pushG hR11 hb11 hg11'; rw [hn2.out] at hS12; rw [← hsucc.out] at hS12; have hfin := hId.out.push hk10.out j0.out j1.out hS12 q0 q1 (fun _ => hg0) (fun _ => hg1); replace hfin := Aside0.mk hfin; replace hR11 := Aside0.mk hR11; replace hb11 := Aside0.mk hb11; replace hg11 := Aside0.mk hg11; replace hg11' := Aside0.mk hg11'; replace hat11 := Aside0.mk hat11; replace hr11 := Aside0.mk hr11; replace hS12 := Aside0.mk hS12))
          refine ⟨⟨k + 1, A2g, c2g, by simp, by omega, hfin⟩, ?_⟩
          show G - ((k : Int) + 1).toNat < G - (k : Int).toNat
          omega
        · obtain rfl : G = k := by omega
          obtain ⟨wy, rfl⟩ : ∃ W, W = wr := ⟨_, rfl⟩
          have hRT0 : Aside0 (RI wx.heap.size wy wy b12 r2' r3 g2 g3 L2 L3 Ag cg (groupsR L0 L1 G) none 0 []) := ⟨⟨hI.out.bld.rebase,
            i2.out.keep hI.out.keep (by omega) (fun hp e => by have a1 := i0.out.cross i2.out hp; have a2 := i1.out.cross i2.out hp; have a3 := s2'.out hp; omega),
            i3.out.keep hI.out.keep (by omega) (fun hp e => by have a1 := i0.out.cross i3.out hp; have a2 := i1.out.cross i3.out hp; have a3 := s3'.out hp; omega), KeepF.refl _ _⟩⟩
          have e7y := Aside0.mk (hI.out.row kr7.out q7 n70 n71)
          have r2y := Aside0.mk (hI.out.row r2.out q2b (by omega) (by omega))
          have hw0 := hWr.out.size
          have hwB0 := bb2.out.size
          have hBy := Aside0.mk (hWr.out.trans (hI.out.below hw0 hw0 (by omega) (by omega)))
          have hByx := Aside0.mk (hI.out.keep.size)
          have hf0 : Aside0 (flagsOk L2 0 = true) := ⟨rfl⟩
          clear hRI0
          go_wp2_with fail
          go_loopw [95] (fun iv wt => ∃ (k : Nat) (Bt : Option Addr) (dt : Nat), iv = .int .i64 k ∧ k ≤ T ∧ Aside0 (RI wx.heap.size wy wt b12 r2' r3 g2 g3 (L2.drop (27 * k)) (L3.drop (8 * k)) Ag cg (groupsR L0 L1 G) Bt dt (tasksR L2 L3 k)) ∧ Aside0 (flagsOk L2 k = true)) (fun iv _ => T - (intOf iv).toNat)
          case atStart => exact ⟨0, none, 0, rfl, Nat.zero_le _, hRT0, hf0⟩
          case round =>
            obtain ⟨k, Bt, dt, rfl, hk, hI2, hfl⟩ := hrel
            have hnG := groupsR_length L0 L1 G
            by_cases hlt : k < T
            · have p1 : 0 ≤ (k : Int) := by omega
              have q1' : (k : Int) < (T : Int) := by omega
              have hn1 := tasksR_length L2 L3 k
              have e7 := hI2.out.row e7y.out q7 n72 n73
              have e2 := Aside0.mk (hI2.out.row r2y.out q2b (by omega) (by omega))
              have p2 := (Kf.cell_row e7 2).trans (rfl : _ = some (Value.pointer (some ⟨r2', 0, none⟩)))
              have p3 := (Kf.cell_row e7 3).trans (rfl : _ = some (Value.pointer (some ⟨r3, 0, none⟩)))
              have m0 : 27 ≤ (L2.drop (27 * k)).length := by rw [List.length_drop]; have := l2.out; omega
              have m1 : 8 ≤ (L3.drop (8 * k)).length := by rw [List.length_drop]; have := l3.out; omega
              have hg2 : g2 < wx.heap.size := s2'.out (by have := l2.out; omega)
              have hg3 : g3 < wx.heap.size := s3'.out (by have := l3.out; omega)
              have kg := task_calls r2' g2 r3 g3 (L2.drop (27 * k)) (L3.drop (8 * k)) wr hI2.out.i0 hI2.out.i1 n23 (hI2.out.i0.cross hI2.out.i1 (by omega)) (hI2.out.i1.cross hI2.out.i0 (by omega)) (inB_drop hb2'.out _) (inB_drop hb3.out _) m0 m1
              have hsucc := tasksR_succ L2 L3 k
              have hfsucc := flagsOk_succ L2 k
              obtain ⟨xt, hxt⟩ : ∃ x, taskR (L2.drop (27 * k)) (L3.drop (8 * k)) = x := ⟨_, rfl⟩
              obtain ⟨fl, hfl2⟩ : ∃ f, flagOk (L2.drop (27 * k)) = f := ⟨_, rfl⟩
              have hfl3 : decide (nx ((L2.drop (27 * k)).drop 9) 1 ≤ 1) = fl := hfl2
              rw [hxt, hfl3] at kg
              rw [hxt] at hsucc
              rw [hfl2, hfl.out, Bool.true_and] at hfsucc
              have kg' := kg
              simp only [List.drop_drop] at kg'
              rw [show 27 * k + 27 = 27 * (k + 1) by omega, show 8 * k + 8 = 8 * (k + 1) by omega] at kg'
              have hl8 : ((tasksR L2 L3 k).length + 1) * 64 ≤ 140737488355328 := by rw [hn1]; omega
              obtain ⟨n2, hn2⟩ : ∃ n, (tasksR L2 L3 k ++ [xt]).length = n := ⟨_, rfl⟩
              replace hn1 := Aside0.mk hn1; replace hnG := Aside0.mk hnG; replace e7 := Aside0.mk e7; replace kg' := Aside0.mk kg'; replace hsucc := Aside0.mk hsucc; replace hfsucc := Aside0.mk hfsucc; replace hxt := Aside0.mk hxt; replace hl8 := Aside0.mk hl8; replace hn2 := Aside0.mk hn2; replace m0 := Aside0.mk m0; replace m1 := Aside0.mk m1; replace hfl2 := Aside0.mk hfl2
              clear kg hfl3
              cases fl with
              | false =>
                have ht : Aside0 (decodeOf b = (5, [], [])) := ⟨by rw [hdS.out, if_pos (flagsOk_false hlt hfl2.out)]⟩
                go_wp2_with (first
                  | (go_at_call 30; (with_reducible refine kg'.out.mono ?_); rintro e w10 ⟨rfl, j0, j1, hk10⟩; (have x2 := Aside0.mk ((hk10.block b2 (lt_row e2.out) (fun e => by rcases e with e | e <;> omega)).trans e2.out)); (have hB9 := hBy.out.trans (hI2.out.below hBy.out.size (Nat.le_trans hWr.out.size (Nat.le_refl _)) (by omega) (by omega))); (have hB10 := Aside0.mk (hB9.trans (KeepF.to_below hk10 hB9.size (fun i e => by rcases e with e | e <;> omega)))); clear j0 j1 hk10 hB9)
                  | (((with_reducible refine gate_dst (N := 13) rfl ?_); refine box_event ?hg (N := 13) ?hd (cs := #[.int .i64 0, .int .i64 0, .int .i64 0, .int .u64 0, .bool false, .int .i64 0, .int .i64 0, .int .i64 0]) (t := 59) ?hr ?_; (case hd => rfl); (case hg => rfl); (case hr => first | (go_simp; done) | (go_simp; rfl)); intro b13 hb13 w13 kb13 bb13; replace hb13 := Aside0.mk hb13; replace kb13 := Aside0.mk kb13; replace bb13 := Aside0.mk bb13))
                  | (((with_reducible refine gate_op (.store 59 (.tmp 13) (.tmp 103)) rfl ?_); refine wpList_store_midB rfl _ _ _ rfl b13 0 ([.int .i64 xt.f0, .int .i64 xt.f1, .int .i64 xt.f2, .int .u64 xt.f3, .bool xt.f4, .int .i64 xt.f5, .int .i64 xt.f6.f0, .int .i64 xt.f6.f1] : List Value) rfl rfl 59 [.int .i64 0, .int .i64 0, .int .i64 0, .int .u64 0, .bool false, .int .i64 0, .int .i64 0, .int .i64 0] kb13.out szT8 (Nat.le_refl _) oneT8 ?_; obtain ⟨kk, bb⟩ := boxed (cs := [.int .i64 0, .int .i64 0, .int .i64 0, .int .u64 0, .bool false, .int .i64 0, .int .i64 0, .int .i64 0]) (cs2 := ([.int .i64 xt.f0, .int .i64 xt.f1, .int .i64 xt.f2, .int .u64 xt.f3, .bool xt.f4, .int .i64 xt.f5, .int .i64 xt.f6.f0, .int .i64 xt.f6.f1] : List Value)) hb13.out kb13.out bb13.out rfl; revert kk bb; generalize World.setRow _ b13 (splice [.int .i64 0, .int .i64 0, .int .i64 0, .int .u64 0, .bool false, .int .i64 0, .int .i64 0, .int .i64 0] 0 ([.int .i64 xt.f0, .int .i64 xt.f1, .int .i64 xt.f2, .int .u64 xt.f3, .bool xt.f4, .int .i64 xt.f5, .int .i64 xt.f6.f0, .int .i64 xt.f6.f1] : List Value)).toArray = w14; clear kb13 bb13; intro kb13 bb13; replace kb13 := Aside0.mk kb13; replace bb13 := Aside0.mk bb13); (replace kb2 := Aside0.mk (row_below bb13.out x2.out)); (replace bb2 := Aside0.mk (hB10.out.trans (bb13.out.mono hB10.out.size))))
                  | (((with_reducible refine gate_op (.store 25 (.tmp 2) (.tmp 107)) rfl ?_); refine wpList_store_midB rfl _ _ _ rfl b2 0 [.slice none 0 0, .slice none 0 0] rfl rfl 25 [.slice none 0 0, .slice none 0 0] kb2.out szS2 (Nat.le_refl _) oneS2 ?_; obtain ⟨kk, bb⟩ := boxed (cs := [.slice none 0 0, .slice none 0 0]) (cs2 := [.slice none 0 0, .slice none 0 0]) hb2.out kb2.out bb2.out rfl; revert kk bb; generalize World.setRow _ b2 (splice [.slice none 0 0, .slice none 0 0] 0 [.slice none 0 0, .slice none 0 0]).toArray = w15; clear kb2 bb2; intro kb2 bb2; replace kb2 := Aside0.mk kb2; replace bb2 := Aside0.mk bb2)))
                refine bodyPost_ret (results_ct rfl _ _ b2 _ _ _ _ rfl kb2.out Tryz.underlying25 rfl ?hi) rfl ?_
                case hi => exact szS2
                exact DecPost.odd ht.out bb2.out
              | true =>
                go_wp2_with (first
                  | (go_at_call 30; (with_reducible refine kg'.out.mono ?_); rintro e w10 ⟨rfl, j0, j1, hk10⟩; (have hB10 := Aside0.mk (hI2.out.moved hk10 q2 q3)); replace j0 := Aside0.mk j0; replace j1 := Aside0.mk j1; replace hk10 := Aside0.mk hk10)
                  | (((with_reducible refine gate_dst (N := 13) rfl ?_); refine box_event ?hg (N := 13) ?hd (cs := #[.int .i64 0, .int .i64 0, .int .i64 0, .int .u64 0, .bool false, .int .i64 0, .int .i64 0, .int .i64 0]) (t := 59) ?hr ?_; (case hd => rfl); (case hg => rfl); (case hr => first | (go_simp; done) | (go_simp; rfl)); intro b13 hb13 w13 kb13 bb13; replace hb13 := Aside0.mk hb13; replace kb13 := Aside0.mk kb13; replace bb13 := Aside0.mk bb13))
                  | (((with_reducible refine gate_op (.store 59 (.tmp 13) (.tmp 103)) rfl ?_); refine wpList_store_midB rfl _ _ _ rfl b13 0 ([.int .i64 xt.f0, .int .i64 xt.f1, .int .i64 xt.f2, .int .u64 xt.f3, .bool xt.f4, .int .i64 xt.f5, .int .i64 xt.f6.f0, .int .i64 xt.f6.f1] : List Value) rfl rfl 59 [.int .i64 0, .int .i64 0, .int .i64 0, .int .u64 0, .bool false, .int .i64 0, .int .i64 0, .int .i64 0] kb13.out szT8 (Nat.le_refl _) oneT8 ?_; obtain ⟨kk, bb⟩ := boxed (cs := [.int .i64 0, .int .i64 0, .int .i64 0, .int .u64 0, .bool false, .int .i64 0, .int .i64 0, .int .i64 0]) (cs2 := ([.int .i64 xt.f0, .int .i64 xt.f1, .int .i64 xt.f2, .int .u64 xt.f3, .bool xt.f4, .int .i64 xt.f5, .int .i64 xt.f6.f0, .int .i64 xt.f6.f1] : List Value)) hb13.out kb13.out bb13.out rfl; revert kk bb; generalize World.setRow _ b13 (splice [.int .i64 0, .int .i64 0, .int .i64 0, .int .u64 0, .bool false, .int .i64 0, .int .i64 0, .int .i64 0] 0 ([.int .i64 xt.f0, .int .i64 xt.f1, .int .i64 xt.f2, .int .u64 xt.f3, .bool xt.f4, .int .i64 xt.f5, .int .i64 xt.f6.f0, .int .i64 xt.f6.f1] : List Value)).toArray = w14; clear kb13 bb13; intro kb13 bb13; replace kb13 := Aside0.mk kb13; replace bb13 := Aside0.mk bb13); (have hB14 := Aside0.mk (hB10.out.grow bb13.out)); (have d1 := hB14.out.cellT); rw [hn1.out] at d1; (have hR14 : kT.R 59 w14 wx.heap.size (fun _ => True) (.slice Bt k dt) (tasksR L2 L3 k) := (by have := hB14.out.rt; rwa [hn1.out] at this)); replace hR14 := Aside0.mk hR14)
                  | ((with_reducible refine gate_op (.load 59 (.tmp 13)) rfl ?_); refine wpList_load_midB rfl _ _ rfl ⟨b13, 0, none⟩ rfl ([.int .i64 xt.f0, .int .i64 xt.f1, .int .i64 xt.f2, .int .u64 xt.f3, .bool xt.f4, .int .i64 xt.f5, .int .i64 xt.f6.f0, .int .i64 xt.f6.f1] : List Value) _ (Bk.cells_row kb13.out) Tryz.underlying59 rfl szT8 ?_)
                  | ((with_reducible refine gate_builtin (b := .append) (xs := #[.tmp 109, .tmp 111]) rfl ?_); at_builtin; refine Kd.R_append kT (w0 := w10) wx.heap.size rfl (.tmp 109) (.tmp 111) 23 59 (.agg #[.int .i64 0, .int .i64 0, .int .i64 0, .int .u64 0, .bool false, .int .i64 0, .int .i64 0, .int .i64 0]) 64 rfl Tryz.underlying23 infoT rfl (by decide) (by omega) (.slice Bt k dt) (tasksR L2 L3 k) xt ([.int .i64 xt.f0, .int .i64 xt.f1, .int .i64 xt.f2, .int .u64 xt.f3, .bool xt.f4, .int .i64 xt.f5, .int .i64 xt.f6.f0, .int .i64 xt.f6.f1] : List Value) (fun _ => True) (fun _ => False) rfl rfl ?aP (fun _ hk => hk.elim) (fun _ _ => trivial) hR14.out hB14.out.below hB14.out.size hl8.out ?_; (case aP => exact k59_mkM _ _ _ _); intro v2 w11 hR11 hb11 hg11 hat11; obtain ⟨B2g, d2g, ev2, hd2, _⟩ := Kd.R_reads hR11; rw [hn2.out] at ev2; subst ev2; rw [← hn2.out] at hR11; (have hg11' : w14.grownBy w11 (Value.slice Bt (tasksR L2 L3 k).length dt).ownBlock := (by rw [hn1.out]; exact hg11)); have hr11 := (hg11'.block b12 (lt_row hB14.out.row) (fun e => Kd.R_ne hB14.out.rt hB14.out.row (by decide) e)).trans hB14.out.row; have d011 := (Kf.cell_row hr11 1).trans (rfl : _ = some (Value.slice Bt (tasksR L2 L3 k).length dt)); have d111 : w11.frozen? ⟨b12, 1, none⟩ = false := frozen_row hr11 1; have hS12 := hB14.out.pushT hR11 hb11 hg11'; rw [hn2.out] at hS12; rw [← hsucc.out] at hS12; have hfin := hI2.out.push hk10.out j0.out j1.out hS12 q2 q3 (fun _ => hg2) (fun _ => hg3); replace hfin := Aside0.mk hfin; replace hR11 := Aside0.mk hR11; replace hb11 := Aside0.mk hb11; replace hg11 := Aside0.mk hg11; replace hg11' := Aside0.mk hg11'; replace hat11 := Aside0.mk hat11; replace hr11 := Aside0.mk hr11; replace hS12 := Aside0.mk hS12))
                refine ⟨⟨k + 1, B2g, d2g, by simp, by omega, hfin, hfsucc⟩, ?_⟩
                show T - ((k : Int) + 1).toNat < T - (k : Int).toNat
                omega
            · obtain rfl : T = k := by omega
              have hnT := groupsR_length L0 L1 G
              have hnT := tasksR_length L2 L3 T
              obtain ⟨gs, hgs⟩ : ∃ g, groupsR L0 L1 G = g := ⟨_, rfl⟩
              obtain ⟨ts, hts⟩ : ∃ g, tasksR L2 L3 T = g := ⟨_, rfl⟩
              have hog : ∀ x ∈ gs, okG x := by rw [← hgs]; exact groupsR_ok
              have hB := hI2.out.bld
              rw [hgs, hts] at hB
              rw [hgs] at hnG
              rw [hts] at hnT
              have hdS2 := hdS.out
              rw [hfl.out, if_neg (by decide), hgs, hts] at hdS2
              obtain ⟨ck, hck⟩ : ∃ ck, checkOf (gs.map gOf) (ts.map tOf) = ck := ⟨_, rfl⟩
              rw [hck] at hdS2
              obtain ⟨A9, c9, ea, hcg, hCg⟩ := Kd.R_reads hB.rg
              injection ea with ea1 ea2 ea3
              subst ea1; subst ea3
              obtain ⟨B9, d9, eb, hct, hCt⟩ := Kd.R_reads hB.rt
              injection eb with eb1 eb2 eb3
              subst eb1; subst eb3
              have hsp := R_spot hB.rt
              have hspg := R_spot hB.rg
              have hrow := hB.row
              rw [hnG, hnT] at hrow
              rw [hnG] at hCg hcg
              rw [hnT] at hCt hct
              have kc := Check_calls Ag G cg gs Bt T dt ts wr hCg hcg hCt hct hsp hog
              have e2 := hI2.out.row r2y.out q2b (by omega) (by omega)
              have hB9 := hBy.out.trans (hI2.out.below hBy.out.size (Nat.le_trans hWr.out.size (Nat.le_refl _)) (by omega) (by omega))
              replace hog := Aside0.mk hog; replace hB := Aside0.mk hB; replace hdS2 := Aside0.mk hdS2; replace hck := Aside0.mk hck; replace hCg := Aside0.mk hCg; replace hCt := Aside0.mk hCt; replace hsp := Aside0.mk hsp; replace hspg := Aside0.mk hspg; replace hrow := Aside0.mk hrow; replace kc := Aside0.mk kc; replace e2 := Aside0.mk e2; replace hB9 := Aside0.mk hB9; replace hnG := Aside0.mk hnG; replace hnT := Aside0.mk hnT; replace hgs := Aside0.mk hgs; replace hts := Aside0.mk hts
              clear hdS hI2 hI
              by_cases hc0 : ck = 0
              case neg =>
                have z1 : (ck != 0) = true := by simpa using hc0
                have ht : Aside0 (decodeOf b = (ck, [], [])) := ⟨by rw [hdS2.out, if_pos hc0]⟩
                go_wp2_with (first
                  | ((with_reducible refine gate_op (.load 25 (.tmp 12)) rfl ?_); refine wpList_load_midB rfl _ _ rfl ⟨b12, 0, none⟩ rfl [.slice Ag G cg, .slice Bt T dt] _ (Bk.cells_row hrow.out) Tryz.underlying25 rfl szS2 ?_)
                  | (go_at_call 19; (with_reducible refine kc.out.mono ?_); rintro e w20 ⟨rfl, hb20⟩; rw [hck.out]; (replace kb2 := Aside0.mk (row_below hb20 e2.out)); (replace bb2 := Aside0.mk (hB9.out.trans (hb20.mono hB9.out.size))); clear hb20)
                  | (((with_reducible refine gate_op (.store 25 (.tmp 2) (.tmp 119)) rfl ?_); refine wpList_store_midB rfl _ _ _ rfl b2 0 [.slice none 0 0, .slice none 0 0] rfl rfl 25 [.slice none 0 0, .slice none 0 0] kb2.out szS2 (Nat.le_refl _) oneS2 ?_; obtain ⟨kk, bb⟩ := boxed (cs := [.slice none 0 0, .slice none 0 0]) (cs2 := [.slice none 0 0, .slice none 0 0]) hb2.out kb2.out bb2.out rfl; revert kk bb; generalize World.setRow _ b2 (splice [.slice none 0 0, .slice none 0 0] 0 [.slice none 0 0, .slice none 0 0]).toArray = w21; clear kb2 bb2; intro kb2 bb2; replace kb2 := Aside0.mk kb2; replace bb2 := Aside0.mk bb2)))
                refine bodyPost_ret (results_ct rfl _ _ b2 _ _ _ _ rfl kb2.out Tryz.underlying25 rfl ?hi) rfl ?_
                case hi => exact szS2
                exact DecPost.odd ht.out bb2.out
              subst hc0
              have ht : Aside0 (decodeOf b = (0, gs, ts)) := ⟨by rw [hdS2.out, if_neg (by simp)]⟩
              go_wp2_with (first
                | ((with_reducible refine gate_op (.load 25 (.tmp 12)) rfl ?_); refine wpList_load_midB rfl _ _ rfl ⟨b12, 0, none⟩ rfl [.slice Ag G cg, .slice Bt T dt] _ (Bk.cells_row hrow.out) Tryz.underlying25 rfl szS2 ?_)
                | (go_at_call 19; (with_reducible refine kc.out.mono ?_); rintro e w20 ⟨rfl, hb20⟩; rw [hck.out]; (replace kb2 := Aside0.mk (row_below hb20 e2.out)); (replace bb2 := Aside0.mk (hB9.out.trans (hb20.mono hB9.out.size))); (have hB20 := Aside0.mk (hB.out.grow hb20).rebase); (have hrow20 := Aside0.mk (row_below hb20 hrow.out)); clear hb20)
                | ((with_reducible refine gate_op (.load 25 (.tmp 12)) rfl ?_); refine wpList_load_midB rfl _ _ rfl ⟨b12, 0, none⟩ rfl [.slice Ag G cg, .slice Bt T dt] _ (Bk.cells_row hrow20.out) Tryz.underlying25 rfl szS2 ?_)
                | ((with_reducible refine gate_op (.store 25 (.tmp 2) (.tmp 121)) rfl ?_); refine wpList_store_midB rfl _ _ _ rfl b2 0 [.slice Ag G cg, .slice Bt T dt] rfl rfl 25 [.slice none 0 0, .slice none 0 0] kb2.out szS2 (Nat.le_refl _) oneS2 ?_; obtain ⟨kk, bb⟩ := boxed (cs := [.slice none 0 0, .slice none 0 0]) (cs2 := [.slice Ag G cg, .slice Bt T dt]) hb2.out kb2.out bb2.out rfl; (have hks := KeepF.setRow w20 b2 (splice [.slice none 0 0, .slice none 0 0] 0 [.slice Ag G cg, .slice Bt T dt]).toArray); revert kk bb hks; generalize World.setRow _ b2 (splice [.slice none 0 0, .slice none 0 0] 0 [.slice Ag G cg, .slice Bt T dt]).toArray = w21; intro kk bb hks; replace kk := Aside0.mk kk; replace bb := Aside0.mk bb; replace hks := Aside0.mk hks))
              have hB21 := hB20.out.move hks.out (fun i _ e => by have e : i = b2 := e; omega)
              have hCg := (Kd.R_reads' hB21.rg).2.2
              have hCt := (Kd.R_reads' hB21.rt).2.2
              have hfin : DecPost b w (.returned (.tuple #[.agg #[.slice Ag G cg, .slice Bt T dt], .int .i64 0])) w21 :=
                ⟨Ag, cg, Bt, dt, 0, gs, ts, by rw [hnG.out, hnT.out], ht.out.symm, bb.out, by rw [hnG.out]; exact hcg, by rw [hnT.out]; exact hct, hCg, hCt, hspg.out, hsp.out⟩
              refine bodyPost_ret (results_ct rfl _ _ b2 _ _ _ _ rfl kk.out Tryz.underlying25 rfl ?hi) rfl ?_
              case hi => exact szS2
              exact hfin
end Go.Proofs.YtpnjhffnlafabaaGreatDoor.Im
