/- The reference of layer 14: at, Decode. -/
import Derived.Test.YtpnjhffnlafabaaGreatDoorVRe6
import Derived.Test.YtpnjhffnlafabaaGreatDoorVImd
import Derived.Test.YtpnjhffnlafabaaGreatDoorVF
namespace Go.Proofs.YtpnjhffnlafabaaGreatDoor.Im
set_option linter.unusedVariables false
set_option linter.unusedSimpArgs false
open Go.Proofs Go.RowKit Go.Proofs.Bk Go.Proofs.Bm Go.Proofs.Sc Go.Proofs.Kf Go.Proofs.YtpnjhffnlafabaaGreatDoorW.PrintWords Go.Proofs.YtpnjhffnlafabaaGreatDoor.Sl Go.Proofs.YtpnjhffnlafabaaGreatDoor.Sn Go.Proofs.YtpnjhffnlafabaaGreatDoor.PImageBack
set_option maxHeartbeats 2000000 in
theorem rat_calls (g o n c : Nat) (xs : List Int) (w : World) (h : U8.C w (some ⟨g, o, none⟩) n xs) (hc : n ≤ c) (hn : n ≤ 140737488355328) (hb : inB xs) (fr wd : Int) (f k : Nat) (e1 : fr = f) (e2 : wd = k) (hk : 0 < k) (h8 : k ≤ 8) (hl : f + k ≤ n) :
    Calls Tryz.prog 32 #[.slice (some ⟨g, o, none⟩) n c, .int .i64 fr, .int .i64 wd] w (PurePost (.int .i64 (nx (xs.drop f) k)) w) := by
  subst e1 e2
  have kn := rNumber_calls (some ⟨g, o + f, none⟩) k (c - f) ((xs.drop f).take k) w (cut_N h f k hl) (inB_take (inB_drop hb f) k) h8
  obtain ⟨v, hv⟩ : ∃ v, leNum ((xs.drop f).take k) = v := ⟨_, rfl⟩
  have hnx : nx (xs.drop f) k = wrap64 v := by unfold nx; rw [hv]
  have hr := leNum_range ((xs.drop f).take k) (inB_take (inB_drop hb f) k)
  have hr2 : (256 : Int) ^ ((xs.drop f).take k).length ≤ 256 ^ 8 := pow256_le (by rw [List.length_take]; omega)
  have hr3 : (256 : Int) ^ 8 = 18446744073709551616 := by decide
  rw [hv] at kn hr
  rw [hnx]
  have t1 : (f : Int) + (k : Int) ≤ (c : Int) := by omega
  have t2 : ((f : Int) + (k : Int)).toNat = f + k := by omega
  have t3 : f + k - f = k := by omega
  have t4 : (f : Int) ≤ (f : Int) + (k : Int) := by omega
  have t5 : ¬ c = f := by omega
  have f1 : (f : Int) ≤ 140737488355328 := by omega
  have k1 : (k : Int) ≤ 8 := by omega
  have v0 : 0 ≤ v := hr.1
  have v1 : v ≤ 18446744073709551615 := by omega
  clear hr hr2 hr3 hnx h
  replace kn := Aside0.mk kn; replace hv := Aside0.mk hv
  go_enter Tryz.func32, Tryz.ntmps32
  go_wp2_with (go_at_call 33; (with_reducible refine kn.out.mono ?_); rintro e w' ⟨rfl, rfl⟩)
  go_ret
  exact ⟨rfl, rfl⟩
theorem kinds_four {a b c d : Int} (h : risingL 0 [a, b, c, d] = true) (hd : d = 4) : a = 1 ∧ b = 2 ∧ c = 3 := by
  simp [risingL] at h
  omega
theorem nx_one {xs : List Int} (h : inB xs) (hl : 9 < xs.length) : nx (xs.drop 9) 1 = rd xs ((9 : Nat) : Int) := by
  have r := rd_inB h hl
  unfold nx
  rw [drop_rd hl]
  simp only [List.take_succ_cons, List.take_zero, leNum]
  rw [show rd xs ((9 : Nat) : Int) + 256 * 0 = rd xs ((9 : Nat) : Int) by omega]
  exact wrap64_of (by omega) (by omega)
theorem pw_cell_below' {w w1 : World} (h : Below w.heap.size w w1) {a : Addr} {v : Value} (hc : w.cell? a = some v) : w1.cell? a = some v := pw_cell_below h hc
theorem row_below' {w w1 : World} (h : Below w.heap.size w w1) {b : Nat} {o : Obj} (hc : w.heap[b]? = some o) : w1.heap[b]? = some o := row_below h hc
structure FQ (w : World) (q o : Nat) (A0 : Option Addr) (c0 : Nat) (A1 : Option Addr) (c1 : Nat) (A2 : Option Addr) (c2 : Nat) (A3 : Option Addr) (c3 : Nat) (n0 n1 n2 n3 : Nat) (k0 k1 k2 k3 : Int) : Prop where
  x0 : w.cell? ⟨q, o, none⟩ = some (.int .i64 k0)
  x1 : w.cell? ⟨q, o + 1, none⟩ = some (.slice A0 n0 c0)
  x2 : w.cell? ⟨q, o + 2, none⟩ = some (.int .i64 k1)
  x3 : w.cell? ⟨q, o + 3, none⟩ = some (.slice A1 n1 c1)
  x4 : w.cell? ⟨q, o + 4, none⟩ = some (.int .i64 k2)
  x5 : w.cell? ⟨q, o + 5, none⟩ = some (.slice A2 n2 c2)
  x6 : w.cell? ⟨q, o + 6, none⟩ = some (.int .i64 k3)
  x7 : w.cell? ⟨q, o + 7, none⟩ = some (.slice A3 n3 c3)
theorem FQ.below {w w' : World} {q o : Nat} {A0 A1 A2 A3 : Option Addr} {c0 c1 c2 c3 n0 n1 n2 n3 : Nat} {k0 k1 k2 k3 : Int} (h : FQ w q o A0 c0 A1 c1 A2 c2 A3 c3 n0 n1 n2 n3 k0 k1 k2 k3) (hb : Below w.heap.size w w') : FQ w' q o A0 c0 A1 c1 A2 c2 A3 c3 n0 n1 n2 n3 k0 k1 k2 k3 :=
  ⟨pw_cell_below hb h.x0, pw_cell_below hb h.x1, pw_cell_below hb h.x2, pw_cell_below hb h.x3, pw_cell_below hb h.x4, pw_cell_below hb h.x5, pw_cell_below hb h.x6, pw_cell_below hb h.x7⟩
theorem E_four2 {w : World} {A : Option Addr} {s0 s1 s2 s3 : SE} (h : kE.C w A 4 [s0, s1, s2, s3]) :
    ∃ q o A0 c0 A1 c1 A2 c2 A3 c3, A = some ⟨q, o, none⟩ ∧ FQ w q o A0 c0 A1 c1 A2 c2 A3 c3 s0.f1.length s1.f1.length s2.f1.length s3.f1.length s0.f0 s1.f0 s2.f0 s3.f0 ∧
      (s0.f1.length ≤ c0 ∧ s1.f1.length ≤ c1 ∧ s2.f1.length ≤ c2 ∧ s3.f1.length ≤ c3) ∧
      U8.C w A0 s0.f1.length s0.f1 ∧ U8.C w A1 s1.f1.length s1.f1 ∧ U8.C w A2 s2.f1.length s2.f1 ∧ U8.C w A3 s3.f1.length s3.f1 := by
  obtain ⟨q, o, x0, A0, c0, rfl, hq, e0, d0, a0, l0, k0⟩ := E_one h (k := 0) (by decide)
  obtain ⟨_, _, x1, A1, c1, r1, -, e1, d1, a1, l1, k1⟩ := E_one h (k := 1) (by decide)
  obtain ⟨_, _, x2, A2, c2, r2, -, e2, d2, a2, l2, k2⟩ := E_one h (k := 2) (by decide)
  obtain ⟨_, _, x3, A3, c3, r3, -, e3, d3, a3, l3, k3⟩ := E_one h (k := 3) (by decide)
  cases r1; cases r2; cases r3
  cases e0; cases e1; cases e2; cases e3
  exact ⟨q, o, A0, c0, A1, c1, A2, c2, A3, c3, rfl, ⟨d0, a0, d1, a1, d2, a2, d3, a3⟩, ⟨l0, l1, l2, l3⟩, k0, k1, k2, k3⟩
set_option maxHeartbeats 8000000 in
set_option maxRecDepth 100000 in
theorem rDecode_calls (A : Option Addr) (n c : Nat) (b : List Int) (w : World) (h : U8.C w A n b) (hc : n ≤ c) (hn : n ≤ 140737488355328) (hby : inB b) :
    Calls Tryz.prog 16 #[.slice A n c] w (DecPost b w) := by
  have HE := Aside0.mk h
  clear h
  obtain ⟨U, hU⟩ : ∃ U, decodeOf b = U := ⟨_, rfl⟩
  have hU' := hU
  unfold decodeOf at hU'
  have hpk := fun ss => pack_unpack (ss := ss) hby
  replace hby := Aside0.mk hby; replace hU := Aside0.mk hU; replace hU' := Aside0.mk hU'; replace hpk := Aside0.mk hpk
  go_enter Tryz.func16, Tryz.ntmps16
  go_wp2_with (first
    | (((with_reducible refine gate_dst (N := 2) rfl ?_); refine box_event ?hg (N := 2) ?hd (cs := #[.slice none 0 0, .slice none 0 0]) (t := 25) ?hr ?_; (case hd => rfl); (case hg => rfl); (case hr => first | (go_simp; done) | (go_simp; rfl)); intro b2 hb2 w1 kb2 bb2; replace hb2 := Aside0.mk hb2; replace kb2 := Aside0.mk kb2; replace bb2 := Aside0.mk bb2))
    | (((with_reducible refine gate_dst (N := 4) rfl ?_); refine box_event ?hg (N := 4) ?hd (cs := #[.slice none 0 0, .slice none 0 0]) (t := 25) ?hr ?_; (case hd => rfl); (case hg => rfl); (case hr => first | (go_simp; done) | (go_simp; rfl)); intro b4 hb4 w1b kb4 bb4; replace hb4 := Aside0.mk hb4; replace kb4 := Aside0.mk kb4; replace bb4 := Aside0.mk bb4))
    | (((with_reducible refine gate_op (.store 25 (.tmp 4) (.tmp 16)) rfl ?_); refine wpList_store_midB rfl _ _ _ rfl b4 0 [.slice none 0 0, .slice none 0 0] rfl rfl 25 [.slice none 0 0, .slice none 0 0] kb4.out szS2 (Nat.le_refl _) oneS2 ?_; obtain ⟨kk, bb⟩ := boxed (cs := [.slice none 0 0, .slice none 0 0]) (cs2 := [.slice none 0 0, .slice none 0 0]) hb4.out kb4.out bb4.out rfl; revert kk bb; generalize World.setRow _ b4 (splice [.slice none 0 0, .slice none 0 0] 0 [.slice none 0 0, .slice none 0 0]).toArray = w1c; clear kb4 bb4; intro kb4 bb4; replace kb4 := Aside0.mk kb4; replace bb4 := Aside0.mk bb4)))
  have hne42 := Aside0.mk (show b4 ≠ b2 by have := hb4.out; have := lt_row kb2.out; omega)
  replace kb2 := Aside0.mk (row_below bb4.out kb2.out)
  replace bb2 := Aside0.mk (bb2.out.trans (bb4.out.mono bb2.out.size))
  with_reducible refine (rUnpack_calls A n c b w1c (Kd.C_below HE.out bb2.out) hc hn hby.out).mono ?_
  rintro e w2 ⟨A2, c2, er, ss, rfl, hun, hu2, hc2, hC2⟩
  replace kb2 := Aside0.mk (row_below hu2 kb2.out)
  replace kb4 := Aside0.mk (row_below hu2 kb4.out)
  replace bb2 := Aside0.mk (bb2.out.trans (hu2.mono bb2.out.size))
  clear hu2 bb4 hb4
  replace hun := Aside0.mk hun; replace hC2 := Aside0.mk hC2
  by_cases her : er = 0
  case neg =>
    have z1 : (er != 0) = true := by simpa using her
    have ht : Aside0 (decodeOf b = (er, [], [])) := ⟨by have := hU'.out; rw [← hun.out, if_pos her] at this; rw [hU.out, ← this]⟩
    clear hun hC2
    go_wp2_with (first
      | ((with_reducible refine gate_op (.load 25 (.tmp 4)) rfl ?_); refine wpList_load_midB rfl _ _ rfl ⟨b4, 0, none⟩ rfl [.slice none 0 0, .slice none 0 0] _ (Bk.cells_row kb4.out) Tryz.underlying25 rfl szS2 ?_)
      | (((with_reducible refine gate_op (.store 25 (.tmp 2) (.tmp 24)) rfl ?_); refine wpList_store_midB rfl _ _ _ rfl b2 0 [.slice none 0 0, .slice none 0 0] rfl rfl 25 [.slice none 0 0, .slice none 0 0] kb2.out szS2 (Nat.le_refl _) oneS2 ?_; obtain ⟨kk, bb⟩ := boxed (cs := [.slice none 0 0, .slice none 0 0]) (cs2 := [.slice none 0 0, .slice none 0 0]) hb2.out kb2.out bb2.out rfl; revert kk bb; generalize World.setRow _ b2 (splice [.slice none 0 0, .slice none 0 0] 0 [.slice none 0 0, .slice none 0 0]).toArray = w3; clear kb2 bb2; intro kb2 bb2; replace kb2 := Aside0.mk kb2; replace bb2 := Aside0.mk bb2)))
    refine bodyPost_ret (results_ct rfl _ _ b2 _ _ _ _ rfl kb2.out Tryz.underlying25 rfl ?hi) rfl ?_
    case hi => exact szS2
    exact DecPost.odd ht.out bb2.out
  subst her
  have hU2 := hU'.out
  rw [← hun.out, if_neg (by simp)] at hU2
  obtain ⟨hok, -⟩ := hpk.out ss (by rw [hun.out])
  by_cases h4 : ss.length = 4
  case neg =>
    have hd : decodeL ss = (21, [], []) := by
      match ss, h4 with
      | [], _ => rfl
      | [_], _ => rfl
      | [_, _], _ => rfl
      | [_, _, _], _ => rfl
      | [_, _, _, _], h => exact absurd rfl h
      | _ :: _ :: _ :: _ :: _ :: _, _ => rfl
    have ht : Aside0 (decodeOf b = (21, [], [])) := ⟨by rw [hU.out, ← hU2]; exact hd⟩
    clear hun hC2 hd hU2 hok
    generalize ss.length = N at *
    have z4 : ((N : Int) != 4) = true := by simp; omega
    clear h4
    go_wp2_with (first
      | ((with_reducible refine gate_op (.load 25 (.tmp 4)) rfl ?_); refine wpList_load_midB rfl _ _ rfl ⟨b4, 0, none⟩ rfl [.slice none 0 0, .slice none 0 0] _ (Bk.cells_row kb4.out) Tryz.underlying25 rfl szS2 ?_)
      | (((with_reducible refine gate_op (.store 25 (.tmp 2) (.tmp 57)) rfl ?_); refine wpList_store_midB rfl _ _ _ rfl b2 0 [.slice none 0 0, .slice none 0 0] rfl rfl 25 [.slice none 0 0, .slice none 0 0] kb2.out szS2 (Nat.le_refl _) oneS2 ?_; obtain ⟨kk, bb⟩ := boxed (cs := [.slice none 0 0, .slice none 0 0]) (cs2 := [.slice none 0 0, .slice none 0 0]) hb2.out kb2.out bb2.out rfl; revert kk bb; generalize World.setRow _ b2 (splice [.slice none 0 0, .slice none 0 0] 0 [.slice none 0 0, .slice none 0 0]).toArray = w3; clear kb2 bb2; intro kb2 bb2; replace kb2 := Aside0.mk kb2; replace bb2 := Aside0.mk bb2)))
    refine bodyPost_ret (results_ct rfl _ _ b2 _ _ _ _ rfl kb2.out Tryz.underlying25 rfl ?hi) rfl ?_
    case hi => exact szS2
    exact DecPost.odd ht.out bb2.out
  obtain ⟨s0, s1, s2, s3, rfl⟩ : ∃ s0 s1 s2 s3, ss = [s0, s1, s2, s3] := by
    match ss, h4 with
    | [a, b, c, d], _ => exact ⟨a, b, c, d, rfl⟩
  have hb0 := hok.inb s0 (by simp)
  have hb1 := hok.inb s1 (by simp)
  have hb2' := hok.inb s2 (by simp)
  have hb3 := hok.inb s3 (by simp)
  have hm0 := hok.long s0 (by simp)
  have hm1 := hok.long s1 (by simp)
  have hm2 := hok.long s2 (by simp)
  have hm3 := hok.long s3 (by simp)
  have hris : risingL 0 [s0.f0, s1.f0, s2.f0, s3.f0] = true := hok.rise
  clear hok hpk hun h4
  change decodeL [s0, s1, s2, s3] = U at hU2
  have hC4 : kE.C w2 A2 4 [s0, s1, s2, s3] := hC2.out
  obtain ⟨q, o, A0, c0, A1, c1, B2, d2, A3, c3, rfl, hF, ⟨l0, l1, l2, l3⟩, k0, k1, k2, k3⟩ := E_four2 hC4
  clear hC4 hC2
  change 4 ≤ c2 at hc2
  rw [show [s0, s1, s2, s3].length = 4 from rfl]
  have hU3 : (if s3.f0 ≠ 4 then (21, [], []) else decodeS s0.f1 s1.f1 s2.f1 s3.f1) = U := hU2
  clear hU2
  obtain ⟨d0, hd0⟩ : ∃ k, s0.f0 = k := ⟨_, rfl⟩
  obtain ⟨d1, hd1⟩ : ∃ k, s1.f0 = k := ⟨_, rfl⟩
  obtain ⟨e2, he2⟩ : ∃ k, s2.f0 = k := ⟨_, rfl⟩
  obtain ⟨d3, hd3⟩ : ∃ k, s3.f0 = k := ⟨_, rfl⟩
  rw [hd0, hd1, he2, hd3] at hF hris
  rw [hd3] at hU3
  obtain ⟨L0, hL0⟩ : ∃ L, s0.f1 = L := ⟨_, rfl⟩
  obtain ⟨L1, hL1⟩ : ∃ L, s1.f1 = L := ⟨_, rfl⟩
  obtain ⟨L2, hL2⟩ : ∃ L, s2.f1 = L := ⟨_, rfl⟩
  obtain ⟨L3, hL3⟩ : ∃ L, s3.f1 = L := ⟨_, rfl⟩
  rw [hL0, hL1, hL2, hL3] at hF hU3
  rw [hL0] at hb0 hm0 l0 k0
  rw [hL1] at hb1 hm1 l1 k1
  rw [hL2] at hb2' hm2 l2 k2
  rw [hL3] at hb3 hm3 l3 k3
  clear hd0 hd1 he2 hd3 hL0 hL1 hL2 hL3
  obtain ⟨N0, hN0⟩ : ∃ N, L0.length = N := ⟨_, rfl⟩
  obtain ⟨N1, hN1⟩ : ∃ N, L1.length = N := ⟨_, rfl⟩
  obtain ⟨N2, hN2⟩ : ∃ N, L2.length = N := ⟨_, rfl⟩
  obtain ⟨N3, hN3⟩ : ∃ N, L3.length = N := ⟨_, rfl⟩
  rw [hN0, hN1, hN2, hN3] at hF
  rw [hN0] at hm0 l0 k0
  rw [hN1] at hm1 l1 k1
  rw [hN2] at hm2 l2 k2
  rw [hN3] at hm3 l3 k3
  obtain ⟨x0, x1, x2, x3, x4, x5, x6, x7⟩ := id hF
  replace hF := Aside0.mk hF
  by_cases h3 : d3 = 4
  case neg =>
    have ht : Aside0 (decodeOf b = (21, [], [])) := ⟨by rw [hU.out, ← hU3, if_pos h3]⟩
    have hsplit : (d0 != 1) = true ∨ ((d0 != 1) = false ∧ (d1 != 2) = true) ∨ ((d0 != 1) = false ∧ (d1 != 2) = false ∧ (e2 != 3) = true) ∨ ((d0 != 1) = false ∧ (d1 != 2) = false ∧ (e2 != 3) = false ∧ (d3 != 4) = true) := by
      simp only [bne_iff_ne, bne_eq_false_iff_eq, ne_eq]
      omega
    replace hU3 := Aside0.mk hU3; replace hb0 := Aside0.mk hb0; replace hb1 := Aside0.mk hb1; replace hb2' := Aside0.mk hb2'; replace hb3 := Aside0.mk hb3; replace hN0 := Aside0.mk hN0; replace hN1 := Aside0.mk hN1; replace hN2 := Aside0.mk hN2; replace hN3 := Aside0.mk hN3; replace k0 := Aside0.mk k0; replace k1 := Aside0.mk k1; replace k2 := Aside0.mk k2; replace k3 := Aside0.mk k3; replace hris := Aside0.mk hris
    clear h3
    rcases hsplit with z1 | ⟨z1, z2⟩ | ⟨z1, z2, z3⟩ | ⟨z1, z2, z3, z4⟩
    all_goals
      go_wp2_with (first
        | ((with_reducible refine gate_op (.load 25 (.tmp 4)) rfl ?_); refine wpList_load_midB rfl _ _ rfl ⟨b4, 0, none⟩ rfl [.slice none 0 0, .slice none 0 0] _ (Bk.cells_row kb4.out) Tryz.underlying25 rfl szS2 ?_)
        | (((with_reducible refine gate_op (.store 25 (.tmp 2) (.tmp 57)) rfl ?_); refine wpList_store_midB rfl _ _ _ rfl b2 0 [.slice none 0 0, .slice none 0 0] rfl rfl 25 [.slice none 0 0, .slice none 0 0] kb2.out szS2 (Nat.le_refl _) oneS2 ?_; obtain ⟨kk, bb⟩ := boxed (cs := [.slice none 0 0, .slice none 0 0]) (cs2 := [.slice none 0 0, .slice none 0 0]) hb2.out kb2.out bb2.out rfl; revert kk bb; generalize World.setRow _ b2 (splice [.slice none 0 0, .slice none 0 0] 0 [.slice none 0 0, .slice none 0 0]).toArray = w3; clear kb2 bb2; intro kb2 bb2; replace kb2 := Aside0.mk kb2; replace bb2 := Aside0.mk bb2)))
      refine bodyPost_ret (results_ct rfl _ _ b2 _ _ _ _ rfl kb2.out Tryz.underlying25 rfl ?hi) rfl ?_
      case hi => exact szS2
      exact DecPost.odd ht.out bb2.out
  obtain ⟨rfl, rfl, rfl⟩ := kinds_four hris h3
  subst h3
  rw [if_neg (by simp)] at hU3
  obtain ⟨G, hG⟩ : ∃ G, N0 / 9 = G := ⟨_, rfl⟩
  obtain ⟨T, hTn⟩ : ∃ T, N2 / 27 = T := ⟨_, rfl⟩
  have hG1 : G ≤ 7281 := by omega
  have hT1 : T ≤ 2427 := by omega
  have hn0 : (N0 : Int) ≤ 65535 := by omega
  have hn2 : (N2 : Int) ≤ 65535 := by omega
  have gi : (N0 : Int) / 9 = (G : Int) := by omega
  have ti : (N2 : Int) / 27 = (T : Int) := by omega
  have hS : decodeS L0 L1 L2 L3 = if N0 ≠ 9 * G ∨ N1 ≠ 12 * G ∨ N2 ≠ 27 * T ∨ N3 ≠ 8 * T then (5, [], []) else
      if flagsOk L2 T = false then (5, [], []) else
      if checkOf ((groupsR L0 L1 G).map gOf) ((tasksR L2 L3 T).map tOf) ≠ 0 then (checkOf ((groupsR L0 L1 G).map gOf) ((tasksR L2 L3 T).map tOf), [], []) else
      (0, groupsR L0 L1 G, tasksR L2 L3 T) := by unfold decodeS; rw [hN0, hN1, hN2, hN3, hG, hTn]
  rw [hS] at hU3
  have g0i : (G : Int) ≤ 7281 := by omega
  have t0i : (T : Int) ≤ 2427 := by omega
  clear hS hris
  replace hU3 := Aside0.mk hU3; replace hb0 := Aside0.mk hb0; replace hb1 := Aside0.mk hb1; replace hb2' := Aside0.mk hb2'; replace hb3 := Aside0.mk hb3; replace hN0 := Aside0.mk hN0; replace hN1 := Aside0.mk hN1; replace hN2 := Aside0.mk hN2; replace hN3 := Aside0.mk hN3; replace k0 := Aside0.mk k0; replace k1 := Aside0.mk k1; replace k2 := Aside0.mk k2; replace k3 := Aside0.mk k3; replace hG := Aside0.mk hG; replace hTn := Aside0.mk hTn
  by_cases hform : N0 = 9 * G ∧ N1 = 12 * G ∧ N2 = 27 * T ∧ N3 = 8 * T
  case neg =>
    have ht : Aside0 (decodeOf b = (5, [], [])) := ⟨by rw [hU.out, ← hU3.out, if_pos (by omega)]⟩
    have hsplit : (((N0 : Int) != 9 * (G : Int)) = true) ∨ ((((N0 : Int) != 9 * (G : Int)) = false) ∧ (((N1 : Int) != 12 * (G : Int)) = true)) ∨ ((((N0 : Int) != 9 * (G : Int)) = false) ∧ (((N1 : Int) != 12 * (G : Int)) = false) ∧ (((N2 : Int) != 27 * (T : Int)) = true)) ∨ ((((N0 : Int) != 9 * (G : Int)) = false) ∧ (((N1 : Int) != 12 * (G : Int)) = false) ∧ (((N2 : Int) != 27 * (T : Int)) = false) ∧ (((N3 : Int) != 8 * (T : Int)) = true)) := by
      simp only [bne_iff_ne, bne_eq_false_iff_eq, ne_eq]
      omega
    clear hform
    rcases hsplit with z1 | ⟨z1, z2⟩ | ⟨z1, z2, z3⟩ | ⟨z1, z2, z3, z4⟩
    all_goals
      go_wp2_with (first
        | ((with_reducible refine gate_op (.load 25 (.tmp 4)) rfl ?_); refine wpList_load_midB rfl _ _ rfl ⟨b4, 0, none⟩ rfl [.slice none 0 0, .slice none 0 0] _ (Bk.cells_row kb4.out) Tryz.underlying25 rfl szS2 ?_)
        | (((with_reducible refine gate_op (.store 25 (.tmp 2) (.tmp 108)) rfl ?_); refine wpList_store_midB rfl _ _ _ rfl b2 0 [.slice none 0 0, .slice none 0 0] rfl rfl 25 [.slice none 0 0, .slice none 0 0] kb2.out szS2 (Nat.le_refl _) oneS2 ?_; obtain ⟨kk, bb⟩ := boxed (cs := [.slice none 0 0, .slice none 0 0]) (cs2 := [.slice none 0 0, .slice none 0 0]) hb2.out kb2.out bb2.out rfl; revert kk bb; generalize World.setRow _ b2 (splice [.slice none 0 0, .slice none 0 0] 0 [.slice none 0 0, .slice none 0 0]).toArray = w3; clear kb2 bb2; intro kb2 bb2; replace kb2 := Aside0.mk kb2; replace bb2 := Aside0.mk bb2)))
      refine bodyPost_ret (results_ct rfl _ _ b2 _ _ _ _ rfl kb2.out Tryz.underlying25 rfl ?hi) rfl ?_
      case hi => exact szS2
      exact DecPost.odd ht.out bb2.out
  obtain ⟨f0, f1, f2, f3⟩ := hform
  replace hU3 := hU3.out
  rw [if_neg (by omega)] at hU3
  have z1 : ((N0 : Int) != 9 * (G : Int)) = false := by simp only [bne_eq_false_iff_eq]; omega
  have z2 : ((N1 : Int) != 12 * (G : Int)) = false := by simp only [bne_eq_false_iff_eq]; omega
  have z3 : ((N2 : Int) != 27 * (T : Int)) = false := by simp only [bne_eq_false_iff_eq]; omega
  have z4 : ((N3 : Int) != 8 * (T : Int)) = false := by simp only [bne_eq_false_iff_eq]; omega
  replace hU3 := Aside0.mk hU3; replace f0 := Aside0.mk f0; replace f1 := Aside0.mk f1; replace f2 := Aside0.mk f2; replace f3 := Aside0.mk f3
  obtain ⟨wB, rfl⟩ : ∃ W, W = w2 := ⟨_, rfl⟩
  go_wp2_with (((with_reducible refine gate_dst (N := 9) rfl ?_); refine box_event ?hg (N := 9) ?hd (cs := #[.slice none 0 0, .slice none 0 0]) (t := 25) ?hr ?_; (case hd => rfl); (case hg => rfl); (case hr => first | (go_simp; done) | (go_simp; rfl)); intro b9 hb9 w5 kb9 bb9; replace hb9 := Aside0.mk hb9; replace kb9 := Aside0.mk kb9; replace bb9 := Aside0.mk bb9))
  clear z1 z2 z3 z4 x0 x1 x2 x3 x4 x5 x6 x7
  have hBl0 : Aside0 (Bld wB.heap.size wB b9 none 0 [] none 0 [] w5) := ⟨Bld.start bb9.out (by have := hb9.out; omega) kb9.out⟩
  clear bb9 kb9
  have kbB2 := kb2
  go_loopw [10] (fun iv wr => ∃ (k : Nat) (Ag : Option Addr) (cg : Nat), iv = .int .i64 k ∧ k ≤ G ∧ Aside0 (Bld wB.heap.size wB b9 Ag cg (groupsR L0 L1 k) none 0 [] wr)) (fun iv _ => G - (intOf iv).toNat)
  case atStart => exact ⟨0, none, 0, rfl, Nat.zero_le _, hBl0⟩
  case round =>
    obtain ⟨k, Ag, cg, rfl, hk, hB⟩ := hrel
    have hB0 := hB.out.below
    by_cases hlt : k < G
    · have i0 : 0 ≤ (k : Int) := by omega
      have q1 : (k : Int) < (G : Int) := by omega
      have e0 := f0.out
      have e1 := f1.out
      obtain ⟨g0, o0, rfl, -, -⟩ := C_at k0.out (show 0 < N0 by omega) (by decide)
      obtain ⟨g1, o1, rfl, -, -⟩ := C_at k1.out (show 0 < N1 by omega) (by decide)
      obtain ⟨j0, hj0⟩ : ∃ j : Nat, 9 * k = j := ⟨_, rfl⟩
      obtain ⟨j1, hj1⟩ : ∃ j : Nat, 12 * k = j := ⟨_, rfl⟩
      have r0 : 9 * (k : Int) = (j0 : Int) := by omega
      have r1 : 12 * (k : Int) = (j1 : Int) := by omega
      have u0 : ¬ c0 = j0 := by omega
      have u1 : ¬ c1 = j1 := by omega
      have v0 : (j0 : Int) ≤ (N0 : Int) := by omega
      have v1 : (j1 : Int) ≤ (N1 : Int) := by omega
      have v0c : (N0 : Int) ≤ (c0 : Int) := by omega
      have v1c : (N1 : Int) ≤ (c1 : Int) := by omega
      have d0 : U8.C wr.drew (some ⟨g0, o0 + j0, none⟩) (N0 - j0) (L0.drop j0) := by
        have := C_drop0 (Kd.C_below (Kd.C_below k0.out hB0) (Below.refl wr.heap.size wr).drew) j0 (by omega)
        rwa [Option.map_some, addAt] at this
      have d1 : U8.C wr.drew (some ⟨g1, o1 + j1, none⟩) (N1 - j1) (L1.drop j1) := by
        have := C_drop0 (Kd.C_below (Kd.C_below k1.out hB0) (Below.refl wr.heap.size wr).drew) j1 (by omega)
        rwa [Option.map_some, addAt] at this
      have p0 := inB_drop hb0.out j0
      have p1 := inB_drop hb1.out j1
      have a0 := rat_calls g0 (o0 + j0) (N0 - j0) (c0 - j0) (L0.drop j0) wr.drew d0 (by omega) (by omega) p0 0 3 0 3 rfl rfl (by decide) (by decide) (by omega)
      have a1 := rat_calls g0 (o0 + j0) (N0 - j0) (c0 - j0) (L0.drop j0) wr.drew d0 (by omega) (by omega) p0 3 3 3 3 rfl rfl (by decide) (by decide) (by omega)
      have a2 := rat_calls g0 (o0 + j0) (N0 - j0) (c0 - j0) (L0.drop j0) wr.drew d0 (by omega) (by omega) p0 6 3 6 3 rfl rfl (by decide) (by decide) (by omega)
      have a3 := rat_calls g1 (o1 + j1) (N1 - j1) (c1 - j1) (L1.drop j1) wr.drew d1 (by omega) (by omega) p1 0 3 0 3 rfl rfl (by decide) (by decide) (by omega)
      have a4 := rat_calls g1 (o1 + j1) (N1 - j1) (c1 - j1) (L1.drop j1) wr.drew d1 (by omega) (by omega) p1 3 3 3 3 rfl rfl (by decide) (by decide) (by omega)
      have a5 := rat_calls g1 (o1 + j1) (N1 - j1) (c1 - j1) (L1.drop j1) wr.drew d1 (by omega) (by omega) p1 6 6 6 6 rfl rfl (by decide) (by decide) (by omega)
      have hF2 := hF.out.below hB0
      obtain ⟨x0, x1, x2, x3, x4, x5, x6, x7⟩ := hF2
      have hgs := groupsR_succ L0 L1 k
      rw [hj0, hj1] at hgs
      have hgl := groupsR_length L0 L1 k
      have hgl2 := groupsR_length L0 L1 (k + 1)
      have hS0 := hB.out.drew
      have s0 := hS0.cellG
      rw [hgl] at s0
      obtain ⟨y0, hy0⟩ : ∃ y, nx (L0.drop j0) 3 = y := ⟨_, rfl⟩
      rw [show nx ((L0.drop j0).drop 0) 3 = y0 from hy0] at a0
      obtain ⟨y1, hy1⟩ : ∃ y, nx ((L0.drop j0).drop 3) 3 = y := ⟨_, rfl⟩
      rw [show nx ((L0.drop j0).drop 3) 3 = y1 from hy1] at a1
      obtain ⟨y2, hy2⟩ : ∃ y, nx ((L0.drop j0).drop 6) 3 = y := ⟨_, rfl⟩
      rw [show nx ((L0.drop j0).drop 6) 3 = y2 from hy2] at a2
      obtain ⟨y3, hy3⟩ : ∃ y, nx (L1.drop j1) 3 = y := ⟨_, rfl⟩
      rw [show nx ((L1.drop j1).drop 0) 3 = y3 from hy3] at a3
      obtain ⟨y4, hy4⟩ : ∃ y, nx ((L1.drop j1).drop 3) 3 = y := ⟨_, rfl⟩
      rw [show nx ((L1.drop j1).drop 3) 3 = y4 from hy4] at a4
      obtain ⟨y5, hy5⟩ : ∃ y, nx ((L1.drop j1).drop 6) 6 = y := ⟨_, rfl⟩
      rw [show nx ((L1.drop j1).drop 6) 6 = y5 from hy5] at a5
      have hxg : groupR (L0.drop j0) (L1.drop j1) = ⟨y0, y1, y2, ⟨y3, y4, y5⟩⟩ := by unfold groupR; rw [hy0, hy1, hy2, hy3, hy4, hy5]
      rw [hxg] at hgs
      have hl8 : ((groupsR L0 L1 k).length + 1) * 48 ≤ 140737488355328 := by rw [hgl]; omega
      have hfz := Aside0.mk hS0.rg
      clear hB0 d0 d1 p0 p1 e0 e1 x0 x2 x4 x5 x6 x7 hxg
      replace hgs := Aside0.mk hgs; replace hgl := Aside0.mk hgl; replace hgl2 := Aside0.mk hgl2; replace hS0 := Aside0.mk hS0; replace hl8 := Aside0.mk hl8; replace a0 := Aside0.mk a0; replace a1 := Aside0.mk a1; replace a2 := Aside0.mk a2; replace a3 := Aside0.mk a3; replace a4 := Aside0.mk a4; replace a5 := Aside0.mk a5; replace hj0 := Aside0.mk hj0; replace hj1 := Aside0.mk hj1; replace hy0 := Aside0.mk hy0; replace hy1 := Aside0.mk hy1; replace hy2 := Aside0.mk hy2; replace hy3 := Aside0.mk hy3; replace hy4 := Aside0.mk hy4; replace hy5 := Aside0.mk hy5
      go_wp2_with fail
      (refine Ht.beginZ 18 (fun w' => w'.cell? ⟨b9, 0, none⟩ = some (.slice Ag k cg)) (by kernel_rfl) (by kernel_rfl) s0 ?_; intro hSnow; (try dsimp only at hSnow); simp only [List.take_succ_cons, List.take_zero, List.drop_succ_cons, List.drop_zero]; ((refine Ht.Hz.take (v := ?_) 0 rfl (by decide) (by kernel_rfl) (by kernel_rfl) (fun _ _ _ h => h) (by with_reducible exact hSnow) (Or.inl ⟨by rfl, fun w hSw => ?_⟩) ?_; rotate_left; focus ((try dsimp only at hSw); go_simp; (try with_reducible rfl); done); (try simp only [List.getElem_toArray, List.getElem_cons_succ, List.getElem_cons_zero, Act.put, List.setIfInBounds_toArray, List.set_cons_zero, List.set_cons_succ])); (refine Ht.Hz.take (v := ?_) 1 rfl (by decide) (by kernel_rfl) (by kernel_rfl) (fun _ _ _ h => h) (by with_reducible exact hSnow) (Or.inl ⟨by rfl, fun w hSw => ?_⟩) ?_; rotate_left; focus ((try dsimp only at hSw); go_simp; (try with_reducible rfl); done); (try simp only [List.getElem_toArray, List.getElem_cons_succ, List.getElem_cons_zero, Act.put, List.setIfInBounds_toArray, List.set_cons_zero, List.set_cons_succ])); (refine Ht.Hz.take (v := ?_) 2 rfl (by decide) (by kernel_rfl) (by kernel_rfl) (fun _ _ _ h => h) (by with_reducible exact hSnow) (Or.inl ⟨by rfl, fun w hSw => ?_⟩) ?_; rotate_left; focus ((try dsimp only at hSw); go_simp; (try with_reducible rfl); done); (try simp only [List.getElem_toArray, List.getElem_cons_succ, List.getElem_cons_zero, Act.put, List.setIfInBounds_toArray, List.set_cons_zero, List.set_cons_succ])); (refine Ht.Hz.take (v := ?_) 4 rfl (by decide) (by kernel_rfl) (by kernel_rfl) (fun _ _ _ h => h) (by with_reducible exact hSnow) (Or.inl ⟨by rfl, fun w hSw => ?_⟩) ?_; rotate_left; focus ((try dsimp only at hSw); go_simp; (try with_reducible rfl); done); (try simp only [List.getElem_toArray, List.getElem_cons_succ, List.getElem_cons_zero, Act.put, List.setIfInBounds_toArray, List.set_cons_zero, List.set_cons_succ])); (refine Ht.Hz.take (v := ?_) 6 rfl (by decide) (by kernel_rfl) (by kernel_rfl) (fun _ _ _ h => h) (by with_reducible exact hSnow) (Or.inl ⟨by rfl, fun w hSw => ?_⟩) ?_; rotate_left; focus ((try dsimp only at hSw); go_simp; (try with_reducible rfl); done); (try simp only [List.getElem_toArray, List.getElem_cons_succ, List.getElem_cons_zero, Act.put, List.setIfInBounds_toArray, List.set_cons_zero, List.set_cons_succ])); (refine Ht.Hz.take (v := ?_) 8 rfl (by decide) (by kernel_rfl) (by kernel_rfl) (fun _ _ _ h => h) (by with_reducible exact hSnow) (Or.inl ⟨by rfl, fun w hSw => ?_⟩) ?_; rotate_left; focus ((try dsimp only at hSw); go_simp; (try with_reducible rfl); done); (try simp only [List.getElem_toArray, List.getElem_cons_succ, List.getElem_cons_zero, Act.put, List.setIfInBounds_toArray, List.set_cons_zero, List.set_cons_succ])); (refine Ht.Hz.take (v := ?_) 10 rfl (by decide) (by kernel_rfl) (by kernel_rfl) (fun _ _ _ h => h) (by with_reducible exact hSnow) (Or.inl ⟨by rfl, fun w hSw => ?_⟩) ?_; rotate_left; focus ((try dsimp only at hSw); go_simp; (try with_reducible rfl); done); (try simp only [List.getElem_toArray, List.getElem_cons_succ, List.getElem_cons_zero, Act.put, List.setIfInBounds_toArray, List.set_cons_zero, List.set_cons_succ])); (refine Ht.Hz.take (v := ?_) 12 rfl (by decide) (by kernel_rfl) (by kernel_rfl) (fun _ _ _ h => h) (by with_reducible exact hSnow) (Or.inl ⟨by rfl, fun w hSw => ?_⟩) ?_; rotate_left; focus ((try dsimp only at hSw); go_simp; (try with_reducible rfl); done); (try simp only [List.getElem_toArray, List.getElem_cons_succ, List.getElem_cons_zero, Act.put, List.setIfInBounds_toArray, List.set_cons_zero, List.set_cons_succ]))))
      generalize wr.drew = wd at s0 hSnow a0 a1 a2 a3 a4 a5 hS0 ⊢
      ((with_reducible refine Ht.Hz.effectAt 3 (by decide) (by decide) (by kernel_rfl) ?_); (try simp only [List.getElem_toArray, List.getElem_cons_succ, List.getElem_cons_zero]); go_wp2_with ((go_at_call 32; (with_reducible refine a0.out.mono ?_); rintro e wf ⟨rfl, hwf⟩; replace hwf := hwf.symm; subst hwf)); refine ⟨s0, ?_⟩; clear hSnow; (have hSnow := s0); (try simp only [List.getElem_toArray, List.getElem_cons_succ, List.getElem_cons_zero, Act.put, List.setIfInBounds_toArray, List.set_cons_zero, List.set_cons_succ]))
      ((with_reducible refine Ht.Hz.effectAt 5 (by decide) (by decide) (by kernel_rfl) ?_); (try simp only [List.getElem_toArray, List.getElem_cons_succ, List.getElem_cons_zero]); go_wp2_with ((go_at_call 32; (with_reducible refine a1.out.mono ?_); rintro e wf ⟨rfl, hwf⟩; replace hwf := hwf.symm; subst hwf)); refine ⟨s0, ?_⟩; clear hSnow; (have hSnow := s0); (try simp only [List.getElem_toArray, List.getElem_cons_succ, List.getElem_cons_zero, Act.put, List.setIfInBounds_toArray, List.set_cons_zero, List.set_cons_succ]))
      ((with_reducible refine Ht.Hz.effectAt 7 (by decide) (by decide) (by kernel_rfl) ?_); (try simp only [List.getElem_toArray, List.getElem_cons_succ, List.getElem_cons_zero]); go_wp2_with ((go_at_call 32; (with_reducible refine a2.out.mono ?_); rintro e wf ⟨rfl, hwf⟩; replace hwf := hwf.symm; subst hwf)); refine ⟨s0, ?_⟩; clear hSnow; (have hSnow := s0); (try simp only [List.getElem_toArray, List.getElem_cons_succ, List.getElem_cons_zero, Act.put, List.setIfInBounds_toArray, List.set_cons_zero, List.set_cons_succ]))
      ((with_reducible refine Ht.Hz.effectAt 9 (by decide) (by decide) (by kernel_rfl) ?_); (try simp only [List.getElem_toArray, List.getElem_cons_succ, List.getElem_cons_zero]); go_wp2_with ((go_at_call 32; (with_reducible refine a3.out.mono ?_); rintro e wf ⟨rfl, hwf⟩; replace hwf := hwf.symm; subst hwf)); refine ⟨s0, ?_⟩; clear hSnow; (have hSnow := s0); (try simp only [List.getElem_toArray, List.getElem_cons_succ, List.getElem_cons_zero, Act.put, List.setIfInBounds_toArray, List.set_cons_zero, List.set_cons_succ]))
      ((with_reducible refine Ht.Hz.effectAt 11 (by decide) (by decide) (by kernel_rfl) ?_); (try simp only [List.getElem_toArray, List.getElem_cons_succ, List.getElem_cons_zero]); go_wp2_with ((go_at_call 32; (with_reducible refine a4.out.mono ?_); rintro e wf ⟨rfl, hwf⟩; replace hwf := hwf.symm; subst hwf)); refine ⟨s0, ?_⟩; clear hSnow; (have hSnow := s0); (try simp only [List.getElem_toArray, List.getElem_cons_succ, List.getElem_cons_zero, Act.put, List.setIfInBounds_toArray, List.set_cons_zero, List.set_cons_succ]))
      ((with_reducible refine Ht.Hz.effectAt 13 (by decide) (by decide) (by kernel_rfl) ?_); (try simp only [List.getElem_toArray, List.getElem_cons_succ, List.getElem_cons_zero]); go_wp2_with ((go_at_call 32; (with_reducible refine a5.out.mono ?_); rintro e wf ⟨rfl, hwf⟩; replace hwf := hwf.symm; subst hwf)); refine ⟨s0, ?_⟩; clear hSnow; (have hSnow := s0); (try simp only [List.getElem_toArray, List.getElem_cons_succ, List.getElem_cons_zero, Act.put, List.setIfInBounds_toArray, List.set_cons_zero, List.set_cons_succ]))
      ((refine Ht.Hz.take (v := ?_) 14 rfl (by decide) (by kernel_rfl) (by kernel_rfl) (fun _ _ _ h => h) (by with_reducible exact hSnow) (Or.inl ⟨by rfl, fun w hSw => ?_⟩) ?_; rotate_left; focus ((try dsimp only at hSw); go_simp; (try with_reducible rfl); done); (try simp only [List.getElem_toArray, List.getElem_cons_succ, List.getElem_cons_zero, Act.put, List.setIfInBounds_toArray, List.set_cons_zero, List.set_cons_succ])); (refine Ht.Hz.take (v := ?_) 15 rfl (by decide) (by kernel_rfl) (by kernel_rfl) (fun _ _ _ h => h) (by with_reducible exact hSnow) (Or.inl ⟨by rfl, fun w hSw => ?_⟩) ?_; rotate_left; focus ((try dsimp only at hSw); go_simp; (try with_reducible rfl); done); (try simp only [List.getElem_toArray, List.getElem_cons_succ, List.getElem_cons_zero, Act.put, List.setIfInBounds_toArray, List.set_cons_zero, List.set_cons_succ])))
      have bA := below_alloc (Below.refl wd.heap.size wd) (.cells #[.int .i64 y0, .int .i64 y1, .int .i64 y2, .int .i64 y3, .int .i64 y4, .int .i64 y5] 50)
      have s1 := pw_cell_below bA s0
      clear bA
      ((with_reducible refine Ht.Hz.effectAt 16 (by decide) (by decide) (by kernel_rfl) ?_); (try simp only [List.getElem_toArray, List.getElem_cons_succ, List.getElem_cons_zero]); go_wp2_with ((fail)); refine ⟨s1, ?_⟩; clear hSnow; (have hSnow := s1); (try simp only [List.getElem_toArray, List.getElem_cons_succ, List.getElem_cons_zero, Act.put, List.setIfInBounds_toArray, List.set_cons_zero, List.set_cons_succ]))
      ((with_reducible refine Ht.Hz.effectAt 17 (by decide) (by decide) (by kernel_rfl) ?_); (try simp only [List.getElem_toArray, List.getElem_cons_succ, List.getElem_cons_zero]); go_wp2_with (((with_reducible refine gate_builtin (b := .append) (xs := #[.tmp 129, .tmp 144]) rfl ?_); at_builtin; refine Kd.R_append kG (w0 := wB) wB.heap.size rfl (.tmp 129) (.tmp 144) 22 50 (.agg zG.toArray) 48 rfl Tryz.underlying22 infoG3 rfl (by decide) (by omega) (.slice Ag k cg) (groupsR L0 L1 k) (⟨y0, y1, y2, ⟨y3, y4, y5⟩⟩ : SG) [.int .i64 y0, .int .i64 y1, .int .i64 y2, .int .i64 y3, .int .i64 y4, .int .i64 y5] (fun _ => True) (fun _ => False) rfl rfl ?aP (fun _ hk => hk.elim) (fun _ _ => trivial) (by have := hS0.out.rg; rwa [hgl.out] at this) hS0.out.below hS0.out.size hl8.out ?_; (case aP => exact k50_mkM _ _ _ (⟨y0, y1, y2, ⟨y3, y4, y5⟩⟩ : SG)); intro v2 w11 hR11 hb11 hg11 hat11; rw [← hgs.out] at hR11; (obtain ⟨A2g, c2g, ev2, hd2, _⟩ := Kd.R_reads hR11); rw [hgl2.out] at ev2; subst ev2; (have hg11' : wd.grownBy w11 (Value.slice Ag (groupsR L0 L1 k).length cg).ownBlock := (by rw [hgl.out]; exact hg11)); (have hr11 := (hg11'.block b9 (lt_row hS0.out.row) (fun e => Kd.R_ne hS0.out.rg hS0.out.row (by decide) e)).trans hS0.out.row); (have d011 := (Kf.cell_row hr11 0).trans (rfl : _ = some (Value.slice Ag (groupsR L0 L1 k).length cg))); rw [hgl.out] at d011; (have d111 : w11.frozen? ⟨b9, 0, none⟩ = false := frozen_row hr11 0); (have hR12 : kG.R 50 w11 wB.heap.size (fun _ => True) (.slice A2g (groupsR L0 L1 (k + 1)).length c2g) (groupsR L0 L1 (k + 1)) := by rw [hgl2.out]; exact hR11); (have hS12 := hS0.out.pushG hR12 hb11 hg11'); rw [hgl2.out] at hS12; clear hR11 hR12 hg11 hg11' hat11 hr11 hb11; replace hS12 := Aside0.mk hS12)); refine ⟨d011, ?_⟩; clear hSnow; (have hSnow := d011); (try simp only [List.getElem_toArray, List.getElem_cons_succ, List.getElem_cons_zero, Act.put, List.setIfInBounds_toArray, List.set_cons_zero, List.set_cons_succ]))
      (refine Ht.Hz.done (by kernel_rfl) ?_; clear hSnow)
      go_wp2_with fail
      go_roundw
      case rel => exact ⟨k + 1, A2g, c2g, by simp, by omega, hS12⟩
      case measure => show G - ((k : Int) + 1).toNat < G - (k : Int).toNat; omega
    · obtain rfl : G = k := by omega
      clear hBl0 hk hlt
      obtain ⟨wy, hwy⟩ : ∃ W, W = wr := ⟨_, rfl⟩
      rw [← hwy] at hB ⊢
      clear hwy hB0 wr
      go_wp2_with fail
      go_loopw [13] (fun iv wr => ∃ (k : Nat) (Bt : Option Addr) (dt : Nat), iv = .int .i64 k ∧ k ≤ T ∧ Aside0 (flagsOk L2 k = true) ∧ Aside0 (Bld wB.heap.size wB b9 Ag cg (groupsR L0 L1 G) Bt dt (tasksR L2 L3 k) wr)) (fun iv _ => T - (intOf iv).toNat)
      case atStart => exact ⟨0, none, 0, rfl, Nat.zero_le _, ⟨rfl⟩, hB⟩
      case round =>
        obtain ⟨k, Bt, dt, rfl, hk, hfl, hB⟩ := hrel
        have hB0 := hB.out.below
        by_cases hlt : k < T
        · have i0 : 0 ≤ (k : Int) := by omega
          have q1 : (k : Int) < (T : Int) := by omega
          have e0 := f2.out
          have e1 := f3.out
          obtain ⟨g2, o2, rfl, -, -⟩ := C_at k2.out (show 0 < N2 by omega) (by decide)
          obtain ⟨g3, o3, rfl, -, -⟩ := C_at k3.out (show 0 < N3 by omega) (by decide)
          obtain ⟨j0, hj0⟩ : ∃ j : Nat, 27 * k = j := ⟨_, rfl⟩
          obtain ⟨j1, hj1⟩ : ∃ j : Nat, 8 * k = j := ⟨_, rfl⟩
          have r0 : 27 * (k : Int) = (j0 : Int) := by omega
          have u0 : ¬ d2 = j0 := by omega
          have v0 : (j0 : Int) ≤ (N2 : Int) := by omega
          have v0c : (N2 : Int) ≤ (d2 : Int) := by omega
          have dB : U8.C wB (some ⟨g2, o2 + j0, none⟩) (N2 - j0) (L2.drop j0) := by
            have := C_drop0 k2.out j0 (by omega)
            rwa [Option.map_some, addAt] at this
          have d0 : U8.C wr.drew (some ⟨g2, o2 + j0, none⟩) (N2 - j0) (L2.drop j0) := Kd.C_below (Kd.C_below dB hB0) (Below.refl wr.heap.size wr).drew
          have d1 : U8.C wr.drew (some ⟨g3, o3 + j1, none⟩) 8 ((L3.drop j1).take 8) := cut_N (Kd.C_below (Kd.C_below k3.out hB0) (Below.refl wr.heap.size wr).drew) j1 8 (by omega)
          have p0 := inB_drop hb2'.out j0
          have xB9 := cell_N dB 9 (by omega)
          have n9 := nx_one (xs := L2.drop j0) p0 (by rw [List.length_drop, hN2.out]; omega)
          obtain ⟨fl, hfl9⟩ : ∃ f, rd (L2.drop j0) ((9 : Nat) : Int) = f := ⟨_, rfl⟩
          rw [hfl9] at xB9 n9
          have fl0 := rd_inB p0 (i := 9) (by rw [List.length_drop, hN2.out]; omega)
          rw [hfl9] at fl0
          obtain ⟨fl1, fl2⟩ := fl0
          have hfo : flagOk (L2.drop (27 * k)) = decide (fl ≤ 1) := by rw [hj0]; unfold flagOk; rw [n9]
          have hfs := flagsOk_succ L2 k
          rw [hfl.out, hfo, Bool.true_and] at hfs
          have hff := fun h => flagsOk_false (xs := L2) (n := T) hlt (hfo.trans h)
          have xr9 := pw_cell_below' hB0 xB9
          obtain ⟨M, hM⟩ : ∃ M, N2 - j0 = M := ⟨_, rfl⟩
          have m9 : (9 : Int) < (M : Int) := by omega
          have hF2 := hF.out.below hB0
          obtain ⟨x0, x1, x2, x3, x4, x5, x6, x7⟩ := hF2
          have xB7 := hF.out.x7
          have a0 := rat_calls g2 (o2 + j0) (N2 - j0) (d2 - j0) (L2.drop j0) wr.drew d0 (by omega) (by omega) p0 0 3 0 3 rfl rfl (by decide) (by decide) (by omega)
          have a1 := rat_calls g2 (o2 + j0) (N2 - j0) (d2 - j0) (L2.drop j0) wr.drew d0 (by omega) (by omega) p0 3 3 3 3 rfl rfl (by decide) (by decide) (by omega)
          have a2 := rat_calls g2 (o2 + j0) (N2 - j0) (d2 - j0) (L2.drop j0) wr.drew d0 (by omega) (by omega) p0 6 3 6 3 rfl rfl (by decide) (by decide) (by omega)
          have a3 := rat_calls g2 (o2 + j0) (N2 - j0) (d2 - j0) (L2.drop j0) wr.drew d0 (by omega) (by omega) p0 10 6 10 6 rfl rfl (by decide) (by decide) (by omega)
          have a4 := rat_calls g2 (o2 + j0) (N2 - j0) (d2 - j0) (L2.drop j0) wr.drew d0 (by omega) (by omega) p0 16 8 16 8 rfl rfl (by decide) (by decide) (by omega)
          have a5 := rat_calls g2 (o2 + j0) (N2 - j0) (d2 - j0) (L2.drop j0) wr.drew d0 (by omega) (by omega) p0 24 3 24 3 rfl rfl (by decide) (by decide) (by omega)
          have a6 := rNumber_calls (some ⟨g3, o3 + j1, none⟩) 8 (c3 - j1) ((L3.drop j1).take 8) wr.drew d1 (inB_take (inB_drop hb3.out j1) 8) (by decide)
          have hgs := tasksR_succ L2 L3 k
          rw [hj0, hj1] at hgs
          have hgl := tasksR_length L2 L3 k
          have hgl2 := tasksR_length L2 L3 (k + 1)
          have hS0 := hB.out.drew
          have s0c := hS0.cellT
          rw [hgl] at s0c
          obtain ⟨y0, hy0⟩ : ∃ y, nx (L2.drop j0) 3 = y := ⟨_, rfl⟩
          rw [show nx ((L2.drop j0).drop 0) 3 = y0 from hy0] at a0
          obtain ⟨y1, hy1⟩ : ∃ y, nx ((L2.drop j0).drop 3) 3 = y := ⟨_, rfl⟩
          rw [show nx ((L2.drop j0).drop 3) 3 = y1 from hy1] at a1
          obtain ⟨y2, hy2⟩ : ∃ y, nx ((L2.drop j0).drop 6) 3 = y := ⟨_, rfl⟩
          rw [show nx ((L2.drop j0).drop 6) 3 = y2 from hy2] at a2
          obtain ⟨y3, hy3⟩ : ∃ y, nx ((L2.drop j0).drop 10) 6 = y := ⟨_, rfl⟩
          rw [show nx ((L2.drop j0).drop 10) 6 = y3 from hy3] at a3
          obtain ⟨y4, hy4⟩ : ∃ y, nx ((L2.drop j0).drop 16) 8 = y := ⟨_, rfl⟩
          rw [show nx ((L2.drop j0).drop 16) 8 = y4 from hy4] at a4
          obtain ⟨y5, hy5⟩ : ∃ y, nx ((L2.drop j0).drop 24) 3 = y := ⟨_, rfl⟩
          rw [show nx ((L2.drop j0).drop 24) 3 = y5 from hy5] at a5
          obtain ⟨y6, hy6⟩ : ∃ y, leNum ((L3.drop j1).take 8) = y := ⟨_, rfl⟩
          rw [hy6] at a6
          have hxg : taskR (L2.drop j0) (L3.drop j1) = ⟨y0, y1, y2, y6, fl == 1, y3, ⟨y4, y5⟩⟩ := by unfold taskR; rw [hy0, hy1, hy2, hy3, hy4, hy5, hy6, n9]
          rw [hxg] at hgs
          have hl8 : ((tasksR L2 L3 k).length + 1) * 64 ≤ 140737488355328 := by rw [hgl]; omega
          have s0 : wr.drew.cell? ⟨b9, 1, none⟩ = some (.slice Bt k dt) ∧ wr.drew.cell? ⟨q, o + 7, none⟩ = some (.slice (some ⟨g3, o3, none⟩) N3 c3) ∧ wr.drew.cell? ⟨g2, o2 + j0 + 9, none⟩ = some (.int .u8 fl) := ⟨s0c, x7, xr9⟩
          have hkeep : ∀ W, Below wB.heap.size wB W → W.cell? ⟨q, o + 7, none⟩ = some (.slice (some ⟨g3, o3, none⟩) N3 c3) ∧ W.cell? ⟨g2, o2 + j0 + 9, none⟩ = some (.int .u8 fl) := fun W hW => ⟨pw_cell_below' hW xB7, pw_cell_below' hW xB9⟩
          have kb4r := row_below' hB0 kb4.out
          have kb2r := row_below' hB0 kb2.out
          have bb2r := bb2.out.trans (hB0.mono bb2.out.size)
          have w1 : IntKind.i64.wrap (8 * (k : Int)) = (j1 : Int) := by rw [IntWalk.i64_in _ (by omega)]; omega
          have w2' : IntKind.i64.wrap ((j1 : Int) + 8) = (j1 : Int) + 8 := IntWalk.i64_in _ (by omega)
          have w3' : 0 ≤ (j1 : Int) + 8 := by omega
          have w4 : ((j1 : Int) + 8).toNat = j1 + 8 := by omega
          have w5' : (j1 : Int) + 8 ≤ (c3 : Int) := by omega
          have w6 : ¬ c3 = j1 := by omega
          have w7 : (j1 : Int) ≤ (c3 : Int) := by omega
          have w8 : j1 + 8 - j1 = 8 := by omega
          rw [hM] at a0 a1 a2 a3 a4 a5
          clear hB0 d0 d1 dB p0 e0 e1 x0 x1 x2 x3 x4 x6 x7 xB7 xB9 hxg hfo hfl9 s0c hj0 hj1
          replace hgs := Aside0.mk hgs; replace hgl := Aside0.mk hgl; replace hgl2 := Aside0.mk hgl2; replace hS0 := Aside0.mk hS0; replace hl8 := Aside0.mk hl8; replace a0 := Aside0.mk a0; replace a1 := Aside0.mk a1; replace a2 := Aside0.mk a2; replace a3 := Aside0.mk a3; replace a4 := Aside0.mk a4; replace a5 := Aside0.mk a5; replace a6 := Aside0.mk a6; replace hy0 := Aside0.mk hy0; replace hy1 := Aside0.mk hy1; replace hy2 := Aside0.mk hy2; replace hy3 := Aside0.mk hy3; replace hy4 := Aside0.mk hy4; replace hy5 := Aside0.mk hy5; replace hy6 := Aside0.mk hy6; replace hfs := Aside0.mk hfs; replace hff := Aside0.mk hff; replace n9 := Aside0.mk n9; replace hkeep := Aside0.mk hkeep; replace kb2r := Aside0.mk kb2r; replace kb4r := Aside0.mk kb4r; replace bb2r := Aside0.mk bb2r
          by_cases hf1 : 1 < fl
          · have ht : Aside0 (decodeOf b = (5, [], [])) := ⟨by rw [hU.out, ← hU3.out, if_pos (hff.out (decide_eq_false (by omega)))]⟩
            replace kb2 := kb2r
            replace kb4 := kb4r
            replace bb2 := bb2r
            go_wp2_with (first
              | ((with_reducible refine gate_op (.load 25 (.tmp 4)) rfl ?_); refine wpList_load_midB rfl _ _ rfl ⟨b4, 0, none⟩ rfl [.slice none 0 0, .slice none 0 0] _ (Bk.cells_row kb4.out) Tryz.underlying25 rfl szS2 ?_)
              | (((with_reducible refine gate_op (.store 25 (.tmp 2) (.tmp 163)) rfl ?_); refine wpList_store_midB rfl _ _ _ rfl b2 0 [.slice none 0 0, .slice none 0 0] rfl rfl 25 [.slice none 0 0, .slice none 0 0] kb2.out szS2 (Nat.le_refl _) oneS2 ?_; obtain ⟨kk, bb⟩ := boxed (cs := [.slice none 0 0, .slice none 0 0]) (cs2 := [.slice none 0 0, .slice none 0 0]) hb2.out kb2.out bb2.out rfl; revert kk bb; generalize World.setRow _ b2 (splice [.slice none 0 0, .slice none 0 0] 0 [.slice none 0 0, .slice none 0 0]).toArray = w3; clear kb2 bb2; intro kb2 bb2; replace kb2 := Aside0.mk kb2; replace bb2 := Aside0.mk bb2)))
            refine bodyPost_ret (results_ct rfl _ _ b2 _ _ _ _ rfl kb2.out Tryz.underlying25 rfl ?hi) rfl ?_
            case hi => exact szS2
            exact DecPost.odd ht.out bb2.out
          have hf2 : ¬ 1 < fl := hf1
          have hfs2 : Aside0 (flagsOk L2 (k + 1) = true) := ⟨by rw [hfs.out]; exact decide_eq_true (by omega)⟩
          go_wp2_with fail
          (refine Ht.beginZ 33 (fun w' => w'.cell? ⟨b9, 1, none⟩ = some (.slice Bt k dt) ∧ w'.cell? ⟨q, o + 7, none⟩ = some (.slice (some ⟨g3, o3, none⟩) N3 c3) ∧ w'.cell? ⟨g2, o2 + j0 + 9, none⟩ = some (.int .u8 fl)) (by kernel_rfl) (by kernel_rfl) s0 ?_; intro hSnow; (try dsimp only at hSnow); simp only [List.take_succ_cons, List.take_zero, List.drop_succ_cons, List.drop_zero]; ((refine Ht.Hz.take (v := ?_) 0 rfl (by decide) (by kernel_rfl) (by kernel_rfl) (fun _ _ _ h => h) (by with_reducible exact hSnow) (Or.inl ⟨by rfl, fun w hSw => ?_⟩) ?_; rotate_left; focus ((try dsimp only at hSw); go_simp; (try with_reducible rfl); done); (try simp only [List.getElem_toArray, List.getElem_cons_succ, List.getElem_cons_zero, Act.put, List.setIfInBounds_toArray, List.set_cons_zero, List.set_cons_succ])); (refine Ht.Hz.take (v := ?_) 1 rfl (by decide) (by kernel_rfl) (by kernel_rfl) (fun _ _ _ h => h) (by with_reducible exact hSnow) (Or.inl ⟨by rfl, fun w hSw => ?_⟩) ?_; rotate_left; focus ((try dsimp only at hSw); go_simp; (try with_reducible rfl); done); (try simp only [List.getElem_toArray, List.getElem_cons_succ, List.getElem_cons_zero, Act.put, List.setIfInBounds_toArray, List.set_cons_zero, List.set_cons_succ])); (refine Ht.Hz.take (v := ?_) 2 rfl (by decide) (by kernel_rfl) (by kernel_rfl) (fun _ _ _ h => h) (by with_reducible exact hSnow) (Or.inl ⟨by rfl, fun w hSw => ?_⟩) ?_; rotate_left; focus ((try dsimp only at hSw); go_simp; (try with_reducible rfl); done); (try simp only [List.getElem_toArray, List.getElem_cons_succ, List.getElem_cons_zero, Act.put, List.setIfInBounds_toArray, List.set_cons_zero, List.set_cons_succ])); (refine Ht.Hz.take (v := ?_) 4 rfl (by decide) (by kernel_rfl) (by kernel_rfl) (fun _ _ _ h => h) (by with_reducible exact hSnow) (Or.inl ⟨by rfl, fun w hSw => ?_⟩) ?_; rotate_left; focus ((try dsimp only at hSw); go_simp; (try with_reducible rfl); done); (try simp only [List.getElem_toArray, List.getElem_cons_succ, List.getElem_cons_zero, Act.put, List.setIfInBounds_toArray, List.set_cons_zero, List.set_cons_succ])); (refine Ht.Hz.take (v := ?_) 6 rfl (by decide) (by kernel_rfl) (by kernel_rfl) (fun _ _ _ h => h) (by with_reducible exact hSnow) (Or.inl ⟨by rfl, fun w hSw => ?_⟩) ?_; rotate_left; focus ((try dsimp only at hSw); go_simp; (try with_reducible rfl); done); (try simp only [List.getElem_toArray, List.getElem_cons_succ, List.getElem_cons_zero, Act.put, List.setIfInBounds_toArray, List.set_cons_zero, List.set_cons_succ])); (refine Ht.Hz.take (v := ?_) 8 rfl (by decide) (by kernel_rfl) (by kernel_rfl) (fun _ _ _ h => h) (by with_reducible exact hSnow) (Or.inl ⟨by rfl, fun w hSw => ?_⟩) ?_; rotate_left; focus ((try dsimp only at hSw); go_simp; (try with_reducible rfl); done); (try simp only [List.getElem_toArray, List.getElem_cons_succ, List.getElem_cons_zero, Act.put, List.setIfInBounds_toArray, List.set_cons_zero, List.set_cons_succ])); (refine Ht.Hz.take (v := ?_) 9 rfl (by decide) (by kernel_rfl) (by kernel_rfl) (fun _ _ _ h => h) (by with_reducible exact hSnow) (Or.inl ⟨by rfl, fun w hSw => ?_⟩) ?_; rotate_left; focus ((try dsimp only at hSw); go_simp; (try with_reducible rfl); done); (try simp only [List.getElem_toArray, List.getElem_cons_succ, List.getElem_cons_zero, Act.put, List.setIfInBounds_toArray, List.set_cons_zero, List.set_cons_succ])); (refine Ht.Hz.take (v := ?_) 10 rfl (by decide) (by kernel_rfl) (by kernel_rfl) (fun _ _ _ h => h) (by with_reducible exact hSnow) (Or.inl ⟨by rfl, fun w hSw => ?_⟩) ?_; rotate_left; focus ((try dsimp only at hSw); go_simp; (try with_reducible rfl); done); (try simp only [List.getElem_toArray, List.getElem_cons_succ, List.getElem_cons_zero, Act.put, List.setIfInBounds_toArray, List.set_cons_zero, List.set_cons_succ])); (refine Ht.Hz.take (v := ?_) 11 rfl (by decide) (by kernel_rfl) (by kernel_rfl) (fun _ _ _ h => h) (by with_reducible exact hSnow) (Or.inl ⟨by rfl, fun w hSw => ?_⟩) ?_; rotate_left; focus ((try dsimp only at hSw); go_simp; (try with_reducible rfl); done); (try simp only [List.getElem_toArray, List.getElem_cons_succ, List.getElem_cons_zero, Act.put, List.setIfInBounds_toArray, List.set_cons_zero, List.set_cons_succ])); (refine Ht.Hz.take (v := ?_) 12 rfl (by decide) (by kernel_rfl) (by kernel_rfl) (fun _ _ _ h => h) (by with_reducible exact hSnow) (Or.inl ⟨by rfl, fun w hSw => ?_⟩) ?_; rotate_left; focus ((try dsimp only at hSw); go_simp; (try with_reducible rfl); done); (try simp only [List.getElem_toArray, List.getElem_cons_succ, List.getElem_cons_zero, Act.put, List.setIfInBounds_toArray, List.set_cons_zero, List.set_cons_succ])); (refine Ht.Hz.take (v := ?_) 14 rfl (by decide) (by kernel_rfl) (by kernel_rfl) (fun _ _ _ h => h) (by with_reducible exact hSnow) (Or.inl ⟨by rfl, fun w hSw => ?_⟩) ?_; rotate_left; focus ((try dsimp only at hSw); go_simp; (try with_reducible rfl); done); (try simp only [List.getElem_toArray, List.getElem_cons_succ, List.getElem_cons_zero, Act.put, List.setIfInBounds_toArray, List.set_cons_zero, List.set_cons_succ])); (refine Ht.Hz.take (v := ?_) 16 rfl (by decide) (by kernel_rfl) (by kernel_rfl) (fun _ _ _ h => h) (by with_reducible exact hSnow) (Or.inl ⟨by rfl, fun w hSw => ?_⟩) ?_; rotate_left; focus ((try dsimp only at hSw); go_simp; (try with_reducible rfl); done); (try simp only [List.getElem_toArray, List.getElem_cons_succ, List.getElem_cons_zero, Act.put, List.setIfInBounds_toArray, List.set_cons_zero, List.set_cons_succ])); (refine Ht.Hz.take (v := ?_) 19 rfl (by decide) (by kernel_rfl) (by kernel_rfl) (fun _ _ _ h => h) (by with_reducible exact hSnow) (Or.inl ⟨by rfl, fun w hSw => ?_⟩) ?_; rotate_left; focus ((try dsimp only at hSw); go_simp; (try with_reducible rfl); done); (try simp only [List.getElem_toArray, List.getElem_cons_succ, List.getElem_cons_zero, Act.put, List.setIfInBounds_toArray, List.set_cons_zero, List.set_cons_succ])); (refine Ht.Hz.take (v := ?_) 20 rfl (by decide) (by kernel_rfl) (by kernel_rfl) (fun _ _ _ h => h) (by with_reducible exact hSnow) (Or.inl ⟨by rfl, fun w hSw => ?_⟩) ?_; rotate_left; focus ((try dsimp only at hSw); go_simp; (try with_reducible rfl); done); (try simp only [List.getElem_toArray, List.getElem_cons_succ, List.getElem_cons_zero, Act.put, List.setIfInBounds_toArray, List.set_cons_zero, List.set_cons_succ])); (refine Ht.Hz.take (v := ?_) 21 rfl (by decide) (by kernel_rfl) (by kernel_rfl) (fun _ _ _ h => h) (by with_reducible exact hSnow) (Or.inl ⟨by rfl, fun w hSw => ?_⟩) ?_; rotate_left; focus ((try dsimp only at hSw); go_simp; (try with_reducible rfl); done); (try simp only [List.getElem_toArray, List.getElem_cons_succ, List.getElem_cons_zero, Act.put, List.setIfInBounds_toArray, List.set_cons_zero, List.set_cons_succ])); (refine Ht.Hz.take (v := ?_) 22 rfl (by decide) (by kernel_rfl) (by kernel_rfl) (fun _ _ _ h => h) (by with_reducible exact hSnow) (Or.inl ⟨by rfl, fun w hSw => ?_⟩) ?_; rotate_left; focus ((try dsimp only at hSw); go_simp; (try with_reducible rfl); done); (try simp only [List.getElem_toArray, List.getElem_cons_succ, List.getElem_cons_zero, Act.put, List.setIfInBounds_toArray, List.set_cons_zero, List.set_cons_succ])); (refine Ht.Hz.take (v := ?_) 23 rfl (by decide) (by kernel_rfl) (by kernel_rfl) (fun _ _ _ h => h) (by with_reducible exact hSnow) (Or.inl ⟨by rfl, fun w hSw => ?_⟩) ?_; rotate_left; focus ((try dsimp only at hSw); go_simp; (try with_reducible rfl); done); (try simp only [List.getElem_toArray, List.getElem_cons_succ, List.getElem_cons_zero, Act.put, List.setIfInBounds_toArray, List.set_cons_zero, List.set_cons_succ])); (refine Ht.Hz.take (v := ?_) 24 rfl (by decide) (by kernel_rfl) (by kernel_rfl) (fun _ _ _ h => h) (by with_reducible exact hSnow) (Or.inl ⟨by rfl, fun w hSw => ?_⟩) ?_; rotate_left; focus ((try dsimp only at hSw); go_simp; (try with_reducible rfl); done); (try simp only [List.getElem_toArray, List.getElem_cons_succ, List.getElem_cons_zero, Act.put, List.setIfInBounds_toArray, List.set_cons_zero, List.set_cons_succ])); (refine Ht.Hz.take (v := ?_) 25 rfl (by decide) (by kernel_rfl) (by kernel_rfl) (fun _ _ _ h => h) (by with_reducible exact hSnow) (Or.inl ⟨by rfl, fun w hSw => ?_⟩) ?_; rotate_left; focus ((try dsimp only at hSw); go_simp; (try with_reducible rfl); done); (try simp only [List.getElem_toArray, List.getElem_cons_succ, List.getElem_cons_zero, Act.put, List.setIfInBounds_toArray, List.set_cons_zero, List.set_cons_succ])); (refine Ht.Hz.take (v := ?_) 26 rfl (by decide) (by kernel_rfl) (by kernel_rfl) (fun _ _ _ h => h) (by with_reducible exact hSnow) (Or.inl ⟨by rfl, fun w hSw => ?_⟩) ?_; rotate_left; focus ((try dsimp only at hSw); go_simp; (try with_reducible rfl); done); (try simp only [List.getElem_toArray, List.getElem_cons_succ, List.getElem_cons_zero, Act.put, List.setIfInBounds_toArray, List.set_cons_zero, List.set_cons_succ])); (refine Ht.Hz.take (v := ?_) 27 rfl (by decide) (by kernel_rfl) (by kernel_rfl) (fun _ _ _ h => h) (by with_reducible exact hSnow) (Or.inl ⟨by rfl, fun w hSw => ?_⟩) ?_; rotate_left; focus ((try dsimp only at hSw); go_simp; (try with_reducible rfl); done); (try simp only [List.getElem_toArray, List.getElem_cons_succ, List.getElem_cons_zero, Act.put, List.setIfInBounds_toArray, List.set_cons_zero, List.set_cons_succ])); (refine Ht.Hz.take (v := ?_) 28 rfl (by decide) (by kernel_rfl) (by kernel_rfl) (fun _ _ _ h => h) (by with_reducible exact hSnow) (Or.inl ⟨by rfl, fun w hSw => ?_⟩) ?_; rotate_left; focus ((try dsimp only at hSw); go_simp; (try with_reducible rfl); done); (try simp only [List.getElem_toArray, List.getElem_cons_succ, List.getElem_cons_zero, Act.put, List.setIfInBounds_toArray, List.set_cons_zero, List.set_cons_succ]))))
          generalize wr.drew = wd at s0 hSnow a0 a1 a2 a3 a4 a5 a6 hS0 ⊢
          ((with_reducible refine Ht.Hz.effectAt 3 (by decide) (by decide) (by kernel_rfl) ?_); (try simp only [List.getElem_toArray, List.getElem_cons_succ, List.getElem_cons_zero]); go_wp2_with ((go_at_call 32; (with_reducible refine a0.out.mono ?_); rintro e wf ⟨rfl, hwf⟩; replace hwf := hwf.symm; subst hwf)); refine ⟨s0, ?_⟩; clear hSnow; (have hSnow := s0); (try simp only [List.getElem_toArray, List.getElem_cons_succ, List.getElem_cons_zero, Act.put, List.setIfInBounds_toArray, List.set_cons_zero, List.set_cons_succ]))
          ((with_reducible refine Ht.Hz.effectAt 5 (by decide) (by decide) (by kernel_rfl) ?_); (try simp only [List.getElem_toArray, List.getElem_cons_succ, List.getElem_cons_zero]); go_wp2_with ((go_at_call 32; (with_reducible refine a1.out.mono ?_); rintro e wf ⟨rfl, hwf⟩; replace hwf := hwf.symm; subst hwf)); refine ⟨s0, ?_⟩; clear hSnow; (have hSnow := s0); (try simp only [List.getElem_toArray, List.getElem_cons_succ, List.getElem_cons_zero, Act.put, List.setIfInBounds_toArray, List.set_cons_zero, List.set_cons_succ]))
          ((with_reducible refine Ht.Hz.effectAt 7 (by decide) (by decide) (by kernel_rfl) ?_); (try simp only [List.getElem_toArray, List.getElem_cons_succ, List.getElem_cons_zero]); go_wp2_with ((go_at_call 32; (with_reducible refine a2.out.mono ?_); rintro e wf ⟨rfl, hwf⟩; replace hwf := hwf.symm; subst hwf)); refine ⟨s0, ?_⟩; clear hSnow; (have hSnow := s0); (try simp only [List.getElem_toArray, List.getElem_cons_succ, List.getElem_cons_zero, Act.put, List.setIfInBounds_toArray, List.set_cons_zero, List.set_cons_succ]))
          ((with_reducible refine Ht.Hz.effectAt 13 (by decide) (by decide) (by kernel_rfl) ?_); (try simp only [List.getElem_toArray, List.getElem_cons_succ, List.getElem_cons_zero]); go_wp2_with ((go_at_call 32; (with_reducible refine a3.out.mono ?_); rintro e wf ⟨rfl, hwf⟩; replace hwf := hwf.symm; subst hwf)); refine ⟨s0, ?_⟩; clear hSnow; (have hSnow := s0); (try simp only [List.getElem_toArray, List.getElem_cons_succ, List.getElem_cons_zero, Act.put, List.setIfInBounds_toArray, List.set_cons_zero, List.set_cons_succ]))
          ((with_reducible refine Ht.Hz.effectAt 15 (by decide) (by decide) (by kernel_rfl) ?_); (try simp only [List.getElem_toArray, List.getElem_cons_succ, List.getElem_cons_zero]); go_wp2_with ((go_at_call 32; (with_reducible refine a4.out.mono ?_); rintro e wf ⟨rfl, hwf⟩; replace hwf := hwf.symm; subst hwf)); refine ⟨s0, ?_⟩; clear hSnow; (have hSnow := s0); (try simp only [List.getElem_toArray, List.getElem_cons_succ, List.getElem_cons_zero, Act.put, List.setIfInBounds_toArray, List.set_cons_zero, List.set_cons_succ]))
          ((with_reducible refine Ht.Hz.effectAt 17 (by decide) (by decide) (by kernel_rfl) ?_); (try simp only [List.getElem_toArray, List.getElem_cons_succ, List.getElem_cons_zero]); go_wp2_with ((go_at_call 32; (with_reducible refine a5.out.mono ?_); rintro e wf ⟨rfl, hwf⟩; replace hwf := hwf.symm; subst hwf)); refine ⟨s0, ?_⟩; clear hSnow; (have hSnow := s0); (try simp only [List.getElem_toArray, List.getElem_cons_succ, List.getElem_cons_zero, Act.put, List.setIfInBounds_toArray, List.set_cons_zero, List.set_cons_succ]))
          ((refine Ht.Hz.take (v := ?_) 18 rfl (by decide) (by kernel_rfl) (by kernel_rfl) (fun _ _ _ h => h) (by with_reducible exact hSnow) (Or.inl ⟨by rfl, fun w hSw => ?_⟩) ?_; rotate_left; focus ((try dsimp only at hSw); go_simp; (try with_reducible rfl); done); (try simp only [List.getElem_toArray, List.getElem_cons_succ, List.getElem_cons_zero, Act.put, List.setIfInBounds_toArray, List.set_cons_zero, List.set_cons_succ])))
          ((with_reducible refine Ht.Hz.effectAt 29 (by decide) (by decide) (by kernel_rfl) ?_); (try simp only [List.getElem_toArray, List.getElem_cons_succ, List.getElem_cons_zero]); go_wp2_with ((go_at_call 33; (with_reducible refine a6.out.mono ?_); rintro e wf ⟨rfl, hwf⟩; replace hwf := hwf.symm; subst hwf)); refine ⟨s0, ?_⟩; clear hSnow; (have hSnow := s0); (try simp only [List.getElem_toArray, List.getElem_cons_succ, List.getElem_cons_zero, Act.put, List.setIfInBounds_toArray, List.set_cons_zero, List.set_cons_succ]))
          ((refine Ht.Hz.take (v := ?_) 30 rfl (by decide) (by kernel_rfl) (by kernel_rfl) (fun _ _ _ h => h) (by with_reducible exact hSnow) (Or.inl ⟨by rfl, fun w hSw => ?_⟩) ?_; rotate_left; focus ((try dsimp only at hSw); go_simp; (try with_reducible rfl); done); (try simp only [List.getElem_toArray, List.getElem_cons_succ, List.getElem_cons_zero, Act.put, List.setIfInBounds_toArray, List.set_cons_zero, List.set_cons_succ])))
          have bA := below_alloc (Below.refl wd.heap.size wd) (.cells #[.int .i64 y0, .int .i64 y1, .int .i64 y2, .int .u64 y6, .bool (fl == 1), .int .i64 y3, .int .i64 y4, .int .i64 y5] 59)
          have s1 := And.intro (pw_cell_below bA s0.1) (And.intro (pw_cell_below bA s0.2.1) (pw_cell_below bA s0.2.2))
          clear bA
          ((with_reducible refine Ht.Hz.effectAt 31 (by decide) (by decide) (by kernel_rfl) ?_); (try simp only [List.getElem_toArray, List.getElem_cons_succ, List.getElem_cons_zero]); go_wp2_with ((fail)); refine ⟨s1, ?_⟩; clear hSnow; (have hSnow := s1); (try simp only [List.getElem_toArray, List.getElem_cons_succ, List.getElem_cons_zero, Act.put, List.setIfInBounds_toArray, List.set_cons_zero, List.set_cons_succ]))
          ((with_reducible refine Ht.Hz.effectAt 32 (by decide) (by decide) (by kernel_rfl) ?_); (try simp only [List.getElem_toArray, List.getElem_cons_succ, List.getElem_cons_zero]); go_wp2_with (((with_reducible refine gate_builtin (b := .append) (xs := #[.tmp 165, .tmp 195]) rfl ?_); at_builtin; refine Kd.R_append kT (w0 := wB) wB.heap.size rfl (.tmp 165) (.tmp 195) 23 59 (.agg #[.int .i64 0, .int .i64 0, .int .i64 0, .int .u64 0, .bool false, .int .i64 0, .int .i64 0, .int .i64 0]) 64 rfl Tryz.underlying23 infoT rfl (by decide) (by omega) (.slice Bt k dt) (tasksR L2 L3 k) (⟨y0, y1, y2, y6, fl == 1, y3, ⟨y4, y5⟩⟩ : ST) [.int .i64 y0, .int .i64 y1, .int .i64 y2, .int .u64 y6, .bool (fl == 1), .int .i64 y3, .int .i64 y4, .int .i64 y5] (fun _ => True) (fun _ => False) rfl rfl ?aP (fun _ hk => hk.elim) (fun _ _ => trivial) (by have := hS0.out.rt; rwa [hgl.out] at this) hS0.out.below hS0.out.size hl8.out ?_; (case aP => exact k59_mkM _ _ _ (⟨y0, y1, y2, y6, fl == 1, y3, ⟨y4, y5⟩⟩ : ST)); intro v2 w11 hR11 hb11 hg11 hat11; rw [← hgs.out] at hR11; (obtain ⟨A2g, c2g, ev2, hd2, _⟩ := Kd.R_reads hR11); rw [hgl2.out] at ev2; subst ev2; (have hg11' : wd.grownBy w11 (Value.slice Bt (tasksR L2 L3 k).length dt).ownBlock := (by rw [hgl.out]; exact hg11)); (have hr11 := (hg11'.block b9 (lt_row hS0.out.row) (fun e => Kd.R_ne hS0.out.rt hS0.out.row (by decide) e)).trans hS0.out.row); (have d011 := (Kf.cell_row hr11 1).trans (rfl : _ = some (Value.slice Bt (tasksR L2 L3 k).length dt))); rw [hgl.out] at d011; (have d111 : w11.frozen? ⟨b9, 1, none⟩ = false := frozen_row hr11 1); (have hk11 := hkeep.out w11 hb11); (have hR12 : kT.R 59 w11 wB.heap.size (fun _ => True) (.slice A2g (tasksR L2 L3 (k + 1)).length c2g) (tasksR L2 L3 (k + 1)) := by rw [hgl2.out]; exact hR11); (have hS12 := hS0.out.pushT hR12 hb11 hg11'); rw [hgl2.out] at hS12; clear hR11 hR12 hg11 hg11' hat11 hr11 hb11; replace hS12 := Aside0.mk hS12)); refine ⟨(And.intro d011 hk11), ?_⟩; clear hSnow; (have hSnow := (And.intro d011 hk11)); (try simp only [List.getElem_toArray, List.getElem_cons_succ, List.getElem_cons_zero, Act.put, List.setIfInBounds_toArray, List.set_cons_zero, List.set_cons_succ]))
          (refine Ht.Hz.done (by kernel_rfl) ?_; clear hSnow)
          go_wp2_with fail
          go_roundw
          case rel => exact ⟨k + 1, A2g, c2g, by simp, by omega, hfs2, hS12⟩
          case measure => show T - ((k : Int) + 1).toNat < T - (k : Int).toNat; omega
        · obtain rfl : T = k := by omega
          replace hU3 := hU3.out
          rw [if_neg (by rw [hfl.out]; decide)] at hU3
          obtain ⟨hCg, hcg, hCt, hct, hspg, hsp⟩ := hB.out.reads
          have hrow := hB.out.row
          obtain ⟨gs, hgs⟩ : ∃ gs, groupsR L0 L1 G = gs := ⟨_, rfl⟩
          obtain ⟨ts, hts⟩ : ∃ ts, tasksR L2 L3 T = ts := ⟨_, rfl⟩
          have hnG : gs.length = G := by rw [← hgs, groupsR_length]
          have hnT : ts.length = T := by rw [← hts, tasksR_length]
          rw [hgs] at hB hU3 hrow hCg hcg
          rw [hts] at hB hU3 hrow hCt hct
          have hB' := hB.out
          rw [hnG, hnT] at hrow
          rw [hnG] at hCg hcg
          rw [hnT] at hCt hct
          have kc := rCheck_calls Ag G cg gs Bt T dt ts wr hCg hcg hCt hct
          unfold CheckPost at kc
          obtain ⟨ck, hck⟩ : ∃ ck, checkOf (gs.map gOf) (ts.map tOf) = ck := ⟨_, rfl⟩
          rw [hck] at kc hU3
          replace kb4 := Aside0.mk (row_below' hB0 kb4.out)
          replace kb2 := Aside0.mk (row_below' hB0 kb2.out)
          replace bb2 := Aside0.mk (bb2.out.trans (hB0.mono bb2.out.size))
          have hb2w := Aside0.mk (show b2 < wB.heap.size by have := hb9.out; have h1 := hB.out.lo; have h2 := lt_row kbB2.out; exact h2)
          clear hB0 hgs hts hfl hk hlt hCg hCt
          replace hU3 := Aside0.mk hU3; replace hck := Aside0.mk hck; replace kc := Aside0.mk kc; replace hrow := Aside0.mk hrow; replace hcg := Aside0.mk hcg; replace hct := Aside0.mk hct; replace hspg := Aside0.mk hspg; replace hsp := Aside0.mk hsp; replace hnG := Aside0.mk hnG; replace hnT := Aside0.mk hnT; replace hB' := Aside0.mk hB'
          by_cases hc0 : ck = 0
          case neg =>
            have z1 : (ck != 0) = true := by simpa using hc0
            have ht : Aside0 (decodeOf b = (ck, [], [])) := ⟨by rw [hU.out, ← hU3.out, if_pos hc0]⟩
            go_wp2_with (first
              | ((with_reducible refine gate_op (.load 25 (.tmp 4)) rfl ?_); refine wpList_load_midB rfl _ _ rfl ⟨b4, 0, none⟩ rfl [.slice none 0 0, .slice none 0 0] _ (Bk.cells_row kb4.out) Tryz.underlying25 rfl szS2 ?_)
              | (((with_reducible refine gate_op (.store 25 (.tmp 2) (.tmp 202)) rfl ?_); refine wpList_store_midB rfl _ _ _ rfl b2 0 [.slice none 0 0, .slice none 0 0] rfl rfl 25 [.slice none 0 0, .slice none 0 0] kb2.out szS2 (Nat.le_refl _) oneS2 ?_; obtain ⟨kk, bb⟩ := boxed (cs := [.slice none 0 0, .slice none 0 0]) (cs2 := [.slice none 0 0, .slice none 0 0]) hb2.out kb2.out bb2.out rfl; revert kk bb; generalize World.setRow _ b2 (splice [.slice none 0 0, .slice none 0 0] 0 [.slice none 0 0, .slice none 0 0]).toArray = w3; clear kb2 bb2; intro kb2 bb2; replace kb2 := Aside0.mk kb2; replace bb2 := Aside0.mk bb2))
              | ((with_reducible refine gate_op (.load 25 (.tmp 9)) rfl ?_); refine wpList_load_midB rfl _ _ rfl ⟨b9, 0, none⟩ rfl [.slice Ag G cg, .slice Bt T dt] _ (Bk.cells_row hrow.out) Tryz.underlying25 rfl szS2 ?_)
              | (go_at_call 23; (with_reducible refine kc.out.mono ?_); rintro e w20 ⟨rfl, hb20⟩; (replace kb2 := Aside0.mk (row_below hb20 kb2.out)); (replace kb4 := Aside0.mk (row_below hb20 kb4.out)); (replace bb2 := Aside0.mk (bb2.out.trans (hb20.mono bb2.out.size))); clear hb20))
            refine bodyPost_ret (results_ct rfl _ _ b2 _ _ _ _ rfl kb2.out Tryz.underlying25 rfl ?hi) rfl ?_
            case hi => exact szS2
            exact DecPost.odd ht.out bb2.out
          subst hc0
          have ht : Aside0 (decodeOf b = (0, gs, ts)) := ⟨by rw [hU.out, ← hU3.out, if_neg (by simp)]⟩
          go_wp2_with (first
            | ((with_reducible refine gate_op (.load 25 (.tmp 9)) rfl ?_); refine wpList_load_midB rfl _ _ rfl ⟨b9, 0, none⟩ rfl [.slice Ag G cg, .slice Bt T dt] _ (Bk.cells_row hrow.out) Tryz.underlying25 rfl szS2 ?_)
            | (go_at_call 23; (with_reducible refine kc.out.mono ?_); rintro e w20 ⟨rfl, hb20⟩; (replace kb2 := Aside0.mk (row_below hb20 kb2.out)); (replace bb2 := Aside0.mk (bb2.out.trans (hb20.mono bb2.out.size))); (have hB20 := Aside0.mk (hB'.out.grow hb20).rebase); (have hrow20 := Aside0.mk (row_below hb20 hrow.out)); clear hb20)
            | ((with_reducible refine gate_op (.load 25 (.tmp 9)) rfl ?_); refine wpList_load_midB rfl _ _ rfl ⟨b9, 0, none⟩ rfl [.slice Ag G cg, .slice Bt T dt] _ (Bk.cells_row hrow20.out) Tryz.underlying25 rfl szS2 ?_)
            | ((with_reducible refine gate_op (.store 25 (.tmp 2) (.tmp 204)) rfl ?_); refine wpList_store_midB rfl _ _ _ rfl b2 0 [.slice Ag G cg, .slice Bt T dt] rfl rfl 25 [.slice none 0 0, .slice none 0 0] kb2.out szS2 (Nat.le_refl _) oneS2 ?_; obtain ⟨kk, bb⟩ := boxed (cs := [.slice none 0 0, .slice none 0 0]) (cs2 := [.slice Ag G cg, .slice Bt T dt]) hb2.out kb2.out bb2.out rfl; (have hks := KeepF.setRow w20 b2 (splice [.slice none 0 0, .slice none 0 0] 0 [.slice Ag G cg, .slice Bt T dt]).toArray); revert kk bb hks; generalize World.setRow _ b2 (splice [.slice none 0 0, .slice none 0 0] 0 [.slice Ag G cg, .slice Bt T dt]).toArray = w21; intro kk bb hks; replace kk := Aside0.mk kk; replace bb := Aside0.mk bb; replace hks := Aside0.mk hks))
          have hB21 := hB20.out.move hks.out (fun i _ e => by have e : i = b2 := e; have := hb2w.out; omega)
          have hCg := (Kd.R_reads' hB21.rg).2.2
          have hCt := (Kd.R_reads' hB21.rt).2.2
          have hfin : DecPost b w (.returned (.tuple #[.agg #[.slice Ag G cg, .slice Bt T dt], .int .i64 0])) w21 :=
            ⟨Ag, cg, Bt, dt, 0, gs, ts, by rw [hnG.out, hnT.out], ht.out.symm, bb.out, by rw [hnG.out]; exact hcg.out, by rw [hnT.out]; exact hct.out, hCg, hCt, hspg.out, hsp.out⟩
          refine bodyPost_ret (results_ct rfl _ _ b2 _ _ _ _ rfl kk.out Tryz.underlying25 rfl ?hi) rfl ?_
          case hi => exact szS2
          exact hfin
end Go.Proofs.YtpnjhffnlafabaaGreatDoor.Im
