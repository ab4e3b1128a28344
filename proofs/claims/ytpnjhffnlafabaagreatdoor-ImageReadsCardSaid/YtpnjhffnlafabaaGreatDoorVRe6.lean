/- The reference of layer 10: Unpack. -/
import Derived.Test.YtpnjhffnlafabaaGreatDoorVRu
import Derived.Test.YtpnjhffnlafabaaGreatDoorVHz
import Derived.IntWalk
namespace Go.Proofs.YtpnjhffnlafabaaGreatDoor.Im
set_option linter.unusedVariables false
set_option linter.unusedSimpArgs false
open Go.Proofs Go.RowKit Go.Proofs.Bk Go.Proofs.Bm Go.Proofs.Sc Go.Proofs.Kf Go.Proofs.YtpnjhffnlafabaaGreatDoorW.PrintWords Go.Proofs.YtpnjhffnlafabaaGreatDoor.Sl Go.Proofs.YtpnjhffnlafabaaGreatDoor.Sn Go.Proofs.YtpnjhffnlafabaaGreatDoor.PImageBack
set_option maxHeartbeats 8000000 in
set_option maxRecDepth 100000 in
theorem rUnpack_calls (A : Option Addr) (n c : Nat) (b : List Int) (w : World) (h : U8.C w A n b) (hc : n ≤ c) (hn : n ≤ 140737488355328) (hby : inB b) :
    Calls Tryz.prog 31 #[.slice A n c] w (UnpPost b w) := by
  have hln : b.length = n := h.1
  obtain ⟨U, hU⟩ : ∃ U, unpackOf b = U := ⟨_, rfl⟩
  have hU' := hU
  unfold unpackOf at hU'
  rw [hln] at hU'
  by_cases h9 : n < 9
  · have z9 : (n : Int) < 9 := by omega
    rw [if_pos h9] at hU'
    have ht : Aside0 (unpackOf b = (2, [])) := ⟨by rw [hU, ← hU']⟩
    have HE := Aside0.mk h
    clear h
    replace hln := Aside0.mk hln; replace hby := Aside0.mk hby; replace hU := Aside0.mk hU; replace hU' := Aside0.mk hU'
    go_enter Tryz.func31, Tryz.ntmps31
    go_wp2_with fail
    go_ret2
    exact UnpPost.odd ht.out (Below.refl _ _)
  have z9 : ¬ (n : Int) < 9 := by omega
  rw [if_neg h9] at hU'
  obtain ⟨g, o, rfl, -, -⟩ := C_at h (by omega) (by decide)
  have HE := Aside0.mk h
  clear h
  have hcv := run_convB w (some ⟨g, o, none⟩) 4 c (b.take 4) (by decide) (C_take0 HE.out 4 (by omega))
  obtain ⟨pf, hpf⟩ : ∃ p, decide (b.take 4 = pmagic) = p := ⟨_, rfl⟩
  have hm := magic_list (inB_take hby 4) hpf
  obtain ⟨st, hst⟩ : ∃ st, strB (b.take 4) = st := ⟨_, rfl⟩
  rw [hst] at hcv hm
  have q4 : (4 : Int) ≤ (n : Int) := by omega
  have q5 : (5 : Int) ≤ (n : Int) := by omega
  have q9 : (9 : Int) ≤ (n : Int) := by omega
  have q9c : (9 : Int) ≤ (c : Int) := by omega
  have q5d : (5 : Int) ≤ (c : Int) := by omega
  have q5c : ¬ c = 5 := by omega
  replace hln := Aside0.mk hln; replace hby := Aside0.mk hby; replace hU := Aside0.mk hU; replace hU' := Aside0.mk hU'; replace hst := Aside0.mk hst
  cases pf with
  | false =>
    have ht : Aside0 (unpackOf b = (20, [])) := ⟨by rw [hU.out, ← hU'.out, if_pos (by simpa using hpf)]⟩
    clear hpf
    go_enter Tryz.func31, Tryz.ntmps31
    go_wp2_with fail
    go_ret2
    exact UnpPost.odd ht.out (Below.refl _ _)
  | true =>
  replace hU' := hU'.out
  rw [if_neg (by simpa using hpf)] at hU'
  clear hpf
  -- the head's check
  have c5 : U8.C w (some ⟨g, o + 5, none⟩) 4 ((b.drop 5).take 4) := cut_N HE.out 5 4 (by omega)
  have c0 : U8.C w (some ⟨g, o, none⟩) 5 (b.take 5) := C_take0 HE.out 5 (by omega)
  have cr0 := crc_range (b.take 5) (inB_take hby.out 5)
  obtain ⟨x0, hx0⟩ : ∃ x, crc (b.take 5) = x := ⟨_, rfl⟩
  have tb0 : leNum ((b.drop 5).take 4) ≠ x0 → tableOf b = (4, [], []) := fun h => by unfold tableOf; rw [hx0, if_pos h]
  have hck := fun W (hb : Below w.heap.size w W) => rcheck_calls (some ⟨g, o, none⟩) 5 c (b.take 5) W (Kd.C_below c0 hb) (inB_take hby.out 5)
  have hiff := digs4_iff (l := (b.drop 5).take 4) (x := x0) (inB_take (inB_drop hby.out 5) 4) (by rw [List.length_take, List.length_drop, hln.out]; omega) (by omega) (by omega)
  have hsm := fun W A1 C1 (hb : Below w.heap.size w W) (h1 : U8.C W A1 4 (digs x0 4)) => Same01B_calls (some ⟨g, o + 5, none⟩) 4 (c - 5) A1 4 C1 _ _ W (Kd.C_below c5 hb) h1
  obtain ⟨p5, hp5⟩ : ∃ p, decide ((b.drop 5).take 4 = digs x0 4) = p := ⟨_, rfl⟩
  rw [hp5] at hsm
  rw [hx0] at hck
  clear c5 c0
  replace hU' := Aside0.mk hU'; replace hck := Aside0.mk hck; replace hsm := Aside0.mk hsm; replace tb0 := Aside0.mk tb0; replace hx0 := Aside0.mk hx0; replace cr0 := Aside0.mk cr0; replace hiff := Aside0.mk hiff
  go_enter Tryz.func31, Tryz.ntmps31
  go_wp2_with fail
  have hdw := Aside0.mk (Below.refl w.heap.size w).drew
  (refine Ht.beginZ 6 (fun _ => True) (by kernel_rfl) (by kernel_rfl) trivial ?_; intro hSnow; (try dsimp only at hSnow); simp only [List.take_succ_cons, List.take_zero, List.drop_succ_cons, List.drop_zero]; ((refine Ht.Hz.take (v := ?_) 0 rfl (by decide) (by kernel_rfl) (by kernel_rfl) (fun _ _ _ h => h) (by with_reducible exact hSnow) (Or.inl ⟨by rfl, fun w hSw => ?_⟩) ?_; rotate_left; focus ((try dsimp only at hSw); go_simp; (try with_reducible rfl); done); (try simp only [List.getElem_toArray, List.getElem_cons_succ, List.getElem_cons_zero, Act.put, List.setIfInBounds_toArray, List.set_cons_zero, List.set_cons_succ])); (refine Ht.Hz.take (v := ?_) 1 rfl (by decide) (by kernel_rfl) (by kernel_rfl) (fun _ _ _ h => h) (by with_reducible exact hSnow) (Or.inl ⟨by rfl, fun w hSw => ?_⟩) ?_; rotate_left; focus ((try dsimp only at hSw); go_simp; (try with_reducible rfl); done); (try simp only [List.getElem_toArray, List.getElem_cons_succ, List.getElem_cons_zero, Act.put, List.setIfInBounds_toArray, List.set_cons_zero, List.set_cons_succ])); (refine Ht.Hz.take (v := ?_) 2 rfl (by decide) (by kernel_rfl) (by kernel_rfl) (fun _ _ _ h => h) (by with_reducible exact hSnow) (Or.inl ⟨by rfl, fun w hSw => ?_⟩) ?_; rotate_left; focus ((try dsimp only at hSw); go_simp; (try with_reducible rfl); done); (try simp only [List.getElem_toArray, List.getElem_cons_succ, List.getElem_cons_zero, Act.put, List.setIfInBounds_toArray, List.set_cons_zero, List.set_cons_succ])); (refine Ht.Hz.take (v := ?_) 3 rfl (by decide) (by kernel_rfl) (by kernel_rfl) (fun _ _ _ h => h) (by with_reducible exact hSnow) (Or.inl ⟨by rfl, fun w hSw => ?_⟩) ?_; rotate_left; focus ((try dsimp only at hSw); go_simp; (try with_reducible rfl); done); (try simp only [List.getElem_toArray, List.getElem_cons_succ, List.getElem_cons_zero, Act.put, List.setIfInBounds_toArray, List.set_cons_zero, List.set_cons_succ]))))
  ((with_reducible refine Ht.Hz.effectAt 4 (by decide) (by decide) (by kernel_rfl) ?_); (try simp only [List.getElem_toArray, List.getElem_cons_succ, List.getElem_cons_zero]); go_wp2_with ((go_at_call 56; (with_reducible refine (hck.out _ hdw.out).mono ?_); rintro e u1 ⟨y, rfl, rr, hb⟩; (obtain ⟨A1, C1, rfl, -, hC1⟩ := Kd.R_reads rr); rw [digs_length] at hC1; rw [digs_length]; (have hB1 := Aside0.mk (hdw.out.trans (hb.mono hdw.out.size))); clear rr hb; replace hC1 := Aside0.mk hC1)); refine ⟨trivial, ?_⟩; clear hSnow; (have hSnow := trivial); (try simp only [List.getElem_toArray, List.getElem_cons_succ, List.getElem_cons_zero, Act.put, List.setIfInBounds_toArray, List.set_cons_zero, List.set_cons_succ]))
  ((with_reducible refine Ht.Hz.effectAt 5 (by decide) (by decide) (by kernel_rfl) ?_); (try simp only [List.getElem_toArray, List.getElem_cons_succ, List.getElem_cons_zero]); go_wp2_with ((go_at_call 13; (with_reducible refine (hsm.out u1 A1 C1 hB1.out hC1.out).mono ?_); rintro e w5 ⟨rfl, hb⟩; (have hB5 := Aside0.mk (hB1.out.trans (hb.mono hB1.out.size))); clear hb)); refine ⟨trivial, ?_⟩; clear hSnow; (have hSnow := trivial); (try simp only [List.getElem_toArray, List.getElem_cons_succ, List.getElem_cons_zero, Act.put, List.setIfInBounds_toArray, List.set_cons_zero, List.set_cons_succ]))
  (refine Ht.Hz.done (by kernel_rfl) ?_; clear hSnow)
  have odd : (tableOf b).1 ≠ 0 → unpackOf b = ((tableOf b).1, []) := fun h => by rw [hU.out, ← hU'.out, if_pos h]
  cases p5 with
  | false =>
    have h1 := tb0.out (fun e => of_decide_eq_false hp5 (hiff.out.2 e))
    rw [h1] at odd
    have ht := Aside0.mk (odd (by decide))
    clear odd h1 hp5
    go_wp2_with fail
    go_ret2
    exact UnpPost.odd ht.out hB5.out
  | true =>
  have e0 : leNum ((b.drop 5).take 4) = x0 := hiff.out.1 (of_decide_eq_true hp5)
  clear hp5 hck hsm hiff tb0 hcv hm hC1
  have r4 : 0 ≤ rd b 4 ∧ rd b 4 ≤ 255 := rd_inB hby.out (i := 4) (by rw [hln.out]; omega)
  have x4 : w5.cell? ⟨g, o + 4, none⟩ = some (.int .u8 (rd b 4)) := cell_N (Kd.C_below HE.out hB5.out) 4 (by omega)
  have hmn := many_rd (b := b) (by rw [hln.out]; omega)
  obtain ⟨N, hN⟩ : ∃ N : Nat, rd b 4 = N := ⟨(rd b 4).toNat, by have := r4.1; omega⟩
  rw [hN] at x4 hmn r4
  rw [Int.toNat_natCast] at hmn
  have hN255 : (N : Int) ≤ 255 := r4.2
  have tb1 : 16 < N → tableOf b = (7, [], []) := fun h => by unfold tableOf; rw [hx0.out, if_neg (fun h => h e0), hmn, if_pos h]
  have tb2 : ¬ 16 < N → n < 13 + 7 * N → tableOf b = (2, [], []) := fun h h2 => by unfold tableOf; rw [hx0.out, if_neg (fun h => h e0), hmn, if_neg h, hln.out, if_pos h2]
  have tb3 : ¬ 16 < N → ¬ n < 13 + 7 * N → tableOf b = if leNum ((b.drop (9 + 7 * N)).take 4) ≠ crc (b.take (9 + 7 * N)) then (4, [], []) else (0, entriesOf (b.drop 9) N, b.drop (13 + 7 * N)) := fun h h2 => by unfold tableOf; rw [hx0.out, if_neg (fun h => h e0), hmn, if_neg h, hln.out, if_neg h2]
  clear r4
  replace odd := Aside0.mk odd; replace e0 := Aside0.mk e0; replace hN := Aside0.mk hN; replace hmn := Aside0.mk hmn
  by_cases h16 : 16 < N
  · have z16 : (16 : Int) < (N : Int) := by omega
    have ht : Aside0 (unpackOf b = (7, [])) := ⟨by have := odd.out; rw [tb1 h16] at this; exact this (by decide)⟩
    clear tb1 tb2 tb3
    go_wp2_with fail
    go_ret2
    exact UnpPost.odd ht.out hB5.out
  have z16 : ¬ (16 : Int) < (N : Int) := by omega
  have n16 : (N : Int) ≤ 16 := by omega
  by_cases h13 : n < 13 + 7 * N
  · have z13 : (n : Int) < 9 + 7 * (N : Int) + 4 := by omega
    have ht : Aside0 (unpackOf b = (2, [])) := ⟨by have := odd.out; rw [tb2 h16 h13] at this; exact this (by decide)⟩
    clear tb1 tb2 tb3
    go_wp2_with fail
    go_ret2
    exact UnpPost.odd ht.out hB5.out
  have z13 : ¬ (n : Int) < 9 + 7 * (N : Int) + 4 := by omega
  replace tb3 := tb3 h16 h13
  clear tb1 tb2
  -- the table's check
  obtain ⟨H, hH⟩ : ∃ H : Nat, 9 + 7 * N = H := ⟨_, rfl⟩
  rw [hH] at tb3
  have hHn : H + 4 ≤ n := by omega
  have cH : U8.C w (some ⟨g, o + H, none⟩) 4 ((b.drop H).take 4) := cut_N HE.out H 4 (by omega)
  have cH0 : U8.C w (some ⟨g, o, none⟩) H (b.take H) := C_take0 HE.out H (by omega)
  have cr1 := crc_range (b.take H) (inB_take hby.out H)
  obtain ⟨x1, hx1⟩ : ∃ x, crc (b.take H) = x := ⟨_, rfl⟩
  rw [hx1] at tb3 cr1
  have hck := fun W (hb : Below w.heap.size w W) => rcheck_calls (some ⟨g, o, none⟩) H c (b.take H) W (Kd.C_below cH0 hb) (inB_take hby.out H)
  have hiff := digs4_iff (l := (b.drop H).take 4) (x := x1) (inB_take (inB_drop hby.out H) 4) (by rw [List.length_take, List.length_drop, hln.out]; omega) (by omega) (by omega)
  have hsm := fun W A1 C1 (hb : Below w.heap.size w W) (h1 : U8.C W A1 4 (digs x1 4)) => Same01B_calls (some ⟨g, o + H, none⟩) 4 (c - H) A1 4 C1 _ _ W (Kd.C_below cH hb) h1
  obtain ⟨pH, hpH⟩ : ∃ p, decide ((b.drop H).take 4 = digs x1 4) = p := ⟨_, rfl⟩
  rw [hpH] at hsm
  rw [hx1] at hck
  clear cH cH0
  replace tb3 := Aside0.mk tb3; replace hck := Aside0.mk hck; replace hsm := Aside0.mk hsm; replace hx1 := Aside0.mk hx1; replace cr1 := Aside0.mk cr1; replace hiff := Aside0.mk hiff
  go_wp2_with fail
  rw [show (9 + 7 * (N : Int)) = (H : Int) by omega]
  have eH : Aside0 (9 + 7 * (N : Int) = (H : Int)) := ⟨by omega⟩
  replace hH := Aside0.mk hH
  have hdw := Aside0.mk hB5.out.drew
  have s1 : IntKind.i64.wrap ((H : Int) + 4) = (H : Int) + 4 := IntWalk.i64_in _ (by omega)
  have s2 : 0 ≤ (H : Int) + 4 := by omega
  have s3 : ((H : Int) + 4).toNat = H + 4 := by omega
  have s4 : (H : Int) + 4 ≤ (c : Int) := by omega
  have s5 : ¬ c = H := by omega
  have s6 : (H : Int) ≤ (c : Int) := by omega
  have s7 : H + 4 - H = 4 := by omega
  (refine Ht.beginZ 10 (fun _ => True) (by kernel_rfl) (by kernel_rfl) trivial ?_; intro hSnow; (try dsimp only at hSnow); simp only [List.take_succ_cons, List.take_zero, List.drop_succ_cons, List.drop_zero]; ((refine Ht.Hz.take (v := ?_) 0 rfl (by decide) (by kernel_rfl) (by kernel_rfl) (fun _ _ _ h => h) (by with_reducible exact hSnow) (Or.inl ⟨by rfl, fun w hSw => ?_⟩) ?_; rotate_left; focus ((try dsimp only at hSw); go_simp; (try with_reducible rfl); done); (try simp only [List.getElem_toArray, List.getElem_cons_succ, List.getElem_cons_zero, Act.put, List.setIfInBounds_toArray, List.set_cons_zero, List.set_cons_succ])); (refine Ht.Hz.take (v := ?_) 1 rfl (by decide) (by kernel_rfl) (by kernel_rfl) (fun _ _ _ h => h) (by with_reducible exact hSnow) (Or.inl ⟨by rfl, fun w hSw => ?_⟩) ?_; rotate_left; focus ((try dsimp only at hSw); go_simp; (try with_reducible rfl); done); (try simp only [List.getElem_toArray, List.getElem_cons_succ, List.getElem_cons_zero, Act.put, List.setIfInBounds_toArray, List.set_cons_zero, List.set_cons_succ])); (refine Ht.Hz.take (v := ?_) 2 rfl (by decide) (by kernel_rfl) (by kernel_rfl) (fun _ _ _ h => h) (by with_reducible exact hSnow) (Or.inl ⟨by rfl, fun w hSw => ?_⟩) ?_; rotate_left; focus ((try dsimp only at hSw); go_simp; (try with_reducible rfl); done); (try simp only [List.getElem_toArray, List.getElem_cons_succ, List.getElem_cons_zero, Act.put, List.setIfInBounds_toArray, List.set_cons_zero, List.set_cons_succ])); (refine Ht.Hz.take (v := ?_) 3 rfl (by decide) (by kernel_rfl) (by kernel_rfl) (fun _ _ _ h => h) (by with_reducible exact hSnow) (Or.inl ⟨by rfl, fun w hSw => ?_⟩) ?_; rotate_left; focus ((try dsimp only at hSw); go_simp; (try with_reducible rfl); done); (try simp only [List.getElem_toArray, List.getElem_cons_succ, List.getElem_cons_zero, Act.put, List.setIfInBounds_toArray, List.set_cons_zero, List.set_cons_succ])); (refine Ht.Hz.take (v := ?_) 4 rfl (by decide) (by kernel_rfl) (by kernel_rfl) (fun _ _ _ h => h) (by with_reducible exact hSnow) (Or.inl ⟨by rfl, fun w hSw => ?_⟩) ?_; rotate_left; focus ((try dsimp only at hSw); go_simp; (try with_reducible rfl); done); (try simp only [List.getElem_toArray, List.getElem_cons_succ, List.getElem_cons_zero, Act.put, List.setIfInBounds_toArray, List.set_cons_zero, List.set_cons_succ])); (refine Ht.Hz.take (v := ?_) 5 rfl (by decide) (by kernel_rfl) (by kernel_rfl) (fun _ _ _ h => h) (by with_reducible exact hSnow) (Or.inl ⟨by rfl, fun w hSw => ?_⟩) ?_; rotate_left; focus ((try dsimp only at hSw); go_simp; (try with_reducible rfl); done); (try simp only [List.getElem_toArray, List.getElem_cons_succ, List.getElem_cons_zero, Act.put, List.setIfInBounds_toArray, List.set_cons_zero, List.set_cons_succ])); (refine Ht.Hz.take (v := ?_) 6 rfl (by decide) (by kernel_rfl) (by kernel_rfl) (fun _ _ _ h => h) (by with_reducible exact hSnow) (Or.inl ⟨by rfl, fun w hSw => ?_⟩) ?_; rotate_left; focus ((try dsimp only at hSw); go_simp; (try with_reducible rfl); done); (try simp only [List.getElem_toArray, List.getElem_cons_succ, List.getElem_cons_zero, Act.put, List.setIfInBounds_toArray, List.set_cons_zero, List.set_cons_succ])); (refine Ht.Hz.take (v := ?_) 7 rfl (by decide) (by kernel_rfl) (by kernel_rfl) (fun _ _ _ h => h) (by with_reducible exact hSnow) (Or.inl ⟨by rfl, fun w hSw => ?_⟩) ?_; rotate_left; focus ((try dsimp only at hSw); go_simp; (try with_reducible rfl); done); (try simp only [List.getElem_toArray, List.getElem_cons_succ, List.getElem_cons_zero, Act.put, List.setIfInBounds_toArray, List.set_cons_zero, List.set_cons_succ]))))
  ((with_reducible refine Ht.Hz.effectAt 8 (by decide) (by decide) (by kernel_rfl) ?_); (try simp only [List.getElem_toArray, List.getElem_cons_succ, List.getElem_cons_zero]); go_wp2_with ((go_at_call 56; (with_reducible refine (hck.out _ hdw.out).mono ?_); rintro e u1 ⟨y, rfl, rr, hb⟩; (obtain ⟨A1, C1, rfl, -, hC1⟩ := Kd.R_reads rr); rw [digs_length] at hC1; rw [digs_length]; (have hB6 := Aside0.mk (hdw.out.trans (hb.mono hdw.out.size))); clear rr hb; replace hC1 := Aside0.mk hC1)); refine ⟨trivial, ?_⟩; clear hSnow; (have hSnow := trivial); (try simp only [List.getElem_toArray, List.getElem_cons_succ, List.getElem_cons_zero, Act.put, List.setIfInBounds_toArray, List.set_cons_zero, List.set_cons_succ]))
  ((with_reducible refine Ht.Hz.effectAt 9 (by decide) (by decide) (by kernel_rfl) ?_); (try simp only [List.getElem_toArray, List.getElem_cons_succ, List.getElem_cons_zero]); go_wp2_with ((go_at_call 13; (with_reducible refine (hsm.out u1 A1 C1 hB6.out hC1.out).mono ?_); rintro e w7 ⟨rfl, hb⟩; (have hB7 := Aside0.mk (hB6.out.trans (hb.mono hB6.out.size))); clear hb)); refine ⟨trivial, ?_⟩; clear hSnow; (have hSnow := trivial); (try simp only [List.getElem_toArray, List.getElem_cons_succ, List.getElem_cons_zero, Act.put, List.setIfInBounds_toArray, List.set_cons_zero, List.set_cons_succ]))
  (refine Ht.Hz.done (by kernel_rfl) ?_; clear hSnow)
  cases pH with
  | false =>
    have h1 := tb3.out
    rw [if_pos (fun e => of_decide_eq_false hpH (hiff.out.2 e))] at h1
    have ht : Aside0 (unpackOf b = (4, [])) := ⟨by have := odd.out; rw [h1] at this; exact this (by decide)⟩
    clear h1 hpH
    go_wp2_with fail
    go_ret2
    exact UnpPost.odd ht.out hB7.out
  | true =>
  have h1 := tb3.out
  rw [if_neg (fun h => h (hiff.out.1 (of_decide_eq_true hpH))), entries_eN hby.out N (by rw [hln.out]; omega)] at h1
  replace hU' := hU'.out
  rw [h1] at hU'
  dsimp only at hU'
  rw [if_neg (by decide)] at hU'
  clear hpH hck hsm hiff tb3 hC1 odd s1 s2 s3 s4 s5 s6 s7 h1 x4
  obtain ⟨es, hes⟩ : ∃ es, (List.range N).map (eN b) = es := ⟨_, rfl⟩
  rw [hes] at hU'
  obtain ⟨ks, hks⟩ : ∃ ks, es.map (·.f0) = ks := ⟨_, rfl⟩
  rw [hks] at hU'
  have hel : es.length = N := by rw [← hes, List.length_map, List.length_range]
  have hkl : ks.length = N := by rw [← hks, List.length_map, hel]
  have heg : ∀ i, i < N → es[i]? = some (eN b i) := fun i hi => by rw [← hes, List.getElem?_map, List.getElem?_range hi]; rfl
  have hkg : ∀ i, i < N → ks[i]? = some (rd b ((9 + 7 * i : Nat) : Int)) := fun i hi => by rw [← hks, List.getElem?_map, heg i hi]; rfl
  obtain ⟨w8, hw8⟩ : ∃ W, W = w7 := ⟨_, rfl⟩
  rw [← hw8] at hB7 ⊢
  clear hw8 w7
  have hf1 : ∀ i, i < N → 0 ≤ (eN b i).f1 ∧ (eN b i).f1 ≤ 65535 := fun i hi => by
    have h1 := rd_inB hby.out (i := 10 + 7 * i) (by rw [hln.out]; omega)
    have h2 := rd_inB hby.out (i := 11 + 7 * i) (by rw [hln.out]; omega)
    show 0 ≤ rd b ((10 + 7 * i : Nat) : Int) + 256 * rd b ((11 + 7 * i : Nat) : Int) ∧ rd b ((10 + 7 * i : Nat) : Int) + 256 * rd b ((11 + 7 * i : Nat) : Int) ≤ 65535
    omega
  have hen : ∀ e ∈ es, 0 ≤ e.f1 := fun e he => by
    rw [← hes] at he
    obtain ⟨i, hi, rfl⟩ := List.mem_map.1 he
    exact (hf1 i (List.mem_range.1 hi)).1
  replace hU' := Aside0.mk hU'; replace hes := Aside0.mk hes; replace hks := Aside0.mk hks; replace hel := Aside0.mk hel; replace hkl := Aside0.mk hkl; replace heg := Aside0.mk heg; replace hkg := Aside0.mk hkg; replace hf1 := Aside0.mk hf1; replace hen := Aside0.mk hen
  go_wp2_with fail
  go_loopw [6, 7, 8] (fun lv sv iv wr => ∃ (i : Nat) (ls sm : Int), lv = .int .i64 ls ∧ sv = .int .i64 sm ∧ iv = .int .i64 i ∧ i ≤ N ∧ 0 ≤ ls ∧ 0 ≤ sm ∧ sm ≤ 65535 * (i : Int) ∧ Aside0 ((ks.take i).getLastD 0 = ls) ∧ Aside0 (lenS (es.take i) = sm) ∧ Aside0 (risingL 0 (ks.take i) = true) ∧ Aside0 (Below w.heap.size w wr)) (fun _ _ iv _ => N - (intOf iv).toNat)
  case atStart => exact ⟨0, 0, 0, rfl, rfl, rfl, Nat.zero_le _, by decide, by decide, by decide, ⟨rfl⟩, ⟨rfl⟩, ⟨rfl⟩, hB7⟩
  case round =>
    obtain ⟨i, ls, sm, rfl, rfl, rfl, hi, hls, hsm0, hsm1, hlast, hlen, hR, hb⟩ := hrel
    by_cases hlt : i < N
    · have i0 : 0 ≤ (i : Int) := by omega
      have q1 : (i : Int) < (N : Int) := by omega
      have q2 : (i : Int) ≤ 16 := by omega
      obtain ⟨j9, hj9⟩ : ∃ j : Nat, 9 + 7 * i = j := ⟨_, rfl⟩
      obtain ⟨j10, hj10⟩ : ∃ j : Nat, 10 + 7 * i = j := ⟨_, rfl⟩
      obtain ⟨j11, hj11⟩ : ∃ j : Nat, 11 + 7 * i = j := ⟨_, rfl⟩
      have x9 := cell_N (Kd.C_below HE.out hb.out) j9 (by omega)
      have x10 := cell_N (Kd.C_below HE.out hb.out) j10 (by omega)
      have x11 := cell_N (Kd.C_below HE.out hb.out) j11 (by omega)
      obtain ⟨k0, k1⟩ := rd_inB hby.out (i := j9) (by rw [hln.out]; omega)
      obtain ⟨m0, m1⟩ := rd_inB hby.out (i := j10) (by rw [hln.out]; omega)
      obtain ⟨n0, n1⟩ := rd_inB hby.out (i := j11) (by rw [hln.out]; omega)
      have hkx := hkg.out i hlt
      have hex := heg.out i hlt
      have hef : (eN b i).f1 = rd b ((10 + 7 * i : Nat) : Int) + 256 * rd b ((11 + 7 * i : Nat) : Int) := rfl
      rw [hj10, hj11] at hef
      rw [hj9] at hkx
      obtain ⟨K, hK⟩ : ∃ K, rd b (j9 : Int) = K := ⟨_, rfl⟩
      obtain ⟨M0, hM0⟩ : ∃ K, rd b (j10 : Int) = K := ⟨_, rfl⟩
      obtain ⟨M1, hM1⟩ : ∃ K, rd b (j11 : Int) = K := ⟨_, rfl⟩
      rw [hK] at x9 k0 k1 hkx
      rw [hM0] at x10 m0 m1 hef
      rw [hM1] at x11 n0 n1 hef
      have hst := risingL_take ks 0 i K hkx hR.out
      have hls2 := lenS_take_succ hex
      rw [hef, hlen.out] at hls2
      have r9 : 9 + 7 * (i : Int) = (j9 : Int) := by omega
      have b9 : (j9 : Int) < (n : Int) := by omega
      replace hK := Aside0.mk hK; replace hM0 := Aside0.mk hM0; replace hM1 := Aside0.mk hM1; replace hef := Aside0.mk hef; replace hex := Aside0.mk hex; replace hls2 := Aside0.mk hls2; replace hkx := Aside0.mk hkx; replace hst := Aside0.mk hst; replace hj9 := Aside0.mk hj9; replace hj10 := Aside0.mk hj10; replace hj11 := Aside0.mk hj11
      by_cases hk : K ≤ ls
      · have hu : unpackOf b = (21, []) := by
          have h1 : risingL 0 (ks.take (i + 1)) = false := by rw [hst.out, hlast.out, decide_eq_true hk]; rfl
          rw [hU.out, ← hU'.out, if_pos (risingL_false ks 0 (i + 1) h1)]
        replace hu := Aside0.mk hu
        go_wp2_with fail
        go_ret2
        exact UnpPost.odd hu.out hb.out
      have hk2 : ¬ K ≤ ls := hk
      have good : risingL 0 (ks.take (i + 1)) = true := by
        have a1 : ¬ (255 < K) := by omega
        rw [hst.out, hlast.out, decide_eq_false hk, decide_eq_false a1]; rfl
      have hl2 : (ks.take (i + 1)).getLastD 0 = K := by rw [List.take_add_one, hkx.out]; simp
      have s1 : IntKind.i64.wrap (7 * (i : Int)) = 7 * (i : Int) := IntWalk.i64_in _ (by omega)
      have s2 : IntKind.i64.wrap (10 + 7 * (i : Int)) = (j10 : Int) := by rw [IntWalk.i64_in _ (by have := hj10.out; omega)]; have := hj10.out; omega
      have s3 : IntKind.i64.wrap (11 + 7 * (i : Int)) = (j11 : Int) := by rw [IntWalk.i64_in _ (by have := hj11.out; omega)]; have := hj11.out; omega
      have s4 : IntKind.i64.wrap (sm + M0) = sm + M0 := IntWalk.i64_in _ (by omega)
      have s5 : IntKind.i64.wrap (256 * M1) = 256 * M1 := IntWalk.i64_in _ (by omega)
      have s6 : IntKind.i64.wrap (sm + M0 + 256 * M1) = sm + M0 + 256 * M1 := IntWalk.i64_in _ (by omega)
      have b10 : (j10 : Int) < (n : Int) := by have := hj10.out; omega
      have b11 : (j11 : Int) < (n : Int) := by have := hj11.out; omega
      replace good := Aside0.mk good; replace hl2 := Aside0.mk hl2
      go_wp2_with fail
      go_quiet (fail)
      go_wp2_with fail
      go_roundw
      case rel => exact ⟨i + 1, K, sm + M0 + 256 * M1, rfl, rfl, by simp, by omega, by omega, by omega, by omega, hl2, ⟨by rw [hls2.out]; omega⟩, good, ⟨pw_below_drewN hb.out _⟩⟩
      case measure => show N - ((i : Int) + 1).toNat < N - (i : Int).toNat; omega
    · obtain rfl : N = i := by omega
      have hks1 : ks.take N = ks := List.take_of_length_le (by rw [hkl.out]; exact Nat.le_refl _)
      have hes1 : es.take N = es := List.take_of_length_le (by rw [hel.out]; exact Nat.le_refl _)
      rw [hks1] at hR
      rw [hes1] at hlen
      clear hks1 hes1 hlast
      obtain ⟨S, rfl⟩ : ∃ S : Nat, sm = S := ⟨sm.toNat, by omega⟩
      have hDl : ((b.drop (13 + 7 * N)).length : Int) = (n : Int) - (H : Int) - 4 := by rw [List.length_drop, hln.out]; have := eH.out; omega
      replace hU' := hU'.out
      rw [if_neg (by rw [hR.out]; decide)] at hU'
      by_cases sa : (n : Int) - (H : Int) - 4 < (S : Int)
      · have h1 := parts_short es (b.drop (13 + 7 * N)) hen.out (by rw [hDl, hlen.out]; exact sa)
        rw [h1] at hU'
        have h2 : ∀ xs, endOf xs 2 = 2 := fun xs => by unfold endOf; rw [if_neg (by simp)]
        rw [h2, if_pos (by decide)] at hU'
        have hu : Aside0 (unpackOf b = (2, [])) := ⟨by rw [hU.out, ← hU']⟩
        clear h1 h2 hU'
        go_wp2_with fail
        go_ret2
        exact UnpPost.odd hu.out hb.out
      by_cases sb : (S : Int) < (n : Int) - (H : Int) - 4
      · have h1 := parts_fit es (b.drop (13 + 7 * N)) hen.out (by rw [hDl, hlen.out]; omega)
        rw [h1] at hU'
        have h2 : endOf ((b.drop (13 + 7 * N)).drop (lenS es).toNat) 0 = 3 := by
          unfold endOf; rw [if_pos ⟨rfl, by rw [List.length_drop, hlen.out]; omega⟩]
        dsimp only at hU'
        rw [h2, if_pos (by decide)] at hU'
        have hu : Aside0 (unpackOf b = (3, [])) := ⟨by rw [hU.out, ← hU']⟩
        clear h1 h2 hU'
        go_wp2_with fail
        go_ret2
        exact UnpPost.odd hu.out hb.out
      have hSe : H + 4 + S = n := by omega
      have h1 := parts_nil_bod es (b.drop (13 + 7 * N)) hen.out (by rw [hDl, hlen.out]; omega)
      rw [h1] at hU'
      dsimp only at hU'
      have h2 : endOf [] 0 = 0 := rfl
      rw [h2, if_neg (by decide)] at hU'
      obtain ⟨bs, hbs⟩ : ∃ bs, bodA es (b.drop (13 + 7 * N)) = bs := ⟨_, rfl⟩
      rw [hbs] at hU'
      have hbl : bs.length = N := by rw [← hbs, bodA_len, hel.out]
      have hbg : ∀ j, j < N → bs[j]? = some ((b.drop (13 + 7 * N + (lenS (es.take j)).toNat)).take (eN b j).f1.toNat) := fun j hj => by
        rw [← hbs, bodA_get es _ j (eN b j) hen.out (heg.out j hj), List.drop_drop]
      have hle : ∀ j, lenS (es.take j) ≤ S := fun j => by have := lenS_take_le hen.out j; rw [hlen.out] at this; exact this
      have hge : ∀ j, 0 ≤ lenS (es.take j) := fun j => lenS_nonneg _ (fun e he => hen.out e (List.mem_of_mem_take he))
      clear h1 h2 hks hkl hkg hR hlen
      obtain ⟨wx, hwx⟩ : ∃ W, W = wr := ⟨_, rfl⟩
      rw [← hwx] at hb ⊢
      clear hwx
      replace hU' := Aside0.mk hU'; replace hbs := Aside0.mk hbs; replace hbl := Aside0.mk hbl; replace hbg := Aside0.mk hbg; replace hle := Aside0.mk hle; replace hge := Aside0.mk hge; replace hDl := Aside0.mk hDl
      go_wp2_with fail
      go_loopw [10, 11, 12] (fun lv av iv wr => ∃ (i a : Nat) (hs : List SH), av = .int .i64 a ∧ iv = .int .i64 i ∧ i ≤ N ∧ Aside0 (a = H + 4 + (lenS (es.take i)).toNat) ∧ Aside0 (hs.length = i) ∧ Aside0 (RowIs w es bs hs) ∧ Aside0 (kSH.R 36 wr w.heap.size (fun _ => True) lv hs) ∧ Aside0 (sumsOk (es.take i) (bs.take i) = true) ∧ Aside0 (Below w.heap.size w wr)) (fun _ _ iv _ => N - (intOf iv).toNat)
      case atStart => exact ⟨0, H + 4, [], by simp, rfl, Nat.zero_le _, ⟨by simp [lenS]⟩, ⟨rfl⟩, ⟨fun j h l hh => by simp at hh⟩, ⟨Kd.R_nil _ _ _ _ _⟩, ⟨rfl⟩, hb⟩
      case round =>
        obtain ⟨i, a, hs, rfl, rfl, hi, ha, hhl, hRI, hRR, hsu, hb⟩ := hrel
        by_cases hlt : i < N
        · have i0 : 0 ≤ (i : Int) := by omega
          have q1 : (i : Int) < (N : Int) := by omega
          have q2 : (i : Int) ≤ 16 := by omega
          obtain ⟨j9, hj9⟩ : ∃ j : Nat, 9 + 7 * i = j := ⟨_, rfl⟩
          obtain ⟨j10, hj10⟩ : ∃ j : Nat, 10 + 7 * i = j := ⟨_, rfl⟩
          obtain ⟨j11, hj11⟩ : ∃ j : Nat, 11 + 7 * i = j := ⟨_, rfl⟩
          obtain ⟨j12, hj12⟩ : ∃ j : Nat, 12 + 7 * i = j := ⟨_, rfl⟩
          obtain ⟨j16, hj16⟩ : ∃ j : Nat, 16 + 7 * i = j := ⟨_, rfl⟩
          have x10 := cell_N (Kd.C_below HE.out hb.out) j10 (by omega)
          have x11 := cell_N (Kd.C_below HE.out hb.out) j11 (by omega)
          obtain ⟨k0, k1⟩ := rd_inB hby.out (i := j9) (by rw [hln.out]; omega)
          obtain ⟨m0, m1⟩ := rd_inB hby.out (i := j10) (by rw [hln.out]; omega)
          obtain ⟨n0, n1⟩ := rd_inB hby.out (i := j11) (by rw [hln.out]; omega)
          have hex := heg.out i hlt
          have hbx := hbg.out i hlt
          have hef : (eN b i).f1 = rd b ((10 + 7 * i : Nat) : Int) + 256 * rd b ((11 + 7 * i : Nat) : Int) := rfl
          have hek : (eN b i).f0 = rd b ((9 + 7 * i : Nat) : Int) := rfl
          have hec : (eN b i).f2 = leNum ((b.drop (12 + 7 * i)).take 4) := rfl
          rw [hj10, hj11] at hef
          rw [hj9] at hek
          rw [hj12] at hec
          obtain ⟨K, hK⟩ : ∃ K, rd b (j9 : Int) = K := ⟨_, rfl⟩
          obtain ⟨M0, hM0⟩ : ∃ K, rd b (j10 : Int) = K := ⟨_, rfl⟩
          obtain ⟨M1, hM1⟩ : ∃ K, rd b (j11 : Int) = K := ⟨_, rfl⟩
          rw [hK] at k0 k1 hek
          rw [hM0] at x10 m0 m1 hef
          rw [hM1] at x11 n0 n1 hef
          obtain ⟨m, hm⟩ : ∃ m : Nat, M0 + 256 * M1 = (m : Int) := ⟨(M0 + 256 * M1).toNat, by omega⟩
          rw [hm] at hef
          rw [hef] at hbx
          rw [show 13 + 7 * N + (lenS (es.take i)).toNat = a by have := ha.out; have := eH.out; omega, Int.toNat_natCast] at hbx
          have hls2 := lenS_take_succ hex
          rw [hef] at hls2
          have hle1 := hle.out (i + 1)
          have hge0 := hge.out i
          have ham : a + m ≤ n := by have := ha.out; omega
          have hmn : m ≤ 65535 := by omega
          obtain ⟨body, hbody⟩ : ∃ l, (b.drop a).take m = l := ⟨_, rfl⟩
          have hbodyl : body.length = m := by rw [← hbody, List.length_take, List.length_drop, hln.out]; omega
          rw [hbody] at hbx
          have hbodyB : inB body := by rw [← hbody]; exact inB_take (inB_drop hby.out a) m
          obtain ⟨Aq, hAq⟩ : ∃ A : Option Addr, (if c = a then some ⟨g, o, none⟩ else some ⟨g, o + a, none⟩ : Option Addr) = A := ⟨_, rfl⟩
          have hAsp : ∀ ad, Aq = some ad → ad.spot = none := fun ad e => by
            rw [← hAq] at e
            split at e
            · cases e; rfl
            · cases e; rfl
          have hAC : U8.C w Aq m body := by
            by_cases hca : c = a
            · have hm0 : m = 0 := by omega
              subst hm0
              have : body = [] := List.eq_nil_of_length_eq_zero hbodyl
              rw [this]
              exact ⟨rfl, by decide, fun h => absurd h (by decide)⟩
            · rw [← hAq, if_neg hca, ← hbody]
              exact cut_N HE.out a m ham
          have c12 : U8.C w (some ⟨g, o + j12, none⟩) 4 ((b.drop j12).take 4) := cut_N HE.out j12 4 (by omega)
          have cr2 := crc_range body hbodyB
          obtain ⟨x2, hx2⟩ : ∃ x, crc body = x := ⟨_, rfl⟩
          rw [hx2] at cr2
          have hck := fun W (hb : Below w.heap.size w W) => rcheck_calls Aq m (c - a) body W (Kd.C_below hAC hb) hbodyB
          rw [hx2] at hck
          have hiff := digs4_iff (l := (b.drop j12).take 4) (x := x2) (inB_take (inB_drop hby.out j12) 4) (by rw [List.length_take, List.length_drop, hln.out]; omega) (by omega) (by omega)
          have hsm := fun W A1 C1 (hb : Below w.heap.size w W) (h1 : U8.C W A1 4 (digs x2 4)) => Same01B_calls A1 4 C1 (some ⟨g, o + j12, none⟩) 4 (c - j12) _ _ W h1 (Kd.C_below c12 hb)
          obtain ⟨pB, hpB⟩ : ∃ p, decide (digs x2 4 = (b.drop j12).take 4) = p := ⟨_, rfl⟩
          rw [hpB] at hsm
          have hsn := sumsOk_snoc hex hbx
          rw [hsu.out, hx2, hec, Bool.true_and] at hsn
          have r9 : 9 + 7 * (i : Int) = (j9 : Int) := by omega
          have s1 : IntKind.i64.wrap (7 * (i : Int)) = 7 * (i : Int) := IntWalk.i64_in _ (by omega)
          have s2 : IntKind.i64.wrap (10 + 7 * (i : Int)) = (j10 : Int) := by rw [IntWalk.i64_in _ (by omega)]; omega
          have s3 : IntKind.i64.wrap (11 + 7 * (i : Int)) = (j11 : Int) := by rw [IntWalk.i64_in _ (by omega)]; omega
          have s5 : IntKind.i64.wrap (256 * M1) = 256 * M1 := IntWalk.i64_in _ (by omega)
          have s6 : IntKind.i64.wrap (M0 + 256 * M1) = (m : Int) := by rw [IntWalk.i64_in _ (by omega)]; omega
          have b9 : (j9 : Int) < (n : Int) := by omega
          have b10 : (j10 : Int) < (n : Int) := by omega
          have b11 : (j11 : Int) < (n : Int) := by omega
          have t1 : (a : Int) + (m : Int) ≤ (c : Int) := by omega
          have t2 : ((a : Int) + (m : Int)).toNat = a + m := by omega
          have t3 : a + m - a = m := by omega
          have t4 : (a : Int) ≤ (a : Int) + (m : Int) := by omega
          have v1 : IntKind.i64.wrap (12 + 7 * (i : Int)) = (j12 : Int) := by rw [IntWalk.i64_in _ (by omega)]; omega
          have v2 : IntKind.i64.wrap (16 + 7 * (i : Int)) = (j16 : Int) := by rw [IntWalk.i64_in _ (by omega)]; omega
          have v3 : ¬ c = j12 := by omega
          have v4 : (j16 : Int) ≤ (c : Int) := by omega
          have v5 : (j12 : Int) ≤ (j16 : Int) := by omega
          have v6 : j16 - j12 = 4 := by omega
          have v7 : j12 ≤ j16 := by omega
          have v8 : j16 ≤ c := by omega
          have hla : (a : Int) ≤ 140737488355328 := by omega
          have hlm : (m : Int) ≤ 65535 := by omega
          clear hle1 hge0 hAC c12
          replace hK := Aside0.mk hK; replace hM0 := Aside0.mk hM0; replace hM1 := Aside0.mk hM1; replace hef := Aside0.mk hef; replace hek := Aside0.mk hek; replace hec := Aside0.mk hec; replace hex := Aside0.mk hex; replace hbx := Aside0.mk hbx; replace hls2 := Aside0.mk hls2; replace hj9 := Aside0.mk hj9; replace hj10 := Aside0.mk hj10; replace hj11 := Aside0.mk hj11; replace hj12 := Aside0.mk hj12; replace hj16 := Aside0.mk hj16; replace hm := Aside0.mk hm; replace hbody := Aside0.mk hbody; replace hbodyl := Aside0.mk hbodyl; replace hbodyB := Aside0.mk hbodyB; replace hAsp := Aside0.mk hAsp; replace hx2 := Aside0.mk hx2; replace cr2 := Aside0.mk cr2; replace hck := Aside0.mk hck; replace hiff := Aside0.mk hiff; replace hsm := Aside0.mk hsm; replace hsn := Aside0.mk hsn; replace ham := Aside0.mk ham
          go_wp2_with fail
          go_quiet (fail)
          go_wp2_with fail
          obtain ⟨wq, hwq⟩ : ∃ W, W = wr.drewN nq := ⟨_, rfl⟩
          have hbq : Aside0 (Below w.heap.size w wq) := ⟨by rw [hwq]; exact pw_below_drewN hb.out _⟩
          have hRq : Aside0 (kSH.R 36 wq w.heap.size (fun _ => True) u10 hs) := ⟨by rw [hwq]; exact Kd.R_below hRR.out (pw_below_drewN (Below.refl _ _) _)⟩
          rw [← hwq]
          clear hwq hb hRR x10 x11
          have hdw := Aside0.mk hbq.out.drew
          have hRd := Aside0.mk (Kd.R_drew hRq.out)
          (refine Ht.beginZ 11 (fun _ => True) (by kernel_rfl) (by kernel_rfl) trivial ?_; intro hSnow; (try dsimp only at hSnow); simp only [List.take_succ_cons, List.take_zero, List.drop_succ_cons, List.drop_zero]; ((refine Ht.Hz.take (v := ?_) 0 rfl (by decide) (by kernel_rfl) (by kernel_rfl) (fun _ _ _ h => h) (by with_reducible exact hSnow) (Or.inl ⟨by rfl, fun w hSw => ?_⟩) ?_; rotate_left; focus ((try dsimp only at hSw); go_simp; (try with_reducible rfl); done); (try simp only [List.getElem_toArray, List.getElem_cons_succ, List.getElem_cons_zero, Act.put, List.setIfInBounds_toArray, List.set_cons_zero, List.set_cons_succ])); (refine Ht.Hz.take (v := ?_) 2 rfl (by decide) (by kernel_rfl) (by kernel_rfl) (fun _ _ _ h => h) (by with_reducible exact hSnow) (Or.inl ⟨by rfl, fun w hSw => ?_⟩) ?_; rotate_left; focus ((try dsimp only at hSw); go_simp; (try with_reducible rfl); done); (try simp only [List.getElem_toArray, List.getElem_cons_succ, List.getElem_cons_zero, Act.put, List.setIfInBounds_toArray, List.set_cons_zero, List.set_cons_succ])); (refine Ht.Hz.take (v := ?_) 3 rfl (by decide) (by kernel_rfl) (by kernel_rfl) (fun _ _ _ h => h) (by with_reducible exact hSnow) (Or.inl ⟨by rfl, fun w hSw => ?_⟩) ?_; rotate_left; focus ((try dsimp only at hSw); go_simp; (try with_reducible rfl); done); (try simp only [List.getElem_toArray, List.getElem_cons_succ, List.getElem_cons_zero, Act.put, List.setIfInBounds_toArray, List.set_cons_zero, List.set_cons_succ])); (refine Ht.Hz.take (v := ?_) 4 rfl (by decide) (by kernel_rfl) (by kernel_rfl) (fun _ _ _ h => h) (by with_reducible exact hSnow) (Or.inl ⟨by rfl, fun w hSw => ?_⟩) ?_; rotate_left; focus ((try dsimp only at hSw); go_simp; (try with_reducible rfl); done); (try simp only [List.getElem_toArray, List.getElem_cons_succ, List.getElem_cons_zero, Act.put, List.setIfInBounds_toArray, List.set_cons_zero, List.set_cons_succ])); (refine Ht.Hz.take (v := ?_) 5 rfl (by decide) (by kernel_rfl) (by kernel_rfl) (fun _ _ _ h => h) (by with_reducible exact hSnow) (Or.inl ⟨by rfl, fun w hSw => ?_⟩) ?_; rotate_left; focus ((try dsimp only at hSw); go_simp; (try with_reducible rfl); done); (try simp only [List.getElem_toArray, List.getElem_cons_succ, List.getElem_cons_zero, Act.put, List.setIfInBounds_toArray, List.set_cons_zero, List.set_cons_succ])); (refine Ht.Hz.take (v := ?_) 6 rfl (by decide) (by kernel_rfl) (by kernel_rfl) (fun _ _ _ h => h) (by with_reducible exact hSnow) (Or.inl ⟨by rfl, fun w hSw => ?_⟩) ?_; rotate_left; focus ((try dsimp only at hSw); go_simp; (try with_reducible rfl); done); (try simp only [List.getElem_toArray, List.getElem_cons_succ, List.getElem_cons_zero, Act.put, List.setIfInBounds_toArray, List.set_cons_zero, List.set_cons_succ])); (refine Ht.Hz.take (v := ?_) 7 rfl (by decide) (by kernel_rfl) (by kernel_rfl) (fun _ _ _ h => h) (by with_reducible exact hSnow) (Or.inl ⟨by rfl, fun w hSw => ?_⟩) ?_; rotate_left; focus ((try dsimp only at hSw); go_simp; (try with_reducible rfl); done); (try simp only [List.getElem_toArray, List.getElem_cons_succ, List.getElem_cons_zero, Act.put, List.setIfInBounds_toArray, List.set_cons_zero, List.set_cons_succ])); (refine Ht.Hz.take (v := ?_) 8 rfl (by decide) (by kernel_rfl) (by kernel_rfl) (fun _ _ _ h => h) (by with_reducible exact hSnow) (Or.inl ⟨by rfl, fun w hSw => ?_⟩) ?_; rotate_left; focus ((try dsimp only at hSw); go_simp; (try with_reducible rfl); done); (try simp only [List.getElem_toArray, List.getElem_cons_succ, List.getElem_cons_zero, Act.put, List.setIfInBounds_toArray, List.set_cons_zero, List.set_cons_succ])); (refine Ht.Hz.take (v := ?_) 9 rfl (by decide) (by kernel_rfl) (by kernel_rfl) (fun _ _ _ h => h) (by with_reducible exact hSnow) (Or.inl ⟨by rfl, fun w hSw => ?_⟩) ?_; rotate_left; focus ((try dsimp only at hSw); go_simp; (try with_reducible rfl); done); (try simp only [List.getElem_toArray, List.getElem_cons_succ, List.getElem_cons_zero, Act.put, List.setIfInBounds_toArray, List.set_cons_zero, List.set_cons_succ]))))
          ((with_reducible refine Ht.Hz.effectAt 1 (by decide) (by decide) (by kernel_rfl) ?_); (try simp only [List.getElem_toArray, List.getElem_cons_succ, List.getElem_cons_zero]); go_wp2_with ((go_at_call 56; (with_reducible refine (hck.out _ hdw.out).mono ?_); rintro e v1w ⟨y, rfl, rr, hb1⟩; (obtain ⟨A2, C2, rfl, -, hC2⟩ := Kd.R_reads rr); rw [digs_length] at hC2; rw [digs_length]; (have hB6 := Aside0.mk (hdw.out.trans (hb1.mono hdw.out.size))); (have hR6 := Aside0.mk (Kd.R_below hRd.out hb1)); clear rr hb1; replace hC2 := Aside0.mk hC2)); refine ⟨trivial, ?_⟩; clear hSnow; (have hSnow := trivial); (try simp only [List.getElem_toArray, List.getElem_cons_succ, List.getElem_cons_zero, Act.put, List.setIfInBounds_toArray, List.set_cons_zero, List.set_cons_succ]))
          ((with_reducible refine Ht.Hz.effectAt 10 (by decide) (by decide) (by kernel_rfl) ?_); (try simp only [List.getElem_toArray, List.getElem_cons_succ, List.getElem_cons_zero]); go_wp2_with ((go_at_call 13; (with_reducible refine (hsm.out v1w A2 C2 hB6.out hC2.out).mono ?_); rintro e v2w ⟨rfl, hb2⟩; (have hB8 := Aside0.mk (hB6.out.trans (hb2.mono hB6.out.size))); (have hR8 := Aside0.mk (Kd.R_below hR6.out hb2)); clear hb2)); refine ⟨trivial, ?_⟩; clear hSnow; (have hSnow := trivial); (try simp only [List.getElem_toArray, List.getElem_cons_succ, List.getElem_cons_zero, Act.put, List.setIfInBounds_toArray, List.set_cons_zero, List.set_cons_succ]))
          (refine Ht.Hz.done (by kernel_rfl) ?_; clear hSnow)
          cases pB with
          | false =>
            have hne : ¬ (x2 = leNum ((b.drop j12).take 4)) := fun e => of_decide_eq_false hpB ((hiff.out.2 e.symm).symm)
            have hu : unpackOf b = (4, []) := by
              have h1 := sumsOk_false (k := i + 1) (es := es) (bs := bs) (by rw [hsn.out]; exact decide_eq_false hne)
              rw [hU.out, ← hU'.out, if_pos h1]
            clear hpB hne
            replace hu := Aside0.mk hu
            go_wp2_with fail
            go_ret2
            exact UnpPost.odd hu.out hB8.out
          | true =>
          have hsu2 : sumsOk (es.take (i + 1)) (bs.take (i + 1)) = true := by rw [hsn.out]; exact decide_eq_true (hiff.out.1 (of_decide_eq_true hpB).symm).symm
          have x9 := cell_N (Kd.C_below HE.out hB8.out) j9 (by have := hj9.out; omega)
          rw [hK.out] at x9
          have hRI2 := hRI.out.push (h := ⟨K, Aq, m, c - a⟩) (by rw [hhl.out]; exact hex.out) (by rw [hhl.out]; exact hbx.out) hek.out.symm hbodyl.out.symm (by rw [hbodyl.out]; show m ≤ c - a; have := ham.out; omega) (by
            show U8.C w Aq m body
            by_cases hca : c = a
            · have hm0 : m = 0 := by have := ham.out; omega
              have : body = [] := List.eq_nil_of_length_eq_zero (hbodyl.out.trans hm0)
              rw [this, hm0]
              exact ⟨rfl, by decide, fun h => absurd h (by decide)⟩
            · rw [← hAq, if_neg hca, ← hbody.out]
              exact cut_N HE.out a m ham.out) hAsp.out
          have hl8 : (hs.length + 1) * 32 ≤ 140737488355328 := by rw [hhl.out]; omega
          have ha2 : a + m = H + 4 + (lenS (es.take (i + 1))).toNat := by rw [hls2.out]; have := ha.out; have := hge.out i; omega
          clear hpB hAq
          replace hsu2 := Aside0.mk hsu2; replace hRI2 := Aside0.mk hRI2; replace hl8 := Aside0.mk hl8; replace ha2 := Aside0.mk ha2
          go_wp2_with (((with_reducible refine gate_builtin (b := .append) (xs := #[.tmp 143, .tmp 153]) rfl ?_); at_builtin; refine Kd.R_append kSH (w0 := w) w.heap.size rfl (.tmp 143) (.tmp 153) 34 36 (.agg #[.int .i64 0, .slice none 0 0]) 32 rfl Tryz.underlying34 infoE2 rfl (by decide) (by omega) u10 hs (⟨K, Aq, m, c - a⟩ : SH) [.int .i64 K, .slice Aq m (c - a)] (fun _ => True) (fun _ => False) rfl rfl rfl (fun _ hk => hk.elim) (fun _ _ => trivial) hR8.out hB8.out hB8.out.size hl8.out ?_; intro v2 w7 hR7 hb7 hg7 hat7; replace hR7 := Aside0.mk hR7; replace hb7 := Aside0.mk hb7; clear hg7 hat7))
          go_roundw
          case rel => exact ⟨i + 1, a + m, hs ++ [⟨K, Aq, m, c - a⟩], by simp, by simp, by omega, ha2, ⟨by rw [List.length_append, hhl.out]; rfl⟩, hRI2, hR7, hsu2, hb7⟩
          case measure => show N - ((i : Int) + 1).toNat < N - (i : Int).toNat; omega
        · obtain rfl : N = i := by omega
          have hbs1 : bs.take N = bs := List.take_of_length_le (by rw [hbl.out]; exact Nat.le_refl _)
          have hes1 : es.take N = es := List.take_of_length_le (by rw [hel.out]; exact Nat.le_refl _)
          rw [hbs1, hes1] at hsu
          replace hU' := hU'.out
          rw [if_neg (by rw [hsu.out]; decide)] at hU'
          have hu : Aside0 (unpackOf b = (0, secsZ es bs)) := ⟨by rw [hU.out, ← hU']⟩
          obtain ⟨A9, c9, rfl, hc9, hC9⟩ := Kd.R_reads hRR.out
          rw [hhl.out] at hc9 hC9
          rw [hhl.out]
          have hz := Aside0.mk (hRI.out.secs hC9 hb.out hel.out hbl.out)
          have hzl : Aside0 ((secsZ es bs).length = N) := ⟨hz.out.1⟩
          clear hU' hC9 hbs1 hes1
          replace hc9 := Aside0.mk hc9
          go_wp2_with fail
          go_ret2
          exact ⟨A9, c9, 0, secsZ es bs, by rw [hzl.out]; rfl, hu.out.symm, hb.out, by rw [hzl.out]; exact hc9.out, by rw [hzl.out]; exact hz.out⟩
end Go.Proofs.YtpnjhffnlafabaaGreatDoor.Im
