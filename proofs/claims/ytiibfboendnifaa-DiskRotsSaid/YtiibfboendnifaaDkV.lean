/- DiskRots: a bit that is turned over twice is as it was. -/
import Derived.Test.YtiibfboendnifaaDkU
namespace Go.Proofs.Ytiibfboendnifaa.Dk
set_option linter.unusedVariables false
set_option linter.unusedSimpArgs false
open Go.RowKit Go.Proofs.Bk Go.Proofs.Bm Go.Proofs.Op Go.Proofs.YtiibfboendnifaaW.PrintWords

theorem rot_not {D : Dsk} (hF : Fine 20 D) {i b : Int} (hT : ¬ (0 ≤ i ∧ i < 20 ∧ 0 ≤ b ∧ b < 512)) : D.rot i b = D := by
  unfold Dsk.rot
  rw [if_neg]
  rintro ⟨h1, h2, h3⟩
  unfold Dsk.has at h1
  rw [hF.len] at h1
  simp at h1
  exact hT ⟨h1.1, h1.2, h2, h3⟩
theorem rot_T {w : World} {B K M : Nat} {D : Dsk} (h : IsDisk w B K M D) (hF : Fine 20 D) {i b : Int} (h0 : 0 ≤ i) (h1 : i < 20) (h2 : 0 ≤ b) (h3 : b < 512) :
    ∃ s v, D.kept[i.toNat]? = some s ∧ Sec s ∧ s[(b.tdiv 8).toNat]? = some v ∧ (0 ≤ v ∧ v ≤ 255) ∧ (D.rot i b).kept = D.kept.set i.toNat (s.set (b.tdiv 8).toNat (flip v (b.tmod 8).toNat)) ∧ (D.rot i b).rot i b = D ∧ D.kept ≠ (D.rot i b).kept := by
  have hq : b.tdiv 8 = b / 8 := Int.tdiv_eq_ediv_of_nonneg h2
  have hr : b.tmod 8 = b % 8 := Int.tmod_eq_emod_of_nonneg h2
  have hl := hF.len
  obtain ⟨s, hs⟩ : ∃ s, D.kept[i.toNat]? = some s := ⟨D.kept[i.toNat]'(by omega), List.getElem?_eq_getElem _⟩
  have hS := h.secs _ (List.mem_of_getElem? hs)
  obtain ⟨v, hv⟩ : ∃ v, s[(b.tdiv 8).toNat]? = some v := ⟨s[(b.tdiv 8).toNat]'(by rw [hS.1, hq]; omega), List.getElem?_eq_getElem _⟩
  have hvb := hS.2 v (List.mem_of_getElem? hv)
  have hfl := flip_spec v (b.tmod 8).toNat hvb.1 hvb.2 (by rw [hr]; omega)
  have hil : i.toNat < D.kept.length := by omega
  have hql : (b.tdiv 8).toNat < s.length := by rw [hS.1, hq]; omega
  have hrot : D.rot i b = { D with kept := D.kept.set i.toNat (s.set (b.tdiv 8).toNat (flip v (b.tmod 8).toNat)) } := by
    unfold Dsk.rot turned
    rw [if_pos ⟨hF.has h0 h1, h2, h3⟩, List.getD_eq_getElem?_getD, hs]
    simp only [Option.getD_some, List.getD_eq_getElem?_getD, hv]
  refine ⟨s, v, hs, hS, hv, hvb, by rw [hrot], ?_, ?_⟩
  · have hF' := hF.rot i b
    rw [hrot] at hF' ⊢
    unfold Dsk.rot turned
    rw [if_pos ⟨hF'.has h0 h1, h2, h3⟩]
    simp only [List.getD_eq_getElem?_getD, List.getElem?_set_self hil, Option.getD_some, List.getElem?_set_self hql, List.set_set, hfl.1]
    have e1 : s.set (b.tdiv 8).toNat v = s := by
      have : s[(b.tdiv 8).toNat] = v := (List.getElem?_eq_some_iff.1 hv).2
      rw [← this, List.set_getElem_self]
    have e2 : D.kept.set i.toNat s = D.kept := by
      have : D.kept[i.toNat] = s := (List.getElem?_eq_some_iff.1 hs).2
      rw [← this, List.set_getElem_self]
    rw [e1, e2]
  · intro e
    rw [hrot] at e
    have h5 := congrArg (fun l => l[i.toNat]?) e
    simp only [List.getElem?_set_self hil, hs] at h5
    have h6 := congrArg (fun l => l[(b.tdiv 8).toNat]?) (Option.some.inj h5)
    simp only [List.getElem?_set_self hql, hv] at h6
    exact hfl.2.1 (Option.some.inj h6).symm

set_option maxHeartbeats 8000000 in
set_option maxRecDepth 100000 in
theorem DiskRots_calls (w : World) (A0 : Option Addr) (n0 c0 : Nat) (l0 : List OpM) (hr0 : kOp.C w A0 n0 l0) (hc0 : n0 ≤ c0) (ho0 : ∀ x ∈ l0, okOp x)
    (a1 : Int) (w1 : (Lit.int .i64 a1).wf = true) (a2 : Int) (w2 : (Lit.int .i64 a2).wf = true) :
    Calls Try.prog 6 #[.slice A0 n0 c0, .int .i64 a1, .int .i64 a2] w (OkPost w) := by
  have hb0 : Aside0 (∀ o ∈ l0, ∀ x ∈ o.b, 0 ≤ x ∧ x ≤ 255) := ⟨fun o ho x hx => wf_u8 ((ho0 o ho).2.2.2.1 x hx)⟩
  have HR0 := Aside0.mk hr0
  clear hr0 hc0 ho0 w1 w2
  go_enter Try.func6, Try.ntmps6
  go_wp2_with fail
  with_reducible refine (awake_calls w).mono ?_
  rintro e w1 ⟨rfl, hB1⟩
  replace hB1 := Aside0.mk hB1
  go_wp2_with fail
  with_reducible refine (few_calls A0 n0 c0 l0 _ (Kd.C_below HR0.out hB1.out)).mono ?_
  rintro e w' ⟨⟨b1, rfl⟩, rfl⟩
  cases b1 with
  | false =>
    have fin := Aside0.mk (show OkPost w (.returned (.bool true)) w1 from ⟨rfl, hB1.out⟩)
    go_wp2; go_ret; exact fin.out
  | true =>
    go_wp2_with fail
    with_reducible refine (walked_calls A0 n0 c0 l0 _ (Kd.C_below HR0.out hB1.out) hb0.out).mono ?_
    rintro e w4 ⟨B, K, M, D, rfl, hD, hF, hO⟩
    replace hO := hO.back hB1.out
    have hsec : Aside0 (∀ s ∈ D.kept, Sec s) := ⟨hD.secs⟩
    replace hD := Aside0.mk hD; replace hF := Aside0.mk hF; replace hO := Aside0.mk hO
    go_wp2_with fail
    with_reducible refine (Kept_calls B K M D _ hD.out).mono ?_
    rintro e wK ⟨v5, rfl, hwas, hbK⟩
    replace hwas := R_far hwas (by have := hD.out.lts; omega)
    obtain ⟨A5, c5, rfl, hc5, hwc⟩ := Kd.R_reads hwas
    rw [hF.out.len] at hc5 hwc ⊢
    have hDK := hD.out.below hbK
    have hOK := hO.out.below hbK
    have hF5 := hF.out.rot a1 a2
    replace hwas := Aside0.mk hwas; replace hwc := Aside0.mk hwc; replace hDK := Aside0.mk hDK; replace hOK := Aside0.mk hOK; replace hbK := Aside0.mk hbK; replace hc5 := Aside0.mk hc5; replace hF5 := Aside0.mk hF5
    go_wp2_with fail
    with_reducible refine (Rot_calls B K M D a1 a2 _ hDK.out).mono ?_
    rintro e w5 ⟨rfl, h5, hk5⟩
    have hO5 := hOK.out.keep hk5
    have hw5 := R_keep hwas.out hk5
    have hlt5 := h5.lts
    have hw5b : kSec.R 23 w5 w4.heap.size (fun k => ¬ FD B K M k ∧ k < w5.heap.size) (.slice A5 D.kept.length c5) D.kept := Kd.R_mono (Kd.R_bound hw5) (fun k hk => ⟨hk.1, hk.2.2.1⟩)
    replace h5 := Aside0.mk h5; replace hk5 := Aside0.mk hk5; replace hO5 := Aside0.mk hO5; replace hw5 := Aside0.mk hw5; replace hlt5 := Aside0.mk hlt5; replace hw5b := Aside0.mk hw5b
    go_wp2_with fail
    with_reducible refine (KeptB_calls B K M _ _ h5.out).mono ?_
    rintro e w6 ⟨vn, gs, rfl, hRn, hgl, hgn, hb6⟩
    obtain ⟨q, c, rfl, hS6⟩ := Secs.of_R (n := 20) hRn hF5.out.len (hgl.trans hF5.out.len) hgn (by omega)
    have h6 := h5.out.below hb6
    have hO6 := hO5.out.below hb6
    have hw6 : kSec.R 23 w6 w4.heap.size (fun k => ¬ FD B K M k) (.slice A5 D.kept.length c5) D.kept := Kd.R_step hw5.out (fun i _ hi => hb6.block i hi)
    have xw6 : kSec.C w6 A5 20 D.kept := by
      have := (Kd.R_reads' hw6).2.2
      rw [hF.out.len] at this; exact this
    have xs6 := hS6.c (by omega)
    have hsec5 : Aside0 (∀ s ∈ (D.rot a1 a2).kept, Sec s) := ⟨h6.secs⟩
    replace hRn := Aside0.mk hRn; replace hgl := Aside0.mk hgl; replace hgn := Aside0.mk hgn; replace hb6 := Aside0.mk hb6; replace hS6 := Aside0.mk hS6; replace h6 := Aside0.mk h6; replace hO6 := Aside0.mk hO6; replace hw6 := Aside0.mk hw6; replace xw6 := Aside0.mk xw6; replace xs6 := Aside0.mk xs6
    by_cases hT : 0 ≤ a1 ∧ a1 < 20 ∧ 0 ≤ a2 ∧ a2 < 512
    · obtain ⟨T1, T2, T3, T4⟩ := hT
      obtain ⟨s, v, R1, R2, R3, R4, R5, R6, R7⟩ := rot_T hD.out hF.out T1 T2 T3 T4
      have hrr : Aside0 ((D.rot a1 a2).rot a1 a2 = D) := ⟨R6⟩
      have hnd : Aside0 (decide (D.kept = (D.rot a1 a2).kept) = false) := ⟨decide_eq_false R7⟩
      replace R1 := Aside0.mk R1; replace R2 := Aside0.mk R2; replace R3 := Aside0.mk R3; replace R4 := Aside0.mk R4; replace R5 := Aside0.mk R5; replace R6 := Aside0.mk R6; replace R7 := Aside0.mk R7
      go_wp2_with fail
      with_reducible refine (Same09_calls A5 c5 (some ⟨q, 0, none⟩) c D.kept (D.rot a1 a2).kept 20 _ xw6.out xs6.out hsec.out hsec5.out).mono ?_
      rintro e wS ⟨rfl, mS, rfl⟩
      rw [hnd.out]
      have kf : KeepF (FD B K M) w6 (w6.drewN mS) := KeepF.drewN (KeepF.refl _ _) mS
      have hDz := h6.out.drewN mS
      have hOz := hO6.out.keep kf
      have hwz := R_keep hw6.out kf
      have hSz : Secs (w6.drewN mS) w5.heap.size q 20 (D.rot a1 a2).kept gs := hS6.out.keep (fun _ _ _ => rfl)
      obtain ⟨wz, hz⟩ : ∃ wz, w6.drewN mS = wz := ⟨_, rfl⟩
      rw [hz] at hDz hOz hwz hSz ⊢
      have hz6 : ∀ k : Nat, wz.heap[k]? = w6.heap[k]? := by rw [← hz]; exact fun _ => rfl
      clear hz kf
      replace hz6 := Aside0.mk hz6
      obtain ⟨Q, hQ⟩ : ∃ Q : Nat, (Q : Int) = a2.tdiv 8 := ⟨(a2.tdiv 8).toNat, by rw [Int.tdiv_eq_ediv_of_nonneg T3]; omega⟩
      obtain ⟨R, hR⟩ : ∃ R : Nat, (R : Int) = a2.tmod 8 := ⟨(a2.tmod 8).toNat, by rw [Int.tmod_eq_emod_of_nonneg T3]; omega⟩
      have hq0 : (Q : Int) < 64 := by rw [hQ, Int.tdiv_eq_ediv_of_nonneg T3]; omega
      have hr0 : (R : Int) < 8 := by rw [hR, Int.tmod_eq_emod_of_nonneg T3]; omega
      have hqz : 0 ≤ (Q : Int) := by omega
      have hqw : IntKind.i64.wrap (a2.tdiv 8) = Q := by rw [← hQ]; exact wrap64_small _ (by omega) (by omega)
      have hQn : (a2.tdiv 8).toNat = Q := by omega
      have hRn' : (a2.tmod 8).toNat = R := by omega
      have R1' := R1.out
      have R3' := R3.out
      have R5' := R5.out
      have R4' := R4.out
      rw [hQn] at R3' R5'
      rw [hRn'] at R5'
      have hIl : a1.toNat < D.kept.length := (List.getElem?_eq_some_iff.1 R1').1
      have hQl : Q < s.length := (List.getElem?_eq_some_iff.1 R3').1
      obtain ⟨g, hg⟩ : ∃ g, gs[a1.toNat]? = some g := ⟨gs[a1.toNat]'(by rw [hSz.lg]; omega), List.getElem?_eq_getElem _⟩
      have hx5 : (D.rot a1 a2).kept[a1.toNat]? = some (s.set Q (flip v R)) := by rw [R5', List.getElem?_set_self hIl]
      obtain ⟨z1, z2, z3⟩ := hSz.at_ _ _ _ hx5 hg
      have hfl := flip_spec v R R4'.1 R4'.2 (by omega)
      have hSp := hSz.put (p := Q) hx5 hg (flip (flip v R) R)
      have hback : (D.rot a1 a2).kept.set a1.toNat ((s.set Q (flip v R)).set Q (flip (flip v R) R)) = D.kept := by
        rw [R5', List.set_set, List.set_set, hfl.1]
        have e1 : s.set Q v = s := by rw [← (List.getElem?_eq_some_iff.1 R3').2, List.set_getElem_self]
        rw [e1, ← (List.getElem?_eq_some_iff.1 R1').2, List.set_getElem_self]
      rw [hback] at hSp
      have hgf : ¬ FD B K M g := fun hf => by have := hSz.bg g (List.mem_of_getElem? hg); have := hlt5.out; unfold FD at hf; omega
      have hDp := hDz.of_keep (KeepF.setCell wz ⟨g, Q, none⟩ (.int .u8 (flip (flip v R) R))) (fun e => hgf (.inl e.symm)) (fun e => hgf (.inr (.inl e.symm))) (fun e => hgf (.inr (.inr e.symm)))
      have xv : wz.drew.cell? ⟨g, Q, none⟩ = some (.int .u8 (flip v R)) := by
        show wz.cell? _ = _
        rw [cell_row z3, List.getElem?_toArray, byt, List.getElem?_map, List.getElem?_set_self hQl]; rfl
      have xv0 : wz.cell? ⟨g, Q, none⟩ = some (.int .u8 (flip v R)) := xv
      have xf : wz.drew.frozen? ⟨g, Q, none⟩ = false := frozen_row (w := wz) z3 _
      obtain ⟨fv, hfv⟩ : ∃ fv, flip v R = fv := ⟨_, rfl⟩
      rw [hfv] at xv xv0 hSp hDp
      replace hDz := Aside0.mk hDz; replace hOz := Aside0.mk hOz; replace hwz := Aside0.mk hwz; replace hSz := Aside0.mk hSz; replace hQ := Aside0.mk hQ; replace hR := Aside0.mk hR; replace hqw := Aside0.mk hqw; replace hQn := Aside0.mk hQn; replace hRn' := Aside0.mk hRn'; replace R1' := Aside0.mk R1'; replace R3' := Aside0.mk R3'; replace R5' := Aside0.mk R5'; replace R4' := Aside0.mk R4'; replace hIl := Aside0.mk hIl; replace hQl := Aside0.mk hQl; replace hg := Aside0.mk hg; replace hx5 := Aside0.mk hx5; replace z2 := Aside0.mk z2; replace z3 := Aside0.mk z3; replace hfl := Aside0.mk hfl; replace hSp := Aside0.mk hSp; replace hback := Aside0.mk hback; replace hgf := Aside0.mk hgf; replace hDp := Aside0.mk hDp; replace hfv := Aside0.mk hfv
      go_wp2_with fail
      go_still_tail 19, (by kernel_rfl)
      rw [hqw.out]
      repeat still_step
      rw [← hR.out]
      repeat still_step
      refine wpStill_nil ?_
      change wpList _ _ _ _ _ wz.drew
      go_wp2_with fail
      have hvv : bits BinOp.xor IntKind.u8 fv (2 ^ R % 256) = flip fv R := by
        unfold flip
        congr 1
      rw [hvv]
      obtain ⟨W, hW⟩ : ∃ W, (wz.setCell ⟨g, Q, none⟩ (.int .u8 (flip fv R))).drew = W := ⟨_, rfl⟩
      have hDW : IsDisk W B K M (D.rot a1 a2) := by rw [← hW]; exact hDp.out.drewN 1
      have hsW : Secs W w5.heap.size q 20 D.kept gs := by rw [← hW]; exact hSp.out.keep (fun _ _ _ => rfl)
      have hgb : w5.heap.size ≤ g := hSp.out.bg g (List.mem_of_getElem? hg.out)
      have hOW : Old w W B K M := by
        have k1 : KeepF (fun k => k = g) wz W := by rw [← hW]; exact (KeepF.setCell wz ⟨g, Q, none⟩ _).drew
        exact ⟨hOz.out.bel.trans (k1.to_below hOz.out.bel.size (fun i e => by rw [e]; exact Nat.le_trans hO5.out.bel.size hgb)), hOz.out.b, hOz.out.k, hOz.out.m⟩
      have hwW : kSec.R 23 W w4.heap.size (fun k => ¬ FD B K M k) (.slice A5 D.kept.length c5) D.kept := by
        have b1 := Kd.R_step (w1 := w6) hw5b.out (fun i _ hi => hb6.out.block i hi)
        have b2 := Kd.R_step (w1 := W) b1 (fun k hk _ => by rw [← hW]; exact (Below.heap_setCell wz _ _ k (fun e => by have h9 : k = g := e; have := hk.2; omega)).trans (hz6.out k))
        exact Kd.R_mono b2 (fun k h => h.1)
      rw [hW]
      clear hW hvv xv xv0 xf
      replace hDW := Aside0.mk hDW; replace hsW := Aside0.mk hsW; replace hOW := Aside0.mk hOW; replace hwW := Aside0.mk hwW; replace hgb := Aside0.mk hgb
      with_reducible refine (Rot_calls B K M (D.rot a1 a2) a1 a2 _ hDW.out).mono ?_
      rintro e w9 ⟨rfl, h9, hk9⟩
      rw [hrr.out] at h9
      have hO9 := hOW.out.keep hk9
      have hw9 := R_keep hwW.out hk9
      have hs9 := Secs.keep hsW.out (fun k hb hl => hk9.block k hl (fun hf => by have := hlt5.out; unfold FD at hf; omega))
      have xw : kSec.C w9 A5 20 D.kept := by
        have := (Kd.R_reads' hw9).2.2
        rw [hF.out.len] at this; exact this
      have xs := hs9.c (by omega)
      replace h9 := Aside0.mk h9; replace hk9 := Aside0.mk hk9; replace hO9 := Aside0.mk hO9; replace hw9 := Aside0.mk hw9; replace hs9 := Aside0.mk hs9; replace xw := Aside0.mk xw; replace xs := Aside0.mk xs
      go_wp2_with fail
      with_reducible refine (Same09_calls A5 c5 (some ⟨q, 0, none⟩) c D.kept D.kept 20 _ xw.out xs.out hsec.out hsec.out).mono ?_
      rintro e wS ⟨rfl, mS, rfl⟩
      rw [show decide (D.kept = D.kept) = true from decide_eq_true rfl]
      have hDy : IsDisk (w9.drewN mS) B K M D := h9.out.drewN mS
      have hOy : Old w (w9.drewN mS) B K M := hO9.out.keep (KeepF.drewN (KeepF.refl _ _) mS)
      have xwy : kSec.C (w9.drewN mS) A5 20 D.kept := Kd.C_below xw.out ⟨rfl, rfl, rfl, Nat.le_refl _, fun _ _ => rfl⟩
      obtain ⟨wy, hwy⟩ : ∃ wy, w9.drewN mS = wy := ⟨_, rfl⟩
      rw [hwy] at hDy hOy xwy ⊢
      clear hwy
      replace hDy := Aside0.mk hDy; replace hOy := Aside0.mk hOy; replace xwy := Aside0.mk xwy
      go_wp2_with fail
      with_reducible refine (Kept_calls B K M D _ hDy.out).mono ?_
      rintro e wf ⟨vf, rfl, hRf, hbf⟩
      obtain ⟨Af, cf, rfl, _, hcf⟩ := Kd.R_reads hRf
      rw [hF.out.len] at hcf ⊢
      have xwf := Kd.C_below xwy.out hbf
      have hOf := hOy.out.below hbf
      replace hRf := Aside0.mk hRf; replace hbf := Aside0.mk hbf; replace hcf := Aside0.mk hcf; replace xwf := Aside0.mk xwf; replace hOf := Aside0.mk hOf
      go_wp2_with fail
      with_reducible refine (Same09_calls A5 c5 Af cf D.kept D.kept 20 _ xwf.out hcf.out hsec.out hsec.out).mono ?_
      rintro e wE ⟨rfl, mE, rfl⟩
      rw [show decide (D.kept = D.kept) = true from decide_eq_true rfl]
      go_wp2_with fail
      go_ret
      exact ⟨rfl, ⟨hOf.out.bel.os, hOf.out.bel.tape, hOf.out.bel.output, hOf.out.bel.size, hOf.out.bel.block⟩⟩
    · have hrr : Aside0 ((D.rot a1 a2).rot a1 a2 = D) := ⟨by rw [rot_not hF.out hT, rot_not hF.out hT]⟩
      have hr1 : Aside0 ((D.rot a1 a2).kept = D.kept) := ⟨by rw [rot_not hF.out hT]⟩
      by_cases T1 : 0 ≤ a1
      · by_cases T2 : a1 < 20
        · by_cases T3 : 0 ≤ a2
          · have T4 : ¬ a2 < 512 := fun h => hT ⟨T1, T2, T3, h⟩
            clear hT
            go_wp2_with fail
            with_reducible refine (Same09_calls A5 c5 (some ⟨q, 0, none⟩) c D.kept (D.rot a1 a2).kept 20 _ xw6.out xs6.out hsec.out hsec5.out).mono ?_
            rintro e wS ⟨rfl, mS, rfl⟩
            rw [decide_eq_true hr1.out.symm]
            have hDW := h6.out.drewN mS
            have hOW := hO6.out.keep (KeepF.drewN (KeepF.refl (FD B K M) w6) mS)
            have hwW := R_keep hw6.out (KeepF.drewN (KeepF.refl (FD B K M) w6) mS)
            have hsW : Secs (w6.drewN mS) w5.heap.size q 20 D.kept gs := by
              have := hS6.out
              rw [hr1.out] at this
              exact this.keep (fun _ _ _ => rfl)
            obtain ⟨W, hW⟩ : ∃ W, w6.drewN mS = W := ⟨_, rfl⟩
            rw [hW] at hDW hOW hwW hsW ⊢
            clear hW
            replace hDW := Aside0.mk hDW; replace hOW := Aside0.mk hOW; replace hwW := Aside0.mk hwW; replace hsW := Aside0.mk hsW
            go_wp2_with fail
            with_reducible refine (Rot_calls B K M (D.rot a1 a2) a1 a2 _ hDW.out).mono ?_
            rintro e w9 ⟨rfl, h9, hk9⟩
            rw [hrr.out] at h9
            have hO9 := hOW.out.keep hk9
            have hw9 := R_keep hwW.out hk9
            have hs9 := Secs.keep hsW.out (fun k hb hl => hk9.block k hl (fun hf => by have := hlt5.out; unfold FD at hf; omega))
            have xw : kSec.C w9 A5 20 D.kept := by
              have := (Kd.R_reads' hw9).2.2
              rw [hF.out.len] at this; exact this
            have xs := hs9.c (by omega)
            replace h9 := Aside0.mk h9; replace hk9 := Aside0.mk hk9; replace hO9 := Aside0.mk hO9; replace hw9 := Aside0.mk hw9; replace hs9 := Aside0.mk hs9; replace xw := Aside0.mk xw; replace xs := Aside0.mk xs
            go_wp2_with fail
            with_reducible refine (Same09_calls A5 c5 (some ⟨q, 0, none⟩) c D.kept D.kept 20 _ xw.out xs.out hsec.out hsec.out).mono ?_
            rintro e wS ⟨rfl, mS, rfl⟩
            rw [show decide (D.kept = D.kept) = true from decide_eq_true rfl]
            have hDy : IsDisk (w9.drewN mS) B K M D := h9.out.drewN mS
            have hOy : Old w (w9.drewN mS) B K M := hO9.out.keep (KeepF.drewN (KeepF.refl _ _) mS)
            have xwy : kSec.C (w9.drewN mS) A5 20 D.kept := Kd.C_below xw.out ⟨rfl, rfl, rfl, Nat.le_refl _, fun _ _ => rfl⟩
            obtain ⟨wy, hwy⟩ : ∃ wy, w9.drewN mS = wy := ⟨_, rfl⟩
            rw [hwy] at hDy hOy xwy ⊢
            clear hwy
            replace hDy := Aside0.mk hDy; replace hOy := Aside0.mk hOy; replace xwy := Aside0.mk xwy
            go_wp2_with fail
            with_reducible refine (Kept_calls B K M D _ hDy.out).mono ?_
            rintro e wf ⟨vf, rfl, hRf, hbf⟩
            obtain ⟨Af, cf, rfl, _, hcf⟩ := Kd.R_reads hRf
            rw [hF.out.len] at hcf ⊢
            have xwf := Kd.C_below xwy.out hbf
            have hOf := hOy.out.below hbf
            replace hRf := Aside0.mk hRf; replace hbf := Aside0.mk hbf; replace hcf := Aside0.mk hcf; replace xwf := Aside0.mk xwf; replace hOf := Aside0.mk hOf
            go_wp2_with fail
            with_reducible refine (Same09_calls A5 c5 Af cf D.kept D.kept 20 _ xwf.out hcf.out hsec.out hsec.out).mono ?_
            rintro e wE ⟨rfl, mE, rfl⟩
            rw [show decide (D.kept = D.kept) = true from decide_eq_true rfl]
            go_wp2_with fail
            go_ret
            exact ⟨rfl, ⟨hOf.out.bel.os, hOf.out.bel.tape, hOf.out.bel.output, hOf.out.bel.size, hOf.out.bel.block⟩⟩
          · clear hT
            go_wp2_with fail
            with_reducible refine (Same09_calls A5 c5 (some ⟨q, 0, none⟩) c D.kept (D.rot a1 a2).kept 20 _ xw6.out xs6.out hsec.out hsec5.out).mono ?_
            rintro e wS ⟨rfl, mS, rfl⟩
            rw [decide_eq_true hr1.out.symm]
            have hDW := h6.out.drewN mS
            have hOW := hO6.out.keep (KeepF.drewN (KeepF.refl (FD B K M) w6) mS)
            have hwW := R_keep hw6.out (KeepF.drewN (KeepF.refl (FD B K M) w6) mS)
            have hsW : Secs (w6.drewN mS) w5.heap.size q 20 D.kept gs := by
              have := hS6.out
              rw [hr1.out] at this
              exact this.keep (fun _ _ _ => rfl)
            obtain ⟨W, hW⟩ : ∃ W, w6.drewN mS = W := ⟨_, rfl⟩
            rw [hW] at hDW hOW hwW hsW ⊢
            clear hW
            replace hDW := Aside0.mk hDW; replace hOW := Aside0.mk hOW; replace hwW := Aside0.mk hwW; replace hsW := Aside0.mk hsW
            go_wp2_with fail
            with_reducible refine (Rot_calls B K M (D.rot a1 a2) a1 a2 _ hDW.out).mono ?_
            rintro e w9 ⟨rfl, h9, hk9⟩
            rw [hrr.out] at h9
            have hO9 := hOW.out.keep hk9
            have hw9 := R_keep hwW.out hk9
            have hs9 := Secs.keep hsW.out (fun k hb hl => hk9.block k hl (fun hf => by have := hlt5.out; unfold FD at hf; omega))
            have xw : kSec.C w9 A5 20 D.kept := by
              have := (Kd.R_reads' hw9).2.2
              rw [hF.out.len] at this; exact this
            have xs := hs9.c (by omega)
            replace h9 := Aside0.mk h9; replace hk9 := Aside0.mk hk9; replace hO9 := Aside0.mk hO9; replace hw9 := Aside0.mk hw9; replace hs9 := Aside0.mk hs9; replace xw := Aside0.mk xw; replace xs := Aside0.mk xs
            go_wp2_with fail
            with_reducible refine (Same09_calls A5 c5 (some ⟨q, 0, none⟩) c D.kept D.kept 20 _ xw.out xs.out hsec.out hsec.out).mono ?_
            rintro e wS ⟨rfl, mS, rfl⟩
            rw [show decide (D.kept = D.kept) = true from decide_eq_true rfl]
            have hDy : IsDisk (w9.drewN mS) B K M D := h9.out.drewN mS
            have hOy : Old w (w9.drewN mS) B K M := hO9.out.keep (KeepF.drewN (KeepF.refl _ _) mS)
            have xwy : kSec.C (w9.drewN mS) A5 20 D.kept := Kd.C_below xw.out ⟨rfl, rfl, rfl, Nat.le_refl _, fun _ _ => rfl⟩
            obtain ⟨wy, hwy⟩ : ∃ wy, w9.drewN mS = wy := ⟨_, rfl⟩
            rw [hwy] at hDy hOy xwy ⊢
            clear hwy
            replace hDy := Aside0.mk hDy; replace hOy := Aside0.mk hOy; replace xwy := Aside0.mk xwy
            go_wp2_with fail
            with_reducible refine (Kept_calls B K M D _ hDy.out).mono ?_
            rintro e wf ⟨vf, rfl, hRf, hbf⟩
            obtain ⟨Af, cf, rfl, _, hcf⟩ := Kd.R_reads hRf
            rw [hF.out.len] at hcf ⊢
            have xwf := Kd.C_below xwy.out hbf
            have hOf := hOy.out.below hbf
            replace hRf := Aside0.mk hRf; replace hbf := Aside0.mk hbf; replace hcf := Aside0.mk hcf; replace xwf := Aside0.mk xwf; replace hOf := Aside0.mk hOf
            go_wp2_with fail
            with_reducible refine (Same09_calls A5 c5 Af cf D.kept D.kept 20 _ xwf.out hcf.out hsec.out hsec.out).mono ?_
            rintro e wE ⟨rfl, mE, rfl⟩
            rw [show decide (D.kept = D.kept) = true from decide_eq_true rfl]
            go_wp2_with fail
            go_ret
            exact ⟨rfl, ⟨hOf.out.bel.os, hOf.out.bel.tape, hOf.out.bel.output, hOf.out.bel.size, hOf.out.bel.block⟩⟩
        · clear hT
          go_wp2_with fail
          with_reducible refine (Same09_calls A5 c5 (some ⟨q, 0, none⟩) c D.kept (D.rot a1 a2).kept 20 _ xw6.out xs6.out hsec.out hsec5.out).mono ?_
          rintro e wS ⟨rfl, mS, rfl⟩
          rw [decide_eq_true hr1.out.symm]
          have hDW := h6.out.drewN mS
          have hOW := hO6.out.keep (KeepF.drewN (KeepF.refl (FD B K M) w6) mS)
          have hwW := R_keep hw6.out (KeepF.drewN (KeepF.refl (FD B K M) w6) mS)
          have hsW : Secs (w6.drewN mS) w5.heap.size q 20 D.kept gs := by
            have := hS6.out
            rw [hr1.out] at this
            exact this.keep (fun _ _ _ => rfl)
          obtain ⟨W, hW⟩ : ∃ W, w6.drewN mS = W := ⟨_, rfl⟩
          rw [hW] at hDW hOW hwW hsW ⊢
          clear hW
          replace hDW := Aside0.mk hDW; replace hOW := Aside0.mk hOW; replace hwW := Aside0.mk hwW; replace hsW := Aside0.mk hsW
          go_wp2_with fail
          with_reducible refine (Rot_calls B K M (D.rot a1 a2) a1 a2 _ hDW.out).mono ?_
          rintro e w9 ⟨rfl, h9, hk9⟩
          rw [hrr.out] at h9
          have hO9 := hOW.out.keep hk9
          have hw9 := R_keep hwW.out hk9
          have hs9 := Secs.keep hsW.out (fun k hb hl => hk9.block k hl (fun hf => by have := hlt5.out; unfold FD at hf; omega))
          have xw : kSec.C w9 A5 20 D.kept := by
            have := (Kd.R_reads' hw9).2.2
            rw [hF.out.len] at this; exact this
          have xs := hs9.c (by omega)
          replace h9 := Aside0.mk h9; replace hk9 := Aside0.mk hk9; replace hO9 := Aside0.mk hO9; replace hw9 := Aside0.mk hw9; replace hs9 := Aside0.mk hs9; replace xw := Aside0.mk xw; replace xs := Aside0.mk xs
          go_wp2_with fail
          with_reducible refine (Same09_calls A5 c5 (some ⟨q, 0, none⟩) c D.kept D.kept 20 _ xw.out xs.out hsec.out hsec.out).mono ?_
          rintro e wS ⟨rfl, mS, rfl⟩
          rw [show decide (D.kept = D.kept) = true from decide_eq_true rfl]
          have hDy : IsDisk (w9.drewN mS) B K M D := h9.out.drewN mS
          have hOy : Old w (w9.drewN mS) B K M := hO9.out.keep (KeepF.drewN (KeepF.refl _ _) mS)
          have xwy : kSec.C (w9.drewN mS) A5 20 D.kept := Kd.C_below xw.out ⟨rfl, rfl, rfl, Nat.le_refl _, fun _ _ => rfl⟩
          obtain ⟨wy, hwy⟩ : ∃ wy, w9.drewN mS = wy := ⟨_, rfl⟩
          rw [hwy] at hDy hOy xwy ⊢
          clear hwy
          replace hDy := Aside0.mk hDy; replace hOy := Aside0.mk hOy; replace xwy := Aside0.mk xwy
          go_wp2_with fail
          with_reducible refine (Kept_calls B K M D _ hDy.out).mono ?_
          rintro e wf ⟨vf, rfl, hRf, hbf⟩
          obtain ⟨Af, cf, rfl, _, hcf⟩ := Kd.R_reads hRf
          rw [hF.out.len] at hcf ⊢
          have xwf := Kd.C_below xwy.out hbf
          have hOf := hOy.out.below hbf
          replace hRf := Aside0.mk hRf; replace hbf := Aside0.mk hbf; replace hcf := Aside0.mk hcf; replace xwf := Aside0.mk xwf; replace hOf := Aside0.mk hOf
          go_wp2_with fail
          with_reducible refine (Same09_calls A5 c5 Af cf D.kept D.kept 20 _ xwf.out hcf.out hsec.out hsec.out).mono ?_
          rintro e wE ⟨rfl, mE, rfl⟩
          rw [show decide (D.kept = D.kept) = true from decide_eq_true rfl]
          go_wp2_with fail
          go_ret
          exact ⟨rfl, ⟨hOf.out.bel.os, hOf.out.bel.tape, hOf.out.bel.output, hOf.out.bel.size, hOf.out.bel.block⟩⟩
      · clear hT
        go_wp2_with fail
        with_reducible refine (Same09_calls A5 c5 (some ⟨q, 0, none⟩) c D.kept (D.rot a1 a2).kept 20 _ xw6.out xs6.out hsec.out hsec5.out).mono ?_
        rintro e wS ⟨rfl, mS, rfl⟩
        rw [decide_eq_true hr1.out.symm]
        have hDW := h6.out.drewN mS
        have hOW := hO6.out.keep (KeepF.drewN (KeepF.refl (FD B K M) w6) mS)
        have hwW := R_keep hw6.out (KeepF.drewN (KeepF.refl (FD B K M) w6) mS)
        have hsW : Secs (w6.drewN mS) w5.heap.size q 20 D.kept gs := by
          have := hS6.out
          rw [hr1.out] at this
          exact this.keep (fun _ _ _ => rfl)
        obtain ⟨W, hW⟩ : ∃ W, w6.drewN mS = W := ⟨_, rfl⟩
        rw [hW] at hDW hOW hwW hsW ⊢
        clear hW
        replace hDW := Aside0.mk hDW; replace hOW := Aside0.mk hOW; replace hwW := Aside0.mk hwW; replace hsW := Aside0.mk hsW
        go_wp2_with fail
        with_reducible refine (Rot_calls B K M (D.rot a1 a2) a1 a2 _ hDW.out).mono ?_
        rintro e w9 ⟨rfl, h9, hk9⟩
        rw [hrr.out] at h9
        have hO9 := hOW.out.keep hk9
        have hw9 := R_keep hwW.out hk9
        have hs9 := Secs.keep hsW.out (fun k hb hl => hk9.block k hl (fun hf => by have := hlt5.out; unfold FD at hf; omega))
        have xw : kSec.C w9 A5 20 D.kept := by
          have := (Kd.R_reads' hw9).2.2
          rw [hF.out.len] at this; exact this
        have xs := hs9.c (by omega)
        replace h9 := Aside0.mk h9; replace hk9 := Aside0.mk hk9; replace hO9 := Aside0.mk hO9; replace hw9 := Aside0.mk hw9; replace hs9 := Aside0.mk hs9; replace xw := Aside0.mk xw; replace xs := Aside0.mk xs
        go_wp2_with fail
        with_reducible refine (Same09_calls A5 c5 (some ⟨q, 0, none⟩) c D.kept D.kept 20 _ xw.out xs.out hsec.out hsec.out).mono ?_
        rintro e wS ⟨rfl, mS, rfl⟩
        rw [show decide (D.kept = D.kept) = true from decide_eq_true rfl]
        have hDy : IsDisk (w9.drewN mS) B K M D := h9.out.drewN mS
        have hOy : Old w (w9.drewN mS) B K M := hO9.out.keep (KeepF.drewN (KeepF.refl _ _) mS)
        have xwy : kSec.C (w9.drewN mS) A5 20 D.kept := Kd.C_below xw.out ⟨rfl, rfl, rfl, Nat.le_refl _, fun _ _ => rfl⟩
        obtain ⟨wy, hwy⟩ : ∃ wy, w9.drewN mS = wy := ⟨_, rfl⟩
        rw [hwy] at hDy hOy xwy ⊢
        clear hwy
        replace hDy := Aside0.mk hDy; replace hOy := Aside0.mk hOy; replace xwy := Aside0.mk xwy
        go_wp2_with fail
        with_reducible refine (Kept_calls B K M D _ hDy.out).mono ?_
        rintro e wf ⟨vf, rfl, hRf, hbf⟩
        obtain ⟨Af, cf, rfl, _, hcf⟩ := Kd.R_reads hRf
        rw [hF.out.len] at hcf ⊢
        have xwf := Kd.C_below xwy.out hbf
        have hOf := hOy.out.below hbf
        replace hRf := Aside0.mk hRf; replace hbf := Aside0.mk hbf; replace hcf := Aside0.mk hcf; replace xwf := Aside0.mk xwf; replace hOf := Aside0.mk hOf
        go_wp2_with fail
        with_reducible refine (Same09_calls A5 c5 Af cf D.kept D.kept 20 _ xwf.out hcf.out hsec.out hsec.out).mono ?_
        rintro e wE ⟨rfl, mE, rfl⟩
        rw [show decide (D.kept = D.kept) = true from decide_eq_true rfl]
        go_wp2_with fail
        go_ret
        exact ⟨rfl, ⟨hOf.out.bel.os, hOf.out.bel.tape, hOf.out.bel.output, hOf.out.bel.size, hOf.out.bel.block⟩⟩
end Go.Proofs.Ytiibfboendnifaa.Dk
