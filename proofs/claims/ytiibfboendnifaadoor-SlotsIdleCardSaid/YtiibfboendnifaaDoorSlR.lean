/- SlotsIdle: a crash where nothing is on its way changes nothing. -/
import Derived.Test.YtiibfboendnifaaDoorSlQ
import Derived.Test.YtiibfboendnifaaDoorDkZ
namespace Go.Proofs.YtiibfboendnifaaDoor.Sl
set_option linter.unusedVariables false
set_option linter.unusedSimpArgs false
open Go.RowKit Go.Proofs.Bk Go.Proofs.Bm Go.Proofs.Op Go.Proofs.YtiibfboendnifaaDoor.Dk Go.Proofs.YtiibfboendnifaaDoorW.PrintWords

theorem sameB_refl (h : Hd) : sameB h h.age h.has h.img = true := by simp [sameB]
set_option maxHeartbeats 8000000 in
set_option maxRecDepth 100000 in
theorem SlotsIdle_calls (w : World) (hT0 : Tab w) (A0 : Option Addr) (n c0 : Nat) (l : List OpM) (hr0 : kOp.C w A0 n l) (hc0 : n ≤ c0) (ho0 : ∀ x ∈ l, okOp x)
    (A1 : Option Addr) (n1 c1 : Nat) (l1 : List Bool) (hr1 : Kd.bool.C w A1 n1 l1) (hc1 : n1 ≤ c1) (ho1 : ∀ x ∈ l1, True) :
    Calls Tryd.prog 6 #[.slice A0 n c0, .slice A1 n1 c1] w (OkPost w) := by
  have h0 := zero_lt_tab hT0
  have hb0 : Aside0 (∀ o ∈ l, ∀ x ∈ o.b, 0 ≤ x ∧ x ≤ 255) := ⟨fun o ho x hx => wf_u8 ((ho0 o ho).2.2.2.1 x hx)⟩
  have hn := hr0.2.1
  have hn1 := hr1.2.1
  have hT := Aside0.mk hT0
  have HR := Aside0.mk hr0
  have HK := Aside0.mk hr1
  clear hr0 hc0 ho0 hT0 hr1 hc1 ho1
  go_enter Tryd.func6, Tryd.ntmps6
  go_wp2_with fail
  with_reducible refine (awake_calls w hT.out).mono ?_
  rintro e wa ⟨rfl, hBa⟩
  replace hBa := Aside0.mk hBa
  go_wp2_with fail
  with_reducible refine (few_calls A0 n c0 l _ (Kd.C_below HR.out hBa.out)).mono ?_
  rintro e w' ⟨⟨bf, rfl, hbf⟩, rfl⟩
  by_cases hq : bf = true ∧ n1 ≤ 50
  · obtain ⟨rfl, q2⟩ := hq
    have hfew := Aside0.mk (hbf rfl)
    clear hbf
    have hTa := hT.out.step hBa.out
    replace hTa := Aside0.mk hTa
    go_wp2_with fail
    with_reducible refine (walked_calls wa hTa.out A0 n c0 l (Kd.C_below HR.out hBa.out) hb0.out hfew.out).mono ?_
    rintro e w2 ⟨S, B, K, M, D, h, rfl, s2, I2, hw2, O2, ha20⟩
    replace O2 := O2.back hBa.out
    obtain ⟨age, hage⟩ : ∃ x, h.age = x := ⟨_, rfl⟩
    obtain ⟨has, hhas⟩ : ∃ x, h.has = x := ⟨_, rfl⟩
    obtain ⟨ni, hni⟩ : ∃ x, h.img.length = x := ⟨_, rfl⟩
    have hsm : sameB h age has h.img = true := by rw [← hage, ← hhas]; exact sameB_refl h
    have hcr := crash_none I2.fine hw2 l1
    have hz0 : ¬ FD B K M 0 := fun hf => s2.nz (.inl hf)
    have hl40 : D.kept.length = 40 := I2.fine.len
    clear ha20
    replace s2 := Aside0.mk s2; replace I2 := Aside0.mk I2; replace hw2 := Aside0.mk hw2; replace O2 := Aside0.mk O2; replace hage := Aside0.mk hage; replace hhas := Aside0.mk hhas; replace hni := Aside0.mk hni; replace hsm := Aside0.mk hsm; replace hcr := Aside0.mk hcr; replace hz0 := Aside0.mk hz0; replace hl40 := Aside0.mk hl40
    go_wp2_with fail
    with_reducible refine (Age_calls S B K M D h w2 s2.out).mono ?_
    rintro e w' ⟨rfl, rfl⟩
    rw [hage.out]
    go_wp2_with fail
    with_reducible refine (Image_calls S B K M D h w2 s2.out).mono ?_
    rintro e w3 ⟨v, rfl, hv, hb3⟩
    rw [hhas.out]
    obtain ⟨A3, c3, rfl, hC3⟩ := bytes_of_row hv rfl
    rw [hni.out] at hC3 ⊢
    have s3 := s2.out.below hb3
    have O3 := O2.out.below hb3
    have hf3 : ∀ ad, A3 = some ad → w2.heap.size ≤ ad.block := fun ad e => own_base hv _ (by rw [e]; rfl)
    replace hv := Aside0.mk hv; replace hb3 := Aside0.mk hb3; replace hC3 := Aside0.mk hC3; replace s3 := Aside0.mk s3; replace O3 := Aside0.mk O3; replace hf3 := Aside0.mk hf3
    go_wp2_with fail
    with_reducible refine (Kept_calls B K M D w3 s3.out.dk).mono ?_
    rintro e w4 ⟨vk, rfl, hR4, hb4⟩
    have s4 := s3.out.below hb4
    have O4 := O3.out.below hb4
    have hC4 := Kd.C_below hC3.out hb4
    have hlt3 := s3.out.dk.lts
    have hR4' := R_far (B := B) (K := K) (M := M) hR4 hlt3
    have hk4 : CG Kd.bool (FD B K M) w4 A1 n1 l1 := O4.cg HK.out
    replace hR4 := Aside0.mk hR4; replace hb4 := Aside0.mk hb4; replace s4 := Aside0.mk s4; replace O4 := Aside0.mk O4; replace hC4 := Aside0.mk hC4; replace hR4' := Aside0.mk hR4'; replace hk4 := Aside0.mk hk4; replace hlt3 := Aside0.mk hlt3
    go_wp2_with fail
    with_reducible refine (Crash_calls B K M D A1 n1 c1 l1 w4 s4.out.dk hk4.out).mono ?_
    rintro e w5 ⟨rfl, hd5, hk5⟩
    rw [hcr.out] at hd5
    have s5 := s4.out.keep hk5 hd5
    have O5 := O4.out.keep (hk5.mono (fun _ hi => .inl hi))
    have hR5 := R_keep hR4'.out hk5
    have hC5 : (Kd.int .u8).C w5 A3 ni h.img := Kd_C_keep hC4.out (fun ad e _ hF => s2.out.fresh _ (hf3.out ad e) (.inl hF)) hk5
    have hT5 := hT.out.step O5.bel
    replace hd5 := Aside0.mk hd5; replace hk5 := Aside0.mk hk5; replace s5 := Aside0.mk s5; replace O5 := Aside0.mk O5; replace hR5 := Aside0.mk hR5; replace hC5 := Aside0.mk hC5; replace hT5 := Aside0.mk hT5
    go_wp2_with fail
    with_reducible refine (Open_calls B K M D w5 hT5.out s5.out.dk hz0.out).mono ?_
    intro e w6 he
    obtain ⟨S2, rfl, hS2, t6, hb6⟩ := open_post I2.out he
    clear he
    have s6 := s5.out.below hb6
    have O6 := O5.out.below hb6
    have hC6 := Kd.C_below hC5.out hb6
    have hR6 := Kd.R_below hR5.out hb6
    replace t6 := Aside0.mk t6; replace hb6 := Aside0.mk hb6; replace s6 := Aside0.mk s6; replace O6 := Aside0.mk O6; replace hC6 := Aside0.mk hC6; replace hR6 := Aside0.mk hR6
    go_wp2_with fail
    with_reducible refine (same_calls S2 B K M D h age has A3 ni _ h.img w6 t6.out hC6.out).mono ?_
    rintro e w7 ⟨rfl, hb7⟩
    rw [hsm.out]
    have s7 := s6.out.below hb7
    have O7 := O6.out.below hb7
    have hC7 := Kd.C_below hC6.out hb7
    have hR7 := Kd.R_below hR6.out hb7
    replace hb7 := Aside0.mk hb7; replace s7 := Aside0.mk s7; replace O7 := Aside0.mk O7; replace hC7 := Aside0.mk hC7; replace hR7 := Aside0.mk hR7
    go_wp2_with fail
    with_reducible refine (same_calls S B K M D h age has A3 ni _ h.img w7 s7.out hC7.out).mono ?_
    rintro e w8 ⟨rfl, hb8⟩
    rw [hsm.out]
    have s8 := s7.out.below hb8
    have O8 := O7.out.below hb8
    have hR8 := Kd.R_below hR7.out hb8
    replace hb8 := Aside0.mk hb8; replace s8 := Aside0.mk s8; replace O8 := Aside0.mk O8; replace hR8 := Aside0.mk hR8
    go_wp2_with fail
    with_reducible refine (Kept_calls B K M D w8 s8.out.dk).mono ?_
    rintro e w9 ⟨vk2, rfl, hR9, hb9⟩
    have O9 := O8.out.below hb9
    have hR8' := Kd.R_below hR8.out hb9
    obtain ⟨Aq, cq, rfl, _, hq1⟩ := Kd.R_reads hR8'
    obtain ⟨Ar, cr, rfl, _, hq2⟩ := Kd.R_reads hR9
    have hsec := s8.out.dk.secs
    rw [hl40.out] at hq1 hq2 ⊢
    replace O9 := Aside0.mk O9; replace hR8' := Aside0.mk hR8'; replace hR9 := Aside0.mk hR9; replace hq1 := Aside0.mk hq1; replace hq2 := Aside0.mk hq2; replace hsec := Aside0.mk hsec; replace hb9 := Aside0.mk hb9
    go_wp2_with fail
    with_reducible refine (Same09_calls Aq cq Ar cr D.kept D.kept 40 w9 hq1.out hq2.out hsec.out hsec.out).mono ?_
    rintro e w10 ⟨rfl, mE, rfl⟩
    rw [decide_eq_true rfl]
    go_wp2_with fail
    go_ret
    exact ⟨rfl, ⟨O9.out.bel.os, O9.out.bel.tape, O9.out.bel.output, O9.out.bel.size, O9.out.bel.block⟩⟩
  · cases bf with
    | false =>
      go_wp2_with fail
      go_ret
      exact ⟨rfl, hBa.out⟩
    | true =>
      have q2 : 50 < n1 := by
        apply Decidable.byContradiction; intro hc; exact hq ⟨rfl, by omega⟩
      clear hq
      go_wp2_with fail
      go_ret
      exact ⟨rfl, hBa.out⟩
end Go.Proofs.YtiibfboendnifaaDoor.Sl
