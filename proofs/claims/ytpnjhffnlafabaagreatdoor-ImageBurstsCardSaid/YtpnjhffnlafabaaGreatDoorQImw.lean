/- ImageBack: what was encoded is decoded, each number of it; what can't be isn't encoded. -/
import Derived.Test.YtpnjhffnlafabaaGreatDoorQIml
import Derived.Test.YtpnjhffnlafabaaGreatDoorQRs
namespace Go.Proofs.YtpnjhffnlafabaaGreatDoor.Im
set_option linter.unusedVariables false
set_option linter.unusedSimpArgs false
open Go.Proofs Go.RowKit Go.Proofs.Bk Go.Proofs.Bm Go.Proofs.Sc Go.Proofs.Kf Go.Proofs.YtpnjhffnlafabaaGreatDoorW.PrintWords Go.Proofs.YtpnjhffnlafabaaGreatDoor.Sl Go.Proofs.YtpnjhffnlafabaaGreatDoor.Sn Go.Proofs.YtpnjhffnlafabaaGreatDoor.PImageBack
theorem okT_f3 {ts : List ST} (h : ∀ x ∈ ts, okT x) : ∀ t ∈ ts, 0 ≤ t.f3 ∧ t.f3 ≤ 18446744073709551615 := by
  intro t ht
  have := (h t ht).2.2.2.1
  simp [Lit.wf, IntKind.min, IntKind.max, IntKind.signed, IntKind.bits] at this
  omega
theorem encode_few {xs : List SG} {ts : List ST} (h1 : xs.length ≤ 30) (h2 : ts.length ≤ 30) : encodeOf xs ts = if checkOf (xs.map gOf) (ts.map tOf) ≠ 0 then (checkOf (xs.map gOf) (ts.map tOf), []) else (0, packB (secsOf xs ts)) := by
  unfold encodeOf
  by_cases hc : checkOf (xs.map gOf) (ts.map tOf) = 0
  · rw [if_neg (by simp [hc]), if_neg (by simp [hc])]
    refine packOf_ok ⟨show 4 ≤ 16 by decide, by rfl, fun s hs => ?_, secs_inB _ _⟩
    have l1 := flat_len gB_length xs
    have l2 := flat_len bB_length xs
    have l3 := flat_len tB_length ts
    have l4 := flat_len cB_length ts
    unfold secsOf at hs
    simp only [List.mem_cons, List.not_mem_nil, or_false] at hs
    rcases hs with rfl | rfl | rfl | rfl
    · show ((xs.map gB).flatten).length ≤ _; rw [l1]; omega
    · show ((xs.map bB).flatten).length ≤ _; rw [l2]; omega
    · show ((ts.map tB).flatten).length ≤ _; rw [l3]; omega
    · show ((ts.map cB).flatten).length ≤ _; rw [l4]; omega
  · rw [if_pos hc, if_pos hc]
set_option maxHeartbeats 8000000 in
set_option maxRecDepth 100000 in
theorem ImageBack_calls (w : World) (hT : Tab w) (A : Option Addr) (n c : Nat) (xs : List SG) (B : Option Addr) (m d : Nat) (ts : List ST) (hG : kG.C w A n xs) (hc : n ≤ c) (hTT : kT.C w B m ts) (hd : m ≤ d) (hB : ∀ ad, B = some ad → ad.spot = none) (ho : ∀ x ∈ xs, okG x) (hot : ∀ x ∈ ts, okT x) :
    Calls Tryz.prog 5 #[.agg #[.slice A n c, .slice B m d]] w (OkPost w) := by
  have hln := hG.1
  have hlm := hTT.1
  have h3 := okT_f3 hot
  have hnn := hG.2.1
  have hmm := hTT.2.1
  replace hG := Aside0.mk hG; replace hTT := Aside0.mk hTT; replace hB := Aside0.mk hB; replace ho := Aside0.mk ho; replace hot := Aside0.mk hot; replace hT := Aside0.mk hT; replace h3 := Aside0.mk h3; replace hln := Aside0.mk hln; replace hlm := Aside0.mk hlm
  go_enter Tryz.func5, Tryz.ntmps5
  go_wp2_with (((with_reducible refine gate_dst (N := 1) rfl ?_); refine box_event ?hg (N := 1) ?hd (cs := #[.slice A n c, .slice B m d]) (t := 25) ?hr ?_; (case hd => rfl); (case hg => rfl); (case hr => first | (go_simp; done) | (go_simp; rfl)); intro b1 hb1 w1 kb1 bb1; replace hb1 := Aside0.mk hb1; replace kb1 := Aside0.mk kb1; replace bb1 := Aside0.mk bb1))
  with_reducible refine (awake_calls w1 (hT.out.step bb1.out)).mono ?_
  rintro e w2 ⟨rfl, hb2⟩
  have hB2 := Aside0.mk (bb1.out.trans (hb2.mono bb1.out.size))
  have k2 := Aside0.mk (row_below hb2 kb1.out)
  clear hb2 kb1 bb1
  by_cases hf : n ≤ 30 ∧ m ≤ 30
  case neg =>
    go_wp2_with (first
      | ((with_reducible refine gate_op (.load 25 (.tmp 1)) rfl ?_); refine wpList_load_midB rfl _ _ rfl ⟨b1, 0, none⟩ rfl [.slice A n c, .slice B m d] _ (Bk.cells_row k2.out) Tryz.underlying25 rfl szS2 ?_)
      | (go_at_call 10; (with_reducible refine (few_calls A n c xs B m d ts w2 (Kd.C_below hG.out hB2.out) hc (Kd.C_below hTT.out hB2.out) hd).mono ?_); rintro e w3 ⟨rfl, hb3⟩; rw [decide_eq_false hf]; (have hB3 := Aside0.mk (hB2.out.trans (hb3.mono hB2.out.size))); clear hb3))
    go_ret
    exact ⟨rfl, hB3.out⟩
  have hen := encode_few (xs := xs) (ts := ts) (by rw [hln.out]; exact hf.1) (by rw [hlm.out]; exact hf.2)
  replace hen := Aside0.mk hen
  go_wp2_with (first
    | ((with_reducible refine gate_op (.load 25 (.tmp 1)) rfl ?_); refine wpList_load_midB rfl _ _ rfl ⟨b1, 0, none⟩ rfl [.slice A n c, .slice B m d] _ (Bk.cells_row k2.out) Tryz.underlying25 rfl szS2 ?_)
    | (go_at_call 10; (with_reducible refine (few_calls A n c xs B m d ts w2 (Kd.C_below hG.out hB2.out) hc (Kd.C_below hTT.out hB2.out) hd).mono ?_); rintro e w3 ⟨rfl, hb3⟩; rw [decide_eq_true hf]; (have hB3 := Aside0.mk (hB2.out.trans (hb3.mono hB2.out.size))); (have k3 := Aside0.mk (row_below hb3 k2.out)); clear hb3)
    | ((with_reducible refine gate_op (.load 25 (.tmp 1)) rfl ?_); refine wpList_load_midB rfl _ _ rfl ⟨b1, 0, none⟩ rfl [.slice A n c, .slice B m d] _ (Bk.cells_row k3.out) Tryz.underlying25 rfl szS2 ?_))
  with_reducible refine (Encode_calls A n c xs B m d ts w3 (hT.out.step hB3.out) (Kd.C_below hG.out hB3.out) hc (Kd.C_below hTT.out hB3.out) hd hB.out ho.out (fun x hx => (h3.out x hx).1)).mono ?_
  rintro e w4 ⟨v, er, bs, rfl, hby, hb4, heq⟩
  obtain ⟨A4, c4, rfl, hc4, hC4⟩ := Kd.R_reads hby
  have hB4 := Aside0.mk (hB3.out.trans (hb4.mono hB3.out.size))
  have k4 := Aside0.mk (row_below hb4 k3.out)
  clear hby hb4
  by_cases her : er = 0
  case neg =>
    have hck : checkOf (xs.map gOf) (ts.map tOf) = er := by
      rw [hen.out] at heq
      by_cases hc0 : checkOf (xs.map gOf) (ts.map tOf) = 0
      · rw [if_neg (by simp [hc0])] at heq; exact absurd (congrArg Prod.fst heq) her
      · rw [if_pos hc0] at heq; exact (congrArg Prod.fst heq).symm
    obtain rfl := encode_odd heq her
    have z1 : (er != 0) = true := by simpa using her
    have kc := Check_calls A n c xs B m d ts w4 (Kd.C_below hG.out hB4.out) hc (Kd.C_below hTT.out hB4.out) hd hB.out ho.out
    have q0 := (Kf.cell_row k4.out 0).trans (rfl : _ = some (Value.slice A n c))
    have q1 := (Kf.cell_row k4.out 1).trans (rfl : _ = some (Value.slice B m d))
    replace hck := Aside0.mk hck; replace kc := Aside0.mk kc; replace heq := Aside0.mk heq; replace hC4 := Aside0.mk hC4
    go_wp2_with (first
      | (go_at_call 19; (with_reducible refine kc.out.mono ?_); rintro e w5 ⟨rfl, hb5⟩; rw [hck.out]; (have hB5 := Aside0.mk (hB4.out.trans (hb5.mono hB4.out.size))); clear hb5))
    go_ret
    exact ⟨by simp, hB5.out⟩
  subst her
  obtain ⟨hin, hl, hdec, -, -, hck⟩ := encode_inB heq rfl h3.out
  have hlb : bs.length ≤ 140737488355328 := by
    rw [hl]
    have := hln.out
    have := hlm.out
    omega
  replace hin := Aside0.mk hin; replace hl := Aside0.mk hl; replace hdec := Aside0.mk hdec; replace hck := Aside0.mk hck; replace heq := Aside0.mk heq
  obtain ⟨nb, hnb⟩ : ∃ nb, bs.length = nb := ⟨_, rfl⟩
  rw [hnb] at hC4 hc4 hlb
  rw [hnb]
  replace hC4 := Aside0.mk hC4; replace hnb := Aside0.mk hnb
  go_wp2_with fail
  with_reducible refine (Decode_calls A4 nb c4 bs w4 (hT.out.step hB4.out) hC4.out hc4 hlb hin.out).mono ?_
  rintro e w5 ⟨A5, c5, B5, d5, er, gs, us, rfl, hde, hb5, l1, l2, hG5, hT5, -, -⟩
  rw [hdec.out] at hde
  obtain rfl : er = 0 := congrArg Prod.fst hde
  obtain rfl : gs = xs := congrArg (fun p => p.2.1) hde
  obtain rfl : us = ts := congrArg (fun p => p.2.2) hde
  have hB5 := Aside0.mk (hB4.out.trans (hb5.mono hB4.out.size))
  have k5 := Aside0.mk (row_below hb5 k4.out)
  rw [hln.out, hlm.out]
  rw [hln.out] at hG5 l1
  rw [hlm.out] at hT5 l2
  clear hb5 hde
  replace hG5 := Aside0.mk hG5; replace hT5 := Aside0.mk hT5
  go_wp2_with (first
    | (((with_reducible refine gate_dst (N := 7) rfl ?_); refine box_event ?hg (N := 7) ?hd (cs := #[.slice none 0 0, .slice none 0 0]) (t := 25) ?hr ?_; (case hd => rfl); (case hg => rfl); (case hr => first | (go_simp; done) | (go_simp; rfl)); intro b7 hb7 w6 kb7 bb7; replace hb7 := Aside0.mk hb7; replace kb7 := Aside0.mk kb7; replace bb7 := Aside0.mk bb7))
    | (((with_reducible refine gate_op (.store 25 (.tmp 7) (.tmp 37)) rfl ?_); refine wpList_store_midB rfl _ _ _ rfl b7 0 [.slice A5 n c5, .slice B5 m d5] rfl rfl 25 [.slice none 0 0, .slice none 0 0] kb7.out szS2 (Nat.le_refl _) oneS2 ?_; obtain ⟨kk, bb⟩ := boxed (cs := [.slice none 0 0, .slice none 0 0]) (cs2 := [.slice A5 n c5, .slice B5 m d5]) hb7.out kb7.out bb7.out rfl; revert kk bb; generalize World.setRow _ b7 (splice [.slice none 0 0, .slice none 0 0] 0 [.slice A5 n c5, .slice B5 m d5]).toArray = w7; clear kb7 bb7; intro kb7 bb7; replace kb7 := Aside0.mk kb7; replace bb7 := Aside0.mk bb7); (have k7 := Aside0.mk (row_below bb7.out k5.out)); (have hB7 := Aside0.mk (hB5.out.trans (bb7.out.mono hB5.out.size))); (have q0 := (Kf.cell_row k7.out 0).trans (rfl : _ = some (Value.slice A n c))); (have q1 := (Kf.cell_row k7.out 1).trans (rfl : _ = some (Value.slice B m d))); (have q2 := (Kf.cell_row kb7.out 0).trans (rfl : _ = some (Value.slice A5 n c5))); (have q3 := (Kf.cell_row kb7.out 1).trans (rfl : _ = some (Value.slice B5 m d5))))
    | (go_at_call 17; (with_reducible refine (same_calls A n c gs B m d us A5 n c5 gs B5 m d5 us w7 (Kd.C_below hG.out hB7.out) hc (Kd.C_below hTT.out hB7.out) hd (Kd.C_below hG5.out bb7.out) l1 (Kd.C_below hT5.out bb7.out) l2 (by omega) (by omega)).mono ?_); rintro e w8 ⟨rfl, hb8⟩; rw [decide_eq_true (show gs = gs ∧ us = us from ⟨rfl, rfl⟩)]; (have hB8 := Aside0.mk (hB7.out.trans (hb8.mono hB7.out.size))); (replace q0 := pw_cell_below hb8 q0); (replace q1 := pw_cell_below hb8 q1); clear hb8)
    | (go_at_call 19; (with_reducible refine (Check_calls A n c gs B m d us w8 (Kd.C_below hG.out hB8.out) hc (Kd.C_below hTT.out hB8.out) hd hB.out ho.out).mono ?_); rintro e w9 ⟨rfl, hb9⟩; rw [hck.out]; (have hB9 := Aside0.mk (hB8.out.trans (hb9.mono hB8.out.size))); clear hb9))
  go_ret
  exact ⟨rfl, hB9.out⟩
end Go.Proofs.YtpnjhffnlafabaaGreatDoor.Im
