/- SlotsCrashes: wherever a crash comes, what is found is what was there, or what is new. -/
import Derived.Test.YtiibfboendnifaaDoorSlV
namespace Go.Proofs.YtiibfboendnifaaDoor.Sl
set_option linter.unusedVariables false
set_option linter.unusedSimpArgs false
open Go.RowKit Go.Proofs.Bk Go.Proofs.Bm Go.Proofs.Op Go.Proofs.YtiibfboendnifaaDoor.Dk Go.Proofs.YtiibfboendnifaaDoorW.PrintWords

def zop : Value := .agg #[.int .i64 0, .int .i64 0, .int .i64 0, .slice none 0 0, .slice none 0 0]
theorem info_op : (Tryd.prog.info? 35).map (fun i => (i.zero, i.size, i.bytes)) = some (some zop, 5, 72) := by kernel_rfl
theorem size_op : (Tryd.prog.info? 35).map (·.size) = some 5 := by kernel_rfl
theorem opCells_len (o : OpM) (A1 : Option Addr) (c1 : Nat) (A2 : Option Addr) (c2 : Nat) : (opCells o A1 c1 A2 c2).length = 5 := rfl
theorem opCells_one (o : OpM) (A1 : Option Addr) (c1 : Nat) (A2 : Option Addr) (c2 : Nat) : ∀ v ∈ opCells o A1 c1 A2 c2, v.oneCell' = true := by
  intro v hv
  unfold opCells at hv
  simp at hv
  rcases hv with rfl | rfl | rfl | rfl | rfl <;> rfl
theorem one_op {w W : World} {o : OpM} {cs : List Value} (hK : kOp.K w o cs) (hl : cs.length = 5) (base : Nat) (hb : base ≤ W.heap.size) :
    (Kd.fixed kOp w).R 35 (W.alloc (.cells cs.toArray 35)) base (fun _ => True) (.slice (some ⟨W.heap.size, 0, none⟩) 1 1) [o] := by
  refine ⟨fun _ _ => trivial, cs, ⟨by rw [hl]; rfl, .inr ⟨W.heap.size, 1, cs.toArray, rfl, hb, heap_alloc_same W _, Nat.le_refl _, by decide, by simp [hl]; rfl, ?_⟩⟩, ?_⟩
  · rw [List.toList_toArray]; exact List.take_of_length_le (by rw [hl]; exact Nat.le_refl _)
  · refine (Reps.none _ 5).snoc (c := cs) ?_ hl
    exact hK

theorem ops_keep {w W : World} {A : Option Addr} {n : Nat} {l : List OpM} (h : kOp.C w A n l) (hb : Below w.heap.size w W) : ReadsRow (kOp.K w) 5 W A n l := ReadsRow.imp_ h hb (fun _ _ hp => hp)
theorem ops_read {w W : World} {A : Option Addr} {n : Nat} {l : List OpM} (h : ReadsRow (kOp.K w) 5 W A n l) (hb : Below w.heap.size w W) : kOp.C W A n l := ReadsRow.imp_ h (Below.refl _ _) (fun _ _ hp => kOp.K_below hb hp)

set_option maxHeartbeats 8000000 in
set_option maxRecDepth 100000 in
theorem SlotsCrashes_calls (w : World) (hT0 : Tab w) (A0 : Option Addr) (n c0 : Nat) (l : List OpM) (hr0 : kOp.C w A0 n l) (hc0 : n ≤ c0) (ho0 : ∀ x ∈ l, okOp x) (hz0 : n * 72 ≤ 140737488351232)
    (o : OpM) (A1 : Option Addr) (c1 : Nat) (A2 : Option Addr) (c2 : Nat) (hat : OpAt w o A1 c1 A2 c2) (hKo : kOp.K w o (opCells o A1 c1 A2 c2)) (hoo : okOp o)
    (a2 : Int) (wf2 : (Lit.int .u8 a2).wf = true)
    (A3 : Option Addr) (n3 c3 : Nat) (l3 : List Bool) (hr3 : Kd.bool.C w A3 n3 l3) (hc3 : n3 ≤ c3) (ho3 : ∀ x ∈ l3, True) :
    Calls Tryd.prog 7 #[.slice A0 n c0, .agg (opCells o A1 c1 A2 c2).toArray, .int .u8 a2, .slice A3 n3 c3] w (OkPost w) := by
  have h0 := zero_lt_tab hT0
  have hb0 : Aside0 (∀ o ∈ l, ∀ x ∈ o.b, 0 ≤ x ∧ x ≤ 255) := ⟨fun o ho x hx => wf_u8 ((ho0 o ho).2.2.2.1 x hx)⟩
  have hbo : Aside0 (∀ x ∈ o.b, 0 ≤ x ∧ x ≤ 255) := ⟨fun x hx => wf_u8 (hoo.2.2.2.1 x hx)⟩
  obtain ⟨p2, q2⟩ := wf_u8 wf2
  obtain ⟨cc, hcc⟩ : ∃ cc : Nat, a2 % 16 = (cc : Int) := ⟨(a2 % 16).toNat, by omega⟩
  have hn := hr0.2.1
  have hn3 := hr3.2.1
  have hbA := below_alloc (Below.refl w.heap.size w) (.cells (opCells o A1 c1 A2 c2).toArray 35)
  have hrow : (w.alloc (.cells (opCells o A1 c1 A2 c2).toArray 35)).heap[w.heap.size]? = some (.cells (opCells o A1 c1 A2 c2).toArray 35 (0, 0)) := heap_alloc_same w _
  have hob : Aside0 ((Kd.int .u8).C w A1 o.b.length o.b) := ⟨hat.1⟩
  have hopc : opCells o A1 c1 A2 c2 = [.int .i64 o.k, .int .i64 o.i, .int .i64 o.n, .slice A1 o.b.length c1, .slice A2 o.kp.length c2] := rfl
  obtain ⟨wA, hwA⟩ : ∃ wA, w.alloc (.cells (opCells o A1 c1 A2 c2).toArray 35) = wA := ⟨_, rfl⟩
  rw [hwA] at hbA hrow
  obtain ⟨kv, hkv⟩ : ∃ x, o.k = x := ⟨_, rfl⟩
  obtain ⟨iv, hiv⟩ : ∃ x, o.i = x := ⟨_, rfl⟩
  obtain ⟨nv, hnv⟩ : ∃ x, o.n = x := ⟨_, rfl⟩
  obtain ⟨nb, hnb⟩ : ∃ x, o.b.length = x := ⟨_, rfl⟩
  obtain ⟨nk, hnk⟩ : ∃ x, o.kp.length = x := ⟨_, rfl⟩
  rw [hnb] at hob
  rw [hkv, hiv, hnv, hnb, hnk] at hopc
  rw [hopc] at hrow hwA hKo ⊢
  have hT := Aside0.mk hT0
  have HR := Aside0.mk hr0
  have HK := Aside0.mk hr3
  clear hr0 hc0 ho0 hT0 hr3 hc3 ho3 hat hoo wf2
  have hwsz : w.heap.size < wA.heap.size := by rw [← hwA]; simp
  replace hbA := Aside0.mk hbA; replace hrow := Aside0.mk hrow; replace hKo := Aside0.mk hKo; replace hopc := Aside0.mk hopc; replace hkv := Aside0.mk hkv; replace hiv := Aside0.mk hiv; replace hnv := Aside0.mk hnv; replace hnb := Aside0.mk hnb; replace hnk := Aside0.mk hnk; replace hz0 := Aside0.mk hz0
  go_enter Tryd.func7, Tryd.ntmps7
  go_wp2_with fail
  with_reducible refine (awake_calls wA (hT.out.step hbA.out)).mono ?_
  rintro e wa ⟨rfl, hBa⟩
  replace hrow := (hBa.block _ hwsz).trans hrow.out
  replace hBa := Aside0.mk (below_step hbA.out hBa)
  replace hwA := Aside0.mk hwA
  have hg5 : w.heap.size < wa.heap.size := (Array.getElem?_eq_some_iff.1 hrow).1
  replace hrow := Aside0.mk hrow
  have hbB := below_alloc (Below.refl wa.heap.size wa) (.cells #[.int .i64 kv, .int .i64 iv, .int .i64 nv, .slice A1 nb c1, .slice A2 nk c2] 35)
  have hR1 := one_op (W := wa) hKo.out rfl wa.heap.size (Nat.le_refl _)
  have hRR := ops_keep HR.out (below_step hBa.out hbB)
  have hlen72 : ([o].length + n) * 72 ≤ 140737488355328 := by have := hz0.out; show (1 + n) * 72 ≤ _; omega
  replace hbB := Aside0.mk hbB; replace hR1 := Aside0.mk hR1; replace hRR := Aside0.mk hRR; replace hlen72 := Aside0.mk hlen72
  go_wp2_with (first
    | ((with_reducible refine gate_op (.load 35 (.tmp 5)) rfl ?_); refine wpList_load_midB rfl _ _ rfl ⟨w.heap.size, 0, none⟩ rfl [.int .i64 kv, .int .i64 iv, .int .i64 nv, .slice A1 nb c1, .slice A2 nk c2] _ (cells_row hrow.out) Tryd.underlying35 rfl size_op ?_)
    | ((with_reducible refine gate_op (.call ⟨.builtin .append, #[.tmp 23, .tmp 24], #[22, 22]⟩) rfl ?_); refine Kd.R_append_rows (Kd.fixed kOp w) (Rr := kOp.K w) (w0 := wa) wa.heap.size rfl (.tmp 23) (.tmp 24) 22 35 zop 72 rfl Tryd.underlying22 info_op rfl (Nat.succ_pos 4) (Nat.succ_pos 71) (.slice (some ⟨wa.heap.size, 0, none⟩) 1 1) [o] l A0 n c0 (fun _ => True) (fun _ => False) rfl rfl hR1.out hRR.out (fun _ _ h => h) (fun _ h => h.elim) (fun _ _ => trivial) hbB.out hbB.out.size hlen72.out ?_; intro v1 wb ho hb1 _ _; obtain ⟨Ab, cb, rfl, hcb, hCb⟩ := Kd.R_reads ho; replace ho := Aside0.mk ho; replace hb1 := Aside0.mk hb1; replace hCb := Aside0.mk hCb))
  have hBb := below_step hBa.out hb1.out
  have hrow2 := (hb1.out.block _ hg5).trans hrow.out
  obtain ⟨nn, hnn⟩ : ∃ nn, l.length + 1 = nn := ⟨_, rfl⟩
  have hCk : kOp.C wb Ab nn (o :: l) := by
    have := hCb.out
    have e : ([o] ++ l).length = nn := by rw [← hnn]; simp
    rw [e] at this
    exact ops_read this hBb
  rw [hnn]
  replace hBb := Aside0.mk hBb; replace hrow2 := Aside0.mk hrow2; replace hCk := Aside0.mk hCk; replace hnn := Aside0.mk hnn
  with_reducible refine (few_calls Ab nn cb (o :: l) wb hCk.out).mono ?_
  rintro e w' ⟨⟨bf, rfl, hbf⟩, rfl⟩
  by_cases hq : bf = true ∧ n3 ≤ 50
  · obtain ⟨rfl, q3⟩ := hq
    have hfw := hbf rfl
    have hfew : FewOk l := ⟨by have := hfw.n; simp at this; omega, fun x hx => hfw.b x (by simp [hx]), fun x hx => hfw.k x (by simp [hx])⟩
    have hb400 : nb ≤ 400 := by have := hfw.b o (by simp); rw [hnb.out] at this; exact this
    clear hbf
    have hTb := hT.out.step hBb.out
    replace hTb := Aside0.mk hTb; replace hfew := Aside0.mk hfew; replace hfw := Aside0.mk hfw
    go_wp2_with fail
    with_reducible refine (walkedR_calls wb hTb.out A0 n c0 l (Kd.C_below HR.out hBb.out) hb0.out hfew.out).mono ?_
    rintro e w2 ⟨S, B, K, M, D, h, rfl, s2, I2, hw2, O2, ha20⟩
    have hrow3 : w2.heap[w.heap.size]? = _ := (O2.bel.block _ (Array.getElem?_eq_some_iff.1 hrow2.out).1).trans hrow2.out
    have z0 : w2.cell? ⟨w.heap.size, 0, none⟩ = some (.int .i64 kv) := (cell_row hrow3 0).trans rfl
    have z3 : w2.cell? ⟨w.heap.size, 3, none⟩ = some (.slice A1 nb c1) := (cell_row hrow3 3).trans rfl
    have n5 : ¬ FS S B K M w.heap.size := fun hf => by
      have l1 := (Array.getElem?_eq_some_iff.1 hrow2.out).1
      have b1 := O2.b; have b2 := O2.k; have b3 := O2.m; have b4 := O2.s
      rcases hf with (hf | hf | hf) | hf <;> omega
    replace O2 := O2.back hBb.out
    obtain ⟨age, hage⟩ : ∃ x, h.age = x := ⟨_, rfl⟩
    obtain ⟨has, hhas⟩ : ∃ x, h.has = x := ⟨_, rfl⟩
    obtain ⟨ni, hni⟩ : ∃ x, h.img.length = x := ⟨_, rfl⟩
    have hsm : sameB h age has h.img = true := by rw [← hage, ← hhas]; simp [sameB]
    have hz0 : ¬ FD B K M 0 := fun hf => s2.nz (.inl hf)
    have hhf : halfOf D = 19 := fine_half I2.inv.fine
    have ha0 : 0 ≤ age := by rw [← hage]; exact I2.inv.age0
    have ha21 : age ≤ 20 := by rw [← hage]; exact ha20
    have hA1 : IntKind.i64.wrap (age + 1) = age + 1 := by rw [IntKind.wrap_i64]; omega
    have hCk := commit_crash I2 hw2 (max 0 (min (cc : Int) 1048576)) o.b hbo.out (by rw [hnb.out, hhf]; omega) (by rw [hhf]; decide) (by omega)
    have hDk := delete_crash I2 hw2 (max 0 (min (cc : Int) 1048576)) (by omega)
    rw [hage] at hCk hDk
    change CrashOk 40 h ⟨age + 1, true, o.b⟩ (commitOf (D.arm cc) h o.b) at hCk
    change CrashOk 40 h ⟨age + 1, false, []⟩ (deleteOf (D.arm cc) h) at hDk
    have hal : 4 ≤ (D.arm cc).kept.length := by show 4 ≤ D.kept.length; rw [I2.inv.fine.len]; decide
    clear ha20
    replace n5 := Aside0.mk n5; replace s2 := Aside0.mk s2; replace I2 := Aside0.mk I2; replace hw2 := Aside0.mk hw2; replace O2 := Aside0.mk O2; replace hage := Aside0.mk hage; replace hhas := Aside0.mk hhas; replace hni := Aside0.mk hni; replace hsm := Aside0.mk hsm; replace hz0 := Aside0.mk hz0; replace hhf := Aside0.mk hhf; replace hCk := Aside0.mk hCk; replace hDk := Aside0.mk hDk; replace hal := Aside0.mk hal; replace hrow3 := Aside0.mk hrow3
    go_wp2_with fail
    with_reducible refine (Age_calls S B K M D h w2 s2.out).mono ?_
    rintro e w' ⟨rfl, rfl⟩
    rw [hage.out]
    go_wp2_with fail
    with_reducible refine (Image_calls S B K M D h w2 s2.out).mono ?_
    rintro e w3 ⟨v, rfl, hv, hb3⟩
    rw [hhas.out]
    obtain ⟨Ai, ci, rfl, hC3⟩ := bytes_of_row hv rfl
    rw [hni.out] at hC3 ⊢
    have s3 := s2.out.below hb3
    have O3 := O2.out.below hb3
    have hf3 : ∀ ad, Ai = some ad → w2.heap.size ≤ ad.block := fun ad e => own_base hv _ (by rw [e]; rfl)
    replace z0 := pw_cell_below hb3 z0
    replace z3 := pw_cell_below hb3 z3
    replace hv := Aside0.mk hv; replace hb3 := Aside0.mk hb3; replace hC3 := Aside0.mk hC3; replace s3 := Aside0.mk s3; replace O3 := Aside0.mk O3; replace hf3 := Aside0.mk hf3
    go_wp2_with fail
    try rw [hcc]
    with_reducible refine (Arm_calls B K M D (cc : Int) w3 s3.out.dk).mono ?_
    rintro e w4 ⟨rfl, hd4, hk4⟩
    have s4 := s3.out.keep hk4 hd4
    have O4 := O3.out.keep (hk4.mono (fun _ hi => .inl hi))
    have hC4 : (Kd.int .u8).C w4 Ai ni h.img := Kd_C_keep hC3.out (fun ad e _ hF => s2.out.fresh _ (hf3.out ad e) (.inl hF)) hk4
    replace z0 := keepF_cell hk4 z0 (fun hF => n5.out (.inl hF))
    replace z3 := keepF_cell hk4 z3 (fun hF => n5.out (.inl hF))
    have hT4 := hT.out.step O4.bel
    have hCo := Kd.C_below hob.out O4.bel
    replace hd4 := Aside0.mk hd4; replace hk4 := Aside0.mk hk4; replace s4 := Aside0.mk s4; replace O4 := Aside0.mk O4; replace hC4 := Aside0.mk hC4; replace hT4 := Aside0.mk hT4; replace hCo := Aside0.mk hCo
    by_cases hk2 : kv = 2
    · subst hk2
      go_wp2_with fail
      with_reducible refine (Delete_calls S B K M (D.arm cc) h w4 hT4.out s4.out).mono ?_
      rintro e w5 ⟨rfl, s5, k5⟩
      have hcr := hDk.out
      obtain ⟨r, hr⟩ : ∃ r, deleteOf (D.arm cc) h = r := ⟨_, rfl⟩
      rw [hr] at s5 hcr ⊢
      obtain ⟨q, D1, h1⟩ := r
      dsimp only at s5 hcr ⊢
      have O5 := O4.out.keep k5
      have hC5 : (Kd.int .u8).C w5 Ai ni h.img := Kd_C_keep hC4.out (fun ad e _ hF => s2.out.fresh _ (hf3.out ad e) hF) k5
      have y0 := keepF_cell k5 z0 n5.out
      have y3 := keepF_cell k5 z3 n5.out
      have hk5c : CG Kd.bool (FD B K M) w5 A3 n3 l3 := O5.cg HK.out
      clear z0 z3
      replace s5 := Aside0.mk s5; replace k5 := Aside0.mk k5; replace O5 := Aside0.mk O5; replace hC5 := Aside0.mk hC5; replace hk5c := Aside0.mk hk5c; replace hr := Aside0.mk hr; replace hcr := Aside0.mk hcr
      by_cases hq0 : q = 0
      · subst hq0
        go_wp2_with fail
        with_reducible refine (Crash_calls B K M D1 A3 n3 c3 l3 w5 s5.out.dk hk5c.out).mono ?_
        rintro e w6 ⟨rfl, hd6, hk6⟩
        have O6 := O5.out.keep (hk6.mono (fun _ hi => .inl hi))
        have hC6 : (Kd.int .u8).C w6 Ai ni h.img := Kd_C_keep hC5.out (fun ad e _ hF => s2.out.fresh _ (hf3.out ad e) (.inl hF)) hk6
        replace y0 := keepF_cell hk6 y0 (fun hF => n5.out (.inl hF))
        replace y3 := keepF_cell hk6 y3 (fun hF => n5.out (.inl hF))
        have hT6 := hT.out.step O6.bel
        have hF6 := crash_fine hcr.out.len l3
        obtain ⟨D2, hD2⟩ : ∃ D2, D1.crash l3 = D2 := ⟨_, rfl⟩
        have hopen := hcr.out.now l3 s5.out.dk rfl
        rw [hD2] at hd6 hF6 hopen
        replace hd6 := Aside0.mk hd6; replace hk6 := Aside0.mk hk6; replace O6 := Aside0.mk O6; replace hC6 := Aside0.mk hC6; replace hT6 := Aside0.mk hT6; replace hF6 := Aside0.mk hF6; replace hD2 := Aside0.mk hD2
        go_wp2_with fail
        with_reducible refine (Open_calls B K M D2 w6 hT6.out hd6.out hz0.out).mono ?_
        intro e w7 he
        obtain ⟨v7, rfl, hb7, _, hS7⟩ := he
        obtain ⟨S2, rfl, hS2, t7⟩ := hS7 (fun hh => hh.elim (fun h1 => by rw [hF6.out.len] at h1; exact absurd h1 (by decide)) (fun h1 => by rw [hF6.out.left] at h1; exact absurd h1 (by decide)))
        rw [if_neg (show ¬ D2.kept.length < 4 by rw [hF6.out.len]; decide), if_neg (show ¬ D2.left = 0 by rw [hF6.out.left]; decide)]
        have O7 := O6.out.below hb7
        have hC7 := Kd.C_below hC6.out hb7
        obtain ⟨ht, hht⟩ : ∃ ht, openOf D2 = ht := ⟨_, rfl⟩
        rw [hht] at t7 hopen
        replace y0 := pw_cell_below hb7 y0
        replace y3 := pw_cell_below hb7 y3
        replace t7 := Aside0.mk t7; replace hb7 := Aside0.mk hb7; replace O7 := Aside0.mk O7; replace hC7 := Aside0.mk hC7; replace hht := Aside0.mk hht; replace hopen := Aside0.mk hopen
        go_wp2_with fail
        with_reducible refine (same_calls S2 B K M D2 ht age has Ai ni _ h.img w7 t7.out hC7.out).mono ?_
        rintro e w8 ⟨rfl, hb8⟩
        obtain ⟨bw, hbw⟩ : ∃ b, sameB ht age has h.img = b := ⟨_, rfl⟩
        rw [hbw]
        have t8 := t7.out.below hb8
        have O8 := O7.out.below hb8
        have hCo8 := Kd.C_below hob.out O8.bel
        replace y0 := pw_cell_below hb8 y0
        replace y3 := pw_cell_below hb8 y3
        replace t8 := Aside0.mk t8; replace hb8 := Aside0.mk hb8; replace O8 := Aside0.mk O8; replace hbw := Aside0.mk hbw; replace hCo8 := Aside0.mk hCo8
        go_wp2_with fail
        with_reducible refine (same_calls S2 B K M D2 ht (age + 1) true A1 nb c1 o.b w8 t8.out hCo8.out).mono ?_
        rintro e w9 ⟨rfl, hb9⟩
        obtain ⟨bn, hbn⟩ : ∃ b, sameB ht (age + 1) true o.b = b := ⟨_, rfl⟩
        rw [hbn]
        have t9 := t8.out.below hb9
        have O9 := O8.out.below hb9
        replace y0 := pw_cell_below hb9 y0
        replace t9 := Aside0.mk t9; replace hb9 := Aside0.mk hb9; replace O9 := Aside0.mk O9; replace hbn := Aside0.mk hbn
        go_wp2_with fail
        with_reducible refine (same_calls S2 B K M D2 ht (age + 1) false none 0 0 [] w9 t9.out (Kd.C_nil _ _)).mono ?_
        rintro e wX ⟨rfl, hbX⟩
        obtain ⟨bm, hbm⟩ : ∃ b, sameB ht (age + 1) false [] = b := ⟨_, rfl⟩
        rw [hbm]
        have OX := O9.out.below hbX
        replace hbX := Aside0.mk hbX; replace OX := Aside0.mk OX; replace hbm := Aside0.mk hbm
        obtain rfl : bm = true := by rw [← hbm.out, hopen.out]; exact sameB_self _ _ _
        go_wp2_with fail
        go_ret
        exact ⟨rfl, OX.out.bel⟩
      · have hh1 : h1 = h := hcr.out.head hq0
        rw [hh1] at s5 hcr hr
        clear hh1
        have hq0' : (q != 0) = true := by simpa using hq0
        have hq0'' : (q == 0) = false := by simpa using hq0
        go_wp2_with fail
        with_reducible refine (same_calls S B K M D1 h age has Ai ni _ h.img w5 s5.out hC5.out).mono ?_
        rintro e w5b ⟨rfl, hb5⟩
        rw [hsm.out]
        replace s5 := s5.out.below hb5
        replace O5 := O5.out.below hb5
        replace hC5 := Kd.C_below hC5.out hb5
        replace y0 := pw_cell_below hb5 y0
        replace y3 := pw_cell_below hb5 y3
        replace hk5c : CG Kd.bool (FD B K M) w5b A3 n3 l3 := O5.cg HK.out
        replace s5 := Aside0.mk s5; replace O5 := Aside0.mk O5; replace hC5 := Aside0.mk hC5; replace hk5c := Aside0.mk hk5c; replace hb5 := Aside0.mk hb5
        go_wp2_with fail
        with_reducible refine (Crash_calls B K M D1 A3 n3 c3 l3 w5b s5.out.dk hk5c.out).mono ?_
        rintro e w6 ⟨rfl, hd6, hk6⟩
        have O6 := O5.out.keep (hk6.mono (fun _ hi => .inl hi))
        have hC6 : (Kd.int .u8).C w6 Ai ni h.img := Kd_C_keep hC5.out (fun ad e _ hF => s2.out.fresh _ (hf3.out ad e) (.inl hF)) hk6
        replace y0 := keepF_cell hk6 y0 (fun hF => n5.out (.inl hF))
        replace y3 := keepF_cell hk6 y3 (fun hF => n5.out (.inl hF))
        have hT6 := hT.out.step O6.bel
        have hF6 := crash_fine hcr.out.len l3
        obtain ⟨D2, hD2⟩ : ∃ D2, D1.crash l3 = D2 := ⟨_, rfl⟩
        have hopen := hcr.out.was l3 s5.out.dk hq0
        rw [hD2] at hd6 hF6 hopen
        replace hd6 := Aside0.mk hd6; replace hk6 := Aside0.mk hk6; replace O6 := Aside0.mk O6; replace hC6 := Aside0.mk hC6; replace hT6 := Aside0.mk hT6; replace hF6 := Aside0.mk hF6; replace hD2 := Aside0.mk hD2
        go_wp2_with fail
        with_reducible refine (Open_calls B K M D2 w6 hT6.out hd6.out hz0.out).mono ?_
        intro e w7 he
        obtain ⟨v7, rfl, hb7, _, hS7⟩ := he
        obtain ⟨S2, rfl, hS2, t7⟩ := hS7 (fun hh => hh.elim (fun h1 => by rw [hF6.out.len] at h1; exact absurd h1 (by decide)) (fun h1 => by rw [hF6.out.left] at h1; exact absurd h1 (by decide)))
        rw [if_neg (show ¬ D2.kept.length < 4 by rw [hF6.out.len]; decide), if_neg (show ¬ D2.left = 0 by rw [hF6.out.left]; decide)]
        have O7 := O6.out.below hb7
        have hC7 := Kd.C_below hC6.out hb7
        obtain ⟨ht, hht⟩ : ∃ ht, openOf D2 = ht := ⟨_, rfl⟩
        rw [hht] at t7 hopen
        replace y0 := pw_cell_below hb7 y0
        replace y3 := pw_cell_below hb7 y3
        replace t7 := Aside0.mk t7; replace hb7 := Aside0.mk hb7; replace O7 := Aside0.mk O7; replace hC7 := Aside0.mk hC7; replace hht := Aside0.mk hht; replace hopen := Aside0.mk hopen
        go_wp2_with fail
        with_reducible refine (same_calls S2 B K M D2 ht age has Ai ni _ h.img w7 t7.out hC7.out).mono ?_
        rintro e w8 ⟨rfl, hb8⟩
        obtain ⟨bw, hbw⟩ : ∃ b, sameB ht age has h.img = b := ⟨_, rfl⟩
        rw [hbw]
        have t8 := t7.out.below hb8
        have O8 := O7.out.below hb8
        have hCo8 := Kd.C_below hob.out O8.bel
        replace y0 := pw_cell_below hb8 y0
        replace y3 := pw_cell_below hb8 y3
        replace t8 := Aside0.mk t8; replace hb8 := Aside0.mk hb8; replace O8 := Aside0.mk O8; replace hbw := Aside0.mk hbw; replace hCo8 := Aside0.mk hCo8
        go_wp2_with fail
        with_reducible refine (same_calls S2 B K M D2 ht (age + 1) true A1 nb c1 o.b w8 t8.out hCo8.out).mono ?_
        rintro e w9 ⟨rfl, hb9⟩
        obtain ⟨bn, hbn⟩ : ∃ b, sameB ht (age + 1) true o.b = b := ⟨_, rfl⟩
        rw [hbn]
        have t9 := t8.out.below hb9
        have O9 := O8.out.below hb9
        replace y0 := pw_cell_below hb9 y0
        replace t9 := Aside0.mk t9; replace hb9 := Aside0.mk hb9; replace O9 := Aside0.mk O9; replace hbn := Aside0.mk hbn
        go_wp2_with fail
        with_reducible refine (same_calls S2 B K M D2 ht (age + 1) false none 0 0 [] w9 t9.out (Kd.C_nil _ _)).mono ?_
        rintro e wX ⟨rfl, hbX⟩
        obtain ⟨bm, hbm⟩ : ∃ b, sameB ht (age + 1) false [] = b := ⟨_, rfl⟩
        rw [hbm]
        have OX := O9.out.below hbX
        replace hbX := Aside0.mk hbX; replace OX := Aside0.mk OX; replace hbm := Aside0.mk hbm
        rcases hopen.out with hh1 | ⟨hq19, hh1⟩
        · obtain rfl : bw = true := by rw [← hbw.out, hh1]; exact hsm.out
          go_wp2_with fail
          all_goals (
            go_ret
            exact ⟨rfl, OX.out.bel⟩)
        · obtain rfl : bm = true := by rw [← hbm.out, hh1]; exact sameB_self _ _ _
          replace hq19 : q = 19 := hq19
          subst hq19
          replace hh1 := Aside0.mk hh1
          go_wp2_with fail
          all_goals (
            go_ret
            exact ⟨rfl, OX.out.bel⟩)
    · have hk2' : (kv == 2) = false := by simpa using hk2
      clear hk2
      go_wp2_with fail
      with_reducible refine (Commit_calls S B K M (D.arm cc) h A1 nb c1 o.b w4 hT4.out s4.out hal.out hCo.out hbo.out).mono ?_
      rintro e w5 ⟨rfl, s5, k5⟩
      have hcr := hCk.out
      obtain ⟨r, hr⟩ : ∃ r, commitOf (D.arm cc) h o.b = r := ⟨_, rfl⟩
      rw [hr] at s5 hcr ⊢
      obtain ⟨q, D1, h1⟩ := r
      dsimp only at s5 hcr ⊢
      have O5 := O4.out.keep k5
      have hC5 : (Kd.int .u8).C w5 Ai ni h.img := Kd_C_keep hC4.out (fun ad e _ hF => s2.out.fresh _ (hf3.out ad e) hF) k5
      have y0 := keepF_cell k5 z0 n5.out
      have y3 := keepF_cell k5 z3 n5.out
      have hk5c : CG Kd.bool (FD B K M) w5 A3 n3 l3 := O5.cg HK.out
      clear z0 z3
      replace s5 := Aside0.mk s5; replace k5 := Aside0.mk k5; replace O5 := Aside0.mk O5; replace hC5 := Aside0.mk hC5; replace hk5c := Aside0.mk hk5c; replace hr := Aside0.mk hr; replace hcr := Aside0.mk hcr
      by_cases hq0 : q = 0
      · subst hq0
        go_wp2_with fail
        with_reducible refine (Crash_calls B K M D1 A3 n3 c3 l3 w5 s5.out.dk hk5c.out).mono ?_
        rintro e w6 ⟨rfl, hd6, hk6⟩
        have O6 := O5.out.keep (hk6.mono (fun _ hi => .inl hi))
        have hC6 : (Kd.int .u8).C w6 Ai ni h.img := Kd_C_keep hC5.out (fun ad e _ hF => s2.out.fresh _ (hf3.out ad e) (.inl hF)) hk6
        replace y0 := keepF_cell hk6 y0 (fun hF => n5.out (.inl hF))
        replace y3 := keepF_cell hk6 y3 (fun hF => n5.out (.inl hF))
        have hT6 := hT.out.step O6.bel
        have hF6 := crash_fine hcr.out.len l3
        obtain ⟨D2, hD2⟩ : ∃ D2, D1.crash l3 = D2 := ⟨_, rfl⟩
        have hopen := hcr.out.now l3 s5.out.dk rfl
        rw [hD2] at hd6 hF6 hopen
        replace hd6 := Aside0.mk hd6; replace hk6 := Aside0.mk hk6; replace O6 := Aside0.mk O6; replace hC6 := Aside0.mk hC6; replace hT6 := Aside0.mk hT6; replace hF6 := Aside0.mk hF6; replace hD2 := Aside0.mk hD2
        go_wp2_with fail
        with_reducible refine (Open_calls B K M D2 w6 hT6.out hd6.out hz0.out).mono ?_
        intro e w7 he
        obtain ⟨v7, rfl, hb7, _, hS7⟩ := he
        obtain ⟨S2, rfl, hS2, t7⟩ := hS7 (fun hh => hh.elim (fun h1 => by rw [hF6.out.len] at h1; exact absurd h1 (by decide)) (fun h1 => by rw [hF6.out.left] at h1; exact absurd h1 (by decide)))
        rw [if_neg (show ¬ D2.kept.length < 4 by rw [hF6.out.len]; decide), if_neg (show ¬ D2.left = 0 by rw [hF6.out.left]; decide)]
        have O7 := O6.out.below hb7
        have hC7 := Kd.C_below hC6.out hb7
        obtain ⟨ht, hht⟩ : ∃ ht, openOf D2 = ht := ⟨_, rfl⟩
        rw [hht] at t7 hopen
        replace y0 := pw_cell_below hb7 y0
        replace y3 := pw_cell_below hb7 y3
        replace t7 := Aside0.mk t7; replace hb7 := Aside0.mk hb7; replace O7 := Aside0.mk O7; replace hC7 := Aside0.mk hC7; replace hht := Aside0.mk hht; replace hopen := Aside0.mk hopen
        go_wp2_with fail
        with_reducible refine (same_calls S2 B K M D2 ht age has Ai ni _ h.img w7 t7.out hC7.out).mono ?_
        rintro e w8 ⟨rfl, hb8⟩
        obtain ⟨bw, hbw⟩ : ∃ b, sameB ht age has h.img = b := ⟨_, rfl⟩
        rw [hbw]
        have t8 := t7.out.below hb8
        have O8 := O7.out.below hb8
        have hCo8 := Kd.C_below hob.out O8.bel
        replace y0 := pw_cell_below hb8 y0
        replace y3 := pw_cell_below hb8 y3
        replace t8 := Aside0.mk t8; replace hb8 := Aside0.mk hb8; replace O8 := Aside0.mk O8; replace hbw := Aside0.mk hbw; replace hCo8 := Aside0.mk hCo8
        go_wp2_with fail
        with_reducible refine (same_calls S2 B K M D2 ht (age + 1) true A1 nb c1 o.b w8 t8.out hCo8.out).mono ?_
        rintro e w9 ⟨rfl, hb9⟩
        obtain ⟨bn, hbn⟩ : ∃ b, sameB ht (age + 1) true o.b = b := ⟨_, rfl⟩
        rw [hbn]
        have t9 := t8.out.below hb9
        have O9 := O8.out.below hb9
        replace y0 := pw_cell_below hb9 y0
        replace t9 := Aside0.mk t9; replace hb9 := Aside0.mk hb9; replace O9 := Aside0.mk O9; replace hbn := Aside0.mk hbn
        obtain rfl : bn = true := by rw [← hbn.out, hopen.out]; exact sameB_self _ _ _
        go_wp2_with fail
        go_ret
        exact ⟨rfl, O9.out.bel⟩
      · have hh1 : h1 = h := hcr.out.head hq0
        rw [hh1] at s5 hcr hr
        clear hh1
        have hq0' : (q != 0) = true := by simpa using hq0
        have hq0'' : (q == 0) = false := by simpa using hq0
        go_wp2_with fail
        with_reducible refine (same_calls S B K M D1 h age has Ai ni _ h.img w5 s5.out hC5.out).mono ?_
        rintro e w5b ⟨rfl, hb5⟩
        rw [hsm.out]
        replace s5 := s5.out.below hb5
        replace O5 := O5.out.below hb5
        replace hC5 := Kd.C_below hC5.out hb5
        replace y0 := pw_cell_below hb5 y0
        replace y3 := pw_cell_below hb5 y3
        replace hk5c : CG Kd.bool (FD B K M) w5b A3 n3 l3 := O5.cg HK.out
        replace s5 := Aside0.mk s5; replace O5 := Aside0.mk O5; replace hC5 := Aside0.mk hC5; replace hk5c := Aside0.mk hk5c; replace hb5 := Aside0.mk hb5
        go_wp2_with fail
        with_reducible refine (Crash_calls B K M D1 A3 n3 c3 l3 w5b s5.out.dk hk5c.out).mono ?_
        rintro e w6 ⟨rfl, hd6, hk6⟩
        have O6 := O5.out.keep (hk6.mono (fun _ hi => .inl hi))
        have hC6 : (Kd.int .u8).C w6 Ai ni h.img := Kd_C_keep hC5.out (fun ad e _ hF => s2.out.fresh _ (hf3.out ad e) (.inl hF)) hk6
        replace y0 := keepF_cell hk6 y0 (fun hF => n5.out (.inl hF))
        replace y3 := keepF_cell hk6 y3 (fun hF => n5.out (.inl hF))
        have hT6 := hT.out.step O6.bel
        have hF6 := crash_fine hcr.out.len l3
        obtain ⟨D2, hD2⟩ : ∃ D2, D1.crash l3 = D2 := ⟨_, rfl⟩
        have hopen := hcr.out.was l3 s5.out.dk hq0
        rw [hD2] at hd6 hF6 hopen
        replace hd6 := Aside0.mk hd6; replace hk6 := Aside0.mk hk6; replace O6 := Aside0.mk O6; replace hC6 := Aside0.mk hC6; replace hT6 := Aside0.mk hT6; replace hF6 := Aside0.mk hF6; replace hD2 := Aside0.mk hD2
        go_wp2_with fail
        with_reducible refine (Open_calls B K M D2 w6 hT6.out hd6.out hz0.out).mono ?_
        intro e w7 he
        obtain ⟨v7, rfl, hb7, _, hS7⟩ := he
        obtain ⟨S2, rfl, hS2, t7⟩ := hS7 (fun hh => hh.elim (fun h1 => by rw [hF6.out.len] at h1; exact absurd h1 (by decide)) (fun h1 => by rw [hF6.out.left] at h1; exact absurd h1 (by decide)))
        rw [if_neg (show ¬ D2.kept.length < 4 by rw [hF6.out.len]; decide), if_neg (show ¬ D2.left = 0 by rw [hF6.out.left]; decide)]
        have O7 := O6.out.below hb7
        have hC7 := Kd.C_below hC6.out hb7
        obtain ⟨ht, hht⟩ : ∃ ht, openOf D2 = ht := ⟨_, rfl⟩
        rw [hht] at t7 hopen
        replace y0 := pw_cell_below hb7 y0
        replace y3 := pw_cell_below hb7 y3
        replace t7 := Aside0.mk t7; replace hb7 := Aside0.mk hb7; replace O7 := Aside0.mk O7; replace hC7 := Aside0.mk hC7; replace hht := Aside0.mk hht; replace hopen := Aside0.mk hopen
        go_wp2_with fail
        with_reducible refine (same_calls S2 B K M D2 ht age has Ai ni _ h.img w7 t7.out hC7.out).mono ?_
        rintro e w8 ⟨rfl, hb8⟩
        obtain ⟨bw, hbw⟩ : ∃ b, sameB ht age has h.img = b := ⟨_, rfl⟩
        rw [hbw]
        have t8 := t7.out.below hb8
        have O8 := O7.out.below hb8
        have hCo8 := Kd.C_below hob.out O8.bel
        replace y0 := pw_cell_below hb8 y0
        replace y3 := pw_cell_below hb8 y3
        replace t8 := Aside0.mk t8; replace hb8 := Aside0.mk hb8; replace O8 := Aside0.mk O8; replace hbw := Aside0.mk hbw; replace hCo8 := Aside0.mk hCo8
        go_wp2_with fail
        with_reducible refine (same_calls S2 B K M D2 ht (age + 1) true A1 nb c1 o.b w8 t8.out hCo8.out).mono ?_
        rintro e w9 ⟨rfl, hb9⟩
        obtain ⟨bn, hbn⟩ : ∃ b, sameB ht (age + 1) true o.b = b := ⟨_, rfl⟩
        rw [hbn]
        have t9 := t8.out.below hb9
        have O9 := O8.out.below hb9
        replace y0 := pw_cell_below hb9 y0
        replace t9 := Aside0.mk t9; replace hb9 := Aside0.mk hb9; replace O9 := Aside0.mk O9; replace hbn := Aside0.mk hbn
        rcases hopen.out with hh1 | ⟨hq19, hh1⟩
        · obtain rfl : bw = true := by rw [← hbw.out, hh1]; exact hsm.out
          go_wp2_with fail
          all_goals (
            go_ret
            exact ⟨rfl, O9.out.bel⟩)
        · obtain rfl : bn = true := by rw [← hbn.out, hh1]; exact sameB_self _ _ _
          replace hq19 : q = 19 := hq19
          subst hq19
          replace hh1 := Aside0.mk hh1
          go_wp2_with fail
          all_goals (
            go_ret
            exact ⟨rfl, O9.out.bel⟩)
  · cases bf with
    | false =>
      go_wp2_with fail
      go_ret
      exact ⟨rfl, hBb.out⟩
    | true =>
      have q3 : 50 < n3 := by
        apply Decidable.byContradiction; intro hc; exact hq ⟨rfl, by omega⟩
      clear hq
      go_wp2_with fail
      go_ret
      exact ⟨rfl, hBb.out⟩
end Go.Proofs.YtiibfboendnifaaDoor.Sl
