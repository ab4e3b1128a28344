/- SlotsFalls: where a bit of what is newest is turned over, what was there before it is found. Written by wip/tools/slgi.py. -/
import Derived.Test.YtiibfboendnifaaDoorSlGh
import Derived.Test.YtiibfboendnifaaDoorSlV
namespace Go.Proofs.YtiibfboendnifaaDoor.Sl
set_option linter.unusedVariables false
set_option linter.unusedSimpArgs false
open Go.RowKit Go.Proofs.Bk Go.Proofs.Bm Go.Proofs.Op Go.Proofs.YtiibfboendnifaaDoor.Dk Go.Proofs.YtiibfboendnifaaDoorW.PrintWords

/-- what was committed, one behind another -/
def Hist (h p : Hd) (hs : List Hd) : Prop := (hs.length : Int) = h.age + 1 ∧ ((h.age = 0 ∧ hs = [h]) ∨ (1 ≤ h.age ∧ ∃ r, hs = r ++ [p, h]))
theorem Hist.push {h p h' : Hd} {hs : List Hd} (H : Hist h p hs) (h0 : 0 ≤ h.age) (ha : h'.age = h.age + 1) : Hist h' h (hs ++ [h']) := by
  refine ⟨by rw [List.length_append]; have := H.1; simp; omega, .inr ⟨by omega, ?_⟩⟩
  rcases H.2 with ⟨_, rfl⟩ | ⟨_, r, rfl⟩
  · exact ⟨[], rfl⟩
  · exact ⟨r ++ [p], by simp⟩

theorem wf_u16 {x : Int} (h : (Lit.int .u16 x).wf = true) : 0 ≤ x ∧ x ≤ 65535 := by
  simp [Lit.wf, IntKind.min, IntKind.max, IntKind.signed, IntKind.bits] at h; omega

set_option maxHeartbeats 8000000 in
set_option maxRecDepth 100000 in
theorem SlotsFalls_calls (w : World) (hT0 : Tab w) (A0 : Option Addr) (n c0 : Nat) (l : List OpM) (hr0 : kOp.C w A0 n l) (hc0 : n ≤ c0) (ho0 : ∀ x ∈ l, okOp x) (a1 : Int) (wf1 : (Lit.int .u16 a1).wf = true) (a2 : Int) (wf2 : (Lit.int .u16 a2).wf = true) :
    Calls Tryd.prog 4 #[.slice A0 n c0, .int .u16 a1, .int .u16 a2] w (OkPost w) := by
  have h0 := zero_lt_tab hT0
  have hb0 : Aside0 (∀ o ∈ l, ∀ x ∈ o.b, 0 ≤ x ∧ x ≤ 255) := ⟨fun o ho x hx => wf_u8 ((ho0 o ho).2.2.2.1 x hx)⟩
  have hnl : Aside0 (l.length = n) := ⟨hr0.1⟩
  have hn := hr0.2.1
  obtain ⟨D0, hD0⟩ : ∃ D0, D0 = (⟨List.replicate 40 zeros, [], -1⟩ : Dsk) := ⟨_, rfl⟩
  have eN : (⟨List.replicate (max 0 (min (40 : Int) 512)).toNat zeros, [], -1⟩ : Dsk) = D0 := by rw [hD0]; rfl
  have I0 : InvF 40 D0 hd0 hd0 := by rw [hD0]; exact invF_new
  have hT := Aside0.mk hT0
  have HR := Aside0.mk hr0
  clear hr0 hc0 ho0 hT0
  replace hD0 := Aside0.mk hD0; replace eN := Aside0.mk eN; replace I0 := Aside0.mk I0; replace wf1 := Aside0.mk wf1; replace wf2 := Aside0.mk wf2
  go_enter Tryd.func4, Tryd.ntmps4
  go_wp2_with fail
  with_reducible refine (awake_calls w hT.out).mono ?_
  rintro e wa ⟨rfl, hBa⟩
  replace hBa := Aside0.mk hBa
  go_wp2_with fail
  with_reducible refine (few_calls A0 n c0 l _ (Kd.C_below HR.out hBa.out)).mono ?_
  rintro e w' ⟨⟨bf, rfl, hbf⟩, rfl⟩
  cases bf with
  | false =>
    go_wp2_with fail
    go_ret
    exact ⟨rfl, hBa.out⟩
  | true =>
    have hfew := Aside0.mk (hbf rfl)
    clear hbf
    have hn20 : n ≤ 20 := by have := hfew.out.n; rw [hnl.out] at this; exact this
    go_wp2_with fail
    with_reducible refine (New_calls 40 wa).mono ?_
    rintro e w1 ⟨B, K, M, rfl, h1, hB1, hK1, hM1, hbel1⟩
    rw [eN.out] at h1
    have hbel := below_step hBa.out hbel1
    have hwa := hBa.out.size
    have hT1 := hT.out.step hbel
    have hz0 : ¬ FD B K M 0 := by unfold FD; omega
    have hB2 : w.heap.size ≤ B ∧ w.heap.size ≤ K ∧ w.heap.size ≤ M := by omega
    clear hB1 hK1 hM1 hwa
    replace h1 := Aside0.mk h1; replace hbel := Aside0.mk hbel; replace hbel1 := Aside0.mk hbel1; replace hT1 := Aside0.mk hT1; replace hz0 := Aside0.mk hz0; replace hB2 := Aside0.mk hB2
    go_wp2_with fail
    with_reducible refine (Open_calls B K M D0 w1 hT1.out h1.out hz0.out).mono ?_
    intro e w2 he
    obtain ⟨S, rfl, hS, s2, hb2⟩ := open_post I0.out.r.inv he
    clear he
    have O2 : OldS w w2 S B K M := ⟨below_step hbel.out hb2, Nat.le_trans hbel.out.size hS, hB2.out.1, hB2.out.2.1, hB2.out.2.2⟩
    have T2 := Three.none_ w2 w.heap.size (FS S B K M)
    have g2 : StoG (Off (.slice none 0 0) (.slice none 0 0) (.slice none 0 0)) w2 S B K M D0 hd0 := StoG.of_nil s2 rfl
    have hln : ∀ by_ : Nat, by_ ≤ 24 → (0 + 1) * by_ ≤ 140737488355328 := fun _ _ => by omega
    replace s2 := Aside0.mk s2; replace hb2 := Aside0.mk hb2; replace O2 := Aside0.mk O2; replace T2 := Aside0.mk T2; replace g2 := Aside0.mk g2; replace hln := Aside0.mk hln
    go_wp2_with (first
      | ((with_reducible refine gate_op (.call ⟨.builtin .append, #[.tmp 45, .tmp 46], #[40, 40]⟩) rfl ?_); refine Kd.R_append (Kd.int .i64) (w0 := w) w.heap.size rfl (.tmp 45) (.tmp 46) 40 3 (.int .i64 0) 8 rfl Tryd.underlying40 info_int rfl (by decide) (by decide) (.slice none 0 0) [] 0 [.int .i64 0] (fun k => ¬ FS S B K M k) (fun _ => False) rfl rfl rfl (fun _ hk => hk.elim) g2.out.toSto.fresh T2.out.ra O2.out.bel O2.out.bel.size ?aL ?_; (case aL => exact hln.out 8 (by decide)); intro x90 wA0 ho hB hg hat; obtain ⟨TA0, sA0⟩ := T2.out.push9 g2.out ho hg hat; have OA0 : OldS w wA0 S B K M := ⟨hB, O2.out.s, O2.out.b, O2.out.k, O2.out.m⟩; replace TA0 := Aside0.mk TA0; replace sA0 := Aside0.mk sA0; replace OA0 := Aside0.mk OA0; clear ho hB hg hat)
      | ((with_reducible refine gate_op (.call ⟨.builtin .append, #[.tmp 48, .tmp 49], #[33, 33]⟩) rfl ?_); refine Kd.R_append Kd.bool (w0 := w) w.heap.size rfl (.tmp 48) (.tmp 49) 33 4 (.bool false) 1 rfl Tryd.underlying33 info_bool rfl (by decide) (by decide) (.slice none 0 0) [] false [.bool false] (fun k => ¬ FS S B K M k) (fun _ => False) rfl rfl rfl (fun _ hk => hk.elim) sA0.out.toSto.fresh TA0.out.rb OA0.out.bel OA0.out.bel.size ?aL ?_; (case aL => exact hln.out 1 (by decide)); intro x100 wB0 ho hB hg hat; obtain ⟨TB0, sB0⟩ := TA0.out.push10 sA0.out ho hg hat; have OB0 : OldS w wB0 S B K M := ⟨hB, OA0.out.s, OA0.out.b, OA0.out.k, OA0.out.m⟩; replace TB0 := Aside0.mk TB0; replace sB0 := Aside0.mk sB0; replace OB0 := Aside0.mk OB0; clear ho hB hg hat)
      | ((with_reducible refine gate_op (.call ⟨.builtin .append, #[.tmp 51, .tmp 52], #[41, 41]⟩) rfl ?_); refine Kd.R_append kImg (w0 := w) w.heap.size rfl (.tmp 51) (.tmp 52) 41 32 (.slice none 0 0) 24 rfl Tryd.underlying41 info_img rfl (by decide) (by decide) (.slice none 0 0) [] [] [.slice none 0 0] (fun k => ¬ FS S B K M k) (fun _ => False) rfl rfl ⟨.slice none 0 0, rfl, Kd.R_nil _ _ _ _ _⟩ (fun _ hk => hk.elim) sB0.out.toSto.fresh TB0.out.ri OB0.out.bel OB0.out.bel.size ?aL ?_; (case aL => exact hln.out 24 (by decide)); intro x110 wC0 ho hB hg hat; obtain ⟨TC0, sC0⟩ := TB0.out.push11 sB0.out ho hg hat; have OC0 : OldS w wC0 S B K M := ⟨hB, OB0.out.s, OB0.out.b, OB0.out.k, OB0.out.m⟩; replace TC0 := Aside0.mk TC0; replace sC0 := Aside0.mk sC0; replace OC0 := Aside0.mk OC0; clear ho hB hg hat))
    clear hln
    go_loopw [9, 10, 11, 15] (fun t9 t10 t11 t15 wr => ∃ (k : Nat) (h p : Hd) (hs : List Hd) (Dn : Dsk), t15 = .int .i64 k ∧ k ≤ n ∧ h.age ≤ k ∧ Aside0 (Three wr w.heap.size (FS S B K M) t9 t10 t11 (hs.map (·.age)) (hs.map (·.has)) (hs.map (·.img))) ∧ Aside0 (StoG (Off t9 t10 t11) wr S B K M Dn h) ∧ Aside0 (InvF 40 Dn h p) ∧ Aside0 (OldS w wr S B K M) ∧ Aside0 (Hist h p hs))
      (fun _ _ _ t15 _ => n - (intOf t15).toNat)
    case atStart => exact ⟨0, hd0, hd0, [hd0], D0, rfl, Nat.zero_le _, Int.le_refl _, TC0, sC0, I0, OC0, ⟨rfl, .inl ⟨rfl, rfl⟩⟩⟩
    case round =>
      obtain ⟨k, h, p, hs, Dn, rfl, hk, hak, hTh, hst, hI, hO, hH⟩ := hrel
      by_cases hlt : k < n
      · have p1 : 0 ≤ (k : Int) := by omega
        have q1 : (k : Int) < (n : Int) := by omega
        obtain ⟨ad, o, A1, c1, A2, c2, rfl, ho, hat, hcs⟩ := ops_at HR.out hlt
        have hcs' : ∀ i u, (opCells o A1 c1 A2 c2)[i]? = some u → ∀ W, Below w.heap.size w W → W.cell? (ad.add (k * 5 + i)) = some u := fun i u hu W hb => pw_cell_below hb (hcs i u hu)
        have x0 : wr.cell? (ad.add (k * 5)) = some (.int .i64 o.k) := hcs' 0 _ rfl _ hO.out.bel
        have x3 : wr.cell? ⟨(ad.add (k * 5)).block, (ad.add (k * 5)).off + 3, none⟩ = some (.slice A1 o.b.length c1) := by rw [add_field _ _ _ (by omega)]; exact hcs' 3 _ rfl _ hO.out.bel
        have hmem := List.mem_of_getElem? ho
        have hb400 := hfew.out.b o hmem
        have hbr := Aside0.mk (hb0.out o hmem)
        have hCo : Aside0 ((Kd.int .u8).C w A1 o.b.length o.b) := ⟨hat.1⟩
        have ha0 : 0 ≤ h.age := hI.out.r.inv.age0
        have hhf : halfOf Dn = 19 := fine_half hI.out.r.inv.fine
        have h4n : 4 ≤ Dn.kept.length := by rw [hI.out.r.inv.fine.len]; decide
        obtain ⟨kv, hkv⟩ : ∃ kv, o.k = kv := ⟨_, rfl⟩
        obtain ⟨nb, hnb⟩ : ∃ nb, o.b.length = nb := ⟨_, rfl⟩
        obtain ⟨age, hage⟩ : ∃ age, h.age = age := ⟨_, rfl⟩
        rw [hkv] at x0
        rw [hnb] at x3 hCo hb400
        have hTr := hT.out.step hO.out.bel
        have hCr := Kd.C_below hCo.out hO.out.bel
        have hA1 : IntKind.i64.wrap (age + 1) = age + 1 := by rw [IntKind.wrap_i64]; omega
        replace hcs := Aside0.mk hcs; replace hcs' := Aside0.mk hcs'; replace ho := Aside0.mk ho; replace hat := Aside0.mk hat; replace hmem := Aside0.mk hmem; replace hhf := Aside0.mk hhf; replace h4n := Aside0.mk h4n; replace hkv := Aside0.mk hkv; replace hnb := Aside0.mk hnb; replace hTr := Aside0.mk hTr; replace hCr := Aside0.mk hCr; replace hage := Aside0.mk hage
        go_wp2_with fail
        with_reducible refine (Age_calls S B K M Dn h wr hst.out.toSto).mono ?_
        rintro e w' ⟨rfl, rfl⟩
        rw [hage.out]
        rw [hage.out] at ha0 hak
        by_cases k1 : kv = 1
        · subst k1
          obtain ⟨D2, e1, I2⟩ := commit_fineF hI.out o.b hbr.out (by rw [hnb.out, hhf.out]; omega) (by rw [hhf.out]; decide) (by rw [hage.out]; omega)
          obtain ⟨h1, hh1e⟩ : ∃ h1, (⟨h.age + 1, true, o.b⟩ : Hd) = h1 := ⟨_, rfl⟩
          have hh1 : h1.age = age + 1 := by rw [← hh1e, ← hage.out]
          rw [hh1e] at e1 I2
          replace e1 := Aside0.mk e1; replace I2 := Aside0.mk I2; replace hh1e := Aside0.mk hh1e
          go_wp2_with fail
          with_reducible refine (Commit_callsG _ S B K M Dn h A1 nb c1 o.b wr hTr.out hst.out h4n.out hCr.out hbr.out (off_new hTh.out)).mono ?_
          rintro e w4 ⟨rfl, s4, k4⟩
          rw [e1.out] at s4 ⊢
          have O4 := hO.out.keep k4
          have T4 := hTh.out.keep k4
          have y0 : w4.cell? (ad.add (k * 5)) = some (.int .i64 1) := by rw [← hkv.out]; exact hcs'.out 0 _ rfl _ O4.bel
          clear x0 x3
          · skip
            · skip
              replace s4 := Aside0.mk s4; replace k4 := Aside0.mk k4; replace O4 := Aside0.mk O4; replace T4 := Aside0.mk T4
              have hag : h1.age = age + 1 := hh1
              have hgt : age < age + 1 := by omega
              have hHi := hH.out.push (by rw [hage.out]; exact ha0) (by rw [hh1, hage.out])
              have hln : ∀ by_ : Nat, by_ ≤ 24 → ((hs.map (·.age)).length + 1) * by_ ≤ 140737488355328 ∧ ((hs.map (·.has)).length + 1) * by_ ≤ 140737488355328 ∧ ((hs.map (·.img)).length + 1) * by_ ≤ 140737488355328 := fun by_ hb => by
                have hq := hH.out.1; rw [hage.out] at hq
                simp only [List.length_map]
                have : (hs.length + 1) * by_ ≤ 22 * 24 := Nat.mul_le_mul (by omega) hb
                omega
              replace hag := Aside0.mk hag; replace hHi := Aside0.mk hHi; replace hln := Aside0.mk hln
              go_wp2_with fail
              with_reducible refine (Age_calls S B K M D2 h1 w4 s4.out.toSto).mono ?_
              rintro e w' ⟨rfl, rfl⟩
              rw [hag.out]
              go_wp2_with fail
              with_reducible refine (Image_calls S B K M D2 h1 w4 s4.out.toSto).mono ?_
              rintro e w5 ⟨v, rfl, hv, hb5⟩
              obtain ⟨Ai, ci, rfl, hC5⟩ := bytes_of_row hv rfl
              have T5 := T4.out.below hb5
              have s5 := s4.out.below hb5
              have O5 := O4.out.below hb5
              have hM5 := img_M (b := w.heap.size) (F := FS S B K M) hv O4.out.bel.size (fun k hk => s4.out.toSto.fresh k hk)
              have hMo : ∀ k, w4.heap.size ≤ k → some k ≠ u11.ownBlock := fun k hk => (off_new T4.out k hk).2.2
              obtain ⟨hsb, hhsb⟩ : ∃ x, h1.has = x := ⟨_, rfl⟩
              rw [hhsb]
              replace hv := Aside0.mk hv; replace hb5 := Aside0.mk hb5; replace hC5 := Aside0.mk hC5; replace T5 := Aside0.mk T5; replace s5 := Aside0.mk s5; replace O5 := Aside0.mk O5; replace hM5 := Aside0.mk hM5; replace hMo := Aside0.mk hMo; replace hhsb := Aside0.mk hhsb
              go_wp2_with fail
              with_reducible refine (Age_calls S B K M D2 h1 w5 s5.out.toSto).mono ?_
              rintro e w' ⟨rfl, rfl⟩
              rw [hag.out]
              go_wp2_with (first
      | ((with_reducible refine gate_op (.call ⟨.builtin .append, #[.tmp 92, .tmp 95], #[40, 40]⟩) rfl ?_); refine Kd.R_append (Kd.int .i64) (w0 := w) w.heap.size rfl (.tmp 92) (.tmp 95) 40 3 (.int .i64 0) 8 rfl Tryd.underlying40 info_int rfl (by decide) (by decide) u9 (hs.map (·.age)) (age + 1) [.int .i64 (age + 1)] (fun k => ¬ FS S B K M k) (fun _ => False) rfl rfl rfl (fun _ hk => hk.elim) s5.out.toSto.fresh T5.out.ra O5.out.bel O5.out.bel.size ?aL ?_; (case aL => exact (hln.out 8 (by decide)).1); intro x91 wA1 ho hB hg hat; obtain ⟨TA1, sA1⟩ := T5.out.push9 s5.out ho hg hat; have OA1 : OldS w wA1 S B K M := ⟨hB, O5.out.s, O5.out.b, O5.out.k, O5.out.m⟩; replace TA1 := Aside0.mk TA1; replace sA1 := Aside0.mk sA1; replace OA1 := Aside0.mk OA1; have hgA := Aside0.mk hg; clear ho hB hg hat)
      | ((with_reducible refine gate_op (.call ⟨.builtin .append, #[.tmp 97, .tmp 99], #[33, 33]⟩) rfl ?_); refine Kd.R_append Kd.bool (w0 := w) w.heap.size rfl (.tmp 97) (.tmp 99) 33 4 (.bool false) 1 rfl Tryd.underlying33 info_bool rfl (by decide) (by decide) u10 (hs.map (·.has)) hsb [.bool hsb] (fun k => ¬ FS S B K M k) (fun _ => False) rfl rfl rfl (fun _ hk => hk.elim) sA1.out.toSto.fresh TA1.out.rb OA1.out.bel OA1.out.bel.size ?aL ?_; (case aL => exact (hln.out 1 (by decide)).2.1); intro x101 wB1 ho hB hg hat; obtain ⟨TB1, sB1⟩ := TA1.out.push10 sA1.out ho hg hat; have OB1 : OldS w wB1 S B K M := ⟨hB, OA1.out.s, OA1.out.b, OA1.out.k, OA1.out.m⟩; replace TB1 := Aside0.mk TB1; replace sB1 := Aside0.mk sB1; replace OB1 := Aside0.mk OB1; have hM11 := Aside0.mk (R_other (R_other hM5.out T5.out.ra (show ∀ q, q ∈ [5] → q ≠ 3 by decide) hgA.out) TA1.out.rb (show ∀ q, q ∈ [5] → q ≠ 4 by decide) hg); clear ho hB hg hat)
      | ((with_reducible refine gate_op (.call ⟨.builtin .append, #[.tmp 101, .tmp 103], #[41, 41]⟩) rfl ?_); refine Kd.R_append kImg (w0 := w) w.heap.size rfl (.tmp 101) (.tmp 103) 41 32 (.slice none 0 0) 24 rfl Tryd.underlying41 info_img rfl (by decide) (by decide) u11 (hs.map (·.img)) h1.img [.slice Ai h1.img.length ci] (fun k => ¬ FS S B K M k) (fun i => ¬ FS S B K M i ∧ w4.heap.size ≤ i) rfl rfl ⟨_, rfl, hM11.out⟩ (fun _ hk => ⟨hk.1, hMo.out _ hk.2⟩) sB1.out.toSto.fresh TB1.out.ri OB1.out.bel OB1.out.bel.size ?aL ?_; (case aL => exact (hln.out 24 (by decide)).2.2); intro x111 wC1 ho hB hg hat; obtain ⟨TC1, sC1⟩ := TB1.out.push11 sB1.out ho hg hat; have OC1 : OldS w wC1 S B K M := ⟨hB, OB1.out.s, OB1.out.b, OB1.out.k, OB1.out.m⟩; replace TC1 := Aside0.mk TC1; replace sC1 := Aside0.mk sC1; replace OC1 := Aside0.mk OC1; clear ho hB hg hat))
              go_roundw
              case measure => show n - ((k : Int) + 1).toNat < n - (k : Int).toNat; omega
              case rel => exact ⟨k + 1, h1, h, hs ++ [h1], D2, by simp, by omega, by rw [hag.out]; omega, ⟨by rw [List.map_append, List.map_append, List.map_append]; show Three _ _ _ _ _ _ (_ ++ [h1.age]) (_ ++ [h1.has]) (_ ++ [h1.img]); rw [hag.out, hhsb.out]; exact TC1.out⟩, sC1, I2, OC1, hHi⟩
        · by_cases k2 : kv = 2
          · subst k2
            cases hsd : h.has with
            | true =>
              obtain ⟨D2, e1, I2⟩ := delete_fineF hI.out hsd (by rw [hage.out]; omega)
              obtain ⟨h1, hh1e⟩ : ∃ h1, (⟨h.age + 1, false, []⟩ : Hd) = h1 := ⟨_, rfl⟩
              have hh1 : h1.age = age + 1 := by rw [← hh1e, ← hage.out]
              rw [hh1e] at e1 I2
              replace e1 := Aside0.mk e1; replace I2 := Aside0.mk I2; replace hh1e := Aside0.mk hh1e; replace hsd := Aside0.mk hsd
              go_wp2_with fail
              with_reducible refine (Delete_callsG _ S B K M Dn h wr hTr.out hst.out).mono ?_
              rintro e w4 ⟨rfl, s4, k4⟩
              rw [e1.out] at s4 ⊢
              have O4 := hO.out.keep k4
              have T4 := hTh.out.keep k4
              clear x0 x3
              replace s4 := Aside0.mk s4; replace k4 := Aside0.mk k4; replace O4 := Aside0.mk O4; replace T4 := Aside0.mk T4
              have hag : h1.age = age + 1 := hh1
              have hgt : age < age + 1 := by omega
              have hHi := hH.out.push (by rw [hage.out]; exact ha0) (by rw [hh1, hage.out])
              have hln : ∀ by_ : Nat, by_ ≤ 24 → ((hs.map (·.age)).length + 1) * by_ ≤ 140737488355328 ∧ ((hs.map (·.has)).length + 1) * by_ ≤ 140737488355328 ∧ ((hs.map (·.img)).length + 1) * by_ ≤ 140737488355328 := fun by_ hb => by
                have hq := hH.out.1; rw [hage.out] at hq
                simp only [List.length_map]
                have : (hs.length + 1) * by_ ≤ 22 * 24 := Nat.mul_le_mul (by omega) hb
                omega
              replace hag := Aside0.mk hag; replace hHi := Aside0.mk hHi; replace hln := Aside0.mk hln
              go_wp2_with fail
              with_reducible refine (Age_calls S B K M D2 h1 w4 s4.out.toSto).mono ?_
              rintro e w' ⟨rfl, rfl⟩
              rw [hag.out]
              go_wp2_with fail
              with_reducible refine (Image_calls S B K M D2 h1 w4 s4.out.toSto).mono ?_
              rintro e w5 ⟨v, rfl, hv, hb5⟩
              obtain ⟨Ai, ci, rfl, hC5⟩ := bytes_of_row hv rfl
              have T5 := T4.out.below hb5
              have s5 := s4.out.below hb5
              have O5 := O4.out.below hb5
              have hM5 := img_M (b := w.heap.size) (F := FS S B K M) hv O4.out.bel.size (fun k hk => s4.out.toSto.fresh k hk)
              have hMo : ∀ k, w4.heap.size ≤ k → some k ≠ u11.ownBlock := fun k hk => (off_new T4.out k hk).2.2
              obtain ⟨hsb, hhsb⟩ : ∃ x, h1.has = x := ⟨_, rfl⟩
              rw [hhsb]
              replace hv := Aside0.mk hv; replace hb5 := Aside0.mk hb5; replace hC5 := Aside0.mk hC5; replace T5 := Aside0.mk T5; replace s5 := Aside0.mk s5; replace O5 := Aside0.mk O5; replace hM5 := Aside0.mk hM5; replace hMo := Aside0.mk hMo; replace hhsb := Aside0.mk hhsb
              go_wp2_with fail
              with_reducible refine (Age_calls S B K M D2 h1 w5 s5.out.toSto).mono ?_
              rintro e w' ⟨rfl, rfl⟩
              rw [hag.out]
              go_wp2_with (first
      | ((with_reducible refine gate_op (.call ⟨.builtin .append, #[.tmp 92, .tmp 95], #[40, 40]⟩) rfl ?_); refine Kd.R_append (Kd.int .i64) (w0 := w) w.heap.size rfl (.tmp 92) (.tmp 95) 40 3 (.int .i64 0) 8 rfl Tryd.underlying40 info_int rfl (by decide) (by decide) u9 (hs.map (·.age)) (age + 1) [.int .i64 (age + 1)] (fun k => ¬ FS S B K M k) (fun _ => False) rfl rfl rfl (fun _ hk => hk.elim) s5.out.toSto.fresh T5.out.ra O5.out.bel O5.out.bel.size ?aL ?_; (case aL => exact (hln.out 8 (by decide)).1); intro x91 wA1 ho hB hg hat; obtain ⟨TA1, sA1⟩ := T5.out.push9 s5.out ho hg hat; have OA1 : OldS w wA1 S B K M := ⟨hB, O5.out.s, O5.out.b, O5.out.k, O5.out.m⟩; replace TA1 := Aside0.mk TA1; replace sA1 := Aside0.mk sA1; replace OA1 := Aside0.mk OA1; have hgA := Aside0.mk hg; clear ho hB hg hat)
      | ((with_reducible refine gate_op (.call ⟨.builtin .append, #[.tmp 97, .tmp 99], #[33, 33]⟩) rfl ?_); refine Kd.R_append Kd.bool (w0 := w) w.heap.size rfl (.tmp 97) (.tmp 99) 33 4 (.bool false) 1 rfl Tryd.underlying33 info_bool rfl (by decide) (by decide) u10 (hs.map (·.has)) hsb [.bool hsb] (fun k => ¬ FS S B K M k) (fun _ => False) rfl rfl rfl (fun _ hk => hk.elim) sA1.out.toSto.fresh TA1.out.rb OA1.out.bel OA1.out.bel.size ?aL ?_; (case aL => exact (hln.out 1 (by decide)).2.1); intro x101 wB1 ho hB hg hat; obtain ⟨TB1, sB1⟩ := TA1.out.push10 sA1.out ho hg hat; have OB1 : OldS w wB1 S B K M := ⟨hB, OA1.out.s, OA1.out.b, OA1.out.k, OA1.out.m⟩; replace TB1 := Aside0.mk TB1; replace sB1 := Aside0.mk sB1; replace OB1 := Aside0.mk OB1; have hM11 := Aside0.mk (R_other (R_other hM5.out T5.out.ra (show ∀ q, q ∈ [5] → q ≠ 3 by decide) hgA.out) TA1.out.rb (show ∀ q, q ∈ [5] → q ≠ 4 by decide) hg); clear ho hB hg hat)
      | ((with_reducible refine gate_op (.call ⟨.builtin .append, #[.tmp 101, .tmp 103], #[41, 41]⟩) rfl ?_); refine Kd.R_append kImg (w0 := w) w.heap.size rfl (.tmp 101) (.tmp 103) 41 32 (.slice none 0 0) 24 rfl Tryd.underlying41 info_img rfl (by decide) (by decide) u11 (hs.map (·.img)) h1.img [.slice Ai h1.img.length ci] (fun k => ¬ FS S B K M k) (fun i => ¬ FS S B K M i ∧ w4.heap.size ≤ i) rfl rfl ⟨_, rfl, hM11.out⟩ (fun _ hk => ⟨hk.1, hMo.out _ hk.2⟩) sB1.out.toSto.fresh TB1.out.ri OB1.out.bel OB1.out.bel.size ?aL ?_; (case aL => exact (hln.out 24 (by decide)).2.2); intro x111 wC1 ho hB hg hat; obtain ⟨TC1, sC1⟩ := TB1.out.push11 sB1.out ho hg hat; have OC1 : OldS w wC1 S B K M := ⟨hB, OB1.out.s, OB1.out.b, OB1.out.k, OB1.out.m⟩; replace TC1 := Aside0.mk TC1; replace sC1 := Aside0.mk sC1; replace OC1 := Aside0.mk OC1; clear ho hB hg hat))
              go_roundw
              case measure => show n - ((k : Int) + 1).toNat < n - (k : Int).toNat; omega
              case rel => exact ⟨k + 1, h1, h, hs ++ [h1], D2, by simp, by omega, by rw [hag.out]; omega, ⟨by rw [List.map_append, List.map_append, List.map_append]; show Three _ _ _ _ _ _ (_ ++ [h1.age]) (_ ++ [h1.has]) (_ ++ [h1.img]); rw [hag.out, hhsb.out]; exact TC1.out⟩, sC1, I2, OC1, hHi⟩
            | false =>
              have e1 : deleteOf Dn h = (8, Dn, h) := by unfold deleteOf; rw [if_pos hsd]
              replace e1 := Aside0.mk e1; replace hsd := Aside0.mk hsd
              go_wp2_with fail
              with_reducible refine (Delete_callsG _ S B K M Dn h wr hTr.out hst.out).mono ?_
              rintro e w4 ⟨rfl, s4, k4⟩
              rw [e1.out] at s4 ⊢
              have O4 := hO.out.keep k4
              have T4 := hTh.out.keep k4
              clear x0 x3
              replace s4 := Aside0.mk s4; replace k4 := Aside0.mk k4; replace O4 := Aside0.mk O4; replace T4 := Aside0.mk T4
              go_wp2_with fail
              with_reducible refine (Age_calls S B K M Dn h w4 s4.out.toSto).mono ?_
              rintro e w' ⟨rfl, rfl⟩
              rw [hage.out]
              go_wp2_with fail
              go_roundw
              case measure => show n - ((k : Int) + 1).toNat < n - (k : Int).toNat; omega
              case rel => exact ⟨k + 1, h, p, hs, Dn, by simp, by omega, by rw [hage.out]; omega, T4, s4, hI, O4, hH⟩
          · have t1 : (kv == 1) = false := by simpa using k1
            have t2 : (kv == 2) = false := by simpa using k2
            clear k1 k2
            go_wp2_with fail
            with_reducible refine (Age_calls S B K M Dn h wr hst.out.toSto).mono ?_
            rintro e w' ⟨rfl, rfl⟩
            rw [hage.out]
            go_wp2_with fail
            go_roundw
            case measure => show n - ((k : Int) + 1).toNat < n - (k : Int).toNat; omega
            case rel => exact ⟨k + 1, h, p, hs, Dn, by simp, by omega, by rw [hage.out]; omega, hTh, hst, hI, hO, hH⟩
      · obtain ⟨m, hm⟩ : ∃ m : Nat, hs.length = m := ⟨_, rfl⟩
        have ha0 : 0 ≤ h.age := hI.out.r.inv.age0
        have hq := hH.out.1
        have hq2 := hH.out.2
        have hTT := hTh.out
        obtain ⟨A9, c9, rfl, _, hC9⟩ := Kd.R_reads hTT.ra
        obtain ⟨A10, c10, rfl, _, hC10⟩ := Kd.R_reads hTT.rb
        obtain ⟨A11, c11, rfl, _, hC11⟩ := Kd.R_reads hTT.ri
        rw [List.length_map, hm] at hC9 hC10 hC11
        rw [hm] at hq
        simp only [List.length_map, hm] at hTh hst ⊢
        clear hTT
        by_cases hm2 : m < 2
        · obtain rfl : m = 1 := by omega
          replace hm := Aside0.mk hm; replace hq := Aside0.mk hq; replace hq2 := Aside0.mk hq2; replace hC9 := Aside0.mk hC9; replace hC10 := Aside0.mk hC10; replace hC11 := Aside0.mk hC11
          go_wp2_with fail
          go_ret
          exact ⟨rfl, hO.out.bel⟩
        · obtain ⟨r, hr⟩ : ∃ r, hs = r ++ [p, h] := by
            rcases hq2 with ⟨h1, h2⟩ | ⟨_, h2⟩
            · omega
            · exact h2
          obtain ⟨j1, hj1⟩ : ∃ j1 : Nat, (m : Int) - 1 = (j1 : Int) := ⟨m - 1, by omega⟩
          obtain ⟨j2, hj2⟩ : ∃ j2 : Nat, (m : Int) - 2 = (j2 : Int) := ⟨m - 2, by omega⟩
          have hag : h.age = (j1 : Int) := by omega
          have hrl : r.length = j2 := by have := congrArg List.length hr; rw [hm] at this; simp at this; omega
          have hj12 : j1 = j2 + 1 := by omega
          have l1 : hs[j1]? = some h := by rw [hr, List.getElem?_append_right (by omega)]; rw [hrl, hj12, show j2 + 1 - j2 = 1 by omega]; rfl
          have l2 : hs[j2]? = some p := by rw [hr, List.getElem?_append_right (by omega)]; rw [hrl, Nat.sub_self]; rfl
          obtain ⟨ad, A1, c1, rfl, z1, _, hCi⟩ := img_at hC11 (i := j1) (by omega) (s := h.img) (by rw [List.getElem?_map, l1]; rfl)
          obtain ⟨ni, hni⟩ : ∃ ni, h.img.length = ni := ⟨_, rfl⟩
          rw [hni] at z1 hCi
          obtain ⟨sl, hsl⟩ : ∃ sl : Nat, (j1 : Int).tmod 2 = (sl : Int) := ⟨j1 % 2, by rw [Int.tmod_eq_emod_of_nonneg (by omega)]; omega⟩
          have hsl2 : (j1 : Int) % 2 = (sl : Int) := by rw [← hsl, Int.tmod_eq_emod_of_nonneg (by omega)]
          have hmn : 2 ≤ m := by omega
          have hj1m : (j1 : Int) < (m : Int) := by omega
          have hm21 : m ≤ 21 := by omega
          have hni2 : ni ≤ 1216 := by
            obtain ⟨_, _, _, HH⟩ := hI.out.r.holds (by omega)
            have h3 := HH.len
            rw [hni, fine_half hI.out.r.inv.fine] at h3
            omega
          have ra2 := wf_u16 wf2.out
          have ra1 := wf_u16 wf1.out
          obtain ⟨kk, hkk⟩ : ∃ kk : Nat, a2.tmod 200 = (kk : Int) := ⟨(a2 % 200).toNat, by rw [Int.tmod_eq_emod_of_nonneg ra2.1]; omega⟩
          obtain ⟨par, hpar⟩ : ∃ par : Nat, a1.tmod 2 = (par : Int) := ⟨(a1 % 2).toNat, by rw [Int.tmod_eq_emod_of_nonneg ra1.1]; omega⟩
          have hz : ¬ (m : Int) < 2 := by omega
          have hst2 := hst.out.toSto
          clear hm2 ha0
          replace hm := Aside0.mk hm; replace hq := Aside0.mk hq; replace hq2 := Aside0.mk hq2; replace hr := Aside0.mk hr; replace hrl := Aside0.mk hrl; replace hj12 := Aside0.mk hj12; replace l1 := Aside0.mk l1; replace l2 := Aside0.mk l2; replace hC9 := Aside0.mk hC9; replace hC10 := Aside0.mk hC10; replace hC11 := Aside0.mk hC11; replace hCi := Aside0.mk hCi; replace hni := Aside0.mk hni; replace hsl2 := Aside0.mk hsl2; replace hst2 := Aside0.mk hst2; replace hag := Aside0.mk hag
          go_wp2_with fail
          with_reducible refine (Age_calls S B K M Dn h wr hst2.out).mono ?_
          rintro e w' ⟨rfl, rfl⟩
          rw [hag.out]
          go_wp2_with fail
          with_reducible refine (Age_calls S B K M Dn h wr hst2.out).mono ?_
          rintro e w' ⟨rfl, rfl⟩
          rw [hag.out]
          have hsl1 : sl ≤ 1 := by have := hsl2.out; omega
          have hfr : fromOf Dn sl = 2 + 19 * sl := by unfold fromOf; rw [fine_half hI.out.r.inv.fine]; omega
          have hkk2 : kk < 200 := by rw [Int.tmod_eq_emod_of_nonneg ra2.1] at hkk; omega
          have hAh : Aim Dn h sl kk := ⟨sl, hsl1, by rw [hag.out]; exact hsl2.out, .inl ⟨rfl, hkk2⟩⟩
          have hways : ¬ 0 < ni ∨ (0 < ni ∧ par ≠ 1) ∨ (0 < ni ∧ par = 1) := by omega
          replace hfr := Aside0.mk hfr; replace hAh := Aside0.mk hAh; replace hkk2 := Aside0.mk hkk2
          rcases hways with hb1 | ⟨hb1, hb2⟩ | ⟨hb1, hb2⟩
          case' inr.inr =>
            subst hb2
            have m0 : (8 * (ni : Int)) ≠ 0 := by omega
            have m1 : 0 ≤ 8 * (ni : Int) := by omega
            have m2 : 8 * (ni : Int) ≤ 9728 := by omega
            obtain ⟨at_, hat⟩ : ∃ at_ : Nat, a2.tmod (8 * (ni : Int)) = (at_ : Int) := ⟨(a2 % (8 * (ni : Int))).toNat, by rw [Int.tmod_eq_emod_of_nonneg ra2.1]; have := Int.emod_nonneg a2 m0; omega⟩
            have hat2 : at_ < 8 * ni := by rw [Int.tmod_eq_emod_of_nonneg ra2.1] at hat; have := Int.emod_lt_of_pos a2 (show (0 : Int) < 8 * (ni : Int) by omega); omega
            obtain ⟨q5, hq5⟩ : ∃ q5 : Nat, (at_ : Int).tdiv 512 = (q5 : Int) := ⟨at_ / 512, by rw [Int.tdiv_eq_ediv_of_nonneg (by omega)]; omega⟩
            obtain ⟨k5, hk5⟩ : ∃ k5 : Nat, (at_ : Int).tmod 512 = (k5 : Int) := ⟨at_ % 512, by rw [Int.tmod_eq_emod_of_nonneg (by omega)]; omega⟩
            have hq6 : q5 = at_ / 512 := by rw [Int.tdiv_eq_ediv_of_nonneg (by omega)] at hq5; omega
            have hk6 : k5 = at_ % 512 := by rw [Int.tmod_eq_emod_of_nonneg (by omega)] at hk5; omega
            replace hAh : Aim Dn h (2 + 19 * sl + q5) k5 := ⟨sl, hsl1, by rw [hag.out]; exact hsl2.out, .inr ⟨at_, by rw [hni.out]; exact hat2, by rw [hfr.out, hq6], hk6⟩⟩
            have hq7 : q5 ≤ 19 := by omega
            have key := falls hI.out hst2.out.dk (by rw [hag.out]; omega) hAh
            rw [show ((2 + 19 * sl + q5 : Nat) : Int) = 2 + 19 * (sl : Int) + (q5 : Int) by omega] at key
            obtain ⟨D5, hD5⟩ : ∃ D5, Dn.rot (2 + 19 * (sl : Int) + (q5 : Int)) (k5 : Int) = D5 := ⟨_, rfl⟩
            have hF5 : Fine 40 D5 := by rw [← hD5]; exact hI.out.r.inv.fine.rot _ _
            rw [hD5] at key
            replace hAh := Aside0.mk hAh; replace hat2 := Aside0.mk hat2; replace hq6 := Aside0.mk hq6; replace hk6 := Aside0.mk hk6; replace key := Aside0.mk key; replace hD5 := Aside0.mk hD5; replace hF5 := Aside0.mk hF5
            go_wp2_with fail
          case' inr.inl =>
            have key := falls hI.out hst2.out.dk (by rw [hag.out]; omega) hAh.out
            obtain ⟨D5, hD5⟩ : ∃ D5, Dn.rot (sl : Int) (kk : Int) = D5 := ⟨_, rfl⟩
            have hF5 : Fine 40 D5 := by rw [← hD5]; exact hI.out.r.inv.fine.rot _ _
            rw [hD5] at key
            replace key := Aside0.mk key; replace hD5 := Aside0.mk hD5; replace hF5 := Aside0.mk hF5
            go_wp2_with fail
          case' inl =>
            have key := falls hI.out hst2.out.dk (by rw [hag.out]; omega) hAh.out
            obtain ⟨D5, hD5⟩ : ∃ D5, Dn.rot (sl : Int) (kk : Int) = D5 := ⟨_, rfl⟩
            have hF5 : Fine 40 D5 := by rw [← hD5]; exact hI.out.r.inv.fine.rot _ _
            rw [hD5] at key
            replace key := Aside0.mk key; replace hD5 := Aside0.mk hD5; replace hF5 := Aside0.mk hF5
            go_wp2_with fail
          all_goals (
            with_reducible refine (Rot_calls B K M Dn _ _ wr hst2.out.dk).mono ?_
            rintro e w4 ⟨rfl, hd4, hk4⟩
            rw [hD5.out] at hd4
            have T4 := hTh.out.keep (keepF_fs (S := S) hk4)
            have O4 := hO.out.keep (keepF_fs (S := S) hk4)
            have hT4 := hT.out.step O4.bel
            replace hd4 := Aside0.mk hd4; replace hk4 := Aside0.mk hk4; replace T4 := Aside0.mk T4; replace O4 := Aside0.mk O4; replace hT4 := Aside0.mk hT4
            go_wp2_with fail
            with_reducible refine (Open_calls B K M D5 w4 hT4.out hd4.out hz0.out).mono ?_
            intro e w5 he
            obtain ⟨v7, rfl, hb5, _, hS7⟩ := he
            obtain ⟨S2, rfl, hS2, t5⟩ := hS7 (fun hh => hh.elim (fun h1 => by rw [hF5.out.len] at h1; exact absurd h1 (by decide)) (fun h1 => by rw [hF5.out.left] at h1; exact absurd h1 (by decide)))
            rw [if_neg (show ¬ D5.kept.length < 4 by rw [hF5.out.len]; decide), if_neg (show ¬ D5.left = 0 by rw [hF5.out.left]; decide)]
            rw [key.out.1] at t5
            have T5 := T4.out.below hb5
            have O5 := O4.out.below hb5
            obtain ⟨-, -, hD9⟩ := Kd.R_reads' T5.ra
            obtain ⟨-, -, hD10⟩ := Kd.R_reads' T5.rb
            obtain ⟨-, -, hD11⟩ := Kd.R_reads' T5.ri
            rw [List.length_map, hm.out] at hD9 hD10 hD11
            obtain ⟨a9, y9, x9⟩ := scal_at hD9 (i := j2) (by omega) (s := p.age) (by rw [List.getElem?_map, l2.out]; rfl)
            obtain ⟨a10, y10, x10⟩ := scal_at hD10 (i := j2) (by omega) (s := p.has) (by rw [List.getElem?_map, l2.out]; rfl)
            obtain ⟨ap, Ap, cp, yp, x11, _, hCp⟩ := img_at hD11 (i := j2) (by omega) (s := p.img) (by rw [List.getElem?_map, l2.out]; rfl)
            obtain rfl : ad = ap := Option.some.inj yp
            subst y9
            subst y10
            clear yp
            obtain ⟨pa, hpa⟩ : ∃ pa, p.age = pa := ⟨_, rfl⟩
            obtain ⟨ph, hph⟩ : ∃ ph, p.has = ph := ⟨_, rfl⟩
            obtain ⟨np, hnp⟩ : ∃ np, p.img.length = np := ⟨_, rfl⟩
            rw [hpa] at x9
            rw [hph] at x10
            rw [hnp] at x11 hCp
            have hsame : sameB p pa ph p.img = true := by rw [← hpa, ← hph]; simp [sameB]
            have hj2m : (j2 : Int) < (m : Int) := by omega
            have hj20 : (0 : Int) ≤ (j2 : Int) := by omega
            have hj2n : j2 < m := by omega
            have hw2 : IntKind.i64.wrap ((m : Int) - 2) = (j2 : Int) := by rw [IntKind.wrap_i64]; omega
            have hj2a : (0 : Int) ≤ (m : Int) - 2 := by omega
            have hj2b : (m : Int) - 2 < (m : Int) := by omega
            clear hj2a hj2b
            replace hj2 := Aside0.mk hj2
            replace t5 := Aside0.mk t5; replace hb5 := Aside0.mk hb5; replace T5 := Aside0.mk T5; replace O5 := Aside0.mk O5; replace hD9 := Aside0.mk hD9; replace hD10 := Aside0.mk hD10; replace hD11 := Aside0.mk hD11; replace hCp := Aside0.mk hCp; replace hpa := Aside0.mk hpa; replace hph := Aside0.mk hph; replace hnp := Aside0.mk hnp; replace hsame := Aside0.mk hsame
            go_wp2_with fail
            go_region_held3 (fun w' => w'.cell? (a9.add j2) = some (.int .i64 pa) ∧ w'.cell? (a10.add j2) = some (.bool ph) ∧ w'.cell? (ad.add j2) = some (.slice Ap np cp)) (first | (with_reducible exact ⟨x9, x10, x11⟩) | exact ⟨pw_cell_below hb6.out x9, pw_cell_below hb6.out x10, pw_cell_below hb6.out x11⟩ | go_keep)
              ((go_at_call 16; refine (same_calls S2 B K M D5 p pa ph Ap np cp p.img w5.drew (t5.out.below (below_drew (Below.refl _ _))) (Kd.C_below hCp.out (below_drew (Below.refl _ _)))).mono ?_; rintro e w6 ⟨rfl, hb6⟩; rw [hsame.out]; replace hb6 := Aside0.mk (below_undrew hb6)))
            have hd6 := (hd4.out.below hb5.out).below hb6.out
            have T6 := T5.out.below hb6.out
            have O6 := O5.out.below hb6.out
            have hD6 := key.out.2.1
            clear x9 x10 x11 hw2 hj2m hj20 hj2n
            replace hd6 := Aside0.mk hd6; replace T6 := Aside0.mk T6; replace O6 := Aside0.mk O6; replace hD6 := Aside0.mk hD6
            go_wp2_with fail
            with_reducible refine (Rot_calls B K M D5 _ _ w6 hd6.out).mono ?_
            rintro e w7 ⟨rfl, hd7, hk7⟩
            rw [hD6.out] at hd7
            have T7 := T6.out.keep (keepF_fs (S := S) hk7)
            have O7 := O6.out.keep (keepF_fs (S := S) hk7)
            have hT7 := hT.out.step O7.bel
            replace hd7 := Aside0.mk hd7; replace hk7 := Aside0.mk hk7; replace T7 := Aside0.mk T7; replace O7 := Aside0.mk O7; replace hT7 := Aside0.mk hT7
            go_wp2_with fail
            with_reducible refine (Open_calls B K M Dn w7 hT7.out hd7.out hz0.out).mono ?_
            intro e w8 he
            obtain ⟨S3, rfl, hS3, t8, hb8⟩ := open_post hI.out.r.inv he
            clear he
            have T8 := T7.out.below hb8
            have O8 := O7.out.below hb8
            have hE9 := (Kd.R_reads' T8.ra).2.2
            have hE10 := (Kd.R_reads' T8.rb).2.2
            have hE11 := (Kd.R_reads' T8.ri).2.2
            rw [List.length_map, hm.out] at hE9 hE10 hE11
            obtain ⟨b9, v9, x9⟩ := scal_at hE9 (i := j1) (by omega) (s := h.age) (by rw [List.getElem?_map, l1.out]; rfl)
            obtain ⟨b10, v10, x10⟩ := scal_at hE10 (i := j1) (by omega) (s := h.has) (by rw [List.getElem?_map, l1.out]; rfl)
            obtain ⟨bp, Bp, cq, vp, x11, _, hCq⟩ := img_at hE11 (i := j1) (by omega) (s := h.img) (by rw [List.getElem?_map, l1.out]; rfl)
            obtain rfl : a9 = b9 := Option.some.inj v9
            obtain rfl : a10 = b10 := Option.some.inj v10
            obtain rfl : ad = bp := Option.some.inj vp
            clear v9 v10 vp
            obtain ⟨ha, hha⟩ : ∃ ha, h.age = ha := ⟨_, rfl⟩
            obtain ⟨hh, hhh⟩ : ∃ hh, h.has = hh := ⟨_, rfl⟩
            rw [hha] at x9
            rw [hhh] at x10
            rw [hni.out] at x11 hCq
            have hsame2 : sameB h ha hh h.img = true := by rw [← hha, ← hhh]; simp [sameB]
            have hj1p : (0 : Int) ≤ (j1 : Int) := by omega
            have hj1n : j1 < m := by omega
            have hw1 : IntKind.i64.wrap ((m : Int) - 1) = (j1 : Int) := by rw [IntKind.wrap_i64]; omega
            have hj1' := Aside0.mk hj1
            clear hj1
            replace t8 := Aside0.mk t8; replace hb8 := Aside0.mk hb8; replace T8 := Aside0.mk T8; replace O8 := Aside0.mk O8; replace hE9 := Aside0.mk hE9; replace hE10 := Aside0.mk hE10; replace hE11 := Aside0.mk hE11; replace hCq := Aside0.mk hCq; replace hha := Aside0.mk hha; replace hhh := Aside0.mk hhh; replace hsame2 := Aside0.mk hsame2
            go_wp2_with fail
            go_region_held3 (fun w' => w'.cell? (a9.add j1) = some (.int .i64 ha) ∧ w'.cell? (a10.add j1) = some (.bool hh) ∧ w'.cell? (ad.add j1) = some (.slice Bp ni cq)) (first | (with_reducible exact ⟨x9, x10, x11⟩) | exact ⟨pw_cell_below hb9.out x9, pw_cell_below hb9.out x10, pw_cell_below hb9.out x11⟩ | go_keep)
              ((go_at_call 16; refine (same_calls S3 B K M Dn h ha hh Bp ni cq h.img w8.drew (t8.out.below (below_drew (Below.refl _ _))) (Kd.C_below hCq.out (below_drew (Below.refl _ _)))).mono ?_; rintro e w9 ⟨rfl, hb9⟩; rw [hsame2.out]; replace hb9 := Aside0.mk (below_undrew hb9)))
            go_wp2_with fail
            go_ret
            exact ⟨rfl, below_step O8.out.bel hb9.out⟩)
end Go.Proofs.YtiibfboendnifaaDoor.Sl
