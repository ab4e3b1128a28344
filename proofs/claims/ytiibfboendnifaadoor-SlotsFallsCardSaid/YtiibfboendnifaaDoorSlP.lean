/- SlotsBack: what was committed is found. -/
import Derived.Test.YtiibfboendnifaaDoorSlO
namespace Go.Proofs.YtiibfboendnifaaDoor.Sl
set_option linter.unusedVariables false
set_option linter.unusedSimpArgs false
open Go.RowKit Go.Proofs.Bk Go.Proofs.Bm Go.Proofs.Op Go.Proofs.YtiibfboendnifaaDoor.Dk Go.Proofs.YtiibfboendnifaaDoorW.PrintWords

theorem sameB_self (a : Int) (b : Bool) (l : List Int) : sameB ⟨a, b, l⟩ a b l = true := by simp [sameB]
theorem Inv.nohas {n : Nat} {D : Dsk} {a : Int} {l : List Int} (I : Inv n D ⟨a, false, l⟩) : l = [] := by
  rcases I.cur with ⟨h, _⟩ | ⟨s, _, hh, _⟩
  · injection h
  · apply List.eq_nil_of_length_eq_zero
    apply Decidable.byContradiction
    intro hc
    have : (0 : Nat) < (⟨a, false, l⟩ : Hd).img.length := by show 0 < l.length; omega
    have := hh.has this
    cases this
theorem Inv.age0 {n : Nat} {D : Dsk} {h : Hd} (I : Inv n D h) : 0 ≤ h.age := by
  rcases I.cur with ⟨rfl, _⟩ | ⟨s, _, hh, _⟩
  · exact Int.le_refl _
  · have := hh.age; omega

set_option maxHeartbeats 8000000 in
set_option maxRecDepth 100000 in
theorem SlotsBack_calls (w : World) (hT0 : Tab w) (A0 : Option Addr) (n c0 : Nat) (l : List OpM) (hr0 : kOp.C w A0 n l) (hc0 : n ≤ c0) (ho0 : ∀ x ∈ l, okOp x) :
    Calls Tryd.prog 3 #[.slice A0 n c0] w (OkPost w) := by
  have h0 := zero_lt_tab hT0
  have hb0 : Aside0 (∀ o ∈ l, ∀ x ∈ o.b, 0 ≤ x ∧ x ≤ 255) := ⟨fun o ho x hx => wf_u8 ((ho0 o ho).2.2.2.1 x hx)⟩
  have hnl : Aside0 (l.length = n) := ⟨hr0.1⟩
  have hn := hr0.2.1
  obtain ⟨D0, hD0⟩ : ∃ D0, D0 = (⟨List.replicate 40 zeros, [], -1⟩ : Dsk) := ⟨_, rfl⟩
  have eN : (⟨List.replicate (max 0 (min (40 : Int) 512)).toNat zeros, [], -1⟩ : Dsk) = D0 := by rw [hD0]; rfl
  have I0 : Inv 40 D0 hd0 := by rw [hD0]; exact inv_new 40 (by decide) (by decide)
  have hT := Aside0.mk hT0
  have HR := Aside0.mk hr0
  clear hr0 hc0 ho0 hT0
  replace hD0 := Aside0.mk hD0; replace eN := Aside0.mk eN; replace I0 := Aside0.mk I0
  go_enter Tryd.func3, Tryd.ntmps3
  go_wp2_with fail
  with_reducible refine (awake_calls w hT.out).mono ?_
  rintro e wa ⟨rfl, hBa⟩
  replace hBa := Aside0.mk hBa
  go_wp2_with fail
  with_reducible refine (few_calls A0 n c0 l _ (Kd.C_below HR.out hBa.out)).mono ?_
  rintro e w' ⟨⟨bf, rfl, hbf⟩, rfl⟩
  cases bf with
  | false =>
    go_wp2_with fail
    go_ret
    exact ⟨rfl, hBa.out⟩
  | true =>
    have hfew := Aside0.mk (hbf rfl)
    clear hbf
    have hn20 : n ≤ 20 := by have := hfew.out.n; rw [hnl.out] at this; exact this
    go_wp2_with fail
    with_reducible refine (New_calls 40 wa).mono ?_
    rintro e w1 ⟨B, K, M, rfl, h1, hB1, hK1, hM1, hbel1⟩
    rw [eN.out] at h1
    have hbel := below_step hBa.out hbel1
    have hwa := hBa.out.size
    have hT1 := hT.out.step hbel
    have hz0 : ¬ FD B K M 0 := by unfold FD; omega
    have hB2 : w.heap.size ≤ B ∧ w.heap.size ≤ K ∧ w.heap.size ≤ M := by omega
    clear hB1 hK1 hM1 hwa
    replace h1 := Aside0.mk h1; replace hbel := Aside0.mk hbel; replace hbel1 := Aside0.mk hbel1; replace hT1 := Aside0.mk hT1; replace hz0 := Aside0.mk hz0; replace hB2 := Aside0.mk hB2
    go_wp2_with fail
    with_reducible refine (Open_calls B K M D0 w1 hT1.out h1.out hz0.out).mono ?_
    intro e w2 he
    obtain ⟨S, rfl, hS, s2, hb2⟩ := open_post I0.out he
    clear he
    have O2 : OldS w w2 S B K M := ⟨below_step hbel.out hb2, Nat.le_trans hbel.out.size hS, hB2.out.1, hB2.out.2.1, hB2.out.2.2⟩
    replace s2 := Aside0.mk s2; replace hb2 := Aside0.mk hb2; replace O2 := Aside0.mk O2
    go_wp2_with (go_at_call 13; refine (Age_calls S B K M D0 hd0 w2 s2.out).mono ?_; rintro e w' ⟨rfl, rfl⟩; rw [show hd0.age = 0 from rfl])
    go_loopw [8, 9, 10, 11] (fun t8 t9 t10 t11 wr => ∃ (k : Nat) (a : Int) (hs : Bool) (A : Option Addr) (m c : Nat) (img : List Int) (Dn : Dsk), t8 = .int .i64 a ∧ t9 = .bool hs ∧ t10 = .slice A m c ∧ t11 = .int .i64 k ∧ k ≤ n ∧ a ≤ k ∧
        Aside0 (Sto wr S B K M Dn ⟨a, hs, img⟩) ∧ Aside0 (Inv 40 Dn ⟨a, hs, img⟩) ∧ Aside0 (OldS w wr S B K M) ∧ Aside0 ((Kd.int .u8).C w A m img))
      (fun _ _ _ t11 _ => n - (intOf t11).toNat)
    case atStart => exact ⟨0, 0, false, none, 0, 0, [], D0, rfl, rfl, rfl, rfl, Nat.zero_le _, Int.le_refl _, s2, I0, O2, ⟨Kd.C_nil _ _⟩⟩
    case round =>
      obtain ⟨k, a, hs, A, m, c, img, Dn, rfl, rfl, rfl, rfl, hk, hak, hst, hI, hO, hCi⟩ := hrel
      by_cases hlt : k < n
      · have p1 : 0 ≤ (k : Int) := by omega
        have q1 : (k : Int) < (n : Int) := by omega
        obtain ⟨ad, o, A1, c1, A2, c2, rfl, ho, hat, hcs⟩ := ops_at HR.out hlt
        have hcs' : ∀ i u, (opCells o A1 c1 A2 c2)[i]? = some u → ∀ W, Below w.heap.size w W → W.cell? (ad.add (k * 5 + i)) = some u := fun i u hu W hb => pw_cell_below hb (hcs i u hu)
        have x0 : wr.cell? (ad.add (k * 5)) = some (.int .i64 o.k) := hcs' 0 _ rfl _ hO.out.bel
        have x3 : wr.cell? ⟨(ad.add (k * 5)).block, (ad.add (k * 5)).off + 3, none⟩ = some (.slice A1 o.b.length c1) := by rw [add_field _ _ _ (by omega)]; exact hcs' 3 _ rfl _ hO.out.bel
        have hmem := List.mem_of_getElem? ho
        have hb400 := hfew.out.b o hmem
        have hbr := Aside0.mk (hb0.out o hmem)
        have hCo : Aside0 ((Kd.int .u8).C w A1 o.b.length o.b) := ⟨hat.1⟩
        have ha0 : 0 ≤ a := hI.out.age0
        have hhf : halfOf Dn = 19 := fine_half hI.out.fine
        have h4n : 4 ≤ Dn.kept.length := by rw [hI.out.fine.len]; decide
        obtain ⟨kv, hkv⟩ : ∃ kv, o.k = kv := ⟨_, rfl⟩
        obtain ⟨nb, hnb⟩ : ∃ nb, o.b.length = nb := ⟨_, rfl⟩
        rw [hkv] at x0
        rw [hnb] at x3 hCo hb400
        by_cases k1 : kv = 1
        · subst k1
          obtain ⟨D2, e1, I2, hw2, hh2⟩ := commit_fine hI.out o.b hbr.out (by rw [hnb, hhf]; omega) (by rw [hhf]; decide) (by show a < _; omega)
          dsimp only at e1 I2
          have hTr := hT.out.step hO.out.bel
          have hCr := Kd.C_below hCo.out hO.out.bel
          replace hcs := Aside0.mk hcs; replace hcs' := Aside0.mk hcs'; replace ho := Aside0.mk ho; replace hat := Aside0.mk hat; replace hmem := Aside0.mk hmem; replace hhf := Aside0.mk hhf; replace h4n := Aside0.mk h4n; replace hkv := Aside0.mk hkv; replace hnb := Aside0.mk hnb; replace e1 := Aside0.mk e1; replace I2 := Aside0.mk I2; replace hw2 := Aside0.mk hw2; replace hh2 := Aside0.mk hh2; replace hTr := Aside0.mk hTr; replace hCr := Aside0.mk hCr
          go_wp2_with fail
          with_reducible refine (Commit_calls S B K M Dn ⟨a, hs, img⟩ A1 nb c1 o.b wr hTr.out hst.out h4n.out hCr.out hbr.out).mono ?_
          rintro e w4 ⟨rfl, s4, k4⟩
          rw [e1.out] at s4 ⊢
          have O4 := hO.out.keep k4
          have y3 : w4.cell? ⟨(ad.add (k * 5)).block, (ad.add (k * 5)).off + 3, none⟩ = some (.slice A1 nb c1) := by rw [add_field _ _ _ (by omega), ← hnb.out]; exact hcs'.out 3 _ rfl _ O4.bel
          have y0 : w4.cell? (ad.add (k * 5)) = some (.int .i64 1) := by rw [← hkv.out]; exact hcs'.out 0 _ rfl _ O4.bel
          clear x0 x3
          replace s4 := Aside0.mk s4; replace k4 := Aside0.mk k4; replace O4 := Aside0.mk O4
          go_wp2_with fail
          have hT5 := hT.out.step O4.out.bel
          with_reducible refine (Open_calls B K M D2 w4 hT5 s4.out.dk hz0.out).mono ?_
          intro e w5 he
          obtain ⟨S2, rfl, hS2, t5, hb5⟩ := open_post I2.out he
          clear he
          have s5 := s4.out.below hb5
          have O5 := O4.out.below hb5
          have hCi5 := Kd.C_below hCo.out O5.bel
          replace t5 := Aside0.mk t5; replace hb5 := Aside0.mk hb5; replace s5 := Aside0.mk s5; replace O5 := Aside0.mk O5; replace hCi5 := Aside0.mk hCi5; replace hT5 := Aside0.mk hT5
          go_wp2_with fail
          with_reducible refine (same_calls S B K M D2 ⟨a + 1, true, o.b⟩ _ _ _ _ _ _ w5 s5.out hCi5.out).mono ?_
          rintro e w6 ⟨rfl, hb6⟩
          rw [sameB_self]
          have t6 := t5.out.below hb6
          have s6 := s5.out.below hb6
          have O6 := O5.out.below hb6
          have hCi6 := Kd.C_below hCo.out O6.bel
          replace t6 := Aside0.mk t6; replace hb6 := Aside0.mk hb6; replace s6 := Aside0.mk s6; replace O6 := Aside0.mk O6; replace hCi6 := Aside0.mk hCi6
          go_wp2_with fail
          with_reducible refine (same_calls S2 B K M D2 ⟨a + 1, true, o.b⟩ _ _ _ _ _ _ w6 t6.out hCi6.out).mono ?_
          rintro e w7 ⟨rfl, hb7⟩
          rw [sameB_self]
          have s7 := s6.out.below hb7
          have O7 := O6.out.below hb7
          replace hb7 := Aside0.mk hb7; replace s7 := Aside0.mk s7; replace O7 := Aside0.mk O7
          go_wp2_with fail
          go_roundw
          case measure => show n - ((k : Int) + 1).toNat < n - (k : Int).toNat; omega
          case rel => exact ⟨k + 1, a + 1, true, A1, nb, c1, o.b, D2, rfl, rfl, rfl, by simp, by omega, by omega, s7, I2, O7, hCo⟩
        · by_cases k2 : kv = 2
          · subst k2
            cases hs with
            | true =>
              obtain ⟨D2, e1, I2, hw2, hh2⟩ := delete_fine hI.out rfl (by show a < _; omega)
              dsimp only at e1 I2
              have hTr := hT.out.step hO.out.bel
              have hCn : Aside0 ((Kd.int .u8).C w none 0 []) := ⟨Kd.C_nil _ _⟩
              replace hcs := Aside0.mk hcs; replace hcs' := Aside0.mk hcs'; replace ho := Aside0.mk ho; replace hat := Aside0.mk hat; replace hmem := Aside0.mk hmem; replace hhf := Aside0.mk hhf; replace h4n := Aside0.mk h4n; replace hkv := Aside0.mk hkv; replace hnb := Aside0.mk hnb; replace e1 := Aside0.mk e1; replace I2 := Aside0.mk I2; replace hw2 := Aside0.mk hw2; replace hh2 := Aside0.mk hh2; replace hTr := Aside0.mk hTr
              go_wp2_with fail
              with_reducible refine (Delete_calls S B K M Dn ⟨a, true, img⟩ wr hTr.out hst.out).mono ?_
              rintro e w4 ⟨rfl, s4, k4⟩
              rw [e1.out] at s4 ⊢
              have O4 := hO.out.keep k4
              clear x0 x3
              replace s4 := Aside0.mk s4; replace k4 := Aside0.mk k4; replace O4 := Aside0.mk O4
              go_wp2_with fail
              have hT5 := hT.out.step O4.out.bel
              with_reducible refine (Open_calls B K M D2 w4 hT5 s4.out.dk hz0.out).mono ?_
              intro e w5 he
              obtain ⟨S2, rfl, hS2, t5, hb5⟩ := open_post I2.out he
              clear he
              have s5 := s4.out.below hb5
              have O5 := O4.out.below hb5
              have hCi5 := Kd.C_below hCn.out O5.bel
              replace t5 := Aside0.mk t5; replace hb5 := Aside0.mk hb5; replace s5 := Aside0.mk s5; replace O5 := Aside0.mk O5; replace hCi5 := Aside0.mk hCi5; replace hT5 := Aside0.mk hT5
              go_wp2_with fail
              with_reducible refine (same_calls S B K M D2 ⟨a + 1, false, []⟩ _ _ _ _ _ _ w5 s5.out hCi5.out).mono ?_
              rintro e w6 ⟨rfl, hb6⟩
              rw [sameB_self]
              have t6 := t5.out.below hb6
              have s6 := s5.out.below hb6
              have O6 := O5.out.below hb6
              have hCi6 := Kd.C_below hCn.out O6.bel
              replace t6 := Aside0.mk t6; replace hb6 := Aside0.mk hb6; replace s6 := Aside0.mk s6; replace O6 := Aside0.mk O6; replace hCi6 := Aside0.mk hCi6
              go_wp2_with fail
              with_reducible refine (same_calls S2 B K M D2 ⟨a + 1, false, []⟩ _ _ _ _ _ _ w6 t6.out hCi6.out).mono ?_
              rintro e w7 ⟨rfl, hb7⟩
              rw [sameB_self]
              have s7 := s6.out.below hb7
              have O7 := O6.out.below hb7
              replace hb7 := Aside0.mk hb7; replace s7 := Aside0.mk s7; replace O7 := Aside0.mk O7
              go_wp2_with fail
              go_roundw
              case measure => show n - ((k : Int) + 1).toNat < n - (k : Int).toNat; omega
              case rel => exact ⟨k + 1, a + 1, false, none, 0, 0, [], D2, rfl, rfl, rfl, by simp, by omega, by omega, s7, I2, O7, hCn⟩
            | false =>
              obtain rfl := hI.out.nohas
              have e1 : deleteOf Dn ⟨a, false, []⟩ = (8, Dn, ⟨a, false, []⟩) := rfl
              have hTr := hT.out.step hO.out.bel
              have hCn : Aside0 ((Kd.int .u8).C w none 0 []) := ⟨Kd.C_nil _ _⟩
              replace hcs := Aside0.mk hcs; replace hcs' := Aside0.mk hcs'; replace ho := Aside0.mk ho; replace hat := Aside0.mk hat; replace hmem := Aside0.mk hmem; replace hhf := Aside0.mk hhf; replace h4n := Aside0.mk h4n; replace hkv := Aside0.mk hkv; replace hnb := Aside0.mk hnb; replace e1 := Aside0.mk e1; replace hTr := Aside0.mk hTr
              go_wp2_with fail
              with_reducible refine (Delete_calls S B K M Dn ⟨a, false, []⟩ wr hTr.out hst.out).mono ?_
              rintro e w4 ⟨rfl, s4, k4⟩
              rw [e1.out] at s4 ⊢
              have O4 := hO.out.keep k4
              clear x0 x3
              replace s4 := Aside0.mk s4; replace k4 := Aside0.mk k4; replace O4 := Aside0.mk O4
              go_wp2_with fail
              have hT5 := hT.out.step O4.out.bel
              with_reducible refine (Open_calls B K M Dn w4 hT5 s4.out.dk hz0.out).mono ?_
              intro e w5 he
              obtain ⟨S2, rfl, hS2, t5, hb5⟩ := open_post hI.out he
              clear he
              have s5 := s4.out.below hb5
              have O5 := O4.out.below hb5
              have hCi5 := Kd.C_below hCn.out O5.bel
              replace t5 := Aside0.mk t5; replace hb5 := Aside0.mk hb5; replace s5 := Aside0.mk s5; replace O5 := Aside0.mk O5; replace hCi5 := Aside0.mk hCi5; replace hT5 := Aside0.mk hT5
              go_wp2_with fail
              with_reducible refine (same_calls S B K M Dn ⟨a, false, []⟩ _ _ _ _ _ _ w5 s5.out hCi5.out).mono ?_
              rintro e w6 ⟨rfl, hb6⟩
              rw [sameB_self]
              have t6 := t5.out.below hb6
              have s6 := s5.out.below hb6
              have O6 := O5.out.below hb6
              have hCi6 := Kd.C_below hCn.out O6.bel
              replace t6 := Aside0.mk t6; replace hb6 := Aside0.mk hb6; replace s6 := Aside0.mk s6; replace O6 := Aside0.mk O6; replace hCi6 := Aside0.mk hCi6
              go_wp2_with fail
              with_reducible refine (same_calls S2 B K M Dn ⟨a, false, []⟩ _ _ _ _ _ _ w6 t6.out hCi6.out).mono ?_
              rintro e w7 ⟨rfl, hb7⟩
              rw [sameB_self]
              have s7 := s6.out.below hb7
              have O7 := O6.out.below hb7
              replace hb7 := Aside0.mk hb7; replace s7 := Aside0.mk s7; replace O7 := Aside0.mk O7
              go_wp2_with fail
              go_roundw
              case measure => show n - ((k : Int) + 1).toNat < n - (k : Int).toNat; omega
              case rel => exact ⟨k + 1, a, false, none, 0, 0, [], Dn, rfl, rfl, rfl, by simp, by omega, by omega, s7, hI, O7, hCn⟩
          · have t1 : (kv == 1) = false := by simpa using k1
            have t2 : (kv == 2) = false := by simpa using k2
            replace hcs := Aside0.mk hcs; replace hcs' := Aside0.mk hcs'; replace ho := Aside0.mk ho; replace hat := Aside0.mk hat; replace hmem := Aside0.mk hmem; replace hhf := Aside0.mk hhf; replace h4n := Aside0.mk h4n; replace hkv := Aside0.mk hkv; replace hnb := Aside0.mk hnb
            clear k1 k2
            go_wp2_with fail
            have hT5 := hT.out.step hO.out.bel
            with_reducible refine (Open_calls B K M Dn wr hT5 hst.out.dk hz0.out).mono ?_
            intro e w5 he
            obtain ⟨S2, rfl, hS2, t5, hb5⟩ := open_post hI.out he
            clear he
            have s5 := hst.out.below hb5
            have O5 := hO.out.below hb5
            have hCi5 := Kd.C_below hCi.out O5.bel
            replace t5 := Aside0.mk t5; replace hb5 := Aside0.mk hb5; replace s5 := Aside0.mk s5; replace O5 := Aside0.mk O5; replace hCi5 := Aside0.mk hCi5; replace hT5 := Aside0.mk hT5
            go_wp2_with fail
            with_reducible refine (same_calls S B K M Dn ⟨a, hs, img⟩ _ _ _ _ _ _ w5 s5.out hCi5.out).mono ?_
            rintro e w6 ⟨rfl, hb6⟩
            rw [sameB_self]
            have t6 := t5.out.below hb6
            have s6 := s5.out.below hb6
            have O6 := O5.out.below hb6
            have hCi6 := Kd.C_below hCi.out O6.bel
            replace t6 := Aside0.mk t6; replace hb6 := Aside0.mk hb6; replace s6 := Aside0.mk s6; replace O6 := Aside0.mk O6; replace hCi6 := Aside0.mk hCi6
            go_wp2_with fail
            with_reducible refine (same_calls S2 B K M Dn ⟨a, hs, img⟩ _ _ _ _ _ _ w6 t6.out hCi6.out).mono ?_
            rintro e w7 ⟨rfl, hb7⟩
            rw [sameB_self]
            have s7 := s6.out.below hb7
            have O7 := O6.out.below hb7
            replace hb7 := Aside0.mk hb7; replace s7 := Aside0.mk s7; replace O7 := Aside0.mk O7
            go_wp2_with fail
            go_roundw
            case measure => show n - ((k : Int) + 1).toNat < n - (k : Int).toNat; omega
            case rel => exact ⟨k + 1, a, hs, A, m, c, img, Dn, rfl, rfl, rfl, by simp, by omega, by omega, s7, hI, O7, hCi⟩
      · go_wp2_with fail
        go_ret
        exact ⟨rfl, hO.out.bel⟩
end Go.Proofs.YtiibfboendnifaaDoor.Sl
