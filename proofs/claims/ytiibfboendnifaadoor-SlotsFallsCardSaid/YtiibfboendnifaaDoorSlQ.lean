/- walked: a store behind commits and deletes. -/
import Derived.Test.YtiibfboendnifaaDoorSlP
namespace Go.Proofs.YtiibfboendnifaaDoor.Sl
set_option linter.unusedVariables false
set_option linter.unusedSimpArgs false
open Go.RowKit Go.Proofs.Bk Go.Proofs.Bm Go.Proofs.Op Go.Proofs.YtiibfboendnifaaDoor.Dk Go.Proofs.YtiibfboendnifaaDoorW.PrintWords

theorem OldS.cg {α : Type} {enc : α → Value} {h1 : ∀ x, (enc x).oneCell' = true} {w0 w : World} {S B K M : Nat} {A : Option Addr} {n : Nat} {xs : List α} (h : OldS w0 w S B K M) (hr : (Kd.scalar enc h1).C w0 A n xs) : CG (Kd.scalar enc h1) (FD B K M) w A n xs := by
  refine ⟨Kd.C_below hr h.bel, fun ad e hn hg => ?_⟩
  subst e
  have := row_old hr hn
  have := h.b; have := h.k; have := h.m
  unfold FD at hg; omega
theorem OldS.back {w0 w1 w : World} {S B K M : Nat} (h : OldS w1 w S B K M) (hb : Below w0.heap.size w0 w1) : OldS w0 w S B K M :=
  ⟨below_step hb h.bel, Nat.le_trans hb.size h.s, Nat.le_trans hb.size h.b, Nat.le_trans hb.size h.k, Nat.le_trans hb.size h.m⟩

def WalkedPost (w : World) (e : Ending) (w' : World) : Prop :=
  ∃ S B K M D h, e = .returned (.tuple #[.pointer (some ⟨B, 0, none⟩), .pointer (some ⟨S, 0, none⟩)]) ∧ Sto w' S B K M D h ∧ Inv 40 D h ∧ D.waits = [] ∧ OldS w w' S B K M ∧ h.age ≤ 20

set_option maxHeartbeats 8000000 in
set_option maxRecDepth 100000 in
theorem walked_calls (w : World) (hT0 : Tab w) (A0 : Option Addr) (n c0 : Nat) (l : List OpM) (hr0 : kOp.C w A0 n l) (hb0 : ∀ o ∈ l, ∀ x ∈ o.b, 0 ≤ x ∧ x ≤ 255) (hf0 : FewOk l) :
    Calls Tryd.prog 21 #[.slice A0 n c0] w (WalkedPost w) := by
  have h0 := zero_lt_tab hT0
  have hnl : Aside0 (l.length = n) := ⟨hr0.1⟩
  have hn := hr0.2.1
  have hn20 : n ≤ 20 := by have := hf0.n; rw [hnl.out] at this; exact this
  obtain ⟨D0, hD0⟩ : ∃ D0, D0 = (⟨List.replicate 40 zeros, [], -1⟩ : Dsk) := ⟨_, rfl⟩
  have eN : (⟨List.replicate (max 0 (min (40 : Int) 512)).toNat zeros, [], -1⟩ : Dsk) = D0 := by rw [hD0]; rfl
  have I0 : Inv 40 D0 hd0 := by rw [hD0]; exact inv_new 40 (by decide) (by decide)
  have w0 : D0.waits = [] := by rw [hD0]
  have hT := Aside0.mk hT0
  have HR := Aside0.mk hr0
  have hfew := Aside0.mk hf0
  replace hb0 := Aside0.mk hb0
  clear hr0 hT0 hf0
  replace hD0 := Aside0.mk hD0; replace eN := Aside0.mk eN; replace I0 := Aside0.mk I0; replace w0 := Aside0.mk w0
  go_enter Tryd.func21, Tryd.ntmps21
  go_wp2_with fail
  with_reducible refine (New_calls 40 w).mono ?_
  rintro e w1 ⟨B, K, M, rfl, h1, hB1, hK1, hM1, hbel⟩
  rw [eN.out] at h1
  have hT1 := hT.out.step hbel
  have hz0 : ¬ FD B K M 0 := by unfold FD; omega
  have hB2 : w.heap.size ≤ B ∧ w.heap.size ≤ K ∧ w.heap.size ≤ M := by omega
  clear hB1 hK1 hM1
  replace h1 := Aside0.mk h1; replace hbel := Aside0.mk hbel; replace hT1 := Aside0.mk hT1; replace hz0 := Aside0.mk hz0; replace hB2 := Aside0.mk hB2
  go_wp2_with fail
  with_reducible refine (Open_calls B K M D0 w1 hT1.out h1.out hz0.out).mono ?_
  intro e w2 he
  obtain ⟨S, rfl, hS, s2, hb2⟩ := open_post I0.out he
  clear he
  have O2 : OldS w w2 S B K M := ⟨below_step hbel.out hb2, Nat.le_trans hbel.out.size hS, hB2.out.1, hB2.out.2.1, hB2.out.2.2⟩
  replace s2 := Aside0.mk s2; replace hb2 := Aside0.mk hb2; replace O2 := Aside0.mk O2
  go_wp2_with fail
  go_loopw [7] (fun t7 wr => ∃ (k : Nat) (h : Hd) (Dn : Dsk), t7 = .int .i64 k ∧ k ≤ n ∧ h.age ≤ k ∧ Aside0 (Sto wr S B K M Dn h) ∧ Aside0 (Inv 40 Dn h) ∧ Aside0 (Dn.waits = []) ∧ Aside0 (OldS w wr S B K M))
    (fun t7 _ => n - (intOf t7).toNat)
  case atStart => exact ⟨0, hd0, D0, rfl, Nat.zero_le _, Int.le_refl _, s2, I0, w0, O2⟩
  case round =>
    obtain ⟨k, h, Dn, rfl, hk, hak, hst, hI, hW, hO⟩ := hrel
    by_cases hlt : k < n
    · have p1 : 0 ≤ (k : Int) := by omega
      have q1 : (k : Int) < (n : Int) := by omega
      obtain ⟨ad, o, A1, c1, A2, c2, rfl, ho, hat, hcs⟩ := ops_at HR.out hlt
      have hcs' : ∀ i u, (opCells o A1 c1 A2 c2)[i]? = some u → ∀ W, Below w.heap.size w W → W.cell? (ad.add (k * 5 + i)) = some u := fun i u hu W hb => pw_cell_below hb (hcs i u hu)
      have x0 : wr.cell? (ad.add (k * 5)) = some (.int .i64 o.k) := hcs' 0 _ rfl _ hO.out.bel
      have x3 : wr.cell? ⟨(ad.add (k * 5)).block, (ad.add (k * 5)).off + 3, none⟩ = some (.slice A1 o.b.length c1) := by rw [add_field _ _ _ (by omega)]; exact hcs' 3 _ rfl _ hO.out.bel
      have hmem := List.mem_of_getElem? ho
      have hb400 := hfew.out.b o hmem
      have hbr := Aside0.mk (hb0.out o hmem)
      have hCo : Aside0 ((Kd.int .u8).C w A1 o.b.length o.b) := ⟨hat.1⟩
      have ha0 : 0 ≤ h.age := hI.out.age0
      have hhf : halfOf Dn = 19 := fine_half hI.out.fine
      have h4n : 4 ≤ Dn.kept.length := by rw [hI.out.fine.len]; decide
      obtain ⟨kv, hkv⟩ : ∃ kv, o.k = kv := ⟨_, rfl⟩
      obtain ⟨nb, hnb⟩ : ∃ nb, o.b.length = nb := ⟨_, rfl⟩
      rw [hkv] at x0
      rw [hnb] at x3 hCo hb400
      by_cases k1 : kv = 1
      · subst k1
        obtain ⟨D2, e1, I2, hw2, hh2⟩ := commit_fine hI.out o.b hbr.out (by rw [hnb, hhf]; omega) (by rw [hhf]; decide) (by omega)
        have hTr := hT.out.step hO.out.bel
        have hCr := Kd.C_below hCo.out hO.out.bel
        have hag : (⟨h.age + 1, true, o.b⟩ : Hd).age ≤ (k : Int) + 1 := by show h.age + 1 ≤ _; omega
        replace hcs := Aside0.mk hcs; replace hcs' := Aside0.mk hcs'; replace ho := Aside0.mk ho; replace hat := Aside0.mk hat; replace hmem := Aside0.mk hmem; replace hhf := Aside0.mk hhf; replace h4n := Aside0.mk h4n; replace hkv := Aside0.mk hkv; replace hnb := Aside0.mk hnb; replace e1 := Aside0.mk e1; replace I2 := Aside0.mk I2; replace hw2 := Aside0.mk hw2; replace hh2 := Aside0.mk hh2; replace hTr := Aside0.mk hTr; replace hCr := Aside0.mk hCr; replace hag := Aside0.mk hag
        go_wp2_with fail
        with_reducible refine (Commit_calls S B K M Dn h A1 nb c1 o.b wr hTr.out hst.out h4n.out hCr.out hbr.out).mono ?_
        rintro e w4 ⟨rfl, s4, k4⟩
        rw [e1.out] at s4 ⊢
        have O4 := hO.out.keep k4
        have y0 : w4.cell? (ad.add (k * 5)) = some (.int .i64 1) := by rw [← hkv.out]; exact hcs'.out 0 _ rfl _ O4.bel
        clear x0 x3
        replace s4 := Aside0.mk s4; replace k4 := Aside0.mk k4; replace O4 := Aside0.mk O4
        go_wp2_with fail
        go_roundw
        case measure => show n - ((k : Int) + 1).toNat < n - (k : Int).toNat; omega
        case rel => exact ⟨k + 1, _, D2, by simp, by omega, by show h.age + 1 ≤ _; omega, s4, I2, hw2, O4⟩
      · by_cases k2 : kv = 2
        · subst k2
          have hTr := hT.out.step hO.out.bel
          cases hs : h.has with
          | true =>
            obtain ⟨D2, e1, I2, hw2, hh2⟩ := delete_fine hI.out hs (by omega)
            have hag : (⟨h.age + 1, false, []⟩ : Hd).age ≤ (k : Int) + 1 := by show h.age + 1 ≤ _; omega
            replace hcs := Aside0.mk hcs; replace hcs' := Aside0.mk hcs'; replace ho := Aside0.mk ho; replace hat := Aside0.mk hat; replace hmem := Aside0.mk hmem; replace hhf := Aside0.mk hhf; replace h4n := Aside0.mk h4n; replace hkv := Aside0.mk hkv; replace hnb := Aside0.mk hnb; replace e1 := Aside0.mk e1; replace I2 := Aside0.mk I2; replace hw2 := Aside0.mk hw2; replace hh2 := Aside0.mk hh2; replace hTr := Aside0.mk hTr; replace hag := Aside0.mk hag; replace hs := Aside0.mk hs
            go_wp2_with fail
            with_reducible refine (Delete_calls S B K M Dn h wr hTr.out hst.out).mono ?_
            rintro e w4 ⟨rfl, s4, k4⟩
            rw [e1.out] at s4 ⊢
            have O4 := hO.out.keep k4
            clear x0 x3
            replace s4 := Aside0.mk s4; replace k4 := Aside0.mk k4; replace O4 := Aside0.mk O4
            go_wp2_with fail
            go_roundw
            case measure => show n - ((k : Int) + 1).toNat < n - (k : Int).toNat; omega
            case rel => exact ⟨k + 1, _, D2, by simp, by omega, by show h.age + 1 ≤ _; omega, s4, I2, hw2, O4⟩
          | false =>
            have e1 : deleteOf Dn h = (8, Dn, h) := by unfold deleteOf; rw [if_pos hs]
            replace hcs := Aside0.mk hcs; replace hcs' := Aside0.mk hcs'; replace ho := Aside0.mk ho; replace hat := Aside0.mk hat; replace hmem := Aside0.mk hmem; replace hhf := Aside0.mk hhf; replace h4n := Aside0.mk h4n; replace hkv := Aside0.mk hkv; replace hnb := Aside0.mk hnb; replace e1 := Aside0.mk e1; replace hTr := Aside0.mk hTr; replace hs := Aside0.mk hs
            go_wp2_with fail
            with_reducible refine (Delete_calls S B K M Dn h wr hTr.out hst.out).mono ?_
            rintro e w4 ⟨rfl, s4, k4⟩
            rw [e1.out] at s4 ⊢
            have O4 := hO.out.keep k4
            clear x0 x3
            replace s4 := Aside0.mk s4; replace k4 := Aside0.mk k4; replace O4 := Aside0.mk O4
            go_wp2_with fail
            go_roundw
            case measure => show n - ((k : Int) + 1).toNat < n - (k : Int).toNat; omega
            case rel => exact ⟨k + 1, h, Dn, by simp, by omega, by omega, s4, hI, hW, O4⟩
        · have t1 : (kv == 1) = false := by simpa using k1
          have t2 : (kv == 2) = false := by simpa using k2
          replace hcs := Aside0.mk hcs; replace hcs' := Aside0.mk hcs'; replace ho := Aside0.mk ho; replace hat := Aside0.mk hat; replace hmem := Aside0.mk hmem; replace hhf := Aside0.mk hhf; replace h4n := Aside0.mk h4n; replace hkv := Aside0.mk hkv; replace hnb := Aside0.mk hnb
          clear k1 k2
          go_wp2_with fail
          go_roundw
          case measure => show n - ((k : Int) + 1).toNat < n - (k : Int).toNat; omega
          case rel => exact ⟨k + 1, h, Dn, by simp, by omega, by omega, hst, hI, hW, hO⟩
    · have hag : h.age ≤ 20 := by omega
      replace hag := Aside0.mk hag
      go_wp2_with fail
      go_ret2
      exact ⟨S, B, K, M, Dn, h, rfl, hst.out, hI.out, hW.out, hO.out, hag.out⟩
end Go.Proofs.YtiibfboendnifaaDoor.Sl
