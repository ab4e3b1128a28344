/- SlotsRefuses: what is too long is refused. -/
import Derived.Test.YtiibfboendnifaaDoorSlQ
namespace Go.Proofs.YtiibfboendnifaaDoor.Sl
set_option linter.unusedVariables false
set_option linter.unusedSimpArgs false
open Go.RowKit Go.Proofs.Bk Go.Proofs.Bm Go.Proofs.Op Go.Proofs.YtiibfboendnifaaDoor.Dk Go.Proofs.YtiibfboendnifaaDoorW.PrintWords

def fillTo (x : Int) (m k : Nat) : List Int := List.replicate k x ++ List.replicate (m - k) 0
theorem fill_len (x : Int) (m k : Nat) (h : k ≤ m) : (fillTo x m k).length = m := by unfold fillTo; simp; omega
theorem fill_step (x : Int) (m k : Nat) (h : k < m) : (fillTo x m k).set k x = fillTo x m (k + 1) := by
  unfold fillTo
  rw [List.set_append_right _ _ (by simp)]
  obtain ⟨j, hj⟩ : ∃ j, m - k = j + 1 := ⟨m - k - 1, by omega⟩
  rw [show m - (k + 1) = j by omega, hj, List.length_replicate, Nat.sub_self, List.replicate_succ, List.set_cons_zero, List.replicate_succ', List.append_assoc]
  rfl
theorem fill_all (x : Int) (m : Nat) : fillTo x m m = List.replicate m x := by unfold fillTo; simp
theorem sameB_of (a : Int) (b : Bool) (l : List Int) (h : Hd) (he : h = ⟨a, b, l⟩) : sameB h a b l = true := by subst he; exact sameB_self a b l

set_option maxHeartbeats 8000000 in
set_option maxRecDepth 100000 in
theorem SlotsRefuses_calls (w : World) (hT0 : Tab w) (a0 : Int) (w0 : (Lit.int .u8 a0).wf = true) (a1 : Int) (w1 : (Lit.int .u8 a1).wf = true) (a2 : Int) (w2 : (Lit.int .u8 a2).wf = true) :
    Calls Tryd.prog 5 #[.int .u8 a0, .int .u8 a1, .int .u8 a2] w (OkPost w) := by
  have h0 := zero_lt_tab hT0
  obtain ⟨p0, q0⟩ := wf_u8 w0
  obtain ⟨p1, q1⟩ := wf_u8 w1
  obtain ⟨p2, q2⟩ := wf_u8 w2
  obtain ⟨nn, hnn⟩ : ∃ nn : Nat, a0 % 41 = (nn : Int) := ⟨(a0 % 41).toNat, by omega⟩
  have hn40 : nn ≤ 40 := by omega
  obtain ⟨mo, rfl⟩ : ∃ mo : Nat, a1 = mo := ⟨a1.toNat, by omega⟩
  obtain ⟨D0, hD0⟩ : ∃ D0, D0 = (⟨List.replicate nn zeros, [], -1⟩ : Dsk) := ⟨_, rfl⟩
  have eN : (⟨List.replicate (max 0 (min (nn : Int) 512)).toNat zeros, [], -1⟩ : Dsk) = D0 := by
    rw [hD0, show (max 0 (min (nn : Int) 512)).toNat = nn by omega]
  have hl : D0.kept.length = nn := by rw [hD0]; simp
  have hleft : D0.left = -1 := by rw [hD0]
  have hw0 : D0.waits = [] := by rw [hD0]
  have hT := Aside0.mk hT0
  clear hT0 w0 w1 w2
  replace eN := Aside0.mk eN; replace hl := Aside0.mk hl; replace hleft := Aside0.mk hleft; replace hw0 := Aside0.mk hw0
  go_enter Tryd.func5, Tryd.ntmps5
  go_wp2_with fail
  with_reducible refine (awake_calls w hT.out).mono ?_
  rintro e wa ⟨rfl, hBa⟩
  replace hBa := Aside0.mk hBa
  go_wp2_with fail
  try rw [hnn]
  with_reducible refine (New_calls (nn : Int) wa).mono ?_
  rintro e wb ⟨B, K, M, rfl, h1, hB1, hK1, hM1, hbel1⟩
  rw [eN.out] at h1
  have hbel := below_step hBa.out hbel1
  have hwa := hBa.out.size
  have hT1 := hT.out.step hbel
  have hz0 : ¬ FD B K M 0 := by unfold FD; omega
  have hB2 : w.heap.size ≤ B ∧ w.heap.size ≤ K ∧ w.heap.size ≤ M := by omega
  clear hB1 hK1 hM1 hwa
  replace h1 := Aside0.mk h1; replace hbel := Aside0.mk hbel; replace hbel1 := Aside0.mk hbel1; replace hT1 := Aside0.mk hT1; replace hz0 := Aside0.mk hz0; replace hB2 := Aside0.mk hB2
  go_wp2_with fail
  with_reducible refine (Open_calls B K M D0 wb hT1.out h1.out hz0.out).mono ?_
  intro e wc he
  by_cases h4 : nn < 4
  · obtain ⟨v, rfl, hb2, hv, _⟩ := he
    rw [if_pos (by rw [hl.out]; exact h4), hv (.inl (by rw [hl.out]; exact h4))]
    have h4i : (nn : Int) < 4 := by omega
    have hbz := below_step hbel.out hb2
    replace hb2 := Aside0.mk hb2; replace hbz := Aside0.mk hbz; replace hv := Aside0.mk hv
    go_wp2_with fail
    go_ret
    exact ⟨rfl, hbz.out⟩
  · have h4' : 4 ≤ nn := by omega
    have h4i : ¬ (nn : Int) < 4 := by omega
    have I0 : Inv nn D0 hd0 := by rw [hD0]; exact inv_new nn h4' (by omega)
    obtain ⟨S, rfl, hS, s2, hb2⟩ := open_post I0 he
    clear he
    have O2 : OldS w wc S B K M := ⟨below_step hbel.out hb2, Nat.le_trans hbel.out.size hS, hB2.out.1, hB2.out.2.1, hB2.out.2.2⟩
    have hhf : halfOf D0 = (nn - 2) / 2 := fine_half I0.fine
    have h2l : 2 ≤ D0.kept.length := by rw [hl.out]; omega
    obtain ⟨rm, hrm⟩ : ∃ rm : Nat, 64 * halfOf D0 = rm := ⟨_, rfl⟩
    have hrmz : ((nn : Int) - 2) / 2 * 64 = (rm : Int) := by rw [← hrm, hhf]; omega
    have hrm2 : rm ≤ 1216 := by rw [← hrm, hhf]; omega
    obtain ⟨m, hm⟩ : ∃ m : Nat, rm + mo = m := ⟨_, rfl⟩
    have hmz : (rm : Int) + (mo : Int) = (m : Int) := by omega
    have hm2 : m ≤ 1500 := by omega
    have hmk := print_make 32 5 .u8 1 Tryd.underlying32 info_u8 (by decide) m (by omega)
    have hhd : hd0.age = 0 := rfl
    replace s2 := Aside0.mk s2; replace O2 := Aside0.mk O2; replace hb2 := Aside0.mk hb2; replace I0 := Aside0.mk I0; replace hhf := Aside0.mk hhf; replace h2l := Aside0.mk h2l; replace hrm := Aside0.mk hrm; replace hm := Aside0.mk hm
    clear h4
    go_wp2_with (first
      | (go_at_call 13; refine (Age_calls S B K M D0 hd0 wc s2.out).mono ?_; rintro e w' ⟨rfl, rfl⟩; rw [hhd])
      | (go_at_call 19; refine (Room_calls S B K M D0 hd0 wc s2.out h2l.out).mono ?_; rintro e w' ⟨rfl, rfl⟩; rw [hrm.out]))
    have hbA := below_alloc (Below.refl wc.heap.size wc) (.cells (madeCells #[.int .u8 0] m) 5)
    have ho0 := own_made wc wc.heap.size 5 .u8 m (Nat.le_refl _) (by omega)
    obtain ⟨g, hg⟩ : ∃ g, wc.heap.size = g := ⟨_, rfl⟩
    obtain ⟨wd, hwd⟩ : ∃ wd, wc.alloc (.cells (madeCells #[.int .u8 0] m) 5) = wd := ⟨_, rfl⟩
    rw [hwd, hg] at ho0 ⊢
    rw [hwd] at hbA
    rw [hg] at hbA
    clear hmk
    replace ho0 := Aside0.mk ho0; replace hbA := Aside0.mk hbA; replace hg := Aside0.mk hg; replace hwd := Aside0.mk hwd
    go_loopw [13] (fun i wr => ∃ k : Nat, i = .int .i64 k ∧ k ≤ m ∧ Aside0 (wr.ownsRow g 5 1 (.slice (some ⟨g, 0, none⟩) m m) m (nums .u8 (fillTo a2 m k))) ∧ Aside0 (Below g wc wr)) (fun i _ => m - (intOf i).toNat)
    case atStart => exact ⟨0, rfl, Nat.zero_le _, ⟨by unfold fillTo; simpa using ho0.out⟩, hbA⟩
    case round =>
      obtain ⟨k, rfl, hk, ho, hB⟩ := hrel
      by_cases hlt : k < m
      · have p1' : 0 ≤ (k : Int) := by omega
        have q1' : (k : Int) < (m : Int) := by omega
        obtain ⟨x1, x2⟩ := own_at ho.out k p1' q1'
        rw [Int.toNat_natCast] at x1 x2
        have hs1 := (own_store ho.out (k : Int) a2).1
        rw [Int.toNat_natCast, fill_step a2 m k hlt] at hs1
        have hs2 := hB.out.setCell (p := ⟨g, k, none⟩) (Nat.le_refl g) (.int .u8 a2)
        replace hs1 := Aside0.mk hs1; replace hs2 := Aside0.mk hs2
        go_wp2_with fail
        go_roundw
        case rel => exact ⟨k + 1, by simp, by omega, hs1, hs2⟩
        case measure => show m - ((k : Int) + 1).toNat < m - (k : Int).toNat; omega
      · have hkm : k = m := by omega
        subst hkm
        have ho2 := ho.out
        rw [fill_all] at ho2
        have hbB : Below wc.heap.size wc wr := by rw [hg.out]; exact hB.out
        have sr := s2.out.below hbB
        have Or := O2.out.below hbB
        have hTr := hT.out.step Or.bel
        obtain ⟨A', c', e', hC⟩ := bytes_of_row (xs := List.replicate k a2) ho2 (by simp)
        have hbr : ∀ x ∈ List.replicate k a2, 0 ≤ x ∧ x ≤ 255 := fun x hx => by rw [(List.mem_replicate.1 hx).2]; exact ⟨p2, q2⟩
        have h4l : 4 ≤ D0.kept.length := by rw [hl.out]; exact h4'
        injection e' with e1 e2 e3
        subst e1
        clear e2 e3
        by_cases hmo : 0 < mo
        · have hmoi : (0 : Int) < (mo : Int) := by omega
          have hco : commitOf D0 hd0 (List.replicate k a2) = (22, D0, hd0) := by
            unfold commitOf
            rw [if_pos (by rw [List.length_replicate]; have := hrm.out; have := hm.out; omega)]
          replace ho2 := Aside0.mk ho2; replace hbB := Aside0.mk hbB; replace sr := Aside0.mk sr; replace Or := Aside0.mk Or; replace hTr := Aside0.mk hTr; replace hC := Aside0.mk hC; replace hbr := Aside0.mk hbr; replace h4l := Aside0.mk h4l; replace hco := Aside0.mk hco
          go_wp2_with fail
          with_reducible refine (Commit_calls S B K M D0 hd0 (some ⟨g, 0, none⟩) k k (List.replicate k a2) wr hTr.out sr.out h4l.out hC.out hbr.out).mono ?_
          rintro e we ⟨rfl, s4, k4⟩
          rw [hco.out] at s4 ⊢
          have O4 := Or.out.keep k4
          replace s4 := Aside0.mk s4; replace k4 := Aside0.mk k4; replace O4 := Aside0.mk O4
          go_wp2_with fail
          with_reducible refine (same_calls S B K M D0 hd0 0 false none 0 0 [] we s4.out (Kd.C_nil _ _)).mono ?_
          rintro e wf ⟨rfl, hb5⟩
          rw [show sameB hd0 0 false [] = true from sameB_self _ _ _]
          have s5 := s4.out.below hb5
          have O5 := O4.out.below hb5
          replace s5 := Aside0.mk s5; replace O5 := Aside0.mk O5; replace hb5 := Aside0.mk hb5
          go_wp2_with fail
          with_reducible refine (Waits_calls B K M D0 wf s5.out.dk).mono ?_
          rintro e wg ⟨v, rfl, ⟨A7, c7, rfl, _, _⟩, hb6⟩
          rw [show D0.waits.length = 0 from by rw [hw0.out]; rfl]
          have O6 := O5.out.below hb6
          replace O6 := Aside0.mk O6; replace hb6 := Aside0.mk hb6
          go_wp2_with fail
          go_ret
          exact ⟨rfl, O6.out.bel⟩
        · have hmo0 : mo = 0 := by omega
          subst hmo0
          obtain ⟨D2, e1, I2, hw2, hh2⟩ := commit_fine I0.out (List.replicate k a2) hbr (by rw [List.length_replicate]; have := hrm.out; have := hm.out; omega) (by rw [hhf.out]; omega) (by decide)
          have hE : (⟨hd0.age + 1, true, List.replicate k a2⟩ : Hd) = ⟨1, true, List.replicate k a2⟩ := rfl
          rw [hE] at e1 I2
          replace ho2 := Aside0.mk ho2; replace hbB := Aside0.mk hbB; replace sr := Aside0.mk sr; replace Or := Aside0.mk Or; replace hTr := Aside0.mk hTr; replace hC := Aside0.mk hC; replace hbr := Aside0.mk hbr; replace h4l := Aside0.mk h4l; replace e1 := Aside0.mk e1; replace I2 := Aside0.mk I2; replace hw2 := Aside0.mk hw2; replace hh2 := Aside0.mk hh2
          clear hmo
          go_wp2_with fail
          with_reducible refine (Commit_calls S B K M D0 hd0 (some ⟨g, 0, none⟩) k k (List.replicate k a2) wr hTr.out sr.out h4l.out hC.out hbr.out).mono ?_
          rintro e we ⟨rfl, s4, k4⟩
          rw [e1.out] at s4 ⊢
          have O4 := Or.out.keep k4
          have hC4 : (Kd.int .u8).C we (some ⟨g, 0, none⟩) k (List.replicate k a2) := Kd_C_keep hC.out (fun ad e _ hF => by
            obtain rfl := Option.some.inj e
            rw [← hg.out] at hF
            exact s2.out.fresh _ (Nat.le_refl _) hF) k4
          replace s4 := Aside0.mk s4; replace k4 := Aside0.mk k4; replace O4 := Aside0.mk O4; replace hC4 := Aside0.mk hC4
          go_wp2_with fail
          with_reducible refine (same_calls S B K M D2 ⟨1, true, List.replicate k a2⟩ 1 true (some ⟨g, 0, none⟩) k k (List.replicate k a2) we s4.out hC4.out).mono ?_
          rintro e wf ⟨rfl, hb5⟩
          rw [sameB_self]
          have O5 := O4.out.below hb5
          replace O5 := Aside0.mk O5; replace hb5 := Aside0.mk hb5
          go_wp2_with fail
          go_ret
          exact ⟨rfl, O5.out.bel⟩
end Go.Proofs.YtiibfboendnifaaDoor.Sl
