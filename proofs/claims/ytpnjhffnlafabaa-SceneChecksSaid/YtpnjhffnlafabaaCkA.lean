/- The statement SceneChecks of law 13: what it computes is true. -/
import Derived.Test.YtpnjhffnlafabaaRf7
namespace Go.Proofs.Ytpnjhffnlafabaa.Sn
set_option linter.unusedVariables false
set_option linter.unusedSimpArgs false
open Go.Proofs Go.RowKit Go.Sort Go.Shelf Go.Lib Go.Proofs.Bk Go.Proofs.Bm Go.Proofs.Op Go.Proofs.Sc Go.Proofs.Kf Go.Proofs.YtpnjhffnlafabaaW.PrintWords Go.Proofs.Ytpnjhffnlafabaa.PSceneOrders Go.Proofs.Ytpnjhffnlafabaa.St

set_option maxHeartbeats 1000000 in
theorem Same03_calls (A0 : Option Addr) (n0 c0 : Nat) (A1 : Option Addr) (c1 : Nat) (l : List Int) (w : World) (h0 : (Kd.int .i64).C w A0 n0 l) (h1 : (Kd.int .i64).C w A1 n0 l) :
    Calls Try.prog 13 #[.slice A0 n0 c0, .slice A1 n0 c1] w (OkPost w) := by
  have H0 := Aside0.mk h0
  have H1 := Aside0.mk h1
  have hn := h0.2.1
  clear h0 h1
  go_enter Try.func13, Try.ntmps13
  go_wp2_with fail
  go_loopw [5] (fun i wr => ∃ k : Nat, i = .int .i64 k ∧ k ≤ n0 ∧ Aside0 (Below w.heap.size w wr)) (fun i _ => n0 - (intOf i).toNat)
  case atStart => exact ⟨0, rfl, Nat.zero_le _, ⟨Below.refl _ _⟩⟩
  case round =>
    obtain ⟨k, rfl, hk, hb⟩ := hrel
    by_cases hlt : k < n0
    · have p1 : 0 ≤ (k : Int) := by omega
      have q1 : (k : Int) < (n0 : Int) := by omega
      obtain ⟨a0, rfl, x0⟩ := Kd.at_int (Kd.C_below H0.out hb.out) k p1 q1
      obtain ⟨a1, rfl, x1⟩ := Kd.at_int (Kd.C_below H1.out hb.out) k p1 q1
      rw [Int.toNat_natCast] at x0 x1
      obtain ⟨z, hz⟩ : ∃ z, Go.Proofs.YtpnjhffnlafabaaW.PrintWords.rd l k = z := ⟨_, rfl⟩
      rw [hz] at x0 x1
      replace hz := Aside0.mk hz
      have t1 : (z != z) = false := by simp
      go_wp2_with fail
      go_quiet (fail)
      go_wp2_with fail
      go_roundw
      case rel => exact ⟨k + 1, by simp, by omega, ⟨pw_below_drewN hb.out _⟩⟩
      case measure => show n0 - ((k : Int) + 1).toNat < n0 - (k : Int).toNat; omega
    · go_wp2_with fail
      go_ret
      exact ⟨rfl, hb.out⟩
set_option maxHeartbeats 8000000 in
set_option maxRecDepth 100000 in
theorem SceneChecks_calls (w : World) (A : Option Addr) (n c : Nat) (xs : List SG) (B : Option Addr) (m d : Nat) (ts : List ST) (hG : kG.C w A n xs) (hc : n ≤ c) (hT : kT.C w B m ts) (hd : m ≤ d) (hB : ∀ ad, B = some ad → ad.spot = none) (ho : ∀ x ∈ xs, okG x) :
    Calls Try.prog 3 #[.agg #[.slice A n c, .slice B m d]] w (OkPost w) := by
  have hln := hG.1
  have hlm := hT.1
  have HG := Aside0.mk hG
  have HT := Aside0.mk hT
  clear hG hT
  replace hln := Aside0.mk hln; replace hlm := Aside0.mk hlm; replace hc := Aside0.mk hc; replace hd := Aside0.mk hd; replace hB := Aside0.mk hB; replace ho := Aside0.mk ho
  go_enter Try.func3, Try.ntmps3
  go_wp2_with (first
    | (((with_reducible refine gate_dst (N := 1) rfl ?_); refine box_event ?hg (N := 1) ?hd (cs := #[.slice A n c, .slice B m d]) (t := 25) ?hr ?_; (case hd => rfl); (case hg => rfl); (case hr => first | (go_simp; done) | (go_simp; rfl)); intro b0 hb0 w1 kb0 bb0; replace hb0 := Aside0.mk hb0; replace kb0 := Aside0.mk kb0; replace bb0 := Aside0.mk bb0); have c0 := (Kf.cell_row kb0.out 0).trans (rfl : _ = some (Value.slice A n c)); have c1 := (Kf.cell_row kb0.out 1).trans (rfl : _ = some (Value.slice B m d))))
  with_reducible refine (awake_calls w1).mono ?_
  rintro e w2 ⟨rfl, hb2⟩
  have hB2 := bb0.out.trans (hb2.mono bb0.out.size)
  replace c0 := pw_cell_below hb2 c0
  replace c1 := pw_cell_below hb2 c1
  clear hb2 kb0 bb0
  replace hB2 := Aside0.mk hB2
  go_wp2_with (first
    | ((with_reducible refine gate_op (.load 25 (.tmp 1)) rfl ?_); refine wpList_load_midB rfl _ _ rfl ⟨b0, 0, none⟩ rfl [.slice A n c, .slice B m d] _ (two_cells c0 c1) Try.underlying25 rfl info_S ?_))
  with_reducible refine (few_calls A n c xs B m d ts w2 (Kd.C_below HG.out hB2.out) hc.out (Kd.C_below HT.out hB2.out) hd.out).mono ?_
  rintro e w3 ⟨rfl, hb3⟩
  have hB3 := Aside0.mk (hB2.out.trans (hb3.mono hB2.out.size))
  replace c0 := pw_cell_below hb3 c0
  replace c1 := pw_cell_below hb3 c1
  clear hb3 hB2
  obtain ⟨few, hfew⟩ : ∃ few, decide (n ≤ 30 ∧ m ≤ 30) = few := ⟨_, rfl⟩
  rw [hfew]
  cases few with
  | false =>
    clear hfew
    go_wp2_with fail
    go_ret
    exact ⟨rfl, hB3.out⟩
  | true =>
    obtain ⟨hn30, hm30⟩ := of_decide_eq_true hfew
    clear hfew
    go_wp2_with (first
      | ((with_reducible refine gate_op (.load 25 (.tmp 1)) rfl ?_); refine wpList_load_midB rfl _ _ rfl ⟨b0, 0, none⟩ rfl [.slice A n c, .slice B m d] _ (two_cells c0 c1) Try.underlying25 rfl info_S ?_))
    with_reducible refine (rCheck_calls A n c xs B m d ts w3 (Kd.C_below HG.out hB3.out) hc.out (Kd.C_below HT.out hB3.out) hd.out).mono ?_
    rintro e w4 ⟨rfl, hb4⟩
    have hB4 := Aside0.mk (hB3.out.trans (hb4.mono hB3.out.size))
    replace c0 := pw_cell_below hb4 c0
    replace c1 := pw_cell_below hb4 c1
    clear hb4 hB3
    have hBd := Aside0.mk hB4.out.drew
    have kc := Check_calls A n c xs B m d ts w4.drew (Kd.C_below HG.out hBd.out) hc.out (Kd.C_below HT.out hBd.out) hd.out hB.out ho.out
    have ki := fun W (hW : Below w.heap.size w W) => Ids_calls A n c xs B m d ts W (Kd.C_below HG.out hW) hc.out (Kd.C_below HT.out hW) hd.out (by omega)
    have kj := fun W (hW : Below w.heap.size w W) => rIds_calls A n c xs B m d ts W (Kd.C_below HG.out hW) hc.out (Kd.C_below HT.out hW) hd.out (by omega)
    have kt := fun W (hW : Below w.heap.size w W) => Tall_calls A n c xs B m d W (Kd.C_below HG.out hW) (by omega)
    have ku := fun W (hW : Below w.heap.size w W) => rTall_calls A n c xs B m d W (Kd.C_below HG.out hW) (by omega)
    have hfine := fine_iff (xs.map gOf) (ts.map tOf)
    unfold CheckPost at kc
    obtain ⟨ck, hck⟩ : ∃ ck, checkOf (xs.map gOf) (ts.map tOf) = ck := ⟨_, rfl⟩
    rw [hck] at kc hfine ⊢
    have z1 : (ck != ck) = false := by simp
    replace kc := Aside0.mk kc; replace ki := Aside0.mk ki; replace kj := Aside0.mk kj; replace kt := Aside0.mk kt; replace ku := Aside0.mk ku; replace hck := Aside0.mk hck; replace hfine := Aside0.mk hfine
    go_wp2_with fail
    (first | (go_region_held3 (fun w' => w'.cell? ⟨b0, 0, none⟩ = some (.slice A n c) ∧ w'.cell? ⟨b0, 1, none⟩ = some (.slice B m d))
      (first | (with_reducible exact ⟨c0, c1⟩) | (with_reducible exact s5) | (with_reducible exact s6) | (with_reducible exact s7) | (with_reducible exact s8) | go_keep)
      (first
        | (go_at_call 12; (with_reducible refine kc.out.mono ?_); rintro e w5 ⟨rfl, hb5⟩; have hb5' := Aside0.mk (hBd.out.trans (hb5.mono hBd.out.size)); have s5 : w5.cell? ⟨b0, 0, none⟩ = some (.slice A n c) ∧ w5.cell? ⟨b0, 1, none⟩ = some (.slice B m d) := ⟨pw_cell_below hb5 c0, pw_cell_below hb5 c1⟩; clear hb5)
        | (go_at_call 14; (with_reducible refine (ki.out w5 hb5'.out).mono ?_); rintro e w6 ⟨v6, rfl, hR6, hb6⟩; have hb6' := Aside0.mk (hb5'.out.trans (hb6.mono hb5'.out.size)); have s6 : w6.cell? ⟨b0, 0, none⟩ = some (.slice A n c) ∧ w6.cell? ⟨b0, 1, none⟩ = some (.slice B m d) := ⟨pw_cell_below hb6 s5.1, pw_cell_below hb6 s5.2⟩; obtain ⟨A6, c6, rfl, -, hC6⟩ := Kd.R_reads hR6; clear hb6 hR6; replace hC6 := Aside0.mk hC6)
        | (go_at_call 15; (with_reducible refine (kj.out w6 hb6'.out).mono ?_); rintro e w7 ⟨v7, rfl, hR7, hb7⟩; have hb7' := Aside0.mk (hb6'.out.trans (hb7.mono hb6'.out.size)); have s7 : w7.cell? ⟨b0, 0, none⟩ = some (.slice A n c) ∧ w7.cell? ⟨b0, 1, none⟩ = some (.slice B m d) := ⟨pw_cell_below hb7 s6.1, pw_cell_below hb7 s6.2⟩; obtain ⟨A7, c7, rfl, -, hC7⟩ := Kd.R_reads hR7; have k3 := Aside0.mk (Same03_calls A6 _ c6 A7 c7 _ w7 (Kd.C_below hC6.out hb7) hC7); clear hb7 hR7 hC7)
        | (go_at_call 13; (with_reducible refine k3.out.mono ?_); rintro e w8 ⟨rfl, hb8⟩; have hb8' := Aside0.mk (hb7'.out.trans (hb8.mono hb7'.out.size)); have s8 : w8.cell? ⟨b0, 0, none⟩ = some (.slice A n c) ∧ w8.cell? ⟨b0, 1, none⟩ = some (.slice B m d) := ⟨pw_cell_below hb8 s7.1, pw_cell_below hb8 s7.2⟩; clear hb8))) | fail)
    obtain ⟨c08, c18⟩ := s8
    by_cases hz : ck = 0
    · subst hz
      have F := hfine.out.1 rfl
      have hnm : Named xs := by
        refine ⟨F.ndg, fun x hx => ?_, fun x hx h1 => F.par (gOf x) (List.mem_map.2 ⟨x, hx, rfl⟩) h1⟩
        have h1 := (within1_iff.1 (oddG_id (F.og (gOf x) (List.mem_map.2 ⟨x, hx, rfl⟩)))).1
        have h2 : (gOf x).id = x.f0 := rfl
        omega
      have htl := hnm.tallE
      obtain ⟨tl, htl2⟩ : ∃ tl, tallOf (xs.map gOf) = tl := ⟨_, rfl⟩
      have hBd8 := Aside0.mk hb8'.out.drew
      have kt8 := kt.out w8.drew hBd8.out
      have ku8 := ku.out
      rw [htl, htl2] at ku8
      unfold TallPost at kt8
      rw [htl2] at kt8
      replace F := Aside0.mk F; replace hnm := Aside0.mk hnm; replace htl := Aside0.mk htl; replace htl2 := Aside0.mk htl2; replace kt8 := Aside0.mk kt8; replace ku8 := Aside0.mk ku8
      have z2 : (tl == tl) = true := by simp
      all_goals go_wp2_with fail
      (first | (go_region_held3 (fun w' => w'.cell? ⟨b0, 0, none⟩ = some (.slice A n c) ∧ w'.cell? ⟨b0, 1, none⟩ = some (.slice B m d))
        (first | (with_reducible exact ⟨c08, c18⟩) | (with_reducible exact s9) | (with_reducible exact s10) | go_keep)
        (first
          | (go_at_call 16; (with_reducible refine kt8.out.mono ?_); rintro e w9 ⟨rfl, hb9⟩; have hb9' := Aside0.mk (hBd8.out.trans (hb9.mono hBd8.out.size)); have s9 : w9.cell? ⟨b0, 0, none⟩ = some (.slice A n c) ∧ w9.cell? ⟨b0, 1, none⟩ = some (.slice B m d) := ⟨pw_cell_below hb9 c08, pw_cell_below hb9 c18⟩; clear hb9)
          | (go_at_call 17; (with_reducible refine (ku8.out w9 hb9'.out).mono ?_); rintro e w10 ⟨rfl, hb10⟩; have hb10' := Aside0.mk (hb9'.out.trans (hb10.mono hb9'.out.size)); have s10 : w10.cell? ⟨b0, 0, none⟩ = some (.slice A n c) ∧ w10.cell? ⟨b0, 1, none⟩ = some (.slice B m d) := ⟨pw_cell_below hb10 s9.1, pw_cell_below hb10 s9.2⟩; clear hb10))) | fail)
      all_goals go_wp2_with fail
      all_goals go_ret
      all_goals exact ⟨rfl, hb10'.out⟩
    · have z2 : (ck != 0) = true := by simpa using hz
      go_wp2_with fail
      go_quiet (fail)
      go_wp2_with fail
      go_ret
      exact ⟨rfl, pw_below_drewN hb8'.out _⟩
end Go.Proofs.Ytpnjhffnlafabaa.Sn
