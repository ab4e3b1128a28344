/- The reference of law 13: Check: walked by hand: what it tells is what the program tells. -/
import Derived.Test.YtpnjhffnlafabaaRf6
import Derived.Test.YtpnjhffnlafabaaHt
import Derived.Test.YtpnjhffnlafabaaRs
import Derived.Test.YtpnjhffnlafabaaRp
namespace Go.Proofs.Ytpnjhffnlafabaa.Sn
set_option linter.unusedVariables false
set_option linter.unusedSimpArgs false
open Go.Proofs Go.RowKit Go.Sort Go.Shelf Go.Lib Go.Proofs.Bk Go.Proofs.Bm Go.Proofs.Op Go.Proofs.Sc Go.Proofs.Kf Go.Proofs.YtpnjhffnlafabaaW.PrintWords Go.Proofs.Ytpnjhffnlafabaa.PSceneOrders

theorem roddG_any (xs : List SG) : xs.any roddG = (xs.map gOf).any oddG := by
  rw [List.any_map]; congr 1; funext x; exact roddG_eq x
theorem roddT_any (ts : List ST) : ts.any roddT = (ts.map tOf).any oddT := by
  rw [List.any_map]; congr 1; funext x; exact roddT_eq x
set_option maxHeartbeats 8000000 in
set_option maxRecDepth 100000 in
theorem rCheck_calls (A : Option Addr) (n c : Nat) (xs : List SG) (B : Option Addr) (m d : Nat) (ts : List ST) (w : World) (hG : kG.C w A n xs) (hc : n ≤ c) (hT : kT.C w B m ts) (hd : m ≤ d) :
    Calls Try.prog 11 #[.agg #[.slice A n c, .slice B m d]] w (CheckPost (xs.map gOf) (ts.map tOf) w) := by
  have hln := hG.1
  have hlm := hT.1
  have hn63 := hG.2.1
  have hm63 := hT.2.1
  have HG := Aside0.mk hG
  have HT := Aside0.mk hT
  clear hG hT
  obtain ⟨ck, hcke⟩ : ∃ ck, checkOf (xs.map gOf) (ts.map tOf) = ck := ⟨_, rfl⟩
  have hck : ∀ (r : Int) w', r = ck → Below w.heap.size w w' → CheckPost (xs.map gOf) (ts.map tOf) w (.returned (.int .i64 r)) w' := fun r w' h1 h2 => ⟨by rw [h1, hcke], h2⟩
  have hgl : (xs.map gOf).length = n := by rw [List.length_map, hln]
  have hul : (ts.map tOf).length = m := by rw [List.length_map, hlm]
  have hcd : ck = if n = 0 then 2 else if 4096 < n ∨ 4096 < m then 7 else if (xs.map gOf).any oddG || (ts.map tOf).any oddT then 1
      else if namesOf (xs.map gOf) (ts.map tOf) ≠ 0 then namesOf (xs.map gOf) (ts.map tOf) else if wholeOf (xs.map gOf) = false ∨ orderOf (xs.map gOf) (ts.map tOf) ≠ (xs.map gOf, ts.map tOf) then 5 else if 16 ≤ tallOf (xs.map gOf) then 10 else 0 := by
    rw [← hcke, ← hgl, ← hul]; rfl
  replace hln := Aside0.mk hln; replace hlm := Aside0.mk hlm; replace hc := Aside0.mk hc; replace hd := Aside0.mk hd; replace hgl := Aside0.mk hgl; replace hul := Aside0.mk hul; replace hck := Aside0.mk hck; replace hcke := Aside0.mk hcke
  by_cases h0 : n = 0
  · rw [if_pos h0] at hcd
    subst h0
    replace hcd := Aside0.mk hcd
    go_enter Try.func11, Try.ntmps11
    go_wp2_with (first
      | (((with_reducible refine gate_dst (N := 1) rfl ?_); refine box_event ?hg (N := 1) ?hd (cs := #[.slice A 0 c, .slice B m d]) (t := 25) ?hr ?_; (case hd => rfl); (case hg => rfl); (case hr => first | (go_simp; done) | (go_simp; rfl)); intro b0 hb0 w1 kb0 bb0; replace hb0 := Aside0.mk hb0; replace kb0 := Aside0.mk kb0; replace bb0 := Aside0.mk bb0); have c0 := (Kf.cell_row kb0.out 0).trans (rfl : _ = some (Value.slice A 0 c)); have c1 := (Kf.cell_row kb0.out 1).trans (rfl : _ = some (Value.slice B m d))))
    go_ret
    exact hck.out _ _ hcd.out.symm bb0.out
  · rw [if_neg h0] at hcd
    have i0 : ¬ (n : Int) = 0 := by omega
    have i0' : ((n : Int) == 0) = false := by simpa using i0
    by_cases h1 : 4096 < n
    · rw [if_pos (.inl h1)] at hcd
      have i1 : (4096 : Int) < (n : Int) := by omega
      replace hcd := Aside0.mk hcd
      go_enter Try.func11, Try.ntmps11
      go_wp2_with (first
        | (((with_reducible refine gate_dst (N := 1) rfl ?_); refine box_event ?hg (N := 1) ?hd (cs := #[.slice A n c, .slice B m d]) (t := 25) ?hr ?_; (case hd => rfl); (case hg => rfl); (case hr => first | (go_simp; done) | (go_simp; rfl)); intro b0 hb0 w1 kb0 bb0; replace hb0 := Aside0.mk hb0; replace kb0 := Aside0.mk kb0; replace bb0 := Aside0.mk bb0); have c0 := (Kf.cell_row kb0.out 0).trans (rfl : _ = some (Value.slice A n c)); have c1 := (Kf.cell_row kb0.out 1).trans (rfl : _ = some (Value.slice B m d))))
      go_ret
      exact hck.out _ _ hcd.out.symm bb0.out
    have i1 : ¬ (4096 : Int) < (n : Int) := by omega
    by_cases h2 : 4096 < m
    · rw [if_pos (.inr h2)] at hcd
      have i2 : (4096 : Int) < (m : Int) := by omega
      replace hcd := Aside0.mk hcd
      go_enter Try.func11, Try.ntmps11
      go_wp2_with (first
        | (((with_reducible refine gate_dst (N := 1) rfl ?_); refine box_event ?hg (N := 1) ?hd (cs := #[.slice A n c, .slice B m d]) (t := 25) ?hr ?_; (case hd => rfl); (case hg => rfl); (case hr => first | (go_simp; done) | (go_simp; rfl)); intro b0 hb0 w1 kb0 bb0; replace hb0 := Aside0.mk hb0; replace kb0 := Aside0.mk kb0; replace bb0 := Aside0.mk bb0); have c0 := (Kf.cell_row kb0.out 0).trans (rfl : _ = some (Value.slice A n c)); have c1 := (Kf.cell_row kb0.out 1).trans (rfl : _ = some (Value.slice B m d))))
      go_ret
      exact hck.out _ _ hcd.out.symm bb0.out
    have i2 : ¬ (4096 : Int) < (m : Int) := by omega
    rw [if_neg (by omega)] at hcd
    have hod := fun W (hW : Below w.heap.size w W) => odd_calls A n c xs B m d ts W (Kd.C_below HG.out hW) hc.out (Kd.C_below HT.out hW) hd.out
    rw [roddG_any, roddT_any] at hod
    obtain ⟨ob, hob⟩ : ∃ ob, ((xs.map gOf).any oddG || (ts.map tOf).any oddT) = ob := ⟨_, rfl⟩
    rw [hob] at hod hcd
    cases ob with
    | true =>
      rw [if_pos rfl] at hcd
      replace hcd := Aside0.mk hcd; replace hod := Aside0.mk hod; replace hob := Aside0.mk hob
      go_enter Try.func11, Try.ntmps11
      go_wp2_with (first
        | (((with_reducible refine gate_dst (N := 1) rfl ?_); refine box_event ?hg (N := 1) ?hd (cs := #[.slice A n c, .slice B m d]) (t := 25) ?hr ?_; (case hd => rfl); (case hg => rfl); (case hr => first | (go_simp; done) | (go_simp; rfl)); intro b0 hb0 w1 kb0 bb0; replace hb0 := Aside0.mk hb0; replace kb0 := Aside0.mk kb0; replace bb0 := Aside0.mk bb0); have c0 := (Kf.cell_row kb0.out 0).trans (rfl : _ = some (Value.slice A n c)); have c1 := (Kf.cell_row kb0.out 1).trans (rfl : _ = some (Value.slice B m d)))
        | ((with_reducible refine gate_op (.load 25 (.tmp 1)) rfl ?_); refine wpList_load_midB rfl _ _ rfl ⟨b0, 0, none⟩ rfl [.slice A n c, .slice B m d] _ (two_cells c0 c1) Try.underlying25 rfl info_S ?_)
        | (go_at_call 25; (with_reducible refine (hod.out _ bb0.out).mono ?_); rintro e w2 ⟨rfl, hb2⟩; have hB2 := Aside0.mk (bb0.out.trans (hb2.mono bb0.out.size)); clear hb2 c0 c1))
      go_ret
      exact hck.out _ _ hcd.out.symm hB2.out
    | false =>
      have hoG : (xs.map gOf).any oddG = false := by cases hx : (xs.map gOf).any oddG with
        | false => rfl
        | true => rw [hx] at hob; simp at hob
      have hoT : (ts.map tOf).any oddT = false := by rw [hoG] at hob; simpa using hob
      have hask' : Asked (xs.map gOf) (ts.map tOf) ck := by rw [← hcke.out]; exact asked (by rw [hgl.out]; exact h0) (by rw [hgl.out]; omega) (by rw [hul.out]; omega) hoG hoT
      have hidE := idsS_eq xs ts
      obtain ⟨ids, hids⟩ : ∃ ids, idsS xs ts = ids := ⟨_, rfl⟩
      have hno : ids.Nodup → (∀ x ∈ xs, x.f1 ≠ 0 → x.f1 ∈ gids (xs.map gOf)) → Named xs := fun h hp => okids (ts := ts) hoG (by rw [hids]; exact h) hp
      have hT0 : ids.Nodup → (ts.map (·.f0)).Nodup := fun h => by rw [← hids] at h; exact (List.nodup_append.1 h).2.1
      have hidl : ids.length = n + m := by rw [← hids]; unfold idsS; rw [List.length_append, List.length_map, List.length_map, hln.out, hlm.out]
      have hidsk := fun W (hW : Below w.heap.size w W) => rIds_calls A n c xs B m d ts W (Kd.C_below HG.out hW) hc.out (Kd.C_below HT.out hW) hd.out (by omega)
      obtain ⟨k9, k8, k5, k0⟩ := hask'
      rw [← hidE, hids] at k9 k8 k5 k0
      rw [hids] at hidsk
      clear hidE
      replace k9 := Aside0.mk k9; replace k8 := Aside0.mk k8; replace k5 := Aside0.mk k5; replace k0 := Aside0.mk k0; replace hno := Aside0.mk hno; replace hT0 := Aside0.mk hT0; replace hids := Aside0.mk hids; replace hidl := Aside0.mk hidl; replace hidsk := Aside0.mk hidsk; replace hod := Aside0.mk hod; replace hob := Aside0.mk hob; replace hoG := Aside0.mk hoG; replace hoT := Aside0.mk hoT; replace hcd := Aside0.mk hcd
      go_enter Try.func11, Try.ntmps11
      go_wp2_with (first
        | (((with_reducible refine gate_dst (N := 1) rfl ?_); refine box_event ?hg (N := 1) ?hd (cs := #[.slice A n c, .slice B m d]) (t := 25) ?hr ?_; (case hd => rfl); (case hg => rfl); (case hr => first | (go_simp; done) | (go_simp; rfl)); intro b0 hb0 w1 kb0 bb0; replace hb0 := Aside0.mk hb0; replace kb0 := Aside0.mk kb0; replace bb0 := Aside0.mk bb0); have c0 := (Kf.cell_row kb0.out 0).trans (rfl : _ = some (Value.slice A n c)); have c1 := (Kf.cell_row kb0.out 1).trans (rfl : _ = some (Value.slice B m d)))
        | ((with_reducible refine gate_op (.load 25 (.tmp 1)) rfl ?_); refine wpList_load_midB rfl _ _ rfl ⟨b0, 0, none⟩ rfl [.slice A n c, .slice B m d] _ (two_cells c0 c1) Try.underlying25 rfl info_S ?_)
        | (go_at_call 25; (with_reducible refine (hod.out _ bb0.out).mono ?_); rintro e w2 ⟨rfl, hb2⟩; have hB2 := Aside0.mk (bb0.out.trans (hb2.mono bb0.out.size)); replace c0 := pw_cell_below hb2 c0; replace c1 := pw_cell_below hb2 c1; clear hb2 kb0 bb0 hb0))
      with_reducible refine (hidsk.out _ hB2.out).mono ?_
      rintro e w4 ⟨v4, rfl, hI4, hb4⟩
      obtain ⟨A4, c4, rfl, -, hI⟩ := Kd.R_reads hI4
      have hB4 := hB2.out.trans (hb4.mono hB2.out.size)
      have hcW : ∀ W, Below w4.heap.size w4 W → W.cell? ⟨b0, 0, none⟩ = some (.slice A n c) ∧ W.cell? ⟨b0, 1, none⟩ = some (.slice B m d) := fun W hW => ⟨pw_cell_below hW (pw_cell_below hb4 c0), pw_cell_below hW (pw_cell_below hb4 c1)⟩
      have hBW : ∀ W, Below w4.heap.size w4 W → Below w.heap.size w W := fun W hW => hB4.trans (hW.mono hB4.size)
      obtain ⟨nl, hnl⟩ : ∃ nl, ids.length = nl := ⟨_, rfl⟩
      rw [hnl] at hI ⊢
      have hnl63 : nl ≤ 9223372036854775807 := hI.2.1
      clear hI4 hb4 c0 c1 hB2 hB4
      replace hI := Aside0.mk hI; replace hcW := Aside0.mk hcW; replace hBW := Aside0.mk hBW; replace hnl := Aside0.mk hnl
      go_wp2_with fail
      go_loopw [5] (fun iv wr => ∃ i : Nat, iv = .int .i64 i ∧ i ≤ nl ∧ Aside0 ((ids.take i).Nodup) ∧ Aside0 (Below w4.heap.size w4 wr)) (fun iv _ => nl - (intOf iv).toNat)
      case atStart => exact ⟨0, rfl, Nat.zero_le _, ⟨by simp⟩, ⟨Below.refl _ _⟩⟩
      case round =>
        obtain ⟨i, rfl, hi, hnd, hb⟩ := hrel
        by_cases hlt : i < nl
        · go_wp2_with fail
          go_loopw [6] (fun kv wt => ∃ k : Nat, kv = .int .i64 k ∧ k ≤ i ∧ Aside0 (∀ q < k, ids[q]? ≠ ids[i]?) ∧ Aside0 (Below w4.heap.size w4 wt)) (fun kv _ => i - (intOf kv).toNat)
          case atStart => exact ⟨0, rfl, Nat.zero_le _, ⟨fun q hq => absurd hq (Nat.not_lt_zero _)⟩, hb⟩
          case round =>
            obtain ⟨k, rfl, hk, hq, hb1⟩ := hrel
            obtain ⟨z, hz⟩ : ∃ z, ids[i]? = some z := ⟨_, List.getElem?_eq_getElem (by rw [hnl.out]; exact hlt)⟩
            by_cases hlk : k < i
            · obtain ⟨x, hx⟩ : ∃ x, ids[k]? = some x := ⟨_, List.getElem?_eq_getElem (by rw [hnl.out]; omega)⟩
              have p1 : 0 ≤ (k : Int) := by omega
              have q1 : (k : Int) < (nl : Int) := by omega
              have p2 : 0 ≤ (i : Int) := by omega
              have q2 : (i : Int) < (nl : Int) := by omega
              have hIt := Kd.C_below hI.out hb1.out
              obtain ⟨ad, rfl, y1⟩ := Kd.at_int hIt (k : Int) p1 q1
              obtain ⟨ad2, e2, y2⟩ := Kd.at_int hIt (i : Int) p2 q2
              cases e2
              rw [Int.toNat_natCast, show Go.Proofs.YtpnjhffnlafabaaW.PrintWords.rd ids k = x from by unfold Go.Proofs.YtpnjhffnlafabaaW.PrintWords.rd; rw [Int.toNat_natCast, List.getD_eq_getElem?_getD, hx]; rfl] at y1
              rw [Int.toNat_natCast, show Go.Proofs.YtpnjhffnlafabaaW.PrintWords.rd ids i = z from by unfold Go.Proofs.YtpnjhffnlafabaaW.PrintWords.rd; rw [Int.toNat_natCast, List.getD_eq_getElem?_getD, hz]; rfl] at y2
              have hxz : (x == z) = decide (x = z) := rfl
              clear hIt
              by_cases he : x = z
              · have hck9 : ck = 9 := k9.out (not_nodup hx (he ▸ hz) (by omega))
                rw [decide_eq_true he] at hxz
                replace he := Aside0.mk he; replace hck9 := Aside0.mk hck9; replace hx := Aside0.mk hx; replace hz := Aside0.mk hz
                go_wp2_with fail
                go_quiet (fail)
                go_wp2_with fail
                go_ret
                exact hck.out _ _ hck9.out.symm (hBW.out _ (pw_below_drewN hb1.out _))
              · have hq' : ∀ q < k + 1, ids[q]? ≠ ids[i]? := by
                  intro q hqk
                  by_cases hqe : q = k
                  · subst hqe; rw [hx, hz]; intro e; exact he (Option.some.inj e)
                  · exact hq.out q (by omega)
                rw [decide_eq_false he] at hxz
                replace he := Aside0.mk he; replace hx := Aside0.mk hx; replace hz := Aside0.mk hz; replace hq' := Aside0.mk hq'
                go_wp2_with fail
                go_quiet (fail)
                go_wp2_with fail
                go_roundw
                case rel => exact ⟨k + 1, by simp, by omega, hq', ⟨pw_below_drewN hb1.out _⟩⟩
                case measure => show i - ((k : Int) + 1).toNat < i - (k : Int).toNat; omega
            · obtain rfl : i = k := by omega
              have hnd' := Aside0.mk (nodup_take hnd.out hz (fun q h => by rw [← hz]; exact hq.out q h))
              replace hz := Aside0.mk hz
              go_wp2_with fail
              go_roundw
              case rel => exact ⟨i + 1, by simp, by omega, hnd', hb1⟩
              case measure => show nl - ((i : Int) + 1).toNat < nl - (i : Int).toNat; omega
        · obtain rfl : nl = i := by omega
          have hND : Aside0 ids.Nodup := ⟨by have := hnd.out; rw [List.take_of_length_le (by rw [hnl.out]; exact Nat.le_refl _)] at this; exact this⟩
          have hn0 : 0 < n := by omega
          obtain ⟨c0, c1⟩ := hcW.out _ hb.out
          obtain ⟨bG, oG, x0, rfl, -, hx0, -, t1, -, -, -, -⟩ := G_one (Kd.C_below HG.out (hBW.out _ hb.out)) hn0
          rw [show oG + 0 * 6 + 1 = oG + 1 by omega] at t1
          have hhp : headPar (xs.map gOf) = x0.f1 := by
            cases xs with
            | nil => simp at hx0
            | cons y ys => simp at hx0; subst hx0; rfl
          have hz : (x0.f1 != 0) = !decide (x0.f1 = 0) := rfl
          have p0 : (0 : Int) < (n : Int) := by omega
          by_cases hp0 : x0.f1 = 0
          case neg =>
            have hck8 : ck = 8 := k8.out hND.out (.inl (by rw [hhp]; exact hp0))
            rw [decide_eq_false hp0] at hz
            replace hp0 := Aside0.mk hp0; replace hck8 := Aside0.mk hck8; replace hhp := Aside0.mk hhp; replace hx0 := Aside0.mk hx0
            go_wp2_with fail
            go_ret
            exact hck.out _ _ hck8.out.symm (hBW.out _ hb.out)
          case pos =>
          rw [decide_eq_true hp0] at hz
          replace hp0 := Aside0.mk hp0; replace hhp := Aside0.mk hhp; replace hx0 := Aside0.mk hx0
          go_wp2_with fail
          go_loopw [7] (fun iv wt => ∃ i : Nat, iv = .int .i64 i ∧ 1 ≤ i ∧ i ≤ n ∧ Aside0 (∀ q < i, ∀ x, xs[q]? = some x → x.f1 ≠ 0 → x.f1 ∈ gids (xs.map gOf)) ∧ Aside0 (Below w4.heap.size w4 wt)) (fun iv _ => n - (intOf iv).toNat)
          case atStart =>
            refine ⟨1, rfl, Nat.le_refl _, by omega, ⟨fun q hq x hx hx1 => ?_⟩, hb⟩
            obtain rfl : q = 0 := by omega
            rw [hx0.out] at hx
            cases hx
            exact absurd hp0.out hx1
          case round =>
            clear hb c0 c1 t1 hnd
            obtain ⟨i, rfl, h1i, hi, hpar, hb⟩ := hrel
            obtain ⟨c0, c1⟩ := hcW.out _ hb.out
            by_cases hlt : i < n
            · have p1 : 0 ≤ (i : Int) := by omega
              have q1 : (i : Int) < (n : Int) := by omega
              obtain ⟨b, o, x, e9, -, hx, -, t1, -, -, -, -⟩ := G_one (Kd.C_below HG.out (hBW.out _ hb.out)) hlt
              cases e9
              have hz : (x.f1 != 0) = !decide (x.f1 = 0) := rfl
              by_cases hp : x.f1 = 0
              · have hpar' : ∀ q < i + 1, ∀ x, xs[q]? = some x → x.f1 ≠ 0 → x.f1 ∈ gids (xs.map gOf) := by
                  intro q hq y hy hy1
                  by_cases hqe : q = i
                  · subst hqe; rw [hx] at hy; cases hy; exact absurd hp hy1
                  · exact hpar.out q (by omega) y hy hy1
                rw [decide_eq_true hp] at hz
                replace hp := Aside0.mk hp; replace hx := Aside0.mk hx; replace hpar' := Aside0.mk hpar'
                go_wp2_with fail
                go_quiet (fail)
                go_wp2_with fail
                go_roundw
                case rel => exact ⟨i + 1, by simp, by omega, by omega, hpar', ⟨pw_below_drewN hb.out _⟩⟩
                case measure => show n - ((i : Int) + 1).toNat < n - (i : Int).toNat; omega
              · rw [decide_eq_false hp] at hz
                have hbd := Aside0.mk hb.out.drew
                have kg := group_calls _ n c xs (.slice B m d) x.f1 wr.drew (Kd.C_below HG.out (hBW.out _ hbd.out))
                obtain ⟨gi, hgi⟩ : ∃ gi, gint xs x.f1 = gi := ⟨_, rfl⟩
                rw [hgi] at kg
                by_cases hneg : gi < 0
                · have hck8 : ck = 8 := k8.out hND.out (.inr (.inl ⟨gOf x, List.mem_map.2 ⟨x, List.mem_of_getElem? hx, rfl⟩, hp, gint_neg (by rw [← hgi] at hneg; exact hneg)⟩))
                  replace hp := Aside0.mk hp; replace hx := Aside0.mk hx; replace hgi := Aside0.mk hgi; replace kg := Aside0.mk kg; replace hck8 := Aside0.mk hck8
                  go_wp2_with fail
                  (refine Ht.begin2 16 (fun w' => w'.cell? ⟨b0, 0, none⟩ = some (.slice (some ⟨bG, oG, none⟩) n c) ∧ w'.cell? ⟨b0, 1, none⟩ = some (.slice B m d) ∧ w'.cell? ⟨bG, oG + i * 6 + 1, none⟩ = some (.int .i64 x.f1)) (by kernel_rfl) (by kernel_rfl) ⟨c0, c1, t1⟩ ?_; intro hSnow; (try dsimp only at hSnow); simp only [List.take_succ_cons, List.take_zero, List.drop_succ_cons, List.drop_zero]; repeat (refine Ht.Hx.take (v := ?_) (by kernel_rfl) (by kernel_rfl) (fun _ _ _ h => h) (by with_reducible exact hSnow) (Or.inl ⟨by rfl, fun w hSw => ?_⟩) ?_; rotate_left; focus ((try dsimp only at hSw); go_simp; (try with_reducible rfl); done)); (try simp only [Act.put, List.setIfInBounds_toArray, List.set_cons_zero, List.set_cons_succ]))
                  (refine Ht.Hx.effect (by kernel_rfl) ?_; go_wp2_with ((go_at_call 26; (with_reducible refine kg.out.mono ?_); rintro e w5 ⟨rfl, hb5⟩; have hb5' := Aside0.mk (hbd.out.trans (hb5.mono hbd.out.size)); have s5 : w5.cell? ⟨b0, 0, none⟩ = some (.slice (some ⟨bG, oG, none⟩) n c) ∧ w5.cell? ⟨b0, 1, none⟩ = some (.slice B m d) ∧ w5.cell? ⟨bG, oG + i * 6 + 1, none⟩ = some (.int .i64 x.f1) := ⟨pw_cell_below hb5 c0, pw_cell_below hb5 c1, pw_cell_below hb5 t1⟩; clear hb5)); refine ⟨s5, ?_⟩; clear hSnow; (have hSnow := s5); repeat (refine Ht.Hx.take (v := ?_) (by kernel_rfl) (by kernel_rfl) (fun _ _ _ h => h) (by with_reducible exact hSnow) (Or.inl ⟨by rfl, fun w hSw => ?_⟩) ?_; rotate_left; focus ((try dsimp only at hSw); go_simp; (try with_reducible rfl); done)); (try simp only [Act.put, List.setIfInBounds_toArray, List.set_cons_zero, List.set_cons_succ]))
                  (refine Ht.Hx.done (by kernel_rfl) ?_; clear hSnow)
                  all_goals go_wp2_with fail
                  all_goals go_ret
                  all_goals exact hck.out _ _ hck8.out.symm (hBW.out _ hb5'.out)
                · have hpar' : ∀ q < i + 1, ∀ x, xs[q]? = some x → x.f1 ≠ 0 → x.f1 ∈ gids (xs.map gOf) := by
                    intro q hq y hy hy1
                    by_cases hqe : q = i
                    · subst hqe; rw [hx] at hy; cases hy; exact gint_pos (by rw [hgi]; exact hneg)
                    · exact hpar.out q (by omega) y hy hy1
                  replace hp := Aside0.mk hp; replace hx := Aside0.mk hx; replace hgi := Aside0.mk hgi; replace kg := Aside0.mk kg; replace hpar' := Aside0.mk hpar'
                  go_wp2_with fail
                  (refine Ht.begin2 16 (fun w' => w'.cell? ⟨b0, 0, none⟩ = some (.slice (some ⟨bG, oG, none⟩) n c) ∧ w'.cell? ⟨b0, 1, none⟩ = some (.slice B m d) ∧ w'.cell? ⟨bG, oG + i * 6 + 1, none⟩ = some (.int .i64 x.f1)) (by kernel_rfl) (by kernel_rfl) ⟨c0, c1, t1⟩ ?_; intro hSnow; (try dsimp only at hSnow); simp only [List.take_succ_cons, List.take_zero, List.drop_succ_cons, List.drop_zero]; repeat (refine Ht.Hx.take (v := ?_) (by kernel_rfl) (by kernel_rfl) (fun _ _ _ h => h) (by with_reducible exact hSnow) (Or.inl ⟨by rfl, fun w hSw => ?_⟩) ?_; rotate_left; focus ((try dsimp only at hSw); go_simp; (try with_reducible rfl); done)); (try simp only [Act.put, List.setIfInBounds_toArray, List.set_cons_zero, List.set_cons_succ]))
                  (refine Ht.Hx.effect (by kernel_rfl) ?_; go_wp2_with ((go_at_call 26; (with_reducible refine kg.out.mono ?_); rintro e w5 ⟨rfl, hb5⟩; have hb5' := Aside0.mk (hbd.out.trans (hb5.mono hbd.out.size)); have s5 : w5.cell? ⟨b0, 0, none⟩ = some (.slice (some ⟨bG, oG, none⟩) n c) ∧ w5.cell? ⟨b0, 1, none⟩ = some (.slice B m d) ∧ w5.cell? ⟨bG, oG + i * 6 + 1, none⟩ = some (.int .i64 x.f1) := ⟨pw_cell_below hb5 c0, pw_cell_below hb5 c1, pw_cell_below hb5 t1⟩; clear hb5)); refine ⟨s5, ?_⟩; clear hSnow; (have hSnow := s5); repeat (refine Ht.Hx.take (v := ?_) (by kernel_rfl) (by kernel_rfl) (fun _ _ _ h => h) (by with_reducible exact hSnow) (Or.inl ⟨by rfl, fun w hSw => ?_⟩) ?_; rotate_left; focus ((try dsimp only at hSw); go_simp; (try with_reducible rfl); done)); (try simp only [Act.put, List.setIfInBounds_toArray, List.set_cons_zero, List.set_cons_succ]))
                  (refine Ht.Hx.done (by kernel_rfl) ?_; clear hSnow)
                  all_goals go_wp2_with fail
                  all_goals go_roundw
                  all_goals first
                    | (case rel => exact ⟨i + 1, by simp, by omega, by omega, hpar', hb5'⟩)
                    | (case measure => show n - ((i : Int) + 1).toNat < n - (i : Int).toNat; omega)
            · obtain rfl : n = i := by omega
              have hPAR : ∀ x ∈ xs, x.f1 ≠ 0 → x.f1 ∈ gids (xs.map gOf) := by
                intro x hx hx1
                obtain ⟨q, hq⟩ := List.mem_iff_getElem?.1 hx
                exact hpar.out q (by have := (List.getElem?_eq_some_iff.1 hq).1; rw [hln.out] at this; exact this) x hq hx1
              have hNM := hno.out hND.out hPAR
              clear hpar
              replace hPAR := Aside0.mk hPAR; replace hNM := Aside0.mk hNM
              go_wp2_with fail
              go_loopw [8] (fun iv wt => ∃ i : Nat, iv = .int .i64 i ∧ i ≤ m ∧ Aside0 (∀ q < i, ∀ x, ts[q]? = some x → x.f1 ∈ gids (xs.map gOf)) ∧ Aside0 (Below w4.heap.size w4 wt)) (fun iv _ => m - (intOf iv).toNat)
              case atStart => exact ⟨0, rfl, Nat.zero_le _, ⟨fun q hq => absurd hq (Nat.not_lt_zero _)⟩, hb⟩
              case round =>
                clear hb c0 c1
                obtain ⟨i, rfl, hi, hgrp, hb⟩ := hrel
                obtain ⟨c0, c1⟩ := hcW.out _ hb.out
                by_cases hlt : i < m
                · have p1 : 0 ≤ (i : Int) := by omega
                  have q1 : (i : Int) < (m : Int) := by omega
                  obtain ⟨b, o, x, rfl, -, hx, -, t1, -, -, -, -, -, -⟩ := T_one (Kd.C_below HT.out (hBW.out _ hb.out)) hlt
                  have hbd := Aside0.mk hb.out.drew
                  have kg := group_calls _ n c xs (.slice (some ⟨b, o, none⟩) m d) x.f1 wr.drew (Kd.C_below HG.out (hBW.out _ hbd.out))
                  obtain ⟨gi, hgi⟩ : ∃ gi, gint xs x.f1 = gi := ⟨_, rfl⟩
                  rw [hgi] at kg
                  by_cases hneg : gi < 0
                  · have hck8 : ck = 8 := k8.out hND.out (.inr (.inr ⟨tOf x, List.mem_map.2 ⟨x, List.mem_of_getElem? hx, rfl⟩, gint_neg (by rw [← hgi] at hneg; exact hneg)⟩))
                    replace hx := Aside0.mk hx; replace hgi := Aside0.mk hgi; replace kg := Aside0.mk kg; replace hck8 := Aside0.mk hck8
                    go_wp2_with fail
                    (refine Ht.begin2 8 (fun w' => w'.cell? ⟨b0, 0, none⟩ = some (.slice (some ⟨bG, oG, none⟩) n c) ∧ w'.cell? ⟨b0, 1, none⟩ = some (.slice (some ⟨b, o, none⟩) m d) ∧ w'.cell? ⟨b, o + i * 8 + 1, none⟩ = some (.int .i64 x.f1)) (by kernel_rfl) (by kernel_rfl) ⟨c0, c1, t1⟩ ?_; intro hSnow; (try dsimp only at hSnow); simp only [List.take_succ_cons, List.take_zero, List.drop_succ_cons, List.drop_zero]; repeat (refine Ht.Hx.take (v := ?_) (by kernel_rfl) (by kernel_rfl) (fun _ _ _ h => h) (by with_reducible exact hSnow) (Or.inl ⟨by rfl, fun w hSw => ?_⟩) ?_; rotate_left; focus ((try dsimp only at hSw); go_simp; (try with_reducible rfl); done)); (try simp only [Act.put, List.setIfInBounds_toArray, List.set_cons_zero, List.set_cons_succ]))
                    (refine Ht.Hx.effect (by kernel_rfl) ?_; go_wp2_with ((go_at_call 26; (with_reducible refine kg.out.mono ?_); rintro e w5 ⟨rfl, hb5⟩; have hb5' := Aside0.mk (hbd.out.trans (hb5.mono hbd.out.size)); have s5 : w5.cell? ⟨b0, 0, none⟩ = some (.slice (some ⟨bG, oG, none⟩) n c) ∧ w5.cell? ⟨b0, 1, none⟩ = some (.slice (some ⟨b, o, none⟩) m d) ∧ w5.cell? ⟨b, o + i * 8 + 1, none⟩ = some (.int .i64 x.f1) := ⟨pw_cell_below hb5 c0, pw_cell_below hb5 c1, pw_cell_below hb5 t1⟩; clear hb5)); refine ⟨s5, ?_⟩; clear hSnow; (have hSnow := s5); repeat (refine Ht.Hx.take (v := ?_) (by kernel_rfl) (by kernel_rfl) (fun _ _ _ h => h) (by with_reducible exact hSnow) (Or.inl ⟨by rfl, fun w hSw => ?_⟩) ?_; rotate_left; focus ((try dsimp only at hSw); go_simp; (try with_reducible rfl); done)); (try simp only [Act.put, List.setIfInBounds_toArray, List.set_cons_zero, List.set_cons_succ]))
                    (refine Ht.Hx.done (by kernel_rfl) ?_; clear hSnow)
                    go_wp2_with fail
                    go_ret
                    exact hck.out _ _ hck8.out.symm (hBW.out _ hb5'.out)
                  · have hgrp' : ∀ q < i + 1, ∀ x, ts[q]? = some x → x.f1 ∈ gids (xs.map gOf) := by
                      intro q hq y hy
                      by_cases hqe : q = i
                      · subst hqe; rw [hx] at hy; cases hy; exact gint_pos (by rw [hgi]; exact hneg)
                      · exact hgrp.out q (by omega) y hy
                    replace hx := Aside0.mk hx; replace hgi := Aside0.mk hgi; replace kg := Aside0.mk kg; replace hgrp' := Aside0.mk hgrp'
                    go_wp2_with fail
                    (refine Ht.begin2 8 (fun w' => w'.cell? ⟨b0, 0, none⟩ = some (.slice (some ⟨bG, oG, none⟩) n c) ∧ w'.cell? ⟨b0, 1, none⟩ = some (.slice (some ⟨b, o, none⟩) m d) ∧ w'.cell? ⟨b, o + i * 8 + 1, none⟩ = some (.int .i64 x.f1)) (by kernel_rfl) (by kernel_rfl) ⟨c0, c1, t1⟩ ?_; intro hSnow; (try dsimp only at hSnow); simp only [List.take_succ_cons, List.take_zero, List.drop_succ_cons, List.drop_zero]; repeat (refine Ht.Hx.take (v := ?_) (by kernel_rfl) (by kernel_rfl) (fun _ _ _ h => h) (by with_reducible exact hSnow) (Or.inl ⟨by rfl, fun w hSw => ?_⟩) ?_; rotate_left; focus ((try dsimp only at hSw); go_simp; (try with_reducible rfl); done)); (try simp only [Act.put, List.setIfInBounds_toArray, List.set_cons_zero, List.set_cons_succ]))
                    (refine Ht.Hx.effect (by kernel_rfl) ?_; go_wp2_with ((go_at_call 26; (with_reducible refine kg.out.mono ?_); rintro e w5 ⟨rfl, hb5⟩; have hb5' := Aside0.mk (hbd.out.trans (hb5.mono hbd.out.size)); have s5 : w5.cell? ⟨b0, 0, none⟩ = some (.slice (some ⟨bG, oG, none⟩) n c) ∧ w5.cell? ⟨b0, 1, none⟩ = some (.slice (some ⟨b, o, none⟩) m d) ∧ w5.cell? ⟨b, o + i * 8 + 1, none⟩ = some (.int .i64 x.f1) := ⟨pw_cell_below hb5 c0, pw_cell_below hb5 c1, pw_cell_below hb5 t1⟩; clear hb5)); refine ⟨s5, ?_⟩; clear hSnow; (have hSnow := s5); repeat (refine Ht.Hx.take (v := ?_) (by kernel_rfl) (by kernel_rfl) (fun _ _ _ h => h) (by with_reducible exact hSnow) (Or.inl ⟨by rfl, fun w hSw => ?_⟩) ?_; rotate_left; focus ((try dsimp only at hSw); go_simp; (try with_reducible rfl); done)); (try simp only [Act.put, List.setIfInBounds_toArray, List.set_cons_zero, List.set_cons_succ]))
                    (refine Ht.Hx.done (by kernel_rfl) ?_; clear hSnow)
                    go_wp2_with fail
                    go_roundw
                    case rel => exact ⟨i + 1, by simp, by omega, hgrp', hb5'⟩
                    case measure => show m - ((i : Int) + 1).toNat < m - (i : Int).toNat; omega
                · obtain rfl : m = i := by omega
                  have hGRP : ∀ x ∈ ts, x.f1 ∈ gids (xs.map gOf) := by
                    intro x hx
                    obtain ⟨q, hq⟩ := List.mem_iff_getElem?.1 hx
                    exact hgrp.out q (by have := (List.getElem?_eq_some_iff.1 hq).1; rw [hlm.out] at this; exact this) x hq
                  have hNB : ¬ Bad (xs.map gOf) (ts.map tOf) := by
                    rintro (h | ⟨g, hg, h1, h2⟩ | ⟨t, ht, h1⟩)
                    · exact h (by rw [hhp.out]; exact hp0.out)
                    · obtain ⟨x, hx, rfl⟩ := List.mem_map.1 hg
                      exact h2 (hPAR.out x hx h1)
                    · obtain ⟨x, hx, rfl⟩ := List.mem_map.1 ht
                      exact h1 (hGRP x hx)
                  have hbd := Aside0.mk hb.out.drew
                  have kw := Whole_calls (some ⟨bG, oG, none⟩) n c xs B m d wr.drew (Kd.C_below HG.out (hBW.out _ hbd.out)) (by omega)
                  clear hgrp
                  cases hw : rwhole xs with
                  | false =>
                    have hck5 : ck = 5 := k5.out hND.out hNB (.inl (by rw [← hNM.out.wholeE]; exact hw))
                    rw [hw] at kw
                    replace hGRP := Aside0.mk hGRP; replace hNB := Aside0.mk hNB; replace kw := Aside0.mk kw; replace hw := Aside0.mk hw; replace hck5 := Aside0.mk hck5
                    go_wp2_with fail
                    go_region_with (first
                      | (go_at_call 23; (with_reducible refine kw.out.mono ?_); rintro e w5 ⟨rfl, hb5⟩; have hb5' := Aside0.mk (hbd.out.trans (hb5.mono hbd.out.size)); clear hb5)
                      | ((with_reducible refine gate_op (.load 25 (.tmp 1)) rfl ?_); refine wpList_load_midB rfl _ _ rfl ⟨b0, 0, none⟩ rfl [.slice (some ⟨bG, oG, none⟩) n c, .slice B m d] _ (two_cells c0 c1) Try.underlying25 rfl info_S ?_))
                    all_goals go_wp2_with fail
                    all_goals go_ret
                    all_goals exact hck.out _ _ hck5.out.symm (hBW.out _ hb5'.out)
                  | true =>
                    have hwo : wholeOf (xs.map gOf) = true := by rw [← hNM.out.wholeE]; exact hw
                    have hY : Tree (xs.map gOf) := tree_of hNM.out.nd hoG.out hwo
                    rw [hw] at kw
                    have ko := fun W (hW : Below w.heap.size w W) => rOrder_calls (some ⟨bG, oG, none⟩) n c xs B m d ts W (Kd.C_below HG.out hW) (Kd.C_below HT.out hW) hn0 (by omega) (by omega) hNM.out hY hw (hT0.out hND.out)
                    have ks := fun A' n' c' xs' B' m' d' ts' W (hW : Below w.heap.size w W) (h1 : kG.C W A' n' xs') (h2 : n' ≤ c') (h3 : kT.C W B' m' ts') (h4 : m' ≤ d') (h5 : n' < 4611686018427387904) (h6 : m' < 4611686018427387904) => same_calls A' n' c' xs' B' m' d' ts' (some ⟨bG, oG, none⟩) n c xs B m d ts W h1 h2 h3 h4 (Kd.C_below HG.out hW) hc.out (Kd.C_below HT.out hW) hd.out h5 h6
                    have kt := fun W (hW : Below w.heap.size w W) => rTall_calls (some ⟨bG, oG, none⟩) n c xs B m d W (Kd.C_below HG.out hW) (by omega)
                    rw [hNM.out.tallE] at kt
                    have k0' := k0.out hND.out hNB hwo
                    have k5' : orderOf (xs.map gOf) (ts.map tOf) ≠ (xs.map gOf, ts.map tOf) → ck = 5 := fun h => k5.out hND.out hNB (.inr h)
                    have hul6 : ∀ gs6 : List SG, gs6.map gOf = underOf (xs.map gOf) → gs6.length < 4611686018427387904 := fun gs6 h => by
                      obtain ⟨ys, id0, -, h1, -, -, h4, -⟩ := under_rows hY (by rintro rfl; have := hln.out; simp at this; omega)
                      have h5 := congrArg List.length (h.trans h1.symm)
                      rw [List.length_map, List.length_map] at h5
                      have h6 := Nat.mul_le_mul (show xs.length + 2 ≤ 4098 by rw [hln.out]; omega) (show xs.length ≤ 4096 by rw [hln.out]; omega)
                      omega
                    have hut6 : ∀ ts6 : List ST, ts6.map tOf = sortT (ts.map tOf) → ts6.length < 4611686018427387904 := fun ts6 h => by
                      have h5 := congrArg List.length h
                      rw [List.length_map, show (sortT (ts.map tOf)).length = (ts.map tOf).length from List.length_mergeSort _, List.length_map, hlm.out] at h5
                      omega
                    obtain ⟨so, hso⟩ : ∃ so, decide (orderOf (xs.map gOf) (ts.map tOf) = (xs.map gOf, ts.map tOf)) = so := ⟨_, rfl⟩
                    replace hGRP := Aside0.mk hGRP; replace hNB := Aside0.mk hNB; replace kw := Aside0.mk kw; replace hw := Aside0.mk hw; replace hwo := Aside0.mk hwo; replace hY := Aside0.mk hY; replace ko := Aside0.mk ko; replace ks := Aside0.mk ks; replace kt := Aside0.mk kt; replace k0' := Aside0.mk k0'; replace k5' := Aside0.mk k5'; replace hul6 := Aside0.mk hul6; replace hut6 := Aside0.mk hut6; replace hso := Aside0.mk hso
                    cases so with
                    | false =>
                      have hck5 := Aside0.mk (k5'.out (of_decide_eq_false hso.out))
                      go_wp2_with fail
                      (first | (go_region_held3 (fun w' => w'.cell? ⟨b0, 0, none⟩ = some (.slice (some ⟨bG, oG, none⟩) n c) ∧ w'.cell? ⟨b0, 1, none⟩ = some (.slice B m d))
                        (first | (with_reducible exact ⟨c0, c1⟩) | (with_reducible exact s5) | (with_reducible exact s6) | (with_reducible exact s7) | go_keep)
                        (first
                          | (go_at_call 23; (with_reducible refine kw.out.mono ?_); rintro e w5 ⟨rfl, hb5⟩; have hb5' := Aside0.mk (hbd.out.trans (hb5.mono hbd.out.size)); have s5 : w5.cell? ⟨b0, 0, none⟩ = some (.slice (some ⟨bG, oG, none⟩) n c) ∧ w5.cell? ⟨b0, 1, none⟩ = some (.slice B m d) := ⟨pw_cell_below hb5 c0, pw_cell_below hb5 c1⟩; clear hb5)
                          | (go_at_call 24; (with_reducible refine (ko.out w5 (hBW.out _ hb5'.out)).mono ?_); rintro e w6 ⟨A6, c6, B6, d6, gs6, ts6, rfl, q1, q2, q3, q4, q5, q6, q7, hb6⟩; have hb6' := Aside0.mk (hb5'.out.trans (hb6.mono hb5'.out.size)); have s6 : w6.cell? ⟨b0, 0, none⟩ = some (.slice (some ⟨bG, oG, none⟩) n c) ∧ w6.cell? ⟨b0, 1, none⟩ = some (.slice B m d) := ⟨pw_cell_below hb6 s5.1, pw_cell_below hb6 s5.2⟩; have ks6 := ks.out A6 gs6.length c6 gs6 B6 ts6.length d6 ts6 w6 (hBW.out _ hb6'.out) q3 q1 q4 q2 (hul6.out gs6 q5) (hut6.out ts6 q6); rw [same_order hwo.out q5 q6, hso.out] at ks6; clear hb6 q1 q2 q3 q4 q5 q6 q7; replace ks6 := Aside0.mk ks6)
                          | (go_at_call 19; (with_reducible refine ks6.out.mono ?_); rintro e w7 ⟨rfl, hb7⟩; have hb7' := Aside0.mk (hb6'.out.trans (hb7.mono hb6'.out.size)); have s7 : w7.cell? ⟨b0, 0, none⟩ = some (.slice (some ⟨bG, oG, none⟩) n c) ∧ w7.cell? ⟨b0, 1, none⟩ = some (.slice B m d) := ⟨pw_cell_below hb7 s6.1, pw_cell_below hb7 s6.2⟩; clear hb7))) | fail)
                      all_goals go_wp2_with fail
                      all_goals go_ret
                      all_goals exact hck.out _ _ hck5.out.symm (hBW.out _ hb7'.out)
                    | true =>
                      have hck0 := k0'.out (of_decide_eq_true hso.out)
                      obtain ⟨tl, htl⟩ : ∃ tl, tallOf (xs.map gOf) = tl := ⟨_, rfl⟩
                      rw [htl] at hck0 kt
                      replace htl := Aside0.mk htl; replace hck0 := Aside0.mk hck0
                      go_wp2_with fail
                      (first | (go_region_held3 (fun w' => w'.cell? ⟨b0, 0, none⟩ = some (.slice (some ⟨bG, oG, none⟩) n c) ∧ w'.cell? ⟨b0, 1, none⟩ = some (.slice B m d))
                        (first | (with_reducible exact ⟨c0, c1⟩) | (with_reducible exact s5) | (with_reducible exact s6) | (with_reducible exact s7) | go_keep)
                        (first
                          | (go_at_call 23; (with_reducible refine kw.out.mono ?_); rintro e w5 ⟨rfl, hb5⟩; have hb5' := Aside0.mk (hbd.out.trans (hb5.mono hbd.out.size)); have s5 : w5.cell? ⟨b0, 0, none⟩ = some (.slice (some ⟨bG, oG, none⟩) n c) ∧ w5.cell? ⟨b0, 1, none⟩ = some (.slice B m d) := ⟨pw_cell_below hb5 c0, pw_cell_below hb5 c1⟩; clear hb5)
                          | (go_at_call 24; (with_reducible refine (ko.out w5 (hBW.out _ hb5'.out)).mono ?_); rintro e w6 ⟨A6, c6, B6, d6, gs6, ts6, rfl, q1, q2, q3, q4, q5, q6, q7, hb6⟩; have hb6' := Aside0.mk (hb5'.out.trans (hb6.mono hb5'.out.size)); have s6 : w6.cell? ⟨b0, 0, none⟩ = some (.slice (some ⟨bG, oG, none⟩) n c) ∧ w6.cell? ⟨b0, 1, none⟩ = some (.slice B m d) := ⟨pw_cell_below hb6 s5.1, pw_cell_below hb6 s5.2⟩; have ks6 := ks.out A6 gs6.length c6 gs6 B6 ts6.length d6 ts6 w6 (hBW.out _ hb6'.out) q3 q1 q4 q2 (hul6.out gs6 q5) (hut6.out ts6 q6); rw [same_order hwo.out q5 q6, hso.out] at ks6; clear hb6 q1 q2 q3 q4 q5 q6 q7; replace ks6 := Aside0.mk ks6)
                          | (go_at_call 19; (with_reducible refine ks6.out.mono ?_); rintro e w7 ⟨rfl, hb7⟩; have hb7' := Aside0.mk (hb6'.out.trans (hb7.mono hb6'.out.size)); have s7 : w7.cell? ⟨b0, 0, none⟩ = some (.slice (some ⟨bG, oG, none⟩) n c) ∧ w7.cell? ⟨b0, 1, none⟩ = some (.slice B m d) := ⟨pw_cell_below hb7 s6.1, pw_cell_below hb7 s6.2⟩; clear hb7))) | fail)
                      obtain ⟨c07, c17⟩ := s7
                      by_cases h16 : 16 ≤ tl
                      · have hck10 := hck0.out
                        rw [if_pos h16] at hck10
                        replace hck10 := Aside0.mk hck10
                        all_goals go_wp2_with (first
                          | ((with_reducible refine gate_op (.load 25 (.tmp 1)) rfl ?_); refine wpList_load_midB rfl _ _ rfl ⟨b0, 0, none⟩ rfl [.slice (some ⟨bG, oG, none⟩) n c, .slice B m d] _ (two_cells c07 c17) Try.underlying25 rfl info_S ?_)
                          | (go_at_call 17; (with_reducible refine (kt.out _ (hBW.out _ hb7'.out)).mono ?_); rintro e w8 ⟨rfl, hb8⟩; have hb8' := Aside0.mk (hb7'.out.trans (hb8.mono hb7'.out.size)); clear hb8))
                        all_goals go_ret
                        all_goals exact hck.out _ _ hck10.out.symm (hBW.out _ hb8'.out)
                      · have hck10 := hck0.out
                        rw [if_neg h16] at hck10
                        replace hck10 := Aside0.mk hck10
                        all_goals go_wp2_with (first
                          | ((with_reducible refine gate_op (.load 25 (.tmp 1)) rfl ?_); refine wpList_load_midB rfl _ _ rfl ⟨b0, 0, none⟩ rfl [.slice (some ⟨bG, oG, none⟩) n c, .slice B m d] _ (two_cells c07 c17) Try.underlying25 rfl info_S ?_)
                          | (go_at_call 17; (with_reducible refine (kt.out _ (hBW.out _ hb7'.out)).mono ?_); rintro e w8 ⟨rfl, hb8⟩; have hb8' := Aside0.mk (hb7'.out.trans (hb8.mono hb7'.out.size)); clear hb8))
                        all_goals go_ret
                        all_goals exact hck.out _ _ hck10.out.symm (hBW.out _ hb8'.out)
end Go.Proofs.Ytpnjhffnlafabaa.Sn
