/- DiskWhole: a crash keeps sectors whole, or not at all. -/
import Derived.Test.YtiibfboendnifaaDkP
namespace Go.Proofs.Ytiibfboendnifaa.Dk
set_option linter.unusedVariables false
set_option linter.unusedSimpArgs false
open Go.RowKit Go.Proofs.Bk Go.Proofs.Bm Go.Proofs.Op Go.Proofs.YtiibfboendnifaaW.PrintWords

theorem drew4 (w : World) (m a b : Nat) : ((w.drewN m).drewN a).drewN b = w.drewN (m + a + b) := by
  show ({ w with drawn := w.drawn + m + a + b } : World) = { w with drawn := w.drawn + (m + a + b) }
  congr 1; omega
set_option maxHeartbeats 8000000 in
set_option maxRecDepth 100000 in
theorem DiskWhole_calls (w : World) (A0 : Option Addr) (n0 c0 : Nat) (l0 : List OpM) (hr0 : kOp.C w A0 n0 l0) (hc0 : n0 ≤ c0) (ho0 : ∀ x ∈ l0, okOp x)
    (A1 : Option Addr) (n1 c1 : Nat) (l1 : List Bool) (hr1 : Kd.bool.C w A1 n1 l1) (hc1 : n1 ≤ c1) (ho1 : ∀ x ∈ l1, True) :
    Calls Try.prog 5 #[.slice A0 n0 c0, .slice A1 n1 c1] w (OkPost w) := by
  have hb0 : Aside0 (∀ o ∈ l0, ∀ x ∈ o.b, 0 ≤ x ∧ x ≤ 255) := ⟨fun o ho x hx => wf_u8 ((ho0 o ho).2.2.2.1 x hx)⟩
  have hn1 := hr1.2.1
  have hl1 : Aside0 (l1.length = n1) := ⟨hr1.1⟩
  have HR0 := Aside0.mk hr0
  have HR1 := Aside0.mk hr1
  clear hr0 hr1 hc0 hc1 ho0 ho1
  go_enter Try.func5, Try.ntmps5
  go_wp2_with fail
  with_reducible refine (awake_calls w).mono ?_
  rintro e w1 ⟨rfl, hB1⟩
  replace hB1 := Aside0.mk hB1
  go_wp2_with fail
  with_reducible refine (few_calls A0 n0 c0 l0 _ (Kd.C_below HR0.out hB1.out)).mono ?_
  rintro e w' ⟨⟨b1, rfl⟩, rfl⟩
  by_cases hb : b1 = true ∧ n1 ≤ 50
  · obtain ⟨rfl, q1⟩ := hb
    go_wp2_with fail
    with_reducible refine (walked_calls A0 n0 c0 l0 _ (Kd.C_below HR0.out hB1.out) hb0.out).mono ?_
    rintro e w4 ⟨B, K, M, D, rfl, hD, hF, hO⟩
    replace hO := hO.back hB1.out
    replace hD := Aside0.mk hD; replace hF := Aside0.mk hF; replace hO := Aside0.mk hO
    go_wp2_with fail
    with_reducible refine (Kept_calls B K M D _ hD.out).mono ?_
    rintro e wK ⟨v5, rfl, hwas, hbK⟩
    have hwas := R_far hwas (by have := hD.out.lts; omega)
    obtain ⟨A5, c5, rfl, hc5, hwc⟩ := Kd.R_reads hwas
    rw [hF.out.len] at hc5 hwc ⊢
    have hDK := hD.out.below hbK
    have hOK := hO.out.below hbK
    replace hwas := Aside0.mk hwas; replace hwc := Aside0.mk hwc; replace hDK := Aside0.mk hDK; replace hOK := Aside0.mk hOK; replace hbK := Aside0.mk hbK; replace hc5 := Aside0.mk hc5
    go_wp2_with fail
    go_loopw [9, 10] (fun u iv wr => ∃ (k : Nat), iv = .int .i64 k ∧ k ≤ 20 ∧ Aside0 (kSec.R 23 wr wK.heap.size (fun k => ¬ FD B K M k) u ((List.range k).map (fun j => D.sec (j : Nat)))) ∧ Aside0 (Below wK.heap.size wK wr)) (fun _ iv _ => 20 - (intOf iv).toNat)
    case atStart => exact ⟨0, rfl, by omega, ⟨Kd.R_nil _ _ _ _ _⟩, ⟨Below.refl _ _⟩⟩
    case round =>
      obtain ⟨k, rfl, hk, HO, HB⟩ := hrel
      by_cases hlt : k < 20
      · have p1 : 0 ≤ (k : Int) := by omega
        have p2 : (k : Int) < 20 := by omega
        have hDr := hDK.out.below HB.out
        have hE := Aside0.mk (hF.out.rdErr p1 p2)
        have hS := Aside0.mk (Sec_sec hDr p1 (by rw [hF.out.len]; exact p2))
        replace hDr := Aside0.mk hDr
        go_wp2_with fail
        with_reducible refine (Read_calls B K M D k _ hDr.out).mono ?_
        rintro e V ⟨v, rfl, hs, _, hbV⟩
        rw [hE.out] at hs ⊢
        obtain ⟨g, hs, hg, hg'⟩ := hs rfl
        obtain ⟨f, d, rfl, hd, hx⟩ := hs
        rw [hS.out.1] at hd ⊢
        change SlRow V g f (D.sec k) at hx
        have hOV : kSec.R 23 V wK.heap.size (fun k => ¬ FD B K M k) u9 ((List.range k).map (fun j => D.sec (j : Nat))) := Kd.R_step HO.out (fun i _ hi => hbV.block i hi)
        have hBV := below_then HB.out HB.out.size hbV
        have hpM : kSec.M V wK.heap.size (fun i => i = g) (D.sec k) [.slice (some ⟨g, f, none⟩) 64 d] := ⟨g, f, d, by rw [hS.out.1], by rw [hS.out.1]; exact hd.1, by rw [hS.out.1]; decide, rfl, Nat.le_trans HB.out.size hg, hx, hd.2⟩
        have hgf : ¬ FD B K M g := fun hf => by have := hDr.out.lts; unfold FD at hf; omega
        have hu9 : some g ≠ u9.ownBlock := fun e => by have := Kd.R_lt HO.out _ e.symm; omega
        have hfr : ∀ i, V.heap.size ≤ i → ¬ FD B K M i := fun i hi hf => by have := (hDr.out.below hbV).lts; unfold FD at hf; omega
        replace hd := Aside0.mk hd; replace hx := Aside0.mk hx; replace hOV := Aside0.mk hOV; replace hBV := Aside0.mk hBV; replace hpM := Aside0.mk hpM; replace hgf := Aside0.mk hgf; replace hu9 := Aside0.mk hu9; replace hfr := Aside0.mk hfr; replace hbV := Aside0.mk hbV; replace hg := Aside0.mk hg; replace hg' := Aside0.mk hg'
        go_wp2_with ((with_reducible refine gate_op (.call ⟨.builtin .append, #[.tmp 52, .tmp 54], #[43, 43]⟩) rfl ?_); go_must (refine Kd.R_append kSec (w0 := wK) wK.heap.size rfl (.tmp 52) (.tmp 54) 43 23 (.slice none 0 0) 24 rfl Try.underlying43 info_bytes rfl (by decide) (by omega) u9 ((List.range k).map (fun j => D.sec (j : Nat))) (D.sec k) [.slice (some ⟨g, f, none⟩) 64 d] (fun k => ¬ FD B K M k) (fun i => i = g) rfl rfl ?aP ?aQ ?aF ?aO ?aB ?aS ?aL ?_); (case aP => exact hpM.out); (case aQ => exact fun i hi => ⟨by rw [hi]; exact hgf.out, by rw [hi]; exact hu9.out⟩); (case aF => exact hfr.out); (case aO => exact hOV.out); (case aB => exact hBV.out); (case aS => exact hBV.out.size); (case aL => rw [List.length_map, List.length_range]; omega); intro v1 wb ho hb1 hg1 hat1; replace ho := Aside0.mk ho; replace hb1 := Aside0.mk hb1; clear hg1 hat1)
        have hfin : Aside0 (kSec.R 23 wb wK.heap.size (fun k => ¬ FD B K M k) v1 ((List.range (k + 1)).map (fun j => D.sec (j : Nat)))) := ⟨by rw [List.range_succ, List.map_append]; exact ho.out⟩
        go_roundw
        case rel => exact ⟨k + 1, by simp, by omega, hfin, hb1⟩
        case measure => show 20 - ((k : Int) + 1).toNat < 20 - (k : Int).toNat; omega
      · have hk20 : k = 20 := by omega
        subst hk20
        clear hlt hk
        obtain ⟨A9, c9, rfl, hc9, hsc⟩ := Kd.R_reads HO.out
        rw [List.length_map, List.length_range] at hc9 hsc ⊢
        have hDr := hDK.out.below HB.out
        have hOr := hOK.out.below HB.out
        have hwr : kSec.R 23 wr w4.heap.size (fun k => ¬ FD B K M k) (.slice A5 D.kept.length c5) D.kept := Kd.R_step hwas.out (fun i _ hi => HB.out.block i hi)
        replace hc9 := Aside0.mk hc9; replace hsc := Aside0.mk hsc; replace hDr := Aside0.mk hDr; replace hOr := Aside0.mk hOr; replace hwr := Aside0.mk hwr
        go_wp2_with fail
        with_reducible refine (Waits_calls B K M D _ hDr.out).mono ?_
        rintro e w7 ⟨v, rfl, ⟨A7, c7, rfl, hc7, hf7⟩, hb7⟩
        obtain ⟨nw, hnw⟩ : ∃ nw, D.waits.length = nw := ⟨_, rfl⟩
        have hnw5 := hDr.out.waits_len
        rw [hnw] at hc7 hnw5 ⊢
        have hws : CG (Kd.int .i64) (FD B K M) w7 A7 nw D.wts := ⟨hc7, fun ad e _ hg => by have := hf7 ad e; have := hDr.out.lts; unfold FD at hg; omega⟩
        have hD7 := hDr.out.below hb7
        have hO7 := hOr.out.below hb7
        have hw7 : kSec.R 23 w7 w4.heap.size (fun k => ¬ FD B K M k) (.slice A5 D.kept.length c5) D.kept := Kd.R_step hwr.out (fun i _ hi => hb7.block i hi)
        have hs7 : kSec.R 23 w7 wK.heap.size (fun k => ¬ FD B K M k) (.slice A9 ((List.range 20).map (fun j => D.sec (j : Nat))).length c9) ((List.range 20).map (fun j => D.sec (j : Nat))) := Kd.R_step HO.out (fun i _ hi => hb7.block i hi)
        have hg4 : CG Kd.bool (FD B K M) w7 A1 n1 l1 := hO7.cg HR1.out
        replace hws := Aside0.mk hws; replace hD7 := Aside0.mk hD7; replace hO7 := Aside0.mk hO7; replace hw7 := Aside0.mk hw7; replace hs7 := Aside0.mk hs7; replace hg4 := Aside0.mk hg4; replace hc7 := Aside0.mk hc7; replace hf7 := Aside0.mk hf7; replace hb7 := Aside0.mk hb7
        go_wp2_with fail
        with_reducible refine (Crash_calls B K M D A1 n1 c1 l1 _ hD7.out hg4.out).mono ?_
        rintro e w8 ⟨rfl, hD8, hk8⟩
        have hO8 := hO7.out.keep hk8
        have hw8 := R_keep hw7.out hk8
        have hs8 := R_keep hs7.out hk8
        have hws8 : CG (Kd.int .i64) (FD B K M) w8 A7 nw D.wts := CG.keep hws.out hk8 (fun _ h => h)
        have hF8 := hF.out.crash l1
        replace hD8 := Aside0.mk hD8; replace hk8 := Aside0.mk hk8; replace hO8 := Aside0.mk hO8; replace hw8 := Aside0.mk hw8; replace hs8 := Aside0.mk hs8; replace hws8 := Aside0.mk hws8; replace hF8 := Aside0.mk hF8
        go_wp2_with fail
        with_reducible refine (Kept_calls B K M _ _ hD8.out).mono ?_
        rintro e w9 ⟨v14, rfl, hnow, hb9⟩
        obtain ⟨A14, c14, rfl, hc14, hnc⟩ := Kd.R_reads hnow
        rw [hF8.out.len] at hc14 hnc ⊢
        have hD9 := hD8.out.below hb9
        have hO9 := hO8.out.below hb9
        replace hnow := Aside0.mk hnow; replace hc14 := Aside0.mk hc14; replace hnc := Aside0.mk hnc; replace hD9 := Aside0.mk hD9; replace hO9 := Aside0.mk hO9; replace hb9 := Aside0.mk hb9
        go_wp2_with fail
        with_reducible refine (Waits_calls B K M _ _ hD9.out).mono ?_
        rintro e w10 ⟨v, rfl, ⟨A17, c17, rfl, hc17, hf17⟩, hb10⟩
        rw [show (D.crash l1).waits.length = 0 from by rw [crash_waits]; rfl]
        have hO10 := hO9.out.below hb10
        have xw : kSec.C w10 A5 20 D.kept := by
          have h1 := Kd.R_step (w1 := w9) hw8.out (fun i _ hi => hb9.out.block i hi)
          have h2 := Kd.R_step (w1 := w10) h1 (fun i _ hi => hb10.block i hi)
          have := (Kd.R_reads' h2).2.2
          rw [hF.out.len] at this; exact this
        have xs : kSec.C w10 A9 20 ((List.range 20).map (fun j => D.sec (j : Nat))) := by
          have h1 := Kd.R_step (w1 := w9) hs8.out (fun i _ hi => hb9.out.block i hi)
          have h2 := Kd.R_step (w1 := w10) h1 (fun i _ hi => hb10.block i hi)
          have := (Kd.R_reads' h2).2.2
          rw [List.length_map, List.length_range] at this; exact this
        have xn : kSec.C w10 A14 20 (D.crash l1).kept := Kd.C_below hnc.out hb10
        have xi : (Kd.int .i64).C w10 A7 nw D.wts := Kd.C_below (Kd.C_below hws8.out.c hb9.out) hb10
        have xk : Kd.bool.C w10 A1 n1 l1 := (hO10.cg HR1.out).c
        have hwl : Aside0 (D.wts.length = nw) := ⟨by rw [D.wts_length, hnw]⟩
        replace hc17 := Aside0.mk hc17; replace hf17 := Aside0.mk hf17; replace hb10 := Aside0.mk hb10; replace hO10 := Aside0.mk hO10; replace xw := Aside0.mk xw; replace xs := Aside0.mk xs; replace xn := Aside0.mk xn; replace xi := Aside0.mk xi; replace xk := Aside0.mk xk; replace hnw := Aside0.mk hnw
        go_wp2_with fail
        go_loopw [15, 16] (fun kv iv wr => ∃ (k i m : Nat), kv = .int .i64 k ∧ iv = .int .i64 i ∧ i ≤ 20 ∧ k ≤ nw ∧ Aside0 (∀ j (hj : j < D.wts.length), (j < k ↔ D.wts[j] < (i : Int))) ∧ wr = w10.drewN m) (fun _ iv _ => 20 - (intOf iv).toNat)
        case atStart => exact ⟨0, 0, 0, rfl, rfl, by omega, Nat.zero_le _, ⟨fun j hj => by have := wts_range hDr.out _ (List.getElem_mem hj); constructor <;> intro h <;> omega⟩, rfl⟩
        case round =>
          obtain ⟨k, i, m, rfl, rfl, hi, hk, hI, rfl⟩ := hrel
          by_cases hlt : i < 20
          · have p1 : 0 ≤ (i : Int) := by omega
            have p2 : (i : Int) < 20 := by omega
            have hkl : i < D.kept.length := by rw [hF.out.len]; exact hlt
            obtain ⟨si, hsi⟩ : ∃ si, D.sec (i : Int) = si := ⟨_, rfl⟩
            obtain ⟨wi, hwi⟩ : ∃ wi, D.kept.getD i [] = wi := ⟨_, rfl⟩
            have hwi' : D.kept[i]? = some wi := by rw [← hwi]; exact getD_some _ hkl
            have hS1 : si.length = 64 := by rw [← hsi]; exact (Sec_sec hDr.out p1 (by omega)).1
            have hS2 : wi.length = 64 := (hDr.out.secs _ (List.mem_of_getElem? hwi')).1
            have hse : ((List.range 20).map (fun j => D.sec (j : Nat)))[i]? = some si := by rw [List.getElem?_map, List.getElem?_range hlt, Option.map_some, hsi]
            obtain ⟨aw, Aw, cw, rfl, xw1, _, xw2⟩ := sec_at xw.out hlt hwi'
            obtain ⟨as_, As, cs, rfl, xs1, _, xs2⟩ := sec_at xs.out hlt hse
            rw [hS2] at xw1 xw2
            rw [hS1] at xs1 xs2
            replace xw1 : (w10.drewN m).cell? (aw.add i) = some (.slice Aw 64 cw) := xw1
            replace xs1 : (w10.drewN m).cell? (as_.add i) = some (.slice As 64 cs) := xs1
            by_cases hA : D.wts[k]? = some (i : Int)
            · have hkw : k < D.wts.length := (List.getElem?_eq_some_iff.1 hA).1
              have hkn : k < nw := by rw [← hwl.out]; exact hkw
              have hwk : D.wts[k] = (i : Int) := (List.getElem?_eq_some_iff.1 hA).2
              have hI' : Aside0 (∀ j (hj : j < D.wts.length), (j < k + 1 ↔ D.wts[j] < ((i + 1 : Nat) : Int))) := ⟨fun j hj => by
                constructor
                · intro h
                  by_cases e : j = k
                  · subst e; omega
                  · have := (hI.out j hj).1 (by omega); omega
                · intro h
                  apply Decidable.byContradiction; intro hc
                  have := wts_lt hDr.out k j (by omega) hj
                  omega⟩
              have hnow := crash_at hDr.out l1 hA
              rw [Int.toNat_natCast, hsi, hwi] at hnow
              obtain ⟨a7, rfl, x7⟩ := Kd.at_int xi.out (k : Int) (by omega) (by omega)
              rw [Int.toNat_natCast, show rd D.wts k = (i : Int) from by unfold rd; rw [Int.toNat_natCast, List.getD_eq_getElem?_getD, hA]; rfl] at x7
              replace x7 : (w10.drewN m).cell? (a7.add k) = some (.int .i64 (i : Int)) := x7
              have k1 : 0 ≤ (k : Int) := by omega
              have k2 : (k : Int) < (nw : Int) := by omega
              have t1 : ((i : Int) == (i : Int)) = true := by simp
              by_cases hb : l1.getD k false = true
              · rw [if_pos hb] at hnow
                have hk1 : k < n1 := by
                  apply Decidable.byContradiction; intro hc
                  rw [List.getD_eq_getElem?_getD, List.getElem?_eq_none (by rw [hl1.out]; omega)] at hb; cases hb
                obtain ⟨an, An, cn, rfl, xn1, _, xn2⟩ := sec_at xn.out hlt hnow
                rw [hS1] at xn1 xn2
                replace xn1 : (w10.drewN m).cell? (an.add i) = some (.slice An 64 cn) := xn1
                have k3 : (k : Int) < (n1 : Int) := by omega
                obtain ⟨ak, rfl, x8⟩ := Kd.at_bool xk.out (k : Int) k1 k3
                rw [Int.toNat_natCast, show rdOf false l1 k = true from by unfold rdOf; rw [Int.toNat_natCast]; exact hb] at x8
                replace x8 : (w10.drewN m).cell? (ak.add k) = some (.bool true) := x8
                have y1 : (Kd.int .u8).C (w10.drewN m) An 64 si := xn2
                have y2 : (Kd.int .u8).C (w10.drewN m) As 64 si := xs2
                replace hA := Aside0.mk hA; replace hkw := Aside0.mk hkw; replace hwk := Aside0.mk hwk; replace hnow := Aside0.mk hnow; replace hb := Aside0.mk hb; replace xn2 := Aside0.mk xn2; replace xs2 := Aside0.mk xs2; replace xw2 := Aside0.mk xw2; replace y1 := Aside0.mk y1; replace y2 := Aside0.mk y2; replace hse := Aside0.mk hse; replace hwi := Aside0.mk hwi; replace hwi' := Aside0.mk hwi'; replace hsi := Aside0.mk hsi; replace hS1 := Aside0.mk hS1; replace hS2 := Aside0.mk hS2; replace hkl := Aside0.mk hkl
                go_wp2_with fail
                with_reducible refine (Same01_calls An 64 cn As cs si _ y1.out y2.out).mono ?_
                rintro e wS ⟨rfl, mS, rfl⟩
                go_wp2_with fail
                go_roundw
                case rel => exact ⟨k + 1, i + 1, _, by simp, by simp, by omega, by omega, hI', rfl⟩
                case measure => show 20 - ((i : Int) + 1).toNat < 20 - (i : Int).toNat; omega
              · rw [if_neg hb] at hnow
                obtain ⟨an, An, cn, rfl, xn1, _, xn2⟩ := sec_at xn.out hlt hnow
                rw [hS2] at xn1 xn2
                replace xn1 : (w10.drewN m).cell? (an.add i) = some (.slice An 64 cn) := xn1
                have y1 : (Kd.int .u8).C (w10.drewN m) An 64 wi := xn2
                have y2 : (Kd.int .u8).C (w10.drewN m) Aw 64 wi := xw2
                have hb' : l1.getD k false = false := by simpa using hb
                clear hb
                by_cases hk1 : k < n1
                · have k3 : (k : Int) < (n1 : Int) := by omega
                  obtain ⟨ak, rfl, x8⟩ := Kd.at_bool xk.out (k : Int) k1 k3
                  rw [Int.toNat_natCast, show rdOf false l1 k = false from by unfold rdOf; rw [Int.toNat_natCast]; exact hb'] at x8
                  replace x8 : (w10.drewN m).cell? (ak.add k) = some (.bool false) := x8
                  replace hA := Aside0.mk hA; replace hkw := Aside0.mk hkw; replace hwk := Aside0.mk hwk; replace hnow := Aside0.mk hnow; replace hb' := Aside0.mk hb'; replace xn2 := Aside0.mk xn2; replace xs2 := Aside0.mk xs2; replace xw2 := Aside0.mk xw2; replace y1 := Aside0.mk y1; replace y2 := Aside0.mk y2; replace hse := Aside0.mk hse; replace hwi := Aside0.mk hwi; replace hwi' := Aside0.mk hwi'; replace hsi := Aside0.mk hsi; replace hS1 := Aside0.mk hS1; replace hS2 := Aside0.mk hS2; replace hkl := Aside0.mk hkl
                  go_wp2_with fail
                  with_reducible refine (Same01_calls An 64 cn Aw cw wi _ y1.out y2.out).mono ?_
                  rintro e wS ⟨rfl, mS, rfl⟩
                  go_wp2_with fail
                  go_roundw
                  case rel => exact ⟨k + 1, i + 1, _, by simp, by simp, by omega, by omega, hI', rfl⟩
                  case measure => show 20 - ((i : Int) + 1).toNat < 20 - (i : Int).toNat; omega
                · have k3 : ¬ (k : Int) < (n1 : Int) := by omega
                  replace hA := Aside0.mk hA; replace hkw := Aside0.mk hkw; replace hwk := Aside0.mk hwk; replace hnow := Aside0.mk hnow; replace hb' := Aside0.mk hb'; replace xn2 := Aside0.mk xn2; replace xs2 := Aside0.mk xs2; replace xw2 := Aside0.mk xw2; replace y1 := Aside0.mk y1; replace y2 := Aside0.mk y2; replace hse := Aside0.mk hse; replace hwi := Aside0.mk hwi; replace hwi' := Aside0.mk hwi'; replace hsi := Aside0.mk hsi; replace hS1 := Aside0.mk hS1; replace hS2 := Aside0.mk hS2; replace hkl := Aside0.mk hkl
                  go_wp2_with fail
                  with_reducible refine (Same01_calls An 64 cn Aw cw wi _ y1.out y2.out).mono ?_
                  rintro e wS ⟨rfl, mS, rfl⟩
                  go_wp2_with fail
                  go_roundw
                  case rel => exact ⟨k + 1, i + 1, _, by simp, by simp, by omega, by omega, hI', rfl⟩
                  case measure => show 20 - ((i : Int) + 1).toNat < 20 - (i : Int).toNat; omega
            · have hnot : (i : Int) ∉ D.wts := by
                intro hm
                obtain ⟨j, hj, hje⟩ := List.mem_iff_getElem.1 hm
                have h1 := hI.out j hj
                have hjk : ¬ j < k := fun h => by have := h1.1 h; omega
                by_cases e : j = k
                · subst e; exact hA (by rw [List.getElem?_eq_getElem hj, hje])
                · have := wts_lt hDr.out k j (by omega) hj
                  have := (hI.out k (by omega)).2 (by omega)
                  omega
              obtain ⟨hnow, hsw⟩ := crash_not hDr.out l1 p1 (by rw [hF.out.len]; exact p2) hnot
              rw [Int.toNat_natCast, hwi] at hnow hsw
              rw [hsi] at hsw
              subst hsw
              have hI' : Aside0 (∀ j (hj : j < D.wts.length), (j < k ↔ D.wts[j] < ((i + 1 : Nat) : Int))) := ⟨fun j hj => by
                constructor
                · intro h; have := (hI.out j hj).1 h; omega
                · intro h
                  have hne : D.wts[j] ≠ (i : Int) := fun e => hnot (by rw [← e]; exact List.getElem_mem hj)
                  exact (hI.out j hj).2 (by omega)⟩
              obtain ⟨an, An, cn, rfl, xn1, _, xn2⟩ := sec_at xn.out hlt hnow
              rw [hS2] at xn1 xn2
              have y0 : ∀ m, (Kd.int .u8).C (w10.drewN m) As 64 si := fun m => xs2
              have y1 : ∀ m, (Kd.int .u8).C (w10.drewN m) An 64 si := fun m => xn2
              have y2 : ∀ m, (Kd.int .u8).C (w10.drewN m) Aw 64 si := fun m => xw2
              replace xn1 : ∀ m, (w10.drewN m).cell? (an.add i) = some (.slice An 64 cn) := fun m => xn1
              have xw0 : w10.cell? (aw.add i) = some (.slice Aw 64 cw) := xw1
              have xs0 : w10.cell? (as_.add i) = some (.slice As 64 cs) := xs1
              have xn0 : w10.cell? (an.add i) = some (.slice An 64 cn) := xn1 0
              by_cases hkn : k < nw
              · have k1 : 0 ≤ (k : Int) := by omega
                have k2 : (k : Int) < (nw : Int) := by omega
                obtain ⟨a7, rfl, x7⟩ := Kd.at_int xi.out (k : Int) k1 k2
                rw [Int.toNat_natCast] at x7
                obtain ⟨z, hz⟩ : ∃ z, rd D.wts k = z := ⟨_, rfl⟩
                rw [hz] at x7
                have hzi : z ≠ (i : Int) := fun e => hA (by
                  rw [← e, ← hz]; unfold rd; rw [Int.toNat_natCast, List.getD_eq_getElem?_getD, List.getElem?_eq_getElem (by rw [hwl.out]; exact hkn)]; rfl)
                replace x7 : (w10.drewN m).cell? (a7.add k) = some (.int .i64 z) := x7
                have t1 : (z == (i : Int)) = false := by simpa using hzi
                replace hA := Aside0.mk hA; replace hnow := Aside0.mk hnow; replace xn2 := Aside0.mk xn2; replace xs2 := Aside0.mk xs2; replace xw2 := Aside0.mk xw2; replace y0 := Aside0.mk y0; replace y1 := Aside0.mk y1; replace y2 := Aside0.mk y2; replace hse := Aside0.mk hse; replace hwi := Aside0.mk hwi; replace hwi' := Aside0.mk hwi'; replace hsi := Aside0.mk hsi; replace hS1 := Aside0.mk hS1; replace hS2 := Aside0.mk hS2; replace hkl := Aside0.mk hkl; replace hnot := Aside0.mk hnot; replace hzi := Aside0.mk hzi; replace hz := Aside0.mk hz
                obtain ⟨wz, hz0⟩ : ∃ wz, w10.drewN m = wz := ⟨_, rfl⟩
                have z0 : (Kd.int .u8).C wz.drew As 64 si := by rw [← hz0]; exact y0.out m
                have z2 : (Kd.int .u8).C wz.drew Aw 64 si := by rw [← hz0]; exact y2.out m
                have z1 : ∀ a, (Kd.int .u8).C (wz.drewN a) An 64 si := by rw [← hz0]; exact fun a => y1.out m
                have z3 : ∀ a, (Kd.int .u8).C (wz.drewN a) Aw 64 si := by rw [← hz0]; exact fun a => y2.out m
                have xn9 : ∀ a, (wz.drew.drewN a).cell? (an.add i) = some (.slice An 64 cn) := by rw [← hz0]; exact fun a => xn1 m
                have xn8 := xn1 m
                have hend : ∀ a b, (wz.drewN a).drewN b = w10.drewN (m + a + b) := fun a b => by rw [← hz0]; exact drew4 w10 m a b
                rw [hz0] at x7; rw [hz0] at xw1 xs1 xn8 ⊢
                clear xn1 xw0 xs0 xn0
                replace hz0 := Aside0.mk hz0; replace z0 := Aside0.mk z0; replace z1 := Aside0.mk z1; replace z2 := Aside0.mk z2; replace z3 := Aside0.mk z3; replace hend := Aside0.mk hend; replace xn9 := Aside0.mk xn9
                go_wp2_with fail
                go_still_tail 8, (by kernel_rfl)
                change wpList _ _ _ _ _ wz.drew
                go_wp2_with fail
                with_reducible refine (Same01_calls As 64 cs Aw cw si _ z0.out z2.out).mono ?_
                rintro e wS ⟨rfl, mS, rfl⟩
                have xn7 := xn9.out mS
                go_wp2_with fail
                with_reducible refine (Same01_calls An 64 cn Aw cw si _ (z1.out _) (z3.out _)).mono ?_
                rintro e wS ⟨rfl, mS2, rfl⟩
                rw [hend.out]
                go_wp2_with fail
                go_roundw
                case rel => exact ⟨k, i + 1, _, by simp, by simp, by omega, by omega, hI', rfl⟩
                case measure => show 20 - ((i : Int) + 1).toNat < 20 - (i : Int).toNat; omega
              · have k2 : ¬ (k : Int) < (nw : Int) := by omega
                replace hA := Aside0.mk hA; replace hnow := Aside0.mk hnow; replace xn2 := Aside0.mk xn2; replace xs2 := Aside0.mk xs2; replace xw2 := Aside0.mk xw2; replace y0 := Aside0.mk y0; replace y1 := Aside0.mk y1; replace y2 := Aside0.mk y2; replace hse := Aside0.mk hse; replace hwi := Aside0.mk hwi; replace hwi' := Aside0.mk hwi'; replace hsi := Aside0.mk hsi; replace hS1 := Aside0.mk hS1; replace hS2 := Aside0.mk hS2; replace hkl := Aside0.mk hkl; replace hnot := Aside0.mk hnot
                obtain ⟨wz, hz0⟩ : ∃ wz, w10.drewN m = wz := ⟨_, rfl⟩
                have z0 : (Kd.int .u8).C wz.drew As 64 si := by rw [← hz0]; exact y0.out m
                have z2 : (Kd.int .u8).C wz.drew Aw 64 si := by rw [← hz0]; exact y2.out m
                have z1 : ∀ a, (Kd.int .u8).C (wz.drewN a) An 64 si := by rw [← hz0]; exact fun a => y1.out m
                have z3 : ∀ a, (Kd.int .u8).C (wz.drewN a) Aw 64 si := by rw [← hz0]; exact fun a => y2.out m
                have xn9 : ∀ a, (wz.drew.drewN a).cell? (an.add i) = some (.slice An 64 cn) := by rw [← hz0]; exact fun a => xn1 m
                have xn8 := xn1 m
                have hend : ∀ a b, (wz.drewN a).drewN b = w10.drewN (m + a + b) := fun a b => by rw [← hz0]; exact drew4 w10 m a b
                rw [hz0] at xw1 xs1 xn8 ⊢
                clear xn1 xw0 xs0 xn0
                replace hz0 := Aside0.mk hz0; replace z0 := Aside0.mk z0; replace z1 := Aside0.mk z1; replace z2 := Aside0.mk z2; replace z3 := Aside0.mk z3; replace hend := Aside0.mk hend; replace xn9 := Aside0.mk xn9
                go_wp2_with fail
                go_still_tail 8, (by kernel_rfl)
                change wpList _ _ _ _ _ wz.drew
                go_wp2_with fail
                with_reducible refine (Same01_calls As 64 cs Aw cw si _ z0.out z2.out).mono ?_
                rintro e wS ⟨rfl, mS, rfl⟩
                have xn7 := xn9.out mS
                go_wp2_with fail
                with_reducible refine (Same01_calls An 64 cn Aw cw si _ (z1.out _) (z3.out _)).mono ?_
                rintro e wS ⟨rfl, mS2, rfl⟩
                rw [hend.out]
                go_wp2_with fail
                go_roundw
                case rel => exact ⟨k, i + 1, _, by simp, by simp, by omega, by omega, hI', rfl⟩
                case measure => show 20 - ((i : Int) + 1).toNat < 20 - (i : Int).toNat; omega
          · have hkn : k = nw := by
              apply Decidable.byContradiction
              intro hne
              have h1 : k < D.wts.length := by rw [hwl.out]; omega
              have h2 := wts_range hDr.out _ (List.getElem_mem h1)
              rw [hF.out.len] at h2
              have := (hI.out k h1).2 (by omega)
              omega
            subst hkn
            have hi20 : i = 20 := by omega
            subst hi20
            clear hlt
            go_wp2_with fail
            go_ret
            exact ⟨rfl, ⟨hO10.out.bel.os, hO10.out.bel.tape, hO10.out.bel.output, hO10.out.bel.size, hO10.out.bel.block⟩⟩
  · have fin := Aside0.mk (show OkPost w (.returned (.bool true)) w1 from ⟨rfl, hB1.out⟩)
    clear hB1
    cases b1 with
    | false => go_wp2; go_ret; exact fin.out
    | true =>
      have q1 : ¬ n1 ≤ 50 := fun h => hb ⟨rfl, h⟩
      clear hb
      go_wp2; go_ret; exact fin.out
end Go.Proofs.Ytiibfboendnifaa.Dk
