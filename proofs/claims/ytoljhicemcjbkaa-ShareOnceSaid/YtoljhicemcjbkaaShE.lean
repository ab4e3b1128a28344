/- ShareOnce answers true: the walk, and the plain law. -/
import Derived.Test.YtoljhicemcjbkaaShD
namespace Go.Proofs.Ytoljhicemcjbkaa.Sh
set_option linter.unusedVariables false
set_option linter.unusedSimpArgs false
open Go.RowKit Go.Proofs.YtoljhicemcjbkaaW.PrintWords Go.Proofs.YtoljhicemcjbkaaW.PrintLast Go.Proofs.YtoljhicemcjbkaaW.PrintMore PShareTells

theorem R_self {k : IntKind} {e : Nat} {w : World} {base : Nat} {ok : Nat → Prop} {v : Value} {xs : List Int} (h : Kd.R (Kd.int k) e w base ok v xs) : Kd.R (Kd.int k) e w base (fun g => v.ownBlock = some g) v xs := ⟨fun _ hk => hk, h.2⟩
theorem R_lt {α : Type} {d : Kd α} {e : Nat} {w : World} {base : Nat} {ok : Nat → Prop} {v : Value} {xs : List α} (h : Kd.R d e w base ok v xs) : ∀ g, v.ownBlock = some g → g < w.heap.size := by
  obtain ⟨inner, hi⟩ := Kd.R_own h
  exact own_lt hi
theorem step_same {cs ws : List Int} {i k : Nat} {m : Int} (h : gap cs ws i k ≤ 0) : step cs ws i m k = m := by unfold step; rw [if_neg (by omega)]
theorem row_same {cs ws : List Int} {i : Nat} (h : ∀ k, gap cs ws i k ≤ 0 ∨ i = k) : ∀ (d j : Nat) (m : Int), row cs ws i d j m = m
  | 0, _, _ => rfl
  | d + 1, j, m => by
    have : step cs ws i m j = m := by unfold step; rw [if_neg]; intro hh; rcases h j with h1 | h1 <;> omega
    unfold row; rw [this]; exact row_same h d (j + 1) m
theorem all_same {cs ws : List Int} : ∀ (d i : Nat) (m : Int), (∀ j, j < i + d → ∀ k, k < cs.length → gap cs ws j k ≤ 0 ∨ j = k) → all cs ws d i m = m
  | 0, _, _, _ => rfl
  | d + 1, i, m, h => by
    have hr : ∀ (e j : Nat) (m : Int), j + e ≤ cs.length → row cs ws i e j m = m := by
      intro e
      induction e with
      | zero => intros; rfl
      | succ e ih =>
        intro j m hj
        have : step cs ws i m j = m := by
          unfold step; rw [if_neg]; intro hh
          rcases h i (by omega) j (by omega) with h1 | h1 <;> omega
        unfold row; rw [this]; exact ih (j + 1) m (by omega)
    unfold all; rw [hr _ _ _ (by omega)]
    exact all_same d (i + 1) m (fun j hj => h j (by omega))
theorem ahead_zero {cs ws : List Int} (h : ∀ i k, i < cs.length → k < cs.length → gap cs ws i k ≤ 0 ∨ i = k) : ahead cs ws = 0 :=
  all_same _ _ _ (fun j hj k hk => h j k (by omega) hk)

def wsOf (l : List Int) : List Int := l.map fun x => 1 + x
def csOf (l : List Int) (t : Int) : List Int := l.map fun x => (1 + x) * t
theorem rd_wsOf {l : List Int} {i : Nat} (h : i < l.length) : rd (wsOf l) i = 1 + rd l i := by unfold rd wsOf; simp [List.getD_eq_getElem?_getD, h]
theorem rd_csOf {l : List Int} {t : Int} {i : Nat} (h : i < l.length) : rd (csOf l t) i = (1 + rd l i) * t := by unfold rd csOf; simp [List.getD_eq_getElem?_getD, h]
theorem rd_mem {l : List Int} {i : Nat} (h : i < l.length) : rd l i ∈ l := by unfold rd; rw [List.getD_eq_getElem?_getD]; simp [h]
theorem once_zero (l : List Int) (t : Int) (hl : ∀ x ∈ l, 0 ≤ x ∧ x ≤ 65535) (ht : 0 ≤ t ∧ t ≤ 65535) : ahead (csOf l t) (wsOf l) = 0 := by
  refine ahead_zero fun i k hi hk => .inl ?_
  have hi' : i < l.length := by simpa [csOf] using hi
  have hk' : k < l.length := by simpa [csOf] using hk
  have hc : ∀ j, j < l.length → ct (rd (csOf l t) j) = (1 + rd l j) * t ∧ wt (wsOf l) j = 1 + rd l j := by
    intro j hj
    have hb := hl _ (rd_mem hj)
    have h1 : 0 ≤ (1 + rd l j) * t := Int.mul_nonneg (by omega) ht.1
    have h2 : (1 + rd l j) * t ≤ 65536 * 65535 := Int.mul_le_mul (by omega) ht.2 ht.1 (by omega)
    rw [rd_csOf hj]
    constructor
    · unfold ct mx mn; (repeat' split) <;> omega
    · unfold wt; rw [if_neg (by simp [wsOf]; omega), rd_wsOf hj]; unfold mx mn; (repeat' split) <;> omega
  unfold gap
  rw [(hc i hi').1, (hc i hi').2, (hc k hk').1, (hc k hk').2]
  have : (1 + rd l k) * ((1 + rd l i) * t) = (1 + rd l i) * ((1 + rd l k) * t) := by rw [← Int.mul_assoc, ← Int.mul_assoc, Int.mul_comm (1 + rd l k)]
  omega
theorem ahead_one (n : Int) (ws : List Int) : ahead [n] ws = 0 := ahead_zero fun i k hi hk => .inr (by simp at hi hk; omega)
theorem ahead_none (ws : List Int) : ahead [] ws = 0 := rfl
theorem wf_u16 {x : Int} (h : (Lit.int .u16 x).wf = true) : 0 ≤ x ∧ x ≤ 65535 := by
  simp [Lit.wf, IntKind.min, IntKind.max, IntKind.signed, IntKind.bits] at h; omega

set_option maxHeartbeats 4000000 in
set_option maxRecDepth 100000 in
theorem Once_main (w : World) (A0 : Option Addr) (n0 c0 : Nat) (l0 : List Int) (hr0 : Kd.C (Kd.int .u16) w A0 n0 l0) (hc0 : n0 ≤ c0) (ho0 : ∀ x ∈ l0, (Lit.int .u16 x).wf = true) (a1 : Int) (w1 : (Lit.int .u16 a1).wf = true) (a2 : Int) (_ : (Lit.int .i64 a2).wf = true) :
    Calls Try.prog 4 #[.slice A0 n0 c0, .int .u16 a1, .int .i64 a2] w fun e w' => e = .returned (.bool true) ∧ Below w.heap.size w w' := by
  have hn0 := hr0.2.1
  obtain ⟨ha0, ha1⟩ := wf_u16 w1
  have HR0 := Aside0.mk hr0
  have HO0 := Aside0.mk ho0
  clear hr0 hc0 ho0 w1
  by_cases hs : n0 ≤ 10
  · go_enter Try.func4, Try.ntmps4
    go_wp2_with (go_at_call 6; refine (awake_calls _).mono ?_; rintro e wa ⟨rfl, hb⟩; replace hb := Aside0.mk hb)
    go_loopw [8, 9, 10] (fun v8 v9 i wr => ∃ (k : Nat), k ≤ n0 ∧ i = .int .i64 k ∧ Aside0 (Kd.R (Kd.int .i64) 3 wr w.heap.size (fun g => some g ≠ v9.ownBlock) v8 ((wsOf l0).take k)) ∧ Aside0 (Kd.R (Kd.int .i64) 3 wr w.heap.size (fun g => some g ≠ v8.ownBlock) v9 ((csOf l0 a1).take k)) ∧ Aside0 (Below w.heap.size w wr))
      (fun _ _ i _ => n0 - (intOf i).toNat)
    case atStart => exact ⟨0, Nat.zero_le _, rfl, ⟨Kd.R_nil _ _ _ _ _⟩, ⟨Kd.R_nil _ _ _ _ _⟩, hb⟩
    case round =>
      rename_i v8 v9 _ _
      obtain ⟨k, hk, rfl, H8, H9, HB⟩ := hrel
      by_cases hlt : k < n0
      · have p1 : 0 ≤ (k : Int) := by omega
        have q1 : (k : Int) < (n0 : Int) := by omega
        have x1 : ∃ ad, A0 = some ad ∧ Aside0 (w.cell? (ad.add k) = some (.int .u16 (rd l0 k))) := by
          obtain ⟨ad, e1, hx⟩ := Kd.at_int HR0.out k p1 q1
          rw [Int.toNat_natCast] at hx
          exact ⟨ad, e1, ⟨hx⟩⟩
        obtain ⟨ad, e1, x0⟩ := x1
        cases e1
        have x1 := (HB.out.cell (World.block_lt_of_cell? w _ x0.out)).trans x0.out
        have hkl : k < l0.length := by rw [HR0.out.1]; exact hlt
        obtain ⟨hx0, hx1⟩ := wf_u16 (HO0.out _ (rd_mem hkl))
        have hB9 := Aside0.mk (Kd.R_bound H9.out)
        have t8 : Aside0 ((wsOf l0).take (k + 1) = (wsOf l0).take k ++ [1 + rd l0 k]) := ⟨by rw [take_snoc (by simp [wsOf]; omega), rd_wsOf hkl]⟩
        have t9 : Aside0 ((csOf l0 a1).take (k + 1) = (csOf l0 a1).take k ++ [(1 + rd l0 k) * a1]) := ⟨by rw [take_snoc (by simp [csOf]; omega), rd_csOf hkl]⟩
        have m0 : 0 ≤ (1 + rd l0 k) * a1 := Int.mul_nonneg (by omega) ha0
        have m1 : (1 + rd l0 k) * a1 ≤ 4294901760 := Int.mul_le_mul (by omega : 1 + rd l0 k ≤ 65536) ha1 ha0 (by omega)
        go_wp2_with (first
          | ((with_reducible refine gate_builtin (b := .append) (xs := #[.tmp 22, .tmp 29]) rfl ?_); at_builtin; refine Kd.R_append (Kd.int .i64) (w0 := w) w.heap.size rfl (.tmp 22) (.tmp 29) 22 3 (.int .i64 0) 8 rfl Try.underlying22 info3 rfl (by decide) (by omega) u8 ((wsOf l0).take k) (1 + rd l0 k) [.int .i64 (1 + rd l0 k)] (fun g => some g ≠ u9.ownBlock) (fun _ => False) rfl rfl ?aP (fun _ hk => hk.elim) ?aF ?aO ?aB ?aS ?aL ?_; (case aP => exact rfl); (case aB => exact HB.out); (case aF => (intro g hg he; have := Kd.R_ne_new H9.out (g - wr.heap.size); rw [show wr.heap.size + (g - wr.heap.size) = g by omega] at this; exact this he)); (case aO => exact H8.out); (case aS => exact below_size (HB.out)); (case aL => (have := List.length_take_le k (wsOf l0); omega)); intro v1 wb ho hb1 hg hat; replace hb1 := Aside0.mk hb1; replace ho := Aside0.mk ho; replace hB9 := Aside0.mk (Kd.R_grown hB9.out hg (fun g h => h.1)); replace hB9 := Aside0.mk (Kd.R_mono (ok' := fun g => some g ≠ v1.ownBlock) hB9.out (fun g h e => by rcases hat with e2 | ⟨b, e2, hle⟩; (exact h.1 (e.trans e2)); (rw [e2] at e; injection e with e; have := h.2.2.1; omega))); clear hg hat; have hv1 := Aside0.mk (R_lt ho.out); have x2 := (hb1.out.cell (World.block_lt_of_cell? w _ x0.out)).trans x0.out)
          | ((with_reducible refine gate_builtin (b := .append) (xs := #[.tmp 31, .tmp 41]) rfl ?_); at_builtin; refine Kd.R_append (Kd.int .i64) (w0 := w) w.heap.size rfl (.tmp 31) (.tmp 41) 22 3 (.int .i64 0) 8 rfl Try.underlying22 info3 rfl (by decide) (by omega) u9 ((csOf l0 a1).take k) ((1 + rd l0 k) * a1) [.int .i64 ((1 + rd l0 k) * a1)] (fun g => some g ≠ v1.ownBlock) (fun _ => False) rfl rfl ?aP (fun _ hk => hk.elim) ?aF ?aO ?aB ?aS ?aL ?_; (case aP => exact rfl); (case aB => exact hb1.out); (case aF => (intro g hg he; have := Kd.R_ne_new ho.out (g - wb.heap.size); rw [show wb.heap.size + (g - wb.heap.size) = g by omega] at this; exact this he)); (case aO => exact hB9.out); (case aS => exact below_size (hb1.out)); (case aL => (have := List.length_take_le k (csOf l0 a1); omega)); intro v2 wc ho2 hb2 hg2 hat2; replace hb2 := Aside0.mk hb2; replace ho2 := Aside0.mk ho2; replace ho := Aside0.mk (Kd.R_grown (R_self ho.out) hg2 (fun g h e => hB9.out.1 g e.symm h.symm)); clear hg2))
        go_roundw
        case rel => exact ⟨k + 1, by omega, by go_num, ⟨by rw [t8.out]; exact Kd.R_mono (ok' := fun g => some g ≠ v2.ownBlock) ho.out (fun g h e => by rcases hat2 with e2 | ⟨b, e2, hle⟩; (exact hB9.out.1 g (e2.symm.trans e.symm) h.symm); (rw [e2] at e; injection e with e; have := hv1.out g h; omega))⟩, ⟨by rw [t9.out]; exact ho2.out⟩, hb2⟩
        case measure => simp [intOf]; omega
      · have hkl : k = n0 := by omega
        subst hkl
        rw [List.take_of_length_le (by simp [wsOf, HR0.out.1])] at H8
        rw [List.take_of_length_le (by simp [csOf, HR0.out.1])] at H9
        have hl8 : (wsOf l0).length = k := by simp [wsOf, HR0.out.1]
        have hl9 : (csOf l0 a1).length = k := by simp [csOf, HR0.out.1]
        obtain ⟨AW, cW, hv8, hcW, hW⟩ := Kd.R_reads H8.out
        obtain ⟨AC, cC, hv9, hcC, hC⟩ := Kd.R_reads H9.out
        rw [hl8] at hv8 hcW hW
        rw [hl9] at hv9 hcC hC
        clear H8 H9 hl8 hl9
        subst hv8; subst hv9
        replace hcW := Aside0.mk hcW; replace hW := Aside0.mk hW; replace hcC := Aside0.mk hcC; replace hC := Aside0.mk hC
        have z1 : Aside0 (ahead (csOf l0 a1) (wsOf l0) = 0) := ⟨once_zero l0 a1 (fun x hx => wf_u16 (HO0.out x hx)) ⟨ha0, ha1⟩⟩
        have z2 : Aside0 (ahead [a2] (wsOf l0) = 0) := ⟨ahead_one _ _⟩
        have z3 : Aside0 (ahead [] (wsOf l0) = 0) := ⟨ahead_none _⟩
        go_wp2_with fail
        with_reducible refine (Ahead_calls AC k cC (csOf l0 a1) AW k cW (wsOf l0) _ hC.out hcC.out hW.out hcW.out).mono ?_
        rintro e wd ⟨rfl, h7⟩
        rw [z1.out]
        replace hW := Aside0.mk (Kd.C_below hW.out h7); replace HB := Aside0.mk (below_then HB.out HB.out.size h7); clear h7
        go_wp2_with fail
        with_reducible refine (Ahead_calls _ 1 1 [a2] AW k cW (wsOf l0) _ ?hl (by omega) ?hr hcW.out).mono ?_
        case hl => exact C_cells [a2] (Sh.hn0 _ _) rfl (by simp)
        case hr => exact Kd.C_below hW.out (below_alloc (Below.refl _ _) _)
        rintro e we ⟨rfl, h7⟩
        rw [z2.out]
        replace h7 := (below_then (below_alloc (Below.refl _ _) _) (by simp) h7)
        replace hW := Aside0.mk (Kd.C_below hW.out h7); replace HB := Aside0.mk (below_then HB.out HB.out.size h7); clear h7
        go_wp2_with fail
        with_reducible refine (Ahead_calls none 0 0 [] AW k cW (wsOf l0) _ (C_nil _ _) (by omega) hW.out hcW.out).mono ?_
        rintro e wf ⟨rfl, h7⟩
        rw [z3.out]
        replace HB := Aside0.mk (below_then HB.out HB.out.size h7); clear h7
        go_wp2_with fail
        go_ret
        exact ⟨rfl, HB.out⟩
  · have q : (10 : Int) < (n0 : Int) := by omega
    go_enter Try.func4, Try.ntmps4
    go_wp2_with (go_at_call 6; refine (awake_calls _).mono ?_; rintro e wa ⟨rfl, hb⟩; replace hb := Aside0.mk hb)
    go_ret
    exact ⟨rfl, hb.out⟩
end Go.Proofs.Ytoljhicemcjbkaa.Sh
