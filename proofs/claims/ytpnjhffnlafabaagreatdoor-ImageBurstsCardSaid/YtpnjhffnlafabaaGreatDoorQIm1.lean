/- Numbers as bytes: Put of package le, with what it leaves as it was; num, flag, row of package image. -/
import Derived.Test.YtpnjhffnlafabaaGreatDoorQLe1
namespace Go.Proofs.YtpnjhffnlafabaaGreatDoor.Im
set_option linter.unusedVariables false
set_option linter.unusedSimpArgs false
open Go.RowKit Go.Proofs.Bk Go.Proofs.Bm Go.Proofs.Kf Go.Proofs.YtpnjhffnlafabaaGreatDoorW.PrintWords Go.Proofs.YtpnjhffnlafabaaGreatDoor.Sl
structure Grew (w : World) (v : Value) (w' : World) (v' : Value) : Prop where
  blk : ∀ k, k < w.heap.size → some k ≠ v.ownBlock → w'.heap[k]? = w.heap[k]?
  own : v'.ownBlock = v.ownBlock ∨ ∃ b, v'.ownBlock = some b ∧ w.heap.size ≤ b
  sz : w.heap.size ≤ w'.heap.size
theorem Grew.refl (w : World) (v : Value) : Grew w v w v := ⟨fun _ _ _ => rfl, .inl rfl, Nat.le_refl _⟩
theorem Grew.trans {w w1 w2 : World} {v v1 v2 : Value} (h : Grew w v w1 v1) (k : Grew w1 v1 w2 v2) : Grew w v w2 v2 := by
  refine ⟨fun q hq hn => (k.blk q (Nat.lt_of_lt_of_le hq h.sz) ?_).trans (h.blk q hq hn), ?_, Nat.le_trans h.sz k.sz⟩
  · rcases h.own with e | ⟨b, e, hb⟩
    · rw [e]; exact hn
    · rw [e]; intro e2; injection e2 with e2; omega
  · rcases k.own with e | ⟨b, e, hb⟩
    · rw [e]; exact h.own
    · exact .inr ⟨b, e, Nat.le_trans h.sz hb⟩
theorem Grew.below {w w1 : World} (v : Value) (h : Below w.heap.size w w1) : Grew w v w1 v := ⟨fun k hk _ => h.block k hk, .inl rfl, h.size⟩
theorem Grew.then_ {w w1 w2 : World} {v v1 : Value} (h : Grew w v w1 v1) (k : Below w1.heap.size w1 w2) : Grew w v w2 v1 := h.trans (Grew.below v1 k)
theorem Grew.of {w w1 : World} {v v1 : Value} (hg : w.grownBy w1 v.ownBlock) (ho : v1.ownBlock = v.ownBlock ∨ ∃ b, v1.ownBlock = some b ∧ w.heap.size ≤ b) : Grew w v w1 v1 := ⟨fun k hk hn => hg.block k hk hn, ho, hg.size⟩
abbrev U8 : Kd Int := Kd.int .u8
abbrev Byts (w : World) (base : Nat) (v : Value) (xs : List Int) : Prop := U8.R 5 w base (fun _ => True) v xs
def PutPost2 (base : Nat) (v : Value) (xs : List Int) (n : Int) (k : Nat) (w : World) (e : Ending) (w' : World) : Prop :=
  ∃ v', e = .returned v' ∧ Byts w' base v' (xs ++ digs n k) ∧ Below base w w' ∧ Grew w v w' v'
def Lit (w : World) (v : Value) (xs : List Int) : Prop := ∃ ad, v = .slice (some ad) xs.length xs.length ∧ ∀ j u, (byt xs)[j]? = some u → w.cell? (ad.add j) = some u
set_option maxHeartbeats 4000000 in
set_option maxRecDepth 100000 in
theorem Put2_calls (base : Nat) (v : Value) (xs : List Int) (n : Int) (width : Int) (k : Nat) (w : World) (h : Byts w base v xs ∨ (0 < k ∧ Lit w v xs)) (hb : base ≤ w.heap.size) (hn : xs.length ≤ 900000) (h0 : 0 ≤ n) (hw : heldW width = k) (hk : k ≤ 8) :
    Calls Tryz.prog 37 #[v, .int .u64 n, .int .i64 width] w (PutPost2 base v xs n k w) := by
  have H := Aside0.mk h
  clear h
  go_enter Tryz.func37, Tryz.ntmps37
  go_wp2_with fail
  refine Gl.scope_jumps 0 (fun a' w' => ∃ (u : Value) (ys : List Int) (m : Int) (j : Nat) (u8 u9 u10 u11 u12 u13 u14 u15 u16 u17 u18 u19 u20 u21 : Value), a' = { tmps := #[u, .int .u64 m, .int .i64 width, undef, undef, undef, .slice none 0 0, .int .i64 j, u8, u9, u10, u11, u12, u13, u14, u15, u16, u17, u18, u19, u20, u21], defers := [] } ∧ j ≤ k ∧ 0 ≤ m ∧ m ≤ n ∧ ys.length + j = xs.length + k ∧ Aside0 (ys ++ digs m j = xs ++ digs n k) ∧ Aside0 (Byts w' base u ys ∨ (0 < j ∧ Lit w' u ys)) ∧ Aside0 (Below base w w') ∧ Aside0 (Grew w v w' u)) (fun a' _ => (intOf (a'.tmps.getD 7 undef)).toNat) rfl ?_ ?_
  · rintro a' w' ⟨u, ys, m, j, u8, u9, u10, u11, u12, u13, u14, u15, u16, u17, u18, u19, u20, u21, rfl, hj, hm0, hmn, hlen, hE, hO, hB, hGr⟩
    by_cases hz : j = 0
    · subst hz
      have hR := hO.out.resolve_right (fun h => absurd h.1 (Nat.lt_irrefl _))
      clear hO
      replace hR := Aside0.mk hR
      go_wp2_with fail
      go_ret
      have hE' : ys = xs ++ digs n k := by have := hE.out; rw [digs, List.append_nil] at this; exact this
      subst hE'
      exact ⟨u, rfl, hR.out, hB.out, hGr.out⟩
    · have hz' : (((j : Nat) : Int) == 0) = false := by simpa using hz
      have hE2 : (ys ++ [m % 256]) ++ digs (m / 256) (j - 1) = xs ++ digs n k := by
        have := hE.out
        obtain ⟨i, rfl⟩ : ∃ i, j = i + 1 := ⟨j - 1, by omega⟩
        rw [digs] at this
        rw [List.append_assoc]; exact this
      rcases hO.out with hR | ⟨-, hL⟩
      · have hl8 : (ys.length + 1) * 1 ≤ 140737488355328 := by omega
        have hbs : base ≤ w'.heap.size := Nat.le_trans hb hB.out.size
        replace hR := Aside0.mk hR; replace hE2 := Aside0.mk hE2; replace hl8 := Aside0.mk hl8; replace hbs := Aside0.mk hbs
        clear hO
        go_wp2_with (((with_reducible refine gate_builtin (b := .append) (xs := #[.tmp 13, .tmp 16]) rfl ?_); at_builtin; refine Kd.R_append U8 (w0 := w) base rfl (.tmp 13) (.tmp 16) 28 5 (.int .u8 0) 1 rfl Tryz.underlying28 info_u8 rfl (by decide) (by decide) u ys (m % 256) [.int .u8 (m % 256)] (fun _ => True) (fun _ => False) rfl rfl ?aP (fun _ hk => hk.elim) (fun _ _ => trivial) hR.out hB.out hbs.out hl8.out ?_; (case aP => exact rfl); intro v1 W1 r2 r3 hg4 hat4; have hG1 := hGr.out.trans (Grew.of hg4 hat4); replace r2 := Aside0.mk r2; replace r3 := Aside0.mk r3; replace hG1 := Aside0.mk hG1; clear hg4 hat4))
        rw [show (j : Int) - 1 = ((j - 1 : Nat) : Int) by omega]
        go_step3
        refine ⟨rfl, ⟨v1, ys ++ [m % 256], m / 256, j - 1, _, _, _, _, _, _, _, _, _, _, _, _, _, _, rfl, by omega, by omega, by omega, by simp; omega, hE2, ⟨.inl r2.out⟩, r3, hG1⟩, ?_⟩
        show ((j - 1 : Nat) : Int).toNat < ((j : Nat) : Int).toNat
        omega
      · obtain ⟨v1, W1, r1, r2, r3⟩ := out_append w' w' w'.heap.size u ys (m % 256) 28 (.inr hL) (Nat.le_refl _) (Below.refl _ _) (by omega)
        have r4 : Byts W1 base v1 (ys ++ [m % 256]) := Kd.R_lower (Kd.R_of_own (enc := Value.int .u8) (h1 := fun _ => rfl) r2 (fun _ _ => trivial)) (Nat.le_trans hb hB.out.size)
        have r5 : Grew w' u W1 v1 := by
          refine ⟨fun k hk _ => r3.block k hk, .inr ?_, r3.size⟩
          rcases r2.2 with ⟨_, h0⟩ | ⟨g, cap, cur, e, h1, -⟩
          · simp at h0
          · exact ⟨g, by rw [e]; rfl, h1⟩
        have hG1 := hGr.out.trans r5
        have r3' := hB.out.trans (r3.mono (Nat.le_trans hb hB.out.size))
        clear r2 r3 r5
        replace r4 := Aside0.mk r4; replace r3' := Aside0.mk r3'; replace hG1 := Aside0.mk hG1; replace hE2 := Aside0.mk hE2
        go_wp2_with ((with_reducible refine gate_op (.call ⟨.builtin .append, #[.tmp 13, .tmp 16], #[28, 28]⟩) rfl ?_); refine Lib.wpList_append_run _ rfl (.tmp 13) (.tmp 16) 28 28 rfl _ _ rfl rfl v1 W1 r1 ?_)
        rw [show (j : Int) - 1 = ((j - 1 : Nat) : Int) by omega]
        go_step3
        refine ⟨rfl, ⟨v1, ys ++ [m % 256], m / 256, j - 1, _, _, _, _, _, _, _, _, _, _, _, _, _, _, rfl, by omega, by omega, by omega, by simp; omega, hE2, ⟨.inl r4.out⟩, r3', hG1⟩, ?_⟩
        show ((j - 1 : Nat) : Int).toNat < ((j : Nat) : Int).toNat
        omega
  · intro pass
    go_wp2_with fail
    refine (held_calls width w).mono ?_
    rintro e w' ⟨rfl, rfl⟩
    rw [hw]
    go_wp2_with fail
    go_step3
    rename_i hK0
    exact hK0 _ _ (pass _ _ ⟨v, xs, n, k, _, _, _, _, _, _, _, _, _, _, _, _, _, _, rfl, Nat.le_refl _, h0, Int.le_refl _, rfl, ⟨rfl⟩, H, ⟨Below.refl _ _⟩, ⟨Grew.refl _ _⟩⟩)
end Go.Proofs.YtpnjhffnlafabaaGreatDoor.Im
