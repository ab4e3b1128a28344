/- Kept of package disk, once more: the sectors that are handed out lie apart. -/
import Derived.Test.YtiibfboendnifaaDkS
namespace Go.Proofs.Ytiibfboendnifaa.Dk
set_option linter.unusedVariables false
set_option linter.unusedSimpArgs false
open Go.RowKit Go.Proofs.Bk Go.Proofs.Bm Go.Proofs.Op Go.Proofs.YtiibfboendnifaaW.PrintWords

/-- a sector that is handed out, and the block it lies in -/
def kSecB : Kd (List Int × Nat) where
  sz := 1
  E := [53]
  K := fun w x cs => cs = [.slice (some ⟨x.2, 0, none⟩) 64 64] ∧ x.1.length = 64 ∧ w.heap[x.2]? = some (.cells (byt x.1).toArray 53 (0, 0))
  M := fun w base ok x cs => cs = [.slice (some ⟨x.2, 0, none⟩) 64 64] ∧ x.1.length = 64 ∧ ok x.2 ∧ base ≤ x.2 ∧ w.heap[x.2]? = some (.cells (byt x.1).toArray 53 (0, 0))
  K_len := by
    rintro w x cs ⟨rfl, _⟩
    rfl
  K_one := by
    rintro w x cs ⟨rfl, _⟩ u hu
    rw [List.mem_singleton.1 hu]
    rfl
  K_below := by
    rintro w w1 x cs hb ⟨rfl, hl, hh⟩
    exact ⟨rfl, hl, (hb.block _ (Array.getElem?_eq_some_iff.1 hh).1).trans hh⟩
  K_of_M := by
    rintro w base ok x cs ⟨rfl, hl, _, _, hh⟩
    exact ⟨rfl, hl, hh⟩
  M_mono := by
    rintro w base ok ok' x cs hok ⟨rfl, hl, h1, h2⟩
    exact ⟨rfl, hl, hok _ h1, h2⟩
  M_bound := by
    rintro w base ok x cs ⟨rfl, hl, h1, h2, hh⟩
    exact ⟨rfl, hl, ⟨h1, h2, (Array.getElem?_eq_some_iff.1 hh).1, _, by simp, _, hh⟩, h2, hh⟩
  M_move := by
    rintro w w1 base ok x cs hm ⟨rfl, hl, h1, h2, hh⟩
    exact ⟨rfl, hl, h1, h2, (hm _ h1).trans hh⟩
  M_lower := by
    rintro w base base' ok x cs hb ⟨rfl, hl, h1, h2, hh⟩
    exact ⟨rfl, hl, h1, Nat.le_trans hb h2, hh⟩
theorem keptB_store (w wr : World) (s : List Int) (u3 : Value) (xs : List (List Int × Nat)) (HO : kSecB.R 23 wr w.heap.size (fun _ => True) u3 xs) (HB : Below w.heap.size w wr) (hS : Sec s) :
    ∃ V, (wr.alloc (.cells zrow 53)).setRow wr.heap.size (byt s).toArray = V ∧ kSecB.R 23 V w.heap.size (fun _ => True) u3 xs ∧ Below w.heap.size w V ∧
      kSecB.M V w.heap.size (fun i => i = wr.heap.size) (s, wr.heap.size) [.slice (some ⟨wr.heap.size, 0, none⟩) 64 64] ∧ some wr.heap.size ≠ u3.ownBlock ∧ wr.heap.size < V.heap.size := by
  have hb2 : Below wr.heap.size wr ((wr.alloc (.cells zrow 53)).setRow wr.heap.size (byt s).toArray) := below_setRow (below_alloc (Below.refl _ _) _) (Nat.le_refl _) _
  have hrow : ((wr.alloc (.cells zrow 53)).setRow wr.heap.size (byt s).toArray).heap[wr.heap.size]? = some (.cells (byt s).toArray 53 (0, 0)) := setRow_heap _ _ _ _ _ _ (heap_alloc_same _ _)
  exact ⟨_, rfl, Kd.R_step HO (fun i _ hi => hb2.block i hi), below_then HB HB.size hb2, ⟨rfl, hS.1, rfl, HB.size, hrow⟩, fun e => by have := Kd.R_lt HO _ e.symm; omega, (Array.getElem?_eq_some_iff.1 hrow).1⟩
def KeptPostB (D : Dsk) (w : World) (e : Ending) (w' : World) : Prop :=
  ∃ v gs, e = .returned v ∧ kSecB.R 23 w' w.heap.size (fun _ => True) v (D.kept.zip gs) ∧ gs.length = D.kept.length ∧ gs.Nodup ∧ Below w.heap.size w w'
set_option maxHeartbeats 4000000 in
set_option maxRecDepth 100000 in
theorem KeptB_calls (B K M : Nat) (D : Dsk) (w : World) (h : IsDisk w B K M D) : Calls Try.prog 17 #[.pointer (some ⟨B, 0, none⟩)] w (KeptPostB D w) := by
  have H := Aside0.mk h
  have c0 := h.c0
  have hkb := h.few
  obtain ⟨z, hz⟩ : ∃ z, D.kept.length = z := ⟨_, rfl⟩
  rw [hz] at c0 hkb
  have hsl := fun W g => (show (Instr.sliceAt 53 (.pointer (some ⟨g, 0, none⟩)) none none none).run Try.prog W = .ok (.slice (some ⟨g, 0, none⟩) 64 64) W by kernel_rfl)
  replace hz := Aside0.mk hz
  clear h
  go_enter Try.func17, Try.ntmps17
  go_wp2_with fail
  go_loopw [3, 11] (fun u i wr => ∃ (k : Nat) (gs : List Nat), i = .int .i64 k ∧ k ≤ z ∧ Aside0 (kSecB.R 23 wr w.heap.size (fun _ => True) u ((D.kept.take k).zip gs)) ∧ Aside0 (gs.length = k ∧ gs.Nodup ∧ ∀ g ∈ gs, g < wr.heap.size) ∧ Aside0 (Below w.heap.size w wr)) (fun _ i _ => z - (intOf i).toNat)
  case atStart => exact ⟨0, [], rfl, Nat.zero_le _, ⟨by rw [List.take_zero]; exact Kd.R_nil _ _ _ _ _⟩, ⟨rfl, List.nodup_nil, by simp⟩, ⟨Below.refl _ _⟩⟩
  case round =>
    obtain ⟨k, gs, rfl, hk, HO, HG, HB⟩ := hrel
    by_cases hlt : k < z
    · have p1 : 0 ≤ (k : Int) := by omega
      have q1 : (k : Int) < (z : Int) := by omega
      obtain ⟨s, hs⟩ : ∃ s, D.kept[k]? = some s := ⟨D.kept[k]'(by rw [hz.out]; exact hlt), List.getElem?_eq_getElem _⟩
      have hS : Aside0 (Sec s) := ⟨H.out.secs _ (List.mem_of_getElem? hs)⟩
      have hcl : Aside0 (∀ j v, (byt s)[j]? = some v → wr.cell? ((⟨K, k * 64, none⟩ : Addr).add j) = some v) := ⟨fun j v hj => by
        have : w.cell? ((⟨K, k * 64, none⟩ : Addr).add j) = some v := by
          rw [addAt, cell_row H.out.kblk, List.getElem?_toArray]; exact kept_cells H.out.secs hs j v hj
        exact (HB.out.cell (World.block_lt_of_cell? w _ this)).trans this⟩
      replace hs := Aside0.mk hs
      go_wp2_with (first
        | ((with_reducible refine gate_op (.load 53 (.tmp 13)) rfl ?_); go_must (refine wpList_load_midB rfl _ _ rfl ⟨K, k * 64, none⟩ rfl (byt s) _ hcl.out Try.underlying53 rfl ?r2 ?_); (case r2 => rw [byt_length, hS.out.1]; exact size_sector))
        | ((with_reducible refine gate_op (.alloc 53) rfl ?_); refine wpList_alloc_of rfl _ rfl rfl (zero_sector _) ?_)
        | ((with_reducible refine gate_op (.store 53 (.tmp 5) (.tmp 14)) rfl ?_); go_must (refine wpList_store_midB rfl _ _ _ rfl wr.heap.size 0 (byt s) rfl rfl 53 (byt zeros) (heap_alloc_same _ _) ?q1 ?q2 byt_one ?_); (case q1 => rw [byt_length, hS.out.1]; exact size_sector); (case q2 => rw [byt_length, byt_length, hS.out.1]; decide); rw [splice_all _ _ (by rw [byt_length, byt_length, hS.out.1]; rfl)]; obtain ⟨V, hV, hOV, hBV, hpM, hu3, hV2⟩ := keptB_store w wr s u3 _ HO.out HB.out hS.out; change wpList _ _ _ _ _ ((wr.alloc (.cells zrow 53)).setRow wr.heap.size (byt s).toArray); rw [hV]; clear hV; replace hOV := Aside0.mk hOV; replace hBV := Aside0.mk hBV; replace hpM := Aside0.mk hpM; replace hu3 := Aside0.mk hu3; replace hV2 := Aside0.mk hV2)
        | ((with_reducible refine gate_op (.call ⟨.builtin .append, #[.tmp 15, .tmp 17], #[43, 43]⟩) rfl ?_); go_must (refine Kd.R_append kSecB (w0 := w) w.heap.size rfl (.tmp 15) (.tmp 17) 43 23 (.slice none 0 0) 24 rfl Try.underlying43 info_bytes rfl (by decide) (by omega) u3 ((D.kept.take k).zip gs) (s, wr.heap.size) [.slice (some ⟨wr.heap.size, 0, none⟩) 64 64] (fun _ => True) (fun i => i = wr.heap.size) rfl rfl ?aP ?aQ (fun _ _ => trivial) ?aO ?aB ?aS ?aL ?_); (case aP => exact hpM.out); (case aQ => exact fun i hi => ⟨trivial, by rw [hi]; exact hu3.out⟩); (case aO => exact hOV.out); (case aB => exact hBV.out); (case aS => exact hBV.out.size); (case aL => have := List.length_take_le k D.kept; have := List.length_zip (l₁ := D.kept.take k) (l₂ := gs); omega); intro v1 wb ho hb1 hg hat; replace ho := Aside0.mk ho; replace hb1 := Aside0.mk hb1; have hsz : Aside0 (wr.heap.size < wb.heap.size) := ⟨Nat.lt_of_lt_of_le hV2.out hg.size⟩; clear hg hat))
      have hfin : Aside0 (kSecB.R 23 wb w.heap.size (fun _ => True) v1 ((D.kept.take (k + 1)).zip (gs ++ [wr.heap.size]))) := ⟨by
        rw [List.take_add_one, hs.out, List.zip_append (by rw [List.length_take, HG.out.1, hz.out]; omega)]
        exact ho.out⟩
      have hwb := hsz.out
      have hg2 : Aside0 ((gs ++ [wr.heap.size]).length = k + 1 ∧ (gs ++ [wr.heap.size]).Nodup ∧ ∀ g ∈ gs ++ [wr.heap.size], g < wb.heap.size) := ⟨by
        refine ⟨by simp [HG.out.1], ?_, ?_⟩
        · rw [List.nodup_append]
          refine ⟨HG.out.2.1, by simp, fun a ha b hb => ?_⟩
          simp at hb; subst hb
          have := HG.out.2.2 a ha; omega
        · intro g hg
          rcases List.mem_append.1 hg with hg | hg
          · have := HG.out.2.2 g hg; omega
          · simp at hg; subst hg; omega⟩
      go_roundw
      case rel => exact ⟨k + 1, gs ++ [wr.heap.size], by simp, by omega, hfin, hg2, hb1⟩
      case measure => show z - ((k : Int) + 1).toNat < z - (k : Int).toNat; omega
    · go_wp2_with fail
      go_ret
      have hkz : k = z := by omega
      have := HO.out
      rw [List.take_of_length_le (by rw [hz.out]; omega)] at this
      exact ⟨_, gs, rfl, this, by rw [HG.out.1, hz.out, hkz], HG.out.2.1, HB.out⟩
end Go.Proofs.Ytiibfboendnifaa.Dk
