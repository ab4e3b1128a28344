/- Kept of package disk: all sectors, as they are kept. -/
import Derived.Test.YtiibfboendnifaaDoorDkW
namespace Go.Proofs.YtiibfboendnifaaDoor.Dk
set_option linter.unusedVariables false
set_option linter.unusedSimpArgs false
open Go.RowKit Go.Proofs.Bk Go.Proofs.Bm Go.Proofs.Op Go.Proofs.YtiibfboendnifaaDoorW.PrintWords

/-- a sector that is handed out: a slice over a block of a sector's type -/
def secM (w : World) (base : Nat) (ok : Nat → Prop) (x : List Int) (cs : List Value) : Prop :=
  ∃ g off c, cs = [.slice (some ⟨g, off, none⟩) x.length c] ∧ x.length ≤ c ∧ x.length ≤ 9223372036854775807 ∧ ok g ∧ base ≤ g ∧ SlRow w g off x ∧ ∃ cells, w.heap[g]? = some (.cells cells 84 (0, 0))
def kSec : Kd (List Int) where
  sz := 1
  E := [84]
  K := fun w x cs => ∃ A c, cs = [.slice A x.length c] ∧ x.length ≤ c ∧ (Kd.int .u8).C w A x.length x
  M := secM
  K_len := by
    rintro w x cs ⟨A, c, rfl, _⟩
    rfl
  K_one := by
    rintro w x cs ⟨A, c, rfl, _⟩ u hu
    rw [List.mem_singleton.1 hu]
    rfl
  K_below := by
    rintro w w1 x cs hb ⟨A, c, rfl, hl, hr⟩
    exact ⟨A, c, rfl, hl, Kd.C_below hr hb⟩
  K_of_M := by
    rintro w base ok x cs ⟨g, off, c, rfl, hc, hl, _, _, hr, _⟩
    exact ⟨_, c, rfl, hc, hr.c rfl hl⟩
  M_mono := by
    rintro w base ok ok' x cs hok ⟨g, off, c, rfl, hc, hl, h1, h2⟩
    exact ⟨g, off, c, rfl, hc, hl, hok _ h1, h2⟩
  M_bound := by
    rintro w base ok x cs ⟨g, off, c, rfl, hc, hl, h1, h2, h3, h4⟩
    obtain ⟨cells, hh⟩ := h4
    exact ⟨g, off, c, rfl, hc, hl, ⟨h1, h2, (Array.getElem?_eq_some_iff.1 hh).1, _, by simp, cells, hh⟩, h2, h3, cells, hh⟩
  M_move := by
    rintro w w1 base ok x cs hm ⟨g, off, c, rfl, hc, hl, h1, h2, h3, h4⟩
    have e := hm g h1
    exact ⟨g, off, c, rfl, hc, hl, h1, h2, fun j y hj => (World.cell?_of_block (w := w) (a := ⟨g, off + j, none⟩) e).trans (h3 j y hj), by rw [e]; exact h4⟩
  M_lower := by
    rintro w base base' ok x cs hb ⟨g, off, c, rfl, hc, hl, h1, h2, h3, h4⟩
    exact ⟨g, off, c, rfl, hc, hl, h1, Nat.le_trans hb h2, h3, h4⟩
theorem info_bytes : (Tryd.prog.info? 32).map (fun i => (i.zero, i.size, i.bytes)) = some (some (.slice none 0 0), 1, 24) := by kernel_rfl

theorem kept_store (w wr : World) (s : List Int) (u3 : Value) (xs : List (List Int)) (HO : kSec.R 32 wr w.heap.size (fun _ => True) u3 xs) (HB : Below w.heap.size w wr) (hS : Sec s) :
    ∃ V, (wr.alloc (.cells zrow 84)).setRow wr.heap.size (byt s).toArray = V ∧ kSec.R 32 V w.heap.size (fun _ => True) u3 xs ∧ Below w.heap.size w V ∧
      kSec.M V w.heap.size (fun i => i = wr.heap.size) s [.slice (some ⟨wr.heap.size, 0, none⟩) 64 64] ∧ some wr.heap.size ≠ u3.ownBlock := by
  have hb2 : Below wr.heap.size wr ((wr.alloc (.cells zrow 84)).setRow wr.heap.size (byt s).toArray) := below_setRow (below_alloc (Below.refl _ _) _) (Nat.le_refl _) _
  have hrow : ((wr.alloc (.cells zrow 84)).setRow wr.heap.size (byt s).toArray).heap[wr.heap.size]? = some (.cells (byt s).toArray 84 (0, 0)) := setRow_heap _ _ _ _ _ _ (heap_alloc_same _ _)
  refine ⟨_, rfl, Kd.R_step HO (fun i _ hi => hb2.block i hi), below_then HB HB.size hb2, ?_, fun e => by have := Kd.R_lt HO _ e.symm; omega⟩
  refine ⟨wr.heap.size, 0, 64, by rw [hS.1], by rw [hS.1]; exact Nat.le_refl _, by rw [hS.1]; decide, rfl, HB.size, fun j x hj => ?_, _, hrow⟩
  rw [cell_row hrow, Nat.zero_add, List.getElem?_toArray, byt, List.getElem?_map, hj]; rfl
def KeptPost (D : Dsk) (w : World) (e : Ending) (w' : World) : Prop :=
  ∃ v, e = .returned v ∧ kSec.R 32 w' w.heap.size (fun _ => True) v D.kept ∧ Below w.heap.size w w'
set_option maxHeartbeats 4000000 in
set_option maxRecDepth 100000 in
theorem Kept_calls (B K M : Nat) (D : Dsk) (w : World) (h : IsDisk w B K M D) : Calls Tryd.prog 22 #[.pointer (some ⟨B, 0, none⟩)] w (KeptPost D w) := by
  have H := Aside0.mk h
  have c0 := h.c0
  have hkb := h.few
  obtain ⟨z, hz⟩ : ∃ z, D.kept.length = z := ⟨_, rfl⟩
  rw [hz] at c0 hkb
  have hsl := fun W g => (show (Instr.sliceAt 84 (.pointer (some ⟨g, 0, none⟩)) none none none).run Tryd.prog W = .ok (.slice (some ⟨g, 0, none⟩) 64 64) W by kernel_rfl)
  replace hz := Aside0.mk hz
  clear h
  go_enter Tryd.func22, Tryd.ntmps22
  go_wp2_with fail
  go_loopw [3, 11] (fun u i wr => ∃ (k : Nat), i = .int .i64 k ∧ k ≤ z ∧ Aside0 (kSec.R 32 wr w.heap.size (fun _ => True) u (D.kept.take k)) ∧ Aside0 (Below w.heap.size w wr)) (fun _ i _ => z - (intOf i).toNat)
  case atStart => exact ⟨0, rfl, Nat.zero_le _, ⟨by rw [List.take_zero]; exact Kd.R_nil _ _ _ _ _⟩, ⟨Below.refl _ _⟩⟩
  case round =>
    obtain ⟨k, rfl, hk, HO, HB⟩ := hrel
    by_cases hlt : k < z
    · have p1 : 0 ≤ (k : Int) := by omega
      have q1 : (k : Int) < (z : Int) := by omega
      obtain ⟨s, hs⟩ : ∃ s, D.kept[k]? = some s := ⟨D.kept[k]'(by rw [hz.out]; exact hlt), List.getElem?_eq_getElem _⟩
      have hS : Aside0 (Sec s) := ⟨H.out.secs _ (List.mem_of_getElem? hs)⟩
      have hcl : Aside0 (∀ j v, (byt s)[j]? = some v → wr.cell? ((⟨K, k * 64, none⟩ : Addr).add j) = some v) := ⟨fun j v hj => by
        have : w.cell? ((⟨K, k * 64, none⟩ : Addr).add j) = some v := by
          rw [addAt, cell_row H.out.kblk, List.getElem?_toArray]; exact kept_cells H.out.secs hs j v hj
        exact (HB.out.cell (World.block_lt_of_cell? w _ this)).trans this⟩
      replace hs := Aside0.mk hs
      go_wp2_with (first
        | ((with_reducible refine gate_op (.load 84 (.tmp 13)) rfl ?_); go_must (refine wpList_load_midB rfl _ _ rfl ⟨K, k * 64, none⟩ rfl (byt s) _ hcl.out Tryd.underlying84 rfl ?r2 ?_); (case r2 => rw [byt_length, hS.out.1]; exact size_sector))
        | ((with_reducible refine gate_op (.alloc 84) rfl ?_); refine wpList_alloc_of rfl _ rfl rfl (zero_sector _) ?_)
        | ((with_reducible refine gate_op (.store 84 (.tmp 5) (.tmp 14)) rfl ?_); go_must (refine wpList_store_midB rfl _ _ _ rfl wr.heap.size 0 (byt s) rfl rfl 84 (byt zeros) (heap_alloc_same _ _) ?q1 ?q2 byt_one ?_); (case q1 => rw [byt_length, hS.out.1]; exact size_sector); (case q2 => rw [byt_length, byt_length, hS.out.1]; decide); rw [splice_all _ _ (by rw [byt_length, byt_length, hS.out.1]; rfl)]; obtain ⟨V, hV, hOV, hBV, hpM, hu3⟩ := kept_store w wr s u3 _ HO.out HB.out hS.out; change wpList _ _ _ _ _ ((wr.alloc (.cells zrow 84)).setRow wr.heap.size (byt s).toArray); rw [hV]; clear hV; replace hOV := Aside0.mk hOV; replace hBV := Aside0.mk hBV; replace hpM := Aside0.mk hpM; replace hu3 := Aside0.mk hu3)
        | ((with_reducible refine gate_op (.call ⟨.builtin .append, #[.tmp 15, .tmp 17], #[41, 41]⟩) rfl ?_); go_must (refine Kd.R_append kSec (w0 := w) w.heap.size rfl (.tmp 15) (.tmp 17) 41 32 (.slice none 0 0) 24 rfl Tryd.underlying41 info_bytes rfl (by decide) (by omega) u3 (D.kept.take k) s [.slice (some ⟨wr.heap.size, 0, none⟩) 64 64] (fun _ => True) (fun i => i = wr.heap.size) rfl rfl ?aP ?aQ (fun _ _ => trivial) ?aO ?aB ?aS ?aL ?_); (case aP => exact hpM.out); (case aQ => exact fun i hi => ⟨trivial, by rw [hi]; exact hu3.out⟩); (case aO => exact hOV.out); (case aB => exact hBV.out); (case aS => exact hBV.out.size); (case aL => have := List.length_take_le k D.kept; omega); intro v1 wb ho hb1 hg hat; replace ho := Aside0.mk ho; replace hb1 := Aside0.mk hb1; clear hg hat))
      have hfin : Aside0 (kSec.R 32 wb w.heap.size (fun _ => True) v1 (D.kept.take (k + 1))) := ⟨by rw [List.take_add_one, hs.out]; exact ho.out⟩
      go_roundw
      case rel => exact ⟨k + 1, by simp, by omega, hfin, hb1⟩
      case measure => show z - ((k : Int) + 1).toNat < z - (k : Int).toNat; omega
    · go_wp2_with fail
      go_ret
      have hkz : k = z := by omega
      have := HO.out
      rw [List.take_of_length_le (by rw [hz.out]; omega)] at this
      exact ⟨_, rfl, this, HB.out⟩
end Go.Proofs.YtiibfboendnifaaDoor.Dk
