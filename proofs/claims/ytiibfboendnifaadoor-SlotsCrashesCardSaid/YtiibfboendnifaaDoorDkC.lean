/- Read and Write of package disk. -/
import Derived.Test.YtiibfboendnifaaDoorDkB
import Derived.StillTailTactics
namespace Go.Proofs.YtiibfboendnifaaDoor.Dk
set_option linter.unusedVariables false
set_option linter.unusedSimpArgs false
attribute [local go_sem] Go.Proofs.YtiibfboendnifaaDoorW.PrintMore.max2_int Go.Proofs.YtiibfboendnifaaDoorW.PrintMore.min2_int Go.Proofs.YtiibfboendnifaaDoorW.PrintMore.max_two Go.Proofs.YtiibfboendnifaaDoorW.PrintMore.min_two
open Go.RowKit Go.Proofs.Bk Go.Proofs.Bm Go.Proofs.YtiibfboendnifaaDoorW.PrintWords

def zrow : Array Value := (byt zeros).toArray
theorem zero_sector (w : World) : (zeroValue 84).run Tryd.prog w = .ok (.agg zrow) w := by kernel_rfl
theorem size_sector : (Tryd.prog.info? 84).map (·.size) = some 64 := by kernel_rfl
theorem byt_length (s : List Int) : (byt s).length = s.length := by simp [byt]
theorem byt_one {s : List Int} : ∀ v ∈ byt s, v.oneCell' = true := by
  intro v hv
  obtain ⟨x, _, rfl⟩ := List.mem_map.1 hv
  rfl
theorem secV_zeros : secV zeros = .agg zrow := rfl

/-- v is a slice over block b that reads xs -/
def SlB (w : World) (v : Value) (xs : List Int) (b : Nat) : Prop :=
  ∃ off c, v = .slice (some ⟨b, off, none⟩) xs.length c ∧ (xs.length ≤ c ∧ ∃ cells, w.heap[b]? = some (.cells cells 84 (0, 0))) ∧ ∀ (j : Nat) x, xs[j]? = some x → w.cell? ⟨b, off + j, none⟩ = some (.int .u8 x)
theorem SlB.of_block {w w' : World} {v : Value} {xs : List Int} {b : Nat} (h : SlB w v xs b) (hb : w'.heap[b]? = w.heap[b]?) : SlB w' v xs b := by
  obtain ⟨off, c, h1, h2, h3⟩ := h
  exact ⟨off, c, h1, ⟨h2.1, by rw [hb]; exact h2.2⟩, fun j x hj => (World.cell?_of_block (w := w) (a := ⟨b, off + j, none⟩) hb).trans (h3 j x hj)⟩

theorem getD_some {α : Type} {l : List α} {i : Nat} (d : α) (h : i < l.length) : l[i]? = some (l.getD i d) := by rw [List.getD_eq_getElem?_getD]; simp [h]
/-- what a sector reads as -/
def Dsk.sec (D : Dsk) (i : Int) : List Int := (aget D.waits i).getD (D.kept.getD i.toNat [])
def Dsk.rdErr (D : Dsk) (i : Int) : Int := if D.has i then (if D.left = 0 then 19 else 0) else 6
def ReadPost (D : Dsk) (i : Int) (w : World) (e : Ending) (w' : World) : Prop :=
  ∃ v, e = .returned (.tuple #[v, .int .i64 (D.rdErr i)]) ∧ (D.rdErr i = 0 → ∃ b, SlB w' v (D.sec i) b ∧ w.heap.size ≤ b ∧ b < w'.heap.size) ∧ (D.rdErr i ≠ 0 → v = .slice none 0 0) ∧ Below w.heap.size w w'

theorem kept_cells {k : List (List Int)} (hk : ∀ s ∈ k, Sec s) {i : Nat} {s : List Int} (hi : k[i]? = some s) : ∀ (j : Nat) v, (byt s)[j]? = some v → (keptCells k)[i * 64 + j]? = some v := by
  induction k generalizing i with
  | nil => simp at hi
  | cons t k ih =>
    intro j v hj
    have ht : (byt t).length = 64 := by rw [byt_length]; exact (hk t (by simp)).1
    have hs : Sec s := hk s (List.mem_of_getElem? hi)
    have hj64 : j < 64 := by have := (List.getElem?_eq_some_iff.1 hj).1; rw [byt_length, hs.1] at this; exact this
    unfold keptCells
    rw [List.map_cons, List.flatten_cons]
    cases i with
    | zero =>
      simp at hi; subst hi
      rw [List.getElem?_append_left (by omega)]; simpa using hj
    | succ i =>
      rw [List.getElem?_append_right (by omega), ht, show (i + 1) * 64 + j - 64 = i * 64 + j by omega]
      exact ih (fun s hs => hk s (by simp [hs])) (by simpa using hi) j v hj

set_option maxHeartbeats 2000000 in
set_option maxRecDepth 100000 in
theorem Read_calls (B K M : Nat) (D : Dsk) (i : Int) (w : World) (h : IsDisk w B K M D) : Calls Tryd.prog 55 #[.pointer (some ⟨B, 0, none⟩), .int .i64 i] w (ReadPost D i w) := by
  have H := Aside0.mk h
  have c0 := h.c0
  have c1 := h.c1
  have c2 := h.c2
  obtain ⟨l, hl⟩ : ∃ l, D.left = l := ⟨_, rfl⟩
  rw [hl] at c2
  obtain ⟨n, hn⟩ : ∃ n, D.kept.length = n := ⟨_, rfl⟩
  rw [hn] at c0
  clear h
  by_cases hh : D.has i = true
  · by_cases h0 : l = 0
    · have fin : Aside0 (ReadPost D i w (.returned (.tuple #[.slice none 0 0, .int .i64 19])) w) := ⟨⟨_, by unfold Dsk.rdErr; rw [if_pos hh, hl, if_pos h0], fun he => by unfold Dsk.rdErr at he; rw [if_pos hh, hl, if_pos h0] at he; omega, fun _ => rfl, Below.refl _ _⟩⟩
      subst h0
      clear hl hn
      go_enter Tryd.func55, Tryd.ntmps55
      go_wp2_with (go_at_call 42; refine (there_calls B K M D i _ H.out).mono ?_; rintro e w' ⟨rfl, rfl⟩; rw [hh])
      go_ret2
      exact fin.out
    · have ht : (l == 0) = false := by simpa using h0
      have hz : D.rdErr i = 0 := by unfold Dsk.rdErr; rw [if_pos hh, hl, if_neg h0]
      have hin : 0 ≤ i ∧ i < (n : Int) := by unfold Dsk.has at hh; rw [hn] at hh; simpa using hh
      have fin : ∀ (s : List Int) (w' : World), D.sec i = s → Sec s → w'.heap[w.heap.size]? = some (.cells (byt s).toArray 84 (0, 0)) → Below w.heap.size w w' → w.heap.size < w'.heap.size → ReadPost D i w (.returned (.tuple #[.slice (some ⟨w.heap.size, 0, none⟩) 64 64, .int .i64 0])) w' := by
        intro s w' hs hS hb hB hlt
        refine ⟨_, by rw [hz], fun _ => ⟨w.heap.size, ⟨0, 64, by rw [hs, hS.1], ⟨by rw [hs, hS.1]; exact Nat.le_refl _, _, hb⟩, fun j x hj => ?_⟩, Nat.le_refl _, hlt⟩, fun hne => absurd hz hne, hB⟩
        rw [cell_row hb, Nat.zero_add, List.getElem?_toArray, byt, List.getElem?_map, ← hs, hj]; rfl
      replace fin := Aside0.mk fin
      obtain ⟨hin1, hin2⟩ := hin
      have hcell := kept_cells H.out.secs (i := i.toNat) (s := D.kept.getD i.toNat []) (getD_some _ (by omega))
      have hKS : Sec (D.kept.getD i.toNat []) := H.out.secs _ (List.mem_of_getElem? (getD_some _ (by omega : i.toNat < D.kept.length)))
      replace h0 := Aside0.mk h0; replace hl := Aside0.mk hl; replace hn := Aside0.mk hn; replace hcell := Aside0.mk hcell; replace hKS := Aside0.mk hKS; replace hz := Aside0.mk hz
      have hr := Aside0.mk hh
      cases hg : aget D.waits i with
      | some s =>
        have hS : Aside0 (Sec s) := by
          obtain ⟨p, hp, h2⟩ := Option.map_eq_some_iff.1 hg
          have := (H.out.wsec p (List.mem_of_find?_eq_some hp)).1
          rw [h2] at this; exact ⟨this⟩
        have hs : Aside0 (D.sec i = s) := ⟨by unfold Dsk.sec; rw [hg]; rfl⟩
        replace hg := Aside0.mk hg
        go_enter Tryd.func55, Tryd.ntmps55
        go_wp2_with (first
          | (go_at_call 42; refine (there_calls B K M D i _ H.out).mono ?_; rintro e w' ⟨rfl, rfl⟩; rw [hh])
          | (at_lookup; refine wpList_lookupOk_imap (enc := secV) rfl _ _ 68 rfl Tryd.underlying68 Tryd.underlying3 (zero_sector _) M D.waits i rfl rfl H.out.mp ?_; rw [hg.out]; simp only [Option.map_some, Option.getD_some, Option.isSome_some])
          | ((with_reducible refine gate_op (.alloc 84) rfl ?_); refine wpList_alloc_of rfl _ rfl rfl (zero_sector _) ?_)
          | ((with_reducible refine gate_op (.store 84 (.tmp 6) (.tmp 26)) rfl ?_); go_must (refine wpList_store_midB rfl _ _ _ rfl w.heap.size 0 (byt s) rfl rfl 84 (byt zeros) (heap_alloc_same _ _) ?q1 ?q2 byt_one ?_); (case q1 => rw [byt_length, hS.out.1]; exact size_sector); (case q2 => rw [byt_length, byt_length, hS.out.1]; decide); rw [splice_all _ _ (by rw [byt_length, byt_length, hS.out.1]; rfl)]))
        go_ret2
        refine fin.out s _ hs.out hS.out (setRow_heap _ _ _ _ _ _ (heap_alloc_same _ _)) (below_setRow (below_alloc (Below.refl _ _) _) (Nat.le_refl _) _) ?_
        rw [setRow_size]; simp
      | none =>
        have hs : Aside0 (D.sec i = D.kept.getD i.toNat []) := ⟨by unfold Dsk.sec; rw [hg]; rfl⟩
        obtain ⟨s, hse⟩ : ∃ s, D.kept.getD i.toNat [] = s := ⟨_, rfl⟩
        rw [hse] at hs hKS hcell
        clear hse
        replace hg := Aside0.mk hg
        have hcl : Aside0 (∀ j v, (byt s)[j]? = some v → w.cell? ((⟨K, i.toNat * 64, none⟩ : Addr).add j) = some v) := ⟨fun j v hj => by
          rw [addAt, cell_row H.out.kblk, List.getElem?_toArray]; exact hcell.out j v hj⟩
        go_enter Tryd.func55, Tryd.ntmps55
        go_wp2_with (first
          | (go_at_call 42; refine (there_calls B K M D i _ H.out).mono ?_; rintro e w' ⟨rfl, rfl⟩; rw [hh])
          | (at_lookup; refine wpList_lookupOk_imap (enc := secV) rfl _ _ 68 rfl Tryd.underlying68 Tryd.underlying3 (zero_sector _) M D.waits i rfl rfl H.out.mp ?_; rw [hg.out]; simp only [Option.map_none, Option.getD_none, Option.isSome_none])
          | ((with_reducible refine gate_op (.alloc 84) rfl ?_); refine wpList_alloc_of rfl _ rfl rfl (zero_sector _) ?_)
          | ((with_reducible refine gate_op (.store 84 (.tmp 6) (.tmp 26)) rfl ?_); go_must (refine wpList_store_midB rfl _ _ _ rfl w.heap.size 0 (byt zeros) rfl rfl 84 (byt zeros) (heap_alloc_same _ _) ?q1 ?q2 byt_one ?_); (case q1 => exact size_sector); (case q2 => decide); rw [splice_all _ _ rfl]; have c0' := ((below_setRow (below_alloc (Below.refl _ w) (.cells zrow 84)) (Nat.le_refl _) (byt zeros).toArray).cell (World.block_lt_of_cell? w _ c0)).trans c0)
          | ((with_reducible refine gate_op (.load 84 (.tmp 35)) rfl ?_); go_must (refine wpList_load_midB rfl _ _ rfl ⟨K, i.toNat * 64, none⟩ rfl (byt s) _ ?r1 Tryd.underlying84 rfl ?r2 ?_); (case r1 => exact fun j v hj => ((below_setRow (below_alloc (Below.refl _ w) _) (Nat.le_refl _) _).cell (World.block_lt_of_cell? w _ (hcl.out j v hj))).trans (hcl.out j v hj)); (case r2 => rw [byt_length, hKS.out.1]; exact size_sector))
          | ((with_reducible refine gate_op (.store 84 (.tmp 6) (.tmp 36)) rfl ?_); go_must (refine wpList_store_midB rfl _ _ _ rfl w.heap.size 0 (byt s) rfl rfl 84 (byt zeros) (setRow_heap _ _ _ _ _ _ (heap_alloc_same _ _)) ?q3 ?q4 byt_one ?_); (case q3 => rw [byt_length, hKS.out.1]; exact size_sector); (case q4 => rw [byt_length, byt_length, hKS.out.1]; decide); rw [splice_all _ _ (by rw [byt_length, byt_length, hKS.out.1]; rfl)]))
        go_ret2
        refine fin.out s _ hs.out hKS.out (setRow_heap _ _ _ _ _ _ (setRow_heap _ _ _ _ _ _ (heap_alloc_same _ _))) (below_setRow (below_setRow (below_alloc (Below.refl _ _) _) (Nat.le_refl _) _) (Nat.le_refl _) _) ?_
        rw [setRow_size, setRow_size]; simp
  · have hh' : D.has i = false := by simpa using hh
    have fin : Aside0 (ReadPost D i w (.returned (.tuple #[.slice none 0 0, .int .i64 6])) w) := ⟨⟨_, by unfold Dsk.rdErr; rw [if_neg hh], fun he => by unfold Dsk.rdErr at he; rw [if_neg hh] at he; omega, fun _ => rfl, Below.refl _ _⟩⟩
    clear hl hn hh
    go_enter Tryd.func55, Tryd.ntmps55
    go_wp2_with (go_at_call 42; refine (there_calls B K M D i _ H.out).mono ?_; rintro e w' ⟨rfl, rfl⟩; rw [hh'])
    go_ret2
    exact fin.out
end Go.Proofs.YtiibfboendnifaaDoor.Dk
