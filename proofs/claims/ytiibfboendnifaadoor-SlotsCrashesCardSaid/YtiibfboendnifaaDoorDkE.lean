/- Flush of package disk. -/
import Derived.Test.YtiibfboendnifaaDoorDkD
import Derived.Test.YtiibfboendnifaaDoorBi
namespace Go.Proofs.YtiibfboendnifaaDoor.Dk
set_option linter.unusedVariables false
set_option linter.unusedSimpArgs false
open Go.RowKit Go.Proofs.Bk Go.Proofs.Bm Go.Proofs.YtiibfboendnifaaDoorW.PrintWords

/-- the kept sectors where all of ws but what is in left has been stored -/
def mix (kept : List (List Int)) (ws left : List (Int × List Int)) : List (List Int) := kept.mapIdx fun i s => if (aget left i).isSome then s else (aget ws i).getD s
theorem mix_length (kept : List (List Int)) (ws left : List (Int × List Int)) : (mix kept ws left).length = kept.length := by simp [mix]
theorem mix_start (kept : List (List Int)) (ws : List (Int × List Int)) : mix kept ws ws = kept := by
  refine List.ext_getElem? fun i => ?_
  unfold mix
  rw [List.getElem?_mapIdx]
  cases kept[i]? with
  | none => rfl
  | some s =>
    simp only [Option.map_some]
    cases aget ws i <;> simp
theorem mix_step (kept : List (List Int)) {ws left left' : List (Int × List Int)} {k : Int} {v : List Int} (hp : left.Perm ((k, v) :: left')) (hn : (left.map (·.1)).Nodup) (hw : aget ws k = some v) (hk : 0 ≤ k ∧ k < kept.length) :
    mix kept ws left' = (mix kept ws left).set k.toNat v := by
  have hn' : (((k, v) :: left').map (·.1)).Nodup := (hp.map (·.1)).nodup_iff.1 hn
  have hk' : aget left' k = none := (aget_none_iff left' k).2 (List.nodup_cons.1 hn').1
  refine List.ext_getElem? fun i => ?_
  unfold mix
  rw [List.getElem?_set]
  by_cases e : k.toNat = i
  · subst e
    rw [if_pos rfl, if_pos (by simp; omega), List.getElem?_mapIdx, List.getElem?_eq_getElem (by omega), Option.map_some]
    rw [show ((k.toNat : Nat) : Int) = k by omega, hk', hw]; rfl
  · rw [if_neg e, List.getElem?_mapIdx, List.getElem?_mapIdx]
    have : aget left' (i : Int) = aget left i := by
      rw [aget_perm hp hn, aget_cons, if_neg (by simp; omega)]
    rw [this]
theorem mix_secs {kept : List (List Int)} {ws : List (Int × List Int)} (left : List (Int × List Int)) (hk : ∀ s ∈ kept, Sec s) (hw : ∀ p ∈ ws, Sec p.2) : ∀ s ∈ mix kept ws left, Sec s := by
  intro s hs
  unfold mix at hs
  obtain ⟨i, hi, rfl⟩ := List.mem_iff_getElem.1 hs
  rw [List.getElem_mapIdx]
  split
  · exact hk _ (List.getElem_mem _)
  · cases e : aget ws i with
    | none => exact hk _ (List.getElem_mem _)
    | some v =>
      obtain ⟨p, hp, h2⟩ := Option.map_eq_some_iff.1 (show (ws.find? fun p => p.1 == (i : Int)).map (·.2) = some v from e)
      have := hw p (List.mem_of_find?_eq_some hp)
      rw [h2] at this; exact this

theorem keptCells_length (k : List (List Int)) (hk : ∀ s ∈ k, Sec s) : (keptCells k).length = k.length * 64 := by
  induction k with
  | nil => rfl
  | cons s k ih =>
    unfold keptCells at *
    rw [List.map_cons, List.flatten_cons, List.length_append, ih (fun s hs => hk s (by simp [hs])), byt_length, (hk s (by simp)).1, List.length_cons]
    omega
theorem keptCells_set (s' : List Int) (hs' : s'.length = 64) : ∀ (k : List (List Int)) (hk : ∀ s ∈ k, Sec s) (i : Nat), i < k.length → splice (keptCells k) (i * 64) (byt s') = keptCells (k.set i s')
  | [], _, i, h => by simp at h
  | s :: k, hk, 0, _ => by
    have h1 : (byt s).length = 64 := by rw [byt_length]; exact (hk s (by simp)).1
    unfold keptCells splice
    simp only [List.map_cons, List.flatten_cons, List.set_cons_zero, Nat.zero_mul, List.take_zero, List.nil_append, Nat.zero_add, byt_length, hs']
    rw [← h1, List.drop_left]
  | s :: k, hk, i + 1, h => by
    have h1 : (byt s).length = 64 := by rw [byt_length]; exact (hk s (by simp)).1
    have ih := keptCells_set s' hs' k (fun s hs => hk s (by simp [hs])) i (by simpa using h)
    unfold keptCells splice at *
    simp only [List.map_cons, List.flatten_cons, List.set_cons_succ]
    rw [← ih, List.take_append, List.drop_append, h1, List.take_of_length_le (by omega), List.drop_of_length_le (by omega), List.nil_append, List.append_assoc]
    simp only [byt_length, hs']
    rw [show (i + 1) * 64 - 64 = i * 64 by omega, show (i + 1) * 64 + 64 - 64 = i * 64 + 64 by omega]

theorem IsDisk.setKept {w : World} {B K M : Nat} {D : Dsk} (h : IsDisk w B K M D) {k : Nat} {s : List Int} (hk : k < D.kept.length) (hs : Sec s) :
    IsDisk (w.setRow K (splice (keptCells D.kept) (k * 64) (byt s)).toArray) B K M { D with kept := D.kept.set k s } := by
  have ho : ∀ i, i ≠ K → (w.setRow K (splice (keptCells D.kept) (k * 64) (byt s)).toArray).heap[i]? = w.heap[i]? := fun i hi => by
    unfold World.setRow; simp [Array.getElem?_modify, Ne.symm hi]
  refine ⟨?_, ?_, h.mp.of_block (ho M (Ne.symm h.km)), h.bk, h.bm, h.km, by simpa using h.few, ?_, ?_, h.lft⟩
  · rw [ho B h.bk, h.blk]; simp
  · rw [keptCells_set s hs.1 _ h.secs k hk]; exact setRow_heap _ _ _ _ _ _ h.kblk
  · intro x hx
    rcases List.mem_or_eq_of_mem_set hx with hx | rfl
    · exact h.secs x hx
    · exact hs
  · intro p hp; have := h.wsec p hp; simpa using this
theorem KeepF.setRow (w : World) (g : Nat) (cs : Array Value) : KeepF (fun k => k = g) w (w.setRow g cs) := ⟨rfl, rfl, rfl, by rw [setRow_size]; exact Nat.le_refl _, fun i hi hn => by
  unfold World.setRow; simp [Array.getElem?_modify, Ne.symm hn]⟩

def Dsk.flErr (D : Dsk) : Int := if D.left = 0 then 19 else 0
def Dsk.fl (D : Dsk) : Dsk := if D.left = 0 then D.tick else { D.tick with kept := mix D.kept D.waits [], waits := [] }
def FlushPost (B K M : Nat) (D : Dsk) (w : World) (e : Ending) (w' : World) : Prop :=
  e = .returned (.int .i64 D.flErr) ∧ IsDisk w' B K M D.fl ∧ KeepF (FD B K M) w w'

theorem IsDisk.emptied {w : World} {B K M : Nat} {D : Dsk} (h : IsDisk w B K M D) {ob : Obj} (hm : IMap .i64 secV (bset w M ob) M []) :
    IsDisk (bset w M ob) B K M { D with waits := [] } :=
  ⟨(bset_other w h.bm ob).trans h.blk, (bset_other w h.km ob).trans h.kblk, hm, h.bk, h.bm, h.km, h.few, h.secs, by simp, h.lft⟩

set_option maxHeartbeats 4000000 in
set_option maxRecDepth 100000 in
theorem Flush_calls (B K M : Nat) (D : Dsk) (w : World) (h : IsDisk w B K M D) :
    Calls Tryd.prog 39 #[.pointer (some ⟨B, 0, none⟩)] w (FlushPost B K M D w) := by
  have H := Aside0.mk h
  clear h
  by_cases h0 : D.left = 0
  · have fin : Aside0 (∀ w', IsDisk w' B K M D.tick → KeepF (FD B K M) w w' → FlushPost B K M D w (.returned (.int .i64 19)) w') := ⟨fun w' h1 h2 => ⟨by unfold Dsk.flErr; rw [if_pos h0], by unfold Dsk.fl; rw [if_pos h0]; exact h1, h2⟩⟩
    have hd : decide (D.left = 0) = true := decide_eq_true h0
    clear h0
    go_enter Tryd.func39, Tryd.ntmps39
    go_wp2_with (go_at_call 62; refine (off_calls B K M D _ H.out).mono ?_; rintro e w1 ⟨rfl, h1, h2⟩; replace h1 := Aside0.mk h1; replace h2 := Aside0.mk h2; rw [hd])
    go_ret
    exact fin.out _ h1.out h2.out
  · have hd : decide (D.left = 0) = false := decide_eq_false h0
    have fin : Aside0 (∀ w', IsDisk w' B K M { D.tick with kept := mix D.kept D.waits [], waits := [] } → KeepF (FD B K M) w w' → FlushPost B K M D w (.returned (.int .i64 0)) w') := ⟨fun w' h1 h2 => ⟨by unfold Dsk.flErr; rw [if_neg h0], by unfold Dsk.fl; rw [if_neg h0]; exact h1, h2⟩⟩
    clear h0
    go_enter Tryd.func39, Tryd.ntmps39
    go_wp2_with (first
      | (go_at_call 62; refine (off_calls B K M D _ H.out).mono ?_; rintro e w1 ⟨rfl, h1, h2⟩; have c1 := h1.c1; replace h1 := Aside0.mk h1; replace h2 := Aside0.mk h2; rw [hd])
      | (at_range; refine wpList_range_imap (enc := secV) (q := .i64) rfl _ 68 rfl Tryd.underlying68 M D.tick.waits rfl h1.out.mp ?_; intro ob hit; replace hit := Aside0.mk hit))
    go_frame
    go_loopw [] (fun wr => ∃ left : List (Int × List Int), Aside0 (ILeft .i64 secV wr w1.heap.size M D.waits left) ∧ Aside0 (IsDisk wr B K M { D.tick with kept := mix D.kept D.waits left }) ∧ Aside0 (KeepF (FD B K M) w wr) ∧ Aside0 ((left.map (·.1)).Nodup ∧ ∀ p ∈ left, p ∈ D.waits) ∧ Aside0 (w1.heap.size < wr.heap.size))
      (fun wr => wr.rangeLeft M w1.heap.size)
    case atStart =>
      have hk1 : KeepF (FD B K M) w1 (w1.alloc ob) := KeepF.of_below (below_alloc (Below.refl _ _) _)
      refine ⟨D.waits, hit, ⟨?_⟩, ⟨h2.out.trans hk1 (fun _ _ h => h)⟩, ⟨H.out.mp.nodup, fun p hp => hp⟩, ⟨by simp⟩⟩
      rw [mix_start]
      exact h1.out.below (below_alloc (Below.refl _ _) _)
    case round =>
      obtain ⟨left, hL, hD, hK, hN, hS⟩ := hrel
      go_wp2_with (first
        | (at_next; refine wpList_next_imap (enc := secV) (q := .i64) rfl _ rfl w1.heap.size M D.waits left rfl hL.out ?_ ?_)
        | go_in)
      · intro hd0
        subst hd0
        have c1' := hD.out.c1
        go_wp2_with ((with_reducible refine gate_op (.call ⟨.builtin .clear, #[.tmp 27], #[68]⟩) rfl ?_); refine wpList_clear_imap (enc := secV) (q := .i64) rfl _ 68 rfl Tryd.underlying68 M D.tick.waits rfl hD.out.mp ?_; intro ob3 hm3; replace hm3 := Aside0.mk hm3)
        go_ret
        exact fin.out _ (hD.out.emptied hm3.out) (hK.out.trans (F' := fun k => k = M) (KeepF.bset _ _ _) (fun i _ hi => .inr (.inr hi)))
      · intro k v left' w2 ob2 hp hw hl hen
        have hkw : KeepF (fun i => i = w1.heap.size) wr (bset w2 w1.heap.size ob2) := by
          rcases hw with e | e
          · subst e; exact KeepF.bset _ _ _
          · subst e; exact (KeepF.drew (KeepF.refl _ wr)).trans (F' := fun i => i = w1.heap.size) (KeepF.bset _ _ _) (fun _ _ h => h)
        have hsz := hS.out
        have hf : ¬ FD B K M w1.heap.size := by
          have := h1.out.lts
          unfold FD; omega
        have hD2 : IsDisk (bset w2 w1.heap.size ob2) B K M { D.tick with kept := mix D.kept D.waits left } := hD.out.of_keep hkw (fun e => hf (.inl e.symm)) (fun e => hf (.inr (.inl e.symm))) (fun e => hf (.inr (.inr e.symm)))
        have hK2 : KeepF (FD B K M) w (bset w2 w1.heap.size ob2) := hK.out.trans hkw (fun i hi e => by have := h2.out.size; omega)
        have hS2 : w1.heap.size < (bset w2 w1.heap.size ob2).heap.size := by have := hkw.size; omega
        obtain ⟨W, hW⟩ : ∃ W, bset w2 w1.heap.size ob2 = W := ⟨_, rfl⟩
        rw [hW] at hl hen hD2 hK2 hS2 ⊢
        clear hW hkw hw
        have hmem : (k, v) ∈ D.waits := hN.out.2 _ (hp.mem_iff.2 (by simp))
        have hsec := H.out.wsec _ hmem
        have hv : Aside0 (Sec v) := ⟨hsec.1⟩
        have hget : aget D.waits k = some v := (aget_some_iff H.out.mp.nodup k v).2 hmem
        obtain ⟨p1, q1⟩ := hsec.2
        have q1' : k < ((mix D.kept D.waits left).length : Int) := by rw [mix_length]; exact q1
        have hstep := Aside0.mk (mix_step D.kept hp hN.out.1 hget ⟨p1, q1⟩)
        have hN' : Aside0 ((left'.map (·.1)).Nodup ∧ ∀ p ∈ left', p ∈ D.waits) := ⟨(List.nodup_cons.1 ((hp.map (·.1)).nodup_iff.1 hN.out.1)).2, fun p hp' => hN.out.2 _ (hp.mem_iff.2 (by simp [hp']))⟩
        have c0' := hD2.c0
        obtain ⟨n, hn⟩ : ∃ n, (mix D.kept D.waits left).length = n := ⟨_, rfl⟩
        change W.cell? ⟨B, 0, none⟩ = some (.slice (some ⟨K, 0, none⟩) (mix D.kept D.waits left).length (mix D.kept D.waits left).length) at c0'
        rw [hn] at c0' q1'
        replace hl := Aside0.mk hl; replace hD2 := Aside0.mk hD2; replace hK2 := Aside0.mk hK2; replace hS2 := Aside0.mk hS2; replace hmem := Aside0.mk hmem; replace hget := Aside0.mk hget; replace hsz := Aside0.mk hsz; replace hf := Aside0.mk hf; replace hp := Aside0.mk hp; replace hn := Aside0.mk hn
        replace hsec := trivial
        go_wp2_with (first
          | ((with_reducible refine gate_op (.alloc 84) rfl ?_); refine wpList_alloc_of rfl _ rfl rfl (zero_sector _) ?_)
          | ((with_reducible refine gate_op (.store 84 (.tmp 4) (.tmp 16)) rfl ?_); go_must (refine wpList_store_midB rfl _ _ _ rfl W.heap.size 0 (byt v) rfl rfl 84 (byt zeros) (heap_alloc_same _ _) ?q1 ?q2 byt_one ?_); (case q1 => rw [byt_length, hv.out.1]; exact size_sector); (case q2 => rw [byt_length, byt_length, hv.out.1]; decide); rw [splice_all _ _ (by rw [byt_length, byt_length, hv.out.1]; rfl)]))
        have hb2 : Below W.heap.size W ((W.alloc (.cells zrow 84)).setRow W.heap.size (byt v).toArray) := below_setRow (below_alloc (Below.refl _ _) _) (Nat.le_refl _) _
        have hrow : ((W.alloc (.cells zrow 84)).setRow W.heap.size (byt v).toArray).heap[W.heap.size]? = some (.cells (byt v).toArray 84 (0, 0)) := setRow_heap _ _ _ _ _ _ (heap_alloc_same _ _)
        obtain ⟨g, hg⟩ : ∃ g, W.heap.size = g := ⟨_, rfl⟩
        obtain ⟨V, hV⟩ : ∃ V, (W.alloc (.cells zrow 84)).setRow W.heap.size (byt v).toArray = V := ⟨_, rfl⟩
        rw [hV] at hb2 hrow ⊢
        rw [hg] at hrow ⊢
        have hl3 : ILeft .i64 secV V w1.heap.size M D.waits left' := hl.out.of_blocks (hb2.block _ hl.out.lt.1) (hb2.block _ hl.out.lt.2.1)
        have hD3 := hD2.out.below hb2
        have hK3 : KeepF (FD B K M) w V := hK2.out.trans (F' := fun _ => False) (KeepF.of_below hb2) (fun i _ h => h.elim)
        have hS3 : w1.heap.size < V.heap.size := Nat.lt_of_lt_of_le hS2.out hb2.size
        have hKb : w1.heap.size ≠ K := fun e => hf.out (by rw [e]; exact .inr (.inl rfl))
        have c0v := hD3.c0
        change V.cell? ⟨B, 0, none⟩ = some (.slice (some ⟨K, 0, none⟩) (mix D.kept D.waits left).length (mix D.kept D.waits left).length) at c0v
        rw [hn.out] at c0v
        replace hb2 := Aside0.mk hb2; replace hrow := Aside0.mk hrow; replace hl3 := Aside0.mk hl3; replace hD3 := Aside0.mk hD3; replace hK3 := Aside0.mk hK3; replace hS3 := Aside0.mk hS3; replace hV := Aside0.mk hV; replace hg := Aside0.mk hg; replace c0' := Aside0.mk c0'
        go_still_tail 7, (by kernel_rfl)
        refine wpStill_load_cells rfl _ _ rfl ⟨g, 0, none⟩ rfl (byt v) _ (cells_row (w := V.drew) hrow.out) Tryd.underlying84 rfl ?k5 ?_
        case k5 => rw [byt_length, hv.out.1]; exact size_sector
        repeat still_step
        refine wpStill_nil ?_
        change wpList _ _ _ _ _ V.drew
        have hkl : k.toNat < (mix D.kept D.waits left).length := by rw [hn.out]; omega
        refine wpList_store_midB rfl _ _ _ rfl K (k.toNat * 64) (byt v) rfl rfl 84 (keptCells (mix D.kept D.waits left)) (show V.drew.heap[K]? = _ from hD3.out.kblk) ?k6 ?k7 byt_one ?_
        case k6 => rw [byt_length, hv.out.1]; exact size_sector
        case k7 => rw [keptCells_length _ hD3.out.secs, byt_length, hv.out.1]; show _ ≤ (mix D.kept D.waits left).length * 64; omega
        have hD4 := (hD3.out.drewN 1).setKept hkl hv.out
        change IsDisk (V.drew.setRow K (splice (keptCells (mix D.kept D.waits left)) (k.toNat * 64) (byt v)).toArray) B K M { D.tick with kept := (mix D.kept D.waits left).set k.toNat v } at hD4
        rw [← hstep.out] at hD4
        have hk4 : KeepF (fun i => i = K) V (V.drew.setRow K (splice (keptCells (mix D.kept D.waits left)) (k.toNat * 64) (byt v)).toArray) := (KeepF.drew (KeepF.refl _ V)).trans (F' := fun i => i = K) (KeepF.setRow _ _ _) (fun _ _ h => h)
        obtain ⟨U, hU⟩ : ∃ U, V.drew.setRow K (splice (keptCells (mix D.kept D.waits left)) (k.toNat * 64) (byt v)).toArray = U := ⟨_, rfl⟩
        rw [hU] at hD4 hk4 ⊢
        have hl4 : ILeft .i64 secV U w1.heap.size M D.waits left' := hl3.out.of_blocks (hk4.block _ hl3.out.lt.1 hKb) (hk4.block _ hl3.out.lt.2.1 (fun e => hD3.out.km e.symm))
        have hS4 := Nat.lt_of_lt_of_le hS3.out hk4.size
        have hK4 : KeepF (FD B K M) w U := hK3.out.trans (F' := fun i => i = K) hk4 (fun i _ e => .inr (.inl e))
        replace hD4 := Aside0.mk hD4; replace hk4 := Aside0.mk hk4; replace hl4 := Aside0.mk hl4; replace hS4 := Aside0.mk hS4; replace hK4 := Aside0.mk hK4; replace hkl := Aside0.mk hkl; replace hU := Aside0.mk hU; replace hKb := Aside0.mk hKb
        go_wp2
        go_roundw
        case rel => exact ⟨left', hl4, hD4, ⟨hN'.out.1, fun a b h => hN'.out.2 (a, b) h⟩⟩
        case measure => rw [hl4.out.count, hL.out.count, hp.out.length_eq]; simp
end Go.Proofs.YtiibfboendnifaaDoor.Dk
