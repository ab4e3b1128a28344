/- The small calls of package disk: off, there, Arm, Read. Read and Write of package disk. Write of package disk. Flush of package disk. Waits of package disk: the numbers of the sectors that wait, in order. Crash of package disk. Rot of package disk. -/
import Derived.Test.YtiibfboendnifaaDoorDkA
import Derived.Test.YtiibfboendnifaaDoorBk
import Derived.Test.YtiibfboendnifaaDoorWMore
import Derived.Deep.QuietTactic
import Derived.BigQuiet
import Derived.StillTailTactics
import Derived.Test.YtiibfboendnifaaDoorBi
import Derived.Test.YtiibfboendnifaaDoorShelf
import Derived.Shelf.SlIterI.Nil
import Derived.OwnWalkIn
namespace Go.Proofs.YtiibfboendnifaaDoor.Dk
set_option linter.unusedVariables false
set_option linter.unusedSimpArgs false
attribute [local go_sem] Go.Proofs.YtiibfboendnifaaDoorW.PrintMore.max2_int Go.Proofs.YtiibfboendnifaaDoorW.PrintMore.min2_int Go.Proofs.YtiibfboendnifaaDoorW.PrintMore.max_two Go.Proofs.YtiibfboendnifaaDoorW.PrintMore.min_two
open Go.RowKit Go.Proofs.Bk Go.Proofs.Bm Go.Proofs.YtiibfboendnifaaDoorW.PrintWords

/-- but for the blocks of F the old world stays -/
structure KeepF (F : Nat → Prop) (w w' : World) : Prop where
  os : w'.os = w.os
  tape : w'.tape = w.tape
  output : w'.output = w.output
  size : w.heap.size ≤ w'.heap.size
  block : ∀ k, k < w.heap.size → ¬ F k → w'.heap[k]? = w.heap[k]?
theorem KeepF.refl (F : Nat → Prop) (w : World) : KeepF F w w := ⟨rfl, rfl, rfl, Nat.le_refl _, fun _ _ _ => rfl⟩
theorem KeepF.trans {F F' : Nat → Prop} {a b c : World} (h : KeepF F a b) (k : KeepF F' b c) (hF : ∀ i, i < a.heap.size → F' i → F i) : KeepF F a c :=
  ⟨k.os.trans h.os, k.tape.trans h.tape, k.output.trans h.output, Nat.le_trans h.size k.size, fun i hi hn => (k.block i (Nat.lt_of_lt_of_le hi h.size) (fun hf => hn (hF i hi hf))).trans (h.block i hi hn)⟩
theorem KeepF.mono {F F' : Nat → Prop} {a b : World} (h : KeepF F a b) (hF : ∀ i, F i → F' i) : KeepF F' a b := ⟨h.os, h.tape, h.output, h.size, fun i hi hn => h.block i hi (fun hf => hn (hF i hf))⟩
theorem KeepF.of_below {F : Nat → Prop} {a b : World} (h : Below a.heap.size a b) : KeepF F a b := ⟨h.os, h.tape, h.output, h.size, fun i hi _ => h.block i hi⟩
theorem KeepF.to_below {F : Nat → Prop} {base : Nat} {a b : World} (h : KeepF F a b) (hb : base ≤ a.heap.size) (hF : ∀ i, F i → base ≤ i) : Below base a b :=
  ⟨h.os, h.tape, h.output, h.size, fun i hi => h.block i (by omega) (fun hf => by have := hF i hf; omega)⟩
theorem KeepF.setCell (w : World) (a : Addr) (v : Value) : KeepF (fun k => k = a.block) w (w.setCell a v) :=
  ⟨rfl, rfl, rfl, by simp [World.setCell], fun i hi hn => Below.heap_setCell w a v i hn⟩
theorem KeepF.drewN {F : Nat → Prop} {a b : World} (h : KeepF F a b) (n : Nat) : KeepF F a (b.drewN n) := ⟨h.os, h.tape, h.output, h.size, h.block⟩
theorem KeepF.drew {F : Nat → Prop} {a b : World} (h : KeepF F a b) : KeepF F a b.drew := ⟨h.os, h.tape, h.output, h.size, h.block⟩

/-- a disk's blocks -/
def FD (B K M : Nat) : Nat → Prop := fun k => k = B ∨ k = K ∨ k = M

theorem IsDisk.of_keep {w w' : World} {B K M : Nat} {D : Dsk} {F : Nat → Prop} (h : IsDisk w B K M D) (hk : KeepF F w w') (hB : ¬ F B) (hK : ¬ F K) (hM : ¬ F M) : IsDisk w' B K M D := by
  have l1 : B < w.heap.size := (Array.getElem?_eq_some_iff.1 h.blk).1
  have l2 : K < w.heap.size := (Array.getElem?_eq_some_iff.1 h.kblk).1
  exact ⟨(hk.block _ l1 hB).trans h.blk, (hk.block _ l2 hK).trans h.kblk, h.mp.of_block (hk.block _ h.mp.lt hM), h.bk, h.bm, h.km, h.few, h.secs, h.wsec, h.lft⟩
theorem IsDisk.below {w w' : World} {B K M : Nat} {D : Dsk} (h : IsDisk w B K M D) (hb : Below w.heap.size w w') : IsDisk w' B K M D :=
  h.of_keep (F := fun _ => False) (KeepF.of_below hb) (fun h => h) (fun h => h) (fun h => h)
theorem IsDisk.drewN {w : World} {B K M : Nat} {D : Dsk} (h : IsDisk w B K M D) (n : Nat) : IsDisk (w.drewN n) B K M D := ⟨h.blk, h.kblk, h.mp, h.bk, h.bm, h.km, h.few, h.secs, h.wsec, h.lft⟩
theorem IsDisk.lts {w : World} {B K M : Nat} {D : Dsk} (h : IsDisk w B K M D) : B < w.heap.size ∧ K < w.heap.size ∧ M < w.heap.size :=
  ⟨(Array.getElem?_eq_some_iff.1 h.blk).1, (Array.getElem?_eq_some_iff.1 h.kblk).1, h.mp.lt⟩
theorem cell_row {w : World} {g : Nat} {cs : Array Value} {t : TypeId} {fr : Nat × Nat} (h : w.heap[g]? = some (.cells cs t fr)) (j : Nat) : w.cell? ⟨g, j, none⟩ = cs[j]? := by simp [World.cell?, h]
theorem frozen_row {w : World} {g : Nat} {cs : Array Value} {t : TypeId} (h : w.heap[g]? = some (.cells cs t (0, 0))) (j : Nat) : w.frozen? ⟨g, j, none⟩ = false := by simp [World.frozen?, h]
theorem IsDisk.c0 {w : World} {B K M : Nat} {D : Dsk} (h : IsDisk w B K M D) : w.cell? ⟨B, 0, none⟩ = some (.slice (some ⟨K, 0, none⟩) D.kept.length D.kept.length) := (cell_row h.blk 0).trans rfl
theorem IsDisk.c1 {w : World} {B K M : Nat} {D : Dsk} (h : IsDisk w B K M D) : w.cell? ⟨B, 1, none⟩ = some (.map (some M)) := (cell_row h.blk 1).trans rfl
theorem IsDisk.c2 {w : World} {B K M : Nat} {D : Dsk} (h : IsDisk w B K M D) : w.cell? ⟨B, 2, none⟩ = some (.int .i64 D.left) := (cell_row h.blk 2).trans rfl
theorem IsDisk.fz {w : World} {B K M : Nat} {D : Dsk} (h : IsDisk w B K M D) (j : Nat) : w.frozen? ⟨B, j, none⟩ = false := frozen_row h.blk j
theorem heap_set_same {w : World} {g : Nat} {cs : Array Value} {t : TypeId} (h : w.heap[g]? = some (.cells cs t (0, 0))) (i : Nat) (v : Value) : (w.setCell ⟨g, i, none⟩ v).heap[g]? = some (.cells (cs.setIfInBounds i v) t (0, 0)) :=
  heap_setCell_same w g i cs t v h
theorem IsDisk.setLeft {w : World} {B K M : Nat} {D : Dsk} (h : IsDisk w B K M D) (l : Int) (hl : -1 ≤ l ∧ l ≤ 1048576) : IsDisk (w.setCell ⟨B, 2, none⟩ (.int .i64 l)) B K M { D with left := l } :=
  ⟨(heap_set_same h.blk 2 _).trans rfl, (Below.heap_setCell w _ _ K (Ne.symm h.bk)).trans h.kblk, h.mp.of_block (Below.heap_setCell w _ _ M (Ne.symm h.bm)), h.bk, h.bm, h.km, h.few, h.secs, h.wsec, hl⟩

/-- a call is counted -/
def Dsk.tick (D : Dsk) : Dsk := { D with left := if D.left = 0 then 0 else max (D.left - 1) (-1) }
theorem tick_zero {D : Dsk} (h : D.left = 0) : D.tick = D := by cases D; simp [Dsk.tick] at *; simp [h]

def OffPost (B K M : Nat) (D : Dsk) (w : World) (e : Ending) (w' : World) : Prop := e = .returned (.bool (decide (D.left = 0))) ∧ IsDisk w' B K M D.tick ∧ KeepF (FD B K M) w w'
set_option maxHeartbeats 1000000 in
theorem off_calls (B K M : Nat) (D : Dsk) (w : World) (h : IsDisk w B K M D) : Calls Tryd.prog 62 #[.pointer (some ⟨B, 0, none⟩)] w (OffPost B K M D w) := by
  have c2 := h.c2
  have fz := h.fz 2
  have hl := h.lft
  obtain ⟨l, hle⟩ : ∃ l, D.left = l := ⟨_, rfl⟩
  rw [hle] at c2 hl
  replace h := Aside0.mk h
  by_cases h0 : l = 0
  · subst h0
    have fin : Aside0 (OffPost B K M D w (.returned (.bool true)) w) := ⟨⟨by rw [hle]; rfl, by rw [tick_zero hle]; exact h.out, KeepF.refl _ _⟩⟩
    clear hle
    go_enter Tryd.func62, Tryd.ntmps62
    go_wp2
    go_ret
    exact fin.out
  · have ht : (l == 0) = false := by simpa using h0
    obtain ⟨hl1, hl2⟩ := hl
    by_cases hn : l < 0
    · have fin : Aside0 (OffPost B K M D w (.returned (.bool false)) (w.setCell ⟨B, 2, none⟩ (.int .i64 (-1)))) :=
        ⟨⟨by rw [hle]; simp [h0], by
          have := h.out.setLeft (-1) (by omega)
          have e : D.tick = { D with left := -1 } := by unfold Dsk.tick; rw [hle, if_neg h0, show max (l - 1) (-1) = -1 by omega]
          rw [e]; exact this, (KeepF.setCell _ _ _).mono (fun i hi => .inl hi)⟩⟩
      clear hle
      go_enter Tryd.func62, Tryd.ntmps62
      go_wp2
      go_ret
      exact fin.out
    · have fin : Aside0 (OffPost B K M D w (.returned (.bool false)) (w.setCell ⟨B, 2, none⟩ (.int .i64 (l - 1)))) :=
        ⟨⟨by rw [hle]; simp [h0], by
          have := h.out.setLeft (l - 1) (by omega)
          have e : D.tick = { D with left := l - 1 } := by unfold Dsk.tick; rw [hle, if_neg h0, show max (l - 1) (-1) = l - 1 by omega]
          rw [e]; exact this, (KeepF.setCell _ _ _).mono (fun i hi => .inl hi)⟩⟩
      have h3 : ¬ l - 1 < -1 := by omega
      clear hle
      go_enter Tryd.func62, Tryd.ntmps62
      go_wp2
      go_ret
      exact fin.out

def Dsk.has (D : Dsk) (i : Int) : Bool := decide (0 ≤ i) && decide (i < D.kept.length)
set_option maxHeartbeats 1000000 in
theorem there_calls (B K M : Nat) (D : Dsk) (i : Int) (w : World) (h : IsDisk w B K M D) : Calls Tryd.prog 42 #[.pointer (some ⟨B, 0, none⟩), .int .i64 i] w fun e w' => e = .returned (.bool (D.has i)) ∧ w = w' := by
  have c0 := h.c0
  obtain ⟨n, hn⟩ : ∃ n, D.kept.length = n := ⟨_, rfl⟩
  have hh : Aside0 (D.has i = (decide (0 ≤ i) && decide (i < (n : Int)))) := ⟨by unfold Dsk.has; rw [hn]⟩
  rw [hn] at c0
  clear hn h
  by_cases h0 : 0 ≤ i
  · go_enter Tryd.func42, Tryd.ntmps42
    go_wp2
    go_ret
    exact ⟨by rw [hh.out]; simp [h0], rfl⟩
  · go_enter Tryd.func42, Tryd.ntmps42
    go_wp2
    go_ret
    exact ⟨by rw [hh.out, show decide (0 ≤ i) = false from decide_eq_false (by omega)]; rfl, rfl⟩

def Dsk.arm (D : Dsk) (n : Int) : Dsk := { D with left := max 0 (min n 1048576) }
def ArmPost (B K M : Nat) (D : Dsk) (n : Int) (w : World) (e : Ending) (w' : World) : Prop := e = .returned (.tuple #[]) ∧ IsDisk w' B K M (D.arm n) ∧ KeepF (FD B K M) w w'
set_option maxHeartbeats 1000000 in
theorem Arm_calls (B K M : Nat) (D : Dsk) (n : Int) (w : World) (h : IsDisk w B K M D) : Calls Tryd.prog 25 #[.pointer (some ⟨B, 0, none⟩), .int .i64 n] w (ArmPost B K M D n w) := by
  have c2 := h.c2
  have fz := h.fz 2
  have fin : ∀ l : Int, max 0 (min n 1048576) = l → Aside0 (ArmPost B K M D n w (.returned (.tuple #[])) (w.setCell ⟨B, 2, none⟩ (.int .i64 l))) := by
    intro l hl
    have := h.setLeft l (by omega)
    exact ⟨⟨rfl, by unfold Dsk.arm; rw [hl]; exact this, (KeepF.setCell _ _ _).mono (fun i hi => .inl hi)⟩⟩
  clear h
  by_cases h1 : 1048576 < n
  · replace fin := fin 1048576 (by omega)
    go_enter Tryd.func25, Tryd.ntmps25
    go_wp2
    go_end0
    exact fin.out
  · by_cases h2 : 0 < n
    · replace fin := fin n (by omega)
      go_enter Tryd.func25, Tryd.ntmps25
      go_wp2
      go_end0
      exact fin.out
    · replace fin := fin 0 (by omega)
      go_enter Tryd.func25, Tryd.ntmps25
      go_wp2
      go_end0
      exact fin.out
end Go.Proofs.YtiibfboendnifaaDoor.Dk
namespace Go.Proofs.YtiibfboendnifaaDoor.Dk
set_option linter.unusedVariables false
set_option linter.unusedSimpArgs false
attribute [local go_sem] Go.Proofs.YtiibfboendnifaaDoorW.PrintMore.max2_int Go.Proofs.YtiibfboendnifaaDoorW.PrintMore.min2_int Go.Proofs.YtiibfboendnifaaDoorW.PrintMore.max_two Go.Proofs.YtiibfboendnifaaDoorW.PrintMore.min_two
open Go.RowKit Go.Proofs.Bk Go.Proofs.Bm Go.Proofs.YtiibfboendnifaaDoorW.PrintWords

def zrow : Array Value := (byt zeros).toArray
theorem zero_sector (w : World) : (zeroValue 84).run Tryd.prog w = .ok (.agg zrow) w := by kernel_rfl
theorem size_sector : (Tryd.prog.info? 84).map (·.size) = some 64 := by kernel_rfl
theorem byt_length (s : List Int) : (byt s).length = s.length := by simp [byt]
theorem byt_one {s : List Int} : ∀ v ∈ byt s, v.oneCell' = true := by
  intro v hv
  obtain ⟨x, _, rfl⟩ := List.mem_map.1 hv
  rfl
theorem secV_zeros : secV zeros = .agg zrow := rfl

/-- v is a slice over block b that reads xs -/
def SlB (w : World) (v : Value) (xs : List Int) (b : Nat) : Prop :=
  ∃ off c, v = .slice (some ⟨b, off, none⟩) xs.length c ∧ (xs.length ≤ c ∧ ∃ cells, w.heap[b]? = some (.cells cells 84 (0, 0))) ∧ ∀ (j : Nat) x, xs[j]? = some x → w.cell? ⟨b, off + j, none⟩ = some (.int .u8 x)
theorem SlB.of_block {w w' : World} {v : Value} {xs : List Int} {b : Nat} (h : SlB w v xs b) (hb : w'.heap[b]? = w.heap[b]?) : SlB w' v xs b := by
  obtain ⟨off, c, h1, h2, h3⟩ := h
  exact ⟨off, c, h1, ⟨h2.1, by rw [hb]; exact h2.2⟩, fun j x hj => (World.cell?_of_block (w := w) (a := ⟨b, off + j, none⟩) hb).trans (h3 j x hj)⟩

theorem getD_some {α : Type} {l : List α} {i : Nat} (d : α) (h : i < l.length) : l[i]? = some (l.getD i d) := by rw [List.getD_eq_getElem?_getD]; simp [h]
/-- what a sector reads as -/
def Dsk.sec (D : Dsk) (i : Int) : List Int := (aget D.waits i).getD (D.kept.getD i.toNat [])
def Dsk.rdErr (D : Dsk) (i : Int) : Int := if D.has i then (if D.left = 0 then 19 else 0) else 6
def ReadPost (D : Dsk) (i : Int) (w : World) (e : Ending) (w' : World) : Prop :=
  ∃ v, e = .returned (.tuple #[v, .int .i64 (D.rdErr i)]) ∧ (D.rdErr i = 0 → ∃ b, SlB w' v (D.sec i) b ∧ w.heap.size ≤ b ∧ b < w'.heap.size) ∧ (D.rdErr i ≠ 0 → v = .slice none 0 0) ∧ Below w.heap.size w w'

theorem kept_cells {k : List (List Int)} (hk : ∀ s ∈ k, Sec s) {i : Nat} {s : List Int} (hi : k[i]? = some s) : ∀ (j : Nat) v, (byt s)[j]? = some v → (keptCells k)[i * 64 + j]? = some v := by
  induction k generalizing i with
  | nil => simp at hi
  | cons t k ih =>
    intro j v hj
    have ht : (byt t).length = 64 := by rw [byt_length]; exact (hk t (by simp)).1
    have hs : Sec s := hk s (List.mem_of_getElem? hi)
    have hj64 : j < 64 := by have := (List.getElem?_eq_some_iff.1 hj).1; rw [byt_length, hs.1] at this; exact this
    unfold keptCells
    rw [List.map_cons, List.flatten_cons]
    cases i with
    | zero =>
      simp at hi; subst hi
      rw [List.getElem?_append_left (by omega)]; simpa using hj
    | succ i =>
      rw [List.getElem?_append_right (by omega), ht, show (i + 1) * 64 + j - 64 = i * 64 + j by omega]
      exact ih (fun s hs => hk s (by simp [hs])) (by simpa using hi) j v hj

set_option maxHeartbeats 2000000 in
set_option maxRecDepth 100000 in
theorem Read_calls (B K M : Nat) (D : Dsk) (i : Int) (w : World) (h : IsDisk w B K M D) : Calls Tryd.prog 55 #[.pointer (some ⟨B, 0, none⟩), .int .i64 i] w (ReadPost D i w) := by
  have H := Aside0.mk h
  have c0 := h.c0
  have c1 := h.c1
  have c2 := h.c2
  obtain ⟨l, hl⟩ : ∃ l, D.left = l := ⟨_, rfl⟩
  rw [hl] at c2
  obtain ⟨n, hn⟩ : ∃ n, D.kept.length = n := ⟨_, rfl⟩
  rw [hn] at c0
  clear h
  by_cases hh : D.has i = true
  · by_cases h0 : l = 0
    · have fin : Aside0 (ReadPost D i w (.returned (.tuple #[.slice none 0 0, .int .i64 19])) w) := ⟨⟨_, by unfold Dsk.rdErr; rw [if_pos hh, hl, if_pos h0], fun he => by unfold Dsk.rdErr at he; rw [if_pos hh, hl, if_pos h0] at he; omega, fun _ => rfl, Below.refl _ _⟩⟩
      subst h0
      clear hl hn
      go_enter Tryd.func55, Tryd.ntmps55
      go_wp2_with (go_at_call 42; refine (there_calls B K M D i _ H.out).mono ?_; rintro e w' ⟨rfl, rfl⟩; rw [hh])
      go_ret2
      exact fin.out
    · have ht : (l == 0) = false := by simpa using h0
      have hz : D.rdErr i = 0 := by unfold Dsk.rdErr; rw [if_pos hh, hl, if_neg h0]
      have hin : 0 ≤ i ∧ i < (n : Int) := by unfold Dsk.has at hh; rw [hn] at hh; simpa using hh
      have fin : ∀ (s : List Int) (w' : World), D.sec i = s → Sec s → w'.heap[w.heap.size]? = some (.cells (byt s).toArray 84 (0, 0)) → Below w.heap.size w w' → w.heap.size < w'.heap.size → ReadPost D i w (.returned (.tuple #[.slice (some ⟨w.heap.size, 0, none⟩) 64 64, .int .i64 0])) w' := by
        intro s w' hs hS hb hB hlt
        refine ⟨_, by rw [hz], fun _ => ⟨w.heap.size, ⟨0, 64, by rw [hs, hS.1], ⟨by rw [hs, hS.1]; exact Nat.le_refl _, _, hb⟩, fun j x hj => ?_⟩, Nat.le_refl _, hlt⟩, fun hne => absurd hz hne, hB⟩
        rw [cell_row hb, Nat.zero_add, List.getElem?_toArray, byt, List.getElem?_map, ← hs, hj]; rfl
      replace fin := Aside0.mk fin
      obtain ⟨hin1, hin2⟩ := hin
      have hcell := kept_cells H.out.secs (i := i.toNat) (s := D.kept.getD i.toNat []) (getD_some _ (by omega))
      have hKS : Sec (D.kept.getD i.toNat []) := H.out.secs _ (List.mem_of_getElem? (getD_some _ (by omega : i.toNat < D.kept.length)))
      replace h0 := Aside0.mk h0; replace hl := Aside0.mk hl; replace hn := Aside0.mk hn; replace hcell := Aside0.mk hcell; replace hKS := Aside0.mk hKS; replace hz := Aside0.mk hz
      have hr := Aside0.mk hh
      cases hg : aget D.waits i with
      | some s =>
        have hS : Aside0 (Sec s) := by
          obtain ⟨p, hp, h2⟩ := Option.map_eq_some_iff.1 hg
          have := (H.out.wsec p (List.mem_of_find?_eq_some hp)).1
          rw [h2] at this; exact ⟨this⟩
        have hs : Aside0 (D.sec i = s) := ⟨by unfold Dsk.sec; rw [hg]; rfl⟩
        replace hg := Aside0.mk hg
        go_enter Tryd.func55, Tryd.ntmps55
        go_wp2_with (first
          | (go_at_call 42; refine (there_calls B K M D i _ H.out).mono ?_; rintro e w' ⟨rfl, rfl⟩; rw [hh])
          | (at_lookup; refine wpList_lookupOk_imap (enc := secV) rfl _ _ 68 rfl Tryd.underlying68 Tryd.underlying3 (zero_sector _) M D.waits i rfl rfl H.out.mp ?_; rw [hg.out]; simp only [Option.map_some, Option.getD_some, Option.isSome_some])
          | ((with_reducible refine gate_op (.alloc 84) rfl ?_); refine wpList_alloc_of rfl _ rfl rfl (zero_sector _) ?_)
          | ((with_reducible refine gate_op (.store 84 (.tmp 6) (.tmp 26)) rfl ?_); go_must (refine wpList_store_midB rfl _ _ _ rfl w.heap.size 0 (byt s) rfl rfl 84 (byt zeros) (heap_alloc_same _ _) ?q1 ?q2 byt_one ?_); (case q1 => rw [byt_length, hS.out.1]; exact size_sector); (case q2 => rw [byt_length, byt_length, hS.out.1]; decide); rw [splice_all _ _ (by rw [byt_length, byt_length, hS.out.1]; rfl)]))
        go_ret2
        refine fin.out s _ hs.out hS.out (setRow_heap _ _ _ _ _ _ (heap_alloc_same _ _)) (below_setRow (below_alloc (Below.refl _ _) _) (Nat.le_refl _) _) ?_
        rw [setRow_size]; simp
      | none =>
        have hs : Aside0 (D.sec i = D.kept.getD i.toNat []) := ⟨by unfold Dsk.sec; rw [hg]; rfl⟩
        obtain ⟨s, hse⟩ : ∃ s, D.kept.getD i.toNat [] = s := ⟨_, rfl⟩
        rw [hse] at hs hKS hcell
        clear hse
        replace hg := Aside0.mk hg
        have hcl : Aside0 (∀ j v, (byt s)[j]? = some v → w.cell? ((⟨K, i.toNat * 64, none⟩ : Addr).add j) = some v) := ⟨fun j v hj => by
          rw [addAt, cell_row H.out.kblk, List.getElem?_toArray]; exact hcell.out j v hj⟩
        go_enter Tryd.func55, Tryd.ntmps55
        go_wp2_with (first
          | (go_at_call 42; refine (there_calls B K M D i _ H.out).mono ?_; rintro e w' ⟨rfl, rfl⟩; rw [hh])
          | (at_lookup; refine wpList_lookupOk_imap (enc := secV) rfl _ _ 68 rfl Tryd.underlying68 Tryd.underlying3 (zero_sector _) M D.waits i rfl rfl H.out.mp ?_; rw [hg.out]; simp only [Option.map_none, Option.getD_none, Option.isSome_none])
          | ((with_reducible refine gate_op (.alloc 84) rfl ?_); refine wpList_alloc_of rfl _ rfl rfl (zero_sector _) ?_)
          | ((with_reducible refine gate_op (.store 84 (.tmp 6) (.tmp 26)) rfl ?_); go_must (refine wpList_store_midB rfl _ _ _ rfl w.heap.size 0 (byt zeros) rfl rfl 84 (byt zeros) (heap_alloc_same _ _) ?q1 ?q2 byt_one ?_); (case q1 => exact size_sector); (case q2 => decide); rw [splice_all _ _ rfl]; have c0' := ((below_setRow (below_alloc (Below.refl _ w) (.cells zrow 84)) (Nat.le_refl _) (byt zeros).toArray).cell (World.block_lt_of_cell? w _ c0)).trans c0)
          | ((with_reducible refine gate_op (.load 84 (.tmp 35)) rfl ?_); go_must (refine wpList_load_midB rfl _ _ rfl ⟨K, i.toNat * 64, none⟩ rfl (byt s) _ ?r1 Tryd.underlying84 rfl ?r2 ?_); (case r1 => exact fun j v hj => ((below_setRow (below_alloc (Below.refl _ w) _) (Nat.le_refl _) _).cell (World.block_lt_of_cell? w _ (hcl.out j v hj))).trans (hcl.out j v hj)); (case r2 => rw [byt_length, hKS.out.1]; exact size_sector))
          | ((with_reducible refine gate_op (.store 84 (.tmp 6) (.tmp 36)) rfl ?_); go_must (refine wpList_store_midB rfl _ _ _ rfl w.heap.size 0 (byt s) rfl rfl 84 (byt zeros) (setRow_heap _ _ _ _ _ _ (heap_alloc_same _ _)) ?q3 ?q4 byt_one ?_); (case q3 => rw [byt_length, hKS.out.1]; exact size_sector); (case q4 => rw [byt_length, byt_length, hKS.out.1]; decide); rw [splice_all _ _ (by rw [byt_length, byt_length, hKS.out.1]; rfl)]))
        go_ret2
        refine fin.out s _ hs.out hKS.out (setRow_heap _ _ _ _ _ _ (setRow_heap _ _ _ _ _ _ (heap_alloc_same _ _))) (below_setRow (below_setRow (below_alloc (Below.refl _ _) _) (Nat.le_refl _) _) (Nat.le_refl _) _) ?_
        rw [setRow_size, setRow_size]; simp
  · have hh' : D.has i = false := by simpa using hh
    have fin : Aside0 (ReadPost D i w (.returned (.tuple #[.slice none 0 0, .int .i64 6])) w) := ⟨⟨_, by unfold Dsk.rdErr; rw [if_neg hh], fun he => by unfold Dsk.rdErr at he; rw [if_neg hh] at he; omega, fun _ => rfl, Below.refl _ _⟩⟩
    clear hl hn hh
    go_enter Tryd.func55, Tryd.ntmps55
    go_wp2_with (go_at_call 42; refine (there_calls B K M D i _ H.out).mono ?_; rintro e w' ⟨rfl, rfl⟩; rw [hh'])
    go_ret2
    exact fin.out
end Go.Proofs.YtiibfboendnifaaDoor.Dk
namespace Go.Proofs.YtiibfboendnifaaDoor.Dk
set_option linter.unusedVariables false
set_option linter.unusedSimpArgs false
open Go.RowKit Go.Proofs.Bk Go.Proofs.Bm Go.Proofs.YtiibfboendnifaaDoorW.PrintWords

/-- a row that is read, in no block of F -/
structure CF (F : Nat → Prop) (k : IntKind) (w : World) (A : Option Addr) (n : Nat) (xs : List Int) : Prop where
  c : Kd.C (Kd.int k) w A n xs
  far : ∀ ad, A = some ad → 0 < n → ¬ F ad.block
theorem Kd_C_keep {k : IntKind} {F : Nat → Prop} {w w' : World} {A : Option Addr} {n : Nat} {xs : List Int} (h : Kd.C (Kd.int k) w A n xs) (hf : ∀ ad, A = some ad → 0 < n → ¬ F ad.block) (hk : KeepF F w w') : Kd.C (Kd.int k) w' A n xs := by
  refine ⟨h.1, h.2.1, fun hn => ?_⟩
  obtain ⟨ad, e, hc⟩ := h.2.2 hn
  refine ⟨ad, e, fun j p hj => ?_⟩
  obtain ⟨c, h1, h2, h3⟩ := hc j p hj
  refine ⟨c, h1, h2, fun i u hu => ?_⟩
  have h4 := h3 i u hu
  have hb : (ad.add (j * (Kd.int k).sz + i)).block = ad.block := by unfold Addr.add; split <;> rfl
  have hlt := World.block_lt_of_cell? w _ h4
  rw [hb] at hlt
  exact (World.cell?_of_block (w := w) (w' := w') (by rw [hb]; exact hk.block _ hlt (hf ad e hn))).trans h4
theorem CF.keep {k : IntKind} {F G : Nat → Prop} {w w' : World} {A : Option Addr} {n : Nat} {xs : List Int} (h : CF F k w A n xs) (hk : KeepF G w w') (hG : ∀ i, G i → F i) : CF F k w' A n xs :=
  ⟨Kd_C_keep h.c (fun ad e hn hg => h.far ad e hn (hG _ hg)) hk, h.far⟩
theorem CF.at_ {k : IntKind} {F : Nat → Prop} {w : World} {A : Option Addr} {n : Nat} {xs : List Int} (h : CF F k w A n xs) (hn : 0 < n) : ∃ ad, A = some ad ∧ ∀ (j : Nat) x, xs[j]? = some x → w.cell? (ad.add j) = some (.int k x) := by
  obtain ⟨ad, e, hc⟩ := h.c.2.2 hn
  refine ⟨ad, e, fun j x hj => ?_⟩
  obtain ⟨c, h1, h2, h3⟩ := hc j x hj
  have h2' : c = [.int k x] := h2
  subst h2'
  have := h3 0 _ rfl
  rw [show j * (Kd.int k).sz + 0 = j from (by show j * 1 + 0 = j; omega)] at this
  exact this

def pad (bs : List Int) : List Int := bs ++ List.replicate (64 - bs.length) 0
theorem pad_sec {bs : List Int} (hl : bs.length ≤ 64) (hb : ∀ x ∈ bs, 0 ≤ x ∧ x ≤ 255) : Sec (pad bs) := by
  refine ⟨by simp [pad]; omega, fun x hx => ?_⟩
  rcases List.mem_append.1 hx with h | h
  · exact hb x h
  · have := (List.mem_replicate.1 h).2; omega
theorem splice_pad (bs : List Int) (hl : bs.length ≤ 64) : splice (byt zeros) 0 (byt bs) = byt (pad bs) := by
  unfold splice
  rw [List.take_zero, List.nil_append, Nat.zero_add, byt_length]
  unfold byt pad zeros
  rw [List.map_append, ← List.map_drop, List.drop_replicate]

def Dsk.wrErr (D : Dsk) (i : Int) (bs : List Int) : Int := if D.left = 0 then 19 else if D.has i then (if bs.length > 64 then 22 else 0) else 6
def Dsk.wrt (D : Dsk) (i : Int) (bs : List Int) : Dsk := if D.wrErr i bs = 0 then { D.tick with waits := aset D.waits i (pad bs) } else D.tick
def WritePost (B K M : Nat) (D : Dsk) (i : Int) (bs : List Int) (w : World) (e : Ending) (w' : World) : Prop :=
  e = .returned (.int .i64 (D.wrErr i bs)) ∧ IsDisk w' B K M (D.wrt i bs) ∧ KeepF (FD B K M) w w'

theorem IsDisk.setWait {w : World} {B K M : Nat} {D : Dsk} (h : IsDisk w B K M D) {i : Int} {s : List Int} {ob : Obj} (hm : IMap .i64 secV (bset w M ob) M (aset D.waits i s)) (hi : 0 ≤ i ∧ i < D.kept.length) (hs : Sec s) :
    IsDisk (bset w M ob) B K M { D with waits := aset D.waits i s } := by
  refine ⟨(bset_other w h.bm ob).trans h.blk, (bset_other w h.km ob).trans h.kblk, hm, h.bk, h.bm, h.km, h.few, h.secs, ?_, h.lft⟩
  intro p hp
  have : ∀ l : List (Int × List Int), (∀ p ∈ l, Sec p.2 ∧ 0 ≤ p.1 ∧ p.1 < (D.kept.length : Int)) → ∀ p ∈ aset l i s, Sec p.2 ∧ 0 ≤ p.1 ∧ p.1 < (D.kept.length : Int) := by
    intro l
    induction l with
    | nil => intro _ p hp; simp [aset] at hp; subst hp; exact ⟨hs, hi⟩
    | cons q l ih =>
      intro hl p hp
      unfold aset at hp
      split at hp
      · rcases List.mem_cons.1 hp with rfl | hp
        · exact ⟨hs, hi⟩
        · exact hl p (by simp [hp])
      · rcases List.mem_cons.1 hp with rfl | hp
        · exact hl _ (by simp)
        · exact ih (fun p hp => hl p (by simp [hp])) p hp
  exact this D.waits h.wsec p hp
theorem KeepF.bset (w : World) (b : Nat) (o : Obj) : KeepF (fun k => k = b) w (bset w b o) := ⟨rfl, rfl, rfl, by rw [bset_size]; exact Nat.le_refl _, fun i hi hn => bset_other w hn o⟩

set_option maxHeartbeats 4000000 in
set_option maxRecDepth 100000 in
theorem Write_calls (B K M : Nat) (D : Dsk) (i : Int) (A : Option Addr) (n c : Nat) (bs : List Int) (w : World) (h : IsDisk w B K M D) (hr : CF (FD B K M) .u8 w A n bs) (hb : ∀ x ∈ bs, 0 ≤ x ∧ x ≤ 255) :
    Calls Tryd.prog 38 #[.pointer (some ⟨B, 0, none⟩), .int .i64 i, .slice A n c] w (WritePost B K M D i bs w) := by
  have hn : bs.length = n := hr.c.1
  have hnb := hr.c.2.1
  have H := Aside0.mk h
  have HR := Aside0.mk hr
  have HBB := Aside0.mk hb
  clear h hr hb
  by_cases h0 : D.left = 0
  · have fin : Aside0 (∀ w', IsDisk w' B K M D.tick → KeepF (FD B K M) w w' → WritePost B K M D i bs w (.returned (.int .i64 19)) w') := ⟨fun w' h1 h2 => ⟨by unfold Dsk.wrErr; rw [if_pos h0], by unfold Dsk.wrt Dsk.wrErr; rw [if_pos h0, if_neg (by omega)]; exact h1, h2⟩⟩
    have hd : decide (D.left = 0) = true := decide_eq_true h0
    clear h0
    go_enter Tryd.func38, Tryd.ntmps38
    go_wp2_with (go_at_call 62; refine (off_calls B K M D _ H.out).mono ?_; rintro e w1 ⟨rfl, h1, h2⟩; replace h1 := Aside0.mk h1; replace h2 := Aside0.mk h2; rw [hd])
    go_ret
    exact fin.out _ h1.out h2.out
  · have hd : decide (D.left = 0) = false := decide_eq_false h0
    have hth : D.tick.has i = D.has i := rfl
    by_cases hh : D.has i = true
    · by_cases hl : 64 < n
      · have fin : Aside0 (∀ w', IsDisk w' B K M D.tick → KeepF (FD B K M) w w' → WritePost B K M D i bs w (.returned (.int .i64 22)) w') := ⟨fun w' h1 h2 => by
          have e : D.wrErr i bs = 22 := by unfold Dsk.wrErr; rw [if_neg h0, if_pos hh, if_pos (by omega)]
          exact ⟨by rw [e], by unfold Dsk.wrt; rw [e, if_neg (by omega)]; exact h1, h2⟩⟩
        clear h0 hth hn
        go_enter Tryd.func38, Tryd.ntmps38
        go_wp2_with (first
          | (go_at_call 62; refine (off_calls B K M D _ H.out).mono ?_; rintro e w1 ⟨rfl, h1, h2⟩; replace h1 := Aside0.mk h1; replace h2 := Aside0.mk h2; rw [hd])
          | (go_at_call 42; refine (there_calls B K M D.tick i _ h1.out).mono ?_; rintro e w' ⟨rfl, rfl⟩; rw [show D.tick.has i = true from hh]))
        go_ret
        exact fin.out _ h1.out h2.out
      · have hin : 0 ≤ i ∧ i < (D.kept.length : Int) := by unfold Dsk.has at hh; simpa using hh
        have hl64 : bs.length ≤ 64 := by omega
        have he : D.wrErr i bs = 0 := by unfold Dsk.wrErr; rw [if_neg h0, if_pos hh, if_neg (by omega)]
        have fin : Aside0 (∀ w', IsDisk w' B K M { D.tick with waits := aset D.tick.waits i (pad bs) } → KeepF (FD B K M) w w' → WritePost B K M D i bs w (.returned (.int .i64 0)) w') := ⟨fun w' h1 h2 =>
          ⟨by rw [he], by unfold Dsk.wrt; rw [he, if_pos rfl]; exact h1, h2⟩⟩
        have hps := Aside0.mk (pad_sec hl64 HBB.out)
        have hsp := Aside0.mk (splice_pad bs hl64)
        have hsl := fun W g => (show (Instr.sliceAt 84 (.pointer (some ⟨g, 0, none⟩)) none none none).run Tryd.prog W = .ok (.slice (some ⟨g, 0, none⟩) 64 64) W by kernel_rfl)
        replace hin := Aside0.mk hin; replace hl64 := Aside0.mk hl64; replace hn := Aside0.mk hn
        clear h0 hth he
        go_enter Tryd.func38, Tryd.ntmps38
        go_wp2_with (first
          | (go_at_call 62; refine (off_calls B K M D _ H.out).mono ?_; rintro e w1 ⟨rfl, h1, h2⟩; replace h1 := Aside0.mk h1; replace h2 := Aside0.mk h2; rw [hd])
          | (go_at_call 42; refine (there_calls B K M D.tick i _ h1.out).mono ?_; rintro e w' ⟨rfl, rfl⟩; rw [show D.tick.has i = true from hh])
          | ((with_reducible refine gate_op (.alloc 84) rfl ?_); refine wpList_alloc_of rfl _ rfl rfl (zero_sector _) ?_; have h3 := Aside0.mk (CF.keep HR.out h2.out (fun _ hi => hi)))
          | ((with_reducible refine gate_op (.call ⟨.builtin .copy, #[.tmp 20, .tmp 21], #[32, 32]⟩) rfl ?_); go_must (refine wpList_copy_splice rfl (.tmp 20) (.tmp 21) 32 32 rfl 5 Tryd.underlying32 ?k1 (some ⟨w1.heap.size, 0, none⟩) A 64 64 n c rfl rfl w1.heap.size 0 (byt zeros) 84 (heap_alloc_same _ _) (byt bs) ?k2 ?k3 ?k4 byt_one w1.heap.size w1 (below_alloc (Below.refl _ _) _) (Nat.le_refl _) ?_); (case k1 => kernel_rfl); (case k2 => rw [byt_length, hn.out]; have := hl64.out; rw [hn.out] at this; exact (Nat.min_eq_left this).symm);
              (case k3 => intro hp; rw [byt_length, hn.out] at hp; obtain ⟨ad, e1, e2⟩ := h3.out.at_ hp; exact ⟨rfl, ad, e1, fun j v hj => by
                rw [byt, List.getElem?_map] at hj
                obtain ⟨x, hx, rfl⟩ := Option.map_eq_some_iff.1 hj
                exact ((below_alloc (Below.refl _ w1) _).cell (World.block_lt_of_cell? _ _ (e2 j x hx))).trans (e2 j x hx)⟩);
              (case k4 => rw [byt_length, byt_length]; have := hl64.out; show 0 + bs.length ≤ 64; omega); intro w2 hw2 hb2; rw [hsp.out] at hw2; replace hw2 := Aside0.mk hw2.out; replace hb2 := Aside0.mk hb2))
        have H2 := Aside0.mk (h1.out.below hb2.out)
        have c1 := H2.out.c1
        go_still_tail 6, (by kernel_rfl)
        refine wpStill_load_cells rfl _ _ rfl ⟨w1.heap.size, 0, none⟩ rfl (byt (pad bs)) _ (cells_row (w := w2.drew) hw2.out) Tryd.underlying84 rfl ?k5 ?_
        case k5 => rw [byt_length, hps.out.1]; exact size_sector
        repeat still_step
        refine wpStill_nil ?_
        change wpList _ _ _ _ _ w2.drew
        refine wpList_mapUpdate_imap (enc := secV) rfl _ _ _ 68 rfl Tryd.underlying68 Tryd.underlying3 M D.tick.waits i (pad bs) rfl rfl rfl (show IMap .i64 secV w2.drew M D.tick.waits from H2.out.mp) ?_
        intro ob hob
        have hD := (H2.out.drewN 1).setWait (s := pad bs) hob hin.out hps.out
        have hK : KeepF (FD B K M) w (bset w2.drew M ob) := by
          refine KeepF.trans (F' := FD B K M) h2.out (KeepF.trans (F' := fun k => k = M) (KeepF.of_below (hb2.out.drew)) (KeepF.bset _ _ _) (fun k _ hk => .inr (.inr hk))) (fun k _ hk => hk)
        replace hD := Aside0.mk hD; replace hK := Aside0.mk hK
        go_wp2
        go_ret
        exact fin.out _ hD.out hK.out
    · have hh' : D.has i = false := by simpa using hh
      have fin : Aside0 (∀ w', IsDisk w' B K M D.tick → KeepF (FD B K M) w w' → WritePost B K M D i bs w (.returned (.int .i64 6)) w') := ⟨fun w' h1 h2 => by
        have e : D.wrErr i bs = 6 := by unfold Dsk.wrErr; rw [if_neg h0, if_neg hh]
        exact ⟨by rw [e], by unfold Dsk.wrt; rw [e, if_neg (by omega)]; exact h1, h2⟩⟩
      clear h0 hh hth
      go_enter Tryd.func38, Tryd.ntmps38
      go_wp2_with (first
        | (go_at_call 62; refine (off_calls B K M D _ H.out).mono ?_; rintro e w1 ⟨rfl, h1, h2⟩; replace h1 := Aside0.mk h1; replace h2 := Aside0.mk h2; rw [hd])
        | (go_at_call 42; refine (there_calls B K M D.tick i _ h1.out).mono ?_; rintro e w' ⟨rfl, rfl⟩; rw [show D.tick.has i = false from hh']))
      go_ret
      exact fin.out _ h1.out h2.out
end Go.Proofs.YtiibfboendnifaaDoor.Dk
namespace Go.Proofs.YtiibfboendnifaaDoor.Dk
set_option linter.unusedVariables false
set_option linter.unusedSimpArgs false
open Go.RowKit Go.Proofs.Bk Go.Proofs.Bm Go.Proofs.YtiibfboendnifaaDoorW.PrintWords

/-- the kept sectors where all of ws but what is in left has been stored -/
def mix (kept : List (List Int)) (ws left : List (Int × List Int)) : List (List Int) := kept.mapIdx fun i s => if (aget left i).isSome then s else (aget ws i).getD s
theorem mix_length (kept : List (List Int)) (ws left : List (Int × List Int)) : (mix kept ws left).length = kept.length := by simp [mix]
theorem mix_start (kept : List (List Int)) (ws : List (Int × List Int)) : mix kept ws ws = kept := by
  refine List.ext_getElem? fun i => ?_
  unfold mix
  rw [List.getElem?_mapIdx]
  cases kept[i]? with
  | none => rfl
  | some s =>
    simp only [Option.map_some]
    cases aget ws i <;> simp
theorem mix_step (kept : List (List Int)) {ws left left' : List (Int × List Int)} {k : Int} {v : List Int} (hp : left.Perm ((k, v) :: left')) (hn : (left.map (·.1)).Nodup) (hw : aget ws k = some v) (hk : 0 ≤ k ∧ k < kept.length) :
    mix kept ws left' = (mix kept ws left).set k.toNat v := by
  have hn' : (((k, v) :: left').map (·.1)).Nodup := (hp.map (·.1)).nodup_iff.1 hn
  have hk' : aget left' k = none := (aget_none_iff left' k).2 (List.nodup_cons.1 hn').1
  refine List.ext_getElem? fun i => ?_
  unfold mix
  rw [List.getElem?_set]
  by_cases e : k.toNat = i
  · subst e
    rw [if_pos rfl, if_pos (by simp; omega), List.getElem?_mapIdx, List.getElem?_eq_getElem (by omega), Option.map_some]
    rw [show ((k.toNat : Nat) : Int) = k by omega, hk', hw]; rfl
  · rw [if_neg e, List.getElem?_mapIdx, List.getElem?_mapIdx]
    have : aget left' (i : Int) = aget left i := by
      rw [aget_perm hp hn, aget_cons, if_neg (by simp; omega)]
    rw [this]
theorem mix_secs {kept : List (List Int)} {ws : List (Int × List Int)} (left : List (Int × List Int)) (hk : ∀ s ∈ kept, Sec s) (hw : ∀ p ∈ ws, Sec p.2) : ∀ s ∈ mix kept ws left, Sec s := by
  intro s hs
  unfold mix at hs
  obtain ⟨i, hi, rfl⟩ := List.mem_iff_getElem.1 hs
  rw [List.getElem_mapIdx]
  split
  · exact hk _ (List.getElem_mem _)
  · cases e : aget ws i with
    | none => exact hk _ (List.getElem_mem _)
    | some v =>
      obtain ⟨p, hp, h2⟩ := Option.map_eq_some_iff.1 (show (ws.find? fun p => p.1 == (i : Int)).map (·.2) = some v from e)
      have := hw p (List.mem_of_find?_eq_some hp)
      rw [h2] at this; exact this

theorem keptCells_length (k : List (List Int)) (hk : ∀ s ∈ k, Sec s) : (keptCells k).length = k.length * 64 := by
  induction k with
  | nil => rfl
  | cons s k ih =>
    unfold keptCells at *
    rw [List.map_cons, List.flatten_cons, List.length_append, ih (fun s hs => hk s (by simp [hs])), byt_length, (hk s (by simp)).1, List.length_cons]
    omega
theorem keptCells_set (s' : List Int) (hs' : s'.length = 64) : ∀ (k : List (List Int)) (hk : ∀ s ∈ k, Sec s) (i : Nat), i < k.length → splice (keptCells k) (i * 64) (byt s') = keptCells (k.set i s')
  | [], _, i, h => by simp at h
  | s :: k, hk, 0, _ => by
    have h1 : (byt s).length = 64 := by rw [byt_length]; exact (hk s (by simp)).1
    unfold keptCells splice
    simp only [List.map_cons, List.flatten_cons, List.set_cons_zero, Nat.zero_mul, List.take_zero, List.nil_append, Nat.zero_add, byt_length, hs']
    rw [← h1, List.drop_left]
  | s :: k, hk, i + 1, h => by
    have h1 : (byt s).length = 64 := by rw [byt_length]; exact (hk s (by simp)).1
    have ih := keptCells_set s' hs' k (fun s hs => hk s (by simp [hs])) i (by simpa using h)
    unfold keptCells splice at *
    simp only [List.map_cons, List.flatten_cons, List.set_cons_succ]
    rw [← ih, List.take_append, List.drop_append, h1, List.take_of_length_le (by omega), List.drop_of_length_le (by omega), List.nil_append, List.append_assoc]
    simp only [byt_length, hs']
    rw [show (i + 1) * 64 - 64 = i * 64 by omega, show (i + 1) * 64 + 64 - 64 = i * 64 + 64 by omega]

theorem IsDisk.setKept {w : World} {B K M : Nat} {D : Dsk} (h : IsDisk w B K M D) {k : Nat} {s : List Int} (hk : k < D.kept.length) (hs : Sec s) :
    IsDisk (w.setRow K (splice (keptCells D.kept) (k * 64) (byt s)).toArray) B K M { D with kept := D.kept.set k s } := by
  have ho : ∀ i, i ≠ K → (w.setRow K (splice (keptCells D.kept) (k * 64) (byt s)).toArray).heap[i]? = w.heap[i]? := fun i hi => by
    unfold World.setRow; simp [Array.getElem?_modify, Ne.symm hi]
  refine ⟨?_, ?_, h.mp.of_block (ho M (Ne.symm h.km)), h.bk, h.bm, h.km, by simpa using h.few, ?_, ?_, h.lft⟩
  · rw [ho B h.bk, h.blk]; simp
  · rw [keptCells_set s hs.1 _ h.secs k hk]; exact setRow_heap _ _ _ _ _ _ h.kblk
  · intro x hx
    rcases List.mem_or_eq_of_mem_set hx with hx | rfl
    · exact h.secs x hx
    · exact hs
  · intro p hp; have := h.wsec p hp; simpa using this
theorem KeepF.setRow (w : World) (g : Nat) (cs : Array Value) : KeepF (fun k => k = g) w (w.setRow g cs) := ⟨rfl, rfl, rfl, by rw [setRow_size]; exact Nat.le_refl _, fun i hi hn => by
  unfold World.setRow; simp [Array.getElem?_modify, Ne.symm hn]⟩

def Dsk.flErr (D : Dsk) : Int := if D.left = 0 then 19 else 0
def Dsk.fl (D : Dsk) : Dsk := if D.left = 0 then D.tick else { D.tick with kept := mix D.kept D.waits [], waits := [] }
def FlushPost (B K M : Nat) (D : Dsk) (w : World) (e : Ending) (w' : World) : Prop :=
  e = .returned (.int .i64 D.flErr) ∧ IsDisk w' B K M D.fl ∧ KeepF (FD B K M) w w'

theorem IsDisk.emptied {w : World} {B K M : Nat} {D : Dsk} (h : IsDisk w B K M D) {ob : Obj} (hm : IMap .i64 secV (bset w M ob) M []) :
    IsDisk (bset w M ob) B K M { D with waits := [] } :=
  ⟨(bset_other w h.bm ob).trans h.blk, (bset_other w h.km ob).trans h.kblk, hm, h.bk, h.bm, h.km, h.few, h.secs, by simp, h.lft⟩

set_option maxHeartbeats 4000000 in
set_option maxRecDepth 100000 in
theorem Flush_calls (B K M : Nat) (D : Dsk) (w : World) (h : IsDisk w B K M D) :
    Calls Tryd.prog 39 #[.pointer (some ⟨B, 0, none⟩)] w (FlushPost B K M D w) := by
  have H := Aside0.mk h
  clear h
  by_cases h0 : D.left = 0
  · have fin : Aside0 (∀ w', IsDisk w' B K M D.tick → KeepF (FD B K M) w w' → FlushPost B K M D w (.returned (.int .i64 19)) w') := ⟨fun w' h1 h2 => ⟨by unfold Dsk.flErr; rw [if_pos h0], by unfold Dsk.fl; rw [if_pos h0]; exact h1, h2⟩⟩
    have hd : decide (D.left = 0) = true := decide_eq_true h0
    clear h0
    go_enter Tryd.func39, Tryd.ntmps39
    go_wp2_with (go_at_call 62; refine (off_calls B K M D _ H.out).mono ?_; rintro e w1 ⟨rfl, h1, h2⟩; replace h1 := Aside0.mk h1; replace h2 := Aside0.mk h2; rw [hd])
    go_ret
    exact fin.out _ h1.out h2.out
  · have hd : decide (D.left = 0) = false := decide_eq_false h0
    have fin : Aside0 (∀ w', IsDisk w' B K M { D.tick with kept := mix D.kept D.waits [], waits := [] } → KeepF (FD B K M) w w' → FlushPost B K M D w (.returned (.int .i64 0)) w') := ⟨fun w' h1 h2 => ⟨by unfold Dsk.flErr; rw [if_neg h0], by unfold Dsk.fl; rw [if_neg h0]; exact h1, h2⟩⟩
    clear h0
    go_enter Tryd.func39, Tryd.ntmps39
    go_wp2_with (first
      | (go_at_call 62; refine (off_calls B K M D _ H.out).mono ?_; rintro e w1 ⟨rfl, h1, h2⟩; have c1 := h1.c1; replace h1 := Aside0.mk h1; replace h2 := Aside0.mk h2; rw [hd])
      | (at_range; refine wpList_range_imap (enc := secV) (q := .i64) rfl _ 68 rfl Tryd.underlying68 M D.tick.waits rfl h1.out.mp ?_; intro ob hit; replace hit := Aside0.mk hit))
    go_frame
    go_loopw [] (fun wr => ∃ left : List (Int × List Int), Aside0 (ILeft .i64 secV wr w1.heap.size M D.waits left) ∧ Aside0 (IsDisk wr B K M { D.tick with kept := mix D.kept D.waits left }) ∧ Aside0 (KeepF (FD B K M) w wr) ∧ Aside0 ((left.map (·.1)).Nodup ∧ ∀ p ∈ left, p ∈ D.waits) ∧ Aside0 (w1.heap.size < wr.heap.size))
      (fun wr => wr.rangeLeft M w1.heap.size)
    case atStart =>
      have hk1 : KeepF (FD B K M) w1 (w1.alloc ob) := KeepF.of_below (below_alloc (Below.refl _ _) _)
      refine ⟨D.waits, hit, ⟨?_⟩, ⟨h2.out.trans hk1 (fun _ _ h => h)⟩, ⟨H.out.mp.nodup, fun p hp => hp⟩, ⟨by simp⟩⟩
      rw [mix_start]
      exact h1.out.below (below_alloc (Below.refl _ _) _)
    case round =>
      obtain ⟨left, hL, hD, hK, hN, hS⟩ := hrel
      go_wp2_with (first
        | (at_next; refine wpList_next_imap (enc := secV) (q := .i64) rfl _ rfl w1.heap.size M D.waits left rfl hL.out ?_ ?_)
        | go_in)
      · intro hd0
        subst hd0
        have c1' := hD.out.c1
        go_wp2_with ((with_reducible refine gate_op (.call ⟨.builtin .clear, #[.tmp 27], #[68]⟩) rfl ?_); refine wpList_clear_imap (enc := secV) (q := .i64) rfl _ 68 rfl Tryd.underlying68 M D.tick.waits rfl hD.out.mp ?_; intro ob3 hm3; replace hm3 := Aside0.mk hm3)
        go_ret
        exact fin.out _ (hD.out.emptied hm3.out) (hK.out.trans (F' := fun k => k = M) (KeepF.bset _ _ _) (fun i _ hi => .inr (.inr hi)))
      · intro k v left' w2 ob2 hp hw hl hen
        have hkw : KeepF (fun i => i = w1.heap.size) wr (bset w2 w1.heap.size ob2) := by
          rcases hw with e | e
          · subst e; exact KeepF.bset _ _ _
          · subst e; exact (KeepF.drew (KeepF.refl _ wr)).trans (F' := fun i => i = w1.heap.size) (KeepF.bset _ _ _) (fun _ _ h => h)
        have hsz := hS.out
        have hf : ¬ FD B K M w1.heap.size := by
          have := h1.out.lts
          unfold FD; omega
        have hD2 : IsDisk (bset w2 w1.heap.size ob2) B K M { D.tick with kept := mix D.kept D.waits left } := hD.out.of_keep hkw (fun e => hf (.inl e.symm)) (fun e => hf (.inr (.inl e.symm))) (fun e => hf (.inr (.inr e.symm)))
        have hK2 : KeepF (FD B K M) w (bset w2 w1.heap.size ob2) := hK.out.trans hkw (fun i hi e => by have := h2.out.size; omega)
        have hS2 : w1.heap.size < (bset w2 w1.heap.size ob2).heap.size := by have := hkw.size; omega
        obtain ⟨W, hW⟩ : ∃ W, bset w2 w1.heap.size ob2 = W := ⟨_, rfl⟩
        rw [hW] at hl hen hD2 hK2 hS2 ⊢
        clear hW hkw hw
        have hmem : (k, v) ∈ D.waits := hN.out.2 _ (hp.mem_iff.2 (by simp))
        have hsec := H.out.wsec _ hmem
        have hv : Aside0 (Sec v) := ⟨hsec.1⟩
        have hget : aget D.waits k = some v := (aget_some_iff H.out.mp.nodup k v).2 hmem
        obtain ⟨p1, q1⟩ := hsec.2
        have q1' : k < ((mix D.kept D.waits left).length : Int) := by rw [mix_length]; exact q1
        have hstep := Aside0.mk (mix_step D.kept hp hN.out.1 hget ⟨p1, q1⟩)
        have hN' : Aside0 ((left'.map (·.1)).Nodup ∧ ∀ p ∈ left', p ∈ D.waits) := ⟨(List.nodup_cons.1 ((hp.map (·.1)).nodup_iff.1 hN.out.1)).2, fun p hp' => hN.out.2 _ (hp.mem_iff.2 (by simp [hp']))⟩
        have c0' := hD2.c0
        obtain ⟨n, hn⟩ : ∃ n, (mix D.kept D.waits left).length = n := ⟨_, rfl⟩
        change W.cell? ⟨B, 0, none⟩ = some (.slice (some ⟨K, 0, none⟩) (mix D.kept D.waits left).length (mix D.kept D.waits left).length) at c0'
        rw [hn] at c0' q1'
        replace hl := Aside0.mk hl; replace hD2 := Aside0.mk hD2; replace hK2 := Aside0.mk hK2; replace hS2 := Aside0.mk hS2; replace hmem := Aside0.mk hmem; replace hget := Aside0.mk hget; replace hsz := Aside0.mk hsz; replace hf := Aside0.mk hf; replace hp := Aside0.mk hp; replace hn := Aside0.mk hn
        replace hsec := trivial
        go_wp2_with (first
          | ((with_reducible refine gate_op (.alloc 84) rfl ?_); refine wpList_alloc_of rfl _ rfl rfl (zero_sector _) ?_)
          | ((with_reducible refine gate_op (.store 84 (.tmp 4) (.tmp 16)) rfl ?_); go_must (refine wpList_store_midB rfl _ _ _ rfl W.heap.size 0 (byt v) rfl rfl 84 (byt zeros) (heap_alloc_same _ _) ?q1 ?q2 byt_one ?_); (case q1 => rw [byt_length, hv.out.1]; exact size_sector); (case q2 => rw [byt_length, byt_length, hv.out.1]; decide); rw [splice_all _ _ (by rw [byt_length, byt_length, hv.out.1]; rfl)]))
        have hb2 : Below W.heap.size W ((W.alloc (.cells zrow 84)).setRow W.heap.size (byt v).toArray) := below_setRow (below_alloc (Below.refl _ _) _) (Nat.le_refl _) _
        have hrow : ((W.alloc (.cells zrow 84)).setRow W.heap.size (byt v).toArray).heap[W.heap.size]? = some (.cells (byt v).toArray 84 (0, 0)) := setRow_heap _ _ _ _ _ _ (heap_alloc_same _ _)
        obtain ⟨g, hg⟩ : ∃ g, W.heap.size = g := ⟨_, rfl⟩
        obtain ⟨V, hV⟩ : ∃ V, (W.alloc (.cells zrow 84)).setRow W.heap.size (byt v).toArray = V := ⟨_, rfl⟩
        rw [hV] at hb2 hrow ⊢
        rw [hg] at hrow ⊢
        have hl3 : ILeft .i64 secV V w1.heap.size M D.waits left' := hl.out.of_blocks (hb2.block _ hl.out.lt.1) (hb2.block _ hl.out.lt.2.1)
        have hD3 := hD2.out.below hb2
        have hK3 : KeepF (FD B K M) w V := hK2.out.trans (F' := fun _ => False) (KeepF.of_below hb2) (fun i _ h => h.elim)
        have hS3 : w1.heap.size < V.heap.size := Nat.lt_of_lt_of_le hS2.out hb2.size
        have hKb : w1.heap.size ≠ K := fun e => hf.out (by rw [e]; exact .inr (.inl rfl))
        have c0v := hD3.c0
        change V.cell? ⟨B, 0, none⟩ = some (.slice (some ⟨K, 0, none⟩) (mix D.kept D.waits left).length (mix D.kept D.waits left).length) at c0v
        rw [hn.out] at c0v
        replace hb2 := Aside0.mk hb2; replace hrow := Aside0.mk hrow; replace hl3 := Aside0.mk hl3; replace hD3 := Aside0.mk hD3; replace hK3 := Aside0.mk hK3; replace hS3 := Aside0.mk hS3; replace hV := Aside0.mk hV; replace hg := Aside0.mk hg; replace c0' := Aside0.mk c0'
        go_still_tail 7, (by kernel_rfl)
        refine wpStill_load_cells rfl _ _ rfl ⟨g, 0, none⟩ rfl (byt v) _ (cells_row (w := V.drew) hrow.out) Tryd.underlying84 rfl ?k5 ?_
        case k5 => rw [byt_length, hv.out.1]; exact size_sector
        repeat still_step
        refine wpStill_nil ?_
        change wpList _ _ _ _ _ V.drew
        have hkl : k.toNat < (mix D.kept D.waits left).length := by rw [hn.out]; omega
        refine wpList_store_midB rfl _ _ _ rfl K (k.toNat * 64) (byt v) rfl rfl 84 (keptCells (mix D.kept D.waits left)) (show V.drew.heap[K]? = _ from hD3.out.kblk) ?k6 ?k7 byt_one ?_
        case k6 => rw [byt_length, hv.out.1]; exact size_sector
        case k7 => rw [keptCells_length _ hD3.out.secs, byt_length, hv.out.1]; show _ ≤ (mix D.kept D.waits left).length * 64; omega
        have hD4 := (hD3.out.drewN 1).setKept hkl hv.out
        change IsDisk (V.drew.setRow K (splice (keptCells (mix D.kept D.waits left)) (k.toNat * 64) (byt v)).toArray) B K M { D.tick with kept := (mix D.kept D.waits left).set k.toNat v } at hD4
        rw [← hstep.out] at hD4
        have hk4 : KeepF (fun i => i = K) V (V.drew.setRow K (splice (keptCells (mix D.kept D.waits left)) (k.toNat * 64) (byt v)).toArray) := (KeepF.drew (KeepF.refl _ V)).trans (F' := fun i => i = K) (KeepF.setRow _ _ _) (fun _ _ h => h)
        obtain ⟨U, hU⟩ : ∃ U, V.drew.setRow K (splice (keptCells (mix D.kept D.waits left)) (k.toNat * 64) (byt v)).toArray = U := ⟨_, rfl⟩
        rw [hU] at hD4 hk4 ⊢
        have hl4 : ILeft .i64 secV U w1.heap.size M D.waits left' := hl3.out.of_blocks (hk4.block _ hl3.out.lt.1 hKb) (hk4.block _ hl3.out.lt.2.1 (fun e => hD3.out.km e.symm))
        have hS4 := Nat.lt_of_lt_of_le hS3.out hk4.size
        have hK4 : KeepF (FD B K M) w U := hK3.out.trans (F' := fun i => i = K) hk4 (fun i _ e => .inr (.inl e))
        replace hD4 := Aside0.mk hD4; replace hk4 := Aside0.mk hk4; replace hl4 := Aside0.mk hl4; replace hS4 := Aside0.mk hS4; replace hK4 := Aside0.mk hK4; replace hkl := Aside0.mk hkl; replace hU := Aside0.mk hU; replace hKb := Aside0.mk hKb
        go_wp2
        go_roundw
        case rel => exact ⟨left', hl4, hD4, ⟨hN'.out.1, fun a b h => hN'.out.2 (a, b) h⟩⟩
        case measure => rw [hl4.out.count, hL.out.count, hp.out.length_eq]; simp
end Go.Proofs.YtiibfboendnifaaDoor.Dk
namespace Go.Proofs.YtiibfboendnifaaDoor.Dk
set_option linter.unusedVariables false
set_option linter.unusedSimpArgs false
open Go.RowKit Go.Maps Go.Sort Go.Shelf Go.Proofs.Bk Go.Proofs.Bm Go.Proofs.YtiibfboendnifaaDoorW.PrintWords

theorem nodup_le : ∀ (n : Nat) (l : List Int), l.Nodup → (∀ x ∈ l, 0 ≤ x ∧ x < (n : Int)) → l.length ≤ n
  | 0, l, _, h => by
    cases l with
    | nil => simp
    | cons a l => have := h a (by simp); omega
  | n + 1, l, hn, h => by
    have h1 := nodup_le n (l.erase (n : Int)) (hn.erase _) (fun x hx => by
      rw [hn.mem_erase_iff] at hx
      have := h x hx.2
      have := hx.1
      omega)
    rw [List.length_erase] at h1
    split at h1 <;> omega
theorem IsDisk.waits_len {w : World} {B K M : Nat} {D : Dsk} (h : IsDisk w B K M D) : D.waits.length ≤ 512 := by
  have := nodup_le D.kept.length (D.waits.map (·.1)) h.mp.nodup (fun x hx => by
    obtain ⟨p, hp, rfl⟩ := List.mem_map.1 hx
    exact (h.wsec p hp).2)
  rw [List.length_map] at this
  have := h.few
  omega
def srt (l : List Int) : List Int := l.mergeSort (fun x y => decide (x ≤ y))
def Dsk.wts (D : Dsk) : List Int := srt (D.waits.map (·.1))
theorem Dsk.wts_length (D : Dsk) : D.wts.length = D.waits.length := by unfold Dsk.wts srt; rw [List.length_mergeSort, List.length_map]

theorem wf_small (x : Int) (h0 : 0 ≤ x) (h1 : x ≤ 1048576) : (Lit.int .i64 x).wf = true := by
  simp [Lit.wf, IntKind.min, IntKind.max, IntKind.signed, IntKind.bits]
  omega
/-- a slice of ints that a call has made -/
def IntsAt (w : World) (b : Nat) (v : Value) (n : Nat) (xs : List Int) : Prop :=
  ∃ A c, v = .slice A n c ∧ Kd.C (Kd.int .i64) w A n xs ∧ (∀ ad, A = some ad → b ≤ ad.block)
theorem IntsAt.of_row {w : World} {b : Nat} {v : Value} {xs : List Int} (h : w.ownsRow b 3 1 v xs.length (xs.map (Value.int .i64))) : IntsAt w b v xs.length xs := by
  obtain ⟨_, h | h⟩ := h
  · obtain ⟨rfl, h0⟩ := h
    have : xs = [] := List.eq_nil_of_length_eq_zero h0
    subst this
    exact ⟨none, 0, rfl, Kd.C_nil _ _, fun ad e => by cases e⟩
  · obtain ⟨g, cap, cur, rfl, hb, hg, hn, hm, hs, ht⟩ := h
    refine ⟨some ⟨g, 0, none⟩, cap, rfl, ⟨rfl, (by have hml : maxLen ≤ 9223372036854775807 := (by decide); omega), fun hp => ⟨_, rfl, fun j x hj => ⟨[.int .i64 x], rfl, rfl, fun i u hu => ?_⟩⟩⟩, fun ad e => by injection e with e; rw [← e]; exact hb⟩
    have hi : i = 0 := by cases i with | zero => rfl | succ i => simp at hu
    subst hi
    simp at hu; subst hu
    show w.cell? ((⟨g, 0, none⟩ : Addr).add (j * 1 + 0)) = _
    rw [addAt, cell_row hg]
    have hj' : j < xs.length := (List.getElem?_eq_some_iff.1 hj).1
    have := congrArg (fun l => l[j]?) ht
    simp only [Nat.mul_one, List.getElem?_take_of_lt hj', List.getElem?_map, hj, Option.map_some, Array.getElem?_toList] at this
    rw [← this]; congr 1; omega

def WaitsPost (D : Dsk) (w : World) (e : Ending) (w' : World) : Prop :=
  ∃ v, e = .returned v ∧ IntsAt w' w.heap.size v D.waits.length D.wts ∧ Below w.heap.size w w'

theorem sortsA (m : Nat) : AnyZI.SortsIn Tryd.prog Tryd.sortedA_ren Fence.wide m :=
  ⟨fun blk off cap ss W hH hblk hsz => callsIn_wide.2 (Tryd.slices_Sort_int blk off cap ss W hH hblk hsz),
   fun p cap W => callsIn_wide.2 (Tryd.slices_Sort_int_none p cap W)⟩

set_option maxHeartbeats 2000000 in
theorem Waits_calls (B K M : Nat) (D : Dsk) (w : World) (h : IsDisk w B K M D) : Calls Tryd.prog 20 #[.pointer (some ⟨B, 0, none⟩)] w (WaitsPost D w) := by
  refine (callsIn_wide (n := 7)).1 ?_
  have c1 := h.c1
  obtain ⟨D0, hown, hsize, hperm⟩ := h.mp.owns (P := Tryd.prog) (H := Unit) Tryd.underlying3 (fun p hp => by
    have := (h.wsec p hp).2
    have := h.few
    exact wf_small _ (by omega) (by omega)) (by have := h.waits_len; exact Nat.le_trans this (by decide))
  have hmax : Maps.size D0 ≤ maxLen := Nat.le_trans hsize (Nat.le_trans h.waits_len (by decide))
  have hbytes : Maps.size D0 * 8 ≤ 140737488355328 := by have := h.waits_len; omega
  have hbl := hown.lt
  have hseq : SeqGives Fence.wide 3 Tryd.prog 65 #[.pointer (some ⟨w.heap.size, 0, none⟩)] encZ (fun ss => ss.Perm (intKeys D0)) (Maps.size D0) (w.alloc (.cells #[.map (some M)] 68)) :=
    AnyZI.keys_gives (ρ := Tryd.keysA_ren) { Tryd.keysA with } Fence.wide _ trivial rfl (by omega) w.heap.size M _ D0 _ (by simp) (by simp) (by
      obtain ⟨es, clock, hb, Ft, hs, hD⟩ := hown
      exact ⟨es, clock, (Below.heap_alloc _ _ M hbl).trans hb, Ft, hs, hD⟩)
  have cK : ∀ mb W, CallsIn Fence.wide 6 Tryd.prog 45 #[.map mb] W fun e w' => e = .returned (.func (.func 65) #[] #[.pointer (some ⟨W.heap.size, 0, none⟩)]) ∧ w' = W.alloc (.cells #[.map mb] 68) := fun mb W => AnyZI.keys_in Tryd.keysA Fence.wide 6 trivial rfl mb W
  have cS := AnyZI.sorted_in Tryd.sortedA Fence.wide 6 trivial trivial trivial trivial rfl (by omega) (sortsA _) (enters_of Tryd.func64 (by kernel_rfl) rfl) 65 #[.pointer (some ⟨w.heap.size, 0, none⟩)] trivial (enters_of Tryd.func65 (by kernel_rfl) rfl) _ _ hmax hbytes _ hseq
  change CallsIn _ _ Tryd.prog 44 _ _ _ at cS
  have fin : ∀ (v : Value) (ss : List Int) (w' : World), ss.Perm (intKeys D0) → w'.ownsRow w.heap.size 3 1 v ss.length ((ss.mergeSort (fun x y => decide (x ≤ y))).map encZ) → Below w.heap.size w w' → WaitsPost D w (.returned v) w' := by
    intro v ss w' hp hr hb
    refine ⟨v, rfl, ?_, hb⟩
    have he : ss.mergeSort (fun x y => decide (x ≤ y)) = D.wts := mergeSort_of_perm_i (hp.trans hperm)
    rw [he] at hr
    have hl : ss.length = D.wts.length := by rw [← he, List.length_mergeSort]
    rw [hl] at hr
    have := IntsAt.of_row hr
    rw [D.wts_length] at this
    exact this
  replace fin := Aside0.mk fin
  have hfK : Fence.wide.fn 45 := trivial
  have hfS : Fence.wide.fn 44 := trivial
  replace h := Aside0.mk h; replace hown := Aside0.mk hown; replace hperm := Aside0.mk hperm; replace hsize := Aside0.mk hsize; replace hseq := Aside0.mk hseq; replace hmax := Aside0.mk hmax; replace hbytes := Aside0.mk hbytes
  refine callsIn_of_wp Tryd.func20 rfl trivial ?_ rfl
  simp only [Tryd.ntmps20, List.size_toArray, List.length_cons, List.length_nil, Nat.reduceAdd, Nat.reduceSub, Array.replicate_succ, Array.replicate_zero, List.push_toArray, List.append_toArray, List.nil_append, List.cons_append]
  gi_wp2_with (first
    | (gi_at_call 45; refine (cK _ _).mono ?_; rintro e w' ⟨rfl, rfl⟩)
    | (gi_at_call 44; refine cS.mono ?_; rintro e w' ⟨v, ss, rfl, hS, hrow, hnil, hb⟩))
  go_ret
  exact fin.out v ss _ hS (ownsRow_base_a hrow (by simp)) (((Below.refl _ w).alloc (Nat.le_refl _) _).trans (hb.mono (by simp)))
end Go.Proofs.YtiibfboendnifaaDoor.Dk
namespace Go.Proofs.YtiibfboendnifaaDoor.Dk
set_option linter.unusedVariables false
set_option linter.unusedSimpArgs false
open Go.RowKit Go.Proofs.Bk Go.Proofs.Bm Go.Proofs.YtiibfboendnifaaDoorW.PrintWords

theorem keys_adel {α : Type} (l : List (Int × α)) (k : Int) : (adel l k).map (·.1) = (l.map (·.1)).erase k := by
  induction l with
  | nil => rfl
  | cons p l ih =>
    unfold adel
    rw [List.map_cons, List.erase_cons]
    by_cases h : p.1 = k
    · rw [if_pos h, if_pos (by simpa using h)]
    · rw [if_neg h, if_neg (by simpa using h), List.map_cons, ih]
theorem mem_adel {α : Type} (l : List (Int × α)) (k : Int) : ∀ p ∈ adel l k, p ∈ l := by
  induction l with
  | nil => intro p hp; exact hp
  | cons q l ih =>
    intro p hp
    unfold adel at hp
    split at hp
    · simp [hp]
    · rcases List.mem_cons.1 hp with rfl | hp
      · simp
      · simp [ih p hp]
theorem aget_of_mem {α : Type} {l : List (Int × α)} {k : Int} (h : k ∈ l.map (·.1)) : ∃ v, aget l k = some v := by
  cases e : aget l k with
  | none => exact ((aget_none_iff l k).1 e h).elim
  | some v => exact ⟨v, rfl⟩

/-- one sector that waits: kept, or not, and it waits no longer -/
def Dsk.one (D : Dsk) (keep : Bool) (i : Int) : Dsk := { D with kept := if keep then D.kept.set i.toNat ((aget D.waits i).getD zeros) else D.kept, waits := adel D.waits i }
def crash1 (keep : List Bool) : Dsk → List Int → Nat → Dsk
  | D, [], _ => D
  | D, i :: is, n => crash1 keep (D.one (keep.getD n false) i) is (n + 1)
def Dsk.crash (D : Dsk) (keep : List Bool) : Dsk := { crash1 keep D D.wts 0 with left := -1 }

theorem IsDisk.gone {w : World} {B K M : Nat} {D : Dsk} (h : IsDisk w B K M D) {ob : Obj} {i : Int} (hm : IMap .i64 secV (bset w M ob) M (adel D.waits i)) :
    IsDisk (bset w M ob) B K M { D with waits := adel D.waits i } :=
  ⟨(bset_other w h.bm ob).trans h.blk, (bset_other w h.km ob).trans h.kblk, hm, h.bk, h.bm, h.km, h.few, h.secs, fun p hp => h.wsec p (mem_adel _ _ p hp), h.lft⟩

/-- a row of the caller's, in no block of F -/
structure CG {α : Type} (d : Kd α) (F : Nat → Prop) (w : World) (A : Option Addr) (n : Nat) (xs : List α) : Prop where
  c : d.C w A n xs
  far : ∀ ad, A = some ad → 0 < n → ¬ F ad.block
theorem CG.keep {α : Type} {enc : α → Value} {h1 : ∀ x, (enc x).oneCell' = true} {F G : Nat → Prop} {w w' : World} {A : Option Addr} {n : Nat} {xs : List α} (h : CG (Kd.scalar enc h1) F w A n xs) (hk : KeepF G w w') (hG : ∀ i, G i → F i) : CG (Kd.scalar enc h1) F w' A n xs := by
  refine ⟨⟨h.c.1, h.c.2.1, fun hn => ?_⟩, h.far⟩
  obtain ⟨ad, e, hc⟩ := h.c.2.2 hn
  refine ⟨ad, e, fun j p hj => ?_⟩
  obtain ⟨c, h1, h2, h3⟩ := hc j p hj
  refine ⟨c, h1, h2, fun i u hu => ?_⟩
  have h4 := h3 i u hu
  have hb : (ad.add (j * (Kd.scalar enc (by assumption)).sz + i)).block = ad.block := by unfold Addr.add; split <;> rfl
  have hlt := World.block_lt_of_cell? w _ h4
  rw [hb] at hlt
  exact (World.cell?_of_block (w := w) (w' := w') (by rw [hb]; exact hk.block _ hlt (fun hg => h.far ad e hn (hG _ hg)))).trans h4

theorem wpStill_lookup_imap {α : Type} {enc : α → Value} {P : Program} {w : World} {kt et : TypeId} {q : IntKind} {ops : Array Oper} {rest : List Oper} {o : Oper} {a : Act} {Q : Act → Prop}
    (hg : o.guard = none) (m x : Operand) (t : TypeId) (hop : o.op = Op.lookup t m x false)
    (ht : P.underlying t = some (.map kt et)) (hk : P.underlying kt = some (.int q)) {z : Value} (hz : (zeroValue et).run P w = .ok z w) (b : Nat) (l : List (Int × α)) (k : Int)
    (hm : a.eval m = .map (some b)) (hx : a.eval x = .int q k) (h : IMap q enc w b l) (hK : wpStill P ops w Q rest (a.put o.dst (((aget l k).map enc).getD z))) :
    wpStill P ops w Q (o :: rest) a := by
  refine wpStill_value hg ?_ hK
  simp [execOp, hop, hm, hx, run_lookup_imap ht hk hz h k]

def CrashPost (B K M : Nat) (D : Dsk) (keep : List Bool) (w : World) (e : Ending) (w' : World) : Prop :=
  e = .returned (.tuple #[]) ∧ IsDisk w' B K M (D.crash keep) ∧ KeepF (FD B K M) w w'

set_option maxHeartbeats 4000000 in
set_option maxRecDepth 100000 in
theorem Crash_calls (B K M : Nat) (D : Dsk) (A : Option Addr) (n c : Nat) (keep : List Bool) (w : World) (h : IsDisk w B K M D) (hr : CG Kd.bool (FD B K M) w A n keep) :
    Calls Tryd.prog 23 #[.pointer (some ⟨B, 0, none⟩), .slice A n c] w (CrashPost B K M D keep w) := by
  have hkn : Aside0 (keep.length = n) := ⟨hr.c.1⟩
  have hkb := hr.c.2.1
  have hlw := h.lts
  have H := Aside0.mk h
  have HR := Aside0.mk hr
  have fin : Aside0 (∀ w' Dn, crash1 keep Dn [] D.wts.length = crash1 keep D D.wts 0 → IsDisk w' B K M Dn → KeepF (FD B K M) w w' → CrashPost B K M D keep w (.returned (.tuple #[])) (w'.setCell ⟨B, 2, none⟩ (.int .i64 (-1)))) := ⟨fun w' Dn he h1 h2 => by
    refine ⟨rfl, ?_, h2.trans (KeepF.setCell _ _ _) (fun i _ hi => .inl hi)⟩
    have := h1.setLeft (-1) (by omega)
    unfold Dsk.crash
    rw [← he]
    exact this⟩
  have hm512 := h.waits_len
  obtain ⟨m, hm⟩ : ∃ m, D.waits.length = m := ⟨_, rfl⟩
  rw [hm] at hm512
  have hml : Aside0 (D.wts.length = m) := ⟨by rw [D.wts_length, hm]⟩
  replace hlw := Aside0.mk hlw
  clear h hr
  go_enter Tryd.func23, Tryd.ntmps23
  go_wp2_with (go_at_call 20; refine (Waits_calls B K M D _ H.out).mono ?_; rintro e w1 ⟨v, rfl, ⟨A1, c1, rfl, hc1, hf1⟩, hb1⟩; rw [hm] at hc1 ⊢)
  have hws : CG (Kd.int .i64) (FD B K M) w1 A1 m D.wts := ⟨hc1, fun ad e _ hg => by have := hf1 ad e; have := hlw.out; unfold FD at hg; omega⟩
  have h1 : IsDisk w1 B K M D := H.out.below hb1
  have hK1 : KeepF (FD B K M) w w1 := KeepF.of_below hb1
  have hR1 := CG.keep HR.out hK1 (fun _ h => h)
  replace hws := Aside0.mk hws; replace h1 := Aside0.mk h1; replace hK1 := Aside0.mk hK1; replace hR1 := Aside0.mk hR1; replace hm := Aside0.mk hm; replace hc1 := Aside0.mk hc1; replace hf1 := Aside0.mk hf1; replace hb1 := Aside0.mk hb1
  go_loopw [9] (fun i wr => ∃ (k : Nat) (Dn : Dsk), i = .int .i64 k ∧ k ≤ m ∧ Aside0 (IsDisk wr B K M Dn) ∧ Aside0 (KeepF (FD B K M) w wr) ∧ Aside0 (CG Kd.bool (FD B K M) wr A n keep) ∧ Aside0 (CG (Kd.int .i64) (FD B K M) wr A1 m D.wts) ∧
      Aside0 (crash1 keep Dn (D.wts.drop k) k = crash1 keep D D.wts 0) ∧ Aside0 ((Dn.waits.map (·.1)).Perm (D.wts.drop k)))
    (fun i _ => m - (intOf i).toNat)
  case atStart =>
    refine ⟨0, D, rfl, Nat.zero_le _, h1, hK1, hR1, hws, ⟨by rw [List.drop_zero]⟩, ⟨?_⟩⟩
    rw [List.drop_zero]; exact (List.mergeSort_perm _ _).symm
  case round =>
    obtain ⟨k, Dn, rfl, hk, hD, hK, hR, hW, hE, hP⟩ := hrel
    by_cases hlt : k < m
    · have p1 : 0 ≤ (k : Int) := by omega
      have q1 : (k : Int) < (m : Int) := by omega
      obtain ⟨ad, rfl, x1⟩ := Kd.at_int hW.out.c k p1 q1
      rw [Int.toNat_natCast] at x1
      have hcons : Aside0 (D.wts.drop k = rd D.wts k :: D.wts.drop (k + 1)) := ⟨by
        rw [List.drop_eq_getElem_cons (by rw [hml.out]; exact hlt)]; congr 1
        unfold rd; rw [List.getD_eq_getElem?_getD, Int.toNat_natCast, List.getElem?_eq_getElem (by rw [hml.out]; exact hlt)]; rfl⟩
      obtain ⟨i, hi⟩ : ∃ i, rd D.wts k = i := ⟨_, rfl⟩
      rw [hi] at x1 hcons
      have hmem : i ∈ Dn.waits.map (·.1) := hP.out.mem_iff.2 (by rw [hcons.out]; simp)
      obtain ⟨v, hv⟩ := aget_of_mem hmem
      have hvm := (aget_some_iff hD.out.mp.nodup i v).1 hv
      have hsec := hD.out.wsec _ hvm
      have hvs : Aside0 (Sec v) := ⟨hsec.1⟩
      obtain ⟨i1, i2⟩ := hsec.2
      dsimp only at i1 i2
      have hP' : Aside0 (((adel Dn.waits i).map (·.1)).Perm (D.wts.drop (k + 1))) := ⟨by
        have := hP.out.erase i
        rw [hcons.out, List.erase_cons_head] at this
        rw [keys_adel]; exact this⟩
      have hE' : Aside0 (crash1 keep (Dn.one (keep.getD k false) i) (D.wts.drop (k + 1)) (k + 1) = crash1 keep D D.wts 0) := ⟨by
        have := hE.out
        rw [hcons.out] at this; exact this⟩
      replace hmem := Aside0.mk hmem; replace hvm := Aside0.mk hvm; replace hv := Aside0.mk hv; replace hi := Aside0.mk hi
      replace hsec := trivial
      have c1' := hD.out.c1
      by_cases hb : keep.getD k false = true
      · have hkn' : k < n := by
          apply Decidable.byContradiction; intro hc
          rw [List.getD_eq_getElem?_getD, List.getElem?_eq_none (by rw [hkn.out]; omega)] at hb; cases hb
        have q2 : (k : Int) < (n : Int) := by omega
        obtain ⟨ad2, rfl, x2⟩ := Kd.at_bool hR.out.c k p1 q2
        rw [Int.toNat_natCast, show rdOf false keep k = true from by unfold rdOf; rw [Int.toNat_natCast]; exact hb] at x2
        have c0' := hD.out.c0
        obtain ⟨z, hz⟩ : ∃ z, Dn.kept.length = z := ⟨_, rfl⟩
        rw [hz] at c0' i2
        replace hz := Aside0.mk hz; replace hb := Aside0.mk hb
        go_wp2
        go_still_tail 12, (by kernel_rfl)
        refine wpStill_lookup_imap (enc := secV) (q := .i64) rfl _ _ 68 rfl Tryd.underlying68 Tryd.underlying3 (zero_sector _) M Dn.waits i rfl rfl (show IMap .i64 secV wr.drew M Dn.waits from hD.out.mp) ?_
        rw [hv.out]
        simp only [Option.map_some, Option.getD_some]
        repeat still_step
        refine wpStill_nil ?_
        change wpList _ _ _ _ _ wr.drew
        have hkl : i.toNat < Dn.kept.length := by rw [hz.out]; omega
        refine wpList_store_midB rfl _ _ _ rfl K (i.toNat * 64) (byt v) rfl rfl 84 (keptCells Dn.kept) (show wr.drew.heap[K]? = _ from hD.out.kblk) ?k6 ?k7 byt_one ?_
        case k6 => rw [byt_length, hvs.out.1]; exact size_sector
        case k7 => rw [keptCells_length _ hD.out.secs, byt_length, hvs.out.1]; omega
        have hD4 := (hD.out.drewN 1).setKept hkl hvs.out
        change IsDisk (wr.drew.setRow K (splice (keptCells Dn.kept) (i.toNat * 64) (byt v)).toArray) B K M { Dn with kept := Dn.kept.set i.toNat v } at hD4
        have hk4 : KeepF (fun i => i = K) wr (wr.drew.setRow K (splice (keptCells Dn.kept) (i.toNat * 64) (byt v)).toArray) := (KeepF.drew (KeepF.refl _ wr)).trans (F' := fun i => i = K) (KeepF.setRow _ _ _) (fun _ _ h => h)
        obtain ⟨U, hU⟩ : ∃ U, wr.drew.setRow K (splice (keptCells Dn.kept) (i.toNat * 64) (byt v)).toArray = U := ⟨_, rfl⟩
        rw [hU] at hD4 hk4 ⊢
        have c1u := hD4.c1
        replace hD4 := Aside0.mk hD4; replace hk4 := Aside0.mk hk4; replace hkl := Aside0.mk hkl; replace hU := Aside0.mk hU
        go_wp2_with ((with_reducible refine gate_op (.call ⟨.builtin .delete, #[.tmp 39, .tmp 40], #[68, 3]⟩) rfl ?_); refine wpList_delete_imap (enc := secV) (q := .i64) rfl _ _ 68 _ rfl Tryd.underlying68 Tryd.underlying3 M Dn.waits i rfl rfl hD4.out.mp ?_; intro ob hob; replace hob := Aside0.mk hob)
        have hkk : KeepF (FD B K M) wr (bset U M ob) := (hk4.out.mono (fun i e => .inr (.inl e))).trans (F' := fun i => i = M) (KeepF.bset _ _ _) (fun i _ e => .inr (.inr e))
        have hD5 : IsDisk (bset U M ob) B K M (Dn.one (keep.getD k false) i) := by
          have := hD4.out.gone hob.out
          unfold Dsk.one
          rw [hb.out, if_pos rfl, hv.out]
          exact this
        have hK5 := hK.out.trans hkk (fun i _ e => e)
        have hR5 := CG.keep hR.out hkk (fun _ h => h)
        have hW5 := CG.keep hW.out hkk (fun _ h => h)
        replace hkk := Aside0.mk hkk; replace hD5 := Aside0.mk hD5; replace hK5 := Aside0.mk hK5; replace hR5 := Aside0.mk hR5; replace hW5 := Aside0.mk hW5
        go_roundw
        case rel => exact ⟨k + 1, Dn.one (keep.getD k false) i, by simp, by omega, hD5, hK5, hR5, hW5, hE', hP'⟩
        case measure => show m - (((k : Int) + 1)).toNat < m - ((k : Int)).toNat; omega
      · have hb' : Aside0 (keep.getD k false = false) := ⟨by simpa using hb⟩
        clear hb
        by_cases hkn' : k < n
        · have q2 : (k : Int) < (n : Int) := by omega
          obtain ⟨ad2, rfl, x2⟩ := Kd.at_bool hR.out.c k p1 q2
          rw [Int.toNat_natCast, show rdOf false keep k = false from by unfold rdOf; rw [Int.toNat_natCast]; exact hb'.out] at x2
          go_wp2_with ((with_reducible refine gate_op (.call ⟨.builtin .delete, #[.tmp 39, .tmp 40], #[68, 3]⟩) rfl ?_); refine wpList_delete_imap (enc := secV) (q := .i64) rfl _ _ 68 _ rfl Tryd.underlying68 Tryd.underlying3 M Dn.waits i rfl rfl hD.out.mp ?_; intro ob hob; replace hob := Aside0.mk hob)
          have hkk : KeepF (FD B K M) wr (bset wr M ob) := (KeepF.bset _ _ _).mono (fun i e => .inr (.inr e))
          have hD5 : IsDisk (bset wr M ob) B K M (Dn.one (keep.getD k false) i) := by
            have := hD.out.gone hob.out
            unfold Dsk.one
            rw [hb'.out, if_neg (by decide)]
            exact this
          have hK5 := hK.out.trans hkk (fun i _ e => e)
          have hR5 := CG.keep hR.out hkk (fun _ h => h)
          have hW5 := CG.keep hW.out hkk (fun _ h => h)
          replace hkk := Aside0.mk hkk; replace hD5 := Aside0.mk hD5; replace hK5 := Aside0.mk hK5; replace hR5 := Aside0.mk hR5; replace hW5 := Aside0.mk hW5
          go_roundw
          case rel => exact ⟨k + 1, Dn.one (keep.getD k false) i, by simp, by omega, hD5, hK5, hR5, hW5, hE', hP'⟩
          case measure => show m - (((k : Int) + 1)).toNat < m - ((k : Int)).toNat; omega
        · have q2 : ¬ (k : Int) < (n : Int) := by omega
          go_wp2_with ((with_reducible refine gate_op (.call ⟨.builtin .delete, #[.tmp 39, .tmp 40], #[68, 3]⟩) rfl ?_); refine wpList_delete_imap (enc := secV) (q := .i64) rfl _ _ 68 _ rfl Tryd.underlying68 Tryd.underlying3 M Dn.waits i rfl rfl hD.out.mp ?_; intro ob hob; replace hob := Aside0.mk hob)
          have hkk : KeepF (FD B K M) wr (bset wr M ob) := (KeepF.bset _ _ _).mono (fun i e => .inr (.inr e))
          have hD5 : IsDisk (bset wr M ob) B K M (Dn.one (keep.getD k false) i) := by
            have := hD.out.gone hob.out
            unfold Dsk.one
            rw [hb'.out, if_neg (by decide)]
            exact this
          have hK5 := hK.out.trans hkk (fun i _ e => e)
          have hR5 := CG.keep hR.out hkk (fun _ h => h)
          have hW5 := CG.keep hW.out hkk (fun _ h => h)
          replace hkk := Aside0.mk hkk; replace hD5 := Aside0.mk hD5; replace hK5 := Aside0.mk hK5; replace hR5 := Aside0.mk hR5; replace hW5 := Aside0.mk hW5
          go_roundw
          case rel => exact ⟨k + 1, Dn.one (keep.getD k false) i, by simp, by omega, hD5, hK5, hR5, hW5, hE', hP'⟩
          case measure => show m - (((k : Int) + 1)).toNat < m - ((k : Int)).toNat; omega
    · have hkm : k = m := by omega
      have hz : Aside0 (D.wts.drop k = []) := ⟨List.drop_of_length_le (by rw [hml.out]; omega)⟩
      have c2 := hD.out.fz 2
      have c2' := hD.out.c2
      go_wp2
      go_end0
      refine fin.out wr Dn ?_ hD.out hK.out
      have := hE.out
      rw [hz.out] at this
      rw [hml.out, ← hkm]
      exact this
end Go.Proofs.YtiibfboendnifaaDoor.Dk
namespace Go.Proofs.YtiibfboendnifaaDoor.Dk
set_option linter.unusedVariables false
set_option linter.unusedSimpArgs false
open Go.RowKit Go.Proofs.Bk Go.Proofs.Bm Go.Proofs.YtiibfboendnifaaDoorW.PrintWords

theorem wrap64_small (x : Int) (h0 : 0 ≤ x) (h1 : x < 1048576) : IntKind.i64.wrap x = x := by
  simp [IntKind.wrap, IntKind.bits, IntKind.signed]
  omega
/-- a byte with one bit turned over -/
def flip (v : Int) (r : Nat) : Int := bits BinOp.xor IntKind.u8 v (IntKind.u8.wrap (2 ^ r))
theorem flip_all : ∀ (v : Fin 256) (r : Fin 8), flip (flip v.val r.val) r.val = v.val ∧ flip v.val r.val ≠ v.val ∧ 0 ≤ flip v.val r.val ∧ flip v.val r.val ≤ 255 := by decide +kernel
theorem flip_spec (v : Int) (r : Nat) (h0 : 0 ≤ v) (h1 : v ≤ 255) (hr : r < 8) : flip (flip v r) r = v ∧ flip v r ≠ v ∧ 0 ≤ flip v r ∧ flip v r ≤ 255 := by
  have := flip_all ⟨v.toNat, by omega⟩ ⟨r, hr⟩
  simp only [show ((v.toNat : Nat) : Int) = v by omega] at this
  exact this
def turned (s : List Int) (b : Int) : List Int := s.set (b.tdiv 8).toNat (flip (s.getD (b.tdiv 8).toNat 0) (b.tmod 8).toNat)
def Dsk.rot (D : Dsk) (i b : Int) : Dsk := if D.has i ∧ 0 ≤ b ∧ b < 512 then { D with kept := D.kept.set i.toNat (turned (D.kept.getD i.toNat []) b) } else D
theorem keptCells_set1 (x : Int) (q : Nat) (hq : q < 64) : ∀ (k : List (List Int)) (hk : ∀ s ∈ k, Sec s) (i : Nat) (s : List Int), k[i]? = some s → keptCells (k.set i (s.set q x)) = (keptCells k).set (i * 64 + q) (.int .u8 x)
  | [], _, i, s, h => by simp at h
  | s0 :: k, hk, 0, s, h => by
    have h1 : (byt s0).length = 64 := by rw [byt_length]; exact (hk s0 (by simp)).1
    have e : s0 = s := by simpa using h
    subst e
    unfold keptCells
    simp only [List.map_cons, List.flatten_cons, List.set_cons_zero, Nat.zero_mul, Nat.zero_add]
    rw [List.set_append_left _ _ (by omega)]
    congr 1
    unfold byt; rw [List.map_set]
  | s0 :: k, hk, i + 1, s, h => by
    have h1 : (byt s0).length = 64 := by rw [byt_length]; exact (hk s0 (by simp)).1
    have ih := keptCells_set1 x q hq k (fun s hs => hk s (by simp [hs])) i s (by simpa using h)
    unfold keptCells at *
    simp only [List.map_cons, List.flatten_cons, List.set_cons_succ]
    rw [ih, List.set_append_right _ _ (by omega), h1, show (i + 1) * 64 + q - 64 = i * 64 + q by omega]
theorem Sec_set {s : List Int} (h : Sec s) (q : Nat) (x : Int) (hx : 0 ≤ x ∧ x ≤ 255) : Sec (s.set q x) := by
  refine ⟨by rw [List.length_set]; exact h.1, fun y hy => ?_⟩
  rcases List.mem_or_eq_of_mem_set hy with hy | rfl
  · exact h.2 y hy
  · exact hx
theorem IsDisk.setByte {w : World} {B K M : Nat} {D : Dsk} (h : IsDisk w B K M D) {i q : Nat} {s : List Int} {x : Int} (hi : D.kept[i]? = some s) (hq : q < 64) (hx : 0 ≤ x ∧ x ≤ 255) :
    IsDisk (w.setCell ⟨K, i * 64 + q, none⟩ (.int .u8 x)) B K M { D with kept := D.kept.set i (s.set q x) } := by
  refine ⟨?_, ?_, h.mp.of_block (Below.heap_setCell w _ _ M (Ne.symm h.km)), h.bk, h.bm, h.km, by simpa using h.few, ?_, ?_, h.lft⟩
  · rw [Below.heap_setCell w _ _ B h.bk, h.blk]; simp
  · rw [heap_set_same h.kblk, keptCells_set1 x q hq _ h.secs i s hi]; simp
  · intro y hy
    rcases List.mem_or_eq_of_mem_set hy with hy | rfl
    · exact h.secs y hy
    · exact Sec_set (h.secs _ (List.mem_of_getElem? hi)) q x hx
  · intro p hp; have := h.wsec p hp; simpa using this
def RotPost (B K M : Nat) (D : Dsk) (i b : Int) (w : World) (e : Ending) (w' : World) : Prop := e = .returned (.tuple #[]) ∧ IsDisk w' B K M (D.rot i b) ∧ KeepF (FD B K M) w w'
set_option maxHeartbeats 4000000 in
set_option maxRecDepth 100000 in
theorem Rot_calls (B K M : Nat) (D : Dsk) (i b : Int) (w : World) (h : IsDisk w B K M D) :
    Calls Tryd.prog 18 #[.pointer (some ⟨B, 0, none⟩), .int .i64 i, .int .i64 b] w (RotPost B K M D i b w) := by
  have H := Aside0.mk h
  have hlw := h.lts
  replace hlw := Aside0.mk hlw
  clear h
  by_cases hh : D.has i = true
  · by_cases hb0 : 0 ≤ b
    · by_cases hb1 : b < 512
      · have hin : 0 ≤ i ∧ i < (D.kept.length : Int) := by unfold Dsk.has at hh; simpa using hh
        obtain ⟨i1, i2⟩ := hin
        obtain ⟨q, hq⟩ : ∃ q : Nat, (q : Int) = b.tdiv 8 := ⟨(b.tdiv 8).toNat, by rw [Int.tdiv_eq_ediv_of_nonneg hb0]; omega⟩
        obtain ⟨r, hr⟩ : ∃ r : Nat, (r : Int) = b.tmod 8 := ⟨(b.tmod 8).toNat, by rw [Int.tmod_eq_emod_of_nonneg hb0]; omega⟩
        have hq0 : (q : Int) < 64 := by rw [hq, Int.tdiv_eq_ediv_of_nonneg hb0]; omega
        have hr0 : (r : Int) < 8 := by rw [hr, Int.tmod_eq_emod_of_nonneg hb0]; omega
        have hqz : 0 ≤ (q : Int) := by omega
        have hqw : IntKind.i64.wrap (b.tdiv 8) = q := by rw [← hq]; exact wrap64_small _ (by omega) (by omega)
        replace hq := Aside0.mk hq; replace hr := Aside0.mk hr; replace hqw := Aside0.mk hqw
        have c0 := H.out.c0
        obtain ⟨z, hz⟩ : ∃ z, D.kept.length = z := ⟨_, rfl⟩
        rw [hz] at c0 i2
        obtain ⟨s, hs⟩ : ∃ s, D.kept[i.toNat]? = some s := ⟨D.kept[i.toNat]'(by omega), List.getElem?_eq_getElem _⟩
        have hS : Sec s := H.out.secs _ (List.mem_of_getElem? hs)
        obtain ⟨v, hv⟩ : ∃ v, s[q]? = some v := ⟨s[q]'(by rw [hS.1]; omega), List.getElem?_eq_getElem _⟩
        have hv2 := hS.2 v (List.mem_of_getElem? hv)
        have xv : w.cell? ⟨K, i.toNat * 64 + q, none⟩ = some (.int .u8 v) := by
          rw [cell_row H.out.kblk, List.getElem?_toArray]
          refine kept_cells H.out.secs hs q _ ?_
          rw [byt, List.getElem?_map, hv]; rfl
        replace hz := Aside0.mk hz; replace hs := Aside0.mk hs; replace hS := Aside0.mk hS; replace hv := Aside0.mk hv; replace hv2 := Aside0.mk hv2
        go_enter Tryd.func18, Tryd.ntmps18
        go_wp2_with (go_at_call 42; refine (there_calls B K M D i _ H.out).mono ?_; rintro e w' ⟨rfl, rfl⟩; rw [hh])
        go_still_tail 16, (by kernel_rfl)
        rw [hqw.out]
        repeat still_step
        rw [← hr.out]
        repeat still_step
        refine wpStill_nil ?_
        change wpList _ _ _ _ _ w.drew
        have hR : Aside0 (D.rot i b = { D with kept := D.kept.set i.toNat (s.set q (flip v r)) }) := ⟨by
          unfold Dsk.rot turned
          rw [if_pos ⟨hh, hb0, hb1⟩, List.getD_eq_getElem?_getD, hs.out, ← hq.out, ← hr.out]
          simp only [Option.getD_some, Int.toNat_natCast, List.getD_eq_getElem?_getD, hv.out]⟩
        have hD := ((H.out.drewN 1).setByte hs.out (q := q) (x := flip v r) (by omega) ((flip_spec v r hv2.out.1 hv2.out.2 (by omega)).2.2))
        have hK : KeepF (FD B K M) w (w.drew.setCell ⟨K, i.toNat * 64 + q, none⟩ (.int .u8 (flip v r))) := (KeepF.drew (KeepF.refl _ w)).trans (F' := fun k => k = K) (KeepF.setCell w.drew ⟨K, i.toNat * 64 + q, none⟩ _) (fun i _ e => .inr (.inl e))
        have fin : Aside0 (RotPost B K M D i b w (.returned (.tuple #[])) (w.drew.setCell ⟨K, i.toNat * 64 + q, none⟩ (.int .u8 (flip v r)))) := ⟨⟨rfl, by rw [hR.out]; exact hD, hK⟩⟩
        clear hD hK
        have xv' : w.drew.cell? ⟨K, i.toNat * 64 + q, none⟩ = some (.int .u8 v) := xv
        have xf : w.drew.frozen? ⟨K, i.toNat * 64 + q, none⟩ = false := frozen_row (w := w) H.out.kblk _
        clear xv c0
        go_wp2
        go_end0
        exact fin.out
      · have fin : Aside0 (RotPost B K M D i b w (.returned (.tuple #[])) w) := ⟨⟨rfl, by unfold Dsk.rot; rw [if_neg (by rintro ⟨_, _, h⟩; omega)]; exact H.out, KeepF.refl _ _⟩⟩
        go_enter Tryd.func18, Tryd.ntmps18
        go_wp2_with (go_at_call 42; refine (there_calls B K M D i _ H.out).mono ?_; rintro e w' ⟨rfl, rfl⟩; rw [hh])
        go_end0
        exact fin.out
    · have fin : Aside0 (RotPost B K M D i b w (.returned (.tuple #[])) w) := ⟨⟨rfl, by unfold Dsk.rot; rw [if_neg (by rintro ⟨_, h, _⟩; omega)]; exact H.out, KeepF.refl _ _⟩⟩
      go_enter Tryd.func18, Tryd.ntmps18
      go_wp2_with (go_at_call 42; refine (there_calls B K M D i _ H.out).mono ?_; rintro e w' ⟨rfl, rfl⟩; rw [hh])
      go_end0
      exact fin.out
  · have hh' : D.has i = false := by simpa using hh
    have fin : Aside0 (RotPost B K M D i b w (.returned (.tuple #[])) w) := ⟨⟨rfl, by unfold Dsk.rot; rw [if_neg (by rintro ⟨h, _, _⟩; exact hh h)]; exact H.out, KeepF.refl _ _⟩⟩
    go_enter Tryd.func18, Tryd.ntmps18
    go_wp2_with (go_at_call 42; refine (there_calls B K M D i _ H.out).mono ?_; rintro e w' ⟨rfl, rfl⟩; rw [hh'])
    go_end0
    exact fin.out
end Go.Proofs.YtiibfboendnifaaDoor.Dk
