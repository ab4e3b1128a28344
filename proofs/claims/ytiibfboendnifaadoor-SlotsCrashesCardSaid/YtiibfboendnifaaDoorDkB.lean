/- The small calls of package disk: off, there, Arm, Read. -/
import Derived.Test.YtiibfboendnifaaDoorDkA
import Derived.Test.YtiibfboendnifaaDoorBk
import Derived.Test.YtiibfboendnifaaDoorWMore
import Derived.Deep.QuietTactic
import Derived.BigQuiet
namespace Go.Proofs.YtiibfboendnifaaDoor.Dk
set_option linter.unusedVariables false
set_option linter.unusedSimpArgs false
attribute [local go_sem] Go.Proofs.YtiibfboendnifaaDoorW.PrintMore.max2_int Go.Proofs.YtiibfboendnifaaDoorW.PrintMore.min2_int Go.Proofs.YtiibfboendnifaaDoorW.PrintMore.max_two Go.Proofs.YtiibfboendnifaaDoorW.PrintMore.min_two
open Go.RowKit Go.Proofs.Bk Go.Proofs.Bm Go.Proofs.YtiibfboendnifaaDoorW.PrintWords

/-- but for the blocks of F the old world stays -/
structure KeepF (F : Nat → Prop) (w w' : World) : Prop where
  os : w'.os = w.os
  tape : w'.tape = w.tape
  output : w'.output = w.output
  size : w.heap.size ≤ w'.heap.size
  block : ∀ k, k < w.heap.size → ¬ F k → w'.heap[k]? = w.heap[k]?
theorem KeepF.refl (F : Nat → Prop) (w : World) : KeepF F w w := ⟨rfl, rfl, rfl, Nat.le_refl _, fun _ _ _ => rfl⟩
theorem KeepF.trans {F F' : Nat → Prop} {a b c : World} (h : KeepF F a b) (k : KeepF F' b c) (hF : ∀ i, i < a.heap.size → F' i → F i) : KeepF F a c :=
  ⟨k.os.trans h.os, k.tape.trans h.tape, k.output.trans h.output, Nat.le_trans h.size k.size, fun i hi hn => (k.block i (Nat.lt_of_lt_of_le hi h.size) (fun hf => hn (hF i hi hf))).trans (h.block i hi hn)⟩
theorem KeepF.mono {F F' : Nat → Prop} {a b : World} (h : KeepF F a b) (hF : ∀ i, F i → F' i) : KeepF F' a b := ⟨h.os, h.tape, h.output, h.size, fun i hi hn => h.block i hi (fun hf => hn (hF i hf))⟩
theorem KeepF.of_below {F : Nat → Prop} {a b : World} (h : Below a.heap.size a b) : KeepF F a b := ⟨h.os, h.tape, h.output, h.size, fun i hi _ => h.block i hi⟩
theorem KeepF.to_below {F : Nat → Prop} {base : Nat} {a b : World} (h : KeepF F a b) (hb : base ≤ a.heap.size) (hF : ∀ i, F i → base ≤ i) : Below base a b :=
  ⟨h.os, h.tape, h.output, h.size, fun i hi => h.block i (by omega) (fun hf => by have := hF i hf; omega)⟩
theorem KeepF.setCell (w : World) (a : Addr) (v : Value) : KeepF (fun k => k = a.block) w (w.setCell a v) :=
  ⟨rfl, rfl, rfl, by simp [World.setCell], fun i hi hn => Below.heap_setCell w a v i hn⟩
theorem KeepF.drewN {F : Nat → Prop} {a b : World} (h : KeepF F a b) (n : Nat) : KeepF F a (b.drewN n) := ⟨h.os, h.tape, h.output, h.size, h.block⟩
theorem KeepF.drew {F : Nat → Prop} {a b : World} (h : KeepF F a b) : KeepF F a b.drew := ⟨h.os, h.tape, h.output, h.size, h.block⟩

/-- a disk's blocks -/
def FD (B K M : Nat) : Nat → Prop := fun k => k = B ∨ k = K ∨ k = M

theorem IsDisk.of_keep {w w' : World} {B K M : Nat} {D : Dsk} {F : Nat → Prop} (h : IsDisk w B K M D) (hk : KeepF F w w') (hB : ¬ F B) (hK : ¬ F K) (hM : ¬ F M) : IsDisk w' B K M D := by
  have l1 : B < w.heap.size := (Array.getElem?_eq_some_iff.1 h.blk).1
  have l2 : K < w.heap.size := (Array.getElem?_eq_some_iff.1 h.kblk).1
  exact ⟨(hk.block _ l1 hB).trans h.blk, (hk.block _ l2 hK).trans h.kblk, h.mp.of_block (hk.block _ h.mp.lt hM), h.bk, h.bm, h.km, h.few, h.secs, h.wsec, h.lft⟩
theorem IsDisk.below {w w' : World} {B K M : Nat} {D : Dsk} (h : IsDisk w B K M D) (hb : Below w.heap.size w w') : IsDisk w' B K M D :=
  h.of_keep (F := fun _ => False) (KeepF.of_below hb) (fun h => h) (fun h => h) (fun h => h)
theorem IsDisk.drewN {w : World} {B K M : Nat} {D : Dsk} (h : IsDisk w B K M D) (n : Nat) : IsDisk (w.drewN n) B K M D := ⟨h.blk, h.kblk, h.mp, h.bk, h.bm, h.km, h.few, h.secs, h.wsec, h.lft⟩
theorem IsDisk.lts {w : World} {B K M : Nat} {D : Dsk} (h : IsDisk w B K M D) : B < w.heap.size ∧ K < w.heap.size ∧ M < w.heap.size :=
  ⟨(Array.getElem?_eq_some_iff.1 h.blk).1, (Array.getElem?_eq_some_iff.1 h.kblk).1, h.mp.lt⟩
theorem cell_row {w : World} {g : Nat} {cs : Array Value} {t : TypeId} {fr : Nat × Nat} (h : w.heap[g]? = some (.cells cs t fr)) (j : Nat) : w.cell? ⟨g, j, none⟩ = cs[j]? := by simp [World.cell?, h]
theorem frozen_row {w : World} {g : Nat} {cs : Array Value} {t : TypeId} (h : w.heap[g]? = some (.cells cs t (0, 0))) (j : Nat) : w.frozen? ⟨g, j, none⟩ = false := by simp [World.frozen?, h]
theorem IsDisk.c0 {w : World} {B K M : Nat} {D : Dsk} (h : IsDisk w B K M D) : w.cell? ⟨B, 0, none⟩ = some (.slice (some ⟨K, 0, none⟩) D.kept.length D.kept.length) := (cell_row h.blk 0).trans rfl
theorem IsDisk.c1 {w : World} {B K M : Nat} {D : Dsk} (h : IsDisk w B K M D) : w.cell? ⟨B, 1, none⟩ = some (.map (some M)) := (cell_row h.blk 1).trans rfl
theorem IsDisk.c2 {w : World} {B K M : Nat} {D : Dsk} (h : IsDisk w B K M D) : w.cell? ⟨B, 2, none⟩ = some (.int .i64 D.left) := (cell_row h.blk 2).trans rfl
theorem IsDisk.fz {w : World} {B K M : Nat} {D : Dsk} (h : IsDisk w B K M D) (j : Nat) : w.frozen? ⟨B, j, none⟩ = false := frozen_row h.blk j
theorem heap_set_same {w : World} {g : Nat} {cs : Array Value} {t : TypeId} (h : w.heap[g]? = some (.cells cs t (0, 0))) (i : Nat) (v : Value) : (w.setCell ⟨g, i, none⟩ v).heap[g]? = some (.cells (cs.setIfInBounds i v) t (0, 0)) :=
  heap_setCell_same w g i cs t v h
theorem IsDisk.setLeft {w : World} {B K M : Nat} {D : Dsk} (h : IsDisk w B K M D) (l : Int) (hl : -1 ≤ l ∧ l ≤ 1048576) : IsDisk (w.setCell ⟨B, 2, none⟩ (.int .i64 l)) B K M { D with left := l } :=
  ⟨(heap_set_same h.blk 2 _).trans rfl, (Below.heap_setCell w _ _ K (Ne.symm h.bk)).trans h.kblk, h.mp.of_block (Below.heap_setCell w _ _ M (Ne.symm h.bm)), h.bk, h.bm, h.km, h.few, h.secs, h.wsec, hl⟩

/-- a call is counted -/
def Dsk.tick (D : Dsk) : Dsk := { D with left := if D.left = 0 then 0 else max (D.left - 1) (-1) }
theorem tick_zero {D : Dsk} (h : D.left = 0) : D.tick = D := by cases D; simp [Dsk.tick] at *; simp [h]

def OffPost (B K M : Nat) (D : Dsk) (w : World) (e : Ending) (w' : World) : Prop := e = .returned (.bool (decide (D.left = 0))) ∧ IsDisk w' B K M D.tick ∧ KeepF (FD B K M) w w'
set_option maxHeartbeats 1000000 in
theorem off_calls (B K M : Nat) (D : Dsk) (w : World) (h : IsDisk w B K M D) : Calls Tryd.prog 62 #[.pointer (some ⟨B, 0, none⟩)] w (OffPost B K M D w) := by
  have c2 := h.c2
  have fz := h.fz 2
  have hl := h.lft
  obtain ⟨l, hle⟩ : ∃ l, D.left = l := ⟨_, rfl⟩
  rw [hle] at c2 hl
  replace h := Aside0.mk h
  by_cases h0 : l = 0
  · subst h0
    have fin : Aside0 (OffPost B K M D w (.returned (.bool true)) w) := ⟨⟨by rw [hle]; rfl, by rw [tick_zero hle]; exact h.out, KeepF.refl _ _⟩⟩
    clear hle
    go_enter Tryd.func62, Tryd.ntmps62
    go_wp2
    go_ret
    exact fin.out
  · have ht : (l == 0) = false := by simpa using h0
    obtain ⟨hl1, hl2⟩ := hl
    by_cases hn : l < 0
    · have fin : Aside0 (OffPost B K M D w (.returned (.bool false)) (w.setCell ⟨B, 2, none⟩ (.int .i64 (-1)))) :=
        ⟨⟨by rw [hle]; simp [h0], by
          have := h.out.setLeft (-1) (by omega)
          have e : D.tick = { D with left := -1 } := by unfold Dsk.tick; rw [hle, if_neg h0, show max (l - 1) (-1) = -1 by omega]
          rw [e]; exact this, (KeepF.setCell _ _ _).mono (fun i hi => .inl hi)⟩⟩
      clear hle
      go_enter Tryd.func62, Tryd.ntmps62
      go_wp2
      go_ret
      exact fin.out
    · have fin : Aside0 (OffPost B K M D w (.returned (.bool false)) (w.setCell ⟨B, 2, none⟩ (.int .i64 (l - 1)))) :=
        ⟨⟨by rw [hle]; simp [h0], by
          have := h.out.setLeft (l - 1) (by omega)
          have e : D.tick = { D with left := l - 1 } := by unfold Dsk.tick; rw [hle, if_neg h0, show max (l - 1) (-1) = l - 1 by omega]
          rw [e]; exact this, (KeepF.setCell _ _ _).mono (fun i hi => .inl hi)⟩⟩
      have h3 : ¬ l - 1 < -1 := by omega
      clear hle
      go_enter Tryd.func62, Tryd.ntmps62
      go_wp2
      go_ret
      exact fin.out

def Dsk.has (D : Dsk) (i : Int) : Bool := decide (0 ≤ i) && decide (i < D.kept.length)
set_option maxHeartbeats 1000000 in
theorem there_calls (B K M : Nat) (D : Dsk) (i : Int) (w : World) (h : IsDisk w B K M D) : Calls Tryd.prog 42 #[.pointer (some ⟨B, 0, none⟩), .int .i64 i] w fun e w' => e = .returned (.bool (D.has i)) ∧ w = w' := by
  have c0 := h.c0
  obtain ⟨n, hn⟩ : ∃ n, D.kept.length = n := ⟨_, rfl⟩
  have hh : Aside0 (D.has i = (decide (0 ≤ i) && decide (i < (n : Int)))) := ⟨by unfold Dsk.has; rw [hn]⟩
  rw [hn] at c0
  clear hn h
  by_cases h0 : 0 ≤ i
  · go_enter Tryd.func42, Tryd.ntmps42
    go_wp2
    go_ret
    exact ⟨by rw [hh.out]; simp [h0], rfl⟩
  · go_enter Tryd.func42, Tryd.ntmps42
    go_wp2
    go_ret
    exact ⟨by rw [hh.out, show decide (0 ≤ i) = false from decide_eq_false (by omega)]; rfl, rfl⟩

def Dsk.arm (D : Dsk) (n : Int) : Dsk := { D with left := max 0 (min n 1048576) }
def ArmPost (B K M : Nat) (D : Dsk) (n : Int) (w : World) (e : Ending) (w' : World) : Prop := e = .returned (.tuple #[]) ∧ IsDisk w' B K M (D.arm n) ∧ KeepF (FD B K M) w w'
set_option maxHeartbeats 1000000 in
theorem Arm_calls (B K M : Nat) (D : Dsk) (n : Int) (w : World) (h : IsDisk w B K M D) : Calls Tryd.prog 25 #[.pointer (some ⟨B, 0, none⟩), .int .i64 n] w (ArmPost B K M D n w) := by
  have c2 := h.c2
  have fz := h.fz 2
  have fin : ∀ l : Int, max 0 (min n 1048576) = l → Aside0 (ArmPost B K M D n w (.returned (.tuple #[])) (w.setCell ⟨B, 2, none⟩ (.int .i64 l))) := by
    intro l hl
    have := h.setLeft l (by omega)
    exact ⟨⟨rfl, by unfold Dsk.arm; rw [hl]; exact this, (KeepF.setCell _ _ _).mono (fun i hi => .inl hi)⟩⟩
  clear h
  by_cases h1 : 1048576 < n
  · replace fin := fin 1048576 (by omega)
    go_enter Tryd.func25, Tryd.ntmps25
    go_wp2
    go_end0
    exact fin.out
  · by_cases h2 : 0 < n
    · replace fin := fin n (by omega)
      go_enter Tryd.func25, Tryd.ntmps25
      go_wp2
      go_end0
      exact fin.out
    · replace fin := fin 0 (by omega)
      go_enter Tryd.func25, Tryd.ntmps25
      go_wp2
      go_end0
      exact fin.out
end Go.Proofs.YtiibfboendnifaaDoor.Dk
