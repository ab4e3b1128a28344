/- The disk of package disk: what its calls do to it. -/
import Derived.Test.YtiibfboendnifaaDoorProg
import Derived.KernelRfl
import Derived.Test.YtiibfboendnifaaDoorBm
import Derived.Test.YtiibfboendnifaaDoorOp
import Derived.WalkSpells
import Derived.WalkLawsBesides
namespace Go.Proofs.YtiibfboendnifaaDoor.Dk
set_option linter.unusedVariables false
set_option linter.unusedSimpArgs false
open Go.RowKit Go.Proofs.Bm Go.Proofs.YtiibfboendnifaaDoorW.PrintWords

theorem heap_get (w : World) (o : Obj) (i : Nat) : (w.alloc o).heap[i]? = if i = w.heap.size then some o else w.heap[i]? := by
  show (w.heap.push o)[i]? = _
  rw [Array.getElem?_push]

structure Dsk where
  kept : List (List Int)
  waits : List (Int × List Int)
  left : Int

def byt (s : List Int) : List Value := s.map (Value.int .u8)
def secV (s : List Int) : Value := .agg (byt s).toArray
def keptCells (k : List (List Int)) : List Value := (k.map byt).flatten
def Sec (s : List Int) : Prop := s.length = 64 ∧ ∀ x ∈ s, 0 ≤ x ∧ x ≤ 255
def zeros : List Int := List.replicate 64 0
theorem Sec_zeros : Sec zeros := ⟨by simp [zeros], fun x hx => by rw [zeros] at hx; have := (List.mem_replicate.1 hx).2; omega⟩

structure IsDisk (w : World) (B K M : Nat) (D : Dsk) : Prop where
  blk : w.heap[B]? = some (.cells #[.slice (some ⟨K, 0, none⟩) D.kept.length D.kept.length, .map (some M), .int .i64 D.left] 70 (0, 0))
  kblk : w.heap[K]? = some (.cells (keptCells D.kept).toArray 84 (0, 0))
  mp : IMap .i64 secV w M D.waits
  bk : B ≠ K
  bm : B ≠ M
  km : K ≠ M
  few : D.kept.length ≤ 512
  secs : ∀ s ∈ D.kept, Sec s
  wsec : ∀ p ∈ D.waits, Sec p.2 ∧ 0 ≤ p.1 ∧ p.1 < D.kept.length
  lft : -1 ≤ D.left ∧ D.left ≤ 1048576

theorem info_sector : (Tryd.prog.info? 84).map (fun i => (i.zero, i.size, i.bytes)) = some (some (.agg (Array.replicate 64 (.int .u8 0))), 64, 64) := by kernel_rfl
theorem flatten_replicate (m : Nat) : (List.replicate m (byt zeros)).flatten = List.replicate (m * 64) (.int .u8 0) := by
  induction m with
  | zero => rfl
  | succ m ih =>
    rw [List.replicate_succ, List.flatten_cons, ih, show byt zeros = List.replicate 64 (.int .u8 0) by simp [byt, zeros], List.replicate_append_replicate]
    congr 1; omega
theorem made_kept (m : Nat) : madeCells (Array.replicate 64 (Value.int .u8 0)) (m * 64) = (keptCells (List.replicate m zeros)).toArray := by
  unfold keptCells
  rw [List.map_replicate, flatten_replicate]
  unfold madeCells
  apply Array.ext
  · simp
  · intro i h1 h2
    have hi : i % 64 < 64 := Nat.mod_lt _ (by omega)
    simp [hi]
theorem run_makeKept (m : Nat) (hm : m ≤ 512) (w : World) : (Instr.makeSlice 67 (.int .i64 m) (.int .i64 m)).run Tryd.prog w = .ok (.slice (some ⟨w.heap.size, 0, none⟩) m m) (w.alloc (.cells (keptCells (List.replicate m zeros)).toArray 84)) := by
  obtain ⟨i, hi, hz⟩ := Option.map_eq_some_iff.1 info_sector
  simp only [Prod.mk.injEq] at hz
  obtain ⟨hz0, hz1, hz2⟩ := hz
  have h := run_makeSlice (P := Tryd.prog) w 67 84 i _ Tryd.underlying67 hi hz0 .i64 .i64 m m (by omega) (by omega) (by rw [hz1]; omega) (by rw [hz2]; omega) (by omega)
  rw [h, Int.toNat_natCast, hz1, show (Value.agg (Array.replicate 64 (Value.int .u8 0))).cells = Array.replicate 64 (Value.int .u8 0) from rfl, made_kept]

def NewPost (n : Int) (w : World) (e : Ending) (w' : World) : Prop := ∃ B K M, e = .returned (.pointer (some ⟨B, 0, none⟩)) ∧ IsDisk w' B K M ⟨List.replicate (max 0 (min n 512)).toNat zeros, [], -1⟩ ∧ w.heap.size ≤ B ∧ w.heap.size ≤ K ∧ w.heap.size ≤ M ∧ Below w.heap.size w w'
set_option maxHeartbeats 1000000 in
theorem New_calls (n : Int) (w : World) : Calls Tryd.prog 11 #[.int .i64 n] w (NewPost n w) := by
  have hmm := @run_makeMap Tryd.prog
  have key : ∀ m : Nat, m ≤ 512 → (max 0 (min n 512)).toNat = m → ∀ w0 : World, w0 = ((w.alloc (.cells (keptCells (List.replicate m zeros)).toArray 84)).alloc (.map #[] 0)).alloc (.cells #[.slice (some ⟨w.heap.size, 0, none⟩) m m, .map (some (w.heap.size + 1)), .int .i64 (-1)] 70) →
      IsDisk w0 (w.heap.size + 2) w.heap.size (w.heap.size + 1) ⟨List.replicate (max 0 (min n 512)).toNat zeros, [], -1⟩ ∧ Below w.heap.size w w0 := by
    rintro m hm hmn w0 rfl
    rw [hmn]
    refine ⟨⟨?_, ?_, ?_, by omega, by omega, by omega, by simpa using hm, ?_, by simp, by simp⟩, below_alloc (below_alloc (below_alloc (Below.refl _ _) _) _) _⟩
    · rw [heap_get, if_pos (by simp)]; simp
    · rw [heap_get, if_neg (by simp; omega), heap_get, if_neg (by simp), heap_get, if_pos rfl]
    · refine ⟨#[], 0, ?_, rfl, by simp, by simp, by simp⟩
      rw [heap_get, if_neg (by simp), heap_get, if_pos (by simp)]
    · intro s hs
      rw [(List.mem_replicate.1 hs).2]; exact Sec_zeros
  have fin : ∀ m : Nat, m ≤ 512 → (max 0 (min n 512)).toNat = m → ∀ (e : Ending) (w0 : World), e = .returned (.pointer (some ⟨w.heap.size + 2, 0, none⟩)) → w0 = ((w.alloc (.cells (keptCells (List.replicate m zeros)).toArray 84)).alloc (.map #[] 0)).alloc (.cells #[.slice (some ⟨w.heap.size, 0, none⟩) m m, .map (some (w.heap.size + 1)), .int .i64 (-1)] 70) →
      NewPost n w e w0 := by
    intro m hm hmn e w0 he hw
    obtain ⟨h1, h2⟩ := key m hm hmn w0 hw
    exact ⟨_, _, _, he, h1, by omega, by omega, by omega, h2⟩
  clear key
  replace fin := Aside0.mk fin
  by_cases h1 : 512 < n
  · obtain ⟨m, hm⟩ : ∃ m : Nat, m = 512 := ⟨_, rfl⟩
    have hmk := run_makeKept m (by omega) w
    rw [show (m : Int) = 512 by omega] at hmk
    replace hm := Aside0.mk hm
    go_enter Tryd.func11, Tryd.ntmps11
    go_wp2
    go_ret
    exact fin.out m (by have := hm.out; omega) (by have := hm.out; omega) _ _ rfl rfl
  · by_cases h2 : n < 0
    · have hmk := run_makeKept 0 (by omega) w
      rw [show ((0 : Nat) : Int) = 0 from rfl] at hmk
      go_enter Tryd.func11, Tryd.ntmps11
      go_wp2
      go_ret
      exact fin.out 0 (by omega) (by omega) _ _ rfl rfl
    · obtain ⟨m, rfl⟩ : ∃ m : Nat, n = m := ⟨n.toNat, by omega⟩
      have hmk := run_makeKept m (by omega) w
      by_cases h3 : 0 < m
      · go_enter Tryd.func11, Tryd.ntmps11
        go_wp2
        go_ret
        exact fin.out m (by omega) (by omega) _ _ rfl rfl
      · obtain rfl : m = 0 := by omega
        rw [show ((0 : Nat) : Int) = 0 from rfl] at hmk ⊢
        go_enter Tryd.func11, Tryd.ntmps11
        go_wp2
        go_ret
        exact fin.out 0 (by omega) (by omega) _ _ rfl rfl
end Go.Proofs.YtiibfboendnifaaDoor.Dk
