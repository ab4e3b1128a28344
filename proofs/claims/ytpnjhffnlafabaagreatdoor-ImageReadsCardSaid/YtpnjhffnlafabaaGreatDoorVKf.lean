/- What stays of a world but for some blocks; a struct in a block of its own. -/
import Derived.Test.YtpnjhffnlafabaaGreatDoorVBk
import Derived.Test.YtpnjhffnlafabaaGreatDoorVBi
import Derived.Test.YtpnjhffnlafabaaGreatDoorVW
namespace Go.Proofs.Kf
set_option linter.unusedVariables false
set_option linter.unusedSimpArgs false
open Go.RowKit Go.Proofs.Bk Go.Proofs.Bm Go.Proofs.YtpnjhffnlafabaaGreatDoorW.PrintWords
structure KeepF (F : Nat → Prop) (w w' : World) : Prop where
  os : w'.os = w.os
  tape : w'.tape = w.tape
  output : w'.output = w.output
  size : w.heap.size ≤ w'.heap.size
  block : ∀ k, k < w.heap.size → ¬ F k → w'.heap[k]? = w.heap[k]?
theorem KeepF.refl (F : Nat → Prop) (w : World) : KeepF F w w := ⟨rfl, rfl, rfl, Nat.le_refl _, fun _ _ _ => rfl⟩
theorem KeepF.trans {F F' : Nat → Prop} {a b c : World} (h : KeepF F a b) (k : KeepF F' b c) (hF : ∀ i, i < a.heap.size → F' i → F i) : KeepF F a c :=
  ⟨k.os.trans h.os, k.tape.trans h.tape, k.output.trans h.output, Nat.le_trans h.size k.size, fun i hi hn => (k.block i (Nat.lt_of_lt_of_le hi h.size) (fun hf => hn (hF i hi hf))).trans (h.block i hi hn)⟩
theorem KeepF.mono {F F' : Nat → Prop} {a b : World} (h : KeepF F a b) (hF : ∀ i, F i → F' i) : KeepF F' a b := ⟨h.os, h.tape, h.output, h.size, fun i hi hn => h.block i hi (fun hf => hn (hF i hf))⟩
theorem KeepF.of_below {F : Nat → Prop} {a b : World} (h : Below a.heap.size a b) : KeepF F a b := ⟨h.os, h.tape, h.output, h.size, fun i hi _ => h.block i hi⟩
theorem KeepF.to_below {F : Nat → Prop} {base : Nat} {a b : World} (h : KeepF F a b) (hb : base ≤ a.heap.size) (hF : ∀ i, F i → base ≤ i) : Below base a b :=
  ⟨h.os, h.tape, h.output, h.size, fun i hi => h.block i (by omega) (fun hf => by have := hF i hf; omega)⟩
theorem KeepF.drewN {F : Nat → Prop} {a b : World} (h : KeepF F a b) (n : Nat) : KeepF F a (b.drewN n) := ⟨h.os, h.tape, h.output, h.size, h.block⟩
theorem KeepF.drew {F : Nat → Prop} {a b : World} (h : KeepF F a b) : KeepF F a b.drew := ⟨h.os, h.tape, h.output, h.size, h.block⟩
theorem KeepF.of_grown {w w1 : World} {row : Option Nat} (hg : w.grownBy w1 row) : KeepF (fun k => some k = row) w w1 := ⟨hg.os, hg.tape, hg.output, hg.size, fun k hk hn => hg.block k hk hn⟩
theorem KeepF.bset (w : World) (b : Nat) (o : Obj) : KeepF (fun k => k = b) w (bset w b o) := ⟨rfl, rfl, rfl, by rw [bset_size]; exact Nat.le_refl _, fun i hi hn => bset_other w hn o⟩
theorem KeepF.setRow (w : World) (g : Nat) (cs : Array Value) : KeepF (fun k => k = g) w (w.setRow g cs) := ⟨rfl, rfl, rfl, by rw [setRow_size]; exact Nat.le_refl _, fun i hi hn => by
  unfold World.setRow; simp [Array.getElem?_modify, Ne.symm hn]⟩
theorem keepF_cell {F : Nat → Prop} {w w' : World} (h : KeepF F w w') {a : Addr} {v : Value} (hc : w.cell? a = some v) (hn : ¬ F a.block) : w'.cell? a = some v := by
  have hl := World.block_lt_of_cell? w _ hc
  unfold World.cell? at hc ⊢
  rw [h.block _ hl hn]; exact hc
theorem cell_row {w : World} {g : Nat} {cs : Array Value} {t : TypeId} {fr : Nat × Nat} (h : w.heap[g]? = some (.cells cs t fr)) (j : Nat) : w.cell? ⟨g, j, none⟩ = cs[j]? := by simp [World.cell?, h]
theorem frozen_row {w : World} {g : Nat} {cs : Array Value} {t : TypeId} (h : w.heap[g]? = some (.cells cs t (0, 0))) (j : Nat) : w.frozen? ⟨g, j, none⟩ = false := by simp [World.frozen?, h]
theorem lt_row {w : World} {g : Nat} {o : Obj} (h : w.heap[g]? = some o) : g < w.heap.size := (Array.getElem?_eq_some_iff.1 h).1
theorem row_below {w w1 : World} {g : Nat} {o : Obj} (hb : Below w.heap.size w w1) (h : w.heap[g]? = some o) : w1.heap[g]? = some o := (hb.block g (lt_row h)).trans h
theorem boxed {W wb : World} {gb : Nat} {cs cs2 : List Value} {t : TypeId} (hgb : gb = W.heap.size) (hbk : wb.heap[gb]? = some (.cells cs.toArray t (0, 0))) (hbb : Below W.heap.size W wb) (hl : cs2.length = cs.length) :
    (wb.setRow gb (splice cs 0 cs2).toArray).heap[gb]? = some (.cells cs2.toArray t (0, 0)) ∧ Below W.heap.size W (wb.setRow gb (splice cs 0 cs2).toArray) := by
  rw [splice_all _ _ hl]
  refine ⟨setRow_heap _ _ _ _ _ _ hbk, ?_⟩
  have h1 := KeepF.setRow wb gb cs2.toArray
  exact ⟨h1.os.trans hbb.os, h1.tape.trans hbb.tape, h1.output.trans hbb.output, Nat.le_trans hbb.size h1.size, fun k hk => (h1.block k (Nat.lt_of_lt_of_le hk hbb.size) (by omega)).trans (hbb.block k hk)⟩
section
variable {P : Program} {W : World} {ops : Array Oper} {rest : List Oper} {o : Oper} {a : Act} {Q : Exit → Act → World → Prop}
theorem mkmap_event (hgd : o.guard = none) {N : Tmp} (_hd : o.dst = some N) (t : TypeId) (ho : o.op = .makeMap t none)
    (h : ∀ g, g = W.heap.size → ∀ w1, w1.heap[g]? = some (.map #[] 0) → Below W.heap.size W w1 → wpList P ops Q rest (a.put o.dst (.map (some g))) w1) : wpList P ops Q (o :: rest) a W := by
  refine Kd.event_run hgd (w1 := W.alloc (.map #[] 0)) ?_ (h _ rfl _ (heap_alloc_same W _) (below_alloc (Below.refl _ _) _))
  unfold execOp
  simp only [ho]
  rfl
theorem IMap.new {α : Type} {q : IntKind} {enc : α → Value} {w : World} {g : Nat} (h : w.heap[g]? = some (.map #[] 0)) : IMap q enc w g [] := ⟨#[], 0, h, rfl, by simp, by simp, by simp⟩
theorem setCell_row {w : World} {g : Nat} {cs : Array Value} {t : TypeId} (h : w.heap[g]? = some (.cells cs t (0, 0))) (i : Nat) (v : Value) : (w.setCell ⟨g, i, none⟩ v).heap[g]? = some (.cells (cs.setIfInBounds i v) t (0, 0)) := heap_setCell_same w g i cs t v h
theorem KeepF.setCell (w : World) (a : Addr) (v : Value) : KeepF (fun k => k = a.block) w (w.setCell a v) :=
  ⟨rfl, rfl, rfl, by simp [World.setCell], fun i hi hn => Below.heap_setCell w a v i hn⟩
end
end Go.Proofs.Kf
