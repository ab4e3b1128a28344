/- Blocks of memory: whole arrays that are made, loaded from and stored into the middle of a block. -/
import Derived.Test.YtpnjhffnlafabaaGreatDoorVBm
import Derived.Laws.CopyOwn
import Derived.StillTailTactics
namespace Go.Proofs.Bk
set_option linter.unusedVariables false
set_option linter.unusedSimpArgs false
open Go.RowKit
section
variable {P : Program} {w : World} {ops : Array Oper} {rest : List Oper} {o : Oper} {a : Act} {Q : Exit → Act → World → Prop} {K : Act → World → Prop}
theorem gate_op (x : Op) (_ : o.op = x) (h : wpList P ops Q (o :: rest) a w) : wpList P ops Q (o :: rest) a w := h
theorem addAt (g off j : Nat) : (⟨g, off, none⟩ : Addr).add j = ⟨g, off + j, none⟩ := by unfold Addr.add; split <;> simp_all
def isAggD (d : TypeDesc) : Bool := match d with | .struct _ | .array _ _ => true | _ => false
theorem run_loadVar_mid (w : World) (ad : Addr) (ty : TypeId) (cs : List Value) (d : TypeDesc) (hc : ∀ j v, cs[j]? = some v → w.cell? (ad.add j) = some v)
    (hu : P.underlying ty = some d) (hd : isAggD d = true) (hi : (P.info? ty).map (·.size) = some cs.length) :
    (loadVar ty ad).run P w = .ok (.agg cs.toArray) w := by
  have hl := run_loadCells_list (P := P) w ad cs hc
  cases hq : P.info? ty with
  | none => simp [hq] at hi
  | some i =>
    have hs : i.size = cs.length := by simpa [hq] using hi
    have hagg : (isAgg ty).run P w = .ok true w := by
      unfold isAgg
      rw [Sem.run_bind, run_underlying hu w]
      cases d <;> simp_all [isAggD]
    simp [loadVar, Sem.run_bind, hagg, sizeOf, typeInfo, hq, hs, hl]
theorem wp_load_midB (ty : TypeId) (x : Operand) (ho : o.op = .load ty x) (ad : Addr) (hx : a.eval x = .pointer (some ad)) (cs : List Value) (d : TypeDesc) (hc : ∀ j v, cs[j]? = some v → w.cell? (ad.add j) = some v)
    (hu : P.underlying ty = some d) (hd : isAggD d = true) (hi : (P.info? ty).map (·.size) = some cs.length) (h : K (a.put o.dst (.agg cs.toArray)) w) : o.wp P a w K Q := by
  unfold Oper.wp execOp
  simp only [ho, hx, Instr.loadAt, Instr.sureAddr, Sem.run_bind, Sem.run_pure, Result.andThen_ok, run_loadVar_mid w ad ty cs d hc hu hd hi]
  exact h
theorem wpList_load_midB (hg : o.guard = none) (ty : TypeId) (x : Operand) (ho : o.op = .load ty x) (ad : Addr) (hx : a.eval x = .pointer (some ad)) (cs : List Value) (d : TypeDesc) (hc : ∀ j v, cs[j]? = some v → w.cell? (ad.add j) = some v)
    (hu : P.underlying ty = some d) (hd : isAggD d = true) (hi : (P.info? ty).map (·.size) = some cs.length) (h : wpList P ops Q rest (a.put o.dst (.agg cs.toArray)) w) : wpList P ops Q (o :: rest) a w :=
  wpList_plain hg fun _ hK => wp_load_midB ty x ho ad hx cs d hc hu hd hi (hK _ _ h)
theorem splice_cons {α : Type} (L : List α) (p : Nat) (v : α) (vs : List α) (h : p < L.length) : splice (L.set p v) (p + 1) vs = splice L p (v :: vs) := by
  unfold splice
  rw [List.take_set_succ_aux L p v h, List.append_assoc]
  congr 1
  rw [List.length_cons, List.drop_set_of_lt _ _ _ _ (by omega), show p + 1 + vs.length = p + (vs.length + 1) by omega]
  rfl
where
  List.take_set_succ_aux {α : Type} (L : List α) (p : Nat) (v : α) (h : p < L.length) : (L.set p v).take (p + 1) = L.take p ++ [v] := by
    rw [List.take_succ_eq_append_getElem (by simpa using h), List.take_set, List.set_eq_of_length_le (by rw [List.length_take]; omega)]
    simp
  List.drop_set_of_lt {α : Type} (L : List α) (p q : Nat) (v : α) (h : p < q) : (L.set p v).drop q = L.drop q := by
    rw [List.drop_set, if_pos h]
theorem run_storeCells_mid (g off : Nat) (t : TypeId) : ∀ (vs : List Value) (i : Nat) (cur : List Value) (w : World), w.heap[g]? = some (.cells cur.toArray t (0, 0)) → off + i + vs.length ≤ cur.length → (∀ v ∈ vs, v.oneCell' = true) →
    (storeCells ⟨g, off, none⟩ vs i).run P w = .ok () (w.setRow g (splice cur (off + i) vs).toArray)
  | [], i, cur, w, hg, hl, h1 => by
    have hlt : g < w.heap.size := (Array.getElem?_eq_some_iff.1 hg).1
    have hv : w.heap[g] = .cells cur.toArray t (0, 0) := (Array.getElem?_eq_some_iff.1 hg).2
    simp only [storeCells]
    show Result.ok () w = _
    congr 1
    unfold World.setRow
    have e : splice cur (off + i) [] = cur := by simp [splice]
    rw [e]
    cases w with
    | mk heap tape drawn os output =>
      congr 1
      apply Array.ext
      · simp
      · intro k h1 h2
        simp only [Array.getElem_modify]
        split
        · rename_i hk; subst hk; simp at hv; simp [hv]
        · rfl
  | v :: vs, i, cur, w, hg, hl, h1 => by
    have hi : off + i < cur.length := by simp at hl; omega
    have hcell : w.cell? ⟨g, off + i, none⟩ = some cur[off + i] := by simp [World.cell?, hg, hi]
    have hfro : w.frozen? ⟨g, off + i, none⟩ = false := by simp [World.frozen?, hg]
    have hst : (store ((⟨g, off, none⟩ : Addr).add i) v).run P w = .ok () (w.setRow g (cur.set (off + i) v).toArray) := by
      rw [addAt, run_store P w _ v _ (h1 v (by simp)), hcell]
      simp [hfro, setCell_eq_setRow w g (off + i) cur.toArray t (0, 0) v hg]
    have ih := run_storeCells_mid g off t vs (i + 1) (cur.set (off + i) v) (w.setRow g (cur.set (off + i) v).toArray) (setRow_heap w g _ _ t _ hg) (by simp at hl ⊢; omega) (fun x hx => h1 x (by simp [hx]))
    simp only [storeCells, Sem.run_bind, hst, Result.andThen_ok, ih, setRow_setRow]
    rw [show off + (i + 1) = off + i + 1 by omega, splice_cons cur (off + i) v vs hi]
theorem run_storeVar_mid (w : World) (g off : Nat) (t ty : TypeId) (cur cells : List Value) (hg : w.heap[g]? = some (.cells cur.toArray t (0, 0))) (hi : (P.info? ty).map (·.size) = some cells.length)
    (hf : off + cells.length ≤ cur.length) (h1 : ∀ v ∈ cells, v.oneCell' = true) :
    (storeVar ty ⟨g, off, none⟩ (.agg cells.toArray)).run P w = .ok () (w.setRow g (splice cur off cells).toArray) := by
  have := run_storeCells_mid (P := P) g off t cells 0 cur w hg (by omega) h1
  cases hq : P.info? ty with
  | none => simp [hq] at hi
  | some i =>
    have hs : cells.length = i.size := by simp [hq] at hi; omega
    simp [storeVar, sizeOf, typeInfo, hq, Value.cells, hs, this]
theorem wp_store_midB (ty : TypeId) (x y : Operand) (ho : o.op = .store ty x y) (g off : Nat) (cells : List Value) (hx : a.eval x = .pointer (some ⟨g, off, none⟩)) (hy : a.eval y = .agg cells.toArray)
    (t : TypeId) (cur : List Value) (hg : w.heap[g]? = some (.cells cur.toArray t (0, 0))) (hi : (P.info? ty).map (·.size) = some cells.length) (hf : off + cells.length ≤ cur.length) (h1 : ∀ v ∈ cells, v.oneCell' = true)
    (h : K (a.put o.dst undef) (w.setRow g (splice cur off cells).toArray)) : o.wp P a w K Q := by
  unfold Oper.wp execOp
  simp only [ho, hx, hy, Instr.storeAt, Instr.sureAddr, Sem.run_bind, Sem.run_pure, Result.andThen_ok, run_storeVar_mid w g off t ty cur cells hg hi hf h1]
  exact h
theorem wpList_store_midB (hgd : o.guard = none) (ty : TypeId) (x y : Operand) (ho : o.op = .store ty x y) (g off : Nat) (cells : List Value) (hx : a.eval x = .pointer (some ⟨g, off, none⟩)) (hy : a.eval y = .agg cells.toArray)
    (t : TypeId) (cur : List Value) (hg : w.heap[g]? = some (.cells cur.toArray t (0, 0))) (hi : (P.info? ty).map (·.size) = some cells.length) (hf : off + cells.length ≤ cur.length) (h1 : ∀ v ∈ cells, v.oneCell' = true)
    (h : wpList P ops Q rest (a.put o.dst undef) (w.setRow g (splice cur off cells).toArray)) : wpList P ops Q (o :: rest) a w :=
  wpList_plain hgd fun _ hK => wp_store_midB ty x y ho g off cells hx hy t cur hg hi hf h1 (hK _ _ h)
end
section still
variable {P : Program} {w : World} {ops : Array Oper} {rest : List Oper} {o : Oper} {a : Act} {Q : Act → Prop}
theorem wpStill_value (hg : o.guard = none) {v : Value} (hrun : (execOp a.eval o).run P w = .ok (.value v) w) (h : wpStill P ops w Q rest (a.put o.dst v)) : wpStill P ops w Q (o :: rest) a := by
  unfold wpStill
  rw [if_pos (by simp [Region.wanted, hg])]
  unfold Oper.still
  rw [hrun]
  exact ⟨rfl, h⟩
theorem wpStill_load_cells (hg : o.guard = none) (ty : TypeId) (x : Operand) (ho : o.op = .load ty x) (ad : Addr) (hx : a.eval x = .pointer (some ad)) (cs : List Value) (d : TypeDesc) (hc : ∀ j v, cs[j]? = some v → w.cell? (ad.add j) = some v)
    (hu : P.underlying ty = some d) (hd : isAggD d = true) (hi : (P.info? ty).map (·.size) = some cs.length) (h : wpStill P ops w Q rest (a.put o.dst (.agg cs.toArray))) : wpStill P ops w Q (o :: rest) a := by
  refine wpStill_value hg ?_ h
  unfold execOp
  simp only [ho, hx, Instr.loadAt, Instr.sureAddr, Sem.run_bind, Sem.run_pure, Result.andThen_ok, run_loadVar_mid w ad ty cs d hc hu hd hi]
end still
theorem cells_row {w : World} {g : Nat} {cs : List Value} {t : TypeId} {fr : Nat × Nat} (h : w.heap[g]? = some (.cells cs.toArray t fr)) : ∀ j v, cs[j]? = some v → w.cell? ((⟨g, 0, none⟩ : Addr).add j) = some v := by
  intro j v hj
  rw [addAt, Nat.zero_add]
  simp [World.cell?, h]
  exact hj
theorem heap_alloc_same (w : World) (o : Obj) : (w.alloc o).heap[w.heap.size]? = some o := by
  show (w.heap.push o)[w.heap.size]? = _
  rw [Array.getElem?_push, if_pos rfl]
theorem setRow_size (w : World) (g : Nat) (cs : Array Value) : (w.setRow g cs).heap.size = w.heap.size := by simp [World.setRow]
theorem splice_all {α : Type} (L cs : List α) (h : cs.length = L.length) : splice L 0 cs = cs := by simp [splice, h]
end Go.Proofs.Bk
