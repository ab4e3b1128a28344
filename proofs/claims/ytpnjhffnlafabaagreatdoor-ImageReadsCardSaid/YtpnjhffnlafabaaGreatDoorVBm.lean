/- Maps with int keys as lists of pairs: what the operations on such a map do. -/
import Derived.Maps.OwnOps
import Derived.Maps.OwnSet
import Derived.WalkKit
namespace Go.Proofs.Bm
set_option linter.unusedVariables false
set_option linter.unusedSimpArgs false
open Go.RowKit
section plain
variable {α : Type}
def aget (l : List (Int × α)) (k : Int) : Option α := (l.find? fun p => p.1 == k).map (·.2)
def aset : List (Int × α) → Int → α → List (Int × α)
  | [], k, v => [(k, v)]
  | p :: l, k, v => if p.1 = k then (k, v) :: l else p :: aset l k v
theorem aget_nil (k : Int) : aget ([] : List (Int × α)) k = none := rfl
theorem aget_cons (p : Int × α) (l : List (Int × α)) (k : Int) : aget (p :: l) k = if p.1 = k then some p.2 else aget l k := by
  unfold aget; rw [List.find?_cons]
  by_cases h : p.1 = k
  · simp [h]
  · rw [if_neg h, show (p.1 == k) = false by simpa using h]
theorem aget_aset (l : List (Int × α)) (k j : Int) (v : α) : aget (aset l k v) j = if j = k then some v else aget l j := by
  induction l with
  | nil => simp only [aset, aget_cons, aget_nil]; exact ite_congr (propext eq_comm) (fun _ => rfl) (fun _ => rfl)
  | cons p l ih =>
    unfold aset
    by_cases h : p.1 = k
    · rw [if_pos h, aget_cons, aget_cons]; subst h; by_cases h2 : j = p.1 <;> simp [h2, eq_comm]
    · rw [if_neg h, aget_cons, aget_cons, ih]
      by_cases h2 : p.1 = j
      · subst h2; simp [h]
      · simp [h2]
theorem keys_aset (l : List (Int × α)) (k : Int) (v : α) : (aset l k v).map (·.1) = if (aget l k).isSome then l.map (·.1) else l.map (·.1) ++ [k] := by
  induction l with
  | nil => simp [aset, aget_nil]
  | cons p l ih =>
    unfold aset
    by_cases h : p.1 = k
    · rw [if_pos h, aget_cons, if_pos h]; simp [h]
    · rw [if_neg h, aget_cons, if_neg h, List.map_cons, ih]; by_cases h2 : (aget l k).isSome <;> simp [h2]
theorem aget_none_iff (l : List (Int × α)) (k : Int) : aget l k = none ↔ k ∉ l.map (·.1) := by
  induction l with
  | nil => simp [aget_nil]
  | cons p l ih =>
    rw [aget_cons, List.map_cons, List.mem_cons]
    by_cases h : p.1 = k
    · simp [h]
    · rw [if_neg h, ih]; exact ⟨fun h1 h2 => h2.elim (fun e => h e.symm) h1, fun h1 h2 => h1 (.inr h2)⟩
theorem nodup_aset {l : List (Int × α)} (h : (l.map (·.1)).Nodup) (k : Int) (v : α) : ((aset l k v).map (·.1)).Nodup := by
  rw [keys_aset]
  split
  · exact h
  · rename_i hn
    have : aget l k = none := by simpa using hn
    rw [List.nodup_append]
    refine ⟨h, by simp, ?_⟩
    intro a ha b hb; simp at hb; subst hb; intro e; subst e; exact (aget_none_iff l a).1 this ha
end plain
section world
variable {α : Type} {enc : α → Value} {P : Program} {w : World} {b : Nat} {l : List (Int × α)} {t kt et : TypeId} {q : IntKind}
def IMap (q : IntKind) (enc : α → Value) (w : World) (b : Nat) (l : List (Int × α)) : Prop :=
  ∃ es clock, w.heap[b]? = some (.map es clock) ∧ es.toList.map (fun e => (e.key, e.val)) = l.map (fun p => (Value.int q p.1, enc p.2)) ∧
    (es.toList.map (·.born)).Pairwise (· < ·) ∧ (∀ e ∈ es.toList, e.born < clock) ∧ (l.map (·.1)).Nodup
theorem IMap.lt (h : IMap q enc w b l) : b < w.heap.size := by
  obtain ⟨es, c, hb, _⟩ := h; exact (Array.getElem?_eq_some_iff.1 hb).1
theorem IMap.of_block {w' : World} (h : IMap q enc w b l) (hb : w'.heap[b]? = w.heap[b]?) : IMap q enc w' b l := by
  obtain ⟨es, c, h1, r⟩ := h; exact ⟨es, c, hb.trans h1, r⟩
theorem IMap.nodup (h : IMap q enc w b l) : (l.map (·.1)).Nodup := by obtain ⟨_, _, _, _, _, _, r⟩ := h; exact r
theorem findNow_spec (k : Int) : ∀ (es : List MapEntry) (l : List (Int × α)) (i : Nat), es.map (fun e => (e.key, e.val)) = l.map (fun p => (Value.int q p.1, enc p.2)) →
    Instr.findNow (.int q) (.int q k) es i = some (((l.findIdx? fun p => p.1 == k).bind fun j => (l[j]?).map fun p => (i + j, enc p.2)))
  | [], [], i, _ => rfl
  | [], _ :: _, _, h => by simp at h
  | _ :: _, [], _, h => by simp at h
  | e :: es, p :: l, i, h => by
    rw [List.map_cons, List.map_cons, List.cons.injEq, Prod.mk.injEq] at h
    obtain ⟨⟨hk, hv⟩, hr⟩ := h
    unfold Instr.findNow
    rw [hk, hv]
    simp only [Instr.sameNow, if_true]
    rw [List.findIdx?_cons]
    by_cases e1 : p.1 = k
    · subst e1; simp
    · have e2 : (k == p.1) = false := by simpa using fun e => e1 e.symm
      have e3 : (p.1 == k) = false := by simpa using e1
      rw [e2, e3, findNow_spec k es l (i + 1) hr]
      cases hf : l.findIdx? (fun p => p.1 == k) with
      | none => rfl
      | some j => simp; cases l[j]? <;> simp; omega
theorem run_checkKey_int (hk : P.underlying kt = some (.int q)) (e : Bool) (v : Value) : (Instr.checkKey e 10000 kt v).run P w = .ok () w := by
  rw [show (10000 : Nat) = 9999 + 1 from rfl]; unfold Instr.checkKey; simp [run_underlying hk]
theorem run_findKey_int (hk : P.underlying kt = some (.int q)) (k : Int) {es : List MapEntry} (h : es.map (fun e => (e.key, e.val)) = l.map (fun p => (Value.int q p.1, enc p.2))) :
    (Instr.findKey kt (.int q k) es).run P w = .ok ((l.findIdx? fun p => p.1 == k).bind fun j => (l[j]?).map fun p => (j, enc p.2)) w := by
  unfold Instr.findKey
  simp [run_underlying hk, findNow_spec k es l 0 h]
theorem find_idx (l : List (Int × α)) (k : Int) : ((l.findIdx? fun p => p.1 == k).bind fun j => (l[j]?).map fun p => (j, enc p.2)).map (·.2) = (aget l k).map enc := by
  induction l with
  | nil => rfl
  | cons p l ih =>
    rw [aget_cons, List.findIdx?_cons]
    by_cases e1 : p.1 = k
    · subst e1; simp
    · have e3 : (p.1 == k) = false := by simpa using e1
      rw [e3, if_neg e1, ← ih]
      cases (l.findIdx? fun p => p.1 == k) with
      | none => rfl
      | some j => simp; cases l[j]? <;> simp
theorem run_lookup_imap (ht : P.underlying t = some (.map kt et)) (hk : P.underlying kt = some (.int q)) {z : Value} (hz : (zeroValue et).run P w = .ok z w) (h : IMap q enc w b l) (k : Int) :
    (Instr.lookup t (.map (some b)) (.int q k) false).run P w = .ok (((aget l k).map enc).getD z) w := by
  obtain ⟨es, c, hb, hl, _⟩ := h
  have := find_idx (enc := enc) l k
  simp [Instr.lookup, run_underlying ht, MapKept.run_getObj_map hb, run_checkKey_int hk, run_findKey_int hk k hl]
  rw [← this]
  cases hf : ((l.findIdx? fun p => p.1 == k).bind fun j => (l[j]?).map fun p => (j, enc p.2)) with
  | none => simp [hz]
  | some p => simp
theorem map_erase {β γ : Type} (f : β → γ) : ∀ (l : List β) (j : Nat), (l.eraseIdx j).map f = (l.map f).eraseIdx j
  | [], _ => by simp
  | _ :: _, 0 => by simp
  | x :: l, j + 1 => by simp [map_erase f l j]
theorem sameBits_int (n : Nat) (q : IntKind) (k : Int) : Instr.sameBits n (.int q k) (.int q k) = true := by
  cases n <;> simp [Instr.sameBits]
theorem aset_idx (l : List (Int × α)) (k : Int) (v : α) :
    aset l k v = match l.findIdx? fun p => p.1 == k with | some j => l.set j (k, v) | none => l ++ [(k, v)] := by
  induction l with
  | nil => rfl
  | cons p l ih =>
    unfold aset; rw [List.findIdx?_cons]
    by_cases e1 : p.1 = k
    · rw [if_pos e1]; simp [e1]
    · have e3 : (p.1 == k) = false := by simpa using e1
      rw [if_neg e1, e3, ih]
      cases (l.findIdx? fun p => p.1 == k) <;> rfl
theorem idx_lt {l : List (Int × α)} {k : Int} {j : Nat} (h : (l.findIdx? fun p => p.1 == k) = some j) : ∃ hj : j < l.length, l[j].1 = k := by
  obtain ⟨h1, h2, _⟩ := List.findIdx?_eq_some_iff_getElem.1 h
  exact ⟨h1, by simpa using h2⟩
def bset (w : World) (b : Nat) (o : Obj) : World := { w with heap := w.heap.setIfInBounds b o }
theorem bset_same (w : World) {b : Nat} (hb : b < w.heap.size) (o : Obj) : (bset w b o).heap[b]? = some o := by simp [bset, hb]
theorem bset_other (w : World) {b i : Nat} (h : i ≠ b) (o : Obj) : (bset w b o).heap[i]? = w.heap[i]? := by
  simp [bset, Ne.symm h]
theorem bset_size (w : World) (b : Nat) (o : Obj) : (bset w b o).heap.size = w.heap.size := by simp [bset]
theorem run_setObj_bset {es : Array MapEntry} {c : Nat} (hb : w.heap[b]? = some (.map es c)) (o : Obj) : (setObj b o).run P w = .ok () (bset w b o) := by
  simp [setObj, Sem.run, hb, bset]
theorem run_mapUpdate_imap (ht : P.underlying t = some (.map kt et)) (hk : P.underlying kt = some (.int q)) (h : IMap q enc w b l) (k : Int) (v : α) :
    ∃ o, (Instr.mapUpdate t (.map (some b)) (.int q k) (enc v)).run P w = .ok () (bset w b o) ∧ IMap q enc (bset w b o) b (aset l k v) := by
  have hlt := h.lt
  obtain ⟨es, c, hb, hl, hp, hc, hn⟩ := h
  have hf := run_findKey_int (w := w) hk k hl
  have hlen : es.toList.length = l.length := by have := congrArg List.length hl; simpa using this
  cases hi : (l.findIdx? fun p => p.1 == k) with
  | none =>
    rw [hi] at hf; simp only [Option.bind_none] at hf
    refine ⟨.map (es.push ⟨.int q k, enc v, c⟩) (c + 1), ?_, ?_⟩
    · simp [Instr.mapUpdate, run_underlying ht, MapKept.run_getObj_map hb, run_checkKey_int hk, hf, run_setObj_bset hb]
    · refine ⟨_, _, bset_same w hlt _, ?_, ?_, ?_, nodup_aset hn k v⟩
      · rw [aset_idx, hi]; simp [hl]
      · rw [Array.toList_push, List.map_append, List.pairwise_append]
        refine ⟨hp, by simp, ?_⟩
        intro a ha b' hb'
        simp at hb'; subst hb'
        obtain ⟨e, he, rfl⟩ := List.mem_map.1 ha
        exact hc e he
      · intro e he
        rw [Array.toList_push, List.mem_append, List.mem_singleton] at he
        rcases he with he | rfl
        · have := hc e he; omega
        · simp
  | some j =>
    obtain ⟨hj, hjk⟩ := idx_lt hi
    rw [hi] at hf; simp only [Option.bind_some, List.getElem?_eq_getElem hj, Option.map_some] at hf
    have hj' : j < es.toList.length := by omega
    have hj2 : j < es.size := by simpa using hj'
    have hkey : (es[j]'hj2).key = .int q k := by
      have := congrArg (fun x => x[j]?) hl
      simp only [List.getElem?_map, List.getElem?_eq_getElem hj', List.getElem?_eq_getElem hj, Option.map_some, Option.some.injEq, Prod.mk.injEq] at this
      rw [← hjk, ← this.1]; rfl
    have hes : (es.modify j fun e => { e with key := .int q k, val := enc v }).toList = es.toList.set j { key := .int q k, val := enc v, born := (es[j]'hj2).born } := by
      rw [Array.toList_modify]
      refine List.ext_getElem? fun i => ?_
      rw [List.getElem?_modify, List.getElem?_set]
      by_cases e : j = i
      · subst e; simp [hj2]
      · simp [e]
    refine ⟨.map (es.modify j fun e => { e with key := .int q k, val := enc v }) c, ?_, ?_⟩
    · simp [Instr.mapUpdate, run_underlying ht, MapKept.run_getObj_map hb, run_checkKey_int hk, hf, run_setObj_bset hb, Instr.keyThatStays, hj2, hkey, sameBits_int]
    · have hborn : (es.toList.set j { key := Value.int q k, val := enc v, born := (es[j]'hj2).born }).map (·.born) = es.toList.map (·.born) := by
        rw [List.map_set]; refine List.ext_getElem? fun i => ?_
        rw [List.getElem?_set]; split
        · rename_i e; subst e; simp [hj2]
        · rfl
      refine ⟨_, _, bset_same w hlt _, ?_, ?_, ?_, nodup_aset hn k v⟩
      · rw [aset_idx, hi, hes, List.map_set, List.map_set, hl]
      · rw [hes, hborn]; exact hp
      · intro e he
        rw [hes] at he
        have : e.born ∈ es.toList.map (·.born) := by rw [← hborn]; exact List.mem_map_of_mem he
        obtain ⟨e', he', h2⟩ := List.mem_map.1 this
        rw [← h2]; exact hc e' he'
/-! ### at the operation, for the walk -/
section walk
variable {ops : Array Oper} {rest : List Oper} {o : Oper} {a : Act} {Q : Exit → Act → World → Prop}
theorem wpList_mapUpdate_imap (hg : o.guard = none) (m x v : Operand) (t : TypeId) (hop : o.op = Op.mapUpdate t m x v)
    (ht : P.underlying t = some (.map kt et)) (hk : P.underlying kt = some (.int q)) (b : Nat) (l : List (Int × α)) (k : Int) (y : α)
    (hm : a.eval m = .map (some b)) (hx : a.eval x = .int q k) (hv : a.eval v = enc y) (h : IMap q enc w b l)
    (hK : ∀ ob, IMap q enc (bset w b ob) b (aset l k y) → wpList P ops Q rest (a.put o.dst undef) (bset w b ob)) :
    wpList P ops Q (o :: rest) a w := by
  refine wpList_plain hg fun K' hK' => ?_
  obtain ⟨ob, hrun, hi⟩ := run_mapUpdate_imap (P := P) ht hk h k y
  unfold Oper.wp
  simp [execOp, hop, hm, hx, hv, hrun]
  exact hK' _ _ (hK ob hi)
end walk
end world
end Go.Proofs.Bm
