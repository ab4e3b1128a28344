/- Ranges over maps with int keys; such a map as the kit's iterator contracts want it. -/
import Derived.Test.YtpnjhffnlafabaaGreatDoorVBm
import Derived.Maps.RangeRun
import Derived.Maps.RangeWalk
import Derived.Lib.SlKeysI
namespace Go.Proofs.Bm
set_option linter.unusedVariables false
set_option linter.unusedSimpArgs false
open Go.RowKit
section plain
variable {α : Type}
theorem aget_some_iff {l : List (Int × α)} (h : (l.map (·.1)).Nodup) (k : Int) (v : α) : aget l k = some v ↔ (k, v) ∈ l := by
  induction l with
  | nil => simp [aget_nil]
  | cons p l ih =>
    have hn : p.1 ∉ l.map (·.1) ∧ (l.map (·.1)).Nodup := List.nodup_cons.1 h
    rw [aget_cons, List.mem_cons]
    by_cases hp : p.1 = k
    · subst hp
      rw [if_pos rfl]
      constructor
      · intro e; left; rw [← Option.some.inj e]
      · rintro (e | e)
        · rw [← e]
        · exact (hn.1 (List.mem_map.2 ⟨_, e, rfl⟩)).elim
    · rw [if_neg hp, ih hn.2]
      constructor
      · exact .inr
      · rintro (e | e)
        · exact (hp (by rw [← e])).elim
        · exact e
end plain
theorem filter_born (e : MapEntry) : ∀ (L : List MapEntry) (j : Nat), (L.map (·.born)).Nodup → L[j]? = some e → L.filter (fun x => !(x.born == e.born)) = L.eraseIdx j
  | [], j, _, h => by simp at h
  | x :: L, 0, hn, h => by
    simp at h; subst h
    have : x.born ∉ L.map (·.born) := (List.nodup_cons.1 hn).1
    simp
    intro y hy ey
    exact this (List.mem_map.2 ⟨y, hy, ey⟩)
  | x :: L, j + 1, hn, h => by
    simp at h
    have h1 : x.born ∉ L.map (·.born) := (List.nodup_cons.1 hn).1
    have h2 : (x.born == e.born) = false := by
      simp; intro ee; exact h1 (List.mem_map.2 ⟨e, List.mem_of_getElem? h, ee.symm⟩)
    simp [h2, filter_born e L j (List.nodup_cons.1 hn).2 h]
theorem perm_erase {α : Type} : ∀ (l : List α) (j : Nat) (h : j < l.length), l.Perm (l[j] :: l.eraseIdx j)
  | [], _, h => by simp at h
  | x :: l, 0, _ => by simp
  | x :: l, j + 1, h => by
    have := perm_erase l j (by simpa using h)
    simp only [List.getElem_cons_succ, List.eraseIdx_cons_succ]
    exact (this.cons x).trans (List.Perm.swap _ _ _)
section world
variable {α : Type} {enc : α → Value} {P : Program} {w : World} {r b : Nat} {l rest : List (Int × α)} {t kt et : TypeId} {q : IntKind}
def ILeft (q : IntKind) (enc : α → Value) (w : World) (r b : Nat) (l left : List (Int × α)) : Prop :=
  ∃ (es : Array MapEntry) (clock : Nat) (seen : Array Nat) (since c0 : Nat), w.heap[r]? = some (.mapIter (some b) since seen c0) ∧ w.heap[b]? = some (.map es clock) ∧
    es.toList.map (fun e => (e.key, e.val)) = l.map (fun p => (Value.int q p.1, enc p.2)) ∧ (es.toList.map (·.born)).Pairwise (· < ·) ∧ (l.map (·.1)).Nodup ∧
    (∀ e ∈ es.toList, e.born < since) ∧ since ≤ c0 ∧ since ≤ clock ∧ (leftOf es seen).toList.map (fun e => (e.key, e.val)) = left.map (fun p => (Value.int q p.1, enc p.2))
theorem ILeft.lt {left : List (Int × α)} (h : ILeft q enc w r b l left) : r < w.heap.size ∧ b < w.heap.size ∧ r ≠ b := by
  obtain ⟨es, clock, seen, since, c0, a1, a2, a⟩ := h
  exact ⟨(Array.getElem?_eq_some_iff.1 a1).1, (Array.getElem?_eq_some_iff.1 a2).1, fun e => by subst e; rw [a1] at a2; cases a2⟩
theorem run_range_imap (ht : P.underlying t = some (.map kt et)) (h : IMap q enc w b l) :
    ∃ ob, (Instr.range t (.map (some b))).run P w = .ok (.pointer (some ⟨w.heap.size, 0, none⟩)) (w.alloc ob) ∧ ILeft q enc (w.alloc ob) w.heap.size b l l := by
  have hlt := h.lt
  obtain ⟨es, c, hb, hl, hp, hc, hn⟩ := h
  refine ⟨_, run_range_map w t kt et b es c ht hb, es, c, #[], c, c, ?_, ?_, hl, hp, hn, hc, Nat.le_refl _, Nat.le_refl _, ?_⟩
  · show (w.heap.push _)[w.heap.size]? = _; rw [Array.getElem?_push, if_pos rfl]
  · show (w.heap.push _)[b]? = _; rw [Array.getElem?_push, if_neg (by omega)]; exact hb
  · rw [← hl]; unfold leftOf; simp; rw [List.filter_eq_self.2 (fun _ _ => rfl)]
theorem run_next_imap {left : List (Int × α)} (h : ILeft q enc w r b l left) (ty : TypeId) :
    (left = [] ∧ (Instr.next (.pointer (some ⟨r, 0, none⟩)) false ty).run P w = .ok (.tuple #[.bool false]) w) ∨
    ∃ (k : Int) (v : α) (left' : List (Int × α)) (w1 : World) (ob : Obj), left.Perm ((k, v) :: left') ∧ (w1 = w ∨ w1 = w.drew) ∧
      (Instr.next (.pointer (some ⟨r, 0, none⟩)) false ty).run P w = .ok (.tuple #[.bool true, .int q k, enc v]) (bset w1 r ob) ∧ ILeft q enc (bset w1 r ob) r b l left' ∧
      (Instr.entry (.pointer (some ⟨r, 0, none⟩))).run P (bset w1 r ob) = .ok (.tuple #[.int q k, enc v]) (bset w1 r ob) := by
  have hlt := h.lt
  obtain ⟨es, clock, seen, since, c0, hr, hb, hl, hp, hn, hs, hsc, hscl, hleft⟩ := h
  rcases run_next_at (P := P) w ty r b since c0 seen es clock hr hb hs hsc with ⟨h0, hrun⟩ | ⟨e, he, w1, hw1, hrun⟩
  · left
    refine ⟨?_, hrun⟩
    have : (leftOf es seen).toList = [] := by rw [Array.eq_empty_of_size_eq_zero h0]
    rw [this] at hleft
    simpa using hleft.symm
  · right
    obtain ⟨j, hj, hje⟩ := List.mem_iff_getElem.1 he
    have hlen : (leftOf es seen).toList.length = left.length := by have := congrArg List.length hleft; simpa using this
    have hj' : j < left.length := by omega
    have hkv : (e.key, e.val) = (Value.int q left[j].1, enc left[j].2) := by
      have := congrArg (fun x => x[j]?) hleft
      simp only [List.getElem?_map, List.getElem?_eq_getElem hj, List.getElem?_eq_getElem hj', Option.map_some, Option.some.injEq] at this
      rw [hje] at this; exact this
    have hk : e.key = Value.int q left[j].1 := congrArg Prod.fst hkv
    have hv : e.val = enc left[j].2 := congrArg Prod.snd hkv
    have hborn : (es.toList.map (·.born)).Nodup := hp.imp (fun h => Nat.ne_of_lt h)
    have hes : e ∈ es.toList := (mem_left he).1
    have hsz : w1.heap.size = w.heap.size := by rcases hw1 with e | e <;> (subst e; rfl)
    have hbk : ∀ i : Nat, w1.heap[i]? = w.heap[i]? := by rcases hw1 with e | e <;> (subst e; exact fun _ => rfl)
    have hn1 : (bset w1 r (.mapIter (some b) since (seen.push e.born) clock)).heap[r]? = some (.mapIter (some b) since (seen.push e.born) clock) := bset_same w1 (by rw [hsz]; exact hlt.1) _
    have hn2 : (bset w1 r (.mapIter (some b) since (seen.push e.born) clock)).heap[b]? = some (.map es clock) := (bset_other w1 (Ne.symm hlt.2.2) _).trans ((hbk b).trans hb)
    have hlborn : ((leftOf es seen).toList.map (·.born)).Nodup := by
      unfold leftOf
      refine List.Nodup.sublist (List.Sublist.map _ ?_) hborn
      rw [Array.toList_filter]; exact List.filter_sublist
    refine ⟨left[j].1, left[j].2, left.eraseIdx j, w1, .mapIter (some b) since (seen.push e.born) clock, ?_, hw1, ?_, ?_, ?_⟩
    · exact perm_erase left j hj'
    · rw [← hk, ← hv]; exact hrun
    · refine ⟨es, clock, seen.push e.born, since, clock, hn1, hn2, hl, hp, hn, hs, hscl, hscl, ?_⟩
      · rw [map_erase, ← hleft, ← map_erase]
        congr 1
        rw [← filter_born e _ j hlborn (by rw [List.getElem?_eq_getElem hj, hje])]
        unfold leftOf
        simp only [Array.toList_filter, List.filter_filter]
        congr 1
        funext x
        simp [Array.contains_push, Bool.and_comm]; rfl
    · rw [← hk, ← hv]
      exact run_entry_at _ r b since seen es clock e hn1 hn2 hes hborn
section walk
variable {ops : Array Oper} {rest : List Oper} {o : Oper} {a : Act} {Q : Exit → Act → World → Prop}
theorem wpList_range_imap (hg : o.guard = none) (m : Operand) (t : TypeId) (hop : o.op = Op.range t m) (ht : P.underlying t = some (.map kt et)) (b : Nat) (l : List (Int × α))
    (hm : a.eval m = .map (some b)) (h : IMap q enc w b l)
    (hK : ∀ ob, ILeft q enc (w.alloc ob) w.heap.size b l l → wpList P ops Q rest (a.put o.dst (.pointer (some ⟨w.heap.size, 0, none⟩))) (w.alloc ob)) :
    wpList P ops Q (o :: rest) a w := by
  refine wpList_plain hg fun K' hK' => ?_
  obtain ⟨ob, hrun, hi⟩ := run_range_imap (P := P) ht h
  unfold Oper.wp
  simp [execOp, hop, hm, hrun]
  exact hK' _ _ (hK ob hi)
theorem wpList_next_imap (hg : o.guard = none) (it : Operand) (hop : o.op = Op.next it false) (r b : Nat) (l left : List (Int × α))
    (hit : a.eval it = .pointer (some ⟨r, 0, none⟩)) (h : ILeft q enc w r b l left)
    (hDone : left = [] → wpList P ops Q rest (a.put o.dst (.tuple #[.bool false])) w)
    (hMore : ∀ (k : Int) (v : α) (left' : List (Int × α)) (w1 : World) (ob : Obj), left.Perm ((k, v) :: left') → (w1 = w ∨ w1 = w.drew) → ILeft q enc (bset w1 r ob) r b l left' →
      (Instr.entry (.pointer (some ⟨r, 0, none⟩))).run P (bset w1 r ob) = .ok (.tuple #[.int q k, enc v]) (bset w1 r ob) →
      wpList P ops Q rest (a.put o.dst (.tuple #[.bool true, .int q k, enc v])) (bset w1 r ob)) :
    wpList P ops Q (o :: rest) a w := by
  refine wpList_plain hg fun K' hK' => ?_
  unfold Oper.wp
  rcases run_next_imap (P := P) h o.type with ⟨h0, hrun⟩ | ⟨k, v, left', w1, ob, hp, hw, hrun, hl, hen⟩
  · simp [execOp, hop, hit, hrun, Result.andThen]
    exact hK' _ _ (hDone h0)
  · simp [execOp, hop, hit, hrun, Result.andThen]
    exact hK' _ _ (hMore k v left' w1 ob hp hw hl hen)
end walk
theorem ILeft.count {left : List (Int × α)} (h : ILeft q enc w r b l left) : w.rangeLeft b r = left.length := by
  obtain ⟨es, clock, seen, since, c0, a1, a2, _, _, _, _, _, _, a3⟩ := h
  have := congrArg List.length a3
  simp only [List.length_map, Array.length_toList] at this
  rw [← this]
  simp [World.rangeLeft, a1, a2]
end world
end Go.Proofs.Bm
