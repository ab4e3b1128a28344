/- append(s, make([]byte, k)...) onto a row of the call's own. -/
import Derived.Test.YtiibfboendnifaaDoorBk
import Derived.Lib.AppendZerosOnto
import Derived.Laws.AppendOwn
namespace Go.Proofs.Bk
set_option linter.unusedVariables false
set_option linter.unusedSimpArgs false
open Go.RowKit

theorem zeroCells_one (z : Value) (k : Nat) (hz : z.cells = #[z]) : (Builtin.zeroCells z.cells k).toList = List.replicate k z := by
  unfold Builtin.zeroCells
  rw [hz]
  apply List.ext_getElem?
  intro i
  by_cases h : i < k
  · simp [h, List.getElem?_replicate, Nat.mod_one]
  · simp [h, List.getElem?_replicate]

theorem run_append_zeros_own {P : Program} (w : World) (base : Nat) (t tn ty e : TypeId) (i : TypeInfo) (z : Value) (kq kn : IntKind) (ht : P.underlying t = some (.slice e)) (htn : P.underlying tn = some (.int kn)) (hi : P.info? e = some i) (hz : i.zero = some z)
    (hs : i.size = 1) (hb : i.bytes = 1) (hzc : z.cells = #[z]) (hz1 : z.oneCell' = true) (g n cap : Nat) (xs : List Value) (hown : w.ownsRow base e 1 (.slice (some ⟨g, 0, none⟩) n cap) n xs) (k : Nat) (hnk : n + k ≤ 1048576) (hbase : base ≤ w.heap.size) :
    ∃ v' w', (Builtin.append_ #[t, tn] ty #[.slice (some ⟨g, 0, none⟩) n cap, .int kq k]).run P w = .ok v' w' ∧ w'.ownsRow base e 1 v' (n + k) (xs ++ List.replicate k z) ∧ w.grownBy w' (some g) := by
  obtain ⟨hxl, h | ⟨g', cap', cur, he, hbg, hg, hnc, hcm, hcs, htk⟩⟩ := hown
  · cases h.1
  · injection he with e1 e2 e3
    injection e1 with e1
    have e1' : g = g' := by injection e1
    subst e1' e3
    simp only [Nat.mul_one] at hxl hcs htk
    have hw : IntKind.i64.wrap (k : Int) = k := by rw [IntKind.wrap_i64]; omega
    have hneg : ¬ ((k : Int) < 0) := by omega
    have hzr : ∀ W, (zeroValue e).run P W = .ok z W := fun W => by simp [zeroValue, typeInfo, hi, hz]
    by_cases hfit : n + k ≤ cap
    · have hst : (storeCells ((⟨g, 0, none⟩ : Addr).add n) (List.replicate k z)).run P w = .ok () (w.setRow g (splice cur.toList n (List.replicate k z)).toArray) := by
        rw [addAt, Nat.zero_add]
        have := run_storeCells_mid (P := P) g n e (List.replicate k z) 0 cur.toList w (by simpa using hg) (by simp; omega) (fun v hv => by rw [(List.mem_replicate.1 hv).2]; exact hz1)
        rw [Nat.add_zero] at this
        exact this
      have hap : (Builtin.append_ #[t, tn] ty #[.slice (some ⟨g, 0, none⟩) n cap, .int kq k]).run P w = .ok (.slice (some ⟨g, 0, none⟩) (n + k) cap) (w.setRow g (splice cur.toList n (List.replicate k z)).toArray) := by
        by_cases hk0 : k = 0
        · subst hk0
          have e0 : w = w.setRow g (splice cur.toList n (List.replicate 0 z)).toArray := by
            have := hst
            simp only [List.replicate_zero, storeCells, Sem.run_pure] at this
            injection this with _ h2
          rw [← e0]
          have hfit' : n ≤ cap := hnc
          have hw0 : IntKind.i64.wrap 0 = 0 := by decide
          simp [Builtin.append_, run_underlying ht, run_underlying htn, sizeOf, typeInfo, hi, hs, hb, asInt, asIntOf, hw0, hfit', storeCells]
        · have h48 : ¬ (281474976710656 < (k : Int)) := by omega
          simp [Builtin.append_, run_underlying ht, run_underlying htn, sizeOf, typeInfo, hi, hs, hb, asInt, asIntOf, hw, hneg, hfit, hk0, hzr, zeroCells_one z k hzc, hst, h48]
      have hlen : (splice cur.toList n (List.replicate k z)).length = cap := by unfold splice; simp; omega
      refine ⟨_, _, hap, ⟨by simp [hxl], .inr ⟨g, cap, (splice cur.toList n (List.replicate k z)).toArray, rfl, hbg, setRow_heap _ _ _ _ _ _ hg, hfit, hcm, by simpa using hlen, ?_⟩⟩, ?_⟩
      · rw [Nat.mul_one, List.toList_toArray]
        unfold splice
        rw [htk, ← List.append_assoc, List.take_append_of_le_length (by simp [hxl]), List.take_of_length_le (by simp [hxl])]
      · exact ⟨rfl, rfl, rfl, by rw [setRow_size]; exact Nat.le_refl _, fun j hj hne => by
          unfold World.setRow; simp [Array.getElem?_modify, show g ≠ j from fun e => hne (by rw [e])]⟩
    · have hk0 : 0 < k := by omega
      have hcells : ∀ j v, xs[j]? = some v → w.drew.cell? ((⟨g, 0, none⟩ : Addr).add j) = some v := fun j v hj => by
        have hjn : j < n := by rw [← hxl]; exact (List.getElem?_eq_some_iff.1 hj).1
        have : cur.toList[j]? = some v := by rw [← htk, List.getElem?_take_of_lt hjn] at hj; exact hj
        show w.cell? _ = _
        rw [addAt, Nat.zero_add]
        simp [World.cell?, hg]
        simpa using this
      have hold : (Builtin.firstCells i.size n (.slice (some ⟨g, 0, none⟩) n cap)).run P w.drew = .ok xs.toArray w.drew := by
        have := run_loadCells_list (P := P) w.drew ⟨g, 0, none⟩ xs hcells
        simp [Builtin.firstCells, hs]
        rw [hxl] at this; exact this
      have hrun := Lib.run_append_grow_zeros (P := P) w t tn ty e i z kq kn ht htn hi hz (some ⟨g, 0, none⟩) n cap xs hold k hk0 (by omega) (by omega) (by omega) (by rw [hb]; omega) (by rw [hb, Nat.mul_one]; have := nextslicecap_le (need := n + k) (old := cap) (by omega); omega)
      have hge := grownCap_ge w (n + k) cap e
      have hle := grownCap_le_maxLen w (n + k) cap e (by have hml : 1048576 ≤ maxLen := (by decide); omega)
      generalize grownCap w (n + k) cap e = gc at hrun hge hle
      refine ⟨_, _, hrun, ⟨by simp [hxl], .inr ⟨w.heap.size, gc, _, rfl, hbase, heap_alloc_same w.drew _, hge, hle, ?_, ?_⟩⟩, ?_⟩
      · have h1 := congrArg List.length (zeroCells_one z k hzc)
        have h2 := congrArg List.length (zeroCells_one z (gc - (n + k)) hzc)
        simp at h1 h2
        simp [h1, h2, hxl]; omega
      · simp only [Array.toList_append, zeroCells_one z _ hzc, Nat.mul_one, List.toList_toArray]
        rw [List.take_append_of_le_length (by simp [hxl]), List.take_of_length_le (by simp [hxl])]
      · exact ⟨rfl, rfl, rfl, by simp, fun j hj _ => by
          show (w.heap.push _)[j]? = _
          rw [Array.getElem?_push, if_neg (by omega)]⟩
end Go.Proofs.Bk
