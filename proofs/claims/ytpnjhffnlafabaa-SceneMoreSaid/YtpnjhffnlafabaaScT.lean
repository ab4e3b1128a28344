/- Rename of package scene: cells of a row are stored, slices.Clone at groups, the greatest number. -/
import Derived.Test.YtpnjhffnlafabaaSc6
import Derived.Test.YtpnjhffnlafabaaSc1
namespace Go.Proofs.Ytpnjhffnlafabaa.Sn
set_option linter.unusedVariables false
set_option linter.unusedSimpArgs false
open Go.RowKit Go.Sort Go.Shelf Go.Lib Go.Proofs.Bk Go.Proofs.Bm Go.Proofs.Op Go.Proofs.Sc Go.Proofs.Kf Go.Proofs.YtpnjhffnlafabaaW.PrintWords Go.Proofs.Ytpnjhffnlafabaa.PSceneOrders Go.Proofs.Ytpnjhffnlafabaa.St

theorem cell_set {w : World} {g off j : Nat} {u v : Value} (h : w.cell? ⟨g, off, none⟩ = some u) : (w.setCell ⟨g, off, none⟩ v).cell? ⟨g, j, none⟩ = if j = off then some v else w.cell? ⟨g, j, none⟩ := by
  cases hg : w.heap[g]? with
  | none => simp [World.cell?, hg] at h
  | some o =>
    cases o with
    | cells c t fr =>
      have h1 : (w.setCell ⟨g, off, none⟩ v).heap[g]? = some (.cells (c.setIfInBounds off v) t fr) := by
        simp [World.setCell, Array.getElem?_modify, hg]
      have h2 : c[off]? = some u := by simpa [World.cell?, hg] using h
      have h3 : off < c.size := (Array.getElem?_eq_some_iff.1 h2).1
      simp only [World.cell?, h1, hg, Option.isSome_none, Bool.false_eq_true, if_false]
      rw [Array.getElem?_setIfInBounds]
      by_cases hj : j = off
      · subst hj; simp [h3]
      · rw [if_neg (Ne.symm hj), if_neg hj]
    | _ => simp [World.cell?, hg] at h
theorem frozen_set {w : World} {g off j : Nat} {v : Value} : (w.setCell ⟨g, off, none⟩ v).frozen? ⟨g, j, none⟩ = w.frozen? ⟨g, j, none⟩ := by
  cases hg : w.heap[g]? with
  | none => simp [World.frozen?, World.setCell, Array.getElem?_modify, hg]
  | some o =>
    cases o with
    | cells c t fr => simp [World.frozen?, World.setCell, Array.getElem?_modify, hg]
    | _ => simp [World.frozen?, World.setCell, Array.getElem?_modify, hg]
section
variable {α : Type} [Inhabited α] {enc : α → List Value} {k : Nat}
/-- one cell of a row's element is stored -/
theorem holdsK_set1 (hk : ∀ x, (enc x).length = k) {w : World} {g : Nat} {d : Array α} (h : HoldsK enc k w g 0 d) {i f : Nat} (hi : i < d.size) (hf : f < k) {x' : α} {v : Value} (hx : enc x' = (enc d[i]!).set f v) :
    HoldsK enc k (w.setCell ⟨g, i * k + f, none⟩ v) g 0 (d.set! i x') := by
  have hfl := (flat_at (enc := enc) (d := d) hk hi hf)
  have h0 := (h (i * k + f) (by rw [size_flatK]; exact hfl.2)).1
  rw [Nat.zero_add] at h0
  intro j hj
  rw [size_flatK, Array.set!_eq_setIfInBounds, Array.size_setIfInBounds] at hj
  have hj' : j < (flatK enc k d).size := by rw [size_flatK]; exact hj
  obtain ⟨h1, h2⟩ := h j hj'
  rw [Nat.zero_add] at h1 h2 ⊢
  refine ⟨?_, by rw [frozen_set]; exact h2⟩
  rw [cell_set h0, h1]
  rw [get_flatK enc k d j hj, get_flatK enc k (d.set! i x') j (by rw [Array.set!_eq_setIfInBounds, Array.size_setIfInBounds]; exact hj)]
  have hq : j / k < d.size := Nat.div_lt_of_lt_mul (by rw [Nat.mul_comm]; exact hj)
  have hm : j % k < k := Nat.mod_lt _ (by omega)
  have hjd : j = j / k * k + j % k := by rw [Nat.mul_comm]; exact (Nat.div_add_mod j k).symm
  by_cases hji : j / k = i
  · subst hji
    rw [show (d.set! (j / k) x')[j / k]! = x' by simp [getElem!_def, Array.getElem?_setIfInBounds, hq], hx]
    by_cases hjf : j % k = f
    · rw [if_pos (by omega)]
      subst hjf
      rw [getElem!_pos _ _ (by rw [List.length_set, hk]; exact hm)]
      simp
    · rw [if_neg (by omega)]
      congr 1
      show _ = _
      rw [getElem!_pos (enc d[j / k]!) _ (by rw [hk]; exact hm), getElem!_pos ((enc d[j / k]!).set f v) _ (by rw [List.length_set, hk]; exact hm), List.getElem_set_ne (Ne.symm hjf)]
  · rw [if_neg (fun e => hji (by rw [e, Nat.mul_comm, Nat.mul_add_div (by omega), Nat.div_eq_of_lt hf, Nat.add_zero]))]
    congr 2
    simp [getElem!_def, Array.getElem?_setIfInBounds, Ne.symm hji]
end
/-! slices.Clone at groups -/
theorem infoG : (Try.prog.info? 41).map (fun i => (i.zero, i.size, i.bytes)) = some (some (.agg #[.int .i64 0, .int .i64 0, .int .i64 0, .int .i64 0, .int .i64 0, .int .i64 0]), 6, 48) := by kernel_rfl
theorem gC_one (x : SG) : ∀ v ∈ gC x, v.oneCell' = true := fun v hv => by
  simp [gC] at hv; rcases hv with rfl | rfl | rfl | rfl | rfl | rfl <;> rfl
def CloneGPost (ts : List SG) (w : World) (e : Ending) (w' : World) : Prop :=
  ∃ v, e = .returned v ∧ ((v = .slice none 0 0 ∧ ts = []) ∨ ∃ g cap, v = .slice (some ⟨g, 0, none⟩) ts.length cap ∧ w.heap.size ≤ g ∧ g < w'.heap.size ∧ ts.length ≤ cap ∧ HoldsK gC 6 w' g 0 ts.toArray) ∧ Below w.heap.size w w'
set_option maxRecDepth 100000 in
theorem CloneG_calls (A : Option Addr) (n c : Nat) (ts : List SG) (w : World) (hT : kG.C w A n ts) (hA : ∀ ad, A = some ad → ad.spot = none) (hn : n ≤ 1099511627776) :
    Calls Try.prog 42 #[.slice A n c] w (CloneGPost ts w) := by
  obtain rfl := hT.1
  rcases A with _ | ⟨b, off, sp⟩
  · refine Calls.mono (AnyE.slices_Clone_nil Try.clG ts.length c w) ?_
    rintro e w' ⟨rfl, rfl⟩
    have h0 : ts = [] := by
      by_cases h : 0 < ts.length
      · obtain ⟨b, off, h1, _⟩ := G_at hT h; cases h1
      · exact List.length_eq_zero_iff.1 (by omega)
    exact ⟨_, rfl, .inl ⟨rfl, h0⟩, Below.refl _ _⟩
  · obtain rfl : sp = none := hA _ rfl
    have hi := infoG
    cases hf : Try.prog.info? 41 with
    | none => rw [hf] at hi; cases hi
    | some i0 =>
      rw [hf] at hi
      simp only [Option.map_some, Option.some.injEq, Prod.mk.injEq] at hi
      obtain ⟨z1, z2, z3⟩ := hi
      have hl : (flatK gC 6 ts.toArray).toList.length = ts.length * 6 := by simp
      have hcell : ∀ j u, (flatK gC 6 ts.toArray).toList[j]? = some u → w.cell? ⟨b, off + j, none⟩ = some u := by
        intro j u hu
        have hj : j < ts.length * 6 := by have := (List.getElem?_eq_some_iff.1 hu).1; rw [hl] at this; exact this
        obtain ⟨b', off', e1, _, h2⟩ := G_at hT (by omega)
        injection e1 with e1
        injection e1 with e1 e2
        subst e1
        subst e2
        have h3 := h2 (j / 6) (by omega) (j % 6) u ?_
        · rw [← h3]; congr 2; omega
        · have h4 := get_flatK gC 6 ts.toArray j (by simpa using hj)
          rw [Array.getElem?_toList, Array.getElem?_eq_getElem (by rw [size_flatK]; simpa using hj)] at hu
          rw [getElem!_pos _ _ (by rw [size_flatK]; simpa using hj)] at h4
          rw [h4] at hu
          injection hu with hu
          have h5 : j % 6 < (gC ts[j / 6]!).length := by rw [gC_len]; omega
          rw [List.getElem?_eq_getElem h5]
          rw [← hu, show ts.toArray[j / 6]! = ts[j / 6]! by rw [getElem!_def, getElem!_def]; simp, getElem!_pos (gC ts[j / 6]!) (j % 6) h5]
      have hone : ∀ u ∈ (flatK gC 6 ts.toArray).toList, u.oneCell' = true := by
        intro u hu
        obtain ⟨j, hj, rfl⟩ := List.getElem_of_mem hu
        rw [hl] at hj
        have h4 := get_flatK gC 6 ts.toArray j (by simpa using hj)
        rw [getElem!_pos _ _ (by rw [size_flatK]; simpa using hj)] at h4
        rw [Array.getElem_toList, h4, getElem!_pos _ _ (by rw [gC_len]; omega)]
        exact gC_one _ _ (List.getElem_mem _)
      refine Calls.mono (AnyE.slices_Clone Try.clG i0 _ 6 48 hf z1 z2 z3 rfl (by omega) Try.sizeOf41 b off ts.length c (flatK gC 6 ts.toArray).toList w hl (by unfold maxLen; omega) (by omega) hcell hone) ?_
      rintro e w' ⟨v, rfl, ho, _, hb⟩
      refine ⟨v, rfl, ?_, hb⟩
      rcases own_holds (d := ts.toArray) (by simpa using ho) with ⟨h1, h2⟩ | ⟨g, cap, h1, h2, h3, h4, h5⟩
      · exact .inl ⟨h1, List.length_eq_zero_iff.1 (by simpa using h2)⟩
      · exact .inr ⟨g, cap, by simpa using h1, h2, h3, by simpa using h4, h5⟩
end Go.Proofs.Ytpnjhffnlafabaa.Sn
