/- Rename of package scene: cells of a row are stored, slices.Clone at groups, the greatest number. Rename of package scene. Rename of package scene: the walk. -/
import Derived.Test.YtpnjhffnlafabaaSc6
import Derived.Test.YtpnjhffnlafabaaSc1
import Derived.Laws.ResultCell
import Derived.Deep.CutRange
namespace Go.Proofs.Ytpnjhffnlafabaa.Sn
set_option linter.unusedVariables false
set_option linter.unusedSimpArgs false
open Go.RowKit Go.Sort Go.Shelf Go.Lib Go.Proofs.Bk Go.Proofs.Bm Go.Proofs.Op Go.Proofs.Sc Go.Proofs.Kf Go.Proofs.YtpnjhffnlafabaaW.PrintWords Go.Proofs.Ytpnjhffnlafabaa.PSceneOrders Go.Proofs.Ytpnjhffnlafabaa.St

theorem cell_set {w : World} {g off j : Nat} {u v : Value} (h : w.cell? ⟨g, off, none⟩ = some u) : (w.setCell ⟨g, off, none⟩ v).cell? ⟨g, j, none⟩ = if j = off then some v else w.cell? ⟨g, j, none⟩ := by
  cases hg : w.heap[g]? with
  | none => simp [World.cell?, hg] at h
  | some o =>
    cases o with
    | cells c t fr =>
      have h1 : (w.setCell ⟨g, off, none⟩ v).heap[g]? = some (.cells (c.setIfInBounds off v) t fr) := by
        simp [World.setCell, Array.getElem?_modify, hg]
      have h2 : c[off]? = some u := by simpa [World.cell?, hg] using h
      have h3 : off < c.size := (Array.getElem?_eq_some_iff.1 h2).1
      simp only [World.cell?, h1, hg, Option.isSome_none, Bool.false_eq_true, if_false]
      rw [Array.getElem?_setIfInBounds]
      by_cases hj : j = off
      · subst hj; simp [h3]
      · rw [if_neg (Ne.symm hj), if_neg hj]
    | _ => simp [World.cell?, hg] at h
theorem frozen_set {w : World} {g off j : Nat} {v : Value} : (w.setCell ⟨g, off, none⟩ v).frozen? ⟨g, j, none⟩ = w.frozen? ⟨g, j, none⟩ := by
  cases hg : w.heap[g]? with
  | none => simp [World.frozen?, World.setCell, Array.getElem?_modify, hg]
  | some o =>
    cases o with
    | cells c t fr => simp [World.frozen?, World.setCell, Array.getElem?_modify, hg]
    | _ => simp [World.frozen?, World.setCell, Array.getElem?_modify, hg]
section
variable {α : Type} [Inhabited α] {enc : α → List Value} {k : Nat}
/-- one cell of a row's element is stored -/
theorem holdsK_set1 (hk : ∀ x, (enc x).length = k) {w : World} {g : Nat} {d : Array α} (h : HoldsK enc k w g 0 d) {i f : Nat} (hi : i < d.size) (hf : f < k) {x' : α} {v : Value} (hx : enc x' = (enc d[i]!).set f v) :
    HoldsK enc k (w.setCell ⟨g, i * k + f, none⟩ v) g 0 (d.set! i x') := by
  have hfl := (flat_at (enc := enc) (d := d) hk hi hf)
  have h0 := (h (i * k + f) (by rw [size_flatK]; exact hfl.2)).1
  rw [Nat.zero_add] at h0
  intro j hj
  rw [size_flatK, Array.set!_eq_setIfInBounds, Array.size_setIfInBounds] at hj
  have hj' : j < (flatK enc k d).size := by rw [size_flatK]; exact hj
  obtain ⟨h1, h2⟩ := h j hj'
  rw [Nat.zero_add] at h1 h2 ⊢
  refine ⟨?_, by rw [frozen_set]; exact h2⟩
  rw [cell_set h0, h1]
  rw [get_flatK enc k d j hj, get_flatK enc k (d.set! i x') j (by rw [Array.set!_eq_setIfInBounds, Array.size_setIfInBounds]; exact hj)]
  have hq : j / k < d.size := Nat.div_lt_of_lt_mul (by rw [Nat.mul_comm]; exact hj)
  have hm : j % k < k := Nat.mod_lt _ (by omega)
  have hjd : j = j / k * k + j % k := by rw [Nat.mul_comm]; exact (Nat.div_add_mod j k).symm
  by_cases hji : j / k = i
  · subst hji
    rw [show (d.set! (j / k) x')[j / k]! = x' by simp [getElem!_def, Array.getElem?_setIfInBounds, hq], hx]
    by_cases hjf : j % k = f
    · rw [if_pos (by omega)]
      subst hjf
      rw [getElem!_pos _ _ (by rw [List.length_set, hk]; exact hm)]
      simp
    · rw [if_neg (by omega)]
      congr 1
      show _ = _
      rw [getElem!_pos (enc d[j / k]!) _ (by rw [hk]; exact hm), getElem!_pos ((enc d[j / k]!).set f v) _ (by rw [List.length_set, hk]; exact hm), List.getElem_set_ne (Ne.symm hjf)]
  · rw [if_neg (fun e => hji (by rw [e, Nat.mul_comm, Nat.mul_add_div (by omega), Nat.div_eq_of_lt hf, Nat.add_zero]))]
    congr 2
    simp [getElem!_def, Array.getElem?_setIfInBounds, Ne.symm hji]
end
/-! slices.Clone at groups -/
theorem infoG : (Try.prog.info? 41).map (fun i => (i.zero, i.size, i.bytes)) = some (some (.agg #[.int .i64 0, .int .i64 0, .int .i64 0, .int .i64 0, .int .i64 0, .int .i64 0]), 6, 48) := by kernel_rfl
theorem gC_one (x : SG) : ∀ v ∈ gC x, v.oneCell' = true := fun v hv => by
  simp [gC] at hv; rcases hv with rfl | rfl | rfl | rfl | rfl | rfl <;> rfl
def CloneGPost (ts : List SG) (w : World) (e : Ending) (w' : World) : Prop :=
  ∃ v, e = .returned v ∧ ((v = .slice none 0 0 ∧ ts = []) ∨ ∃ g cap, v = .slice (some ⟨g, 0, none⟩) ts.length cap ∧ w.heap.size ≤ g ∧ g < w'.heap.size ∧ ts.length ≤ cap ∧ HoldsK gC 6 w' g 0 ts.toArray) ∧ Below w.heap.size w w'
set_option maxRecDepth 100000 in
theorem CloneG_calls (A : Option Addr) (n c : Nat) (ts : List SG) (w : World) (hT : kG.C w A n ts) (hA : ∀ ad, A = some ad → ad.spot = none) (hn : n ≤ 1099511627776) :
    Calls Try.prog 42 #[.slice A n c] w (CloneGPost ts w) := by
  obtain rfl := hT.1
  rcases A with _ | ⟨b, off, sp⟩
  · refine Calls.mono (AnyE.slices_Clone_nil Try.clG ts.length c w) ?_
    rintro e w' ⟨rfl, rfl⟩
    have h0 : ts = [] := by
      by_cases h : 0 < ts.length
      · obtain ⟨b, off, h1, _⟩ := G_at hT h; cases h1
      · exact List.length_eq_zero_iff.1 (by omega)
    exact ⟨_, rfl, .inl ⟨rfl, h0⟩, Below.refl _ _⟩
  · obtain rfl : sp = none := hA _ rfl
    have hi := infoG
    cases hf : Try.prog.info? 41 with
    | none => rw [hf] at hi; cases hi
    | some i0 =>
      rw [hf] at hi
      simp only [Option.map_some, Option.some.injEq, Prod.mk.injEq] at hi
      obtain ⟨z1, z2, z3⟩ := hi
      have hl : (flatK gC 6 ts.toArray).toList.length = ts.length * 6 := by simp
      have hcell : ∀ j u, (flatK gC 6 ts.toArray).toList[j]? = some u → w.cell? ⟨b, off + j, none⟩ = some u := by
        intro j u hu
        have hj : j < ts.length * 6 := by have := (List.getElem?_eq_some_iff.1 hu).1; rw [hl] at this; exact this
        obtain ⟨b', off', e1, _, h2⟩ := G_at hT (by omega)
        injection e1 with e1
        injection e1 with e1 e2
        subst e1
        subst e2
        have h3 := h2 (j / 6) (by omega) (j % 6) u ?_
        · rw [← h3]; congr 2; omega
        · have h4 := get_flatK gC 6 ts.toArray j (by simpa using hj)
          rw [Array.getElem?_toList, Array.getElem?_eq_getElem (by rw [size_flatK]; simpa using hj)] at hu
          rw [getElem!_pos _ _ (by rw [size_flatK]; simpa using hj)] at h4
          rw [h4] at hu
          injection hu with hu
          have h5 : j % 6 < (gC ts[j / 6]!).length := by rw [gC_len]; omega
          rw [List.getElem?_eq_getElem h5]
          rw [← hu, show ts.toArray[j / 6]! = ts[j / 6]! by rw [getElem!_def, getElem!_def]; simp, getElem!_pos (gC ts[j / 6]!) (j % 6) h5]
      have hone : ∀ u ∈ (flatK gC 6 ts.toArray).toList, u.oneCell' = true := by
        intro u hu
        obtain ⟨j, hj, rfl⟩ := List.getElem_of_mem hu
        rw [hl] at hj
        have h4 := get_flatK gC 6 ts.toArray j (by simpa using hj)
        rw [getElem!_pos _ _ (by rw [size_flatK]; simpa using hj)] at h4
        rw [Array.getElem_toList, h4, getElem!_pos _ _ (by rw [gC_len]; omega)]
        exact gC_one _ _ (List.getElem_mem _)
      refine Calls.mono (AnyE.slices_Clone Try.clG i0 _ 6 48 hf z1 z2 z3 rfl (by omega) Try.sizeOf41 b off ts.length c (flatK gC 6 ts.toArray).toList w hl (by unfold maxLen; omega) (by omega) hcell hone) ?_
      rintro e w' ⟨v, rfl, ho, _, hb⟩
      refine ⟨v, rfl, ?_, hb⟩
      rcases own_holds (d := ts.toArray) (by simpa using ho) with ⟨h1, h2⟩ | ⟨g, cap, h1, h2, h3, h4, h5⟩
      · exact .inl ⟨h1, List.length_eq_zero_iff.1 (by simpa using h2)⟩
      · exact .inr ⟨g, cap, by simpa using h1, h2, h3, by simpa using h4, h5⟩
end Go.Proofs.Ytpnjhffnlafabaa.Sn
namespace Go.Proofs.Ytpnjhffnlafabaa.Sn
set_option linter.unusedVariables false
set_option linter.unusedSimpArgs false
open Go.RowKit Go.Sort Go.Shelf Go.Lib Go.Proofs.Bk Go.Proofs.Bm Go.Proofs.Op Go.Proofs.Sc Go.Proofs.Kf Go.Proofs.YtpnjhffnlafabaaW.PrintWords Go.Proofs.Ytpnjhffnlafabaa.PSceneOrders Go.Proofs.Ytpnjhffnlafabaa.St

theorem info_int1 : (Try.prog.info? 3).map (·.size) = some 1 := by kernel_rfl
def renS (a : Int) (top : Bool) (x : SG) : SG := ⟨x.f0 + a, if top then x.f1 else x.f1 + a, x.f2, x.f3⟩
def renSL (a : Int) : List SG → List SG
  | [] => []
  | x :: xs => renS a true x :: xs.map (renS a false)
def renST (a : Int) (x : ST) : ST := ⟨x.f0 + a, x.f1 + a, x.f2, x.f3, x.f4, x.f5, x.f6⟩
theorem renSL_len (a : Int) (xs : List SG) : (renSL a xs).length = xs.length := by cases xs <;> simp [renSL]
theorem renSL_map (a : Int) (xs : List SG) : (renSL a xs).map gOf = renL a (xs.map gOf) := by
  cases xs with
  | nil => rfl
  | cons x xs =>
    simp only [renSL, renL, List.map_cons, List.map_map]
    rfl
theorem renST_map (a : Int) (ts : List ST) : (ts.map (renST a)).map tOf = (ts.map tOf).map (renT a) := by
  rw [List.map_map, List.map_map]; rfl
theorem renSL_get (a : Int) {xs : List SG} {k : Nat} {x : SG} (h : xs[k]? = some x) : (renSL a xs)[k]? = some (renS a (decide (k = 0)) x) := by
  cases xs with
  | nil => simp at h
  | cons y ys =>
    cases k with
    | zero => simp at h; subst h; rfl
    | succ k =>
      simp at h
      show ((ys.map (renS a false)))[k]? = _
      rw [List.getElem?_map, h]
      simp
/-- so far -/
def mixd {α : Type} (L xs : List α) (k : Nat) : List α := L.take k ++ xs.drop k
theorem mixd_zero {α : Type} (L xs : List α) : mixd L xs 0 = xs := by simp [mixd]
theorem mixd_all {α : Type} {L xs : List α} (h : L.length = xs.length) : mixd L xs xs.length = L := by
  unfold mixd; rw [List.take_of_length_le (by omega), List.drop_of_length_le (by omega), List.append_nil]
theorem mixd_len {α : Type} {L xs : List α} (h : L.length = xs.length) (k : Nat) : (mixd L xs k).length = xs.length := by
  unfold mixd; rw [List.length_append, List.length_take, List.length_drop]; omega
theorem mixd_get {α : Type} {L xs : List α} (h : L.length = xs.length) {k : Nat} (hk : k < xs.length) : (mixd L xs k)[k]? = xs[k]? := by
  unfold mixd
  rw [List.getElem?_append_right (by rw [List.length_take]; omega), List.length_take, List.getElem?_drop]
  congr 1; omega
theorem mixd_set {α : Type} {L xs : List α} (h : L.length = xs.length) {k : Nat} {y : α} (hy : L[k]? = some y) : (mixd L xs k).set k y = mixd L xs (k + 1) := by
  have hk : k < L.length := (List.getElem?_eq_some_iff.1 hy).1
  unfold mixd
  rw [List.set_append_right _ _ (by rw [List.length_take]; omega), List.length_take, show k - min k L.length = 0 by omega, List.drop_eq_getElem_cons (show k < xs.length by omega), List.set_cons_zero, List.take_add_one, hy]
  simp
theorem holdsK_cell {α : Type} [Inhabited α] {enc : α → List Value} {k : Nat} {w : World} {g : Nat} {l : List α} (hk : ∀ x, (enc x).length = k) (h : HoldsK enc k w g 0 l.toArray) {j : Nat} {x : α} (hj : l[j]? = some x) {i : Nat} {u : Value} (hu : (enc x)[i]? = some u) :
    w.cell? ⟨g, j * k + i, none⟩ = some u ∧ w.frozen? ⟨g, j * k + i, none⟩ = false := by
  have hjl : j < l.length := (List.getElem?_eq_some_iff.1 hj).1
  have hx : l.toArray[j]! = x := by rw [getElem!_def]; simp [hj]
  have h1 := holdsK_at hk h (j := j) (i := i) (u := u) (by simpa using hjl) (by rw [hx]; exact hu)
  rw [Nat.zero_add] at h1
  have hi : i < k := by have := (List.getElem?_eq_some_iff.1 hu).1; rw [hk] at this; exact this
  have h2 := (h (j * k + i) (by rw [size_flatK]; exact (flat_at (enc := enc) (d := l.toArray) hk (by simpa using hjl) hi).2)).2
  rw [Nat.zero_add] at h2
  exact ⟨h1, h2⟩
theorem holdsK_put {α : Type} [Inhabited α] {enc : α → List Value} {k : Nat} {w : World} {g : Nat} {l : List α} (hk : ∀ x, (enc x).length = k) (h : HoldsK enc k w g 0 l.toArray) {j : Nat} {x x' : α} (hj : l[j]? = some x) {i : Nat} {v : Value} (hi : i < k) (hx : enc x' = (enc x).set i v) :
    HoldsK enc k (w.setCell ⟨g, j * k + i, none⟩ v) g 0 (l.set j x').toArray := by
  have hjl : j < l.length := (List.getElem?_eq_some_iff.1 hj).1
  have e : l.toArray[j]! = x := by rw [getElem!_def]; simp [hj]
  have := holdsK_set1 hk h (i := j) (f := i) (by simpa using hjl) hi (x' := x') (v := v) (by rw [e]; exact hx)
  rw [Array.set!_eq_setIfInBounds, List.setIfInBounds_toArray] at this
  exact this
theorem holdsK_other {α : Type} [Inhabited α] {enc : α → List Value} {k : Nat} {w : World} {g g' o : Nat} {d : Array α} {v : Value} (h : HoldsK enc k w g 0 d) (hne : g ≠ g') : HoldsK enc k (w.setCell ⟨g', o, none⟩ v) g 0 d :=
  holdsK_block h (Below.heap_setCell w _ v g hne)
theorem foldl_ge : ∀ (l : List Int) (a : Int), a ≤ l.foldl max a
  | [], a => Int.le_refl _
  | x :: l, a => by have := foldl_ge l (max a x); rw [List.foldl_cons]; omega
theorem foldl_le : ∀ (l : List Int) (a b : Int), a ≤ b → (∀ k ∈ l, k ≤ b) → l.foldl max a ≤ b
  | [], a, b, h, _ => h
  | x :: l, a, b, h, hl => by
    rw [List.foldl_cons]
    exact foldl_le l _ b (by have := hl x (by simp); omega) (fun k hk => hl k (by simp [hk]))
theorem maxOf_ids {l : List Int} (hne : l ≠ []) (h : ∀ k ∈ l, 1 ≤ k) : Lib.maxOf l = l.foldl max 0 := by
  cases l with
  | nil => exact absurd rfl hne
  | cons x l =>
    unfold Lib.maxOf
    rw [List.headD_cons, List.foldl_cons, List.foldl_cons]
    have := h x (by simp)
    congr 1; omega
theorem results_scene {fn : Func} {p u : Tmp} {R : Nat} {cs : List Value} {tmps : Array Value} {w : World} (h : fn.results = #[.cell p 25, .tmp u]) (hp : tmps.getD p undef = .pointer (some ⟨R, 0, none⟩)) (hc : w.heap[R]? = some (.cells cs.toArray 25 (0, 0))) (hl : cs.length = 2) :
    (results fn tmps).run Try.prog w = .ok (.tuple #[.agg cs.toArray, tmps.getD u undef]) w := by
  rw [results_cell_tmp h, hp]
  have h1 : (asAddr (.pointer (some ⟨R, 0, none⟩))).run Try.prog w = .ok ⟨R, 0, none⟩ w := rfl
  rw [h1]
  simp only [Result.andThen_ok]
  rw [Go.Proofs.Bk.run_loadVar_mid w ⟨R, 0, none⟩ 25 cs _ (cells_row hc) Try.underlying25 rfl (by rw [hl]; exact info_S)]
  rfl
/-- what Clone gives, in the words of a walk -/
theorem cloneG (A : Option Addr) (n c : Nat) (xs : List SG) (w : World) (hT : kG.C w A n xs) (hn0 : 0 < n) (hn : n ≤ 4096) :
    Calls Try.prog 42 #[.slice A n c] w fun e w' => ∃ g cap, e = .returned (.slice (some ⟨g, 0, none⟩) n cap) ∧ w.heap.size ≤ g ∧ g < w'.heap.size ∧ n ≤ cap ∧ HoldsK gC 6 w' g 0 xs.toArray ∧ Below w.heap.size w w' := by
  have hl := hT.1
  obtain ⟨b, o, eA, _⟩ := G_at hT hn0
  refine (CloneG_calls A n c xs w hT (fun ad h => by rw [eA] at h; injection h with h; rw [← h]) (by omega)).mono ?_
  rintro e w' ⟨v, rfl, hv, hb⟩
  rcases hv with ⟨_, h0⟩ | ⟨g, cap, rfl, h1, h2, h3, h4⟩
  · rw [h0] at hl; simp at hl; omega
  · exact ⟨g, cap, by rw [hl], h1, h2, by rw [← hl]; exact h3, h4, hb⟩
theorem cloneT (B : Option Addr) (m d : Nat) (ts : List ST) (w : World) (hT : kT.C w B m ts) (hB : ∀ ad, B = some ad → ad.spot = none) (hm : m ≤ 4096) :
    Calls Try.prog 36 #[.slice B m d] w fun e w' => ∃ B' cap, e = .returned (.slice B' m cap) ∧ m ≤ cap ∧ ((B' = none ∧ m = 0) ∨ ∃ g, B' = some ⟨g, 0, none⟩ ∧ w.heap.size ≤ g ∧ g < w'.heap.size ∧ HoldsK tC 8 w' g 0 ts.toArray) ∧ Below w.heap.size w w' := by
  have hl := hT.1
  refine (Clone_calls B m d ts w hT hB (by omega)).mono ?_
  rintro e w' ⟨v, rfl, hv, hb⟩
  rcases hv with ⟨rfl, h0⟩ | ⟨g, cap, rfl, h1, h2, h3, h4⟩
  · rw [h0] at hl
    simp at hl
    exact ⟨none, 0, by rw [hl], by omega, .inl ⟨rfl, hl.symm⟩, hb⟩
  · exact ⟨_, cap, by rw [hl], by rw [← hl]; exact h3, .inr ⟨g, rfl, h1, h2, h4⟩, hb⟩
/-- a scene's block after both fields have been stored; or made whole -/
theorem two_set {w0 w : World} {base b : Nat} {v0 v1 u0 u1 : Value} (h : w.heap[b]? = some (.cells #[u0, u1] 25 (0, 0))) (hb : Below base w0 w) (hl : base ≤ b) :
    ((w.setCell ⟨b, 0, none⟩ v0).setCell ⟨b, 1, none⟩ v1).heap[b]? = some (.cells #[v0, v1] 25 (0, 0)) ∧ Below base w0 ((w.setCell ⟨b, 0, none⟩ v0).setCell ⟨b, 1, none⟩ v1) ∧ (∀ k, k < w.heap.size → k ≠ b → ((w.setCell ⟨b, 0, none⟩ v0).setCell ⟨b, 1, none⟩ v1).heap[k]? = w.heap[k]?) ∧ w.heap.size ≤ ((w.setCell ⟨b, 0, none⟩ v0).setCell ⟨b, 1, none⟩ v1).heap.size := by
  refine ⟨?_, ?_, fun k _ hk => ?_, by simp [World.setCell]⟩
  · rw [setCell_row (setCell_row h 0 v0) 1 v1]; rfl
  · have k1 := KeepF.setCell w ⟨b, 0, none⟩ v0
    have k2 := KeepF.setCell (w.setCell ⟨b, 0, none⟩ v0) ⟨b, 1, none⟩ v1
    have hs : base ≤ w.heap.size := by have := lt_row h; omega
    exact hb.trans ((k1.trans k2 (fun i _ hi => hi)).to_below hs (fun i hi => by rw [hi]; exact hl))
  · rw [Below.heap_setCell _ _ _ _ hk, Below.heap_setCell _ _ _ _ hk]
theorem two_new {w0 w : World} {base : Nat} {v0 v1 : Value} (hb : Below base w0 w) (hs : base ≤ w.heap.size) :
    (w.alloc (.cells #[v0, v1] 25)).heap[w.heap.size]? = some (.cells #[v0, v1] 25 (0, 0)) ∧ Below base w0 (w.alloc (.cells #[v0, v1] 25)) ∧ (∀ k, k < w.heap.size → k ≠ w.heap.size → (w.alloc (.cells #[v0, v1] 25)).heap[k]? = w.heap[k]?) ∧ w.heap.size ≤ (w.alloc (.cells #[v0, v1] 25)).heap.size :=
  ⟨heap_alloc_same w _, hb.trans ((below_alloc (Below.refl _ _) _).mono hs), fun k hk _ => (below_alloc (Below.refl w.heap.size w) _).block k hk, by simp⟩
end Go.Proofs.Ytpnjhffnlafabaa.Sn
namespace Go.Proofs.Ytpnjhffnlafabaa.Sn
set_option linter.unusedVariables false
set_option linter.unusedSimpArgs false
open Go.RowKit Go.Sort Go.Shelf Go.Lib Go.Proofs.Bk Go.Proofs.Bm Go.Proofs.Op Go.Proofs.Sc Go.Proofs.Kf Go.Proofs.YtpnjhffnlafabaaW.PrintWords Go.Proofs.Ytpnjhffnlafabaa.PSceneOrders Go.Proofs.Ytpnjhffnlafabaa.St

def RenPost (xs : List SG) (ts : List ST) (a : Int) (w : World) (e : Ending) (w' : World) : Prop :=
  ∃ (A' : Option Addr) (c' : Nat) (B' : Option Addr) (d' : Nat) (gs' : List SG) (ts' : List ST) (er : Int), e = .returned (.tuple #[.agg #[.slice A' gs'.length c', .slice B' ts'.length d'], .int .i64 er]) ∧ gs'.length ≤ c' ∧ ts'.length ≤ d' ∧ kG.C w' A' gs'.length gs' ∧ kT.C w' B' ts'.length ts' ∧
    (∀ ad, B' = some ad → ad.spot = none) ∧ (er, gs'.map gOf, ts'.map tOf) = renameOf (xs.map gOf) (ts.map tOf) a ∧ (er = 0 → gs' = renSL a xs ∧ ts' = ts.map (renST a)) ∧ Below w.heap.size w w'
theorem kG_none (w : World) : kG.C w none 0 [] := ⟨rfl, by decide, fun h => absurd h (Nat.lt_irrefl _)⟩
theorem RenPost.odd {xs : List SG} {ts : List ST} {a : Int} {w w' : World} {er : Int} (h : renameOf (xs.map gOf) (ts.map tOf) a = (er, [], [])) (he : er ≠ 0) (hb : Below w.heap.size w w') :
    RenPost xs ts a w (.returned (.tuple #[.agg #[.slice none 0 0, .slice none 0 0], .int .i64 er])) w' :=
  ⟨none, 0, none, 0, [], [], er, rfl, Nat.le_refl _, Nat.le_refl _, kG_none _, kT_none _, (fun ad h9 => by cases h9), (by rw [h]; rfl), fun h => absurd h he, hb⟩
set_option maxHeartbeats 8000000 in
set_option maxRecDepth 100000 in
theorem Rename_calls (w : World) (A : Option Addr) (n c : Nat) (xs : List SG) (B : Option Addr) (m d : Nat) (ts : List ST) (hG : kG.C w A n xs) (hc : n ≤ c) (hT : kT.C w B m ts) (hd : m ≤ d) (hB : ∀ ad, B = some ad → ad.spot = none) (ho : ∀ x ∈ xs, okG x) (a : Int) :
    Calls Try.prog 21 #[.agg #[.slice A n c, .slice B m d], .int .i64 a] w (RenPost xs ts a w) := by
  have hln := hG.1
  have hlm := hT.1
  have HG := Aside0.mk hG
  have HT := Aside0.mk hT
  clear hG hT
  replace hln := Aside0.mk hln; replace hlm := Aside0.mk hlm; replace hc := Aside0.mk hc; replace hd := Aside0.mk hd; replace hB := Aside0.mk hB; replace ho := Aside0.mk ho
  by_cases r0 : a < 0 ∨ 1048576 < a
  · have hr : Aside0 (renameOf (xs.map gOf) (ts.map tOf) a = (1, [], [])) := ⟨by unfold renameOf; rw [if_pos r0]⟩
    go_enter Try.func21, Try.ntmps21
    go_wp2_with (first
      | (((with_reducible refine gate_dst (N := 2) rfl ?_); refine box_event ?hg (N := 2) ?hd (cs := #[.slice A n c, .slice B m d]) (t := 25) ?hr ?_; (case hd => rfl); (case hg => rfl); (case hr => first | (go_simp; done) | (go_simp; rfl)); intro b2 hb2 w1 kb2 bb2; replace hb2 := Aside0.mk hb2; replace kb2 := Aside0.mk kb2; replace bb2 := Aside0.mk bb2))
      | (((with_reducible refine gate_dst (N := 4) rfl ?_); refine box_event ?hg (N := 4) ?hd (cs := #[.slice none 0 0, .slice none 0 0]) (t := 25) ?hr ?_; (case hd => rfl); (case hg => rfl); (case hr => first | (go_simp; done) | (go_simp; rfl)); intro b4 hb4 w2 kb4 bb4; replace hb4 := Aside0.mk hb4; replace kb4 := Aside0.mk kb4; replace bb4 := Aside0.mk bb4))
      | ((with_reducible refine gate_op (.store 25 (.tmp 4) (.tmp 17)) rfl ?_); refine wpList_store_midB rfl _ _ _ rfl b4 0 [.slice none 0 0, .slice none 0 0] rfl rfl 25 [.slice none 0 0, .slice none 0 0] kb4.out info_S (Nat.le_refl _) one2 ?_; obtain ⟨kk, bb⟩ := boxed (cs := [.slice none 0 0, .slice none 0 0]) (cs2 := [.slice none 0 0, .slice none 0 0]) hb4.out kb4.out bb4.out rfl; revert kk bb; generalize World.setRow _ b4 (splice [.slice none 0 0, .slice none 0 0] 0 [.slice none 0 0, .slice none 0 0]).toArray = w3; clear kb4 bb4; intro kb4 bb4; replace kb4 := Aside0.mk kb4; replace bb4 := Aside0.mk bb4))
    all_goals refine bodyPost_ret (results_scene rfl rfl kb4.out rfl) rfl ?_
    all_goals exact RenPost.odd hr.out (by decide) (bb2.out.trans (bb4.out.mono bb2.out.size))
  · have ra0 : 0 ≤ a := by omega
    have ra1 : a ≤ 1048576 := by omega
    obtain ⟨ck, hck⟩ : ∃ ck, checkOf (xs.map gOf) (ts.map tOf) = ck := ⟨_, rfl⟩
    by_cases hz : ck = 0
    case neg =>
      have hr : Aside0 (renameOf (xs.map gOf) (ts.map tOf) a = (ck, [], [])) := ⟨by unfold renameOf; rw [if_neg r0, hck, if_pos hz]⟩
      have hz' : ¬ ck = 0 := hz
      replace r0 := Aside0.mk r0; replace hck := Aside0.mk hck
      go_enter Try.func21, Try.ntmps21
      go_wp2_with (first
        | (((with_reducible refine gate_dst (N := 2) rfl ?_); refine box_event ?hg (N := 2) ?hd (cs := #[.slice A n c, .slice B m d]) (t := 25) ?hr ?_; (case hd => rfl); (case hg => rfl); (case hr => first | (go_simp; done) | (go_simp; rfl)); intro b2 hb2 w1 kb2 bb2; replace hb2 := Aside0.mk hb2; replace kb2 := Aside0.mk kb2; replace bb2 := Aside0.mk bb2))
        | (((with_reducible refine gate_dst (N := 4) rfl ?_); refine box_event ?hg (N := 4) ?hd (cs := #[.slice none 0 0, .slice none 0 0]) (t := 25) ?hr ?_; (case hd => rfl); (case hg => rfl); (case hr => first | (go_simp; done) | (go_simp; rfl)); intro b4 hb4 w2 kb4 bb4; replace hb4 := Aside0.mk hb4; replace kb4 := Aside0.mk kb4; replace bb4 := Aside0.mk bb4); have k22 := Aside0.mk (row_below bb4.out kb2.out))
        | ((with_reducible refine gate_op (.load 25 (.tmp 2)) rfl ?_); refine wpList_load_midB rfl _ _ rfl ⟨b2, 0, none⟩ rfl [.slice A n c, .slice B m d] _ (two_cells ((Kf.cell_row k22.out 0).trans rfl) ((Kf.cell_row k22.out 1).trans rfl)) Try.underlying25 rfl info_S ?_))
      have hB2 := Aside0.mk (bb2.out.trans (bb4.out.mono bb2.out.size))
      with_reducible refine (Check_calls A n c xs B m d ts w2 (Kd.C_below HG.out hB2.out) hc.out (Kd.C_below HT.out hB2.out) hd.out hB.out ho.out).mono ?_
      rintro e w3 ⟨rfl, hb3⟩
      rw [hck.out]
      have k43 := Aside0.mk (row_below hb3 kb4.out)
      have hB3 := Aside0.mk (hB2.out.trans (hb3.mono hB2.out.size))
      have h4w : Aside0 (w.heap.size ≤ b4) := ⟨by have := hb4.out; have := bb2.out.size; omega⟩
      clear hb3 kb4 bb4 kb2 bb2 k22 hB2 hb2 hb4
      go_wp2_with (first
        | ((with_reducible refine gate_op (.store 25 (.tmp 4) (.tmp 22)) rfl ?_); refine wpList_store_midB rfl _ _ _ rfl b4 0 [.slice none 0 0, .slice none 0 0] rfl rfl 25 [.slice none 0 0, .slice none 0 0] k43.out info_S (Nat.le_refl _) one2 ?_; have k7 := KeepF.setRow w3 b4 (splice [Value.slice none 0 0, .slice none 0 0] 0 [.slice none 0 0, .slice none 0 0]).toArray; have h7 := setRow_heap w3 b4 _ (splice [Value.slice none 0 0, .slice none 0 0] 0 [.slice none 0 0, .slice none 0 0]).toArray 25 _ k43.out; rw [splice_all _ _ (by rfl)] at k7 h7; revert k7 h7; rw [splice_all _ _ (by rfl)]; generalize w3.setRow b4 _ = w7; intro k7 h7; replace k7 := Aside0.mk k7; replace h7 := Aside0.mk h7))
      refine bodyPost_ret (results_scene rfl rfl h7.out rfl) rfl ?_
      exact RenPost.odd hr.out hz (hB3.out.trans (k7.out.to_below hB3.out.size (fun i hi => by rw [hi]; exact h4w.out)))
    case pos =>
      subst hz
      have F := (fine_iff _ _).1 hck
      have hn0 : 0 < n := by
        have := F.ne
        rcases Nat.eq_zero_or_pos n with h | h
        · exfalso; apply this
          have h2 := hln.out
          rw [h] at h2
          rw [List.length_eq_zero_iff.1 h2]; rfl
        · exact h
      have hn1 : n ≤ 4096 := by have := F.lg; rw [List.length_map, hln.out] at this; exact this
      have hm1 : m ≤ 4096 := by have := F.lt; rw [List.length_map, hlm.out] at this; exact this
      obtain ⟨bG, oG, eA, -⟩ := G_at HG.out hn0
      subst eA
      obtain ⟨ids, hids⟩ : ∃ ids, idsS xs ts = ids := ⟨_, rfl⟩
      have hidp : ∀ k ∈ ids, 1 ≤ k ∧ k ≤ 1048576 := by
        rw [← hids, idsS_eq]
        intro k hk
        rcases List.mem_append.1 hk with h | h
        · obtain ⟨x, hx, rfl⟩ := List.mem_map.1 h
          exact within1_iff.1 (oddG_id (F.og x hx))
        · obtain ⟨x, hx, rfl⟩ := List.mem_map.1 h
          exact within1_iff.1 (oddT_id (F.ot x hx))
      have hidl : ids.length = n + m := by rw [← hids]; unfold idsS; rw [List.length_append, List.length_map, List.length_map, hln.out, hlm.out]
      have hidne : ids ≠ [] := fun e => by rw [e] at hidl; simp at hidl; omega
      obtain ⟨mx, hmx⟩ : ∃ mx, ids.foldl max 0 = mx := ⟨_, rfl⟩
      have hmx2 : Lib.maxOf ids = mx := by rw [maxOf_ids hidne (fun k hk => (hidp k hk).1), hmx]
      have hmx3 : 0 ≤ mx ∧ mx ≤ 1048576 := by
        rw [← hmx]
        exact ⟨foldl_ge ids 0, foldl_le ids 0 1048576 (by omega) (fun k hk => (hidp k hk).2)⟩
      have hren : renameOf (xs.map gOf) (ts.map tOf) a = if 1048576 < mx + a then (6, [], []) else (0, renL a (xs.map gOf), (ts.map tOf).map (renT a)) := by
        unfold renameOf
        rw [if_neg r0, hck, if_neg (fun h => h rfl), ← hmx, ← hids, idsS_eq]
      obtain ⟨mx0, mx1⟩ := hmx3
      replace r0 := Aside0.mk r0; replace hck := Aside0.mk hck; replace F := Aside0.mk F; replace hids := Aside0.mk hids; replace hidp := Aside0.mk hidp; replace hidl := Aside0.mk hidl; replace hidne := Aside0.mk hidne; replace hmx := Aside0.mk hmx; replace hmx2 := Aside0.mk hmx2; replace hren := Aside0.mk hren
      go_enter Try.func21, Try.ntmps21
      go_wp2_with (first
        | (((with_reducible refine gate_dst (N := 2) rfl ?_); refine box_event ?hg (N := 2) ?hd (cs := #[.slice (some ⟨bG, oG, none⟩) n c, .slice B m d]) (t := 25) ?hr ?_; (case hd => rfl); (case hg => rfl); (case hr => first | (go_simp; done) | (go_simp; rfl)); intro b2 hb2 w1 kb2 bb2; replace hb2 := Aside0.mk hb2; replace kb2 := Aside0.mk kb2; replace bb2 := Aside0.mk bb2))
        | (((with_reducible refine gate_dst (N := 4) rfl ?_); refine box_event ?hg (N := 4) ?hd (cs := #[.slice none 0 0, .slice none 0 0]) (t := 25) ?hr ?_; (case hd => rfl); (case hg => rfl); (case hr => first | (go_simp; done) | (go_simp; rfl)); intro b4 hb4 w2 kb4 bb4; replace hb4 := Aside0.mk hb4; replace kb4 := Aside0.mk kb4; replace bb4 := Aside0.mk bb4); have k22 := Aside0.mk (row_below bb4.out kb2.out))
        | ((with_reducible refine gate_op (.load 25 (.tmp 2)) rfl ?_); refine wpList_load_midB rfl _ _ rfl ⟨b2, 0, none⟩ rfl [.slice (some ⟨bG, oG, none⟩) n c, .slice B m d] _ (two_cells ((Kf.cell_row k22.out 0).trans rfl) ((Kf.cell_row k22.out 1).trans rfl)) Try.underlying25 rfl info_S ?_))
      have hB2 := Aside0.mk (bb2.out.trans (bb4.out.mono bb2.out.size))
      with_reducible refine (Check_calls (some ⟨bG, oG, none⟩) n c xs B m d ts w2 (Kd.C_below HG.out hB2.out) hc.out (Kd.C_below HT.out hB2.out) hd.out hB.out ho.out).mono ?_
      rintro e w3 ⟨rfl, hb3⟩
      rw [hck.out]
      have k43 := Aside0.mk (row_below hb3 kb4.out)
      have k23 := Aside0.mk (row_below hb3 k22.out)
      have hB3 := Aside0.mk (hB2.out.trans (hb3.mono hB2.out.size))
      have h4w : Aside0 (w.heap.size ≤ b4) := ⟨by have := hb4.out; have := bb2.out.size; omega⟩
      have h24 : Aside0 (b2 < b4) := ⟨by have := hb4.out; have := lt_row kb2.out; omega⟩
      clear hb3 kb4 bb4 kb2 bb2 k22 hB2 hb2 hb4
      have c0 := (Kf.cell_row k23.out 0).trans (rfl : _ = some (Value.slice (some ⟨bG, oG, none⟩) n c))
      have c1 := (Kf.cell_row k23.out 1).trans (rfl : _ = some (Value.slice B m d))
      go_wp2_with (first
        | ((with_reducible refine gate_op (.load 25 (.tmp 2)) rfl ?_); refine wpList_load_midB rfl _ _ rfl ⟨b2, 0, none⟩ rfl [.slice (some ⟨bG, oG, none⟩) n c, .slice B m d] _ (two_cells c0 c1) Try.underlying25 rfl info_S ?_))
      with_reducible refine (Ids_calls (some ⟨bG, oG, none⟩) n c xs B m d ts w3 (Kd.C_below HG.out hB3.out) hc.out (Kd.C_below HT.out hB3.out) hd.out (by omega)).mono ?_
      rintro e w4 ⟨v4, rfl, hR4, hb4⟩
      rw [hids.out] at hR4
      obtain ⟨g4, cap4, cur4, rfl, hg4, hrow4, _⟩ := row_int hR4 (by rw [hidl.out]; omega)
      have k44 := Aside0.mk (row_below hb4 k43.out)
      have k24 := Aside0.mk (row_below hb4 k23.out)
      have hB4 := Aside0.mk (hB3.out.trans (hb4.mono hB3.out.size))
      have hcell4 : ∀ j, j < ids.length → w4.cell? ⟨g4, 0 + j, none⟩ = some (.int .i64 (ids.getD j 0)) := by
        obtain ⟨_, _, e9, _, hC9⟩ := Kd.R_reads hR4
        injection e9 with e9
        intro j hj
        obtain ⟨ad, e8, h8⟩ := Kd.at_int (e9 ▸ hC9) (j : Int) (by omega) (by omega)
        injection e8 with e8
        rw [← e8, add_at, Int.toNat_natCast] at h8
        rw [h8]; unfold Go.Proofs.YtpnjhffnlafabaaW.PrintWords.rd; rw [Int.toNat_natCast]
      have hmaxc := Try.slices_Max_int g4 0 ids.length cap4 ids w4 (by rw [hidl.out]; omega) (Nat.le_refl _) (by rw [hidl.out]; omega) hcell4
      rw [List.take_of_length_le (Nat.le_refl _), hmx2.out] at hmaxc
      replace c0 := pw_cell_below hb4 c0
      replace c1 := pw_cell_below hb4 c1
      clear hb4 hR4 hcell4 hrow4 hg4 k43 k23
      replace hmaxc := Aside0.mk hmaxc
      go_wp2_with fail
      with_reducible refine hmaxc.out.mono ?_
      rintro e w5 ⟨rfl, rfl⟩
      have hwr : IntKind.i64.wrap (mx + a) = mx + a := by rw [IntKind.wrap_i64]; omega
      by_cases r6 : 1048576 < mx + a
      case pos =>
        have hr : Aside0 (renameOf (xs.map gOf) (ts.map tOf) a = (6, [], [])) := ⟨by rw [hren.out, if_pos r6]⟩
        go_wp2_with (first
          | ((with_reducible refine gate_op (.store 25 (.tmp 4) (.tmp 30)) rfl ?_); refine wpList_store_midB rfl _ _ _ rfl b4 0 [.slice none 0 0, .slice none 0 0] rfl rfl 25 [.slice none 0 0, .slice none 0 0] k44.out info_S (Nat.le_refl _) one2 ?_; have k7 := KeepF.setRow w5 b4 (splice [Value.slice none 0 0, .slice none 0 0] 0 [.slice none 0 0, .slice none 0 0]).toArray; have h7 := setRow_heap w5 b4 _ (splice [Value.slice none 0 0, .slice none 0 0] 0 [.slice none 0 0, .slice none 0 0]).toArray 25 _ k44.out; rw [splice_all _ _ (by rfl)] at k7 h7; revert k7 h7; rw [splice_all _ _ (by rfl)]; generalize w5.setRow b4 _ = w7; intro k7 h7; replace k7 := Aside0.mk k7; replace h7 := Aside0.mk h7))
        refine bodyPost_ret (results_scene rfl rfl h7.out rfl) rfl ?_
        exact RenPost.odd hr.out (by decide) (hB4.out.trans (k7.out.to_below hB4.out.size (fun i hi => by rw [hi]; exact h4w.out)))
      case neg =>
        have hr : Aside0 (renameOf (xs.map gOf) (ts.map tOf) a = (0, renL a (xs.map gOf), (ts.map tOf).map (renT a))) := ⟨by rw [hren.out, if_neg r6]⟩
        have hCG : ∀ W, Below w.heap.size w W → _ := fun W hW => cloneG (some ⟨bG, oG, none⟩) n c xs W (Kd.C_below HG.out hW) hn0 hn1
        have hCT : ∀ W, Below w.heap.size w W → _ := fun W hW => cloneT B m d ts W (Kd.C_below HT.out hW) hB.out hm1
        replace hCG := Aside0.mk hCG; replace hCT := Aside0.mk hCT
        clear hmaxc hren
        have hB5 : Aside0 (Below w.heap.size w w5.drew) := ⟨hB4.out.drew⟩
        have hb4l : Aside0 (b4 < w5.heap.size) := ⟨lt_row k44.out⟩
        have n1 := World.new_ne w5 _ c0
        have n2 := World.new_ne w5 _ c1
        go_upto_region 8 with fail
        go_cut [7] from 11 (fun t7 wx => ∃ (b7 g cg : Nat) (B' : Option Addr) (cd : Nat), t7 = .pointer (some ⟨b7, 0, none⟩) ∧ Aside0 (wx.heap[b7]? = some (.cells #[.slice (some ⟨g, 0, none⟩) n cg, .slice B' m cd] 25 (0, 0))) ∧ Aside0 (wx.heap[b4]? = some (.cells #[.slice none 0 0, .slice none 0 0] 25 (0, 0))) ∧ Aside0 (n ≤ cg ∧ m ≤ cd ∧ b4 ≠ b7) ∧ Aside0 (HoldsK gC 6 wx g 0 xs.toArray ∧ w5.heap.size ≤ g ∧ g ≠ b7) ∧ Aside0 ((B' = none ∧ m = 0) ∨ ∃ g2, B' = some ⟨g2, 0, none⟩ ∧ w5.heap.size ≤ g2 ∧ g2 ≠ g ∧ g2 ≠ b7 ∧ HoldsK tC 8 wx g2 0 ts.toArray ∧ g2 < wx.heap.size) ∧ Aside0 (Below w.heap.size w wx) ∧ Aside0 (w5.heap.size ≤ b7))
        case first =>
          have ba5 := below_alloc (Below.refl w5.heap.size w5) (.cells #[.slice none 0 0, .slice none 0 0] 25)
          have s5 : (w5.alloc (.cells #[.slice none 0 0, .slice none 0 0] 25)).heap.size = w5.heap.size + 1 := by simp
          have hBa : Aside0 (Below w.heap.size w (w5.alloc (.cells #[.slice none 0 0, .slice none 0 0] 25)).drew) := ⟨(hB4.out.trans (ba5.mono hB4.out.size)).drew⟩
          have ra5 := heap_alloc_same w5 (.cells #[.slice none 0 0, .slice none 0 0] 25)
          replace ba5 := Aside0.mk ba5; replace s5 := Aside0.mk s5; replace ra5 := Aside0.mk ra5
          go_region_held3 (fun w' => w'.cell? ⟨b2, 0, none⟩ = some (.slice (some ⟨bG, oG, none⟩) n c) ∧ w'.cell? ⟨b2, 1, none⟩ = some (.slice B m d)) (first | (with_reducible exact ⟨c0, c1⟩) | (with_reducible exact ⟨c010, c110⟩) | (with_reducible exact ⟨c011, c111⟩) | go_keep)
            (first
              | (go_at_call 42; (with_reducible refine (hCG.out w5.drew hB5.out).mono ?_); rintro e w10 ⟨g, cg, rfl, q1, q2, q3, q4, hb10⟩; have c010 := pw_cell_below hb10 (show w5.drew.cell? _ = _ from c0); have c110 := pw_cell_below hb10 (show w5.drew.cell? _ = _ from c1); have hz10 : w5.heap.size ≤ g := q1; have hB10 := Aside0.mk (hB5.out.trans (hb10.mono hB5.out.size)); have n10 := World.new_ne w10 _ c010; have n11 := World.new_ne w10 _ c110; have ba10 := below_alloc (Below.refl w10.heap.size w10) (.cells #[.slice none 0 0, .slice none 0 0] 25); have hBa10 : Aside0 (Below w.heap.size w (w10.alloc (.cells #[.slice none 0 0, .slice none 0 0] 25))) := ⟨hB10.out.trans (ba10.mono hB10.out.size)⟩; have ra10 := heap_alloc_same w10 (.cells #[.slice none 0 0, .slice none 0 0] 25); have hk10 : ∀ k, k < w5.heap.size → w10.heap[k]? = w5.heap[k]? := (fun k hk => hb10.block k hk); have hs10 : w5.heap.size ≤ w10.heap.size := hb10.size; replace hz10 := Aside0.mk hz10; replace q2 := Aside0.mk q2; replace q3 := Aside0.mk q3; replace q4 := Aside0.mk q4; replace hb10 := Aside0.mk hb10; replace ba10 := Aside0.mk ba10; replace ra10 := Aside0.mk ra10; replace hk10 := Aside0.mk hk10; replace hs10 := Aside0.mk hs10; clear q1)
              | (go_at_call 42; refine (hCG.out (w5.alloc (.cells #[.slice none 0 0, .slice none 0 0] 25)).drew hBa.out).mono ?_; rintro e w10 ⟨g, cg, rfl, q1, q2, q3, q4, hb10⟩; have c010 := pw_cell_below hb10 (pw_cell_below ba5.out c0); have c110 := pw_cell_below hb10 (pw_cell_below ba5.out c1); have hz10 : w5.heap.size + 1 ≤ g := (by have := s5.out; rw [← this]; exact q1); have hB10 := Aside0.mk (hBa.out.trans (hb10.mono hBa.out.size)); have h7a := Aside0.mk ((hb10.block w5.heap.size (by show _ < (w5.alloc (.cells #[.slice none 0 0, .slice none 0 0] 25)).heap.size; rw [s5.out]; omega)).trans ra5.out); have hk10 : ∀ k, k < w5.heap.size → w10.heap[k]? = w5.heap[k]? := (fun k hk => (hb10.block k (by show _ < (w5.alloc (.cells #[.slice none 0 0, .slice none 0 0] 25)).heap.size; rw [s5.out]; omega)).trans (ba5.out.block k hk)); have hs10 : w5.heap.size < w10.heap.size := (by have h1 := hb10.size; have h2 := s5.out; rw [← Nat.succ_le_iff]; show w5.heap.size + 1 ≤ _; rw [← h2]; exact h1); replace hz10 := Aside0.mk hz10; replace q2 := Aside0.mk q2; replace q3 := Aside0.mk q3; replace q4 := Aside0.mk q4; replace hb10 := Aside0.mk hb10; replace hk10 := Aside0.mk hk10; replace hs10 := Aside0.mk hs10; clear q1)
              | (go_at_call 36; (with_reducible refine (hCT.out w10 hB10.out).mono ?_); rintro e w11 ⟨B', cd, rfl, p1, p2, hb11⟩; have c011 := pw_cell_below hb11 c010; have c111 := pw_cell_below hb11 c110; have hB11 := Aside0.mk (hB10.out.trans (hb11.mono hB10.out.size)); have n20 := World.new_ne w11 _ c011; have n21 := World.new_ne w11 _ c111; have hG11 := Aside0.mk (holdsK_block q4.out (hb11.block g q2.out)); have hk11 : ∀ k, k < w5.heap.size → w11.heap[k]? = w5.heap[k]? := (fun k hk => (hb11.block k (by have := hs10.out; omega)).trans (hk10.out k hk)); (try (have h7b := (hb11.block _ (lt_row h7a.out)).trans h7a.out; have d0 := (cell_row h7b 0).trans (rfl : _ = some (Value.slice none 0 0)); have d1 := (cell_row h7b 1).trans (rfl : _ = some (Value.slice none 0 0)); have d2 := frozen_row h7b 0; have d3 := frozen_row h7b 1; replace h7b := Aside0.mk h7b)); replace p1 := Aside0.mk p1; replace p2 := Aside0.mk p2; replace hb11 := Aside0.mk hb11; replace hk11 := Aside0.mk hk11)
              | (go_at_call 36; refine (hCT.out (w10.alloc (.cells #[.slice none 0 0, .slice none 0 0] 25)) hBa10.out).mono ?_; rintro e w11 ⟨B', cd, rfl, p1, p2, hb11⟩; have c011 := pw_cell_below hb11 (pw_cell_below ba10.out c010); have c111 := pw_cell_below hb11 (pw_cell_below ba10.out c110); have hB11 := Aside0.mk (hBa10.out.trans (hb11.mono hBa10.out.size)); have s10 : (w10.alloc (.cells #[.slice none 0 0, .slice none 0 0] 25)).heap.size = w10.heap.size + 1 := (by simp); have h7b := (hb11.block w10.heap.size (by rw [s10]; omega)).trans ra10.out; have d0 := (cell_row h7b 0).trans (rfl : _ = some (Value.slice none 0 0)); have d1 := (cell_row h7b 1).trans (rfl : _ = some (Value.slice none 0 0)); have d2 := frozen_row h7b 0; have d3 := frozen_row h7b 1; have hG11 := Aside0.mk (holdsK_block q4.out ((hb11.block g (by have := q2.out; rw [s10]; omega)).trans (ba10.out.block g q2.out))); have hk11 : ∀ k, k < w5.heap.size → w11.heap[k]? = w5.heap[k]? := (fun k hk => ((hb11.block k (by have := hs10.out; rw [s10]; omega)).trans (ba10.out.block k (by have := hs10.out; omega))).trans (hk10.out k hk)); replace h7b := Aside0.mk h7b; replace p1 := Aside0.mk p1; replace p2 := Aside0.mk p2; replace hb11 := Aside0.mk hb11; replace hk11 := Aside0.mk hk11; replace s10 := Aside0.mk s10))
          all_goals go_wp2_with fail
          all_goals go_meet
          · obtain ⟨r1, r2, r3, r4⟩ := two_new (v0 := .slice (some ⟨g, 0, none⟩) n cg) (v1 := .slice B' m cd) hB11.out hB11.out.size
            have hgl : g < w11.heap.size := by have := q2.out; have := hb11.out.size; omega
            have h75 : w5.heap.size ≤ w11.heap.size := by have := hs10.out; have := hb11.out.size; omega
            have hgb : g ≠ w11.heap.size := by omega
            have hp : ∀ g2, w10.heap.size ≤ g2 → g2 < w11.heap.size → g2 ≠ w11.heap.size ∧ g2 ≠ g ∧ w5.heap.size ≤ g2 := fun g2 h1 h2 => by have := q2.out; have := hs10.out; omega
            have h4l : b4 < w11.heap.size := by have := hb4l.out; have := hs10.out; have := hb11.out.size; (try simp at this); omega
            have h4n : b4 ≠ w11.heap.size := by have := hb4l.out; have := h75; omega
            refine ⟨w11.heap.size, g, cg, B', cd, rfl, ⟨r1⟩, ⟨(r3 b4 h4l h4n).trans ((hk11.out b4 hb4l.out).trans k44.out)⟩, ⟨q3.out, p1.out, h4n⟩, ⟨holdsK_block hG11.out (r3 g hgl hgb), by have := hz10.out; omega, hgb⟩, ⟨?_⟩, ⟨r2⟩, ⟨h75⟩⟩
            rcases p2.out with h9 | ⟨g2, e9, l1, l2, l3⟩
            · exact .inl h9
            · obtain ⟨x1, x2, x3⟩ := hp g2 l1 l2
              exact .inr ⟨g2, e9, x3, x2, x1, holdsK_block l3 (r3 g2 l2 x1), Nat.lt_of_lt_of_le l2 r4⟩
          · obtain ⟨r1, r2, r3, r4⟩ := two_set (v0 := .slice (some ⟨g, 0, none⟩) n cg) (v1 := .slice B' m cd) h7b.out hB11.out (by have := hB10.out.size; omega)
            have h11s : w10.heap.size + 1 ≤ w11.heap.size := by have h1 := hb11.out.size; have h2 := s10.out; rw [← h2]; exact h1
            have hgl : g < w11.heap.size := by have := q2.out; omega
            have h75 : w5.heap.size ≤ w10.heap.size := by have := hs10.out; omega
            have hgb : g ≠ w10.heap.size := by have := q2.out; omega
            have hp : ∀ g2, (w10.alloc (.cells #[.slice none 0 0, .slice none 0 0] 25)).heap.size ≤ g2 → g2 < w11.heap.size → g2 ≠ w10.heap.size ∧ g2 ≠ g ∧ w5.heap.size ≤ g2 := fun g2 h1 h2 => by rw [s10.out] at h1; have := q2.out; have := hs10.out; omega
            have h4l : b4 < w11.heap.size := by have := hb4l.out; have := hs10.out; have := hb11.out.size; (try simp at this); omega
            have h4n : b4 ≠ w10.heap.size := by have := hb4l.out; have := h75; omega
            refine ⟨w10.heap.size, g, cg, B', cd, rfl, ⟨r1⟩, ⟨(r3 b4 h4l h4n).trans ((hk11.out b4 hb4l.out).trans k44.out)⟩, ⟨q3.out, p1.out, h4n⟩, ⟨holdsK_block hG11.out (r3 g hgl hgb), by have := hz10.out; omega, hgb⟩, ⟨?_⟩, ⟨r2⟩, ⟨h75⟩⟩
            rcases p2.out with h9 | ⟨g2, e9, l1, l2, l3⟩
            · exact .inl h9
            · obtain ⟨x1, x2, x3⟩ := hp g2 l1 l2
              exact .inr ⟨g2, e9, x3, x2, x1, holdsK_block l3 (r3 g2 l2 x1), Nat.lt_of_lt_of_le l2 r4⟩
          · obtain ⟨r1, r2, r3, r4⟩ := two_set (v0 := .slice (some ⟨g, 0, none⟩) n cg) (v1 := .slice B' m cd) h7b.out hB11.out hB4.out.size
            have hgl : g < w11.heap.size := by have := q2.out; have := hb11.out.size; omega
            have h75 : w5.heap.size ≤ w5.heap.size := Nat.le_refl _
            have hgb : g ≠ w5.heap.size := by have := hz10.out; omega
            have hp : ∀ g2, w10.heap.size ≤ g2 → g2 < w11.heap.size → g2 ≠ w5.heap.size ∧ g2 ≠ g ∧ w5.heap.size ≤ g2 := fun g2 h1 h2 => by have := q2.out; have := hs10.out; omega
            have h4l : b4 < w11.heap.size := by have := hb4l.out; have := hs10.out; have := hb11.out.size; (try simp at this); omega
            have h4n : b4 ≠ w5.heap.size := by have := hb4l.out; have := h75; omega
            refine ⟨w5.heap.size, g, cg, B', cd, rfl, ⟨r1⟩, ⟨(r3 b4 h4l h4n).trans ((hk11.out b4 hb4l.out).trans k44.out)⟩, ⟨q3.out, p1.out, h4n⟩, ⟨holdsK_block hG11.out (r3 g hgl hgb), by have := hz10.out; omega, hgb⟩, ⟨?_⟩, ⟨r2⟩, ⟨h75⟩⟩
            rcases p2.out with h9 | ⟨g2, e9, l1, l2, l3⟩
            · exact .inl h9
            · obtain ⟨x1, x2, x3⟩ := hp g2 l1 l2
              exact .inr ⟨g2, e9, x3, x2, x1, holdsK_block l3 (r3 g2 l2 x1), Nat.lt_of_lt_of_le l2 r4⟩
        case rest =>
          obtain ⟨b7, g, cg, B', cd, rfl, k7, k4, hq, hGs, hTs, hBc, hb75⟩ := hcut
          obtain ⟨hq1, hq2, hq3⟩ := hq.out
          obtain ⟨hG0, hg5, hgb⟩ := hGs.out
          have L1 := Aside0.mk (renSL_len a xs)
          have e0 := (cell_row k7.out 0).trans (rfl : _ = some (Value.slice (some ⟨g, 0, none⟩) n cg))
          have e1 := (cell_row k7.out 1).trans (rfl : _ = some (Value.slice B' m cd))
          have hb7w : Aside0 (w.heap.size ≤ b7) := ⟨by have := hb75.out; have := hB4.out.size; omega⟩
          have hgw : Aside0 (w.heap.size ≤ g) := ⟨by have := hB4.out.size; omega⟩
          have h4g : Aside0 (b4 ≠ g) := ⟨by have := hb4l.out; omega⟩
          have hG0' : Aside0 (HoldsK gC 6 wc g 0 (mixd (renSL a xs) xs 0).toArray) := ⟨by rw [mixd_zero]; exact hG0⟩
          clear hGs hq c0 c1 n1 n2 hG0 hCG hCT
          replace hq1 := Aside0.mk hq1; replace hq2 := Aside0.mk hq2; replace hq3 := Aside0.mk hq3; replace hg5 := Aside0.mk hg5; replace hgb := Aside0.mk hgb
          go_wp2_with fail
          go_loopw [8, 9, 41] (fun v8 v9 iv wr => ∃ k : Nat, iv = .int .i64 k ∧ k ≤ n ∧ Aside0 (HoldsK gC 6 wr g 0 (mixd (renSL a xs) xs k).toArray) ∧ Aside0 (KeepF (fun i => i = g) wc wr)) (fun _ _ iv _ => n - (intOf iv).toNat)
          case atStart => exact ⟨0, rfl, Nat.zero_le _, hG0', ⟨KeepF.refl _ _⟩⟩
          case round =>
            obtain ⟨k, rfl, hk, hGr, hKr⟩ := hrel
            by_cases hlt : k < n
            · have p1 : 0 ≤ (k : Int) := by omega
              have q1 : (k : Int) < (n : Int) := by omega
              obtain ⟨x, hx⟩ : ∃ x, xs[k]? = some x := ⟨_, List.getElem?_eq_getElem (by rw [hln.out]; exact hlt)⟩
              have hxm : (mixd (renSL a xs) xs k)[k]? = some x := by rw [mixd_get L1.out (by rw [hln.out]; exact hlt)]; exact hx
              have hxF : gOf x ∈ xs.map gOf := List.mem_map.2 ⟨x, List.mem_of_getElem? hx, rfl⟩
              have hid := within1_iff.1 (oddG_id (F.out.og _ hxF))
              have hpar : x.f1 = 0 ∨ (1 ≤ x.f1 ∧ x.f1 ≤ 1048576) := by
                by_cases h : x.f1 = 0
                · exact .inl h
                · obtain ⟨y, hy, hye⟩ := List.mem_map.1 (F.out.par _ hxF h)
                  have := within1_iff.1 (oddG_id (F.out.og y hy))
                  rw [hye] at this; exact .inr this
              obtain ⟨x0, hx0⟩ : ∃ x0, x.f0 = x0 := ⟨_, rfl⟩
              obtain ⟨x1, hx1⟩ : ∃ x1, x.f1 = x1 := ⟨_, rfl⟩
              obtain ⟨y0, y0f⟩ := holdsK_cell gC_len hGr.out hxm (i := 0) (u := .int .i64 x0) (by rw [← hx0]; rfl)
              obtain ⟨y1, y1f⟩ := holdsK_cell gC_len hGr.out hxm (i := 1) (u := .int .i64 x1) (by rw [← hx1]; rfl)
              rw [Nat.add_zero] at y0 y0f
              have hid : 1 ≤ x0 ∧ x0 ≤ 1048576 := by rw [← hx0]; exact hid
              rw [hx1] at hpar
              obtain ⟨hid1, hid2⟩ := hid
              have z0 : IntKind.i64.wrap (x0 + a) = x0 + a := by rw [IntKind.wrap_i64]; omega
              have z1 : IntKind.i64.wrap (x1 + a) = x1 + a := by rw [IntKind.wrap_i64]; omega
              have er0 : wr.cell? ⟨b7, 0, none⟩ = some (.slice (some ⟨g, 0, none⟩) n cg) := keepF_cell hKr.out e0 (fun e => hgb.out e.symm)
              have hs1 := holdsK_put gC_len hGr.out hxm (i := 0) (x' := ⟨x0 + a, x.f1, x.f2, x.f3⟩) (v := .int .i64 (x0 + a)) (by decide) rfl
              rw [Nat.add_zero] at hs1
              replace hx := Aside0.mk hx; replace hxm := Aside0.mk hxm; replace hxF := Aside0.mk hxF; replace hpar := Aside0.mk hpar; replace hx0 := Aside0.mk hx0; replace hx1 := Aside0.mk hx1; replace hs1 := Aside0.mk hs1
              by_cases hk0 : k = 0
              · have z9 : ¬ (0 : Int) < (k : Int) := by omega
                have hren : Aside0 ((renSL a xs)[k]? = some ⟨x0 + a, x.f1, x.f2, x.f3⟩) := ⟨by rw [renSL_get a hx.out, ← hx0.out, hk0]; rfl⟩
                replace hk0 := Aside0.mk hk0
                go_wp2_with (first
                  | ((with_reducible refine gate_op (.store 3 (.tmp 55) (.tmp 53)) rfl ?_); refine storeCell_event rfl _ _ _ rfl ⟨g, k * 6, none⟩ (.int .i64 (x0 + a)) (.int .i64 x0) rfl rfl rfl y0 y0f info_int1 rfl rfl ?_; have kf1 := KeepF.setCell wr ⟨g, k * 6, none⟩ (.int .i64 (x0 + a)); have hs1' := hs1.out; clear hs1; generalize wr.setCell _ _ = W1 at kf1 hs1' ⊢; replace kf1 := Aside0.mk kf1; replace hs1' := Aside0.mk hs1'))
                go_roundw
                case rel => exact ⟨k + 1, by simp, by omega, ⟨by rw [← mixd_set L1.out hren.out]; exact hs1'.out⟩, ⟨hKr.out.trans kf1.out (fun i _ h => h)⟩⟩
                case measure => show n - ((k : Int) + 1).toNat < n - (k : Int).toNat; omega
              · have z9 : (0 : Int) < (k : Int) := by omega
                have hren : Aside0 ((renSL a xs)[k]? = some ⟨x0 + a, x1 + a, x.f2, x.f3⟩) := ⟨by rw [renSL_get a hx.out, ← hx0.out, ← hx1.out, decide_eq_false hk0]; rfl⟩
                have y1' : (wr.setCell ⟨g, k * 6, none⟩ (.int .i64 (x0 + a))).cell? ⟨g, k * 6 + 1, none⟩ = some (.int .i64 x1) := by rw [cell_set y0, if_neg (by omega)]; exact y1
                have y1f' : (wr.setCell ⟨g, k * 6, none⟩ (.int .i64 (x0 + a))).frozen? ⟨g, k * 6 + 1, none⟩ = false := by rw [frozen_set]; exact y1f
                have hkl : k < (mixd (renSL a xs) xs k).length := by rw [mixd_len L1.out, hln.out]; exact hlt
                replace y1' := Aside0.mk y1'; replace y1f' := Aside0.mk y1f'; replace hkl := Aside0.mk hkl
                go_wp2_with (first
                  | ((with_reducible refine gate_op (.store 3 (.tmp 55) (.tmp 53)) rfl ?_); refine storeCell_event rfl _ _ _ rfl ⟨g, k * 6, none⟩ (.int .i64 (x0 + a)) (.int .i64 x0) rfl rfl rfl y0 y0f info_int1 rfl rfl ?_; have kf1 := KeepF.setCell wr ⟨g, k * 6, none⟩ (.int .i64 (x0 + a)); have hs1' := hs1.out; have q1' := y1'.out; have q1f' := y1f'.out; clear hs1 y1' y1f'; generalize wr.setCell _ _ = W1 at kf1 hs1' q1' q1f' ⊢; have hs2 := holdsK_put gC_len hs1' (List.getElem?_set_self hkl.out) (i := 1) (x' := ⟨x0 + a, x1 + a, x.f2, x.f3⟩) (v := .int .i64 (x1 + a)) (by decide) rfl; rw [List.set_set] at hs2; replace kf1 := Aside0.mk kf1; replace hs1' := Aside0.mk hs1'; replace hs2 := Aside0.mk hs2)
                  | ((with_reducible refine gate_op (.store 3 (.tmp 65) (.tmp 63)) rfl ?_); refine storeCell_event rfl _ _ _ rfl ⟨g, k * 6 + 1, none⟩ (.int .i64 (x1 + a)) (.int .i64 x1) rfl rfl rfl q1' q1f' info_int1 rfl rfl ?_; have kf2 := KeepF.setCell W1 ⟨g, k * 6 + 1, none⟩ (.int .i64 (x1 + a)); have hs2' := hs2.out; clear hs2; generalize W1.setCell _ _ = W2 at kf2 hs2' ⊢; replace kf2 := Aside0.mk kf2; replace hs2' := Aside0.mk hs2'))
                go_roundw
                case rel => exact ⟨k + 1, by simp, by omega, ⟨by rw [← mixd_set L1.out hren.out]; exact hs2'.out⟩, ⟨(hKr.out.trans kf1.out (fun i _ h => h)).trans kf2.out (fun i _ h => h)⟩⟩
                case measure => show n - ((k : Int) + 1).toNat < n - (k : Int).toNat; omega
            · obtain rfl : n = k := by omega
              have hGn : Aside0 (HoldsK gC 6 wr g 0 (renSL a xs).toArray) := ⟨by have := hGr.out; rw [← hln.out, mixd_all L1.out] at this; exact this⟩
              have er1 : wr.cell? ⟨b7, 1, none⟩ = some (.slice B' m cd) := keepF_cell hKr.out e1 (fun e => hgb.out e.symm)
              have er0 : wr.cell? ⟨b7, 0, none⟩ = some (.slice (some ⟨g, 0, none⟩) n cg) := keepF_cell hKr.out e0 (fun e => hgb.out e.symm)
              have k7r : Aside0 (wr.heap[b7]? = some (.cells #[.slice (some ⟨g, 0, none⟩) n cg, .slice B' m cd] 25 (0, 0))) := ⟨(hKr.out.block b7 (lt_row k7.out) (fun e => hgb.out e.symm)).trans k7.out⟩
              have k4r : Aside0 (wr.heap[b4]? = some (.cells #[.slice none 0 0, .slice none 0 0] 25 (0, 0))) := ⟨(hKr.out.block b4 (lt_row k4.out) (fun e => h4g.out e)).trans k4.out⟩
              have hBr : Aside0 (Below w.heap.size w wr) := ⟨hBc.out.trans (hKr.out.to_below hBc.out.size (fun i hi => by rw [hi]; exact hgw.out))⟩
              have L2 : Aside0 ((ts.map (renST a)).length = ts.length) := ⟨by rw [List.length_map]⟩
              have hfin : ∀ W : World, Below w.heap.size w W → HoldsK gC 6 W g 0 (renSL a xs).toArray → (B' = none ∧ m = 0 ∨ ∃ g2, B' = some ⟨g2, 0, none⟩ ∧ HoldsK tC 8 W g2 0 (ts.map (renST a)).toArray) → RenPost xs ts a w (.returned (.tuple #[.agg #[.slice (some ⟨g, 0, none⟩) n cg, .slice B' m cd], .int .i64 0])) W := by
                intro W hW hg hb
                have l1 : (renSL a xs).length = n := by rw [L1.out, hln.out]
                have l2 : (ts.map (renST a)).length = m := by rw [L2.out, hlm.out]
                refine ⟨some ⟨g, 0, none⟩, cg, B', cd, renSL a xs, ts.map (renST a), 0, by rw [l1, l2], by rw [l1]; exact hq1.out, by rw [l2]; exact hq2.out, ?_, ?_, ?_, ?_, fun _ => ⟨rfl, rfl⟩, hW⟩
                · exact C_holds (κ := kG) gC_len (fun w x => k41_mk w x) hg (by rw [l1]; omega)
                · rcases hb with ⟨h1, h2⟩ | ⟨g2, h1, h2⟩
                  · rw [h1]
                    have h0 : ts = [] := List.length_eq_zero_iff.1 (by rw [hlm.out]; exact h2)
                    rw [h0]; exact kT_none _
                  · rw [h1]; exact C_holds (κ := kT) tC_len (fun w x => k46_mk w x) h2 (by rw [l2]; omega)
                · intro ad had
                  rcases hb with ⟨h1, _⟩ | ⟨g2, h1, _⟩
                  · rw [h1] at had; cases had
                  · rw [h1] at had; injection had with had; rw [← had]
                · rw [hr.out, renSL_map, renST_map]
              have hT2 : Aside0 (B' = none ∧ m = 0 ∨ ∃ g2, B' = some ⟨g2, 0, none⟩ ∧ w5.heap.size ≤ g2 ∧ g2 ≠ g ∧ g2 ≠ b7 ∧ HoldsK tC 8 wr g2 0 (mixd (ts.map (renST a)) ts 0).toArray ∧ g2 < wr.heap.size) := by
                refine ⟨hTs.out.imp id ?_⟩
                rintro ⟨g2, h1, h2, h3, h4, h5, h6⟩
                refine ⟨g2, h1, h2, h3, h4, ?_, Nat.lt_of_lt_of_le h6 hKr.out.size⟩
                rw [mixd_zero]; exact holdsK_block h5 (hKr.out.block g2 h6 h3)
              clear hGr hKr e0 e1 k7 k4 hTs hBc hG0'
              replace hfin := Aside0.mk hfin
              obtain ⟨wq, rfl⟩ : ∃ wq, wq = wr := ⟨_, rfl⟩
              go_wp2_with fail
              go_loopw [10, 70] (fun v10 iv wt => ∃ k : Nat, iv = .int .i64 k ∧ k ≤ m ∧ Aside0 ((B' = none ∧ m = 0 ∧ wt = wq) ∨ ∃ g2, B' = some ⟨g2, 0, none⟩ ∧ w5.heap.size ≤ g2 ∧ g2 ≠ g ∧ g2 ≠ b7 ∧ HoldsK tC 8 wt g2 0 (mixd (ts.map (renST a)) ts k).toArray ∧ KeepF (fun i => i = g2) wq wt)) (fun _ iv _ => m - (intOf iv).toNat)
              case atStart =>
                refine ⟨0, rfl, Nat.zero_le _, ⟨hT2.out.imp (fun h => ⟨h.1, h.2, rfl⟩) ?_⟩⟩
                rintro ⟨g2, h1, h2, h3, h4, h5, h6⟩
                exact ⟨g2, h1, h2, h3, h4, h5, KeepF.refl _ _⟩
              case round =>
                obtain ⟨k, rfl, hk, hTr⟩ := hrel
                by_cases hlt : k < m
                · have p1 : 0 ≤ (k : Int) := by omega
                  have q1 : (k : Int) < (m : Int) := by omega
                  rcases hTr.out with ⟨_, h0, _⟩ | ⟨g2, rfl, hg25, hg2g, hg2b, hTk, hKt⟩
                  · omega
                  obtain ⟨x, hx⟩ : ∃ x, ts[k]? = some x := ⟨_, List.getElem?_eq_getElem (by rw [hlm.out]; exact hlt)⟩
                  have hxm : (mixd (ts.map (renST a)) ts k)[k]? = some x := by rw [mixd_get L2.out (by rw [hlm.out]; exact hlt)]; exact hx
                  have hxF : tOf x ∈ ts.map tOf := List.mem_map.2 ⟨x, List.mem_of_getElem? hx, rfl⟩
                  have hid := within1_iff.1 (oddT_id (F.out.ot _ hxF))
                  obtain ⟨y, hy, hye⟩ := List.mem_map.1 (F.out.grp _ hxF)
                  have hgr := within1_iff.1 (oddG_id (F.out.og y hy))
                  rw [hye] at hgr
                  obtain ⟨x0, hx0⟩ : ∃ x0, x.f0 = x0 := ⟨_, rfl⟩
                  obtain ⟨x1, hx1⟩ : ∃ x1, x.f1 = x1 := ⟨_, rfl⟩
                  have hid : 1 ≤ x0 ∧ x0 ≤ 1048576 := by rw [← hx0]; exact hid
                  have hgr : 1 ≤ x1 ∧ x1 ≤ 1048576 := by rw [← hx1]; exact hgr
                  obtain ⟨hid1, hid2⟩ := hid
                  obtain ⟨hgr1, hgr2⟩ := hgr
                  obtain ⟨y0, y0f⟩ := holdsK_cell tC_len hTk hxm (i := 0) (u := .int .i64 x0) (by rw [← hx0]; rfl)
                  obtain ⟨y1, y1f⟩ := holdsK_cell tC_len hTk hxm (i := 1) (u := .int .i64 x1) (by rw [← hx1]; rfl)
                  rw [Nat.add_zero] at y0 y0f
                  have z0 : IntKind.i64.wrap (x0 + a) = x0 + a := by rw [IntKind.wrap_i64]; omega
                  have z1 : IntKind.i64.wrap (x1 + a) = x1 + a := by rw [IntKind.wrap_i64]; omega
                  have es1 : wr.cell? ⟨b7, 1, none⟩ = some (.slice (some ⟨g2, 0, none⟩) m cd) := keepF_cell hKt er1 (fun e => hg2b e.symm)
                  have hs1 := holdsK_put tC_len hTk hxm (i := 0) (x' := ⟨x0 + a, x.f1, x.f2, x.f3, x.f4, x.f5, x.f6⟩) (v := .int .i64 (x0 + a)) (by decide) rfl
                  rw [Nat.add_zero] at hs1
                  have y1' : (wr.setCell ⟨g2, k * 8, none⟩ (.int .i64 (x0 + a))).cell? ⟨g2, k * 8 + 1, none⟩ = some (.int .i64 x1) := by rw [cell_set y0, if_neg (by omega)]; exact y1
                  have y1f' : (wr.setCell ⟨g2, k * 8, none⟩ (.int .i64 (x0 + a))).frozen? ⟨g2, k * 8 + 1, none⟩ = false := by rw [frozen_set]; exact y1f
                  have hkl : k < (mixd (ts.map (renST a)) ts k).length := by rw [mixd_len L2.out, hlm.out]; exact hlt
                  have hren : Aside0 ((ts.map (renST a))[k]? = some ⟨x0 + a, x1 + a, x.f2, x.f3, x.f4, x.f5, x.f6⟩) := ⟨by rw [List.getElem?_map, hx, ← hx0, ← hx1]; rfl⟩
                  replace hx := Aside0.mk hx; replace hxm := Aside0.mk hxm; replace hxF := Aside0.mk hxF; replace hx0 := Aside0.mk hx0; replace hx1 := Aside0.mk hx1; replace hs1 := Aside0.mk hs1; replace y1' := Aside0.mk y1'; replace y1f' := Aside0.mk y1f'; replace hkl := Aside0.mk hkl; replace hTk := Aside0.mk hTk; replace hKt := Aside0.mk hKt; replace hg25 := Aside0.mk hg25; replace hg2g := Aside0.mk hg2g; replace hg2b := Aside0.mk hg2b
                  go_wp2_with (first
                    | ((with_reducible refine gate_op (.store 3 (.tmp 82) (.tmp 80)) rfl ?_); refine storeCell_event rfl _ _ _ rfl ⟨g2, k * 8, none⟩ (.int .i64 (x0 + a)) (.int .i64 x0) rfl rfl rfl y0 y0f info_int1 rfl rfl ?_; have kf1 := KeepF.setCell wr ⟨g2, k * 8, none⟩ (.int .i64 (x0 + a)); have hs1' := hs1.out; have q1' := y1'.out; have q1f' := y1f'.out; have es2 := keepF_cell kf1 es1 (fun e => hg2b.out e.symm); clear hs1 y1' y1f' es1; generalize wr.setCell _ _ = W1 at kf1 hs1' q1' q1f' es2 ⊢; have hs2 := holdsK_put tC_len hs1' (List.getElem?_set_self hkl.out) (i := 1) (x' := ⟨x0 + a, x1 + a, x.f2, x.f3, x.f4, x.f5, x.f6⟩) (v := .int .i64 (x1 + a)) (by decide) rfl; rw [List.set_set] at hs2; replace kf1 := Aside0.mk kf1; replace hs1' := Aside0.mk hs1'; replace hs2 := Aside0.mk hs2)
                    | ((with_reducible refine gate_op (.store 3 (.tmp 92) (.tmp 90)) rfl ?_); refine storeCell_event rfl _ _ _ rfl ⟨g2, k * 8 + 1, none⟩ (.int .i64 (x1 + a)) (.int .i64 x1) rfl rfl rfl q1' q1f' info_int1 rfl rfl ?_; have kf2 := KeepF.setCell W1 ⟨g2, k * 8 + 1, none⟩ (.int .i64 (x1 + a)); have hs2' := hs2.out; clear hs2; generalize W1.setCell _ _ = W2 at kf2 hs2' ⊢; replace kf2 := Aside0.mk kf2; replace hs2' := Aside0.mk hs2'))
                  go_roundw
                  case rel => exact ⟨k + 1, by simp, by omega, ⟨.inr ⟨g2, rfl, hg25.out, hg2g.out, hg2b.out, by rw [← mixd_set L2.out hren.out]; exact hs2'.out, (hKt.out.trans kf1.out (fun i _ h => h)).trans kf2.out (fun i _ h => h)⟩⟩⟩
                  case measure => show m - ((k : Int) + 1).toNat < m - (k : Int).toNat; omega
                · obtain rfl : m = k := by omega
                  have hTf : (B' = none ∧ m = 0 ∨ ∃ g2, B' = some ⟨g2, 0, none⟩ ∧ g2 ≠ b4 ∧ HoldsK tC 8 wr g2 0 (ts.map (renST a)).toArray) ∧ (∀ q, q < w5.heap.size ∨ q = g ∨ q = b7 → q < wq.heap.size → wr.heap[q]? = wq.heap[q]?) ∧ Below w.heap.size w wr := by
                    rcases hTr.out with ⟨h1, h2, h3⟩ | ⟨g2, h1, h2, h3, h4, h5, h6⟩
                    · subst h3
                      exact ⟨.inl ⟨h1, h2⟩, fun _ _ _ => rfl, hBr.out⟩
                    · refine ⟨.inr ⟨g2, h1, ?_, ?_⟩, fun q hq hl => h6.block q hl (fun e => ?_), hBr.out.trans (h6.to_below hBr.out.size (fun i hi => ?_))⟩
                      · have := hb4l.out; omega
                      · have e9 : mixd (ts.map (renST a)) ts m = ts.map (renST a) := by rw [← hlm.out]; exact mixd_all L2.out
                        rw [e9] at h5; exact h5
                      · have e : q = g2 := e
                        rcases hq with hq | hq | hq
                        · omega
                        · exact h3 (by rw [← e, hq])
                        · exact h4 (by rw [← e, hq])
                      · have hi : i = g2 := hi
                        have := hB4.out.size; omega
                  obtain ⟨f1, f2, f3⟩ := hTf
                  have k7w := (f2 b7 (.inr (.inr rfl)) (lt_row k7r.out)).trans k7r.out
                  have k4w := (f2 b4 (.inl hb4l.out) (lt_row k4r.out)).trans k4r.out
                  have hGw := holdsK_block hGn.out (f2 g (.inr (.inl rfl)) (by
                    have h9 := (hGn.out 0 (by rw [size_flatK]; have := L1.out; have := hln.out; simp; omega)).1
                    exact World.block_lt_of_cell? wq _ h9))
                  have g0 := (cell_row k7w 0).trans (rfl : _ = some (Value.slice (some ⟨g, 0, none⟩) n cg))
                  have g1 := (cell_row k7w 1).trans (rfl : _ = some (Value.slice B' m cd))
                  clear hTr er0 er1
                  replace f1 := Aside0.mk f1; replace f2 := Aside0.mk f2; replace f3 := Aside0.mk f3; replace k7w := Aside0.mk k7w; replace k4w := Aside0.mk k4w; replace hGw := Aside0.mk hGw
                  go_wp2_with (first
                    | ((with_reducible refine gate_op (.load 25 (.tmp 7)) rfl ?_); refine wpList_load_midB rfl _ _ rfl ⟨b7, 0, none⟩ rfl [.slice (some ⟨g, 0, none⟩) n cg, .slice B' m cd] _ (two_cells g0 g1) Try.underlying25 rfl info_S ?_)
                    | ((with_reducible refine gate_op (.store 25 (.tmp 4) (.tmp 94)) rfl ?_); refine wpList_store_midB rfl _ _ _ rfl b4 0 [.slice (some ⟨g, 0, none⟩) n cg, .slice B' m cd] rfl rfl 25 [.slice none 0 0, .slice none 0 0] k4w.out info_S (Nat.le_refl _) one2 ?_; have k9 := KeepF.setRow wr b4 (splice [Value.slice none 0 0, .slice none 0 0] 0 [.slice (some ⟨g, 0, none⟩) n cg, .slice B' m cd]).toArray; have h9 := setRow_heap wr b4 _ (splice [Value.slice none 0 0, .slice none 0 0] 0 [.slice (some ⟨g, 0, none⟩) n cg, .slice B' m cd]).toArray 25 _ k4w.out; rw [splice_all _ _ (by rfl)] at k9 h9; revert k9 h9; rw [splice_all _ _ (by rfl)]; generalize wr.setRow b4 _ = w9; intro k9 h9; replace k9 := Aside0.mk k9; replace h9 := Aside0.mk h9))
                  refine bodyPost_ret (results_scene rfl rfl h9.out rfl) rfl ?_
                  have hgl : g < wr.heap.size := World.block_lt_of_cell? wr _ (hGw.out 0 (by rw [size_flatK]; have := L1.out; have := hln.out; simp; omega)).1
                  refine hfin.out w9 (f3.out.trans (k9.out.to_below f3.out.size (fun i hi => by rw [hi]; exact h4w.out))) (holdsK_block hGw.out (k9.out.block g hgl (fun e => h4g.out e.symm))) (f1.out.imp id ?_)
                  rintro ⟨g2, h1, h2, h3⟩
                  refine ⟨g2, h1, ?_⟩
                  by_cases hm0 : 0 < m
                  · refine holdsK_block h3 (k9.out.block g2 (World.block_lt_of_cell? wr _ (h3 0 (by rw [size_flatK]; have := L2.out; have := hlm.out; simp; omega)).1) h2)
                  · intro j hj
                    rw [size_flatK] at hj
                    have := L2.out; have := hlm.out
                    simp at hj
                    omega
end Go.Proofs.Ytpnjhffnlafabaa.Sn
