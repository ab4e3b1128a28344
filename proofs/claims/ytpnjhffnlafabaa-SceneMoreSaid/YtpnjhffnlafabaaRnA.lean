/- Rename of package scene. -/
import Derived.Test.YtpnjhffnlafabaaScT
import Derived.Test.YtpnjhffnlafabaaSc6
import Derived.Laws.ResultCell
import Derived.Deep.CutRange
namespace Go.Proofs.Ytpnjhffnlafabaa.Sn
set_option linter.unusedVariables false
set_option linter.unusedSimpArgs false
open Go.RowKit Go.Sort Go.Shelf Go.Lib Go.Proofs.Bk Go.Proofs.Bm Go.Proofs.Op Go.Proofs.Sc Go.Proofs.Kf Go.Proofs.YtpnjhffnlafabaaW.PrintWords Go.Proofs.Ytpnjhffnlafabaa.PSceneOrders Go.Proofs.Ytpnjhffnlafabaa.St

theorem info_int1 : (Try.prog.info? 3).map (·.size) = some 1 := by kernel_rfl
def renS (a : Int) (top : Bool) (x : SG) : SG := ⟨x.f0 + a, if top then x.f1 else x.f1 + a, x.f2, x.f3⟩
def renSL (a : Int) : List SG → List SG
  | [] => []
  | x :: xs => renS a true x :: xs.map (renS a false)
def renST (a : Int) (x : ST) : ST := ⟨x.f0 + a, x.f1 + a, x.f2, x.f3, x.f4, x.f5, x.f6⟩
theorem renSL_len (a : Int) (xs : List SG) : (renSL a xs).length = xs.length := by cases xs <;> simp [renSL]
theorem renSL_map (a : Int) (xs : List SG) : (renSL a xs).map gOf = renL a (xs.map gOf) := by
  cases xs with
  | nil => rfl
  | cons x xs =>
    simp only [renSL, renL, List.map_cons, List.map_map]
    rfl
theorem renST_map (a : Int) (ts : List ST) : (ts.map (renST a)).map tOf = (ts.map tOf).map (renT a) := by
  rw [List.map_map, List.map_map]; rfl
theorem renSL_get (a : Int) {xs : List SG} {k : Nat} {x : SG} (h : xs[k]? = some x) : (renSL a xs)[k]? = some (renS a (decide (k = 0)) x) := by
  cases xs with
  | nil => simp at h
  | cons y ys =>
    cases k with
    | zero => simp at h; subst h; rfl
    | succ k =>
      simp at h
      show ((ys.map (renS a false)))[k]? = _
      rw [List.getElem?_map, h]
      simp
/-- so far -/
def mixd {α : Type} (L xs : List α) (k : Nat) : List α := L.take k ++ xs.drop k
theorem mixd_zero {α : Type} (L xs : List α) : mixd L xs 0 = xs := by simp [mixd]
theorem mixd_all {α : Type} {L xs : List α} (h : L.length = xs.length) : mixd L xs xs.length = L := by
  unfold mixd; rw [List.take_of_length_le (by omega), List.drop_of_length_le (by omega), List.append_nil]
theorem mixd_len {α : Type} {L xs : List α} (h : L.length = xs.length) (k : Nat) : (mixd L xs k).length = xs.length := by
  unfold mixd; rw [List.length_append, List.length_take, List.length_drop]; omega
theorem mixd_get {α : Type} {L xs : List α} (h : L.length = xs.length) {k : Nat} (hk : k < xs.length) : (mixd L xs k)[k]? = xs[k]? := by
  unfold mixd
  rw [List.getElem?_append_right (by rw [List.length_take]; omega), List.length_take, List.getElem?_drop]
  congr 1; omega
theorem mixd_set {α : Type} {L xs : List α} (h : L.length = xs.length) {k : Nat} {y : α} (hy : L[k]? = some y) : (mixd L xs k).set k y = mixd L xs (k + 1) := by
  have hk : k < L.length := (List.getElem?_eq_some_iff.1 hy).1
  unfold mixd
  rw [List.set_append_right _ _ (by rw [List.length_take]; omega), List.length_take, show k - min k L.length = 0 by omega, List.drop_eq_getElem_cons (show k < xs.length by omega), List.set_cons_zero, List.take_add_one, hy]
  simp
theorem holdsK_cell {α : Type} [Inhabited α] {enc : α → List Value} {k : Nat} {w : World} {g : Nat} {l : List α} (hk : ∀ x, (enc x).length = k) (h : HoldsK enc k w g 0 l.toArray) {j : Nat} {x : α} (hj : l[j]? = some x) {i : Nat} {u : Value} (hu : (enc x)[i]? = some u) :
    w.cell? ⟨g, j * k + i, none⟩ = some u ∧ w.frozen? ⟨g, j * k + i, none⟩ = false := by
  have hjl : j < l.length := (List.getElem?_eq_some_iff.1 hj).1
  have hx : l.toArray[j]! = x := by rw [getElem!_def]; simp [hj]
  have h1 := holdsK_at hk h (j := j) (i := i) (u := u) (by simpa using hjl) (by rw [hx]; exact hu)
  rw [Nat.zero_add] at h1
  have hi : i < k := by have := (List.getElem?_eq_some_iff.1 hu).1; rw [hk] at this; exact this
  have h2 := (h (j * k + i) (by rw [size_flatK]; exact (flat_at (enc := enc) (d := l.toArray) hk (by simpa using hjl) hi).2)).2
  rw [Nat.zero_add] at h2
  exact ⟨h1, h2⟩
theorem holdsK_put {α : Type} [Inhabited α] {enc : α → List Value} {k : Nat} {w : World} {g : Nat} {l : List α} (hk : ∀ x, (enc x).length = k) (h : HoldsK enc k w g 0 l.toArray) {j : Nat} {x x' : α} (hj : l[j]? = some x) {i : Nat} {v : Value} (hi : i < k) (hx : enc x' = (enc x).set i v) :
    HoldsK enc k (w.setCell ⟨g, j * k + i, none⟩ v) g 0 (l.set j x').toArray := by
  have hjl : j < l.length := (List.getElem?_eq_some_iff.1 hj).1
  have e : l.toArray[j]! = x := by rw [getElem!_def]; simp [hj]
  have := holdsK_set1 hk h (i := j) (f := i) (by simpa using hjl) hi (x' := x') (v := v) (by rw [e]; exact hx)
  rw [Array.set!_eq_setIfInBounds, List.setIfInBounds_toArray] at this
  exact this
theorem holdsK_other {α : Type} [Inhabited α] {enc : α → List Value} {k : Nat} {w : World} {g g' o : Nat} {d : Array α} {v : Value} (h : HoldsK enc k w g 0 d) (hne : g ≠ g') : HoldsK enc k (w.setCell ⟨g', o, none⟩ v) g 0 d :=
  holdsK_block h (Below.heap_setCell w _ v g hne)
theorem foldl_ge : ∀ (l : List Int) (a : Int), a ≤ l.foldl max a
  | [], a => Int.le_refl _
  | x :: l, a => by have := foldl_ge l (max a x); rw [List.foldl_cons]; omega
theorem foldl_le : ∀ (l : List Int) (a b : Int), a ≤ b → (∀ k ∈ l, k ≤ b) → l.foldl max a ≤ b
  | [], a, b, h, _ => h
  | x :: l, a, b, h, hl => by
    rw [List.foldl_cons]
    exact foldl_le l _ b (by have := hl x (by simp); omega) (fun k hk => hl k (by simp [hk]))
theorem maxOf_ids {l : List Int} (hne : l ≠ []) (h : ∀ k ∈ l, 1 ≤ k) : Lib.maxOf l = l.foldl max 0 := by
  cases l with
  | nil => exact absurd rfl hne
  | cons x l =>
    unfold Lib.maxOf
    rw [List.headD_cons, List.foldl_cons, List.foldl_cons]
    have := h x (by simp)
    congr 1; omega
theorem results_scene {fn : Func} {p u : Tmp} {R : Nat} {cs : List Value} {tmps : Array Value} {w : World} (h : fn.results = #[.cell p 25, .tmp u]) (hp : tmps.getD p undef = .pointer (some ⟨R, 0, none⟩)) (hc : w.heap[R]? = some (.cells cs.toArray 25 (0, 0))) (hl : cs.length = 2) :
    (results fn tmps).run Try.prog w = .ok (.tuple #[.agg cs.toArray, tmps.getD u undef]) w := by
  rw [results_cell_tmp h, hp]
  have h1 : (asAddr (.pointer (some ⟨R, 0, none⟩))).run Try.prog w = .ok ⟨R, 0, none⟩ w := rfl
  rw [h1]
  simp only [Result.andThen_ok]
  rw [Go.Proofs.Bk.run_loadVar_mid w ⟨R, 0, none⟩ 25 cs _ (cells_row hc) Try.underlying25 rfl (by rw [hl]; exact info_S)]
  rfl
/-- what Clone gives, in the words of a walk -/
theorem cloneG (A : Option Addr) (n c : Nat) (xs : List SG) (w : World) (hT : kG.C w A n xs) (hn0 : 0 < n) (hn : n ≤ 4096) :
    Calls Try.prog 42 #[.slice A n c] w fun e w' => ∃ g cap, e = .returned (.slice (some ⟨g, 0, none⟩) n cap) ∧ w.heap.size ≤ g ∧ g < w'.heap.size ∧ n ≤ cap ∧ HoldsK gC 6 w' g 0 xs.toArray ∧ Below w.heap.size w w' := by
  have hl := hT.1
  obtain ⟨b, o, eA, _⟩ := G_at hT hn0
  refine (CloneG_calls A n c xs w hT (fun ad h => by rw [eA] at h; injection h with h; rw [← h]) (by omega)).mono ?_
  rintro e w' ⟨v, rfl, hv, hb⟩
  rcases hv with ⟨_, h0⟩ | ⟨g, cap, rfl, h1, h2, h3, h4⟩
  · rw [h0] at hl; simp at hl; omega
  · exact ⟨g, cap, by rw [hl], h1, h2, by rw [← hl]; exact h3, h4, hb⟩
theorem cloneT (B : Option Addr) (m d : Nat) (ts : List ST) (w : World) (hT : kT.C w B m ts) (hB : ∀ ad, B = some ad → ad.spot = none) (hm : m ≤ 4096) :
    Calls Try.prog 36 #[.slice B m d] w fun e w' => ∃ B' cap, e = .returned (.slice B' m cap) ∧ m ≤ cap ∧ ((B' = none ∧ m = 0) ∨ ∃ g, B' = some ⟨g, 0, none⟩ ∧ w.heap.size ≤ g ∧ g < w'.heap.size ∧ HoldsK tC 8 w' g 0 ts.toArray) ∧ Below w.heap.size w w' := by
  have hl := hT.1
  refine (Clone_calls B m d ts w hT hB (by omega)).mono ?_
  rintro e w' ⟨v, rfl, hv, hb⟩
  rcases hv with ⟨rfl, h0⟩ | ⟨g, cap, rfl, h1, h2, h3, h4⟩
  · rw [h0] at hl
    simp at hl
    exact ⟨none, 0, by rw [hl], by omega, .inl ⟨rfl, hl.symm⟩, hb⟩
  · exact ⟨_, cap, by rw [hl], by rw [← hl]; exact h3, .inr ⟨g, rfl, h1, h2, h4⟩, hb⟩
/-- a scene's block after both fields have been stored; or made whole -/
theorem two_set {w0 w : World} {base b : Nat} {v0 v1 u0 u1 : Value} (h : w.heap[b]? = some (.cells #[u0, u1] 25 (0, 0))) (hb : Below base w0 w) (hl : base ≤ b) :
    ((w.setCell ⟨b, 0, none⟩ v0).setCell ⟨b, 1, none⟩ v1).heap[b]? = some (.cells #[v0, v1] 25 (0, 0)) ∧ Below base w0 ((w.setCell ⟨b, 0, none⟩ v0).setCell ⟨b, 1, none⟩ v1) ∧ (∀ k, k < w.heap.size → k ≠ b → ((w.setCell ⟨b, 0, none⟩ v0).setCell ⟨b, 1, none⟩ v1).heap[k]? = w.heap[k]?) ∧ w.heap.size ≤ ((w.setCell ⟨b, 0, none⟩ v0).setCell ⟨b, 1, none⟩ v1).heap.size := by
  refine ⟨?_, ?_, fun k _ hk => ?_, by simp [World.setCell]⟩
  · rw [setCell_row (setCell_row h 0 v0) 1 v1]; rfl
  · have k1 := KeepF.setCell w ⟨b, 0, none⟩ v0
    have k2 := KeepF.setCell (w.setCell ⟨b, 0, none⟩ v0) ⟨b, 1, none⟩ v1
    have hs : base ≤ w.heap.size := by have := lt_row h; omega
    exact hb.trans ((k1.trans k2 (fun i _ hi => hi)).to_below hs (fun i hi => by rw [hi]; exact hl))
  · rw [Below.heap_setCell _ _ _ _ hk, Below.heap_setCell _ _ _ _ hk]
theorem two_new {w0 w : World} {base : Nat} {v0 v1 : Value} (hb : Below base w0 w) (hs : base ≤ w.heap.size) :
    (w.alloc (.cells #[v0, v1] 25)).heap[w.heap.size]? = some (.cells #[v0, v1] 25 (0, 0)) ∧ Below base w0 (w.alloc (.cells #[v0, v1] 25)) ∧ (∀ k, k < w.heap.size → k ≠ w.heap.size → (w.alloc (.cells #[v0, v1] 25)).heap[k]? = w.heap[k]?) ∧ w.heap.size ≤ (w.alloc (.cells #[v0, v1] 25)).heap.size :=
  ⟨heap_alloc_same w _, hb.trans ((below_alloc (Below.refl _ _) _).mono hs), fun k hk _ => (below_alloc (Below.refl w.heap.size w) _).block k hk, by simp⟩
end Go.Proofs.Ytpnjhffnlafabaa.Sn
