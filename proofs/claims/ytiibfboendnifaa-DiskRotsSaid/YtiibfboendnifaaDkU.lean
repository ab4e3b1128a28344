/- DiskRots: a bit that is turned over twice is as it was. -/
import Derived.Test.YtiibfboendnifaaDkT
namespace Go.Proofs.Ytiibfboendnifaa.Dk
set_option linter.unusedVariables false
set_option linter.unusedSimpArgs false
open Go.RowKit Go.Proofs.Bk Go.Proofs.Bm Go.Proofs.Op Go.Proofs.YtiibfboendnifaaW.PrintWords

/-- sectors that have been handed out: the list lies in block q, the sectors in gs -/
structure Secs (w : World) (b q : Nat) (n : Nat) (xs : List (List Int)) (gs : List Nat) : Prop where
  row : ∃ cur, w.heap[q]? = some (.cells cur 23 (0, 0))
  bq : b ≤ q
  bg : ∀ g ∈ gs, b ≤ g
  lx : xs.length = n
  lg : gs.length = n
  nd : gs.Nodup
  at_ : ∀ (j : Nat) s g, xs[j]? = some s → gs[j]? = some g → w.cell? ⟨q, j, none⟩ = some (.slice (some ⟨g, 0, none⟩) 64 64) ∧ s.length = 64 ∧ w.heap[g]? = some (.cells (byt s).toArray 53 (0, 0))
theorem Secs.of_R {w : World} {b n : Nat} {v : Value} {xs : List (List Int)} {gs : List Nat} (h : kSecB.R 23 w b (fun _ => True) v (xs.zip gs)) (hx : xs.length = n) (hg : gs.length = n) (hnd : gs.Nodup) (hn : 0 < n) :
    ∃ q c, v = .slice (some ⟨q, 0, none⟩) n c ∧ Secs w b q n xs gs := by
  have hz : (xs.zip gs).length = n := by rw [List.length_zip, hx, hg]; omega
  obtain ⟨A, c, rfl, hc, hr⟩ := Kd.R_reads h
  obtain ⟨inner, ho⟩ := Kd.R_own h
  rcases ho.2 with hh | ⟨q, cap, cur, e, hb, hq, _⟩
  · rw [hz] at hh; omega
  · injection e with e1 e2 e3
    subst e1
    rw [hz]
    refine ⟨q, c, rfl, ⟨⟨cur, hq⟩, hb, ?_, hx, hg, hnd, ?_⟩⟩
    · intro g hgm
      obtain ⟨j, hj, rfl⟩ := List.mem_iff_getElem.1 hgm
      have hb2 := Kd.R_bound h
      obtain ⟨inner2, ho2, hr2⟩ := h.2
      have hM := hr2.2 j (xs[j]'(by omega), gs[j]) (by rw [List.getElem?_zip_eq_some]; exact ⟨List.getElem?_eq_getElem _, List.getElem?_eq_getElem _⟩)
      obtain ⟨_, _, _, hbb, _⟩ := hM
      exact hbb
    · intro j s g hj hgj
      obtain ⟨ad, e, hcc⟩ := hr.2.2 (by rw [hz]; exact hn)
      injection e with e; subst e
      obtain ⟨cs, h1, h2, h3⟩ := hcc j (s, g) (by rw [List.getElem?_zip_eq_some]; exact ⟨hj, hgj⟩)
      obtain ⟨rfl, hl, hh⟩ := h2
      have := h3 0 _ rfl
      rw [show j * kSecB.sz + 0 = j from (by show j * 1 + 0 = j; omega), addAt, Nat.zero_add] at this
      exact ⟨this, hl, hh⟩
theorem Secs.keep {w w' : World} {b q n : Nat} {xs : List (List Int)} {gs : List Nat} (h : Secs w b q n xs gs) (hk : ∀ k, b ≤ k → k < w.heap.size → w'.heap[k]? = w.heap[k]?) : Secs w' b q n xs gs := by
  obtain ⟨cur, hc⟩ := h.row
  have hq := hk q h.bq (Array.getElem?_eq_some_iff.1 hc).1
  refine ⟨⟨cur, hq.trans hc⟩, h.bq, h.bg, h.lx, h.lg, h.nd, fun j s g hj hg => ?_⟩
  obtain ⟨h1, h2, h3⟩ := h.at_ j s g hj hg
  exact ⟨(World.cell?_of_block (w := w) (a := ⟨q, j, none⟩) hq).trans h1, h2, (hk g (h.bg g (List.mem_of_getElem? hg)) (Array.getElem?_eq_some_iff.1 h3).1).trans h3⟩
theorem Secs.put {w : World} {b q n : Nat} {xs : List (List Int)} {gs : List Nat} (h : Secs w b q n xs gs) {i p : Nat} {s : List Int} {g : Nat} (hi : xs[i]? = some s) (hg : gs[i]? = some g) (x : Int) :
    Secs (w.setCell ⟨g, p, none⟩ (.int .u8 x)) b q n (xs.set i (s.set p x)) gs := by
  obtain ⟨cur, hc⟩ := h.row
  have hgb := (h.at_ i s g hi hg).2.2
  have hne : q ≠ g := fun e => by
    rw [← e, hc] at hgb
    injection hgb with e1
    injection e1 with _ e2
    exact absurd e2 (by decide)
  refine ⟨⟨cur, (Below.heap_setCell w _ _ q hne).trans hc⟩, h.bq, h.bg, by simpa using h.lx, h.lg, h.nd, fun j s' g' hj hg' => ?_⟩
  have hjl : j < gs.length := (List.getElem?_eq_some_iff.1 hg').1
  by_cases e : i = j
  · subst e
    rw [hg] at hg'
    have e2 : g = g' := Option.some.inj hg'
    subst e2
    rw [List.getElem?_set_self (List.getElem?_eq_some_iff.1 hi).1] at hj
    have e3 := Option.some.inj hj
    subst e3
    obtain ⟨h1, h2, h3⟩ := h.at_ i s g hi hg
    refine ⟨(World.cell?_of_block (w := w) (a := ⟨q, i, none⟩) (Below.heap_setCell w _ _ q hne)).trans h1, by simpa using h2, ?_⟩
    rw [heap_set_same h3]
    simp [byt, List.map_set]
  · rw [List.getElem?_set_ne e] at hj
    obtain ⟨h1, h2, h3⟩ := h.at_ j s' g' hj hg'
    have hgg : g' ≠ g := fun e2 => by
      subst e2
      have hil : i < gs.length := (List.getElem?_eq_some_iff.1 hg).1
      have := List.pairwise_iff_getElem.1 h.nd
      have e4 : gs[i] = gs[j] := by rw [(List.getElem?_eq_some_iff.1 hg).2, (List.getElem?_eq_some_iff.1 hg').2]
      rcases Nat.lt_or_ge i j with hlt | hge
      · exact this i j hil hjl hlt e4
      · exact this j i hjl hil (by omega) e4.symm
    exact ⟨(World.cell?_of_block (w := w) (a := ⟨q, j, none⟩) (Below.heap_setCell w _ _ q hne)).trans h1, h2, (Below.heap_setCell w _ _ g' hgg).trans h3⟩
theorem Secs.c {w : World} {b q n : Nat} {xs : List (List Int)} {gs : List Nat} (h : Secs w b q n xs gs) (hn : n ≤ 9223372036854775807) : kSec.C w (some ⟨q, 0, none⟩) n xs := by
  refine ⟨h.lx, hn, fun _ => ⟨_, rfl, fun j s hj => ?_⟩⟩
  have hjl : j < gs.length := by rw [h.lg, ← h.lx]; exact (List.getElem?_eq_some_iff.1 hj).1
  obtain ⟨h1, h2, h3⟩ := h.at_ j s gs[j] hj (List.getElem?_eq_getElem _)
  refine ⟨[.slice (some ⟨gs[j], 0, none⟩) 64 64], rfl, ⟨some ⟨gs[j], 0, none⟩, 64, by rw [h2], by omega, ?_⟩, fun i u hu => ?_⟩
  · have hr : SlRow w gs[j] 0 s := fun k y hk => by rw [cell_row h3, Nat.zero_add, List.getElem?_toArray, byt, List.getElem?_map, hk]; rfl
    exact hr.c rfl (by omega)
  · have hi : i = 0 := by cases i with | zero => rfl | succ i => simp at hu
    subst hi
    simp at hu; subst hu
    show w.cell? ((⟨q, 0, none⟩ : Addr).add (j * 1 + 0)) = _
    rw [addAt, show 0 + (j * 1 + 0) = j by omega]
    exact h1
end Go.Proofs.Ytiibfboendnifaa.Dk
