/- When two scenes are the same, as the reference of law 13 tells. -/
import Derived.Test.YtpnjhffnlafabaaSc6
import Derived.Test.YtpnjhffnlafabaaSmP
namespace Go.Proofs.Ytpnjhffnlafabaa.Sn
set_option linter.unusedVariables false
set_option linter.unusedSimpArgs false
open Go.RowKit Go.Sort Go.Shelf Go.Lib Go.Proofs.Bk Go.Proofs.Bm Go.Proofs.Op Go.Proofs.Sc Go.Proofs.Kf Go.Proofs.YtpnjhffnlafabaaW.PrintWords Go.Proofs.Ytpnjhffnlafabaa.PSceneOrders Go.Proofs.Ytpnjhffnlafabaa.St

theorem drop_eq {α : Type} {x y : List α} {i : Nat} (h0 : i < x.length) (h1 : i < y.length) : x.drop i = y.drop i ↔ x[i] = y[i] ∧ x.drop (i + 1) = y.drop (i + 1) := by
  rw [List.drop_eq_getElem_cons h0, List.drop_eq_getElem_cons h1]
  exact ⟨fun h => ⟨(List.cons.inj h).1, (List.cons.inj h).2⟩, fun ⟨a, b⟩ => by rw [a, b]⟩
theorem rsame_l1 : ∀ (j k : Nat) (g g' : List SG) (x0 x1 : List ST) (i : Nat), i + j = x0.length → x0.length = x1.length → j < k → x0.length < 4611686018427387904 →
    diapauseref13_Same.l1 k (i : Int) g x0 g' x1 = some (decide (x0.drop i = x1.drop i))
  | 0, k + 1, g, g', x0, x1, i, h, hl, _, _ => by
    unfold diapauseref13_Same.l1
    rw [if_neg (by omega), List.drop_of_length_le (by omega), List.drop_of_length_le (by omega)]; simp
  | j + 1, k + 1, g, g', x0, x1, i, h, hl, hk, hb => by
    unfold diapauseref13_Same.l1
    have h0 : i < x0.length := by omega
    have h1 : i < x1.length := by omega
    have e0 : rd_T46 x0 (i : Int) = x0[i] := by unfold rd_T46; simp [List.getD, h0]
    have e1 : rd_T46 x1 (i : Int) = x1[i] := by unfold rd_T46; simp [List.getD, h1]
    rw [if_pos (by omega), if_pos (by omega), if_pos (by omega), show wrap64 ((i : Int) + 1) = ((i + 1 : Nat) : Int) by unfold wrap64; omega, rsame_l1 j k g g' x0 x1 (i + 1) (by omega) hl (by omega) hb, e0, e1]
    by_cases hx : x0[i] = x1[i]
    · rw [if_neg (fun hn => (neT _ _).1 hn hx)]
      congr 1
      rw [decide_eq_decide, drop_eq h0 h1]
      exact ⟨fun h => ⟨hx, h⟩, fun h => h.2⟩
    · rw [if_pos ((neT _ _).2 hx)]
      congr 1
      symm
      exact decide_eq_false (fun h => hx ((drop_eq h0 h1).1 h).1)
theorem rsame_l0 : ∀ (j k : Nat) (x0 x1 : List SG) (t t' : List ST) (i : Nat), i + j = x0.length → x0.length = x1.length → t.length = t'.length → j + t.length + 1 < k → x0.length < 4611686018427387904 → t.length < 4611686018427387904 →
    diapauseref13_Same.l0 k (i : Int) x0 t x1 t' = some (decide (x0.drop i = x1.drop i ∧ t = t'))
  | 0, k + 1, x0, x1, t, t', i, h, hl, hl2, hk, _, hb2 => by
    unfold diapauseref13_Same.l0
    have := rsame_l1 t.length k x0 x1 t t' 0 (by omega) hl2 (by omega) hb2
    rw [List.drop_zero, List.drop_zero] at this
    rw [if_neg (by omega), List.drop_of_length_le (by omega), List.drop_of_length_le (by omega)]
    rw [show diapauseref13_Same.l1 k 0 x0 t x1 t' = _ from this]; simp
  | j + 1, k + 1, x0, x1, t, t', i, h, hl, hl2, hk, hb, hb2 => by
    unfold diapauseref13_Same.l0
    have h0 : i < x0.length := by omega
    have h1 : i < x1.length := by omega
    have e0 : rd_T41 x0 (i : Int) = x0[i] := by unfold rd_T41; simp [List.getD, h0]
    have e1 : rd_T41 x1 (i : Int) = x1[i] := by unfold rd_T41; simp [List.getD, h1]
    rw [if_pos (by omega), if_pos (by omega), if_pos (by omega), show wrap64 ((i : Int) + 1) = ((i + 1 : Nat) : Int) by unfold wrap64; omega, rsame_l0 j k x0 x1 t t' (i + 1) (by omega) hl hl2 (by omega) hb hb2, e0, e1]
    by_cases hx : x0[i] = x1[i]
    · rw [if_neg (fun hn => (neG _ _).1 hn hx)]
      congr 1
      rw [decide_eq_decide, drop_eq h0 h1]
      exact ⟨fun h => ⟨⟨hx, h.1⟩, h.2⟩, fun h => ⟨h.1.2, h.2⟩⟩
    · rw [if_pos ((neG _ _).2 hx)]
      congr 1
      symm
      exact decide_eq_false (fun h => hx ((drop_eq h0 h1).1 h.1).1)
theorem rsame_j0 (k : Nat) (b : Bool) (gs gs' : List SG) (ts ts' : List ST) : diapauseref13_Same.j0 (k + 1) b gs ts gs' ts' = if b = true then some false else diapauseref13_Same.l0 k 0 gs ts gs' ts' := by
  unfold diapauseref13_Same.j0; rfl
theorem rsame_f (gs gs' : List SG) (ts ts' : List ST) (hg : gs.length < 4611686018427387904) (ht : ts.length < 4611686018427387904) :
    diapauseref13_Same.f (gs.length + ts.length + 3) gs ts gs' ts' = some (decide (gs = gs' ∧ ts = ts')) := by
  unfold diapauseref13_Same.f
  have n1 : gs.length ≠ gs'.length → gs ≠ gs' := fun h e => h (by rw [e])
  have n2 : ts.length ≠ ts'.length → ts ≠ ts' := fun h e => h (by rw [e])
  by_cases h1 : gs.length = gs'.length
  · rw [if_pos (by omega), rsame_j0 (gs.length + ts.length + 2)]
    by_cases h2 : ts.length = ts'.length
    · have e2 := rsame_l0 gs.length (gs.length + ts.length + 2) gs gs' ts ts' 0 (by omega) h1 h2 (by omega) hg ht
      rw [List.drop_zero, List.drop_zero] at e2
      rw [if_neg (by simp [h2])]
      exact e2
    · rw [if_pos (by simpa using fun h => h2 (by omega))]
      simp [n2 h2]
  · rw [if_neg (by omega), rsame_j0 (gs.length + ts.length + 2)]
    simp [n1 h1]
theorem same_calls (A : Option Addr) (n c : Nat) (xs : List SG) (B : Option Addr) (m d : Nat) (ts : List ST) (A' : Option Addr) (n' c' : Nat) (xs' : List SG) (B' : Option Addr) (m' d' : Nat) (ts' : List ST) (w : World)
    (hG : kG.C w A n xs) (hc : n ≤ c) (hT : kT.C w B m ts) (hd : m ≤ d) (hG' : kG.C w A' n' xs') (hc' : n' ≤ c') (hT' : kT.C w B' m' ts') (hd' : m' ≤ d') (hn : n < 4611686018427387904) (hm : m < 4611686018427387904) :
    Calls Try.prog 19 #[.agg #[.slice A n c, .slice B m d], .agg #[.slice A' n' c', .slice B' m' d']] w (AnyPost (decide (xs = xs' ∧ ts = ts')) w) := by
  obtain rfl := hG.1
  obtain rfl := hT.1
  obtain rfl := hG'.1
  obtain rfl := hT'.1
  exact diapauseref13_Same.calls _ A c xs B d ts A' c' xs' B' d' ts' _ w hG hc hT hd hG' hc' hT' hd' (rsame_f xs xs' ts ts' hn hm)
end Go.Proofs.Ytpnjhffnlafabaa.Sn
