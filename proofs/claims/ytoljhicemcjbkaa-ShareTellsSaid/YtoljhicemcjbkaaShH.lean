/- The references' answers, as printed, come to the same plain functions. -/
import Derived.Test.YtoljhicemcjbkaaShG
namespace Go.Proofs.Ytoljhicemcjbkaa.Sh
set_option linter.unusedVariables false
set_option linter.unusedSimpArgs false
open Go.RowKit Go.Proofs.Op Go.Proofs.YtoljhicemcjbkaaW.PrintWords Go.Proofs.YtoljhicemcjbkaaW.PrintLast Go.Proofs.YtoljhicemcjbkaaW.PrintMore PShareTells

theorem drop_cons {xs : List Int} {i : Nat} (h : i < xs.length) : xs.drop i = rd xs i :: xs.drop (i + 1) := by
  rw [List.drop_eq_getElem_cons h]; simp [rd, List.getD_eq_getElem?_getD, h]
theorem rcount_l0 (xs : List Int) (id : Int) (hx : (xs.length : Int) ≤ 9223372036854775807) : ∀ (d i : Nat) (n : Int) (k : Nat), i + d = xs.length → 0 ≤ n → n + d ≤ 9223372036854775807 →
    diapauseref23_Count.l0 (k + d + 1) xs id n i = some (n + ((xs.drop i).count id : Int)) := by
  intro d
  induction d with
  | zero =>
    intro i n k hi h0 h1
    simp only [diapauseref23_Count.l0, Nat.add_zero]
    rw [if_neg (by omega), List.drop_of_length_le (by omega)]; simp
  | succ d ih =>
    intro i n k hi h0 h1
    obtain ⟨K, hK⟩ : ∃ K, k + d + 1 = K := ⟨_, rfl⟩
    have ih' := fun i n => ih i n k
    rw [hK] at ih'
    rw [show k + (d + 1) + 1 = K + 1 by omega]
    clear ih
    simp only [diapauseref23_Count.l0]
    have ei : ((i : Int) + 1) = ((i + 1 : Nat) : Int) := by omega
    rw [if_pos (by omega), if_pos (by omega), wrap_all (by omega) (by omega : (i : Int) + 1 ≤ _), ei]
    rw [drop_cons (by omega : i < xs.length), List.count_cons]
    by_cases h : rd xs i = id
    · rw [if_pos h, wrap_all (by omega) (by omega), ih' (i + 1) _ (by omega) (by omega) (by omega), if_pos (by simpa using h)]
      congr 1; omega
    · rw [if_neg h, ih' (i + 1) _ (by omega) h0 (by omega), if_neg (by simpa using h)]; rfl
theorem rcount_f (xs : List Int) (id : Int) (hx : (xs.length : Int) ≤ 9223372036854775807) (k : Nat) (hk : xs.length + 1 ≤ k) : diapauseref23_Count.f k xs id = some (xs.count id : Int) := by
  unfold diapauseref23_Count.f
  obtain ⟨j, rfl⟩ : ∃ j, k = j + xs.length + 1 := ⟨k - xs.length - 1, by omega⟩
  have h := rcount_l0 xs id hx xs.length 0 0 j (by omega) (by omega) (by omega)
  simpa using h
theorem rcounts_l0 (xs ids : List Int) (hx : (xs.length : Int) ≤ 9223372036854775807) (hi : ids.length ≤ 17592186044416) : ∀ (d i : Nat) (k : Nat), i + d = ids.length → xs.length + 1 ≤ k →
    diapauseref23_Counts.l0 (k + d + 1) xs ids (counts xs (ids.take i)) i = some (counts xs ids) := by
  intro d
  induction d with
  | zero =>
    intro i k hi' hk
    simp only [diapauseref23_Counts.l0, Nat.add_zero]
    rw [if_neg (by omega), List.take_of_length_le (by omega)]
  | succ d ih =>
    intro i k hi' hk
    obtain ⟨K, hK⟩ : ∃ K, k + d + 1 = K := ⟨_, rfl⟩
    have ih' := fun i => ih i k
    rw [hK] at ih'
    rw [show k + (d + 1) + 1 = K + 1 by omega]
    clear ih
    simp only [diapauseref23_Counts.l0]
    have ei : ((i : Int) + 1) = ((i + 1 : Nat) : Int) := by omega
    rw [if_pos (by omega), if_pos (by omega), rcount_f xs _ hx K (by omega), Option.bind_some, if_pos (by rw [counts_length, List.length_take]; omega), wrap_all (by omega) (by omega : (i : Int) + 1 ≤ _), ei]
    have := ih' (i + 1) (by omega) hk
    rw [take_snoc (by omega : i < ids.length)] at this
    rw [show counts xs (ids.take i) ++ [(xs.count (rd ids i) : Int)] = counts xs (ids.take i ++ [rd ids i]) by unfold counts; rw [List.map_append]; rfl]
    exact this
theorem rcounts_f (xs ids : List Int) (hx : (xs.length : Int) ≤ 9223372036854775807) (hi : ids.length ≤ 17592186044416) (k : Nat) (hk : xs.length + ids.length + 2 ≤ k) : diapauseref23_Counts.f k xs ids = some (counts xs ids) := by
  unfold diapauseref23_Counts.f
  obtain ⟨j, rfl⟩ : ∃ j, k = j + ids.length + 1 := ⟨k - ids.length - 1, by omega⟩
  have h := rcounts_l0 xs ids hx hi ids.length 0 j (by omega) (by omega)
  simpa [counts] using h

/-- the weights' list of the reference -/
def wl (cs ws : List Int) : List Int := (List.range cs.length).map (wt ws)
theorem rd_wl {cs ws : List Int} {i : Nat} (h : i < cs.length) : rd (wl cs ws) i = wt ws i := by unfold rd wl; simp [List.getD_eq_getElem?_getD, h]
theorem wl_length (cs ws : List Int) : (wl cs ws).length = cs.length := by simp [wl]
theorem held_wt (ws : List Int) (i : Nat) (h : i < ws.length) : diapauseref23_held.f (rd ws i) 1 1048576 = some (wt ws i) := by
  unfold diapauseref23_held.f wt
  rw [if_neg (by omega : ¬ ws.length ≤ i)]; unfold mx mn; (repeat' split) <;> first | rfl | (exfalso; omega) | (congr 1; omega)
theorem held_ct (n : Int) : diapauseref23_held.f n 0 1099511627776 = some (ct n) := by
  unfold diapauseref23_held.f ct mx mn; (repeat' split) <;> first | rfl | (exfalso; omega) | (congr 1; omega)

theorem step_nonneg {cs ws : List Int} {i k : Nat} {m : Int} (h : 0 ≤ m) : 0 ≤ step cs ws i m k := by
  unfold step; split
  · exact Int.le_trans h (le_mx_l _ _)
  · exact h
theorem r_l2 (cs ws : List Int) (i : Nat) (hi : i < cs.length) (hn : (cs.length : Int) ≤ 9223372036854775807) : ∀ (d j : Nat) (m : Int) (k : Nat), j + d = cs.length → 0 ≤ m →
    diapauseref23_Ahead.l2 (k + d + 1) cs (wl cs ws) m i j = diapauseref23_Ahead.l1 k cs (wl cs ws) (row cs ws i d j m) (wrap64 (i + 1)) := by
  intro d
  induction d with
  | zero =>
    intro j m k hj hm
    simp only [diapauseref23_Ahead.l2, row, Nat.add_zero]
    rw [if_neg (by omega)]
  | succ d ih =>
    intro j m k hj hm
    have hw := wt_bd ws j
    have h1 := mul_bd (wt_bd ws j) (ct_bd (rd cs i))
    have h2 := mul_bd (wt_bd ws i) (ct_bd (rd cs j))
    obtain ⟨K, hK⟩ : ∃ K, k + d + 1 = K := ⟨_, rfl⟩
    have ih' := fun j m => ih j m k
    rw [hK] at ih'
    rw [show k + (d + 1) + 1 = K + 1 by omega]
    clear ih
    simp only [diapauseref23_Ahead.l2]
    have ej : ((j : Int) + 1) = ((j + 1 : Nat) : Int) := by omega
    rw [if_pos (by omega), wrap_all (by omega) (by omega : (j : Int) + 1 ≤ _), ej]
    have hrow : ∀ m', step cs ws i m j = m' → row cs ws i (d + 1) j m = row cs ws i d (j + 1) m' := fun m' h => by simp only [row]; rw [h]
    by_cases hij : i = j
    · rw [if_pos (by omega), ih' (j + 1) m (by omega) hm, hrow m (by unfold step; rw [if_neg (by omega)])]
    · rw [if_neg (by omega), if_pos (by omega), if_pos (by omega), held_ct, Option.bind_some, if_pos (by omega), held_ct, Option.bind_some, wl_length, if_pos (by omega), if_pos (by omega), rd_wl (by omega), rd_wl hi]
      rw [wrap_all (by omega) (by omega : wt ws j * ct (rd cs i) ≤ _), wrap_all (by omega) (by omega : wt ws i * ct (rd cs j) ≤ _)]
      rw [show wt ws j * ct (rd cs i) - wt ws i * ct (rd cs j) = gap cs ws i j from rfl]
      have hg := gap_bd cs ws i j
      rw [wrap_all (by omega) (by omega : gap cs ws i j ≤ _)]
      by_cases hpos : gap cs ws i j ≥ 0
      · have hd := div_bd hpos hg.2 hw.1
        rw [if_pos hpos, if_neg (by omega), Int.tdiv_eq_ediv_of_nonneg (by omega), wrap_all (by omega) (by omega)]
        by_cases hgt : gap cs ws i j / wt ws j > m
        · rw [if_pos hgt, ih' (j + 1) _ (by omega) (by omega), hrow (gap cs ws i j / wt ws j) (by
            have hgp : gap cs ws i j > 0 := by
              refine Classical.byContradiction fun hc => ?_
              have : gap cs ws i j = 0 := by omega
              rw [this, Int.zero_ediv] at hgt; omega
            unfold step; rw [if_pos ⟨hij, hgp⟩]; unfold mx; rw [if_pos (by omega)])]
        · rw [if_neg hgt, ih' (j + 1) m (by omega) hm, hrow m (by
            unfold step; split
            · unfold mx; rw [if_neg (by omega)]
            · rfl)]
      · rw [if_neg hpos, ih' (j + 1) m (by omega) hm, hrow m (by unfold step; rw [if_neg (by omega)])]
theorem row_nonneg {cs ws : List Int} {i : Nat} : ∀ (d j : Nat) (m : Int), 0 ≤ m → 0 ≤ row cs ws i d j m
  | 0, _, _, h => h
  | d + 1, j, m, h => by unfold row; exact row_nonneg d (j + 1) _ (step_nonneg h)
theorem r_l1 (cs ws : List Int) (hn : (cs.length : Int) ≤ 9223372036854775807) : ∀ (d i : Nat) (m : Int) (k : Nat), i + d = cs.length → 0 ≤ m →
    diapauseref23_Ahead.l1 (k + d * (cs.length + 2) + 1) cs (wl cs ws) m i = some (all cs ws d i m) := by
  intro d
  induction d with
  | zero =>
    intro i m k hi hm
    simp only [diapauseref23_Ahead.l1, all, Nat.zero_mul, Nat.add_zero]
    rw [if_neg (by omega)]
  | succ d ih =>
    intro i m k hi hm
    have e : k + (d + 1) * (cs.length + 2) + 1 = ((k + d * (cs.length + 2) + 1) + cs.length + 1) + 1 := by rw [Nat.succ_mul]; omega
    rw [e]
    obtain ⟨K, hK⟩ : ∃ K, (k + d * (cs.length + 2) + 1) + cs.length + 1 = K := ⟨_, rfl⟩
    rw [hK]
    simp only [diapauseref23_Ahead.l1]
    rw [← hK, if_pos (by omega)]
    refine (r_l2 cs ws i (by omega) hn cs.length 0 m _ (by omega) hm).trans ?_
    rw [wrap_all (by omega) (by omega : (i : Int) + 1 ≤ _)]
    exact ih (i + 1) _ k (by omega) (row_nonneg _ _ _ hm)
theorem r_l0 (cs ws : List Int) (hn : cs.length ≤ 17592186044416) : ∀ (d i : Nat) (k : Nat), i + d = cs.length →
    diapauseref23_Ahead.l0 (k + cs.length * (cs.length + 2) + 1 + d + 1) cs ws ((List.range i).map (wt ws)) i = some (all cs ws cs.length 0 0) := by
  intro d
  induction d with
  | zero =>
    intro i k hi
    obtain ⟨K, hK⟩ : ∃ K, k + cs.length * (cs.length + 2) + 1 = K := ⟨_, rfl⟩
    rw [show k + cs.length * (cs.length + 2) + 1 + 0 + 1 = K + 1 by omega]
    simp only [diapauseref23_Ahead.l0]
    rw [if_neg (by omega), ← hK, show i = cs.length by omega]
    exact r_l1 cs ws (by omega) cs.length 0 0 k (by omega) (by omega)
  | succ d ih =>
    intro i k hi
    obtain ⟨K, hK⟩ : ∃ K, k + cs.length * (cs.length + 2) + 1 + d + 1 = K := ⟨_, rfl⟩
    have ih' := fun i => ih i k
    rw [hK] at ih'
    rw [show k + cs.length * (cs.length + 2) + 1 + (d + 1) + 1 = K + 1 by omega]
    clear ih
    simp only [diapauseref23_Ahead.l0]
    have ei : ((i : Int) + 1) = ((i + 1 : Nat) : Int) := by omega
    have er : (List.range i).map (wt ws) ++ [wt ws i] = (List.range (i + 1)).map (wt ws) := by rw [List.range_succ, List.map_append]; rfl
    rw [if_pos (by omega), wrap_all (by omega) (by omega : (i : Int) + 1 ≤ _), ei]
    by_cases h : i < ws.length
    · rw [if_pos (by omega), if_pos (by omega), held_wt ws i h, Option.bind_some, if_pos (by simp; omega), er]
      exact ih' (i + 1) (by omega)
    · rw [if_neg (by omega), if_pos (by simp; omega), show (1 : Int) = wt ws i by unfold wt; rw [if_pos (by omega)], er]
      exact ih' (i + 1) (by omega)
theorem rahead_f (cs ws : List Int) (hn : cs.length ≤ 17592186044416) (k : Nat) (hk : cs.length * (cs.length + 2) + 2 + cs.length ≤ k) : diapauseref23_Ahead.f k cs ws = some (ahead cs ws) := by
  unfold diapauseref23_Ahead.f
  obtain ⟨j, rfl⟩ : ∃ j, k = j + cs.length * (cs.length + 2) + 1 + cs.length + 1 := ⟨k - (cs.length * (cs.length + 2) + 1 + cs.length + 1), by omega⟩
  exact r_l0 cs ws hn cs.length 0 j (by omega)
theorem rworst_l0 (xs ids ws : List Int) (hx : (xs.length : Int) < 9223372036854775807) (hi : ids.length ≤ 17592186044416) : ∀ (d n : Nat) (m : Int) (k : Nat), n + d = xs.length + 1 → xs.length + ids.length + 2 + (ids.length * (ids.length + 2) + 2 + ids.length) ≤ k →
    diapauseref23_Worst.l0 (k + d + 1) xs ids ws m n = some (wfrom xs ids ws d n m) := by
  intro d
  induction d with
  | zero =>
    intro n m k hn hk
    simp only [diapauseref23_Worst.l0, Nat.add_zero, wfrom]
    rw [if_neg (by omega)]
  | succ d ih =>
    intro n m k hn hk
    obtain ⟨K, hK⟩ : ∃ K, k + d + 1 = K := ⟨_, rfl⟩
    have ih' := fun n m => ih n m k
    rw [hK] at ih'
    rw [show k + (d + 1) + 1 = K + 1 by omega]
    clear ih
    simp only [diapauseref23_Worst.l0, wfrom]
    have en : ((n : Int) + 1) = ((n + 1 : Nat) : Int) := by omega
    have ht : (xs.take n).length ≤ xs.length := List.length_take_le' _ _
    rw [if_pos (by omega), if_pos (by omega), Int.toNat_natCast, rcounts_f (xs.take n) ids (by omega) hi K (by omega), Option.bind_some, rahead_f _ _ (by rw [counts_length]; exact hi) K (by rw [counts_length]; omega), Option.bind_some, wrap_all (by omega) (by omega : (n : Int) + 1 ≤ _), en]
    exact ih' (n + 1) _ (by omega) hk
theorem rworst_f (xs ids ws : List Int) (hx : (xs.length : Int) < 9223372036854775807) (hi : ids.length ≤ 17592186044416) : ∃ k, diapauseref23_Worst.f k xs ids ws = some (worst xs ids ws) := by
  refine ⟨(xs.length + ids.length + 2 + (ids.length * (ids.length + 2) + 2 + ids.length)) + (xs.length + 1) + 1, ?_⟩
  unfold diapauseref23_Worst.f
  exact rworst_l0 xs ids ws hx hi (xs.length + 1) 0 0 _ (by omega) (Nat.le_refl _)
theorem same_l0 (xs : List Int) (hx : (xs.length : Int) ≤ 9223372036854775807) : ∀ (d i k : Nat), i + d = xs.length → diapauseref03_Same.l0 (k + d + 1) xs xs i = some true := by
  intro d
  induction d with
  | zero =>
    intro i k hi
    simp only [diapauseref03_Same.l0, Nat.add_zero]
    rw [if_neg (by omega)]
  | succ d ih =>
    intro i k hi
    obtain ⟨K, hK⟩ : ∃ K, k + d + 1 = K := ⟨_, rfl⟩
    have ih' := fun i => ih i k
    rw [hK] at ih'
    rw [show k + (d + 1) + 1 = K + 1 by omega]
    clear ih
    simp only [diapauseref03_Same.l0]
    have ei : ((i : Int) + 1) = ((i + 1 : Nat) : Int) := by omega
    rw [if_pos (by omega), if_pos (by omega), if_pos (by omega), if_pos trivial, wrap_all (by omega) (by omega : (i : Int) + 1 ≤ _), ei]
    exact ih' (i + 1) (by omega)
theorem same_f (xs : List Int) (hx : (xs.length : Int) ≤ 9223372036854775807) : ∃ k, diapauseref03_Same.f k xs xs = some true := by
  refine ⟨0 + xs.length + 1, ?_⟩
  unfold diapauseref03_Same.f
  rw [if_pos rfl]
  exact same_l0 xs hx xs.length 0 0 (by omega)
end Go.Proofs.Ytoljhicemcjbkaa.Sh
