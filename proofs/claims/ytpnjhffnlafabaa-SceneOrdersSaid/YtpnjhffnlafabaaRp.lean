/- The reference of law 13, plain: its steps, its whole and its tall are the program's where names are right. The reference of law 13, plain: the kids of a group, by ascending number. The reference of law 13, plain: the groups below one another, in the program's order; the tasks by choice, in the program's order. What is wrong with a scene, plain: as the reference asks it, one thing behind the other. -/
import Derived.Test.YtpnjhffnlafabaaRb
namespace Go.Proofs.Ytpnjhffnlafabaa.Sn
set_option linter.unusedVariables false
set_option linter.unusedSimpArgs false
open Go.RowKit Go.Proofs.Bm Go.Proofs.Sc Go.Proofs.Ytpnjhffnlafabaa.PSceneOrders

/-- the names of a scene's groups are right: each has a number of its own, not 0, and its parent is there -/
structure Named (xs : List SG) : Prop where
  nd : (gids (xs.map gOf)).Nodup
  ne : ∀ x ∈ xs, x.f0 ≠ 0
  par : ∀ x ∈ xs, x.f1 ≠ 0 → x.f1 ∈ gids (xs.map gOf)
theorem gids_map (xs : List SG) : gids (xs.map gOf) = xs.map (·.f0) := by unfold gids; rw [List.map_map]; rfl
theorem gidx_is {xs : List SG} {id : Int} (h : id ∈ gids (xs.map gOf)) : ∃ j, gidx xs id = some j := by
  rw [gids_map] at h
  cases h1 : gidx xs id with
  | some j => exact ⟨j, rfl⟩
  | none =>
    exfalso
    induction xs with
    | nil => cases h
    | cons z zs ih =>
      unfold gidx at h1
      by_cases hz : z.f0 = id
      · rw [if_pos hz] at h1; cases h1
      · rw [if_neg hz] at h1
        rcases List.mem_cons.1 h with h | h
        · exact hz h.symm
        · cases h2 : gidx zs id with
          | none => exact ih h h2
          | some j => rw [h2] at h1; cases h1
theorem gidx_not {xs : List SG} {id : Int} (h : id ∉ gids (xs.map gOf)) : gidx xs id = none :=
  gidx_none xs id fun y hy e => h (by rw [gids_map]; exact List.mem_map.2 ⟨y, hy, e⟩)
theorem Named.upE {xs : List SG} (h : Named xs) {x : SG} (hx : x ∈ xs) : up (xs.map gOf) x.f0 = x.f1 :=
  up_mem h.nd (g := gOf x) (List.mem_map.2 ⟨x, hx, rfl⟩)
theorem Named.inj {xs : List SG} (h : Named xs) {i j : Nat} {x y : SG} (hi : xs[i]? = some x) (hj : xs[j]? = some y) (e : x.f0 = y.f0) : i = j := by
  have hn := h.nd
  rw [gids_map] at hn
  have h1 : (xs.map (·.f0))[i]? = some x.f0 := by rw [List.getElem?_map, hi]; rfl
  have h2 : (xs.map (·.f0))[j]? = some x.f0 := by rw [List.getElem?_map, hj, e]; rfl
  obtain ⟨q1, r1⟩ := List.getElem?_eq_some_iff.1 h1
  obtain ⟨q2, r2⟩ := List.getElem?_eq_some_iff.1 h2
  exact (List.getElem_inj hn).1 (r1.trans r2.symm)
theorem Named.rstepsE {xs : List SG} (h : Named xs) : ∀ (f k j : Nat) (x : SG), xs[j]? = some x → k + f = xs.length + 1 → 0 < f →
    rsteps xs f k j = if (xs.length < k + (climb (up (xs.map gOf)) f x.f0).1) ∨ (climb (up (xs.map gOf)) f x.f0).2 ≠ headId (xs.map gOf) then -1 else ((k + (climb (up (xs.map gOf)) f x.f0).1 : Nat) : Int)
  | 0, _, _, _, _, _, hf => absurd hf (Nat.lt_irrefl 0)
  | f + 1, k, j, x, hx, hk, _ => by
    have hm := List.mem_of_getElem? hx
    have hu := h.upE hm
    unfold rsteps climb
    rw [hx, hu]
    simp only []
    by_cases h1 : x.f1 = 0
    · rw [if_pos h1, if_pos h1]
      simp only []
      have hh : x.f0 = headId (xs.map gOf) ↔ j = 0 := by
        cases xs with
        | nil => cases hm
        | cons z zs =>
          show x.f0 = z.f0 ↔ j = 0
          constructor
          · intro e; exact h.inj hx (show (z :: zs)[0]? = some z from rfl) e
          · intro e; subst e; simp at hx; rw [hx]
      by_cases hj : j = 0
      · rw [if_pos hj, if_neg]
        · rfl
        · rintro (h2 | h2)
          · omega
          · exact h2 (hh.2 hj)
      · rw [if_neg hj, if_pos (.inr (fun e => hj (hh.1 e)))]
    · rw [if_neg h1, if_neg h1]
      simp only []
      obtain ⟨j', hj'⟩ := gidx_is (h.par x hm h1)
      obtain ⟨y, hy, hy0⟩ := gidx_at xs _ _ hj'
      rw [hj']
      simp only []
      by_cases hlt : xs.length < k + 1
      · rw [if_pos hlt, if_pos (.inl (by omega))]
      · rw [if_neg hlt, h.rstepsE f (k + 1) j' y hy (by omega) (by omega), hy0]
        rw [show k + 1 + (climb (up (xs.map gOf)) f x.f1).1 = k + ((climb (up (xs.map gOf)) f x.f1).1 + 1) by omega]
theorem Named.stepsE {xs : List SG} (h : Named xs) {j : Nat} {x : SG} (hx : xs[j]? = some x) : rsteps xs (xs.length + 1) 0 j = stepsOf (xs.map gOf) x.f0 := by
  rw [h.rstepsE _ 0 j x hx (by omega) (by omega)]
  unfold stepsOf
  have hl : 0 < xs.length := by have := (List.getElem?_eq_some_iff.1 hx).1; omega
  rw [List.length_map]
  simp only [Nat.zero_add]
  by_cases hc : (xs.length < (climb (up (xs.map gOf)) (xs.length + 1) x.f0).1) ∨ (climb (up (xs.map gOf)) (xs.length + 1) x.f0).2 ≠ headId (xs.map gOf)
  · rw [if_pos hc, if_pos (hc.imp id fun h => ⟨hl, h⟩)]
  · rw [if_neg hc, if_neg (fun h' => hc (h'.imp id fun h => h.2))]
theorem Named.all {xs : List SG} (h : Named xs) : rwhole xs = (xs.map gOf).all fun g => decide (0 ≤ stepsOf (xs.map gOf) g.id) := by
  unfold rwhole
  rw [Bool.eq_iff_iff, List.all_eq_true, List.all_eq_true]
  constructor
  · intro h1 g hg
    obtain ⟨x, hx, rfl⟩ := List.mem_map.1 hg
    obtain ⟨j, hj⟩ := List.mem_iff_getElem?.1 hx
    have := h1 j (List.mem_range.2 (List.getElem?_eq_some_iff.1 hj).1)
    rw [h.stepsE hj] at this
    exact this
  · intro h1 j hj
    have hl := List.mem_range.1 hj
    have hx := List.getElem?_eq_getElem hl
    rw [h.stepsE hx]
    exact h1 (gOf xs[j]) (List.mem_map.2 ⟨_, List.getElem_mem hl, rfl⟩)
theorem Named.wholeE {xs : List SG} (h : Named xs) : rwhole xs = wholeOf (xs.map gOf) := by
  unfold wholeOf
  rw [← h.all, tailPlain_eq h.nd]
  cases hw : rwhole xs with
  | false => simp
  | true =>
    rw [Bool.and_true]
    symm
    rw [List.all_eq_true]
    intro g hg
    unfold rwhole at hw
    rw [List.all_eq_true] at hw
    obtain ⟨j, hj⟩ := List.mem_iff_getElem?.1 hg
    rw [List.getElem?_tail, List.getElem?_map] at hj
    cases hx : xs[j + 1]? with
    | none => rw [hx] at hj; cases hj
    | some x =>
      rw [hx] at hj
      cases hj
      have h1 := of_decide_eq_true (hw (j + 1) (List.mem_range.2 (List.getElem?_eq_some_iff.1 hx).1))
      unfold rsteps at h1
      rw [hx] at h1
      simp only [] at h1
      simp only [Bool.not_eq_true', decide_eq_false_iff_not]
      intro h2
      rw [if_pos (show x.f1 = 0 from h2), if_neg (by omega)] at h1
      omega
theorem Named.tallE {xs : List SG} (h : Named xs) : rtall xs = tallOf (xs.map gOf) := by
  unfold rtall tallOf
  rw [List.foldl_map, List.foldl_map]
  have key : ∀ (l : List SG) (o : Nat) (t : Int), (∀ i x, l[i]? = some x → xs[o + i]? = some x) →
      (List.range' o l.length).foldl (fun t i => max t (rsteps xs (xs.length + 1) 0 i)) t = l.foldl (fun t x => max t (stepsOf (xs.map gOf) (gOf x).id)) t := by
    intro l
    induction l with
    | nil => intro o t _; rfl
    | cons z zs ih =>
      intro o t hl
      rw [List.length_cons, List.range'_succ, List.foldl_cons, List.foldl_cons, show rsteps xs (xs.length + 1) 0 o = stepsOf (xs.map gOf) (gOf z).id from h.stepsE (show xs[o]? = some z from hl 0 z rfl)]
      exact ih (o + 1) _ fun i x hx => by rw [show o + 1 + i = o + (i + 1) by omega]; exact hl (i + 1) x (by simpa using hx)
  rw [List.range_eq_range']
  exact key xs 0 0 fun i x hx => by rw [Nat.zero_add]; exact hx
end Go.Proofs.Ytpnjhffnlafabaa.Sn
namespace Go.Proofs.Ytpnjhffnlafabaa.Sn
set_option linter.unusedVariables false
set_option linter.unusedSimpArgs false
open Go.RowKit Go.Proofs.Bm Go.Proofs.Sc Go.Proofs.Ytpnjhffnlafabaa.PSceneOrders

/-- the least one above the last one: none, or the least -/
theorem rnext_spec (id last : Int) : ∀ (ps : List SP) (nx : Int), (∀ p ∈ ps, 0 < p.f0) → 0 ≤ nx →
    (0 ≤ ps.foldl (rnextF id last) nx) ∧ (nx ≠ 0 → ps.foldl (rnextF id last) nx ≠ 0 ∧ ps.foldl (rnextF id last) nx ≤ nx) ∧
    (∀ q ∈ ps, q.f1 = id → last < q.f0 → ps.foldl (rnextF id last) nx ≠ 0 ∧ ps.foldl (rnextF id last) nx ≤ q.f0) ∧
    (ps.foldl (rnextF id last) nx = nx ∨ ∃ q ∈ ps, q.f1 = id ∧ last < q.f0 ∧ ps.foldl (rnextF id last) nx = q.f0)
  | [], nx, _, h0 => ⟨h0, fun h => ⟨h, Int.le_refl _⟩, (fun q hq => by cases hq), .inl rfl⟩
  | p :: ps, nx, hp, h0 => by
    rw [List.foldl_cons]
    have hp0 := hp p (by simp)
    have hf : rnextF id last nx p = if p.f1 = id ∧ last < p.f0 ∧ (nx = 0 ∨ p.f0 < nx) then p.f0 else nx := rfl
    have h1 : 0 ≤ rnextF id last nx p := by rw [hf]; split <;> omega
    obtain ⟨a, b, c, d⟩ := rnext_spec id last ps (rnextF id last nx p) (fun q hq => hp q (by simp [hq])) h1
    generalize ps.foldl (rnextF id last) (rnextF id last nx p) = r at a b c d ⊢
    refine ⟨a, ?_, ?_, ?_⟩
    · intro hn
      rw [hf] at b
      split at b
      · rename_i hc
        have := b (by omega)
        omega
      · exact b hn
    · intro q hq hq1 hq2
      rcases List.mem_cons.1 hq with rfl | hq
      · rw [hf] at b
        split at b
        · exact b (by omega)
        · rename_i hc
          have h3 : ¬ (nx = 0 ∨ q.f0 < nx) := fun h => hc ⟨hq1, hq2, h⟩
          have := b (by omega)
          omega
      · exact c q hq hq1 hq2
    · rcases d with d | ⟨q, hq, d⟩
      · rw [hf] at d
        split at d
        · rename_i hc; exact .inr ⟨p, by simp, hc.1, hc.2.1, d⟩
        · exact .inl d
      · exact .inr ⟨q, by simp [hq], d⟩
/-- a strictly ascending row without those up to a number: the least one, and the rest -/
theorem rkids_sorted {ps : List SP} {id : Int} {l : List Int} (hpos : ∀ p ∈ ps, 0 < p.f0) (hh : rhas ps id = true) (hs : l.Pairwise (· < ·))
    (hm : ∀ k : Int, k ∈ l ↔ ∃ p ∈ ps, p.f1 = id ∧ p.f0 = k) : ∀ (f : Nat) (last : Int), (l.filter fun k => decide (last < k)).length < f → rkids ps id f last = l.filter fun k => decide (last < k)
  | 0, last, h => by omega
  | f + 1, last, h => by
    obtain ⟨a, _, c, d⟩ := rnext_spec id last ps 0 hpos (Int.le_refl _)
    unfold rkids
    have hr : rnext ps id last = ps.foldl (rnextF id last) 0 := rfl
    rw [← hr] at a c d
    generalize rnext ps id last = r at a c d ⊢
    rw [hh]
    by_cases h0 : r = 0
    · rw [if_pos (.inl h0)]
      symm
      rw [List.filter_eq_nil_iff]
      intro k hk
      obtain ⟨p, hp, h1, h2⟩ := (hm k).1 hk
      intro h3
      exact (c p hp h1 (by rw [h2]; exact of_decide_eq_true h3)).1 h0
    · rw [if_neg (by simp [h0])]
      obtain ⟨q, hq, q1, q2, q3⟩ := d.resolve_left h0
      have hrl : r ∈ l := (hm r).2 ⟨q, hq, q1, q3.symm⟩
      have hmin : ∀ k ∈ l, last < k → r ≤ k := fun k hk hlk => by
        obtain ⟨p, hp, h1, h2⟩ := (hm k).1 hk
        have := (c p hp h1 (by rw [h2]; exact hlk)).2
        omega
      have hsplit : (l.filter fun k => decide (last < k)) = r :: (l.filter fun k => decide (r < k)) := by
        clear hm
        induction l with
        | nil => cases hrl
        | cons z zs ih =>
          rw [List.pairwise_cons] at hs
          rcases List.mem_cons.1 hrl with rfl | hz
          · rw [List.filter_cons, if_pos (by simp; omega), List.filter_cons, if_neg (by simp)]
            congr 1
            apply List.filter_congr
            intro k hk
            have := hs.1 k hk
            rw [decide_eq_decide]; omega
          · have hzr := hs.1 r hz
            have hnl : ¬ last < z := fun h => by have := hmin z (by simp) h; omega
            rw [List.filter_cons, if_neg (by simpa using hnl), List.filter_cons, if_neg (by simp; omega)]
            refine ih hs.2 ?_ hz (fun k hk hlk => hmin k (by simp [hk]) hlk)
            rw [List.filter_cons, if_neg (by simpa using hnl)] at h
            exact h
      rw [hsplit]
      congr 1
      refine rkids_sorted hpos hh hs hm f r ?_
      rw [hsplit] at h
      simp at h
      exact h
end Go.Proofs.Ytpnjhffnlafabaa.Sn
namespace Go.Proofs.Ytpnjhffnlafabaa.Sn
set_option linter.unusedVariables false
set_option linter.unusedSimpArgs false
open Go.RowKit Go.Proofs.Bm Go.Proofs.Sc Go.Proofs.Ytpnjhffnlafabaa.PSceneOrders

def pairs (xs : List SG) : List SP := xs.map fun x => ⟨x.f0, x.f1⟩
/-- a group and all below it -/
def runder (ps : List SP) : Nat → Int → List Int
  | 0, id => [id]
  | f + 1, id => id :: ((rkids ps id (ps.length + 1) 0).map (runder ps f)).flatten
/-- it ends -/
def Rok (ps : List SP) : Nat → Int → Prop
  | 0, _ => False
  | f + 1, id => rhas ps id = true ∧ ∀ k ∈ rkids ps id (ps.length + 1) 0, Rok ps f k
theorem has_pair {xs : List SG} {x : SG} (hx : x ∈ xs) : rhas (pairs xs) (gOf x).id = true := by
  unfold rhas pairs
  rw [Bool.or_eq_true, List.any_eq_true]
  exact .inl ⟨⟨x.f0, x.f1⟩, List.mem_map.2 ⟨x, hx, rfl⟩, by simp [gOf]⟩
theorem kids_eq {xs : List SG} (Y : Tree (xs.map gOf)) {g : G} (hg : g ∈ xs.map gOf) : rkids (pairs xs) g.id ((pairs xs).length + 1) 0 = (kidsS (xs.map gOf) g.id).map (·.id) := by
  have hl : (((kidsS (xs.map gOf) g.id).map (·.id)).filter fun k => decide ((0 : Int) < k)) = (kidsS (xs.map gOf) g.id).map (·.id) := by
    rw [List.filter_eq_self]
    intro k hk
    obtain ⟨c, hc, rfl⟩ := List.mem_map.1 hk
    have := Y.ne c (mem_kids.1 hc).1
    simp; omega
  have hlen : (kidsS (xs.map gOf) g.id).length ≤ xs.length := by
    unfold kidsS kidsOf
    rw [List.length_mergeSort]
    exact Nat.le_trans (List.length_filter_le _ _) (by simp)
  rw [rkids_sorted (l := (kidsS (xs.map gOf) g.id).map (·.id)) ?_ ?_ ?_ ?_ _ 0 ?_, hl]
  · intro p hp
    obtain ⟨x, hx, rfl⟩ := List.mem_map.1 hp
    have := Y.ne (gOf x) (List.mem_map.2 ⟨x, hx, rfl⟩)
    have h2 : (gOf x).id = x.f0 := rfl
    show 0 < x.f0
    omega
  · obtain ⟨x, hx, rfl⟩ := List.mem_map.1 hg
    exact has_pair hx
  · have h1 := sorted_id (kidsOf (xs.map gOf) g.id)
    have h2 : (gids (kidsS (xs.map gOf) g.id)).Nodup := ((List.mergeSort_perm (kidsOf (xs.map gOf) g.id) _).map G.id).nodup_iff.2 (kidsOf_nodup Y.nd g.id)
    have h3 : (gids (kidsS (xs.map gOf) g.id)).Pairwise (· ≤ ·) := List.pairwise_map.2 h1
    exact (List.pairwise_and_iff.2 ⟨h3, h2⟩).imp fun {a b} h => by omega
  · intro k
    constructor
    · intro hk
      obtain ⟨c, hc, rfl⟩ := List.mem_map.1 hk
      obtain ⟨h1, h2⟩ := mem_kids.1 hc
      obtain ⟨x, hx, rfl⟩ := List.mem_map.1 h1
      exact ⟨⟨x.f0, x.f1⟩, List.mem_map.2 ⟨x, hx, rfl⟩, h2, rfl⟩
    · rintro ⟨p, hp, h1, h2⟩
      obtain ⟨x, hx, rfl⟩ := List.mem_map.1 hp
      exact List.mem_map.2 ⟨gOf x, mem_kids.2 ⟨List.mem_map.2 ⟨x, hx, rfl⟩, h1⟩, h2⟩
  · rw [hl, List.length_map]
    unfold pairs
    rw [List.length_map]
    omega
theorem walk_ids {xs : List SG} (Y : Tree (xs.map gOf)) : ∀ (n : Nat) (g : G), g ∈ xs.map gOf → runder (pairs xs) n g.id = (walk (xs.map gOf) n g).map (·.id)
  | 0, g, _ => rfl
  | n + 1, g, hg => by
    unfold runder walk
    rw [kids_eq Y hg, List.map_cons, List.map_flatten, List.map_map, List.map_map]
    congr 2
    apply List.map_congr_left
    intro c hc
    exact walk_ids Y n c (mem_kids.1 hc).1
theorem rok {xs : List SG} (Y : Tree (xs.map gOf)) : ∀ (n : Nat) (g : G), g ∈ xs.map gOf → (xs.map gOf).length < stepsOf (xs.map gOf) g.id + n → Rok (pairs xs) n g.id
  | 0, g, hg, h => by have := Y.le hg; omega
  | n + 1, g, hg, h => by
    unfold Rok
    refine ⟨?_, ?_⟩
    · obtain ⟨x, hx, rfl⟩ := List.mem_map.1 hg
      exact has_pair hx
    · rw [kids_eq Y hg]
      intro k hk
      obtain ⟨c, hc, rfl⟩ := List.mem_map.1 hk
      obtain ⟨h1, h2⟩ := mem_kids.1 hc
      have := Y.kid hg h1 h2
      exact rok Y n c h1 (by omega)

/- the choice of the tasks -/
def tid (ts : List ST) (i : Int) : Int := ((ts[i.toNat]?).map (·.f0)).getD 0
def rbestF (us : List Bool) (ts : List ST) (b : Int) (i : Nat) : Int := if us[i]? = some false ∧ (b < 0 ∨ tid ts i < tid ts b) then i else b
theorem rbest_spec (us : List Bool) (ts : List ST) : ∀ k : Nat,
    let b := (List.range k).foldl (rbestF us ts) (-1)
    (b = -1 ∧ ∀ i < k, us[i]? ≠ some false) ∨ ∃ j < k, b = (j : Int) ∧ us[j]? = some false ∧ ∀ i < k, us[i]? = some false → tid ts j ≤ tid ts i
  | 0 => .inl ⟨rfl, fun i hi => absurd hi (Nat.not_lt_zero _)⟩
  | k + 1 => by
    have ih := rbest_spec us ts k
    simp only [] at ih ⊢
    rw [List.range_succ, List.foldl_append, List.foldl_cons, List.foldl_nil]
    generalize (List.range k).foldl (rbestF us ts) (-1) = b at ih ⊢
    unfold rbestF
    by_cases h1 : us[k]? = some false
    · rcases ih with ⟨rfl, h2⟩ | ⟨j, hj, rfl, h3, h4⟩
      · rw [if_pos ⟨h1, .inl (by omega)⟩]
        refine .inr ⟨k, by omega, rfl, h1, fun i hi h5 => ?_⟩
        by_cases hik : i = k
        · subst hik; exact Int.le_refl _
        · exact absurd h5 (h2 i (by omega))
      · by_cases h5 : tid ts k < tid ts j
        · rw [if_pos ⟨h1, .inr h5⟩]
          refine .inr ⟨k, by omega, rfl, h1, fun i hi h6 => ?_⟩
          by_cases hik : i = k
          · subst hik; exact Int.le_refl _
          · have := h4 i (by omega) h6; omega
        · rw [if_neg (by rintro ⟨_, h | h⟩ <;> omega)]
          refine .inr ⟨j, by omega, rfl, h3, fun i hi h6 => ?_⟩
          by_cases hik : i = k
          · subst hik; omega
          · exact h4 i (by omega) h6
    · rw [if_neg (fun h => h1 h.1)]
      rcases ih with ⟨rfl, h2⟩ | ⟨j, hj, rfl, h3, h4⟩
      · refine .inl ⟨rfl, fun i hi => ?_⟩
        by_cases hik : i = k
        · subst hik; exact h1
        · exact h2 i (by omega)
      · refine .inr ⟨j, by omega, rfl, h3, fun i hi h6 => ?_⟩
        by_cases hik : i = k
        · subst hik; exact absurd h6 h1
        · exact h4 i (by omega) h6
/-- the tasks by their numbers -/
def sortS (ts : List ST) : List ST := ts.mergeSort fun a b => decide (a.f0 ≤ b.f0)
theorem sortS_perm (ts : List ST) : (sortS ts).Perm ts := List.mergeSort_perm _ _
theorem sortS_sorted (ts : List ST) : (sortS ts).Pairwise fun a b => a.f0 ≤ b.f0 := by
  have := List.pairwise_mergeSort (le := fun a b : ST => decide (a.f0 ≤ b.f0)) (fun a b c h1 h2 => by simp at *; omega) (fun a b => by simp; omega) ts
  exact this.imp fun h => by simpa using h
theorem sortS_T {ts : List ST} (h : (ts.map (·.f0)).Nodup) : (sortS ts).map tOf = sortT (ts.map tOf) := by
  have h1 : ((ts.map tOf).map (·.id)).Nodup := by rw [List.map_map]; exact h
  rw [← sortT_perm ((sortS_perm ts).symm.map tOf) h1, sortT_id]
  rw [List.pairwise_map]
  exact sortS_sorted ts
/-- which tasks have been chosen, when so many are out -/
structure Sel (ts : List ST) (us : List Bool) (j : Nat) : Prop where
  len : us.length = ts.length
  iff : ∀ (i : Nat) (x : ST), ts[i]? = some x → (us[i]? = some true ↔ x ∈ (sortS ts).take j)
theorem Sel.start (ts : List ST) : Sel ts (List.replicate ts.length false) 0 := by
  refine ⟨by simp, fun i x hx => ?_⟩
  have := (List.getElem?_eq_some_iff.1 hx).1
  rw [List.getElem?_replicate, if_pos this]
  simp
theorem nodup_inj {ts : List ST} (h : (ts.map (·.f0)).Nodup) {i k : Nat} {x y : ST} (hx : ts[i]? = some x) (hy : ts[k]? = some y) (e : x.f0 = y.f0) : i = k := by
  have h1 : (ts.map (·.f0))[i]? = some x.f0 := by rw [List.getElem?_map, hx]; rfl
  have h2 : (ts.map (·.f0))[k]? = some x.f0 := by rw [List.getElem?_map, hy, e]; rfl
  obtain ⟨q1, r1⟩ := List.getElem?_eq_some_iff.1 h1
  obtain ⟨q2, r2⟩ := List.getElem?_eq_some_iff.1 h2
  exact (List.getElem_inj h).1 (r1.trans r2.symm)
theorem Sel.next {ts : List ST} {us : List Bool} {j : Nat} (S : Sel ts us j) (h : (ts.map (·.f0)).Nodup) (hj : j < ts.length) :
    ∃ (b : Nat) (x : ST), (List.range ts.length).foldl (rbestF us ts) (-1) = (b : Int) ∧ ts[b]? = some x ∧ (sortS ts)[j]? = some x ∧ us[b]? = some false ∧ Sel ts (us.set b true) (j + 1) := by
  have hls : (sortS ts).length = ts.length := (sortS_perm ts).length_eq
  have hns : ((sortS ts).map (·.f0)).Nodup := ((sortS_perm ts).map (·.f0)).nodup_iff.2 h
  obtain ⟨y, hy⟩ : ∃ y, (sortS ts)[j]? = some y := ⟨_, List.getElem?_eq_getElem (by omega)⟩
  have hmy : y ∈ ts := (sortS_perm ts).mem_iff.1 (List.mem_of_getElem? hy)
  obtain ⟨iy, hiy⟩ := List.mem_iff_getElem?.1 hmy
  have hnot : ∀ (z : ST) (k : Nat), (sortS ts)[k]? = some z → j ≤ k → z ∉ (sortS ts).take j := by
    intro z k hk hjk hz
    obtain ⟨q, hq⟩ := List.mem_iff_getElem?.1 hz
    have hq2 : q < j := by
      have := (List.getElem?_eq_some_iff.1 hq).1
      rw [List.length_take] at this
      omega
    rw [List.getElem?_take_of_lt hq2] at hq
    have := nodup_inj hns hk hq rfl
    omega
  have hub : ∀ (i : Nat) (x : ST), ts[i]? = some x → x ∉ (sortS ts).take j → us[i]? = some false := by
    intro i x hx hn
    have hlt : i < us.length := by have := (List.getElem?_eq_some_iff.1 hx).1; have := S.len; omega
    have := S.iff i x hx
    rw [List.getElem?_eq_getElem hlt] at this ⊢
    cases hb : us[i] with
    | false => rfl
    | true => rw [hb] at this; exact absurd (this.1 rfl) hn
  have huy := hub iy y hiy (hnot y j hy (Nat.le_refl _))
  have hlty : iy < ts.length := (List.getElem?_eq_some_iff.1 hiy).1
  rcases rbest_spec us ts ts.length with ⟨_, h2⟩ | ⟨b, hb, h3, h4, h5⟩
  · exact absurd huy (h2 iy hlty)
  · obtain ⟨x, hx⟩ : ∃ x, ts[b]? = some x := ⟨_, List.getElem?_eq_getElem hb⟩
    have htid : ∀ (i : Nat) (z : ST), ts[i]? = some z → tid ts (i : Int) = z.f0 := by
      intro i z hz
      unfold tid
      rw [Int.toNat_natCast, hz]; rfl
    have h6 := h5 iy hlty huy
    rw [htid b x hx, htid iy y hiy] at h6
    have hxn : x ∉ (sortS ts).take j := by
      intro hm
      have := (S.iff b x hx).2 hm
      rw [h4] at this; cases this
    have hxs : x ∈ sortS ts := (sortS_perm ts).mem_iff.2 (List.mem_of_getElem? hx)
    obtain ⟨q, hq⟩ := List.mem_iff_getElem?.1 hxs
    have hjq : j ≤ q := by
      rcases Nat.lt_or_ge q j with hlt | hge
      · exact absurd (List.mem_iff_getElem?.2 ⟨q, by rw [List.getElem?_take_of_lt hlt]; exact hq⟩) hxn
      · exact hge
    have h7 : y.f0 ≤ x.f0 := by
      rcases Nat.eq_or_lt_of_le hjq with e | hlt
      · subst e; rw [hy] at hq; cases hq; exact Int.le_refl _
      · have hp := List.pairwise_iff_getElem.1 (sortS_sorted ts) j q (by omega) (List.getElem?_eq_some_iff.1 hq).1 hlt
        rw [(List.getElem?_eq_some_iff.1 hy).2, (List.getElem?_eq_some_iff.1 hq).2] at hp
        exact hp
    have hqj : q = j := nodup_inj hns hq hy (by omega)
    subst hqj
    refine ⟨b, x, h3, hx, hq, h4, by rw [List.length_set]; exact S.len, fun i z hz => ?_⟩
    have htk : (sortS ts).take (q + 1) = (sortS ts).take q ++ [x] := by rw [List.take_add_one, hq]; rfl
    rw [htk, List.mem_append, ← S.iff i z hz, List.mem_singleton]
    by_cases hib : b = i
    · subst hib
      rw [hx] at hz; cases hz
      rw [List.getElem?_set, if_pos rfl, if_pos (by have := S.len; omega)]
      simp
    · rw [List.getElem?_set_ne hib]
      constructor
      · exact .inl
      · rintro (h8 | h8)
        · exact h8
        · subst h8
          exact absurd (nodup_inj h hx hz rfl) hib
theorem Sel.mono {ts : List ST} {us : List Bool} {j : Nat} (S : Sel ts us j) {b : Nat} {x : ST} (hx : (sortS ts)[j]? = some x) : (sortS ts).take (j + 1) = (sortS ts).take j ++ [x] := by rw [List.take_add_one, hx]; rfl
theorem rows_of {xs : List SG} : ∀ (l : List G), (∀ g ∈ l, g ∈ xs.map gOf) → ∃ ys : List SG, ys.map gOf = l ∧ ∀ y ∈ ys, y ∈ xs
  | [], _ => ⟨[], rfl, fun y hy => by cases hy⟩
  | g :: l, h => by
    obtain ⟨ys, h1, h2⟩ := rows_of l fun g hg => h g (by simp [hg])
    obtain ⟨x, hx, rfl⟩ := List.mem_map.1 (h g (by simp))
    exact ⟨x :: ys, by rw [List.map_cons, h1], fun y hy => (List.mem_cons.1 hy).elim (fun e => by rw [e]; exact hx) (fun hy => h2 y hy)⟩
theorem under_rows {xs : List SG} (Y : Tree (xs.map gOf)) (hne : xs ≠ []) : ∃ (ys : List SG) (id : Int), ((xs[0]?).map (·.f0)) = some id ∧ ys.map gOf = underOf (xs.map gOf) ∧ (∀ y ∈ ys, y ∈ xs) ∧
    runder (pairs xs) (xs.length + 1) id = ys.map (·.f0) ∧ ys.length ≤ (xs.length + 2) * xs.length ∧ Rok (pairs xs) (xs.length + 1) id := by
  obtain ⟨z, zs, rfl⟩ := List.exists_cons_of_ne_nil hne
  obtain ⟨gs, hgs⟩ : ∃ gs, (z :: zs).map gOf = gs := ⟨_, rfl⟩
  have hl : gs.length = (z :: zs).length := by rw [← hgs, List.length_map]
  have hz : gOf z ∈ gs := by rw [← hgs]; simp
  have hu : underOf gs = walk gs (gs.length + 1) (gOf z) := by rw [← hgs]; rfl
  have h0 : 0 ≤ stepsOf gs (gOf z).id := by rw [← hgs] at hz ⊢; exact Y.st _ hz
  have hin : ∀ y ∈ underOf gs, y ∈ (z :: zs).map gOf := by
    intro y hy
    rw [hu] at hy
    rw [hgs] at Y ⊢
    exact (Y.inside (gs.length + 1) (gOf z) hz (by omega) y hy).1
  obtain ⟨ys, h1, h2⟩ := rows_of (xs := z :: zs) (underOf gs) hin
  refine ⟨ys, z.f0, rfl, by rw [hgs]; exact h1, h2, ?_, ?_, ?_⟩
  · have h3 := walk_ids Y ((z :: zs).length + 1) (gOf z) (by rw [hgs]; exact hz)
    rw [show runder (pairs (z :: zs)) ((z :: zs).length + 1) z.f0 = _ from h3, hgs, ← hl, ← hu, ← h1, List.map_map]
    rfl
  · have h3 := congrArg List.length h1
    rw [List.length_map] at h3
    rw [h3, hu, ← hl]
    rw [hgs] at Y
    have h4 := Sn.walk_len Y.nd (gs.length + 1) hz
    exact h4
  · rw [hgs] at Y
    refine rok (xs := z :: zs) (by rw [hgs]; exact Y) _ (gOf z) (by rw [hgs]; exact hz) ?_
    rw [hgs, hl]; omega
end Go.Proofs.Ytpnjhffnlafabaa.Sn
namespace Go.Proofs.Ytpnjhffnlafabaa.Sn
set_option linter.unusedVariables false
set_option linter.unusedSimpArgs false
open Go.RowKit Go.Proofs.Bm Go.Proofs.Sc Go.Proofs.Ytpnjhffnlafabaa.PSceneOrders

def Bad (gs : List G) (us : List T) : Prop := headPar gs ≠ 0 ∨ (∃ g ∈ gs, g.parent ≠ 0 ∧ g.parent ∉ gids gs) ∨ (∃ t ∈ us, t.group ∉ gids gs)
structure Asked (gs : List G) (us : List T) (ck : Int) : Prop where
  twice : ¬ (idsOf gs us).Nodup → ck = 9
  none_ : (idsOf gs us).Nodup → Bad gs us → ck = 8
  form : (idsOf gs us).Nodup → ¬ Bad gs us → (wholeOf gs = false ∨ orderOf gs us ≠ (gs, us)) → ck = 5
  deep : (idsOf gs us).Nodup → ¬ Bad gs us → wholeOf gs = true → orderOf gs us = (gs, us) → ck = if 16 ≤ tallOf gs then 10 else 0
theorem asked {gs : List G} {us : List T} (h0 : gs.length ≠ 0) (h1 : gs.length ≤ 4096) (h2 : us.length ≤ 4096) (ho : gs.any oddG = false) (ht : us.any oddT = false) : Asked gs us (checkOf gs us) := by
  have hd : checkOf gs us = if namesOf gs us ≠ 0 then namesOf gs us else if wholeOf gs = false ∨ orderOf gs us ≠ (gs, us) then 5 else if 16 ≤ tallOf gs then 10 else 0 := by
    unfold checkOf
    rw [if_neg h0, if_neg (by omega), if_neg (by rw [ho, ht]; simp)]
  have n9 : ¬ (idsOf gs us).Nodup → namesOf gs us = 9 := fun h => by unfold namesOf; rw [if_pos h]
  have n8 : (idsOf gs us).Nodup → Bad gs us → namesOf gs us = 8 := fun h hb => by unfold namesOf; rw [if_neg (fun h' => h' h)]; exact if_pos hb
  have n0 : (idsOf gs us).Nodup → ¬ Bad gs us → namesOf gs us = 0 := fun h hb => by unfold namesOf; rw [if_neg (fun h' => h' h)]; exact if_neg hb
  refine ⟨fun h => ?_, fun h hb => ?_, fun h hb hf => ?_, fun h hb hw hf => ?_⟩
  · rw [hd, n9 h]; rfl
  · rw [hd, n8 h hb]; rfl
  · rw [hd, n0 h hb, if_neg (fun h' => h' rfl), if_pos hf]
  · rw [hd, n0 h hb, if_neg (fun h' => h' rfl), if_neg]
    rintro (h' | h')
    · rw [hw] at h'; cases h'
    · exact h' hf
theorem nodup_take {l : List Int} {i : Nat} {z : Int} (h : (l.take i).Nodup) (hz : l[i]? = some z) (hq : ∀ q < i, l[q]? ≠ some z) : (l.take (i + 1)).Nodup := by
  rw [List.take_add_one, hz]
  show (l.take i ++ [z]).Nodup
  rw [List.nodup_append]
  refine ⟨h, by simp, fun a ha b hb => ?_⟩
  rw [List.mem_singleton] at hb
  subst hb
  rintro rfl
  obtain ⟨q, hq1⟩ := List.mem_iff_getElem?.1 ha
  have hlt : q < i := by
    have := (List.getElem?_eq_some_iff.1 hq1).1
    rw [List.length_take] at this; omega
  rw [List.getElem?_take_of_lt hlt] at hq1
  exact hq q hlt hq1
theorem not_nodup {l : List Int} {i k : Nat} {z : Int} (hk : l[k]? = some z) (hi : l[i]? = some z) (hne : k ≠ i) : ¬ l.Nodup := by
  intro h
  obtain ⟨q1, r1⟩ := List.getElem?_eq_some_iff.1 hk
  obtain ⟨q2, r2⟩ := List.getElem?_eq_some_iff.1 hi
  exact hne ((List.getElem_inj h).1 (r1.trans r2.symm))
theorem gint_neg {xs : List SG} {id : Int} (h : gint xs id < 0) : id ∉ gids (xs.map gOf) := by
  intro hm
  obtain ⟨j, hj⟩ := gidx_is hm
  unfold gint at h
  rw [hj] at h
  simp only [] at h
  omega
theorem gint_pos {xs : List SG} {id : Int} (h : ¬ gint xs id < 0) : id ∈ gids (xs.map gOf) := by
  apply Decidable.byContradiction
  intro hm
  unfold gint at h
  rw [gidx_not hm] at h
  simp at h
theorem okids {xs : List SG} {ts : List ST} (ho : (xs.map gOf).any oddG = false) (hnd : (idsS xs ts).Nodup) (hp : ∀ x ∈ xs, x.f1 ≠ 0 → x.f1 ∈ gids (xs.map gOf)) : Named xs := by
  refine ⟨by rw [gids_map]; exact (List.nodup_append.1 hnd).1, fun x hx => ?_, hp⟩
  have h1 : oddG (gOf x) = false := by
    have := List.any_eq_false.1 ho (gOf x) (List.mem_map.2 ⟨x, hx, rfl⟩)
    simpa using this
  have := (within1_iff.1 (oddG_id h1)).1
  have h2 : (gOf x).id = x.f0 := rfl
  omega
end Go.Proofs.Ytpnjhffnlafabaa.Sn
