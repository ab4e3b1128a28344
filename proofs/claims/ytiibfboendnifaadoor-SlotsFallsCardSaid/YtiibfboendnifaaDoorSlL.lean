/- Plain: commits and deletes on a disk that is on. -/
import Derived.Test.YtiibfboendnifaaDoorSlK
namespace Go.Proofs.YtiibfboendnifaaDoor.Sl
set_option linter.unusedVariables false
set_option linter.unusedSimpArgs false
open Go.RowKit Go.Proofs.Bk Go.Proofs.Bm Go.Proofs.YtiibfboendnifaaDoor.Dk Go.Proofs.YtiibfboendnifaaDoorW.PrintWords

theorem wrt_sec {n : Nat} {D : Dsk} (h : Fine n D) {i : Nat} {bs : List Int} (h1 : i < n) (hb : bs.length ≤ 64) (j : Int) : (D.wrt (i : Int) bs).sec j = if j = (i : Int) then pad bs else D.sec j := by
  rw [h.wrt_eq (by omega) (by omega) hb]
  unfold Dsk.sec
  show (aget (aset D.waits (i : Int) (pad bs)) j).getD (D.kept.getD j.toNat []) = _
  rw [aget_aset]
  split <;> rfl
theorem mix_get (kept : List (List Int)) (ws : List (Int × List Int)) (i : Nat) : (mix kept ws []).getD i [] = if i < kept.length then (aget ws (i : Int)).getD (kept.getD i []) else [] := by
  unfold mix
  rw [List.getD_eq_getElem?_getD, List.getElem?_mapIdx]
  by_cases h : i < kept.length
  · rw [List.getElem?_eq_getElem h, if_pos h]
    simp [aget_nil, List.getD_eq_getElem?_getD, List.getElem?_eq_getElem h]
  · rw [List.getElem?_eq_none (by omega), if_neg h]; rfl
theorem fl_sec {n : Nat} {D : Dsk} (h : Fine n D) {j : Nat} (hj : j < n) : D.fl.sec (j : Int) = D.sec (j : Int) := by
  rw [h.fl_eq]
  unfold Dsk.sec
  show (aget [] (j : Int)).getD ((mix D.kept D.waits []).getD ((j : Int)).toNat []) = _
  rw [aget_nil, Int.toNat_natCast, mix_get, if_pos (by rw [h.len]; exact hj)]
  rfl

def nsec (m : Nat) : Nat := (m + 63) / 64
theorem wrs_spec {n : Nat} : ∀ (k : Nat) (D : Dsk) (i : Nat) (rest : List Int), Fine n D → rest.length ≤ k → i + nsec rest.length ≤ n →
    (wrs k D (i : Int) rest).1 = 0 ∧ Fine n (wrs k D (i : Int) rest).2 ∧ (∀ j : Nat, j < i ∨ i + nsec rest.length ≤ j → (wrs k D (i : Int) rest).2.sec (j : Int) = D.sec (j : Int)) ∧
      (∀ q, nsec rest.length ≤ q → (runOf (wrs k D (i : Int) rest).2 i q).take rest.length = rest)
  | 0, D, i, rest, hF, hk, hn => by
    have : rest = [] := List.eq_nil_of_length_eq_zero (by omega)
    subst this
    exact ⟨rfl, hF, fun _ _ => rfl, fun _ _ => rfl⟩
  | k + 1, D, i, rest, hF, hk, hn => by
    by_cases hr : rest = []
    · subst hr
      rw [wrs, if_pos rfl]
      exact ⟨rfl, hF, fun _ _ => rfl, fun _ _ => rfl⟩
    · have hl0 : 0 < rest.length := (by cases rest with | nil => exact absurd rfl hr | cons a l => simp)
      have hns : nsec rest.length = nsec (rest.drop 64).length + 1 := by unfold nsec; rw [List.length_drop]; omega
      have hi : i < n := by omega
      have ht : (rest.take 64).length ≤ 64 := by rw [List.length_take]; omega
      have he := hF.wrErr (i := (i : Int)) (bs := rest.take 64) (by omega) (by omega) ht
      rw [wrs, if_neg hr, if_neg (by rw [he]; simp), show (i : Int) + 1 = ((i + 1 : Nat) : Int) by omega]
      obtain ⟨q1, q2, q3, q4⟩ := wrs_spec k (D.wrt (i : Int) (rest.take 64)) (i + 1) (rest.drop 64) (hF.wrt _ _) (by rw [List.length_drop]; omega) (by omega)
      refine ⟨q1, q2, fun j hj => ?_, fun q hq => ?_⟩
      · rw [q3 j (by omega), wrt_sec hF hi ht, if_neg (by omega)]
      · obtain ⟨q', rfl⟩ : ∃ q', q = q' + 1 := ⟨q - 1, by omega⟩
        rw [runOf_cons, q3 i (by omega), wrt_sec hF hi ht, if_pos rfl]
        have hp : pad (rest.take 64) = rest.take 64 ++ List.replicate (64 - (rest.take 64).length) 0 := rfl
        have ih := q4 q' (by omega)
        by_cases h64 : rest.length ≤ 64
        · rw [hp, List.append_assoc, List.take_of_length_le h64, List.take_append_of_le_length (by omega), List.take_of_length_le (by omega)]
        · have hl : (rest.take 64).length = 64 := by rw [List.length_take]; omega
          rw [hp, hl, Nat.sub_self, List.replicate_zero, List.append_nil, List.take_append, hl, List.take_of_length_le (by omega)]
          rw [List.length_drop] at ih
          rw [ih, List.take_append_drop]

/-- the disk D2 behind a head that was written: only its sector is another one -/
theorem seal_fine {n : Nat} {D : Dsk} (h : Fine n D) (hn : 2 ≤ n) (h0 h' : Hd) (ha : 0 ≤ h'.age) :
    sealOf D h0 h' = (0, (D.wrt (h'.age % 2) h'.put).fl, h') ∧ Fine n (D.wrt (h'.age % 2) h'.put).fl ∧ (D.wrt (h'.age % 2) h'.put).fl.waits = [] ∧
      (∀ j : Nat, j < n → (D.wrt (h'.age % 2) h'.put).fl.sec (j : Int) = if (j : Int) = h'.age % 2 then pad h'.put else D.sec (j : Int)) := by
  obtain ⟨s, hs⟩ : ∃ s : Nat, h'.age % 2 = (s : Int) := ⟨(h'.age % 2).toNat, by omega⟩
  have hs1 : s < n := by omega
  rw [hs]
  have hb : h'.put.length ≤ 64 := by rw [h'.put_length]; decide
  have he := h.wrErr (i := (s : Int)) (bs := h'.put) (by omega) (by omega) hb
  have hw := h.wrt (s : Int) h'.put
  have hf := hw.flErr
  refine ⟨?_, hw.fl, fl_waits hw, fun j hj => ?_⟩
  · unfold sealOf; rw [hs, if_neg (by rw [he]; simp), if_neg (by rw [hf]; simp)]
  · rw [fl_sec hw hj, wrt_sec h hs1 hb]

/-- what the store says is what lies on the disk; the other slot tells something older -/
structure Inv (n : Nat) (D : Dsk) (h : Hd) : Prop where
  fine : Fine n D
  n4 : 4 ≤ n
  cur : (h = hd0 ∧ (toldOf D 0).age ≤ 0 ∧ (toldOf D 1).age ≤ 0) ∨ (∃ slot : Nat, slot ≤ 1 ∧ Holds D slot h ∧ (toldOf D (1 - slot)).age < h.age)
theorem Inv.open_ {n : Nat} {D : Dsk} {h : Hd} (I : Inv n D h) : openOf D = h := by
  unfold openOf openK openK openK newer
  rcases I.cur with ⟨rfl, h0, h1⟩ | ⟨slot, hs, hh, ho⟩
  · rw [if_neg (show ¬ hd0.age < (toldOf D 0).age from by show ¬ (0 : Int) < _; omega), if_neg (show ¬ hd0.age < (toldOf D 1).age from by show ¬ (0 : Int) < _; omega)]
  · have ht := hh.told
    have ha := hh.age
    rcases (by omega : slot = 0 ∨ slot = 1) with rfl | rfl
    · rw [show (1 - 0 : Nat) = 1 from rfl] at ho
      rw [ht, if_pos (show hd0.age < h.age from by show (0 : Int) < _; omega), if_neg (by omega)]
    · rw [show (1 - 1 : Nat) = 0 from rfl] at ho
      rw [ht]
      split
      · first
          | rfl
          | rw [if_pos ho]
      · first
          | rfl
          | rw [if_pos (show hd0.age < h.age from by show (0 : Int) < _; omega)]

theorem fine_half {n : Nat} {D : Dsk} (h : Fine n D) : halfOf D = (n - 2) / 2 := by unfold halfOf; rw [h.len]
theorem slots_fit {n : Nat} (h4 : 4 ≤ n) {D : Dsk} (h : Fine n D) (s : Nat) (hs : s ≤ 1) : 2 ≤ fromOf D s ∧ fromOf D s + halfOf D ≤ n ∧ (∀ j, fromOf D s ≤ j → j < fromOf D s + halfOf D → j < fromOf D (1 - s) ∨ fromOf D (1 - s) + halfOf D ≤ j) := by
  have hh := fine_half h
  unfold fromOf
  rcases (by omega : s = 0 ∨ s = 1) with rfl | rfl
  · refine ⟨by omega, by omega, fun j h1 h2 => ?_⟩; simp only [Nat.sub_zero]; omega
  · refine ⟨by omega, by omega, fun j h1 h2 => ?_⟩; simp only [Nat.sub_self]; omega

/-- a new head h', whose image (if any) has been written into its slot, is sealed on D1 -/
theorem Inv.sealed {n : Nat} {D D1 : Dsk} {h h' : Hd} (I : Inv n D h) (hF : Fine n D1) (hoth : ∀ (s : Nat), s ≤ 1 → (s : Int) ≠ h'.age % 2 → toldOf D1 s = toldOf D s)
    (hage : h'.age = h.age + 1) (hok : h'.Ok) (hlen : h'.img.length ≤ 64 * halfOf D1) (hhas : 0 < h'.img.length → h'.has = true)
    (himg : ∀ s : Nat, h'.age % 2 = s → (runOf D1 (fromOf D1 s) (halfOf D1)).take h'.img.length = h'.img) :
    ∃ D2, sealOf D1 h h' = (0, D2, h') ∧ Inv n D2 h' ∧ D2.waits = [] ∧ (∀ j : Nat, j < n → D2.sec (j : Int) = if (j : Int) = h'.age % 2 then pad h'.put else D1.sec (j : Int)) ∧ halfOf D2 = halfOf D1 := by
  have hn2 : 2 ≤ n := by have := I.n4; omega
  have h0 : 0 ≤ h.age := by
    rcases I.cur with ⟨rfl, _⟩ | ⟨s, _, hh, _⟩
    · exact Int.le_refl _
    · have := hh.age; omega
  obtain ⟨e1, e2, e3, e4⟩ := seal_fine hF hn2 h h' (by omega)
  refine ⟨_, e1, ?_, e3, e4, ?_⟩
  rotate_left
  · rw [fine_half e2, fine_half hF]
  generalize (D1.wrt (h'.age % 2) h'.put).fl = D2 at e2 e3 e4
  obtain ⟨s, hs⟩ : ∃ s : Nat, h'.age % 2 = (s : Int) := ⟨(h'.age % 2).toNat, by omega⟩
  have hs1 : s ≤ 1 := by omega
  have hh2 : halfOf D2 = halfOf D1 := by rw [fine_half e2, fine_half hF]
  have hf2 : ∀ q, fromOf D2 q = fromOf D1 q := fun q => by unfold fromOf; rw [hh2]
  obtain ⟨f1, f2, f3⟩ := slots_fit I.n4 hF s hs1
  obtain ⟨g1, g2, g3⟩ := slots_fit I.n4 hF (1 - s) (by omega)
  have holds : Holds D2 s h' := by
    refine ⟨by rw [e4 s (by omega), if_pos hs.symm], ?_, hok, by omega, hs, by rw [hh2]; exact hlen, hhas⟩
    rw [hf2, hh2]
    have : runOf D2 (fromOf D1 s) (halfOf D1) = runOf D1 (fromOf D1 s) (halfOf D1) := runOf_congr _ (fun j h1 h2 => by rw [e4 j (by omega), if_neg (by omega)])
    rw [this]; exact himg s hs
  refine ⟨e2, I.n4, .inr ⟨s, hs1, holds, ?_⟩⟩
  have hot : toldOf D2 (1 - s) = toldOf D (1 - s) := by
    rw [← hoth (1 - s) (by omega) (by rw [hs]; omega)]
    exact told_congr (by rw [e2.len, hF.len]) _ (by rw [e4 (1 - s) (by omega), if_neg (by omega)]) (fun j h1 h2 => by rw [e4 j (by omega), if_neg (by omega)])
  rw [hot, hage]
  rcases I.cur with ⟨rfl, t0, t1⟩ | ⟨s', hs', hh', ho'⟩
  · show _ < (0 : Int) + 1
    rcases (by omega : s = 0 ∨ s = 1) with rfl | rfl
    · rw [show (1 - 0 : Nat) = 1 from rfl]; omega
    · rw [show (1 - 1 : Nat) = 0 from rfl]; omega
  · have hm := hh'.mod
    have : 1 - s = s' := by omega
    rw [this, hh'.told]; omega

theorem commit_fine {n : Nat} {D : Dsk} {h : Hd} (I : Inv n D h) (img : List Int) (hb : ∀ x ∈ img, 0 ≤ x ∧ x ≤ 255) (hl : img.length ≤ 64 * halfOf D) (hh : halfOf D ≤ 255) (ha : h.age < 1099511627776) :
    ∃ D2, commitOf D h img = (0, D2, ⟨h.age + 1, true, img⟩) ∧ Inv n D2 ⟨h.age + 1, true, img⟩ ∧ D2.waits = [] ∧ halfOf D2 = halfOf D := by
  have h0 : 0 ≤ h.age := by
    rcases I.cur with ⟨rfl, _⟩ | ⟨s, _, hh, _⟩
    · exact Int.le_refl _
    · have := hh.age; omega
  obtain ⟨s, hs⟩ : ∃ s : Nat, (h.age + 1) % 2 = (s : Int) := ⟨((h.age + 1) % 2).toNat, by omega⟩
  have hs1 : s ≤ 1 := by omega
  obtain ⟨f1, f2, f3⟩ := slots_fit I.n4 I.fine s hs1
  obtain ⟨g1, g2, g3⟩ := slots_fit I.n4 I.fine (1 - s) (by omega)
  have hns : nsec img.length ≤ halfOf D := by unfold nsec; omega
  obtain ⟨q1, q2, q3, q4⟩ := wrs_spec img.length D (fromOf D s) img I.fine (Nat.le_refl _) (by omega)
  have hst : ((h.age + 1) % 2).toNat = s := by omega
  have hc : commitOf D h img = sealOf (wrs img.length D (fromOf D s) img).2.fl h ⟨h.age + 1, true, img⟩ := by
    unfold commitOf
    rw [if_neg (by omega), if_neg (by omega), hst]
    simp only [q1, ne_eq, not_true_eq_false, if_false, q2.flErr]
  rw [hc]
  generalize (wrs img.length D (fromOf D s : Int) img).2 = D1 at q2 q3 q4
  have hF := q2.fl
  have hsec : ∀ j : Nat, j < n → D1.fl.sec (j : Int) = D1.sec (j : Int) := fun j hj => fl_sec q2 hj
  have hh1 : halfOf D1.fl = halfOf D := by rw [fine_half hF, fine_half I.fine]
  have hf1 : ∀ q, fromOf D1.fl q = fromOf D q := fun q => by unfold fromOf; rw [hh1]
  obtain ⟨D2, e1, e2, e3, e4, e5⟩ := I.sealed (D1 := D1.fl) (h' := ⟨h.age + 1, true, img⟩) hF (fun t ht hne => by
      have htn : (t : Int) ≠ (s : Int) := by rw [← hs]; exact hne
      have e : t = 1 - s := by omega
      subst e
      refine told_congr (by rw [hF.len, I.fine.len]) _ ?_ (fun j h1 h2 => ?_)
      · rw [hsec _ (by omega), q3 _ (by omega)]
      · have := g3 j h1 h2
        rw [show 1 - (1 - s) = s by omega] at this
        rw [hsec _ (by omega), q3 _ (by omega)]) rfl ⟨by show 0 ≤ h.age + 1; omega, by show h.age + 1 ≤ _; omega, hb, by show img.length ≤ _; omega⟩ (by show img.length ≤ _; rw [hh1]; exact hl) (fun _ => rfl)
      (fun t ht => by
        have e : t = s := by have : (h.age + 1) % 2 = (t : Int) := ht; omega
        subst e
        rw [hf1, hh1]
        have := q4 (halfOf D) hns
        rw [runOf_congr (D' := D1) _ (fun j h1 h2 => hsec j (by omega))]
        exact this)
  exact ⟨D2, e1, e2, e3, by rw [e5, hh1]⟩

theorem delete_fine {n : Nat} {D : Dsk} {h : Hd} (I : Inv n D h) (hh : h.has = true) (ha : h.age < 1099511627776) :
    ∃ D2, deleteOf D h = (0, D2, ⟨h.age + 1, false, []⟩) ∧ Inv n D2 ⟨h.age + 1, false, []⟩ ∧ D2.waits = [] ∧ halfOf D2 = halfOf D := by
  have h0 : 0 ≤ h.age := by
    rcases I.cur with ⟨rfl, _⟩ | ⟨s, _, hh, _⟩
    · exact Int.le_refl _
    · have := hh.age; omega
  obtain ⟨D2, e1, e2, e3, e4, e5⟩ := I.sealed (D1 := D) (h' := ⟨h.age + 1, false, []⟩) I.fine (fun t ht hne => rfl) rfl ⟨by show 0 ≤ h.age + 1; omega, by show h.age + 1 ≤ _; omega, by simp, by simp⟩ (by simp) (by simp) (fun t ht => by simp)
  refine ⟨D2, ?_, e2, e3, e5⟩
  unfold deleteOf
  rw [if_neg (by rw [hh]; decide), if_neg (by omega), e1]

/-- a new disk has no store's head -/
theorem zeros_raw : rawAge zeros = 0 := by decide +kernel
theorem inv_new (n : Nat) (h4 : 4 ≤ n) (hn : n ≤ 512) : Inv n ⟨List.replicate n zeros, [], -1⟩ hd0 := by
  have hs : ∀ j : Nat, j < n → Dsk.sec ⟨List.replicate n zeros, [], -1⟩ (j : Int) = zeros := fun j hj => by
    unfold Dsk.sec
    show (aget [] (j : Int)).getD ((List.replicate n zeros).getD ((j : Int)).toNat []) = zeros
    rw [aget_nil, Int.toNat_natCast, List.getD_eq_getElem?_getD, List.getElem?_replicate, if_pos hj]; rfl
  have ht : ∀ j : Nat, j < n → (toldOf ⟨List.replicate n zeros, [], -1⟩ j).age ≤ 0 := fun j hj => by
    unfold toldOf
    rw [if_pos (.inl (by rw [hs j hj, zeros_raw]; decide))]
    exact Int.le_refl _
  exact ⟨⟨rfl, by simp⟩, h4, .inl ⟨rfl, ht 0 (by omega), ht 1 (by omega)⟩⟩
end Go.Proofs.YtiibfboendnifaaDoor.Sl
