/- Plain: what the other slot tells, commit by commit. -/
import Derived.Test.YtiibfboendnifaaDoorSlY
namespace Go.Proofs.YtiibfboendnifaaDoor.Sl
set_option linter.unusedVariables false
set_option linter.unusedSimpArgs false
open Go.RowKit Go.Proofs.Bk Go.Proofs.Bm Go.Proofs.YtiibfboendnifaaDoor.Dk Go.Proofs.YtiibfboendnifaaDoorW.PrintWords

theorem InvR.holds {n : Nat} {D : Dsk} {h : Hd} (I : InvR n D h) (h1 : 1 ≤ h.age) : ∃ slot : Nat, slot ≤ 1 ∧ h.age % 2 = (slot : Int) ∧ Holds D slot h := by
  rcases I.inv.cur with ⟨rfl, _⟩ | ⟨slot, hs, hh, _⟩
  · have : hd0.age = 0 := rfl
    omega
  · exact ⟨slot, hs, hh.mod, hh⟩
theorem InvR.told {n : Nat} {D : Dsk} {h : Hd} (I : InvR n D h) (s : Nat) (hs : s ≤ 1) (hm : h.age % 2 = (s : Int)) : toldOf D s = h := by
  rcases I.inv.cur with ⟨rfl, _⟩ | ⟨slot, hsl, hh, _⟩
  · exact told_bad D s (by
      rcases I.raw s hs (.inr rfl) with h | h
      · exact h
      · have : rawAge (D.sec (s : Int)) < 0 := h; omega)
  · have := hh.mod
    obtain rfl : slot = s := by omega
    exact hh.told

theorem InvR.ok0 {n : Nat} {D : Dsk} {h : Hd} (I : InvR n D h) : h = hd0 ∨ 1 ≤ h.age := by
  rcases I.inv.cur with ⟨rfl, _⟩ | ⟨slot, hsl, hh, _⟩
  · exact .inl rfl
  · exact .inr hh.age

/-- what is newest, and what was there before it -/
structure InvF (n : Nat) (D : Dsk) (h p : Hd) : Prop where
  r : InvR n D h
  w : D.waits = []
  prev : 1 ≤ h.age → ∀ s : Nat, s ≤ 1 → (h.age + 1) % 2 = (s : Int) → toldOf D s = p
  pok : p = hd0 ∨ 1 ≤ p.age

theorem oth_told {n : Nat} {D D2 : Dsk} {h h' : Hd} (I : InvR n D h) (hF : Fine n D2) (hage : h'.age = h.age + 1) (s' : Nat) (hs' : (h.age + 1) % 2 = (s' : Int))
    (hsec : ∀ j : Nat, j < n → j ≠ s' → (j < fromOf D s' ∨ fromOf D s' + halfOf D ≤ j) → D2.sec (j : Int) = D.sec (j : Int)) : ∀ s : Nat, s ≤ 1 → (h'.age + 1) % 2 = (s : Int) → toldOf D2 s = h := by
  intro s hs hm
  have h4 := I.inv.n4
  have hF0 := I.inv.fine
  have hs1 : s' ≤ 1 := by omega
  obtain ⟨f1, f2, f3⟩ := slots_fit h4 hF0 s' hs1
  obtain ⟨g1, g2, g3⟩ := slots_fit h4 hF0 (1 - s') (by omega)
  have : s = 1 - s' := by omega
  subst this
  have hto : toldOf D2 (1 - s') = toldOf D (1 - s') := told_congr (by rw [hF.len, hF0.len]) _ (hsec (1 - s') (by omega) (by omega) (.inl (by omega))) (fun j h1 h2 => hsec j (by omega) (by omega) (by
    have := g3 j h1 h2
    rw [show 1 - (1 - s') = s' by omega] at this
    exact this))
  rw [hto]
  exact I.told _ (by omega) (by omega)

theorem commit_fineF {n : Nat} {D : Dsk} {h p : Hd} (I : InvF n D h p) (img : List Int) (hb : ∀ x ∈ img, 0 ≤ x ∧ x ≤ 255) (hl : img.length ≤ 64 * halfOf D) (hh : halfOf D ≤ 255) (ha : h.age < 1099511627776) :
    ∃ D2, commitOf D h img = (0, D2, ⟨h.age + 1, true, img⟩) ∧ InvF n D2 ⟨h.age + 1, true, img⟩ h := by
  obtain ⟨D2, e1, e2, e3, _⟩ := commit_fineR I.r img hb hl hh ha
  have h0 := I.r.inv.age0
  have hF0 := I.r.inv.fine
  have h4 := I.r.inv.n4
  refine ⟨D2, e1, e2, e3, fun _ => ?_, I.r.ok0⟩
  obtain ⟨s, hs⟩ : ∃ s : Nat, (h.age + 1) % 2 = (s : Int) := ⟨((h.age + 1) % 2).toNat, by omega⟩
  have hs1 : s ≤ 1 := by omega
  refine oth_told I.r e2.inv.fine rfl s hs ?_
  obtain ⟨f1, f2, f3⟩ := slots_fit h4 hF0 s hs1
  have hns : nsec img.length ≤ halfOf D := by unfold nsec; omega
  obtain ⟨q1, q2, q3, q4⟩ := wrs_spec img.length D (fromOf D s) img hF0 (Nat.le_refl _) (by omega)
  have hst : ((h.age + 1) % 2).toNat = s := by omega
  have hc : commitOf D h img = sealOf (wrs img.length D (fromOf D s) img).2.fl h ⟨h.age + 1, true, img⟩ := by
    unfold commitOf
    rw [if_neg (by omega), if_neg (by omega), hst]
    simp only [q1, ne_eq, not_true_eq_false, if_false, q2.flErr]
  rw [hc] at e1
  generalize (wrs img.length D (fromOf D s : Int) img).2 = D1 at q2 q3 q4 e1
  have hF := q2.fl
  obtain ⟨g1, g2, g3, g4⟩ := seal_fine hF (by omega) h ⟨h.age + 1, true, img⟩ (by show 0 ≤ h.age + 1; omega)
  rw [g1] at e1
  injection e1 with _ e1
  injection e1 with e1 _
  intro j hj hne hout
  rw [← e1, g4 j hj, fl_sec q2 hj]
  have e : (⟨h.age + 1, true, img⟩ : Hd).age % 2 = (s : Int) := hs
  rw [e, if_neg (by omega), q3 j (by omega)]
theorem delete_fineF {n : Nat} {D : Dsk} {h p : Hd} (I : InvF n D h p) (hh : h.has = true) (ha : h.age < 1099511627776) :
    ∃ D2, deleteOf D h = (0, D2, ⟨h.age + 1, false, []⟩) ∧ InvF n D2 ⟨h.age + 1, false, []⟩ h := by
  obtain ⟨D2, e1, e2, e3, _⟩ := delete_fineR I.r hh ha
  have h0 := I.r.inv.age0
  have hF0 := I.r.inv.fine
  have h4 := I.r.inv.n4
  refine ⟨D2, e1, e2, e3, fun _ => ?_, I.r.ok0⟩
  obtain ⟨s, hs⟩ : ∃ s : Nat, (h.age + 1) % 2 = (s : Int) := ⟨((h.age + 1) % 2).toNat, by omega⟩
  have hs1 : s ≤ 1 := by omega
  refine oth_told I.r e2.inv.fine rfl s hs ?_
  obtain ⟨g1, g2, g3, g4⟩ := seal_fine hF0 (by omega) h ⟨h.age + 1, false, []⟩ (by show 0 ≤ h.age + 1; omega)
  have hd : deleteOf D h = sealOf D h ⟨h.age + 1, false, []⟩ := by
    unfold deleteOf
    rw [if_neg (by rw [hh]; decide), if_neg (by omega)]
  rw [hd, g1] at e1
  injection e1 with _ e1
  injection e1 with e1 _
  intro j hj hne hout
  have e : (⟨h.age + 1, false, []⟩ : Hd).age % 2 = (s : Int) := hs
  rw [← e1, g4 j hj, e, if_neg (by omega)]
theorem invF_new : InvF 40 ⟨List.replicate 40 zeros, [], -1⟩ hd0 hd0 := ⟨invR_new 40 (by decide) (by decide), rfl, fun h => by have : (1 : Int) ≤ 0 := h; omega, .inl rfl⟩

/-- the bit that is turned over: of the newest head, or of its image -/
def Aim (D : Dsk) (h : Hd) (sec k : Nat) : Prop := ∃ slot : Nat, slot ≤ 1 ∧ h.age % 2 = (slot : Int) ∧ ((sec = slot ∧ k < 200) ∨ (∃ a, a < 8 * h.img.length ∧ sec = fromOf D slot + a / 512 ∧ k = a % 512))
theorem falls {w : World} {B K M : Nat} {n : Nat} {D : Dsk} {h p : Hd} (I : InvF n D h p) (hd : IsDisk w B K M D) (h1 : 1 ≤ h.age) {sec k : Nat} (ha : Aim D h sec k) :
    openOf (D.rot (sec : Int) (k : Int)) = p ∧ (D.rot (sec : Int) (k : Int)).rot (sec : Int) (k : Int) = D ∧ (D.rot (sec : Int) (k : Int)).left = D.left ∧ (D.rot (sec : Int) (k : Int)).kept.length = n := by
  have h4 := I.r.inv.n4
  have hF := I.r.inv.fine
  obtain ⟨slot, hs, hm, ha⟩ := ha
  obtain ⟨slot2, hs2, hm2, H⟩ := I.r.holds h1
  obtain rfl : slot2 = slot := by omega
  obtain ⟨f1, f2, f3⟩ := slots_fit h4 hF slot2 hs
  obtain ⟨g1, g2, g3⟩ := slots_fit h4 hF (1 - slot2) (by omega)
  have hp := I.prev h1 (1 - slot2) (by omega) (by omega)
  have hlen : ∀ j : Nat, j < n → (D.sec (j : Int)).length = 64 := fun j hj => (sec_Sec hd (by rw [hF.len]; exact hj)).1
  have key : toldOf (D.rot (sec : Int) (k : Int)) slot2 = hd0 ∧ sec < n ∧ k < 512 ∧ (sec = slot2 ∨ (fromOf D slot2 ≤ sec ∧ sec < fromOf D slot2 + halfOf D)) := by
    rcases ha with ⟨rfl, hk⟩ | ⟨a, ha, rfl, rfl⟩
    · exact ⟨fall_head hF I.w (by omega) H hk, by omega, by omega, .inl rfl⟩
    · obtain ⟨k1, k2, k3⟩ := fall_img hF I.w h4 hs H hlen ha
      exact ⟨k1, by omega, by omega, .inr ⟨k2, k3⟩⟩
  obtain ⟨k1, k2, k3, k4⟩ := key
  obtain ⟨r1, r2, r3⟩ := rot_sec hF I.w k2 k3
  refine ⟨told_openOf hs k1 ?_ I.pok, rot_rot hF I.w k2 k3 (sec_Sec hd (by rw [hF.len]; exact k2)), ?_, r1.len⟩
  · rw [← hp]
    refine told_congr (by rw [r1.len, hF.len]) _ ?_ (fun j h1 h2 => ?_)
    · rw [r3, if_neg (by omega)]
    · have := g3 j h1 h2
      rw [show 1 - (1 - slot2) = slot2 by omega] at this
      rw [r3, if_neg (by omega)]
  · unfold Dsk.rot; split <;> rfl
end Go.Proofs.YtiibfboendnifaaDoor.Sl
