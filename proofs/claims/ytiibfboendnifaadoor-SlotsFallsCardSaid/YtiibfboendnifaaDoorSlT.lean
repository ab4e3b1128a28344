/- Plain: what a crash leaves of a commit, or a delete, that was on its way. -/
import Derived.Test.YtiibfboendnifaaDoorSlQ
namespace Go.Proofs.YtiibfboendnifaaDoor.Sl
set_option linter.unusedVariables false
set_option linter.unusedSimpArgs false
open Go.RowKit Go.Proofs.Bk Go.Proofs.Bm Go.Proofs.YtiibfboendnifaaDoor.Dk Go.Proofs.YtiibfboendnifaaDoorW.PrintWords

/-! ### a disk that may go off -/
theorem has_of {n : Nat} {D : Dsk} (h : D.kept.length = n) {i : Nat} (hi : i < n) : D.has (i : Int) = true := by unfold Dsk.has; rw [h]; simp; omega
theorem wrErr_off {D : Dsk} (h : D.left = 0) (i : Int) (bs : List Int) : D.wrErr i bs = 19 ∧ D.wrt i bs = D := by
  have e : D.wrErr i bs = 19 := by unfold Dsk.wrErr; rw [if_pos h]
  refine ⟨e, ?_⟩
  unfold Dsk.wrt
  rw [e, if_neg (by decide), tick_zero h]
theorem wrErr_on {n : Nat} {D : Dsk} (hn : D.kept.length = n) (h : D.left ≠ 0) {i : Nat} (hi : i < n) {bs : List Int} (hb : bs.length ≤ 64) :
    D.wrErr (i : Int) bs = 0 ∧ (D.wrt (i : Int) bs).kept = D.kept ∧ (D.wrt (i : Int) bs).waits = aset D.waits (i : Int) (pad bs) := by
  have e : D.wrErr (i : Int) bs = 0 := by unfold Dsk.wrErr; rw [if_neg h, if_pos (has_of hn hi), if_neg (by omega)]
  refine ⟨e, ?_⟩
  unfold Dsk.wrt
  rw [e, if_pos rfl]
  exact ⟨rfl, rfl⟩
theorem wrt_sec' {n : Nat} {D : Dsk} (hn : D.kept.length = n) (h : D.left ≠ 0) {i : Nat} (hi : i < n) {bs : List Int} (hb : bs.length ≤ 64) (j : Int) : (D.wrt (i : Int) bs).sec j = if j = (i : Int) then pad bs else D.sec j := by
  obtain ⟨_, e1, e2⟩ := wrErr_on hn h hi hb
  unfold Dsk.sec
  rw [e1, e2, aget_aset]
  split <;> rfl
theorem fl_off {D : Dsk} (h : D.left = 0) : D.flErr = 19 ∧ D.fl = D := by
  refine ⟨by unfold Dsk.flErr; rw [if_pos h], by unfold Dsk.fl; rw [if_pos h, tick_zero h]⟩
theorem fl_on {n : Nat} {D : Dsk} (hn : D.kept.length = n) (h : D.left ≠ 0) : D.flErr = 0 ∧ D.fl.waits = [] ∧ D.fl.kept.length = n ∧ (∀ j : Nat, j < n → D.fl.sec (j : Int) = D.sec (j : Int)) := by
  have e : D.fl = { D.tick with kept := mix D.kept D.waits [], waits := [] } := by unfold Dsk.fl; rw [if_neg h]
  refine ⟨by unfold Dsk.flErr; rw [if_neg h], by rw [e], by rw [e]; show (mix _ _ _).length = n; rw [mix_length, hn], fun j hj => ?_⟩
  rw [e]
  unfold Dsk.sec
  show (aget [] (j : Int)).getD ((mix D.kept D.waits []).getD ((j : Int)).toNat []) = _
  rw [aget_nil, Int.toNat_natCast, mix_get, if_pos (by rw [hn]; exact hj)]
  rfl
theorem sec_nowait {D : Dsk} (h : D.waits = []) (j : Nat) : D.sec (j : Int) = D.kept.getD j [] := by
  unfold Dsk.sec; rw [h, aget_nil, Int.toNat_natCast]; rfl

theorem wrs_gen {n : Nat} : ∀ (k : Nat) (D : Dsk) (i : Nat) (rest : List Int), D.kept.length = n → rest.length ≤ k → i + nsec rest.length ≤ n →
    ((wrs k D (i : Int) rest).1 = 0 ∨ (wrs k D (i : Int) rest).1 = 19) ∧ (wrs k D (i : Int) rest).2.kept = D.kept ∧ (∀ j : Nat, j < i ∨ i + nsec rest.length ≤ j → (wrs k D (i : Int) rest).2.sec (j : Int) = D.sec (j : Int)) ∧
      ((wrs k D (i : Int) rest).1 = 0 → ∀ q, nsec rest.length ≤ q → (runOf (wrs k D (i : Int) rest).2 i q).take rest.length = rest)
  | 0, D, i, rest, hF, hk, hn => by
    have : rest = [] := List.eq_nil_of_length_eq_zero (by omega)
    subst this
    exact ⟨.inl rfl, rfl, fun _ _ => rfl, fun _ _ _ => rfl⟩
  | k + 1, D, i, rest, hF, hk, hn => by
    by_cases hr : rest = []
    · subst hr
      rw [wrs, if_pos rfl]
      exact ⟨.inl rfl, rfl, fun _ _ => rfl, fun _ _ _ => rfl⟩
    · have hl0 : 0 < rest.length := by cases rest with | nil => exact absurd rfl hr | cons a l => simp
      have hns : nsec rest.length = nsec (rest.drop 64).length + 1 := by unfold nsec; rw [List.length_drop]; omega
      have hi : i < n := by omega
      have ht : (rest.take 64).length ≤ 64 := by rw [List.length_take]; omega
      by_cases hl : D.left = 0
      · obtain ⟨e1, e2⟩ := wrErr_off hl (i : Int) (rest.take 64)
        rw [wrs, if_neg hr, e1, e2, if_pos (by decide)]
        exact ⟨.inr rfl, rfl, fun _ _ => rfl, fun h => by cases h⟩
      · obtain ⟨he, ek, ew⟩ := wrErr_on hF hl hi ht
        rw [wrs, if_neg hr, if_neg (by rw [he]; simp), show (i : Int) + 1 = ((i + 1 : Nat) : Int) by omega]
        obtain ⟨q1, q2, q3, q4⟩ := wrs_gen (n := n) k (D.wrt (i : Int) (rest.take 64)) (i + 1) (rest.drop 64) (by rw [ek]; exact hF) (by rw [List.length_drop]; omega) (by omega)
        refine ⟨q1, by rw [q2, ek], fun j hj => ?_, fun h0 q hq => ?_⟩
        · rw [q3 j (by omega), wrt_sec' hF hl hi ht, if_neg (by omega)]
        · obtain ⟨q', rfl⟩ : ∃ q', q = q' + 1 := ⟨q - 1, by omega⟩
          rw [runOf_cons, q3 i (by omega), wrt_sec' hF hl hi ht, if_pos rfl]
          have hp : pad (rest.take 64) = rest.take 64 ++ List.replicate (64 - (rest.take 64).length) 0 := rfl
          have ih := q4 h0 q' (by omega)
          by_cases h64 : rest.length ≤ 64
          · rw [hp, List.append_assoc, List.take_of_length_le h64, List.take_append_of_le_length (by omega), List.take_of_length_le (by omega)]
          · have hl : (rest.take 64).length = 64 := by rw [List.length_take]; omega
            rw [hp, hl, Nat.sub_self, List.replicate_zero, List.append_nil, List.take_append, hl, List.take_of_length_le (by omega)]
            rw [List.length_drop] at ih
            rw [ih, List.take_append_drop]

/-! ### the other head is an older one, whatever lies behind it -/
structure InvR (n : Nat) (D : Dsk) (h : Hd) : Prop where
  inv : Inv n D h
  raw : ∀ s : Nat, s ≤ 1 → ((s : Int) ≠ h.age % 2 ∨ h = hd0) → rawAge (D.sec (s : Int)) ≤ 0 ∨ rawAge (D.sec (s : Int)) < h.age
theorem told_age (D : Dsk) (s : Nat) : (toldOf D s).age ≤ 0 ∨ (toldOf D s).age = rawAge (D.sec (s : Int)) := by
  unfold toldOf
  split
  · exact .inl (Int.le_refl _)
  · split
    · exact .inr rfl
    · exact .inl (Int.le_refl _)
theorem told_bad (D : Dsk) (s : Nat) (h : rawAge (D.sec (s : Int)) ≤ 0) : toldOf D s = hd0 := by
  unfold toldOf; rw [if_pos (.inl (by omega))]

/-- what a crash leaves of a disk: each sector as it was written last, or as it was kept -/
theorem crash_sec {w : World} {B K M : Nat} {D : Dsk} (h : IsDisk w B K M D) (kp : List Bool) {j : Nat} (hj : j < D.kept.length) :
    (D.crash kp).sec (j : Int) = D.sec (j : Int) ∨ (D.crash kp).sec (j : Int) = D.kept.getD j [] := by
  rw [sec_nowait (crash_waits D kp)]
  by_cases hm : (j : Int) ∈ D.wts
  · obtain ⟨k, hk⟩ := List.mem_iff_getElem?.1 hm
    have := crash_at h kp hk
    rw [Int.toNat_natCast] at this
    rw [List.getD_eq_getElem?_getD, this]
    simp only [Option.getD_some]
    split
    · exact .inl rfl
    · exact .inr rfl
  · have := (crash_not h kp (i := (j : Int)) (by omega) (by omega) hm).1
    rw [Int.toNat_natCast] at this
    rw [List.getD_eq_getElem?_getD, this]
    exact .inr rfl
theorem crash_fine {n : Nat} {D : Dsk} (hn : D.kept.length = n) (kp : List Bool) : Fine n (D.crash kp) := by
  refine ⟨rfl, ?_⟩
  unfold Dsk.crash
  show (crash1 kp D D.wts 0).kept.length = n
  rw [crash1_len, hn]

/-- nothing of the new head lies there: what was there is found -/
theorem open_was {n : Nat} {D D2 : Dsk} {h : Hd} (I : InvR n D h) (hF : Fine n D2) (s' : Nat) (hs' : (h.age + 1) % 2 = (s' : Int))
    (hsec : ∀ j : Nat, j < n → j < fromOf D s' ∨ fromOf D s' + halfOf D ≤ j → D2.sec (j : Int) = D.sec (j : Int)) : openOf D2 = h := by
  have h4 := I.inv.n4
  have hF0 := I.inv.fine
  have hs1 : s' ≤ 1 := by omega
  obtain ⟨f1, f2, f3⟩ := slots_fit h4 hF0 s' hs1
  obtain ⟨g1, g2, g3⟩ := slots_fit h4 hF0 (1 - s') (by omega)
  have hhead : ∀ s : Nat, s ≤ 1 → D2.sec (s : Int) = D.sec (s : Int) := fun s hs => hsec s (by omega) (.inl (by omega))
  rcases I.inv.cur with ⟨rfl, _, _⟩ | ⟨slot, hsl, hh, ho⟩
  · have t0 : toldOf D2 0 = hd0 := told_bad D2 0 (by
      rw [hhead 0 (by omega)]
      rcases I.raw 0 (by omega) (.inr rfl) with h | h
      · exact h
      · have : rawAge (D.sec ((0 : Nat) : Int)) < 0 := h; omega)
    have t1 : toldOf D2 1 = hd0 := told_bad D2 1 (by
      rw [hhead 1 (by omega)]
      rcases I.raw 1 (by omega) (.inr rfl) with h | h
      · exact h
      · have : rawAge (D.sec ((1 : Nat) : Int)) < 0 := h; omega)
    unfold openOf openK openK openK newer
    rw [t0, t1]; rfl
  · have hm := hh.mod
    have ha := hh.age
    have hss : slot = 1 - s' := by omega
    have htc : toldOf D2 slot = h := by
      rw [← hh.told]
      subst hss
      refine told_congr (by rw [hF.len, hF0.len]) _ (hhead _ (by omega)) (fun j h1 h2 => hsec j (by omega) ?_)
      have := g3 j h1 h2
      rw [show 1 - (1 - s') = s' by omega] at this
      exact this
    have hto : (toldOf D2 s').age < h.age := by
      rcases told_age D2 s' with h1 | h1
      · omega
      · rw [h1, hhead s' hs1]
        rcases I.raw s' hs1 (.inl (by omega)) with h2 | h2
        · omega
        · exact h2
    have I2 : Inv n D2 h := ⟨hF, h4, .inr ⟨slot, hsl, ⟨by rw [hhead slot hsl]; exact hh.sec, ?_, hh.ok, hh.age, hh.mod, by
      have : halfOf D2 = halfOf D := by rw [fine_half hF, fine_half hF0]
      rw [this]; exact hh.len, hh.has⟩, by rw [hss, show 1 - (1 - s') = s' by omega]; exact hto⟩⟩
    · exact I2.open_
    · have e1 : halfOf D2 = halfOf D := by rw [fine_half hF, fine_half hF0]
      have e2 : fromOf D2 slot = fromOf D slot := by unfold fromOf; rw [e1]
      rw [e1, e2]
      subst hss
      have : runOf D2 (fromOf D (1 - s')) (halfOf D) = runOf D (fromOf D (1 - s')) (halfOf D) := runOf_congr _ (fun j h1 h2 => hsec j (by omega) (by
        have := g3 j h1 h2
        rw [show 1 - (1 - s') = s' by omega] at this
        exact this))
      rw [this]; exact hh.img

/-- the new head lies there, and its image -/
theorem inv_now {n : Nat} {D D2 : Dsk} {h h' : Hd} (I : InvR n D h) (hF : Fine n D2) (s' : Nat) (hs' : (h.age + 1) % 2 = (s' : Int)) (hage : h'.age = h.age + 1) (hok : h'.Ok) (hlen : h'.img.length ≤ 64 * halfOf D) (hhas : 0 < h'.img.length → h'.has = true)
    (hsec : ∀ j : Nat, j < n → j ≠ s' → (j < fromOf D s' ∨ fromOf D s' + halfOf D ≤ j) → D2.sec (j : Int) = D.sec (j : Int)) (hhead : D2.sec (s' : Int) = pad h'.put)
    (himg : (runOf D2 (fromOf D s') (halfOf D)).take h'.img.length = h'.img) : InvR n D2 h' := by
  have h4 := I.inv.n4
  have hF0 := I.inv.fine
  have hs1 : s' ≤ 1 := by omega
  have h0 := I.inv.age0
  obtain ⟨f1, f2, f3⟩ := slots_fit h4 hF0 s' hs1
  obtain ⟨g1, g2, g3⟩ := slots_fit h4 hF0 (1 - s') (by omega)
  have e1 : halfOf D2 = halfOf D := by rw [fine_half hF, fine_half hF0]
  have e2 : ∀ q, fromOf D2 q = fromOf D q := fun q => by unfold fromOf; rw [e1]
  have hoth : D2.sec ((1 - s' : Nat) : Int) = D.sec ((1 - s' : Nat) : Int) := hsec (1 - s') (by omega) (by omega) (.inl (by omega))
  have hto : toldOf D2 (1 - s') = toldOf D (1 - s') := told_congr (by rw [hF.len, hF0.len]) _ hoth (fun j h1 h2 => hsec j (by omega) (by omega) (by
    have := g3 j h1 h2
    rw [show 1 - (1 - s') = s' by omega] at this
    exact this))
  have hm : h'.age % 2 = (s' : Int) := by rw [hage]; exact hs'
  have holds : Holds D2 s' h' := ⟨hhead, by rw [e1, e2]; exact himg, hok, by omega, hm, by rw [e1]; exact hlen, hhas⟩
  have hlt : (toldOf D (1 - s')).age < h'.age := by
    rcases I.inv.cur with ⟨rfl, t0, t1⟩ | ⟨slot, hsl, hh, _⟩
    · have ha : hd0.age = 0 := rfl
      rcases (by omega : s' = 0 ∨ s' = 1) with rfl | rfl
      · rw [show (1 - 0 : Nat) = 1 from rfl]; omega
      · rw [show (1 - 1 : Nat) = 0 from rfl]; omega
    · have hm2 := hh.mod
      have : 1 - s' = slot := by omega
      rw [this, hh.told]; omega
  refine ⟨⟨hF, h4, .inr ⟨s', hs1, holds, by rw [hto]; exact hlt⟩⟩, fun s hs hne => ?_⟩
  have hs2 : s = 1 - s' := by
    rcases hne with hne | hne
    · rw [hm] at hne; omega
    · have := congrArg Hd.age hne; have h00 : hd0.age = 0 := rfl; omega
  subst hs2
  rw [hoth]
  rcases I.inv.cur with ⟨rfl, _, _⟩ | ⟨slot, hsl, hh, _⟩
  · have ha : hd0.age = 0 := rfl
    rcases I.raw (1 - s') hs (.inr rfl) with h | h
    · exact .inl h
    · exact .inl (by omega)
  · have hm2 := hh.mod
    have : 1 - s' = slot := by omega
    rw [this, hh.sec, (raw_put h hh.ok).1]
    exact .inr (by omega)

theorem commit_fineR {n : Nat} {D : Dsk} {h : Hd} (I : InvR n D h) (img : List Int) (hb : ∀ x ∈ img, 0 ≤ x ∧ x ≤ 255) (hl : img.length ≤ 64 * halfOf D) (hh : halfOf D ≤ 255) (ha : h.age < 1099511627776) :
    ∃ D2, commitOf D h img = (0, D2, ⟨h.age + 1, true, img⟩) ∧ InvR n D2 ⟨h.age + 1, true, img⟩ ∧ D2.waits = [] ∧ halfOf D2 = halfOf D := by
  have h0 := I.inv.age0
  have hF0 := I.inv.fine
  have h4 := I.inv.n4
  obtain ⟨s, hs⟩ : ∃ s : Nat, (h.age + 1) % 2 = (s : Int) := ⟨((h.age + 1) % 2).toNat, by omega⟩
  have hs1 : s ≤ 1 := by omega
  obtain ⟨f1, f2, f3⟩ := slots_fit h4 hF0 s hs1
  have hns : nsec img.length ≤ halfOf D := by unfold nsec; omega
  obtain ⟨q1, q2, q3, q4⟩ := wrs_spec img.length D (fromOf D s) img hF0 (Nat.le_refl _) (by omega)
  have hst : ((h.age + 1) % 2).toNat = s := by omega
  have hc : commitOf D h img = sealOf (wrs img.length D (fromOf D s) img).2.fl h ⟨h.age + 1, true, img⟩ := by
    unfold commitOf
    rw [if_neg (by omega), if_neg (by omega), hst]
    simp only [q1, ne_eq, not_true_eq_false, if_false, q2.flErr]
  rw [hc]
  generalize (wrs img.length D (fromOf D s : Int) img).2 = D1 at q2 q3 q4
  have hF := q2.fl
  have hsec : ∀ j : Nat, j < n → D1.fl.sec (j : Int) = D1.sec (j : Int) := fun j hj => fl_sec q2 hj
  obtain ⟨e1, e2, e3, e4⟩ := seal_fine hF (by omega) h ⟨h.age + 1, true, img⟩ (by show 0 ≤ h.age + 1; omega)
  refine ⟨_, e1, ?_, e3, by rw [fine_half e2, fine_half hF0]⟩
  have e4' : ∀ j : Nat, j < n → (D1.fl.wrt ((⟨h.age + 1, true, img⟩ : Hd).age % 2) (⟨h.age + 1, true, img⟩ : Hd).put).fl.sec (j : Int) = if j = s then pad (⟨h.age + 1, true, img⟩ : Hd).put else D1.sec (j : Int) := fun j hj => by
    rw [e4 j hj, hsec j hj]
    have e : (⟨h.age + 1, true, img⟩ : Hd).age % 2 = (s : Int) := hs
    rw [e]
    by_cases hjs : j = s
    · subst hjs; rw [if_pos rfl, if_pos rfl]
    · rw [if_neg hjs, if_neg (by omega)]
  generalize (D1.fl.wrt ((⟨h.age + 1, true, img⟩ : Hd).age % 2) (⟨h.age + 1, true, img⟩ : Hd).put).fl = D2 at e2 e3 e4' ⊢
  refine inv_now I e2 s hs rfl ⟨by show 0 ≤ h.age + 1; omega, by show h.age + 1 ≤ _; omega, hb, by show img.length ≤ _; omega⟩ hl (fun _ => rfl) (fun j hj hne hout => by rw [e4' j hj, if_neg hne, q3 j (by omega)]) (by rw [e4' s (by omega), if_pos rfl]) ?_
  have := q4 (halfOf D) hns
  rw [runOf_congr (D' := D1) _ (fun j h1 h2 => by rw [e4' j (by omega), if_neg (by omega)])]
  exact this
theorem delete_fineR {n : Nat} {D : Dsk} {h : Hd} (I : InvR n D h) (hh : h.has = true) (ha : h.age < 1099511627776) :
    ∃ D2, deleteOf D h = (0, D2, ⟨h.age + 1, false, []⟩) ∧ InvR n D2 ⟨h.age + 1, false, []⟩ ∧ D2.waits = [] ∧ halfOf D2 = halfOf D := by
  have h0 := I.inv.age0
  have hF0 := I.inv.fine
  have h4 := I.inv.n4
  obtain ⟨s, hs⟩ : ∃ s : Nat, (h.age + 1) % 2 = (s : Int) := ⟨((h.age + 1) % 2).toNat, by omega⟩
  have hs1 : s ≤ 1 := by omega
  obtain ⟨f1, f2, f3⟩ := slots_fit h4 hF0 s hs1
  obtain ⟨e1, e2, e3, e4⟩ := seal_fine hF0 (by omega) h ⟨h.age + 1, false, []⟩ (by show 0 ≤ h.age + 1; omega)
  refine ⟨_, ?_, ?_, e3, by rw [fine_half e2, fine_half hF0]⟩
  · unfold deleteOf
    rw [if_neg (by rw [hh]; decide), if_neg (by omega), e1]
  have e : (⟨h.age + 1, false, []⟩ : Hd).age % 2 = (s : Int) := hs
  refine inv_now I e2 s hs rfl ⟨by show 0 ≤ h.age + 1; omega, by show h.age + 1 ≤ _; omega, (by intro x hx; cases hx), by show (0 : Nat) ≤ _; omega⟩ (Nat.zero_le _) (fun hp => absurd hp (Nat.lt_irrefl 0)) (fun j hj hne hout => by rw [e4 j hj, e, if_neg (by omega)]) (by rw [e4 s (by omega), e, if_pos rfl]) rfl
theorem invR_new (n : Nat) (h4 : 4 ≤ n) (hn : n ≤ 512) : InvR n ⟨List.replicate n zeros, [], -1⟩ hd0 := by
  refine ⟨inv_new n h4 hn, fun s hs _ => .inl ?_⟩
  have hsz : Dsk.sec ⟨List.replicate n zeros, [], -1⟩ (s : Int) = zeros := by
    unfold Dsk.sec
    show (aget [] (s : Int)).getD ((List.replicate n zeros).getD ((s : Int)).toNat []) = zeros
    rw [aget_nil, Int.toNat_natCast, List.getD_eq_getElem?_getD, List.getElem?_replicate, if_pos (by omega)]; rfl
  rw [hsz, zeros_raw]; decide
end Go.Proofs.YtiibfboendnifaaDoor.Sl
