/- Plain: a commit, or a delete, on a disk that goes off behind some calls, and the crash. -/
import Derived.Test.YtiibfboendnifaaDoorSlT
namespace Go.Proofs.YtiibfboendnifaaDoor.Sl
set_option linter.unusedVariables false
set_option linter.unusedSimpArgs false
open Go.RowKit Go.Proofs.Bk Go.Proofs.Bm Go.Proofs.YtiibfboendnifaaDoor.Dk Go.Proofs.YtiibfboendnifaaDoorW.PrintWords

structure CrashOk (n : Nat) (h h' : Hd) (r : Int × Dsk × Hd) : Prop where
  head : r.1 ≠ 0 → r.2.2 = h
  len : r.2.1.kept.length = n
  now : ∀ {w B K M} kp, IsDisk w B K M r.2.1 → r.1 = 0 → openOf (r.2.1.crash kp) = h'
  was : ∀ {w B K M} kp, IsDisk w B K M r.2.1 → r.1 ≠ 0 → openOf (r.2.1.crash kp) = h ∨ (r.1 = 19 ∧ openOf (r.2.1.crash kp) = h')

theorem seal_crash {n : Nat} {D D1 : Dsk} {h h' : Hd} (I : InvR n D h) (hk : D1.kept.length = n) (hw : D1.waits = []) (s' : Nat) (hs' : (h.age + 1) % 2 = (s' : Int)) (hage : h'.age = h.age + 1) (hok : h'.Ok) (hlen : h'.img.length ≤ 64 * halfOf D) (hhas : 0 < h'.img.length → h'.has = true)
    (hsec : ∀ j : Nat, j < n → (j < fromOf D s' ∨ fromOf D s' + halfOf D ≤ j) → D1.sec (j : Int) = D.sec (j : Int)) (himg : (runOf D1 (fromOf D s') (halfOf D)).take h'.img.length = h'.img) :
    CrashOk n h h' (sealOf D1 h h') := by
  have h4 := I.inv.n4
  have hs1 : s' ≤ 1 := by omega
  obtain ⟨f1, f2, f3⟩ := slots_fit h4 I.inv.fine s' hs1
  have hm : h'.age % 2 = (s' : Int) := by rw [hage]; exact hs'
  have hb : h'.put.length ≤ 64 := by rw [h'.put_length]; decide
  by_cases hl : D1.left = 0
  · obtain ⟨e1, e2⟩ := wrErr_off hl (s' : Int) h'.put
    have hr : sealOf D1 h h' = (19, D1, h) := by unfold sealOf; rw [hm, e1, e2, if_pos (by decide)]
    rw [hr]
    refine ⟨fun _ => rfl, hk, fun kp hd h0 => absurd (show (19 : Int) = 0 from h0) (by decide), fun kp hd _ => .inl ?_⟩
    refine open_was I (crash_fine hk kp) s' hs' (fun j hj hout => ?_)
    rw [← hsec j hj hout]
    rcases crash_sec hd kp (j := j) (by rw [hk]; exact hj) with e | e
    · exact e
    · rw [e, sec_nowait hw]
  · obtain ⟨he, ek, ew⟩ := wrErr_on hk hl (i := s') (by omega) hb
    have hsw := fun j => wrt_sec' hk hl (i := s') (by omega) hb j
    obtain ⟨D3, hD3⟩ : ∃ D3, D1.wrt (s' : Int) h'.put = D3 := ⟨_, rfl⟩
    rw [hD3] at ek ew hsw
    have hk3 : D3.kept.length = n := by rw [ek]; exact hk
    have hkk : ∀ j, D3.kept.getD j [] = D1.sec (j : Int) := fun j => by rw [ek, sec_nowait hw]
    by_cases hl3 : D3.left = 0
    · obtain ⟨e1, e2⟩ := fl_off hl3
      have hr : sealOf D1 h h' = (19, D3, h) := by unfold sealOf; rw [hm, he, if_neg (by decide), hD3, e1, e2, if_pos (by decide)]
      rw [hr]
      refine ⟨fun _ => rfl, hk3, fun kp hd h0 => absurd (show (19 : Int) = 0 from h0) (by decide), fun kp hd _ => ?_⟩
      have hoth : ∀ j : Nat, j < n → j ≠ s' → (D3.crash kp).sec (j : Int) = D1.sec (j : Int) := fun j hj hne => by
        rcases crash_sec hd kp (j := j) (by rw [hk3]; exact hj) with e | e
        · rw [e, hsw, if_neg (by omega)]
        · rw [e, hkk]
      rcases crash_sec hd kp (j := s') (by rw [hk3]; omega) with e | e
      · rw [hsw, if_pos rfl] at e
        refine .inr ⟨rfl, (inv_now I (crash_fine hk3 kp) s' hs' hage hok hlen hhas (fun j hj hne hout => by rw [hoth j hj hne, hsec j hj hout]) e ?_).inv.open_⟩
        rw [runOf_congr (D' := D1) _ (fun j h1 h2 => hoth j (by omega) (by omega))]
        exact himg
      · rw [hkk] at e
        refine .inl (open_was I (crash_fine hk3 kp) s' hs' (fun j hj hout => ?_))
        by_cases hjs : j = s'
        · subst hjs; rw [e, hsec j hj hout]
        · rw [hoth j hj hjs, hsec j hj hout]
    · obtain ⟨e1, e2, e3, e4⟩ := fl_on hk3 hl3
      have hr : sealOf D1 h h' = (0, D3.fl, h') := by unfold sealOf; rw [hm, he, if_neg (by decide), hD3, e1, if_neg (by decide)]
      rw [hr]
      refine ⟨fun h0 => absurd rfl h0, e3, fun kp hd _ => ?_, fun kp hd h0 => absurd rfl h0⟩
      have hall : ∀ j : Nat, j < n → (D3.fl.crash kp).sec (j : Int) = D3.sec (j : Int) := fun j hj => by
        rcases crash_sec hd kp (j := j) (by rw [e3]; exact hj) with e | e
        · rw [e, e4 j hj]
        · rw [e, ← sec_nowait e2, e4 j hj]
      refine (inv_now I (crash_fine e3 kp) s' hs' hage hok hlen hhas (fun j hj hne hout => by rw [hall j hj, hsw, if_neg (by omega), hsec j hj hout]) (by rw [hall s' (by omega), hsw, if_pos rfl]) ?_).inv.open_
      rw [runOf_congr (D' := D1) _ (fun j h1 h2 => by rw [hall j (by omega), hsw, if_neg (by omega)])]
      exact himg

theorem commit_crash {n : Nat} {D : Dsk} {h : Hd} (I : InvR n D h) (hw : D.waits = []) (c : Int) (img : List Int) (hb : ∀ x ∈ img, 0 ≤ x ∧ x ≤ 255) (hl : img.length ≤ 64 * halfOf D) (hh : halfOf D ≤ 255) (ha : h.age < 1099511627776) :
    CrashOk n h ⟨h.age + 1, true, img⟩ (commitOf { D with left := c } h img) := by
  have h0 := I.inv.age0
  have h4 := I.inv.n4
  obtain ⟨s, hs⟩ : ∃ s : Nat, (h.age + 1) % 2 = (s : Int) := ⟨((h.age + 1) % 2).toNat, by omega⟩
  have hs1 : s ≤ 1 := by omega
  obtain ⟨f1, f2, f3⟩ := slots_fit h4 I.inv.fine s hs1
  have hns : nsec img.length ≤ halfOf D := by unfold nsec; omega
  have hst : ((h.age + 1) % 2).toNat = s := by omega
  obtain ⟨Dc, hDc⟩ : ∃ Dc : Dsk, { D with left := c } = Dc := ⟨_, rfl⟩
  have ckept : Dc.kept = D.kept := by rw [← hDc]
  have cw : Dc.waits = [] := by rw [← hDc]; exact hw
  have cs : ∀ j : Int, Dc.sec j = D.sec j := fun j => by rw [← hDc]; rfl
  have chalf : halfOf Dc = halfOf D := by unfold halfOf; rw [ckept]
  have cfrom : fromOf Dc s = fromOf D s := by unfold fromOf; rw [chalf]
  have clen : Dc.kept.length = n := by rw [ckept]; exact I.inv.fine.len
  rw [hDc]
  obtain ⟨q1, q2, q3, q4⟩ := wrs_gen (n := n) img.length Dc (fromOf D s) img clen (Nat.le_refl _) (by omega)
  have hc : commitOf Dc h img = if (wrs img.length Dc (fromOf D s) img).1 ≠ 0 then ((wrs img.length Dc (fromOf D s) img).1, (wrs img.length Dc (fromOf D s) img).2, h)
      else if (wrs img.length Dc (fromOf D s) img).2.flErr ≠ 0 then ((wrs img.length Dc (fromOf D s) img).2.flErr, (wrs img.length Dc (fromOf D s) img).2.fl, h)
      else sealOf (wrs img.length Dc (fromOf D s) img).2.fl h ⟨h.age + 1, true, img⟩ := by
    unfold commitOf
    rw [if_neg (by rw [chalf]; omega), if_neg (by omega), hst, cfrom]
  rw [hc]
  generalize (wrs img.length Dc (fromOf D s : Int) img).1 = q at q1 q4
  generalize (wrs img.length Dc (fromOf D s : Int) img).2 = Dw at q2 q3 q4
  have wlen : Dw.kept.length = n := by rw [q2]; exact clen
  have wout : ∀ j : Nat, j < n → (j < fromOf D s ∨ fromOf D s + halfOf D ≤ j) → Dw.sec (j : Int) = D.sec (j : Int) := fun j hj hout => by rw [q3 j (by omega), cs]
  have gone : ∀ {w B K M} kp, IsDisk w B K M Dw → openOf (Dw.crash kp) = h := fun kp hd => by
    refine open_was I (crash_fine wlen kp) s hs (fun j hj hout => ?_)
    rcases crash_sec hd kp (j := j) (by rw [wlen]; exact hj) with e | e
    · rw [e, wout j hj hout]
    · rw [e, q2, ← sec_nowait cw, cs]
  by_cases hq : q = 0
  · rw [if_neg (by simpa using hq)]
    by_cases hl0 : Dw.left = 0
    · obtain ⟨e1, e2⟩ := fl_off hl0
      rw [e1, e2, if_pos (by decide)]
      exact ⟨fun _ => rfl, wlen, fun kp hd h0 => absurd (show (19 : Int) = 0 from h0) (by decide), fun kp hd _ => .inl (gone kp hd)⟩
    · obtain ⟨e1, e2, e3, e4⟩ := fl_on wlen hl0
      rw [e1, if_neg (by decide)]
      refine seal_crash I e3 e2 s hs rfl ⟨by show 0 ≤ h.age + 1; omega, by show h.age + 1 ≤ _; omega, hb, by show img.length ≤ _; omega⟩ hl (fun _ => rfl) (fun j hj hout => by rw [e4 j hj, wout j hj hout]) ?_
      rw [runOf_congr (D' := Dw) _ (fun j h1 h2 => e4 j (by omega))]
      exact q4 hq (halfOf D) hns
  · rw [if_pos (by simpa using hq)]
    have hq19 : q = 19 := by rcases q1 with h | h; exact absurd h hq; exact h
    subst hq19
    exact ⟨fun _ => rfl, wlen, fun kp hd h0 => absurd (show (19 : Int) = 0 from h0) (by decide), fun kp hd _ => .inl (gone kp hd)⟩

theorem delete_crash {n : Nat} {D : Dsk} {h : Hd} (I : InvR n D h) (hw : D.waits = []) (c : Int) (ha : h.age < 1099511627776) :
    CrashOk n h ⟨h.age + 1, false, []⟩ (deleteOf { D with left := c } h) := by
  have h0 := I.inv.age0
  have h4 := I.inv.n4
  obtain ⟨s, hs⟩ : ∃ s : Nat, (h.age + 1) % 2 = (s : Int) := ⟨((h.age + 1) % 2).toNat, by omega⟩
  have hs1 : s ≤ 1 := by omega
  obtain ⟨Dc, hDc⟩ : ∃ Dc : Dsk, { D with left := c } = Dc := ⟨_, rfl⟩
  have ckept : Dc.kept = D.kept := by rw [← hDc]
  have cw : Dc.waits = [] := by rw [← hDc]; exact hw
  have cs : ∀ j : Int, Dc.sec j = D.sec j := fun j => by rw [← hDc]; rfl
  have clen : Dc.kept.length = n := by rw [ckept]; exact I.inv.fine.len
  rw [hDc]
  unfold deleteOf
  by_cases hh : h.has = false
  · rw [if_pos hh]
    refine ⟨fun _ => rfl, clen, fun kp hd h0 => absurd (show (8 : Int) = 0 from h0) (by decide), fun kp hd _ => .inl (open_was I (crash_fine clen kp) s hs (fun j hj hout => ?_))⟩
    rcases crash_sec hd kp (j := j) (by rw [clen]; exact hj) with e | e
    · rw [e, cs]
    · rw [e, ← sec_nowait cw, cs]
  · rw [if_neg hh, if_neg (by omega)]
    exact seal_crash I clen cw s hs rfl ⟨by show 0 ≤ h.age + 1; omega, by show h.age + 1 ≤ _; omega, (by intro x hx; cases hx), by show (0 : Nat) ≤ _; omega⟩ (Nat.zero_le _) (fun hp => absurd hp (Nat.lt_irrefl 0)) (fun j hj hout => cs _) rfl
end Go.Proofs.YtiibfboendnifaaDoor.Sl
