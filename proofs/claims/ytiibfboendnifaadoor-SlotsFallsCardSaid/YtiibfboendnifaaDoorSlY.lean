/- Plain: where a bit of what is newest is turned over, what was there before it is found. -/
import Derived.Test.YtiibfboendnifaaDoorSlX
namespace Go.Proofs.YtiibfboendnifaaDoor.Sl
set_option linter.unusedVariables false
set_option linter.unusedSimpArgs false
open Go.RowKit Go.Proofs.Bk Go.Proofs.Bm Go.Proofs.YtiibfboendnifaaDoor.Dk Go.Proofs.YtiibfboendnifaaDoorW.PrintWords

theorem pad_len25 (h : Hd) : (pad h.put).length = 64 := by unfold pad; rw [List.length_append, List.length_replicate, h.put_length]
theorem pad_range (h : Hd) : ∀ x ∈ pad h.put, 0 ≤ x ∧ x ≤ 255 := by
  intro x hx
  unfold pad at hx
  rcases List.mem_append.1 hx with hx | hx
  · exact h.put_range x hx
  · have := (List.mem_replicate.1 hx).2; omega
theorem put_drop (h : Hd) : ((pad h.put).drop 21).take 4 = digs (crc h.b2) 4 := by
  have e : h.put = h.b2 ++ digs (crc h.b2) 4 := rfl
  unfold pad
  rw [e, List.append_assoc, List.drop_left' h.b2_length, List.take_append_of_le_length (by rw [digs_length]; decide), List.take_of_length_le (by rw [digs_length]; decide)]
theorem digs4_inj (a b : Int) (ha : 0 ≤ a ∧ a < 4294967296) (hb : 0 ≤ b ∧ b < 4294967296) (h : digs a 4 = digs b 4) : a = b := by
  have h1 := leNum_digs 4 a ha.1 (by rw [pow4]; exact ha.2)
  have h2 := leNum_digs 4 b hb.1 (by rw [pow4]; exact hb.2)
  rw [← h1, h, h2]
theorem b2_chk (h : Hd) : h.b2.drop 17 = digs h.chk 4 := by
  have e : h.b2 = (h.b1 ++ digs h.img.length 4) ++ digs h.chk 4 := rfl
  rw [e, List.drop_left' (by rw [List.length_append, h.b1_length, digs_length])]
theorem getD_set_ {l : List Int} {q : Nat} {v : Int} (hq : q < l.length) : (l.set q v).getD q 0 = v := by simp [List.getD_eq_getElem?_getD, hq]
theorem getD_range {l : List Int} (hl : ∀ x ∈ l, 0 ≤ x ∧ x ≤ 255) (q : Nat) : 0 ≤ l.getD q 0 ∧ l.getD q 0 ≤ 255 := by
  rw [List.getD_eq_getElem?_getD]
  cases e : l[q]? with
  | none => simp
  | some x => exact hl x (List.mem_of_getElem? e)

theorem fall_head {n : Nat} {D : Dsk} {h : Hd} {slot : Nat} (hF : Fine n D) (hw : D.waits = []) (hs : slot < n) (H : Holds D slot h) {k : Nat} (hk : k < 200) : toldOf (D.rot (slot : Int) (k : Int)) slot = hd0 := by
  obtain ⟨_, _, f3⟩ := rot_sec hF hw hs (k := k) (by omega)
  have e := f3 slot
  rw [if_pos rfl, H.sec] at e
  generalize D.rot (slot : Int) (k : Int) = D' at e
  unfold toldOf
  split
  · rfl
  · split
    · rename_i heq
      exfalso
      generalize rawHd D' slot = g at heq
      rw [e] at heq
      obtain ⟨q, hq⟩ : ∃ q, k / 8 = q := ⟨_, rfl⟩
      rw [hq] at heq
      have hr := getD_range (pad_range h) q
      obtain ⟨_, f5, f6, f7⟩ := flip_spec _ (k % 8) hr.1 hr.2 (by omega)
      have hq25 : q < 25 := by omega
      obtain ⟨x, hx⟩ : ∃ x, (pad h.put).getD q 0 = x := ⟨_, rfl⟩
      rw [hx] at heq f5 f6 f7
      obtain ⟨v, hv⟩ : ∃ v, flip x (k % 8) = v := ⟨_, rfl⟩
      rw [hv] at heq f5 f6 f7
      have ht := congrArg (List.take 21) heq
      rw [List.take_set, put_take, put_take] at ht
      by_cases h21 : q < 21
      · have hd := congrArg (fun l => (l.drop 21).take 4) heq
        simp only [List.drop_set, if_pos h21] at hd
        rw [put_drop, put_drop] at hd
        have hc := digs4_inj _ _ (crc_range _ h.b2_range) (crc_range _ g.b2_range) hd
        rw [← ht] at hc
        have h3 := crc_set h.b2 q v h.b2_range ⟨f6, f7⟩ (by rw [h.b2_length]; exact h21) hc.symm
        have h4 : h.b2.getD q 0 = x := by
          rw [← hx, ← put_take]
          simp [List.getD_eq_getElem?_getD, List.getElem?_take, h21]
        exact f5 (by rw [← h3, h4])
      · rw [List.set_eq_of_length_le (by rw [h.b2_length]; omega)] at ht
        have hp : g.put = h.put := by
          have e1 : h.put = h.b2 ++ digs (crc h.b2) 4 := rfl
          have e2 : g.put = g.b2 ++ digs (crc g.b2) 4 := rfl
          rw [e1, e2, ht]
        rw [hp] at heq
        have h3 : ((pad h.put).set q v).getD q 0 = (pad h.put).getD q 0 := by rw [heq]
        rw [getD_set_ (by rw [pad_len25]; omega), hx] at h3
        exact f5 h3
    · rfl

theorem runOf_len {D : Dsk} (i : Nat) : ∀ q, (∀ t, t < q → (D.sec ((i + t : Nat) : Int)).length = 64) → (runOf D i q).length = 64 * q
  | 0, _ => rfl
  | q + 1, h => by
    unfold runOf
    rw [List.length_append, runOf_len i q (fun t ht => h t (by omega)), h q (by omega)]; omega
theorem runOf_set {D D' : Dsk} (i t r : Nat) (v : Int) (hr : r < 64) (hs : ∀ j : Nat, D'.sec (j : Int) = if j = i + t then (D.sec ((i + t : Nat) : Int)).set r v else D.sec (j : Int)) :
    ∀ q, t < q → (∀ t, t < q → (D.sec ((i + t : Nat) : Int)).length = 64) → runOf D' i q = (runOf D i q).set (64 * t + r) v
  | 0, h, _ => by omega
  | q + 1, h, hl => by
    have hlen := runOf_len (D := D) i q (fun t ht => hl t (by omega))
    have e1 : runOf D' i (q + 1) = runOf D' i q ++ D'.sec ((i + q : Nat) : Int) := rfl
    have e2 : runOf D i (q + 1) = runOf D i q ++ D.sec ((i + q : Nat) : Int) := rfl
    rw [e1, e2]
    by_cases htq : t < q
    · rw [runOf_set i t r v hr hs q htq (fun t ht => hl t (by omega)), hs (i + q), if_neg (by omega), List.set_append_left _ _ (by rw [hlen]; omega)]
    · have : t = q := by omega
      subst this
      rw [runOf_congr (D' := D) t (fun j h1 h2 => by rw [hs j, if_neg (by omega)]), hs (i + t), if_pos rfl, List.set_append_right _ _ (by rw [hlen]; omega), hlen]
      congr 2
      omega
theorem take_set_ (l : List Int) (m q : Nat) (v : Int) : (l.set q v).take m = (l.take m).set q v := List.take_set ..

theorem fall_img {n : Nat} {D : Dsk} {h : Hd} {slot : Nat} (hF : Fine n D) (hw : D.waits = []) (h4 : 4 ≤ n) (hs : slot ≤ 1) (H : Holds D slot h) (hsec : ∀ j : Nat, j < n → (D.sec (j : Int)).length = 64) {a : Nat} (ha : a < 8 * h.img.length) :
    toldOf (D.rot ((fromOf D slot + a / 512 : Nat) : Int) ((a % 512 : Nat) : Int)) slot = hd0 ∧ fromOf D slot ≤ fromOf D slot + a / 512 ∧ fromOf D slot + a / 512 < fromOf D slot + halfOf D := by
  obtain ⟨s1, s2, s3⟩ := slots_fit h4 hF slot hs
  have hlen := H.len
  have hat : a / 512 < halfOf D := by omega
  refine ⟨?_, by omega, by omega⟩
  obtain ⟨f1, f2, f3⟩ := rot_sec hF hw (i := fromOf D slot + a / 512) (by omega) (k := a % 512) (by omega)
  have e := f3 slot
  rw [if_neg (by omega), H.sec] at e
  generalize D.rot ((fromOf D slot + a / 512 : Nat) : Int) ((a % 512 : Nat) : Int) = D' at e f1 f2 f3
  have hh : halfOf D' = halfOf D := by rw [fine_half f1, fine_half hF]
  have hfr : fromOf D' slot = fromOf D slot := by unfold fromOf; rw [hh]
  have hrun := runOf_set (D := D) (D' := D') (fromOf D slot) (a / 512) (a % 512 / 8) _ (by omega) f3 (halfOf D) hat (fun t ht => hsec _ (by omega))
  have hrl := runOf_len (D := D) (fromOf D slot) (halfOf D) (fun t ht => hsec _ (by omega))
  have hpos : 64 * (a / 512) + a % 512 / 8 = a / 8 := by omega
  have hbit : a % 512 % 8 = a % 8 := by omega
  rw [hpos, hbit] at hrun
  have hval : (D.sec ((fromOf D slot + a / 512 : Nat) : Int)).getD (a % 512 / 8) 0 = h.img.getD (a / 8) 0 := by
    have h1 : h.img.getD (a / 8) 0 = (runOf D (fromOf D slot) (halfOf D)).getD (a / 8) 0 := by
      rw [← H.img]
      simp only [List.getD_eq_getElem?_getD, List.getElem?_take, List.length_take]
      rw [if_pos (by omega)]
    rw [h1]
    have hA : ∀ q, a / 512 < q → (∀ t, t < q → (D.sec ((fromOf D slot + t : Nat) : Int)).length = 64) → (runOf D (fromOf D slot) q).getD (a / 8) 0 = (D.sec ((fromOf D slot + a / 512 : Nat) : Int)).getD (a % 512 / 8) 0 := by
      intro q
      induction q with
      | zero => intro h; omega
      | succ q ih =>
        intro hq hl
        have hlen := runOf_len (D := D) (fromOf D slot) q (fun t ht => hl t (by omega))
        have e2 : runOf D (fromOf D slot) (q + 1) = runOf D (fromOf D slot) q ++ D.sec ((fromOf D slot + q : Nat) : Int) := rfl
        rw [e2]
        by_cases hlt : a / 512 < q
        · rw [← ih hlt (fun t ht => hl t (by omega))]
          simp only [List.getD_eq_getElem?_getD]
          rw [List.getElem?_append_left (by rw [hlen]; omega)]
        · have : a / 512 = q := by omega
          subst this
          simp only [List.getD_eq_getElem?_getD]
          rw [List.getElem?_append_right (by rw [hlen]; omega), hlen]
          congr 2
          omega
    exact (hA _ hat (fun t ht => hsec _ (by omega))).symm
  rw [hval] at hrun
  have hr := getD_range H.ok.b (a / 8)
  obtain ⟨_, f5, f6, f7⟩ := flip_spec _ (a % 8) hr.1 hr.2 (by omega)
  obtain ⟨v, hv⟩ : ∃ v, flip (h.img.getD (a / 8) 0) (a % 8) = v := ⟨_, rfl⟩
  rw [hv] at hrun f5 f6 f7
  obtain ⟨r1, r2, r3⟩ := raw_put h H.ok
  have hg : rawHd D' slot = ⟨h.age, h.has, h.img.set (a / 8) v⟩ := by
    unfold rawHd
    rw [e, r1, r2, r3, Int.toNat_natCast, hfr, hh, hrun, take_set_, H.img]
  unfold toldOf
  split
  · rfl
  · rw [hg]
    split
    · rename_i heq
      exfalso
      rw [e] at heq
      have ht := congrArg (List.take 21) heq
      rw [put_take, put_take] at ht
      have hd := congrArg (List.drop 17) ht
      rw [b2_chk, b2_chk] at hd
      have hhas : h.has = true := H.has (by omega)
      have e1 : h.chk = crc h.img := by unfold Hd.chk; rw [if_pos hhas]
      have e2 : (⟨h.age, h.has, h.img.set (a / 8) v⟩ : Hd).chk = crc (h.img.set (a / 8) v) := by unfold Hd.chk; rw [if_pos hhas]
      rw [e1, e2] at hd
      have hrs : ∀ x ∈ h.img.set (a / 8) v, 0 ≤ x ∧ x ≤ 255 := by
        intro x hx
        rcases List.mem_or_eq_of_mem_set hx with hx | rfl
        · exact H.ok.b x hx
        · exact ⟨f6, f7⟩
      have hc := digs4_inj _ _ (crc_range _ H.ok.b) (crc_range _ hrs) hd
      have h3 := crc_set h.img (a / 8) v H.ok.b ⟨f6, f7⟩ (by omega) hc.symm
      exact f5 h3.symm
    · rfl

theorem told_openOf {D : Dsk} {slot : Nat} (hs : slot ≤ 1) {p : Hd} (h1 : toldOf D slot = hd0) (h2 : toldOf D (1 - slot) = p) (hp : p = hd0 ∨ 1 ≤ p.age) : openOf D = p := by
  have ha : hd0.age = 0 := rfl
  unfold openOf openK openK openK newer
  rcases (by omega : slot = 0 ∨ slot = 1) with rfl | rfl
  · rw [show (1 - 0 : Nat) = 1 from rfl] at h2
    rw [h1, h2]
    rcases hp with rfl | hp
    · rfl
    · rw [if_neg (Int.lt_irrefl _), if_pos (show hd0.age < p.age by omega)]
  · rw [show (1 - 1 : Nat) = 0 from rfl] at h2
    rw [h1, h2]
    rcases hp with rfl | hp
    · rfl
    · rw [if_pos (show hd0.age < p.age by omega), if_neg (by omega)]
end Go.Proofs.YtiibfboendnifaaDoor.Sl
