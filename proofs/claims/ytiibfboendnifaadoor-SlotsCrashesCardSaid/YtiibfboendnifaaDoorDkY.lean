/- What a crash keeps, sector by sector; lists of sectors that are handed out. -/
import Derived.Test.YtiibfboendnifaaDoorDkX
namespace Go.Proofs.YtiibfboendnifaaDoor.Dk
set_option linter.unusedVariables false
set_option linter.unusedSimpArgs false
open Go.RowKit Go.Proofs.Bk Go.Proofs.Bm Go.Proofs.Op Go.Proofs.YtiibfboendnifaaDoorW.PrintWords

theorem crash1_at (kp : List Bool) (i : Int) : ∀ (l : List Int) (D : Dsk) (n k : Nat), (D.waits.map (·.1)).Nodup → l.Nodup → (∀ x ∈ l, 0 ≤ x) → l[k]? = some i → i.toNat < D.kept.length →
    (crash1 kp D l n).kept[i.toNat]? = if kp.getD (n + k) false then some ((aget D.waits i).getD zeros) else D.kept[i.toNat]?
  | [], _, _, _, _, _, _, h, _ => by simp at h
  | x :: l, D, n, 0, hw, hl, h0, h, hi => by
    have e : x = i := by simpa using h
    subst e
    have hx : x ∉ l := (List.nodup_cons.1 hl).1
    unfold crash1
    rw [crash1_kept kp x.toNat l _ _ (fun y hy e => hx (by
      have h1 := h0 y (by simp [hy]); have h2 := h0 x (by simp)
      have : y = x := by omega
      rw [← this]; exact hy))]
    unfold Dsk.one
    dsimp only
    rw [Nat.add_zero]
    split
    · rw [List.getElem?_set_self hi]
    · rfl
  | x :: l, D, n, k + 1, hw, hl, h0, h, hi => by
    have hk : l[k]? = some i := by simpa using h
    have hx : x ∉ l := (List.nodup_cons.1 hl).1
    have hxi : x ≠ i := fun e => hx (by rw [e]; exact List.mem_of_getElem? hk)
    have h1 := h0 x (by simp)
    have h2 := h0 i (by simp [List.mem_of_getElem? hk])
    unfold crash1
    have hone : (D.one (kp.getD n false) x).kept[i.toNat]? = D.kept[i.toNat]? := by
      unfold Dsk.one
      dsimp only
      split
      · rw [List.getElem?_set_ne (by omega)]
      · rfl
    have hlen : (D.one (kp.getD n false) x).kept.length = D.kept.length := by unfold Dsk.one; dsimp only; split <;> simp
    have hag : aget (D.one (kp.getD n false) x).waits i = aget D.waits i := by
      show aget (adel D.waits x) i = _
      rw [aget_adel hw, if_neg (Ne.symm hxi)]
    rw [crash1_at kp i l _ (n + 1) k (nodup_adel hw x) (List.nodup_cons.1 hl).2 (fun y hy => h0 y (by simp [hy])) hk (by rw [hlen]; exact hi), hone, hag, show n + 1 + k = n + (k + 1) by omega]
theorem wts_nodup {w : World} {B K M : Nat} {D : Dsk} (h : IsDisk w B K M D) : D.wts.Nodup := ((wts_perm D).nodup_iff).2 h.mp.nodup
theorem wts_range {w : World} {B K M : Nat} {D : Dsk} (h : IsDisk w B K M D) : ∀ x ∈ D.wts, 0 ≤ x ∧ x < D.kept.length := by
  intro x hx
  obtain ⟨p, hp, rfl⟩ := List.mem_map.1 ((wts_perm D).mem_iff.1 hx)
  exact (h.wsec p hp).2
theorem wts_lt {w : World} {B K M : Nat} {D : Dsk} (h : IsDisk w B K M D) : ∀ (j k : Nat) (hj : j < k) (hk : k < D.wts.length), D.wts[j]'(by omega) < D.wts[k] := by
  intro j k hj hk
  have hs : D.wts.Pairwise (fun a b => (decide (a ≤ b)) = true) := List.pairwise_mergeSort (fun a b c h1 h2 => by simp only [decide_eq_true_eq] at *; omega) (fun a b => by simp only [Bool.or_eq_true, decide_eq_true_eq]; omega) _
  have h1 := List.pairwise_iff_getElem.1 hs j k (by omega) hk hj
  have h2 := List.pairwise_iff_getElem.1 (wts_nodup h) j k (by omega) hk hj
  simp only [decide_eq_true_eq] at h1
  omega
theorem crash_at {w : World} {B K M : Nat} {D : Dsk} (h : IsDisk w B K M D) (kp : List Bool) {k : Nat} {i : Int} (hi : D.wts[k]? = some i) :
    (D.crash kp).kept[i.toNat]? = some (if kp.getD k false then D.sec i else D.kept.getD i.toNat []) := by
  have hr := wts_range h i (List.mem_of_getElem? hi)
  have hmem := (wts_perm D).mem_iff.1 (List.mem_of_getElem? hi)
  obtain ⟨v, hv⟩ := aget_of_mem hmem
  unfold Dsk.crash
  show (crash1 kp D D.wts 0).kept[i.toNat]? = _
  rw [crash1_at kp i D.wts D 0 k h.mp.nodup (wts_nodup h) (fun x hx => (wts_range h x hx).1) hi (by omega), Nat.zero_add]
  unfold Dsk.sec
  rw [hv]
  split
  · rfl
  · rw [List.getD_eq_getElem?_getD, List.getElem?_eq_getElem (by omega)]; rfl
theorem aget_none_of_wts {D : Dsk} {i : Int} (h : i ∉ D.wts) : aget D.waits i = none := (aget_none_iff _ _).2 (fun hm => h ((wts_perm D).mem_iff.2 hm))
theorem crash_not {w : World} {B K M : Nat} {D : Dsk} (h : IsDisk w B K M D) (kp : List Bool) {i : Int} (h0 : 0 ≤ i) (h1 : i < D.kept.length) (hi : i ∉ D.wts) :
    (D.crash kp).kept[i.toNat]? = some (D.kept.getD i.toNat []) ∧ D.sec i = D.kept.getD i.toNat [] := by
  have ha := aget_none_of_wts hi
  refine ⟨?_, by unfold Dsk.sec; rw [ha]; rfl⟩
  rw [crash_kept h kp h0 ha, List.getD_eq_getElem?_getD, List.getElem?_eq_getElem (by omega)]; rfl
theorem Sec_sec {w : World} {B K M : Nat} {D : Dsk} (h : IsDisk w B K M D) {i : Int} (h0 : 0 ≤ i) (h1 : i < D.kept.length) : Sec (D.sec i) := by
  unfold Dsk.sec
  cases e : aget D.waits i with
  | none =>
    show Sec (D.kept.getD i.toNat [])
    rw [List.getD_eq_getElem?_getD, List.getElem?_eq_getElem (by omega)]; exact h.secs _ (List.getElem_mem _)
  | some v => exact (h.wsec _ ((aget_some_iff h.mp.nodup i v).1 e)).1

/-- a list of sectors that is no part of a disk -/
theorem R_far {w : World} {b B K M : Nat} {v : Value} {xs : List (List Int)} (h : kSec.R 32 w b (fun _ => True) v xs) (hb : B < b ∧ K < b ∧ M < b) : kSec.R 32 w b (fun k => ¬ FD B K M k) v xs :=
  Kd.R_mono (Kd.R_bound h) (fun k hk hf => by have := hk.2.1; unfold FD at hf; omega)
theorem R_keep {w w' : World} {b B K M : Nat} {v : Value} {xs : List (List Int)} (h : kSec.R 32 w b (fun k => ¬ FD B K M k) v xs) (hk : KeepF (FD B K M) w w') : kSec.R 32 w' b (fun k => ¬ FD B K M k) v xs :=
  Kd.R_step h (fun i hi hl => hk.block i hl hi)
/-- what stands at place i of such a list -/
theorem sec_at {w : World} {A : Option Addr} {n : Nat} {xs : List (List Int)} (h : kSec.C w A n xs) {i : Nat} (hi : i < n) {s : List Int} (hs : xs[i]? = some s) :
    ∃ ad A1 c1, A = some ad ∧ w.cell? (ad.add i) = some (.slice A1 s.length c1) ∧ s.length ≤ c1 ∧ (Kd.int .u8).C w A1 s.length s := by
  obtain ⟨ad, rfl, hc⟩ := h.2.2 (by omega)
  obtain ⟨cs, h1, h2, h3⟩ := hc i s hs
  obtain ⟨A1, c1, rfl, hl, hr⟩ := h2
  have := h3 0 _ rfl
  rw [show i * kSec.sz + 0 = i from (by show i * 1 + 0 = i; omega)] at this
  exact ⟨ad, A1, c1, rfl, this, hl, hr⟩
end Go.Proofs.YtiibfboendnifaaDoor.Dk
