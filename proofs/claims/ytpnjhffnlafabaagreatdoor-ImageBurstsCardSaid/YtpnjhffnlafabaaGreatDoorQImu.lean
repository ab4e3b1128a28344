/- Bits turned over within 32 in a row, plain: that is a burst. -/
import Derived.Test.YtpnjhffnlafabaaGreatDoorQImq
namespace Go.Proofs.YtpnjhffnlafabaaGreatDoor.Im
set_option linter.unusedVariables false
set_option linter.unusedSimpArgs false
open Go.Proofs Go.RowKit Go.Proofs.Bk Go.Proofs.Bm Go.Proofs.Sc Go.Proofs.Kf Go.Proofs.YtpnjhffnlafabaaGreatDoorW.PrintWords Go.Proofs.YtpnjhffnlafabaaGreatDoor.Sl Go.Proofs.YtpnjhffnlafabaaGreatDoor.Sn Go.Proofs.YtpnjhffnlafabaaGreatDoor.PImageBack
def bitB (y : Nat) (i : Nat) : Bool := y / 2 ^ i % 2 == 1
def xorN (x : Int) (m : Nat) : Int := ((x.toNat ^^^ m : Nat) : Int)
def flipN (a : List Int) (k y : Nat) : Nat → List Int
  | 0 => a
  | i + 1 => if bitB y i then (flipN a k y i).set ((k + i) / 8) (xorN ((flipN a k y i).getD ((k + i) / 8) 0) (2 ^ ((k + i) % 8))) else flipN a k y i
def chgN (y : Nat) : Nat → Bool
  | 0 => false
  | i + 1 => chgN y i || bitB y i
theorem flipN_length (a : List Int) (k y : Nat) : ∀ i, (flipN a k y i).length = a.length
  | 0 => rfl
  | i + 1 => by
    rw [flipN]; split
    · rw [List.length_set, flipN_length a k y i]
    · exact flipN_length a k y i
theorem xorN_range {x : Int} {s : Nat} (h : 0 ≤ x ∧ x ≤ 255) (hs : s < 8) : 0 ≤ xorN x (2 ^ s) ∧ xorN x (2 ^ s) ≤ 255 := by
  unfold xorN
  have h1 : x.toNat ^^^ 2 ^ s < 2 ^ 8 := Nat.xor_lt_two_pow (by omega) (Nat.pow_lt_pow_right (by decide) hs)
  omega
theorem flipN_in {a : List Int} (h : inB a) (k y : Nat) : ∀ i, inB (flipN a k y i)
  | 0 => h
  | i + 1 => by
    have ih := flipN_in h k y i
    rw [flipN]; split
    · intro x hx
      rcases List.mem_or_eq_of_mem_set hx with hx | rfl
      · exact ih x hx
      · refine xorN_range ?_ (Nat.mod_lt _ (by decide))
        rw [List.getD_eq_getElem?_getD]
        cases e : (flipN a k y i)[(k + i) / 8]? with
        | none => simp
        | some u => exact ih u (List.mem_of_getElem? e)
    · exact ih
theorem dif_set {a c : List Int} {p m : Nat} (hp : p < c.length) (hc : inB c) (j : Nat) : dif a (c.set p (xorN (c.getD p 0) m)) j = if j = p then dif a c j ^^^ m else dif a c j := by
  unfold dif
  by_cases h : j = p
  · subst h
    rw [if_pos rfl]
    have e1 : (c.set j (xorN (c.getD j 0) m)).getD j 0 = xorN (c.getD j 0) m := by
      rw [List.getD_eq_getElem?_getD, List.getElem?_set_self hp]; rfl
    rw [e1]
    unfold xorN
    rw [Int.toNat_natCast, Nat.xor_assoc]
  · rw [if_neg h]
    have e1 : (c.set p (xorN (c.getD p 0) m)).getD j 0 = c.getD j 0 := by
      rw [List.getD_eq_getElem?_getD, List.getElem?_set_ne (fun e => h e.symm), ← List.getD_eq_getElem?_getD]
    rw [e1]
theorem dif_self (a : List Int) (j : Nat) : dif a a j = 0 := Nat.xor_self _
theorem flip_bits {a : List Int} (ha : inB a) (k y : Nat) : ∀ i, k + i ≤ 8 * a.length → ∀ j t, t < 8 → (dif a (flipN a k y i) j).testBit t = (decide (k ≤ 8 * j + t) && decide (8 * j + t < k + i) && bitB y (8 * j + t - k))
  | 0, _, j, t, ht => by
    rw [flipN, dif_self, Nat.zero_testBit]
    by_cases h1 : k ≤ 8 * j + t
    · have : ¬ 8 * j + t < k := by omega
      simp [this]
    · simp [h1]
  | i + 1, hi, j, t, ht => by
    have ih := flip_bits ha k y i (by omega) j t ht
    rw [flipN]
    by_cases hb : bitB y i = true
    · rw [if_pos hb, dif_set (by rw [flipN_length]; omega) (flipN_in ha k y i)]
      by_cases hj : j = (k + i) / 8
      · rw [if_pos hj, Nat.testBit_xor, ih, Nat.testBit_two_pow]
        by_cases ht2 : (k + i) % 8 = t
        · have e1 : 8 * j + t = k + i := by omega
          rw [e1]
          simp [ht2, hb]
        · have e2 : (decide (8 * j + t < k + (i + 1))) = decide (8 * j + t < k + i) := by
            by_cases h : 8 * j + t < k + i
            · simp [h]; omega
            · have : ¬ 8 * j + t < k + (i + 1) := by omega
              simp [h, this]
          rw [e2]
          simp [ht2]
      · rw [if_neg hj, ih]
        have e2 : (decide (8 * j + t < k + (i + 1))) = decide (8 * j + t < k + i) := by
          by_cases h : 8 * j + t < k + i
          · simp [h]; omega
          · have : ¬ 8 * j + t < k + (i + 1) := by omega
            simp [h, this]
        rw [e2]
    · rw [if_neg hb, ih]
      by_cases h1 : 8 * j + t = k + i
      · rw [h1, Nat.add_sub_cancel_left]
        simp [hb]
      · have e2 : (decide (8 * j + t < k + (i + 1))) = decide (8 * j + t < k + i) := by
          by_cases h : 8 * j + t < k + i
          · simp [h]; omega
          · have : ¬ 8 * j + t < k + (i + 1) := by omega
            simp [h, this]
        rw [e2]
theorem flip_none (a : List Int) (k y : Nat) : ∀ i, chgN y i = false → flipN a k y i = a
  | 0, _ => rfl
  | i + 1, h => by
    rw [chgN, Bool.or_eq_false_iff] at h
    rw [flipN, h.2, flip_none a k y i h.1]; rfl
theorem chg_some (y : Nat) : ∀ i, chgN y i = true → ∃ j, j < i ∧ bitB y j = true
  | 0, h => by cases h
  | i + 1, h => by
    rw [chgN, Bool.or_eq_true] at h
    rcases h with h | h
    · obtain ⟨j, h1, h2⟩ := chg_some y i h
      exact ⟨j, by omega, h2⟩
    · exact ⟨i, by omega, h⟩
theorem flip_some {a : List Int} (ha : inB a) (k y i : Nat) (hi : k + i ≤ 8 * a.length) (h : chgN y i = true) : flipN a k y i ≠ a := by
  obtain ⟨j, h1, h2⟩ := chg_some y i h
  intro e
  have h3 := flip_bits ha k y i hi ((k + j) / 8) ((k + j) % 8) (Nat.mod_lt _ (by decide))
  rw [e, dif_self, Nat.zero_testBit] at h3
  have e1 : 8 * ((k + j) / 8) + (k + j) % 8 = k + j := by omega
  rw [e1, Nat.add_sub_cancel_left, h2] at h3
  simp at h3
  omega
theorem flip_burst {a : List Int} (ha : inB a) (k y i : Nat) (hi : k + i ≤ 8 * a.length) (h32 : i ≤ 32) : Burst a (flipN a k y i) := by
  have hb := flip_bits ha k y i hi
  have hl : ∀ j, dif a (flipN a k y i) j < 2 ^ 8 := fun j => dif_lt ha (flipN_in ha k y i) j
  have hz : ∀ j, (∀ t, t < 8 → (dif a (flipN a k y i) j).testBit t = false) → dif a (flipN a k y i) j = 0 := fun j h => by
    apply Nat.eq_of_testBit_eq
    intro t
    rw [Nat.zero_testBit]
    by_cases ht : t < 8
    · exact h t ht
    · exact Nat.testBit_lt_two_pow (Nat.lt_of_lt_of_le (hl j) (Nat.pow_le_pow_right (by decide) (by omega)))
  refine ⟨k / 8, k % 8, Nat.mod_lt _ (by decide), fun j hj => hz j (fun t ht => ?_), fun j hj => hz j (fun t ht => ?_), ?_, ?_⟩
  · rw [hb j t ht]
    have : ¬ k ≤ 8 * j + t := by omega
    simp [this]
  · rw [hb j t ht]
    have : ¬ 8 * j + t < k + i := by omega
    simp [this]
  · apply Nat.dvd_of_mod_eq_zero
    apply Nat.eq_of_testBit_eq
    intro t
    rw [Nat.zero_testBit, Nat.testBit_mod_two_pow]
    by_cases ht : t < k % 8
    · rw [hb (k / 8) t (by omega)]
      have : ¬ k ≤ 8 * (k / 8) + t := by omega
      simp [this]
    · simp [ht]
  · apply Nat.lt_pow_two_of_testBit
    intro t ht
    by_cases ht8 : t < 8
    · rw [hb _ t ht8]
      have : ¬ 8 * (k / 8 + 4) + t < k + i := by omega
      simp [this]
    · exact Nat.testBit_lt_two_pow (Nat.lt_of_lt_of_le (hl _) (Nat.pow_le_pow_right (by decide) (by omega)))
theorem decode_er {c : List Int} (h : (unpackOf c).1 ≠ 0) : (decodeOf c).1 ≠ 0 := by
  unfold decodeOf
  rw [if_pos h]
  exact h
theorem decode_flip {ss : List SE} {xs : List SG} {ts : List ST} (h : PackOk ss) (hd : decodeOf (packB ss) = (0, xs, ts)) (hin : inB (packB ss)) (k y i : Nat) (hi : k + i ≤ 8 * (packB ss).length) (h32 : i ≤ 32) : ((decodeOf (flipN (packB ss) k y i)).1 != 0) = chgN y i := by
  cases hc : chgN y i with
  | false =>
    rw [flip_none _ _ _ _ hc, hd]; rfl
  | true =>
    have h1 : (decodeOf (flipN (packB ss) k y i)).1 ≠ 0 := by
      apply decode_er
      intro hu
      exact flip_some hin k y i hi hc (burst_unpack h (flipN_in hin k y i) (flip_burst hin k y i hi h32) hu)
    simpa using h1
theorem decode_cut {ss : List SE} {k : Nat} (h : PackOk ss) (hk : k < (packB ss).length) : (decodeOf ((packB ss).take k)).1 ≠ 0 := decode_er (cut_unpack h hk)
theorem decode_more {ss : List SE} (h : PackOk ss) (x : Int) : (decodeOf (packB ss ++ [x])).1 ≠ 0 := decode_er (by rw [unpack_more h (by simp)]; decide)
end Go.Proofs.YtpnjhffnlafabaaGreatDoor.Im
