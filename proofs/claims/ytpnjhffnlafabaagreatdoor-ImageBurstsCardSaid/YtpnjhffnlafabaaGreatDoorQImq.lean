/- Images, plain: what differs by a burst of up to 32 bits isn't unpacked, nor what is cut off. -/
import Derived.Test.YtpnjhffnlafabaaGreatDoorQImp
import Derived.Laws.BitsAllLaws
namespace Go.Proofs.YtpnjhffnlafabaaGreatDoor.Im
set_option linter.unusedVariables false
set_option linter.unusedSimpArgs false
open Go.Proofs Go.RowKit Go.Proofs.Bk Go.Proofs.Bm Go.Proofs.Sc Go.Proofs.Kf Go.Proofs.YtpnjhffnlafabaaGreatDoorW.PrintWords Go.Proofs.YtpnjhffnlafabaaGreatDoor.Sl Go.Proofs.YtpnjhffnlafabaaGreatDoor.Sn Go.Proofs.YtpnjhffnlafabaaGreatDoor.PImageBack
/-! ### the register, bit by bit -/
def cst (x : Nat) : Nat := x / 2 ^^^ (if x % 2 = 1 then 3988292384 else 0)
def cit : Nat → Nat → Nat
  | 0, x => x
  | n + 1, x => cit n (cst x)
theorem cit_add (n : Nat) : ∀ (m x : Nat), cit (m + n) x = cit n (cit m x)
  | 0, x => by rw [Nat.zero_add]; rfl
  | m + 1, x => by rw [Nat.add_right_comm]; exact cit_add n m (cst x)
theorem xor4 (a b c d : Nat) : (a ^^^ b) ^^^ (c ^^^ d) = (a ^^^ c) ^^^ (b ^^^ d) := by
  rw [Nat.xor_assoc, Nat.xor_assoc, ← Nat.xor_assoc b, Nat.xor_comm b c, Nat.xor_assoc c]
theorem half_xor (x y : Nat) : (x ^^^ y) / 2 = x / 2 ^^^ y / 2 := by
  have := Nat.shiftRight_xor_distrib (a := x) (b := y) (i := 1)
  simpa [Nat.shiftRight_succ] using this
theorem cst_xor (x y : Nat) : cst (x ^^^ y) = cst x ^^^ cst y := by
  unfold cst
  rw [half_xor, xor4]
  congr 1
  have h : decide ((x ^^^ y) % 2 = 1) = (decide (x % 2 = 1) ^^ decide (y % 2 = 1)) := by
    have := Nat.testBit_xor x y 0
    simpa only [Nat.testBit_zero] using this
  by_cases hx : x % 2 = 1 <;> by_cases hy : y % 2 = 1
  · rw [if_pos hx, if_pos hy, if_neg (by simp [hx, hy]), Nat.xor_self]
  · rw [if_pos hx, if_neg hy, if_pos (by simp [hx, hy]), Nat.xor_zero]
  · rw [if_neg hx, if_pos hy, if_pos (by simp [hx, hy]), Nat.zero_xor]
  · rw [if_neg hx, if_neg hy, if_neg (by simp [hx, hy]), Nat.xor_self]
theorem cit_xor : ∀ (n x y : Nat), cit n (x ^^^ y) = cit n x ^^^ cit n y
  | 0, _, _ => rfl
  | n + 1, x, y => by show cit n (cst (x ^^^ y)) = _; rw [cst_xor, cit_xor n]; rfl
theorem cst_lt {x : Nat} (h : x < 2 ^ 32) : cst x < 2 ^ 32 := by
  unfold cst
  refine Nat.xor_lt_two_pow (by omega) ?_
  split <;> decide
theorem cit_lt : ∀ (n : Nat) {x : Nat}, x < 2 ^ 32 → cit n x < 2 ^ 32
  | 0, _, h => h
  | n + 1, _, h => cit_lt n (cst_lt h)
theorem xor_eq_zero {a b : Nat} (h : a ^^^ b = 0) : a = b := by
  have h1 : (a ^^^ b) ^^^ b = 0 ^^^ b := by rw [h]
  rw [Nat.xor_assoc, Nat.xor_self, Nat.xor_zero, Nat.zero_xor] at h1
  exact h1
theorem cst_inj {x : Nat} (h : x < 2 ^ 32) (h0 : cst x = 0) : x = 0 := by
  unfold cst at h0
  have h1 := xor_eq_zero h0
  split at h1 <;> omega
theorem cit_inj : ∀ (n : Nat) {x : Nat}, x < 2 ^ 32 → cit n x = 0 → x = 0
  | 0, _, _, h => h
  | n + 1, _, h, h0 => cst_inj h (cit_inj n (cst_lt h) h0)
theorem cst_two (y : Nat) : cst (2 * y) = y := by
  unfold cst
  rw [if_neg (by omega), Nat.xor_zero]; omega
theorem cit_shift : ∀ (n y : Nat), cit n (2 ^ n * y) = y
  | 0, y => by simp [cit]
  | n + 1, y => by
    show cit n (cst (2 ^ (n + 1) * y)) = y
    rw [Nat.pow_succ, Nat.mul_comm (2 ^ n) 2, Nat.mul_assoc, cst_two, cit_shift n]
theorem split_xor (n x : Nat) : x = 2 ^ n * (x / 2 ^ n) ^^^ x % 2 ^ n := by
  apply Nat.eq_of_testBit_eq
  intro i
  rw [Nat.testBit_xor, Nat.testBit_two_pow_mul, Nat.testBit_mod_two_pow, Nat.testBit_div_two_pow]
  by_cases h : i < n
  · simp [h, Nat.not_le_of_lt h]
  · have h1 : n ≤ i := by omega
    simp [h, h1, Nat.sub_add_cancel h1]
theorem cit_split (n x : Nat) : cit n x = x / 2 ^ n ^^^ cit n (x % 2 ^ n) := by
  conv => lhs; rw [split_xor n x]
  rw [cit_xor, cit_shift]
def cS (c b : Nat) : Nat := cit 8 (c ^^^ b)
theorem cS_lt {c b : Nat} (hc : c < 2 ^ 32) (hb : b < 256) : cS c b < 2 ^ 32 := cit_lt 8 (Nat.xor_lt_two_pow hc (by omega))
theorem cS_xor (c b d e : Nat) : cS (c ^^^ d) (b ^^^ e) = cS c b ^^^ cS d e := by
  unfold cS
  rw [← cit_xor]
  congr 1
  rw [xor4]
def cF (c : Nat) (l : List Nat) : Nat := l.foldl cS c
theorem cF_word (c d0 d1 d2 d3 : Nat) : cF c [d0, d1, d2, d3] = cit 32 (c ^^^ (d0 ^^^ (2 ^ 8 * d1 ^^^ (2 ^ 16 * d2 ^^^ 2 ^ 24 * d3)))) := by
  have e1 : cit 32 (2 ^ 8 * d1) = cit 24 d1 := by rw [show 32 = 8 + 24 from rfl, cit_add, cit_shift]
  have e2 : cit 32 (2 ^ 16 * d2) = cit 16 d2 := by rw [show 32 = 16 + 16 from rfl, cit_add, cit_shift]
  have e3 : cit 32 (2 ^ 24 * d3) = cit 8 d3 := by rw [show 32 = 24 + 8 from rfl, cit_add, cit_shift]
  rw [cit_xor, cit_xor, cit_xor, cit_xor, e1, e2, e3]
  show cit 8 (cit 8 (cit 8 (cit 8 (c ^^^ d0) ^^^ d1) ^^^ d2) ^^^ d3) = _
  simp only [cit_xor]
  have f1 : ∀ x, cit 8 (cit 8 (cit 8 (cit 8 x))) = cit 32 x := fun x => by rw [← cit_add, ← cit_add, ← cit_add]
  have f2 : ∀ x, cit 8 (cit 8 (cit 8 x)) = cit 24 x := fun x => by rw [← cit_add, ← cit_add]
  have f3 : ∀ x, cit 8 (cit 8 x) = cit 16 x := fun x => by rw [← cit_add]
  rw [f1, f1, f2, f3]
  simp only [Nat.xor_assoc]
def stF (e : Nat → Nat) : Nat → Nat
  | 0 => 0
  | n + 1 => cS (stF e n) (e n)
theorem stF_lt {e : Nat → Nat} (he : ∀ i, e i < 256) : ∀ n, stF e n < 2 ^ 32
  | 0 => Nat.two_pow_pos 32
  | n + 1 => cS_lt (stF_lt he n) (he n)
theorem stF_zeros {e : Nat → Nat} {q : Nat} (h : ∀ i, i < q → e i = 0) : ∀ n, n ≤ q → stF e n = 0
  | 0, _ => rfl
  | n + 1, hn => by rw [stF, stF_zeros h n (by omega), h n (by omega)]; rfl
theorem cS_zero (c : Nat) : cS c 0 = cit 8 c := by unfold cS; rw [Nat.xor_zero]
theorem stF_tail {e : Nat → Nat} {q : Nat} (he : ∀ i, e i < 256) (h : ∀ i, q ≤ i → e i = 0) : ∀ n, stF e (q + n) = 0 → stF e q = 0
  | 0, h0 => h0
  | n + 1, h0 => by
    refine stF_tail he h n ?_
    have h1 : stF e (q + n + 1) = 0 := h0
    rw [stF, h (q + n) (by omega), cS_zero] at h1
    exact cit_inj 8 (stF_lt he _) h1
theorem stF_more {e : Nat → Nat} {m : Nat} (h : ∀ i, m ≤ i → e i = 0) (h0 : stF e m = 0) : ∀ n, stF e (m + n) = 0
  | 0 => h0
  | n + 1 => by
    show cS (stF e (m + n)) (e (m + n)) = 0
    rw [stF_more h h0 n, h (m + n) (by omega)]; rfl
theorem low_xor {a b n : Nat} (h : a < 2 ^ n) : a ^^^ 2 ^ n * b = a + 2 ^ n * b := by
  have h1 := split_xor n (a + 2 ^ n * b)
  have e1 : (a + 2 ^ n * b) / 2 ^ n = b := by rw [Nat.add_mul_div_left _ _ (Nat.two_pow_pos n), Nat.div_eq_of_lt h, Nat.zero_add]
  have e2 : (a + 2 ^ n * b) % 2 ^ n = a := by rw [Nat.add_mul_mod_self_left, Nat.mod_eq_of_lt h]
  rw [e1, e2, Nat.xor_comm] at h1
  exact h1.symm
theorem word_sum {a b c d : Nat} (ha : a < 256) (hb : b < 256) (hc : c < 256) : a ^^^ (2 ^ 8 * b ^^^ (2 ^ 16 * c ^^^ 2 ^ 24 * d)) = a + 2 ^ 8 * (b + 2 ^ 8 * (c + 2 ^ 8 * d)) := by
  have h1 : 2 ^ 16 * c ^^^ 2 ^ 24 * d = 2 ^ 16 * c + 2 ^ 24 * d := low_xor (by omega)
  have h2 : 2 ^ 8 * b ^^^ 2 ^ 16 * (c + 2 ^ 8 * d) = 2 ^ 8 * b + 2 ^ 16 * (c + 2 ^ 8 * d) := low_xor (by omega)
  have h3 : a ^^^ 2 ^ 8 * (b + 2 ^ 8 * (c + 2 ^ 8 * d)) = a + 2 ^ 8 * (b + 2 ^ 8 * (c + 2 ^ 8 * d)) := low_xor (by omega)
  rw [h1, show 2 ^ 16 * c + 2 ^ 24 * d = 2 ^ 16 * (c + 2 ^ 8 * d) by omega, h2, ← h3]
  congr 1; omega
theorem burst_stays {e : Nat → Nat} {q s m : Nat} (hs : s < 8) (he : ∀ i, e i < 256) (h1 : ∀ i, i < q → e i = 0) (h5 : ∀ i, q + 5 ≤ i → e i = 0) (ha : 2 ^ s ∣ e q) (hb : e (q + 4) < 2 ^ s) (hm : ∀ i, m ≤ i → e i = 0)
    (h0 : stF e m = 0) : ∀ i, e i = 0 := by
  have hz : stF e (q + 5) = 0 := by
    by_cases hmq : m ≤ q + 5
    · have := stF_more hm h0 (q + 5 - m)
      rwa [Nat.add_sub_cancel' hmq] at this
    · refine stF_tail he h5 (m - (q + 5)) ?_
      rw [Nat.add_sub_cancel' (by omega)]
      exact h0
  have hq := stF_zeros h1 q (Nat.le_refl _)
  have e5 : stF e (q + 5) = cS (cF (stF e q) [e q, e (q + 1), e (q + 2), e (q + 3)]) (e (q + 4)) := rfl
  rw [hq, cF_word, Nat.zero_xor, word_sum (he _) (he _) (he _)] at e5
  rw [e5] at hz
  unfold cS at hz
  have q0 := he q
  have q1 := he (q + 1)
  have q2 := he (q + 2)
  have q3 := he (q + 3)
  have q4 := he (q + 4)
  obtain ⟨W, hW⟩ : ∃ W, e q + 2 ^ 8 * (e (q + 1) + 2 ^ 8 * (e (q + 2) + 2 ^ 8 * e (q + 3))) = W := ⟨_, rfl⟩
  rw [hW] at hz
  have hWl : W < 2 ^ 32 := by omega
  have hw := xor_eq_zero (cit_inj 8 (Nat.xor_lt_two_pow (cit_lt 32 hWl) (by omega)) hz)
  obtain ⟨t, ht⟩ : ∃ t, 32 = s + t := ⟨32 - s, by omega⟩
  obtain ⟨V, hV⟩ : 2 ^ s ∣ W := by
    rw [← hW]
    refine Nat.dvd_add ha (Nat.dvd_trans ?_ (Nat.dvd_mul_right _ _))
    exact Nat.pow_dvd_pow 2 (by omega)
  have hp : (2 : Nat) ^ 32 = 2 ^ s * 2 ^ t := by rw [ht, Nat.pow_add]
  have hVt : V < 2 ^ t := by
    rw [hV, hp] at hWl
    exact Nat.lt_of_mul_lt_mul_left hWl
  have hcV : cit 32 W = cit t V := by rw [ht, cit_add, hV, cit_shift]
  have hc4 := cit_shift t (e (q + 4))
  have h4l : 2 ^ t * e (q + 4) < 2 ^ 32 := by rw [hp, Nat.mul_comm (2 ^ s)]; exact Nat.mul_lt_mul_of_pos_left hb (Nat.two_pow_pos t)
  have hVl : V < 2 ^ 32 := Nat.lt_of_lt_of_le hVt (Nat.pow_le_pow_right (by decide) (by omega))
  have hx : cit t (V ^^^ 2 ^ t * e (q + 4)) = 0 := by rw [cit_xor, hc4, ← hcV, hw, Nat.xor_self]
  have hVe := xor_eq_zero (cit_inj t (Nat.xor_lt_two_pow hVl h4l) hx)
  have z4 : e (q + 4) = 0 := by
    by_cases h : e (q + 4) = 0
    · exact h
    · have : 2 ^ t * 1 ≤ 2 ^ t * e (q + 4) := Nat.mul_le_mul_left _ (by omega)
      omega
  rw [z4, Nat.mul_zero] at hVe
  rw [hVe, Nat.mul_zero] at hV
  intro i
  by_cases h : i < q
  · exact h1 i h
  · by_cases h' : q + 5 ≤ i
    · exact h5 i h'
    · rcases (by omega : i = q ∨ i = q + 1 ∨ i = q + 2 ∨ i = q + 3 ∨ i = q + 4) with rfl | rfl | rfl | rfl | rfl <;> omega
theorem cF_diff : ∀ (n : Nat) (x y : List Nat) (c : Nat), cF c (x.take n) ^^^ cF c (y.take n) = stF (fun i => x.getD i 0 ^^^ y.getD i 0) n ∨ x.length < n ∨ y.length < n
  | 0, x, y, c => .inl (by simp [cF, stF])
  | n + 1, x, y, c => by
    rcases cF_diff n x y c with h | h | h
    · by_cases hx : x.length < n + 1
      · exact .inr (.inl hx)
      by_cases hy : y.length < n + 1
      · exact .inr (.inr hy)
      left
      have ex : x.take (n + 1) = x.take n ++ [x.getD n 0] := by rw [List.take_add_one, List.getD_eq_getElem?_getD, List.getElem?_eq_getElem (by omega)]; rfl
      have ey : y.take (n + 1) = y.take n ++ [y.getD n 0] := by rw [List.take_add_one, List.getD_eq_getElem?_getD, List.getElem?_eq_getElem (by omega)]; rfl
      unfold cF at h ⊢
      rw [ex, ey, List.foldl_append, List.foldl_append, stF, ← h]
      show cS _ _ ^^^ cS _ _ = _
      rw [← cS_xor]
    · exact .inr (.inl (by omega))
    · exact .inr (.inr (by omega))
/-! ### the table's register is that one -/
theorem halves_nat : ∀ i, i < 16 → halves.getD i 0 = ((cit 4 i : Nat) : Int) := by decide
theorem crcStep_nat {x : Nat} (h : x < 2 ^ 32) : crcStep (x : Int) = ((cit 4 x : Nat) : Int) := by
  have hm : x % 16 < 16 := Nat.mod_lt _ (by decide)
  have h1 : rd halves ((x : Int) % 16) = ((cit 4 (x % 16) : Nat) : Int) := by
    unfold rd
    rw [show ((x : Int) % 16).toNat = x % 16 by omega]
    exact halves_nat _ hm
  have h2 := halves_range ((x : Int) % 16)
  unfold crcStep
  rw [h1] at h2 ⊢
  rw [u32_xor _ _ (by omega) (by omega) h2.1 h2.2, show ((x : Int) / 16).toNat = x / 2 ^ 4 by omega, Int.toNat_natCast, show x % 16 = x % 2 ^ 4 from rfl, ← cit_split]
theorem crcIn_nat {c b : Nat} (hc : c < 2 ^ 32) (hb : b < 256) : crcIn (c : Int) (b : Int) = ((cS c b : Nat) : Int) := by
  unfold crcIn
  rw [u32_xor _ _ (by omega) (by omega) (by omega) (by omega), Int.toNat_natCast, Int.toNat_natCast]
  have hx : c ^^^ b < 2 ^ 32 := Nat.xor_lt_two_pow hc (by omega)
  rw [crcStep_nat hx, crcStep_nat (cit_lt 4 hx), ← cit_add]
  rfl
theorem crcAll_nat : ∀ (l : List Int) (c : Nat), c < 2 ^ 32 → inB l → crcAll (c : Int) l = ((cF c (l.map Int.toNat) : Nat) : Int)
  | [], _, _, _ => rfl
  | b :: l, c, hc, h => by
    have hb := h b (by simp)
    obtain ⟨n, rfl⟩ : ∃ n : Nat, b = n := ⟨b.toNat, by omega⟩
    show crcAll (crcIn c n) l = _
    rw [crcIn_nat hc (by omega), crcAll_nat l (cS c n) (cS_lt hc (by omega)) (fun x hx => h x (by simp [hx]))]
    rfl
theorem crc_nat {l : List Int} (h : inB l) : crc l = 4294967295 - ((cF 4294967295 (l.map Int.toNat) : Nat) : Int) := by
  have := crcAll_nat l 4294967295 (by decide) h
  unfold crc crcMore
  rw [← this]
  rfl
/-! ### bursts, plain -/
theorem cF_lt : ∀ (l : List Nat) {c : Nat}, c < 2 ^ 32 → (∀ x ∈ l, x < 256) → cF c l < 2 ^ 32
  | [], _, h, _ => h
  | b :: l, c, h, hb => cF_lt l (c := cS c b) (cS_lt h (hb b (by simp))) (fun x hx => hb x (by simp [hx]))
theorem nat_lt {l : List Int} (h : inB l) : ∀ x ∈ l.map Int.toNat, x < 256 := by
  intro x hx
  obtain ⟨y, hy, rfl⟩ := List.mem_map.1 hx
  have := h y hy
  omega
def dif (x y : List Int) (i : Nat) : Nat := (x.getD i 0).toNat ^^^ (y.getD i 0).toNat
def BurstAt (e : Nat → Nat) (q s : Nat) : Prop := (∀ i, i < q → e i = 0) ∧ (∀ i, q + 5 ≤ i → e i = 0) ∧ 2 ^ s ∣ e q ∧ e (q + 4) < 2 ^ s
def Burst (x y : List Int) : Prop := ∃ q s, s < 8 ∧ BurstAt (dif x y) q s
theorem getD_take' (x : List Int) (n i : Nat) : (x.take n).getD i 0 = if i < n then x.getD i 0 else 0 := by
  rw [List.getD_eq_getElem?_getD, List.getD_eq_getElem?_getD, List.getElem?_take]
  split <;> rfl
theorem getD_drop' (x : List Int) (n i : Nat) : (x.drop n).getD i 0 = x.getD (n + i) 0 := by
  rw [List.getD_eq_getElem?_getD, List.getD_eq_getElem?_getD, List.getElem?_drop]
theorem dif_take (x y : List Int) (n i : Nat) : dif (x.take n) (y.take n) i = if i < n then dif x y i else 0 := by
  unfold dif
  rw [getD_take', getD_take']
  split <;> rfl
theorem dif_drop (x y : List Int) (n i : Nat) : dif (x.drop n) (y.drop n) i = dif x y (n + i) := by
  unfold dif
  rw [getD_drop', getD_drop']
theorem Burst.take {x y : List Int} (h : Burst x y) (n : Nat) : Burst (x.take n) (y.take n) := by
  obtain ⟨q, s, hs, h1, h2, h3, h4⟩ := h
  refine ⟨q, s, hs, fun i hi => ?_, fun i hi => ?_, ?_, ?_⟩
  · rw [dif_take]; split
    · exact h1 i hi
    · rfl
  · rw [dif_take]; split
    · exact h2 i hi
    · rfl
  · rw [dif_take]; split
    · exact h3
    · exact Nat.dvd_zero _
  · rw [dif_take]; split
    · exact h4
    · exact Nat.two_pow_pos s
theorem Burst.drop {x y : List Int} (h : Burst x y) (n : Nat) : Burst (x.drop n) (y.drop n) := by
  obtain ⟨q, s, hs, h1, h2, h3, h4⟩ := h
  by_cases hq : n ≤ q
  · refine ⟨q - n, s, hs, fun i hi => ?_, fun i hi => ?_, ?_, ?_⟩
    · rw [dif_drop]; exact h1 _ (by omega)
    · rw [dif_drop]; exact h2 _ (by omega)
    · rw [dif_drop, Nat.add_sub_cancel' hq]; exact h3
    · rw [dif_drop, show n + (q - n + 4) = q + 4 by omega]; exact h4
  · refine ⟨0, 0, by decide, fun i hi => absurd hi (Nat.not_lt_zero i), fun i hi => ?_, ?_, ?_⟩
    · rw [dif_drop]; exact h2 _ (by omega)
    · rw [Nat.pow_zero]; exact Nat.one_dvd _
    · rw [dif_drop, h2 _ (by omega)]; decide
theorem dif_nat (x y : List Int) (i : Nat) : dif x y i = (x.map Int.toNat).getD i 0 ^^^ (y.map Int.toNat).getD i 0 := by
  unfold dif
  rw [List.getD_eq_getElem?_getD, List.getD_eq_getElem?_getD, List.getD_eq_getElem?_getD, List.getD_eq_getElem?_getD, List.getElem?_map, List.getElem?_map]
  cases x[i]? <;> cases y[i]? <;> rfl
theorem dif_zero {x y : List Int} (hx : inB x) (hy : inB y) (hl : x.length = y.length) (h : ∀ i, dif x y i = 0) : x = y := by
  apply List.ext_getElem? 
  intro i
  by_cases hi : i < x.length
  · have h1 := h i
    unfold dif at h1
    rw [List.getD_eq_getElem?_getD, List.getD_eq_getElem?_getD, List.getElem?_eq_getElem hi, List.getElem?_eq_getElem (by omega : i < y.length)] at h1
    have h2 := xor_eq_zero h1
    have a1 := hx x[i] (List.getElem_mem hi)
    have a2 := hy (y[i]'(by omega)) (List.getElem_mem _)
    rw [List.getElem?_eq_getElem hi, List.getElem?_eq_getElem (by omega : i < y.length)]
    simp only [Option.getD_some] at h2
    congr 1; omega
  · rw [List.getElem?_eq_none (by omega), List.getElem?_eq_none (by omega)]
theorem dif_lt {x y : List Int} (hx : inB x) (hy : inB y) (i : Nat) : dif x y i < 256 := by
  have hb : ∀ {z : List Int}, inB z → (z.getD i 0).toNat < 2 ^ 8 := fun {z} hz => by
    rw [List.getD_eq_getElem?_getD]
    cases e : z[i]? with
    | none => decide
    | some u => have := hz u (List.mem_of_getElem? e); simp only [Option.getD_some]; omega
  exact Nat.xor_lt_two_pow (hb hx) (hb hy)
theorem burst_reg {x y : List Int} (c : Nat) (hx : inB x) (hy : inB y) (hl : x.length = y.length) (hc : cF c (x.map Int.toNat) = cF c (y.map Int.toNat)) (hb : Burst x y) : x = y := by
  obtain ⟨q, s, hs, h1, h2, h3, h4⟩ := hb
  have hd := cF_diff x.length (x.map Int.toNat) (y.map Int.toNat) c
  rw [List.take_of_length_le (by simp), List.take_of_length_le (by simp [hl]), hc, Nat.xor_self] at hd
  have h0 : stF (dif x y) x.length = 0 := by
    have e : dif x y = fun i => (x.map Int.toNat).getD i 0 ^^^ (y.map Int.toNat).getD i 0 := funext fun i => dif_nat x y i
    rw [e]
    rcases hd with h | h | h
    · exact h.symm
    · simp at h
    · simp [hl] at h
  refine dif_zero hx hy hl (burst_stays hs (dif_lt hx hy) h1 h2 h3 h4 (m := x.length) (fun i hi => ?_) h0)
  unfold dif
  rw [List.getD_eq_getElem?_getD, List.getD_eq_getElem?_getD, List.getElem?_eq_none hi, List.getElem?_eq_none (by omega)]; rfl
theorem burst_crc {x y : List Int} (hx : inB x) (hy : inB y) (hl : x.length = y.length) (hc : crc x = crc y) (hb : Burst x y) : x = y := by
  rw [crc_nat hx, crc_nat hy] at hc
  exact burst_reg 4294967295 hx hy hl (by omega) hb
theorem ones_xor {n : Nat} (h : n < 2 ^ 32) : 4294967295 ^^^ n = 4294967295 - n := by
  have e1 := BitVec.allOnes_xor (x := BitVec.ofNat 32 n)
  have e2 := congrArg BitVec.toNat e1
  rw [BitVec.toNat_xor, BitVec.toNat_not, BitVec.toNat_allOnes, BitVec.toNat_ofNat, Nat.mod_eq_of_lt h] at e2
  exact e2
theorem code_reg {x d : List Int} (hx : inB x) (hd : inB d) (h4 : d.length = 4) (hc : crc x = leNum d) : cF 4294967295 ((x ++ d).map Int.toNat) = cit 32 4294967295 := by
  match d, h4 with
  | [d0, d1, d2, d3], _ =>
    have b0 := hd d0 (by simp)
    have b1 := hd d1 (by simp)
    have b2 := hd d2 (by simp)
    have b3 := hd d3 (by simp)
    rw [crc_nat hx] at hc
    have hC := cF_lt (x.map Int.toNat) (c := 4294967295) (by decide) (nat_lt hx)
    have hap : cF 4294967295 ((x ++ [d0, d1, d2, d3]).map Int.toNat) = cF (cF 4294967295 (x.map Int.toNat)) [d0.toNat, d1.toNat, d2.toNat, d3.toNat] := by
      unfold cF; rw [List.map_append, List.foldl_append]; rfl
    rw [hap, cF_word, word_sum (by omega) (by omega) (by omega)]
    obtain ⟨C, hCe⟩ : ∃ C, cF 4294967295 (x.map Int.toNat) = C := ⟨_, rfl⟩
    rw [hCe] at hc hC ⊢
    have hD : d0.toNat + 2 ^ 8 * (d1.toNat + 2 ^ 8 * (d2.toNat + 2 ^ 8 * d3.toNat)) = 4294967295 - C := by
      simp only [leNum] at hc
      omega
    rw [hD, ← ones_xor hC, Nat.xor_comm 4294967295 C, ← Nat.xor_assoc, Nat.xor_self, Nat.zero_xor]
theorem burst_code {x y d e : List Int} (hx : inB x) (hy : inB y) (hd : inB d) (he : inB e) (hl : x.length = y.length) (h4 : d.length = 4) (h4' : e.length = 4) (hc : crc x = leNum d) (hc' : crc y = leNum e) (hb : Burst (x ++ d) (y ++ e)) : x ++ d = y ++ e := by
  refine burst_reg 4294967295 (inB_app hx hd) (inB_app hy he) (by simp [hl, h4, h4']) ?_ hb
  rw [code_reg hx hd h4 hc, code_reg hy he h4' hc']
theorem secs_same : ∀ (ss us : List SE), (∀ s ∈ ss, 0 ≤ s.f0 ∧ s.f0 ≤ 255 ∧ s.f1.length ≤ 65535 ∧ inB s.f1) → (∀ s ∈ us, 0 ≤ s.f0 ∧ s.f0 ≤ 255 ∧ s.f1.length ≤ 65535 ∧ inB s.f1) → ss.length = us.length → (ss.map secB).flatten = (us.map secB).flatten → ss.map entOf = us.map entOf := by
  intro ss us h1 h2 hl he
  have e1 := entriesOf_secs ss [] h1
  have e2 := entriesOf_secs us [] h2
  rw [List.append_nil] at e1 e2
  rw [← e1, ← e2, he, hl]
theorem bodies_same : ∀ (ss us : List SE), (∀ s ∈ ss, inB s.f1) → (∀ s ∈ us, inB s.f1) → ss.map entOf = us.map entOf → Burst (bodies ss) (bodies us) → bodies ss = bodies us
  | [], [], _, _, _, _ => rfl
  | [], u :: us, _, _, h, _ => by simp at h
  | s :: ss, [], _, _, h, _ => by simp at h
  | s :: ss, u :: us, h1, h2, h, hb => by
    rw [List.map_cons, List.map_cons, List.cons.injEq] at h
    obtain ⟨h3, h4⟩ := h
    unfold entOf at h3
    injection h3 with e0 e1 e2
    have hl : s.f1.length = u.f1.length := by omega
    have b1 : bodies (s :: ss) = s.f1 ++ bodies ss := by unfold bodies; rw [List.map_cons, List.flatten_cons]
    have b2 : bodies (u :: us) = u.f1 ++ bodies us := by unfold bodies; rw [List.map_cons, List.flatten_cons]
    rw [b1, b2] at hb ⊢
    have t1 := hb.take s.f1.length
    rw [take_app rfl, take_app hl.symm] at t1
    have t2 := hb.drop s.f1.length
    rw [drop_app rfl, drop_app hl.symm] at t2
    rw [burst_crc (h1 s (by simp)) (h2 u (by simp)) hl e2 t1, bodies_same ss us (fun x hx => h1 x (by simp [hx])) (fun x hx => h2 x (by simp [hx])) h4 t2]
theorem burst_pack {ss us : List SE} (h1 : PackOk ss) (h2 : PackOk us) (hb : Burst (packB ss) (packB us)) : packB ss = packB us := by
  have f1 : ∀ ss : List SE, packB ss = packHd ss.length ++ digs (crc (packHd ss.length)) 4 ++ ((ss.map secB).flatten ++ (digs (crc (packT ss)) 4 ++ bodies ss)) := fun ss => by
    unfold packB
    conv => lhs; unfold packT packH2
    simp only [List.append_assoc]
    rfl
  have f2 : ∀ ss : List SE, packB ss = packT ss ++ digs (crc (packT ss)) 4 ++ bodies ss := fun ss => rfl
  have k1 : ∀ ss : List SE, (packHd ss.length ++ digs (crc (packHd ss.length)) 4).length = 9 := fun ss => packH2_len ss.length
  have c1 : ∀ ss : List SE, leNum (digs (crc (packHd ss.length)) 4) = crc (packHd ss.length) := fun ss => by
    have := crc_range (packHd ss.length) (inB_hd _)
    exact leNum_digs_of this.1 (by omega)
  have c2 : ∀ ss : List SE, leNum (digs (crc (packT ss)) 4) = crc (packT ss) := fun ss => by
    have := crc_range (packT ss) (inB_T _)
    exact leNum_digs_of this.1 (by omega)
  have t1 := hb.take 9
  rw [f1 ss, f1 us, take_app (k1 ss), take_app (k1 us)] at t1
  have hh := burst_code (inB_hd _) (inB_hd _) (inB_digs _ _) (inB_digs _ _) (by rw [packHd_len, packHd_len]) (digs_length _ _) (digs_length _ _) (c1 ss).symm (c1 us).symm t1
  have hn : ss.length = us.length := by
    have h3 := congrArg (fun l => leNum ((l.drop 4).take 1)) hh
    unfold packHd at h3
    rw [List.append_assoc, List.append_assoc, drop_app (show pmagic.length = 4 from rfl), drop_app (show pmagic.length = 4 from rfl), take_app (digs_length _ _), take_app (digs_length _ _)] at h3
    have := h1.len
    have := h2.len
    rw [leNum_digs_of (by omega) (by omega), leNum_digs_of (by omega) (by omega)] at h3
    omega
  have l1 : (packT ss ++ digs (crc (packT ss)) 4).length = 13 + 7 * us.length := by rw [List.length_append, packT_len, digs_length]; omega
  have l2 : (packT us ++ digs (crc (packT us)) 4).length = 13 + 7 * us.length := by rw [List.length_append, packT_len, digs_length]; omega
  have t2 := hb.take (13 + 7 * us.length)
  rw [f2 ss, f2 us, take_app l1, take_app l2] at t2
  have hT := burst_code (inB_T _) (inB_T _) (inB_digs _ _) (inB_digs _ _) (by rw [packT_len, packT_len, hn]) (digs_length _ _) (digs_length _ _) (c2 ss).symm (c2 us).symm t2
  have hT2 : packT ss = packT us := by
    have h3 := congrArg (List.take (9 + 7 * us.length)) hT
    rwa [take_app (by rw [packT_len]; omega), take_app (packT_len us)] at h3
  have hS : (ss.map secB).flatten = (us.map secB).flatten := by
    have h3 := congrArg (List.drop 9) hT2
    unfold packT at h3
    rwa [drop_app (packH2_len _), drop_app (packH2_len _)] at h3
  have g : ∀ {ss : List SE}, PackOk ss → ∀ s ∈ ss, 0 ≤ s.f0 ∧ s.f0 ≤ 255 ∧ s.f1.length ≤ 65535 ∧ inB s.f1 := fun h s hs => by
    have := rising_range _ _ h.rise s.f0 (List.mem_map.2 ⟨s, hs, rfl⟩)
    exact ⟨by omega, by omega, h.long s hs, h.inb s hs⟩
  have hE := secs_same ss us (g h1) (g h2) hn hS
  have t3 := hb.drop (13 + 7 * us.length)
  rw [f2 ss, f2 us, drop_app l1, drop_app l2] at t3
  have hB := bodies_same ss us h1.inb h2.inb hE t3
  rw [f2 ss, f2 us, hT, hB]
theorem burst_unpack {ss : List SE} {c : List Int} (h : PackOk ss) (hc : inB c) (hb : Burst (packB ss) c) (hu : (unpackOf c).1 = 0) : c = packB ss := by
  obtain ⟨h1, h2⟩ := pack_unpack (ss := (unpackOf c).2) hc (by rw [← hu])
  rw [h2] at hb ⊢
  exact (burst_pack h h1 hb).symm
theorem cut_unpack {ss : List SE} {k : Nat} (h : PackOk ss) (hk : k < (packB ss).length) : (unpackOf ((packB ss).take k)).1 ≠ 0 := by
  intro hu
  have hin : inB (packB ss) := inB_app (inB_app (inB_T ss) (inB_digs _ _)) (fun x hx => by
    unfold bodies at hx
    obtain ⟨l, hl, hx⟩ := List.mem_flatten.1 hx
    obtain ⟨s, hs, rfl⟩ := List.mem_map.1 hl
    exact h.inb s hs x hx)
  obtain ⟨h1, h2⟩ := pack_unpack (ss := (unpackOf ((packB ss).take k)).2) (inB_take hin k) (by rw [← hu])
  obtain ⟨us, hus⟩ : ∃ us, (unpackOf ((packB ss).take k)).2 = us := ⟨_, rfl⟩
  rw [hus] at h1 h2
  have h3 := unpack_more h1 (r := (packB ss).drop k) (by rw [List.length_drop]; omega)
  rw [← h2, List.take_append_drop, unpack_pack h] at h3
  cases h3
end Go.Proofs.YtpnjhffnlafabaaGreatDoor.Im
