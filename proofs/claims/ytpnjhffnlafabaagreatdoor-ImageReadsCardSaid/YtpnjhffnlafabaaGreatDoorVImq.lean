/- Images, plain: what differs by a burst of up to 32 bits isn't unpacked, nor what is cut off. -/
import Derived.Test.YtpnjhffnlafabaaGreatDoorVImp
import Derived.Laws.BitsAllLaws
namespace Go.Proofs.YtpnjhffnlafabaaGreatDoor.Im
set_option linter.unusedVariables false
set_option linter.unusedSimpArgs false
open Go.Proofs Go.RowKit Go.Proofs.Bk Go.Proofs.Bm Go.Proofs.Sc Go.Proofs.Kf Go.Proofs.YtpnjhffnlafabaaGreatDoorW.PrintWords Go.Proofs.YtpnjhffnlafabaaGreatDoor.Sl Go.Proofs.YtpnjhffnlafabaaGreatDoor.Sn Go.Proofs.YtpnjhffnlafabaaGreatDoor.PImageBack
/-! ### the register, bit by bit -/
def cst (x : Nat) : Nat := x / 2 ^^^ (if x % 2 = 1 then 3988292384 else 0)
def cit : Nat → Nat → Nat
  | 0, x => x
  | n + 1, x => cit n (cst x)
theorem cit_add (n : Nat) : ∀ (m x : Nat), cit (m + n) x = cit n (cit m x)
  | 0, x => by rw [Nat.zero_add]; rfl
  | m + 1, x => by rw [Nat.add_right_comm]; exact cit_add n m (cst x)
theorem xor4 (a b c d : Nat) : (a ^^^ b) ^^^ (c ^^^ d) = (a ^^^ c) ^^^ (b ^^^ d) := by
  rw [Nat.xor_assoc, Nat.xor_assoc, ← Nat.xor_assoc b, Nat.xor_comm b c, Nat.xor_assoc c]
theorem half_xor (x y : Nat) : (x ^^^ y) / 2 = x / 2 ^^^ y / 2 := by
  have := Nat.shiftRight_xor_distrib (a := x) (b := y) (i := 1)
  simpa [Nat.shiftRight_succ] using this
theorem cst_xor (x y : Nat) : cst (x ^^^ y) = cst x ^^^ cst y := by
  unfold cst
  rw [half_xor, xor4]
  congr 1
  have h : decide ((x ^^^ y) % 2 = 1) = (decide (x % 2 = 1) ^^ decide (y % 2 = 1)) := by
    have := Nat.testBit_xor x y 0
    simpa only [Nat.testBit_zero] using this
  by_cases hx : x % 2 = 1 <;> by_cases hy : y % 2 = 1
  · rw [if_pos hx, if_pos hy, if_neg (by simp [hx, hy]), Nat.xor_self]
  · rw [if_pos hx, if_neg hy, if_pos (by simp [hx, hy]), Nat.xor_zero]
  · rw [if_neg hx, if_pos hy, if_pos (by simp [hx, hy]), Nat.zero_xor]
  · rw [if_neg hx, if_neg hy, if_neg (by simp [hx, hy]), Nat.xor_self]
theorem cit_xor : ∀ (n x y : Nat), cit n (x ^^^ y) = cit n x ^^^ cit n y
  | 0, _, _ => rfl
  | n + 1, x, y => by show cit n (cst (x ^^^ y)) = _; rw [cst_xor, cit_xor n]; rfl
theorem cst_lt {x : Nat} (h : x < 2 ^ 32) : cst x < 2 ^ 32 := by
  unfold cst
  refine Nat.xor_lt_two_pow (by omega) ?_
  split <;> decide
theorem cit_lt : ∀ (n : Nat) {x : Nat}, x < 2 ^ 32 → cit n x < 2 ^ 32
  | 0, _, h => h
  | n + 1, _, h => cit_lt n (cst_lt h)
theorem cst_two (y : Nat) : cst (2 * y) = y := by
  unfold cst
  rw [if_neg (by omega), Nat.xor_zero]; omega
theorem cit_shift : ∀ (n y : Nat), cit n (2 ^ n * y) = y
  | 0, y => by simp [cit]
  | n + 1, y => by
    show cit n (cst (2 ^ (n + 1) * y)) = y
    rw [Nat.pow_succ, Nat.mul_comm (2 ^ n) 2, Nat.mul_assoc, cst_two, cit_shift n]
theorem split_xor (n x : Nat) : x = 2 ^ n * (x / 2 ^ n) ^^^ x % 2 ^ n := by
  apply Nat.eq_of_testBit_eq
  intro i
  rw [Nat.testBit_xor, Nat.testBit_two_pow_mul, Nat.testBit_mod_two_pow, Nat.testBit_div_two_pow]
  by_cases h : i < n
  · simp [h, Nat.not_le_of_lt h]
  · have h1 : n ≤ i := by omega
    simp [h, h1, Nat.sub_add_cancel h1]
theorem cit_split (n x : Nat) : cit n x = x / 2 ^ n ^^^ cit n (x % 2 ^ n) := by
  conv => lhs; rw [split_xor n x]
  rw [cit_xor, cit_shift]
def cS (c b : Nat) : Nat := cit 8 (c ^^^ b)
theorem cS_lt {c b : Nat} (hc : c < 2 ^ 32) (hb : b < 256) : cS c b < 2 ^ 32 := cit_lt 8 (Nat.xor_lt_two_pow hc (by omega))
def cF (c : Nat) (l : List Nat) : Nat := l.foldl cS c
/-! ### the table's register is that one -/
theorem halves_nat : ∀ i, i < 16 → halves.getD i 0 = ((cit 4 i : Nat) : Int) := by decide
theorem crcStep_nat {x : Nat} (h : x < 2 ^ 32) : crcStep (x : Int) = ((cit 4 x : Nat) : Int) := by
  have hm : x % 16 < 16 := Nat.mod_lt _ (by decide)
  have h1 : rd halves ((x : Int) % 16) = ((cit 4 (x % 16) : Nat) : Int) := by
    unfold rd
    rw [show ((x : Int) % 16).toNat = x % 16 by omega]
    exact halves_nat _ hm
  have h2 := halves_range ((x : Int) % 16)
  unfold crcStep
  rw [h1] at h2 ⊢
  rw [u32_xor _ _ (by omega) (by omega) h2.1 h2.2, show ((x : Int) / 16).toNat = x / 2 ^ 4 by omega, Int.toNat_natCast, show x % 16 = x % 2 ^ 4 from rfl, ← cit_split]
theorem crcIn_nat {c b : Nat} (hc : c < 2 ^ 32) (hb : b < 256) : crcIn (c : Int) (b : Int) = ((cS c b : Nat) : Int) := by
  unfold crcIn
  rw [u32_xor _ _ (by omega) (by omega) (by omega) (by omega), Int.toNat_natCast, Int.toNat_natCast]
  have hx : c ^^^ b < 2 ^ 32 := Nat.xor_lt_two_pow hc (by omega)
  rw [crcStep_nat hx, crcStep_nat (cit_lt 4 hx), ← cit_add]
  rfl
theorem crcAll_nat : ∀ (l : List Int) (c : Nat), c < 2 ^ 32 → inB l → crcAll (c : Int) l = ((cF c (l.map Int.toNat) : Nat) : Int)
  | [], _, _, _ => rfl
  | b :: l, c, hc, h => by
    have hb := h b (by simp)
    obtain ⟨n, rfl⟩ : ∃ n : Nat, b = n := ⟨b.toNat, by omega⟩
    show crcAll (crcIn c n) l = _
    rw [crcIn_nat hc (by omega), crcAll_nat l (cS c n) (cS_lt hc (by omega)) (fun x hx => h x (by simp [hx]))]
    rfl
theorem crc_nat {l : List Int} (h : inB l) : crc l = 4294967295 - ((cF 4294967295 (l.map Int.toNat) : Nat) : Int) := by
  have := crcAll_nat l 4294967295 (by decide) h
  unfold crc crcMore
  rw [← this]
  rfl
/-! ### bursts, plain -/
theorem cF_lt : ∀ (l : List Nat) {c : Nat}, c < 2 ^ 32 → (∀ x ∈ l, x < 256) → cF c l < 2 ^ 32
  | [], _, h, _ => h
  | b :: l, c, h, hb => cF_lt l (c := cS c b) (cS_lt h (hb b (by simp))) (fun x hx => hb x (by simp [hx]))
theorem nat_lt {l : List Int} (h : inB l) : ∀ x ∈ l.map Int.toNat, x < 256 := by
  intro x hx
  obtain ⟨y, hy, rfl⟩ := List.mem_map.1 hx
  have := h y hy
  omega
def dif (x y : List Int) (i : Nat) : Nat := (x.getD i 0).toNat ^^^ (y.getD i 0).toNat
def BurstAt (e : Nat → Nat) (q s : Nat) : Prop := (∀ i, i < q → e i = 0) ∧ (∀ i, q + 5 ≤ i → e i = 0) ∧ 2 ^ s ∣ e q ∧ e (q + 4) < 2 ^ s
def Burst (x y : List Int) : Prop := ∃ q s, s < 8 ∧ BurstAt (dif x y) q s
theorem getD_take' (x : List Int) (n i : Nat) : (x.take n).getD i 0 = if i < n then x.getD i 0 else 0 := by
  rw [List.getD_eq_getElem?_getD, List.getD_eq_getElem?_getD, List.getElem?_take]
  split <;> rfl
theorem getD_drop' (x : List Int) (n i : Nat) : (x.drop n).getD i 0 = x.getD (n + i) 0 := by
  rw [List.getD_eq_getElem?_getD, List.getD_eq_getElem?_getD, List.getElem?_drop]
theorem dif_take (x y : List Int) (n i : Nat) : dif (x.take n) (y.take n) i = if i < n then dif x y i else 0 := by
  unfold dif
  rw [getD_take', getD_take']
  split <;> rfl
theorem dif_drop (x y : List Int) (n i : Nat) : dif (x.drop n) (y.drop n) i = dif x y (n + i) := by
  unfold dif
  rw [getD_drop', getD_drop']
theorem Burst.take {x y : List Int} (h : Burst x y) (n : Nat) : Burst (x.take n) (y.take n) := by
  obtain ⟨q, s, hs, h1, h2, h3, h4⟩ := h
  refine ⟨q, s, hs, fun i hi => ?_, fun i hi => ?_, ?_, ?_⟩
  · rw [dif_take]; split
    · exact h1 i hi
    · rfl
  · rw [dif_take]; split
    · exact h2 i hi
    · rfl
  · rw [dif_take]; split
    · exact h3
    · exact Nat.dvd_zero _
  · rw [dif_take]; split
    · exact h4
    · exact Nat.two_pow_pos s
theorem Burst.drop {x y : List Int} (h : Burst x y) (n : Nat) : Burst (x.drop n) (y.drop n) := by
  obtain ⟨q, s, hs, h1, h2, h3, h4⟩ := h
  by_cases hq : n ≤ q
  · refine ⟨q - n, s, hs, fun i hi => ?_, fun i hi => ?_, ?_, ?_⟩
    · rw [dif_drop]; exact h1 _ (by omega)
    · rw [dif_drop]; exact h2 _ (by omega)
    · rw [dif_drop, Nat.add_sub_cancel' hq]; exact h3
    · rw [dif_drop, show n + (q - n + 4) = q + 4 by omega]; exact h4
  · refine ⟨0, 0, by decide, fun i hi => absurd hi (Nat.not_lt_zero i), fun i hi => ?_, ?_, ?_⟩
    · rw [dif_drop]; exact h2 _ (by omega)
    · rw [Nat.pow_zero]; exact Nat.one_dvd _
    · rw [dif_drop, h2 _ (by omega)]; decide
end Go.Proofs.YtpnjhffnlafabaaGreatDoor.Im
