/- Plain: the check tells a bit that was turned over. -/
import Derived.Test.YtiibfboendnifaaDoorSlU
namespace Go.Proofs.YtiibfboendnifaaDoor.Sl
set_option linter.unusedVariables false
set_option linter.unusedSimpArgs false
open Go.RowKit Go.Proofs.Bk Go.Proofs.Bm Go.Proofs.YtiibfboendnifaaDoor.Dk Go.Proofs.YtiibfboendnifaaDoorW.PrintWords

theorem xor_cancel (a b c : Nat) (h : c ^^^ a = c ^^^ b) : a = b := by
  have := congrArg (fun x => c ^^^ x) h
  simpa [← Nat.xor_assoc] using this
theorem xor32_inj_r (a b c : Int) (ha : 0 ≤ a ∧ a < 4294967296) (hb : 0 ≤ b ∧ b < 4294967296) (hc : 0 ≤ c ∧ c < 4294967296) (h : bits BinOp.xor IntKind.u32 c a = bits BinOp.xor IntKind.u32 c b) : a = b := by
  rw [u32_xor c a hc.1 hc.2 ha.1 ha.2, u32_xor c b hc.1 hc.2 hb.1 hb.2] at h
  have := xor_cancel a.toNat b.toNat c.toNat (by omega)
  omega
theorem xor32_inj_l (a b c : Int) (ha : 0 ≤ a ∧ a < 4294967296) (hb : 0 ≤ b ∧ b < 4294967296) (hc : 0 ≤ c ∧ c < 4294967296) (h : bits BinOp.xor IntKind.u32 a c = bits BinOp.xor IntKind.u32 b c) : a = b := by
  rw [u32_xor a c ha.1 ha.2 hc.1 hc.2, u32_xor b c hb.1 hb.2 hc.1 hc.2] at h
  have h2 : c.toNat ^^^ a.toNat = c.toNat ^^^ b.toNat := by rw [Nat.xor_comm c.toNat, Nat.xor_comm c.toNat]; omega
  have := xor_cancel a.toNat b.toNat c.toNat h2
  omega
theorem halves_top : ∀ i j : Fin 16, (rd halves i.val).toNat / 268435456 = (rd halves j.val).toNat / 268435456 → i = j := by decide +kernel
theorem xor_top (a b : Nat) (ha : a < 268435456) : (a ^^^ b) / 268435456 = b / 268435456 := by
  have e : ∀ x : Nat, x / 268435456 = x >>> 28 := fun x => by rw [Nat.shiftRight_eq_div_pow]
  rw [e, e, Nat.shiftRight_xor_distrib, ← e a, Nat.div_eq_of_lt ha, Nat.zero_xor]
theorem crcStep_inj (x y : Int) (hx : 0 ≤ x ∧ x < 4294967296) (hy : 0 ≤ y ∧ y < 4294967296) (h : crcStep x = crcStep y) : x = y := by
  have rx := halves_range (x % 16); have ry := halves_range (y % 16)
  have h' := h
  unfold crcStep at h'
  rw [u32_xor _ _ (by omega) (by omega) rx.1 rx.2, u32_xor _ _ (by omega) (by omega) ry.1 ry.2] at h'
  have h2 : (x / 16).toNat ^^^ (rd halves (x % 16)).toNat = (y / 16).toNat ^^^ (rd halves (y % 16)).toNat := by omega
  have h3 : ((x / 16).toNat ^^^ (rd halves (x % 16)).toNat) / 268435456 = ((y / 16).toNat ^^^ (rd halves (y % 16)).toNat) / 268435456 := by rw [h2]
  rw [xor_top _ _ (by omega), xor_top _ _ (by omega)] at h3
  have h4 := halves_top ⟨(x % 16).toNat, by omega⟩ ⟨(y % 16).toNat, by omega⟩ (by
    show (rd halves ((x % 16).toNat : Nat)).toNat / _ = (rd halves ((y % 16).toNat : Nat)).toNat / _
    rw [show (((x % 16).toNat : Nat) : Int) = x % 16 by omega, show (((y % 16).toNat : Nat) : Int) = y % 16 by omega]
    exact h3)
  have h5 : (x % 16).toNat = (y % 16).toNat := congrArg Fin.val h4
  have h6 : x % 16 = y % 16 := by omega
  unfold crcStep at h
  rw [h6] at h
  have h7 := xor32_inj_l (x / 16) (y / 16) _ (by omega) (by omega) ry h
  omega
theorem crcIn_inj_c (c c' b : Int) (hc : 0 ≤ c ∧ c < 4294967296) (hc' : 0 ≤ c' ∧ c' < 4294967296) (hb : 0 ≤ b ∧ b ≤ 255) (h : crcIn c b = crcIn c' b) : c = c' := by
  have h1 := xor_range c b hc.1 hc.2 hb.1 (by omega)
  have h2 := xor_range c' b hc'.1 hc'.2 hb.1 (by omega)
  exact xor32_inj_l c c' b hc hc' ⟨hb.1, by omega⟩ (crcStep_inj _ _ h1 h2 (crcStep_inj _ _ (crcStep_range _ h1.1 h1.2) (crcStep_range _ h2.1 h2.2) h))
theorem crcIn_inj_b (c b b' : Int) (hc : 0 ≤ c ∧ c < 4294967296) (hb : 0 ≤ b ∧ b ≤ 255) (hb' : 0 ≤ b' ∧ b' ≤ 255) (h : crcIn c b = crcIn c b') : b = b' := by
  have h1 := xor_range c b hc.1 hc.2 hb.1 (by omega)
  have h2 := xor_range c b' hc.1 hc.2 hb'.1 (by omega)
  exact xor32_inj_r b b' c ⟨hb.1, by omega⟩ ⟨hb'.1, by omega⟩ hc (crcStep_inj _ _ h1 h2 (crcStep_inj _ _ (crcStep_range _ h1.1 h1.2) (crcStep_range _ h2.1 h2.2) h))
theorem crcAll_inj : ∀ (l : List Int) (c c' : Int), (0 ≤ c ∧ c < 4294967296) → (0 ≤ c' ∧ c' < 4294967296) → (∀ x ∈ l, 0 ≤ x ∧ x ≤ 255) → crcAll c l = crcAll c' l → c = c'
  | [], c, c', _, _, _, h => h
  | b :: l, c, c', hc, hc', hl, h => by
    have hb := hl b (by simp)
    exact crcIn_inj_c c c' b hc hc' hb (crcAll_inj l _ _ (crcIn_range c b hc hb) (crcIn_range c' b hc' hb) (fun x hx => hl x (by simp [hx])) h)
theorem crcAll_set : ∀ (l : List Int) (c : Int) (j : Nat) (v : Int), (0 ≤ c ∧ c < 4294967296) → (∀ x ∈ l, 0 ≤ x ∧ x ≤ 255) → (0 ≤ v ∧ v ≤ 255) → j < l.length → crcAll c (l.set j v) = crcAll c l → l.getD j 0 = v
  | [], c, j, v, _, _, _, hj, _ => by simp at hj
  | b :: l, c, 0, v, hc, hl, hv, hj, h => by
    have hb := hl b (by simp)
    have := crcAll_inj l _ _ (crcIn_range c v hc hv) (crcIn_range c b hc hb) (fun x hx => hl x (by simp [hx])) h
    exact (crcIn_inj_b c v b hc hv hb this).symm
  | b :: l, c, j + 1, v, hc, hl, hv, hj, h => by
    have hb := hl b (by simp)
    have := crcAll_set l (crcIn c b) j v (crcIn_range c b hc hb) (fun x hx => hl x (by simp [hx])) hv (by simpa using hj) h
    simpa using this
theorem crc_set (l : List Int) (j : Nat) (v : Int) (hl : ∀ x ∈ l, 0 ≤ x ∧ x ≤ 255) (hv : 0 ≤ v ∧ v ≤ 255) (hj : j < l.length) (h : crc (l.set j v) = crc l) : l.getD j 0 = v := by
  unfold crc crcMore at h
  exact crcAll_set l (4294967295 - 0) j v (by omega) hl hv hj (by omega)

/-! ### a disk's bit turned over -/
theorem rot_sec {n : Nat} {D : Dsk} (hF : Fine n D) (hw : D.waits = []) {i : Nat} (hi : i < n) {k : Nat} (hk : k < 512) :
    Fine n (D.rot (i : Int) (k : Int)) ∧ (D.rot (i : Int) (k : Int)).waits = [] ∧ ∀ j : Nat, (D.rot (i : Int) (k : Int)).sec (j : Int) = if j = i then (D.sec (i : Int)).set (k / 8) (flip ((D.sec (i : Int)).getD (k / 8) 0) (k % 8)) else D.sec (j : Int) := by
  have e : D.rot (i : Int) (k : Int) = { D with kept := D.kept.set i (turned (D.kept.getD i []) (k : Int)) } := by
    unfold Dsk.rot
    rw [if_pos ⟨has_of hF.len hi, by omega, by omega⟩, Int.toNat_natCast]
  have hw2 : (D.rot (i : Int) (k : Int)).waits = [] := by rw [e]; exact hw
  refine ⟨hF.rot _ _, hw2, fun j => ?_⟩
  rw [sec_nowait hw2, sec_nowait hw, sec_nowait hw, e]
  show (D.kept.set i _).getD j [] = _
  have hl : i < D.kept.length := by rw [hF.len]; exact hi
  simp only [List.getD_eq_getElem?_getD, List.getElem?_set]
  by_cases hji : j = i
  · subst hji
    rw [if_pos rfl, if_pos hl, if_pos rfl]
    have e1 : ((k : Int).tdiv 8).toNat = k / 8 := by rw [Int.tdiv_eq_ediv_of_nonneg (by omega)]; omega
    have e2 : ((k : Int).tmod 8).toNat = k % 8 := by rw [Int.tmod_eq_emod_of_nonneg (by omega)]; omega
    unfold turned
    rw [e1, e2]
    simp [List.getD_eq_getElem?_getD]
  · rw [if_neg (fun h => hji h.symm), if_neg hji]
theorem rot_rot {n : Nat} {D : Dsk} (hF : Fine n D) (hw : D.waits = []) {i : Nat} (hi : i < n) {k : Nat} (hk : k < 512) (hs : Sec (D.sec (i : Int))) : (D.rot (i : Int) (k : Int)).rot (i : Int) (k : Int) = D := by
  have hl : i < D.kept.length := by rw [hF.len]; exact hi
  have e : ∀ D : Dsk, D.kept.length = n → D.rot (i : Int) (k : Int) = { D with kept := D.kept.set i (turned (D.kept.getD i []) (k : Int)) } := fun D hD => by
    unfold Dsk.rot
    rw [if_pos ⟨has_of hD hi, by omega, by omega⟩, Int.toNat_natCast]
  rw [e _ (hF.rot _ _).len, e D hF.len]
  rw [sec_nowait hw] at hs
  obtain ⟨s, hs'⟩ : ∃ s, D.kept.getD i [] = s := ⟨_, rfl⟩
  rw [hs'] at hs ⊢
  have h1 : (D.kept.set i (turned s (k : Int))).getD i [] = turned s (k : Int) := by simp [List.getD_eq_getElem?_getD, hl]
  show { D with kept := (D.kept.set i (turned s (k : Int))).set i (turned ((D.kept.set i (turned s (k : Int))).getD i []) (k : Int)) } = D
  have h2 : turned (turned s (k : Int)) (k : Int) = s := by
    have e1 : ((k : Int).tdiv 8).toNat = k / 8 := by rw [Int.tdiv_eq_ediv_of_nonneg (by omega)]; omega
    have e2 : ((k : Int).tmod 8).toNat = k % 8 := by rw [Int.tmod_eq_emod_of_nonneg (by omega)]; omega
    have hlt : k / 8 < s.length := by rw [hs.1]; omega
    have hv : s.getD (k / 8) 0 = s[k / 8] := by simp [List.getD_eq_getElem?_getD, hlt]
    have hr := hs.2 _ (List.getElem_mem hlt)
    have hf := (flip_spec (s[k / 8]) (k % 8) hr.1 hr.2 (by omega)).1
    unfold turned
    rw [e1, e2, hv]
    simp [List.getD_eq_getElem?_getD, hlt, hf]
  rw [h1, h2, List.set_set]
  have h3 : D.kept.set i s = D.kept := by
    apply List.ext_getElem?
    intro j
    rw [List.getElem?_set]
    split
    · rename_i hij; subst hij; rw [← hs', List.getD_eq_getElem?_getD, List.getElem?_eq_getElem hl]; rfl
    · rfl
  rw [h3]
end Go.Proofs.YtiibfboendnifaaDoor.Sl
