/- Images, plain: what is packed is unpacked, what is unpacked, packed, is the same bytes; so it is with scenes. -/
import Derived.Test.YtpnjhffnlafabaaGreatDoorVI7
namespace Go.Proofs.YtpnjhffnlafabaaGreatDoor.Im
set_option linter.unusedVariables false
set_option linter.unusedSimpArgs false
open Go.Proofs Go.RowKit Go.Proofs.Bk Go.Proofs.Bm Go.Proofs.Sc Go.Proofs.Kf Go.Proofs.YtpnjhffnlafabaaGreatDoorW.PrintWords Go.Proofs.YtpnjhffnlafabaaGreatDoor.Sl Go.Proofs.YtpnjhffnlafabaaGreatDoor.Sn Go.Proofs.YtpnjhffnlafabaaGreatDoor.PImageBack
theorem inB_take {xs : List Int} (h : inB xs) (k : Nat) : inB (xs.take k) := fun x hx => h x (List.mem_of_mem_take hx)
theorem pow256_le {k j : Nat} (h : k ≤ j) : (256 : Int) ^ k ≤ 256 ^ j := by
  have := Nat.pow_le_pow_right (n := 256) (by decide) h
  have h2 : ((256 ^ k : Nat) : Int) ≤ ((256 ^ j : Nat) : Int) := Int.ofNat_le.2 this
  rwa [Int.natCast_pow, Int.natCast_pow] at h2
theorem leNum_digs : ∀ (k : Nat) (n : Int), leNum (digs n k) = n % 256 ^ k
  | 0, n => by simp [digs, leNum]
  | k + 1, n => by
    rw [digs, leNum, leNum_digs k]
    have hp : (0 : Int) < 256 ^ k := Int.pow_pos (by decide)
    obtain ⟨m, hm⟩ : ∃ m : Int, (256 : Int) ^ k = m := ⟨_, rfl⟩
    rw [Int.pow_succ, hm]
    rw [hm] at hp
    have e1 : n = (n % 256 + 256 * (n / 256 % m)) + (m * 256) * (n / 256 / m) := by
      have a1 := Int.emod_add_mul_ediv n 256
      have a2 := Int.emod_add_mul_ediv (n / 256) m
      have a3 : 256 * (n / 256 % m) + (m * 256) * (n / 256 / m) = 256 * (n / 256 % m + m * (n / 256 / m)) := by
        rw [Int.mul_add, ← Int.mul_assoc, Int.mul_comm m 256]
      omega
    have b1 := Int.emod_nonneg (n / 256) (by omega : m ≠ 0)
    have b2 := Int.emod_lt_of_pos (n / 256) hp
    have e2 : n % (m * 256) = (n % 256 + 256 * (n / 256 % m) + m * 256 * (n / 256 / m)) % (m * 256) := by rw [← e1]
    have e3 := Int.emod_eq_of_lt (a := n % 256 + 256 * (n / 256 % m)) (b := m * 256) (by omega) (by omega)
    rw [e2, Int.add_mul_emod_self_left, e3]
theorem leNum_digs_of {n : Int} {k : Nat} (h0 : 0 ≤ n) (h1 : n < 256 ^ k) : leNum (digs n k) = n := by rw [leNum_digs, Int.emod_eq_of_lt h0 h1]
theorem digs_leNum : ∀ (l : List Int), inB l → digs (leNum l) l.length = l
  | [], _ => rfl
  | b :: l, h => by
    have h1 := h b (by simp)
    have h2 := digs_leNum l (fun x hx => h x (by simp [hx]))
    rw [leNum, List.length_cons, digs, show (b + 256 * leNum l) % 256 = b by omega, show (b + 256 * leNum l) / 256 = leNum l by omega, h2]
theorem digs_mod (n : Int) (k : Nat) : digs (n % 256 ^ k) k = digs n k := by
  have h := digs_leNum (digs n k) (inB_digs n k)
  rw [leNum_digs, digs_length] at h
  exact h
theorem digs_take {l : List Int} (h : inB l) {k : Nat} (hk : k ≤ l.length) : digs (leNum (l.take k)) k = l.take k := by
  have h1 := digs_leNum (l.take k) (inB_take h k)
  rwa [List.length_take, Nat.min_eq_left hk] at h1
theorem wrap64_of {n : Int} (h0 : -9223372036854775808 ≤ n) (h1 : n < 9223372036854775808) : wrap64 n = n := by unfold wrap64; omega
theorem nx_digs {n : Int} {k : Nat} (r : List Int) (hk : k ≤ 7) (h0 : 0 ≤ n) (h1 : n < 256 ^ k) : nx (digs n k ++ r) k = n := by
  have h2 : (256 : Int) ^ k ≤ 256 ^ 7 := pow256_le hk
  have h3 : (256 : Int) ^ 7 = 72057594037927936 := by decide
  unfold nx
  rw [List.take_append_of_le_length (by rw [digs_length]; exact Nat.le_refl _), List.take_of_length_le (by rw [digs_length]; exact Nat.le_refl _), leNum_digs_of h0 h1, wrap64_of (by omega) (by omega)]
theorem nx_digs8 {n : Int} (r : List Int) (h0 : 0 ≤ n) (h1 : n ≤ 9223372036854775807) : nx (digs n 8 ++ r) 8 = n := by
  have h3 : (256 : Int) ^ 8 = 18446744073709551616 := by decide
  unfold nx
  rw [List.take_append_of_le_length (by rw [digs_length]; exact Nat.le_refl _), List.take_of_length_le (by rw [digs_length]; exact Nat.le_refl _), leNum_digs_of h0 (by omega), wrap64_of (by omega) (by omega)]
theorem drop_digs (n : Int) (k : Nat) (r : List Int) : (digs n k ++ r).drop k = r := by
  rw [List.drop_append_of_le_length (by rw [digs_length]; exact Nat.le_refl _), List.drop_of_length_le (by rw [digs_length]; exact Nat.le_refl _), List.nil_append]
theorem digs_nx {l : List Int} (h : inB l) {k : Nat} (hk : k ≤ l.length) (h8 : k ≤ 8) : digs (nx l k) k = l.take k := by
  have h1 := leNum_range (l.take k) (inB_take h k)
  rw [List.length_take, Nat.min_eq_left hk] at h1
  unfold nx
  by_cases hk7 : k ≤ 7
  · have h2 : (256 : Int) ^ k ≤ 256 ^ 7 := pow256_le hk7
    have h3 : (256 : Int) ^ 7 = 72057594037927936 := by decide
    rw [wrap64_of (by omega) (by omega), digs_take h hk]
  · obtain rfl : k = 8 := by omega
    have h3 : (256 : Int) ^ 8 = 18446744073709551616 := by decide
    rw [← digs_mod (wrap64 _), h3]
    have : wrap64 (leNum (l.take 8)) % 18446744073709551616 = leNum (l.take 8) := by unfold wrap64; omega
    rw [this, digs_take h hk]
theorem nx_range {l : List Int} (h : inB l) {k : Nat} (hk : k ≤ 7) : 0 ≤ nx l k ∧ nx l k < 256 ^ k := by
  have h1 := leNum_range (l.take k) (inB_take h k)
  have h4 : (256 : Int) ^ (l.take k).length ≤ 256 ^ k := pow256_le (by rw [List.length_take]; omega)
  have h2 : (256 : Int) ^ k ≤ 256 ^ 7 := pow256_le hk
  have h3 : (256 : Int) ^ 7 = 72057594037927936 := by decide
  unfold nx
  rw [wrap64_of (by omega) (by omega)]
  omega
/-! ### Pack, then Unpack -/
def entOf (s : SE) : EN := ⟨s.f0, s.f1.length, crc s.f1⟩
structure PackOk (ss : List SE) : Prop where
  len : ss.length ≤ 16
  rise : risingL 0 (ss.map (·.f0)) = true
  long : ∀ s ∈ ss, s.f1.length ≤ 65535
  inb : ∀ s ∈ ss, inB s.f1
theorem eRow_secB (s : SE) (r : List Int) (h0 : 0 ≤ s.f0) (h1 : s.f0 ≤ 255) (h2 : s.f1.length ≤ 65535) (h3 : inB s.f1) : eRow (secB s ++ r) = entOf s := by
  have hc := crc_range s.f1 h3
  unfold eRow secB entOf
  rw [List.append_assoc, List.append_assoc, nx_digs _ (by omega) h0 (by omega), drop_digs, nx_digs _ (by omega) (by omega) (by omega)]
  rw [show (3 : Nat) = 1 + 2 from rfl, ← List.drop_drop, drop_digs, drop_digs]
  rw [List.take_append_of_le_length (by rw [digs_length]; exact Nat.le_refl _), List.take_of_length_le (by rw [digs_length]; exact Nat.le_refl _), leNum_digs_of hc.1 hc.2]
theorem drop_secB (s : SE) (r : List Int) : (secB s ++ r).drop 7 = r := by
  rw [List.drop_append_of_le_length (by rw [secB_len]; exact Nat.le_refl _), List.drop_of_length_le (by rw [secB_len]; exact Nat.le_refl _), List.nil_append]
theorem entriesOf_cons (xs : List Int) (k : Nat) : entriesOf xs (k + 1) = eRow xs :: entriesOf (xs.drop 7) k := by
  unfold entriesOf
  rw [List.range_succ_eq_map, List.map_cons, List.map_map, Nat.mul_zero, List.drop_zero]
  congr 1
  apply List.map_congr_left
  intro i _
  show eRow (xs.drop (7 * (i + 1))) = _
  rw [List.drop_drop, show 7 * (i + 1) = 7 + 7 * i by omega]
theorem entriesOf_secs : ∀ (ss : List SE) (r : List Int), (∀ s ∈ ss, 0 ≤ s.f0 ∧ s.f0 ≤ 255 ∧ s.f1.length ≤ 65535 ∧ inB s.f1) → entriesOf ((ss.map secB).flatten ++ r) ss.length = ss.map entOf
  | [], _, _ => rfl
  | s :: ss, r, h => by
    obtain ⟨h0, h1, h2, h3⟩ := h s (by simp)
    rw [List.map_cons, List.flatten_cons, List.length_cons, entriesOf_cons, List.append_assoc, eRow_secB _ _ h0 h1 h2 h3, drop_secB, entriesOf_secs ss r (fun t ht => h t (by simp [ht])), List.map_cons]
theorem partsL_bodies : ∀ (ss : List SE) (r : List Int), partsL (ss.map entOf) (bodies ss ++ r) 0 = (ss.map (·.f1), r, 0)
  | [], r => rfl
  | s :: ss, r => by
    have e : bodies (s :: ss) ++ r = s.f1 ++ (bodies ss ++ r) := by unfold bodies; rw [List.map_cons, List.flatten_cons, List.append_assoc]
    have hp : Sl.part (s.f1 ++ (bodies ss ++ r)) 0 (entOf s).f1 = (s.f1, bodies ss ++ r, 0) := by
      unfold Sl.part entOf
      rw [if_neg (by simp), if_neg (by simp), if_neg (by simp; omega), Int.toNat_natCast, List.take_append_of_le_length (Nat.le_refl _), List.take_length, List.drop_append_of_le_length (Nat.le_refl _), List.drop_length, List.nil_append]
    rw [List.map_cons, partsL, e, hp, partsL_bodies ss r]
    rfl
theorem sumsOk_ent : ∀ ss : List SE, sumsOk (ss.map entOf) (ss.map (·.f1)) = true
  | [] => rfl
  | s :: ss => by
    have := sumsOk_ent ss
    unfold sumsOk at this ⊢
    rw [List.map_cons, List.map_cons, List.zip_cons_cons, List.all_cons, this]
    simp [entOf]
theorem secsZ_ent : ∀ ss : List SE, secsZ (ss.map entOf) (ss.map (·.f1)) = ss
  | [] => rfl
  | s :: ss => by
    have := secsZ_ent ss
    unfold secsZ at this ⊢
    rw [List.map_cons, List.map_cons, List.zip_cons_cons, List.map_cons, this]
    rfl
theorem packHd_len (n : Nat) : (packHd n).length = 5 := by unfold packHd; rw [List.length_append, digs_length]; rfl
theorem packH2_len (n : Nat) : (packH2 n).length = 9 := by unfold packH2; rw [List.length_append, digs_length, packHd_len]
theorem packT_len (ss : List SE) : (packT ss).length = 9 + 7 * ss.length := by unfold packT; rw [List.length_append, packH2_len, secs_len]
theorem take_app {a b : List Int} {k : Nat} (h : a.length = k) : (a ++ b).take k = a := by subst h; rw [List.take_append_of_le_length (Nat.le_refl _), List.take_length]
theorem drop_app {a b : List Int} {k : Nat} (h : a.length = k) : (a ++ b).drop k = b := by subst h; rw [List.drop_append_of_le_length (Nat.le_refl _), List.drop_length, List.nil_append]
theorem inB_T (ss : List SE) : inB (packT ss) := inB_app (inB_h2 _) (inB_secs _)
theorem tableOf_pack (ss : List SE) (r : List Int) (h : PackOk ss) : tableOf (packB ss ++ r) = (0, ss.map entOf, bodies ss ++ r) ∧ 9 ≤ (packB ss ++ r).length ∧ (packB ss ++ r).take 4 = pmagic := by
  have hlen := h.len
  have hT := packT_len ss
  have hc1 := crc_range (packHd ss.length) (inB_hd _)
  have hc2 := crc_range (packT ss) (inB_T _)
  have eA : packB ss ++ r = packT ss ++ (digs (crc (packT ss)) 4 ++ (bodies ss ++ r)) := by unfold packB; simp only [List.append_assoc]
  have eB : packB ss ++ r = packH2 ss.length ++ ((ss.map secB).flatten ++ (digs (crc (packT ss)) 4 ++ (bodies ss ++ r))) := by rw [eA]; unfold packT; simp only [List.append_assoc]
  have eC : packB ss ++ r = packHd ss.length ++ (digs (crc (packHd ss.length)) 4 ++ ((ss.map secB).flatten ++ (digs (crc (packT ss)) 4 ++ (bodies ss ++ r)))) := by rw [eB]; unfold packH2; simp only [List.append_assoc]
  have eD : packB ss ++ r = pmagic ++ (digs ss.length 1 ++ (digs (crc (packHd ss.length)) 4 ++ ((ss.map secB).flatten ++ (digs (crc (packT ss)) 4 ++ (bodies ss ++ r))))) := by rw [eC]; generalize digs (crc (packHd ss.length)) 4 = Z; unfold packHd; simp only [List.append_assoc]
  have hm : manyOf (packB ss ++ r) = ss.length := by
    unfold manyOf
    rw [eD, drop_app (show pmagic.length = 4 from rfl), take_app (digs_length _ _), leNum_digs_of (by omega) (by omega)]
    omega
  have hl : (packB ss ++ r).length = 9 + 7 * ss.length + (4 + (bodies ss ++ r).length) := by rw [eA, List.length_append, hT, List.length_append, digs_length]
  have hk := rising_range _ _ h.rise
  refine ⟨?_, by omega, by rw [eD]; exact take_app rfl⟩
  unfold tableOf
  rw [hm]
  have t1 : leNum (((packB ss ++ r).drop 5).take 4) = crc ((packB ss ++ r).take 5) := by
    rw [eC, drop_app (packHd_len _), take_app (packHd_len _), take_app (digs_length _ _), leNum_digs_of hc1.1 (by omega)]
  have t2 : leNum (((packB ss ++ r).drop (9 + 7 * ss.length)).take 4) = crc ((packB ss ++ r).take (9 + 7 * ss.length)) := by
    rw [eA, drop_app hT, take_app hT, take_app (digs_length _ _), leNum_digs_of hc2.1 (by omega)]
  have t3 : (packB ss ++ r).drop (13 + 7 * ss.length) = bodies ss ++ r := by
    rw [show 13 + 7 * ss.length = (9 + 7 * ss.length) + 4 by omega, ← List.drop_drop, eA, drop_app hT, drop_app (digs_length _ _)]
  have t4 : entriesOf ((packB ss ++ r).drop 9) ss.length = ss.map entOf := by
    rw [eB, drop_app (packH2_len _)]
    exact entriesOf_secs ss _ (fun s hs => by
      have := hk s.f0 (List.mem_map.2 ⟨s, hs, rfl⟩)
      exact ⟨by omega, by omega, h.long s hs, h.inb s hs⟩)
  rw [if_neg (by rw [t1]; simp), if_neg (by omega), if_neg (by omega), if_neg (by rw [t2]; simp), t3, t4]
theorem map_ent_f0 (ss : List SE) : (ss.map entOf).map (·.f0) = ss.map (·.f0) := by rw [List.map_map]; rfl
theorem unpack_pack {ss : List SE} (h : PackOk ss) : unpackOf (packB ss) = (0, ss) := by
  obtain ⟨h1, h2, h3⟩ := tableOf_pack ss [] h
  rw [List.append_nil] at h1 h2 h3
  rw [List.append_nil] at h1
  have hp := partsL_bodies ss []
  rw [List.append_nil] at hp
  unfold unpackOf
  rw [h1]
  simp only [hp]
  rw [if_neg (by omega), if_neg (by simp [h3]), if_neg (by simp), if_neg (by rw [map_ent_f0, h.rise]; simp), if_neg (by simp [endOf]), if_neg (by rw [sumsOk_ent]; simp), secsZ_ent]
/-! ### Unpack, then Pack -/
theorem partsL_err : ∀ (es : List EN) (xs : List Int) (f : Int), f ≠ 0 → (partsL es xs f).2.2 = f
  | [], _, _, _ => rfl
  | e :: es, xs, f, h => by
    have hp : Sl.part xs f e.f1 = ([], xs, f) := by unfold Sl.part; rw [if_pos h]
    rw [partsL, hp]
    exact partsL_err es xs f h
theorem partsL_ok : ∀ (es : List EN) (xs : List Int), (partsL es xs 0).2.2 = 0 → xs = (partsL es xs 0).1.flatten ++ (partsL es xs 0).2.1 ∧ ∀ (i : Nat) (e : EN) (l : List Int), es[i]? = some e → (partsL es xs 0).1[i]? = some l → (l.length : Int) = e.f1
  | [], xs, _ => ⟨rfl, fun i e l h => by simp at h⟩
  | e :: es, xs, h => by
    by_cases h0 : e.f1 < 0
    · have hp : Sl.part xs 0 e.f1 = ([], xs, 1) := by unfold Sl.part; rw [if_neg (by simp), if_pos h0]
      rw [partsL, hp] at h
      have := partsL_err es xs 1 (by decide)
      rw [this] at h; cases h
    · by_cases h1 : (xs.length : Int) < e.f1
      · have hp : Sl.part xs 0 e.f1 = ([], xs, 2) := by unfold Sl.part; rw [if_neg (by simp), if_neg h0, if_pos h1]
        rw [partsL, hp] at h
        have := partsL_err es xs 2 (by decide)
        rw [this] at h; cases h
      · have hp : Sl.part xs 0 e.f1 = (xs.take e.f1.toNat, xs.drop e.f1.toNat, 0) := by unfold Sl.part; rw [if_neg (by simp), if_neg h0, if_neg h1]
        rw [partsL, hp] at h ⊢
        obtain ⟨q1, q2⟩ := partsL_ok es (xs.drop e.f1.toNat) h
        refine ⟨?_, fun i e' l hi hl => ?_⟩
        · simp only [List.flatten_cons, List.append_assoc]
          rw [← q1, List.take_append_drop]
        · cases i with
          | zero =>
            simp at hi hl
            subst hi; subst hl
            rw [List.length_take]; omega
          | succ i => exact q2 i e' l (by simpa using hi) (by simpa using hl)
theorem part_in {xs : List Int} {f m : Int} (h : inB xs) : inB (Sl.part xs f m).1 ∧ inB (Sl.part xs f m).2.1 := by
  unfold Sl.part
  repeat' split
  · exact ⟨fun _ h => by simp at h, h⟩
  · exact ⟨fun _ h => by simp at h, h⟩
  · exact ⟨fun _ h => by simp at h, h⟩
  · exact ⟨inB_take h _, inB_drop h _⟩
theorem partsL_in : ∀ (es : List EN) (xs : List Int) (f : Int), inB xs → ∀ l ∈ (partsL es xs f).1, inB l
  | [], _, _, _, l, h => by simp [partsL] at h
  | e :: es, xs, f, hx, l, h => by
    have hp := part_in (f := f) (m := e.f1) hx
    rw [partsL] at h
    rcases List.mem_cons.1 h with rfl | h
    · exact hp.1
    · exact partsL_in es _ _ hp.2 l h
theorem tableOf_in {b : List Int} (h : inB b) : inB (tableOf b).2.2 := by
  unfold tableOf
  repeat' split
  · exact fun _ h => by simp at h
  · exact fun _ h => by simp at h
  · exact fun _ h => by simp at h
  · exact fun _ h => by simp at h
  · exact inB_drop h _
theorem secB_eRow {xs : List Int} (h : inB xs) (hl : 7 ≤ xs.length) {l : List Int} (h1 : (l.length : Int) = (eRow xs).f1) (h2 : crc l = (eRow xs).f2) : secB ⟨(eRow xs).f0, l⟩ = xs.take 7 := by
  unfold secB
  dsimp only
  rw [h1, h2]
  unfold eRow
  dsimp only
  rw [digs_nx h (by omega) (by omega), digs_nx (inB_drop h 1) (by rw [List.length_drop]; omega) (by omega), digs_take (inB_drop h 3) (by rw [List.length_drop]; omega)]
  have e1 : xs.take 7 = xs.take 1 ++ (xs.drop 1).take 6 := by rw [← List.take_add]
  have e2 : (xs.drop 1).take 6 = (xs.drop 1).take 2 ++ (xs.drop 3).take 4 := by rw [show (6 : Nat) = 2 + 4 from rfl, List.take_add, List.drop_drop]
  rw [e1, e2, List.append_assoc]
theorem secs_entries : ∀ (k : Nat) (xs : List Int) (bs : List (List Int)), inB xs → 7 * k ≤ xs.length → bs.length = k → (∀ (i : Nat) (e : EN) (l : List Int), (entriesOf xs k)[i]? = some e → bs[i]? = some l → (l.length : Int) = e.f1) → sumsOk (entriesOf xs k) bs = true →
    ((secsZ (entriesOf xs k) bs).map secB).flatten = xs.take (7 * k)
  | 0, xs, bs, _, _, _, _, _ => by simp [entriesOf, secsZ]
  | k + 1, xs, [], _, _, h, _, _ => by simp at h
  | k + 1, xs, l :: bs, hx, hl, hb, h1, h2 => by
    rw [entriesOf_cons] at h1 h2 ⊢
    have g1 := h1 0 (eRow xs) l rfl rfl
    have g2 : crc l = (eRow xs).f2 ∧ sumsOk (entriesOf (xs.drop 7) k) bs = true := by
      unfold sumsOk at h2 ⊢
      rw [List.zip_cons_cons, List.all_cons, Bool.and_eq_true, decide_eq_true_iff] at h2
      exact h2
    have ih := secs_entries k (xs.drop 7) bs (inB_drop hx 7) (by rw [List.length_drop]; omega) (by simpa using hb) (fun i e m hi hm => h1 (i + 1) e m (by simpa using hi) (by simpa using hm)) g2.2
    have e0 : secsZ (eRow xs :: entriesOf (xs.drop 7) k) (l :: bs) = ⟨(eRow xs).f0, l⟩ :: secsZ (entriesOf (xs.drop 7) k) bs := rfl
    rw [e0, List.map_cons, List.flatten_cons, ih, secB_eRow hx (by omega) g1 g2.1, show 7 * (k + 1) = 7 + 7 * k by omega, List.take_add]
theorem secsZ_bodies : ∀ (es : List EN) (bs : List (List Int)), es.length = bs.length → (secsZ es bs).map (·.f1) = bs
  | [], [], _ => rfl
  | [], b :: bs, h => by simp at h
  | e :: es, [], h => by simp at h
  | e :: es, b :: bs, h => by
    have := secsZ_bodies es bs (by simpa using h)
    unfold secsZ at this ⊢
    rw [List.zip_cons_cons, List.map_cons, List.map_cons, this]
theorem secsZ_kinds : ∀ (es : List EN) (bs : List (List Int)), es.length = bs.length → (secsZ es bs).map (·.f0) = es.map (·.f0)
  | [], [], _ => rfl
  | [], b :: bs, h => by simp at h
  | e :: es, [], h => by simp at h
  | e :: es, b :: bs, h => by
    have := secsZ_kinds es bs (by simpa using h)
    unfold secsZ at this ⊢
    rw [List.zip_cons_cons, List.map_cons, List.map_cons, this, List.map_cons]
theorem entriesOf_size {xs : List Int} (h : inB xs) {k i : Nat} {e : EN} (he : (entriesOf xs k)[i]? = some e) : 0 ≤ e.f1 ∧ e.f1 ≤ 65535 := by
  unfold entriesOf at he
  rw [List.getElem?_map, Option.map_eq_some_iff] at he
  obtain ⟨j, -, rfl⟩ := he
  have := nx_range (l := (xs.drop (7 * j)).drop 1) (inB_drop (inB_drop h _) 1) (k := 2) (by omega)
  unfold eRow
  dsimp only
  omega
theorem pack_unpack {b : List Int} {ss : List SE} (hb : inB b) (h : unpackOf b = (0, ss)) : PackOk ss ∧ b = packB ss := by
  unfold unpackOf at h
  by_cases h9 : b.length < 9
  · rw [if_pos h9] at h; cases h
  rw [if_neg h9] at h
  by_cases hm : b.take 4 = pmagic
  case neg => rw [if_pos hm] at h; cases h
  rw [if_neg (by simp [hm])] at h
  have htin := tableOf_in hb
  by_cases ht : (tableOf b).1 = 0
  case neg => rw [if_pos ht] at h; exact absurd (congrArg Prod.fst h) ht
  rw [if_neg (by simp [ht])] at h
  have hT : leNum ((b.drop 5).take 4) = crc (b.take 5) ∧ manyOf b ≤ 16 ∧ 13 + 7 * manyOf b ≤ b.length ∧ leNum ((b.drop (9 + 7 * manyOf b)).take 4) = crc (b.take (9 + 7 * manyOf b)) ∧ (tableOf b).2.1 = entriesOf (b.drop 9) (manyOf b) ∧ (tableOf b).2.2 = b.drop (13 + 7 * manyOf b) := by
    unfold tableOf at ht ⊢
    by_cases q1 : leNum ((b.drop 5).take 4) = crc (b.take 5)
    case neg => rw [if_pos q1] at ht; cases ht
    rw [if_neg (by simp [q1])] at ht ⊢
    by_cases q2 : 16 < manyOf b
    · rw [if_pos q2] at ht; cases ht
    rw [if_neg q2] at ht ⊢
    by_cases q3 : b.length < 13 + 7 * manyOf b
    · rw [if_pos q3] at ht; cases ht
    rw [if_neg q3] at ht ⊢
    by_cases q4 : leNum ((b.drop (9 + 7 * manyOf b)).take 4) = crc (b.take (9 + 7 * manyOf b))
    case neg => rw [if_pos q4] at ht; cases ht
    rw [if_neg (by simp [q4])]
    exact ⟨q1, by omega, by omega, q4, rfl, rfl⟩
  obtain ⟨c1, c2, c3, c4, c5, c6⟩ := hT
  rw [c6] at htin
  rw [c5, c6] at h
  obtain ⟨n, hn⟩ : ∃ n, manyOf b = n := ⟨_, rfl⟩
  rw [hn] at c2 c3 c4 htin h
  obtain ⟨es, hes⟩ : ∃ es, entriesOf (b.drop 9) n = es := ⟨_, rfl⟩
  have hel : es.length = n := by rw [← hes, entriesOf_length]
  obtain ⟨P, hP⟩ : ∃ P, partsL es (b.drop (13 + 7 * n)) 0 = P := ⟨_, rfl⟩
  rw [hes, hP] at h
  by_cases hr : risingL 0 (es.map (·.f0)) = true
  case neg => rw [if_pos (by simpa using hr)] at h; cases h
  rw [if_neg (by simp [hr])] at h
  by_cases he : endOf P.2.1 P.2.2 = 0
  case neg => rw [if_pos he] at h; exact absurd (congrArg Prod.fst h) he
  rw [if_neg (by simp [he])] at h
  by_cases hs : sumsOk es P.1 = true
  case neg => rw [if_pos (by simpa using hs)] at h; cases h
  rw [if_neg (by simp [hs])] at h
  have hss : secsZ es P.1 = ss := congrArg Prod.snd h
  have hf : P.2.2 = 0 ∧ P.2.1 = [] := by
    unfold endOf at he
    by_cases hq : P.2.2 = 0 ∧ 0 < P.2.1.length
    · rw [if_pos hq] at he; cases he
    · rw [if_neg hq] at he
      refine ⟨he, ?_⟩
      by_cases hz : 0 < P.2.1.length
      · exact absurd ⟨he, hz⟩ hq
      · exact List.length_eq_zero_iff.1 (by omega)
  have hPl : P.1.length = n := by rw [← hP, partsL_length, hel]
  obtain ⟨k1, k2⟩ := partsL_ok es (b.drop (13 + 7 * n)) (by rw [hP]; exact hf.1)
  rw [hP] at k1 k2
  rw [hf.2, List.append_nil] at k1
  have hbody : ss.map (·.f1) = P.1 := by rw [← hss, secsZ_bodies _ _ (by omega)]
  have hsl : ss.length = n := by have := congrArg List.length hbody; rw [List.length_map] at this; omega
  have hin := partsL_in es (b.drop (13 + 7 * n)) 0 htin
  rw [hP] at hin
  have hsec : (ss.map secB).flatten = (b.drop 9).take (7 * n) := by
    rw [← hss, ← hes]
    rw [← hes] at k2 hs
    exact secs_entries n (b.drop 9) P.1 (inB_drop hb 9) (by rw [List.length_drop]; omega) hPl k2 hs
  have hok : PackOk ss := by
    refine ⟨by omega, ?_, fun s hs' => ?_, fun s hs' => ?_⟩
    · rw [← hss, secsZ_kinds _ _ (by omega)]; exact hr
    · obtain ⟨i, hi⟩ := List.mem_iff_getElem?.1 (List.mem_map.2 ⟨s, hs', rfl⟩ : s.f1 ∈ ss.map (·.f1))
      rw [hbody] at hi
      have hil : i < es.length := by rw [hel, ← hPl]; exact (List.getElem?_eq_some_iff.1 hi).1
      have hei := List.getElem?_eq_getElem hil
      have g1 := k2 i _ _ hei hi
      have g2 := entriesOf_size (inB_drop hb 9) (by rw [hes]; exact hei)
      omega
    · exact hin _ (by rw [← hbody]; exact List.mem_map.2 ⟨s, hs', rfl⟩)
  refine ⟨hok, ?_⟩
  have hd4 : digs (n : Int) 1 = (b.drop 4).take 1 := by
    have h1 := digs_take (inB_drop hb 4) (k := 1) (by rw [List.length_drop]; omega)
    have h2 := leNum_range ((b.drop 4).take 1) (inB_take (inB_drop hb 4) 1)
    have h3 : (n : Int) = leNum ((b.drop 4).take 1) := by rw [← hn]; unfold manyOf; omega
    rw [h3]; exact h1
  have hhd : packHd n = b.take 5 := by
    unfold packHd
    rw [← hm, hd4, show (5 : Nat) = 4 + 1 from rfl, List.take_add]
  have hh2 : packH2 n = b.take 9 := by
    unfold packH2
    rw [hhd, ← c1, digs_take (inB_drop hb 5) (by rw [List.length_drop]; omega), show (9 : Nat) = 5 + 4 from rfl, List.take_add]
  have hT : packT ss = b.take (9 + 7 * n) := by
    unfold packT
    rw [hsl, hh2, hsec, List.take_add]
  unfold packB
  rw [hT, ← c4, digs_take (inB_drop hb _) (by rw [List.length_drop]; omega), ← List.take_add]
  have hbd : bodies ss = b.drop (9 + 7 * n + 4) := by
    unfold bodies
    rw [hbody, ← k1, show 9 + 7 * n + 4 = 13 + 7 * n by omega]
  rw [hbd, List.take_append_drop]
/-! ### scenes out of sections, plain -/
def groupsR (xs ys : List Int) (k : Nat) : List SG := (List.range k).map fun i => groupR (xs.drop (9 * i)) (ys.drop (12 * i))
def tasksR (xs ys : List Int) (k : Nat) : List ST := (List.range k).map fun i => taskR (xs.drop (27 * i)) (ys.drop (8 * i))
def flagOk (xs : List Int) : Bool := decide (nx (xs.drop 9) 1 ≤ 1)
def flagsOk (xs : List Int) (k : Nat) : Bool := (List.range k).all fun i => flagOk (xs.drop (27 * i))
theorem groupsR_succ (xs ys : List Int) (k : Nat) : groupsR xs ys (k + 1) = groupsR xs ys k ++ [groupR (xs.drop (9 * k)) (ys.drop (12 * k))] := by
  unfold groupsR; rw [List.range_succ, List.map_append]; rfl
theorem tasksR_succ (xs ys : List Int) (k : Nat) : tasksR xs ys (k + 1) = tasksR xs ys k ++ [taskR (xs.drop (27 * k)) (ys.drop (8 * k))] := by
  unfold tasksR; rw [List.range_succ, List.map_append]; rfl
theorem flagsOk_succ (xs : List Int) (k : Nat) : flagsOk xs (k + 1) = (flagsOk xs k && flagOk (xs.drop (27 * k))) := by
  unfold flagsOk; rw [List.range_succ, List.all_append]; simp
theorem flagsOk_false {xs : List Int} {k n : Nat} (hk : k < n) (h : flagOk (xs.drop (27 * k)) = false) : flagsOk xs n = false := by
  unfold flagsOk
  rw [List.all_eq_false]
  exact ⟨k, List.mem_range.2 hk, by rw [h]; decide⟩
def decodeS (a b c d : List Int) : Int × List SG × List ST :=
  if a.length ≠ 9 * (a.length / 9) ∨ b.length ≠ 12 * (a.length / 9) ∨ c.length ≠ 27 * (c.length / 27) ∨ d.length ≠ 8 * (c.length / 27) then (5, [], []) else
  if flagsOk c (c.length / 27) = false then (5, [], []) else
  if checkOf ((groupsR a b (a.length / 9)).map gOf) ((tasksR c d (c.length / 27)).map tOf) ≠ 0 then (checkOf ((groupsR a b (a.length / 9)).map gOf) ((tasksR c d (c.length / 27)).map tOf), [], []) else
  (0, groupsR a b (a.length / 9), tasksR c d (c.length / 27))
def decodeL : List SE → Int × List SG × List ST
  | [s0, s1, s2, s3] => if s3.f0 ≠ 4 then (21, [], []) else decodeS s0.f1 s1.f1 s2.f1 s3.f1
  | _ => (21, [], [])
def decodeOf (b : List Int) : Int × List SG × List ST := if (unpackOf b).1 ≠ 0 then ((unpackOf b).1, [], []) else decodeL (unpackOf b).2
/-! ### rows, there and back -/
theorem gB_eq (x : SG) : gB x = digs x.f0 3 ++ (digs x.f1 3 ++ (digs x.f2 3 ++ [])) := rfl
theorem bB_eq (x : SG) : bB x = digs x.f3.f0 3 ++ (digs x.f3.f1 3 ++ (digs x.f3.f2 6 ++ [])) := rfl
theorem tB_eq (x : ST) : tB x = digs x.f0 3 ++ (digs x.f1 3 ++ (digs x.f2 3 ++ (digs (if x.f4 then 1 else 0) 1 ++ (digs x.f5 6 ++ (digs x.f6.f0 8 ++ (digs x.f6.f1 3 ++ [])))))) := rfl
theorem cB_eq (x : ST) : cB x = digs x.f3 8 ++ [] := rfl
theorem gB_length (x : SG) : (gB x).length = 9 := by simp [gB_eq, digs_length]
theorem bB_length (x : SG) : (bB x).length = 12 := by simp [bB_eq, digs_length]
theorem tB_length (x : ST) : (tB x).length = 27 := by simp [tB_eq, digs_length]
theorem cB_length (x : ST) : (cB x).length = 8 := by simp [cB_eq, digs_length]
structure GoodG (x : SG) : Prop where
  f0 : 0 ≤ x.f0 ∧ x.f0 ≤ 1048576
  f1 : 0 ≤ x.f1 ∧ x.f1 ≤ 1048576
  f2 : 0 ≤ x.f2 ∧ x.f2 ≤ 1048576
  g0 : 0 ≤ x.f3.f0 ∧ x.f3.f0 ≤ 1048576
  g1 : 0 ≤ x.f3.f1 ∧ x.f3.f1 ≤ 1048576
  g2 : 0 ≤ x.f3.f2 ∧ x.f3.f2 ≤ 1099511627776
structure GoodT (x : ST) : Prop where
  f0 : 0 ≤ x.f0 ∧ x.f0 ≤ 1048576
  f1 : 0 ≤ x.f1 ∧ x.f1 ≤ 1048576
  f2 : 0 ≤ x.f2 ∧ x.f2 ≤ 1048576
  f3 : 0 ≤ x.f3 ∧ x.f3 ≤ 18446744073709551615
  f5 : 0 ≤ x.f5 ∧ x.f5 ≤ 1099511627776
  g0 : 0 ≤ x.f6.f0 ∧ x.f6.f0 ≤ 2305843009213693952
  g1 : 0 ≤ x.f6.f1 ∧ x.f6.f1 ≤ 1048576
theorem drop_dd (xs : List Int) (i j k : Nat) (h : k = i + j) : xs.drop k = (xs.drop i).drop j := by subst h; rw [List.drop_drop]
theorem groupR_gB {x : SG} (h : GoodG x) (r s : List Int) : groupR (gB x ++ r) (bB x ++ s) = x := by
  obtain ⟨h0, h1, h2, h3, h4, h5⟩ := h
  obtain ⟨a, b, c, ⟨d, e, f⟩⟩ := x
  unfold groupR
  rw [gB_eq, bB_eq]
  simp only [List.append_assoc, List.nil_append] at *
  rw [drop_dd _ 3 3 6 rfl, drop_dd _ 3 3 6 rfl]
  simp only [drop_digs]
  rw [nx_digs _ (by omega) h0.1 (by omega), nx_digs _ (by omega) h1.1 (by omega), nx_digs _ (by omega) h2.1 (by omega), nx_digs _ (by omega) h3.1 (by omega), nx_digs _ (by omega) h4.1 (by omega), nx_digs _ (by omega) h5.1 (by omega)]
theorem taskR_tB {x : ST} (h : GoodT x) (r s : List Int) : taskR (tB x ++ r) (cB x ++ s) = x ∧ flagOk (tB x ++ r) = true := by
  obtain ⟨h0, h1, h2, h3, h4, h5, h6⟩ := h
  obtain ⟨a, b, c, d, e, f, ⟨g, i⟩⟩ := x
  unfold taskR flagOk
  rw [tB_eq, cB_eq]
  simp only [List.append_assoc, List.nil_append] at *
  obtain ⟨X, hX⟩ : ∃ X, X = digs a 3 ++ (digs b 3 ++ (digs c 3 ++ (digs (if e = true then 1 else 0) 1 ++ (digs f 6 ++ (digs g 8 ++ (digs i 3 ++ r)))))) := ⟨_, rfl⟩
  have d3 : X.drop 3 = digs b 3 ++ (digs c 3 ++ (digs (if e = true then 1 else 0) 1 ++ (digs f 6 ++ (digs g 8 ++ (digs i 3 ++ r))))) := by rw [hX, drop_digs]
  have d6 : X.drop 6 = digs c 3 ++ (digs (if e = true then 1 else 0) 1 ++ (digs f 6 ++ (digs g 8 ++ (digs i 3 ++ r)))) := by rw [drop_dd X 3 3 6 rfl, d3, drop_digs]
  have d9 : X.drop 9 = digs (if e = true then 1 else 0) 1 ++ (digs f 6 ++ (digs g 8 ++ (digs i 3 ++ r))) := by rw [drop_dd X 6 3 9 rfl, d6, drop_digs]
  have d10 : X.drop 10 = digs f 6 ++ (digs g 8 ++ (digs i 3 ++ r)) := by rw [drop_dd X 9 1 10 rfl, d9, drop_digs]
  have d16 : X.drop 16 = digs g 8 ++ (digs i 3 ++ r) := by rw [drop_dd X 10 6 16 rfl, d10, drop_digs]
  have d24 : X.drop 24 = digs i 3 ++ r := by rw [drop_dd X 16 8 24 rfl, d16, drop_digs]
  rw [← hX, d3, d6, d9, d10, d16, d24, hX]
  have hq : (0 : Int) ≤ (if e = true then 1 else 0) ∧ (if e = true then (1 : Int) else 0) < 256 ^ 1 := by cases e <;> decide
  have e8 : (256 : Int) ^ 8 = 18446744073709551616 := by decide
  rw [nx_digs _ (by omega) h0.1 (by omega), nx_digs _ (by omega) h1.1 (by omega), nx_digs _ (by omega) h2.1 (by omega), nx_digs _ (by omega) hq.1 hq.2, nx_digs _ (by omega) h4.1 (by omega), nx_digs8 _ h5.1 (by omega), nx_digs _ (by omega) h6.1 (by omega)]
  rw [take_app (digs_length _ _), leNum_digs_of h3.1 (by omega)]
  cases e <;> exact ⟨rfl, rfl⟩
theorem groupsR_cons (xs ys : List Int) (k : Nat) : groupsR xs ys (k + 1) = groupR xs ys :: groupsR (xs.drop 9) (ys.drop 12) k := by
  unfold groupsR
  rw [List.range_succ_eq_map, List.map_cons, List.map_map]
  simp only [Nat.mul_zero, List.drop_zero]
  congr 1
  apply List.map_congr_left
  intro i _
  show groupR (xs.drop (9 * (i + 1))) (ys.drop (12 * (i + 1))) = _
  rw [List.drop_drop, List.drop_drop, show 9 * (i + 1) = 9 + 9 * i by omega, show 12 * (i + 1) = 12 + 12 * i by omega]
theorem tasksR_cons (xs ys : List Int) (k : Nat) : tasksR xs ys (k + 1) = taskR xs ys :: tasksR (xs.drop 27) (ys.drop 8) k := by
  unfold tasksR
  rw [List.range_succ_eq_map, List.map_cons, List.map_map]
  simp only [Nat.mul_zero, List.drop_zero]
  congr 1
  apply List.map_congr_left
  intro i _
  show taskR (xs.drop (27 * (i + 1))) (ys.drop (8 * (i + 1))) = _
  rw [List.drop_drop, List.drop_drop, show 27 * (i + 1) = 27 + 27 * i by omega, show 8 * (i + 1) = 8 + 8 * i by omega]
theorem flagsOk_cons (xs : List Int) (k : Nat) : flagsOk xs (k + 1) = (flagOk xs && flagsOk (xs.drop 27) k) := by
  unfold flagsOk
  rw [List.range_succ_eq_map, List.all_cons, List.all_map, Nat.mul_zero, List.drop_zero]
  congr 2
  funext i
  show flagOk (xs.drop (27 * (i + 1))) = _
  rw [List.drop_drop, show 27 * (i + 1) = 27 + 27 * i by omega]
theorem groupsR_of : ∀ (xs : List SG), (∀ x ∈ xs, GoodG x) → groupsR ((xs.map gB).flatten) ((xs.map bB).flatten) xs.length = xs
  | [], _ => rfl
  | x :: xs, h => by
    rw [List.map_cons, List.map_cons, List.flatten_cons, List.flatten_cons, List.length_cons, groupsR_cons, groupR_gB (h x (by simp)), drop_app (gB_length x), drop_app (bB_length x), groupsR_of xs (fun y hy => h y (by simp [hy]))]
theorem tasksR_of : ∀ (xs : List ST), (∀ x ∈ xs, GoodT x) → tasksR ((xs.map tB).flatten) ((xs.map cB).flatten) xs.length = xs ∧ flagsOk ((xs.map tB).flatten) xs.length = true
  | [], _ => ⟨rfl, rfl⟩
  | x :: xs, h => by
    have h1 := taskR_tB (h x (by simp))
    obtain ⟨i1, i2⟩ := tasksR_of xs (fun y hy => h y (by simp [hy]))
    rw [List.map_cons, List.map_cons, List.flatten_cons, List.flatten_cons, List.length_cons, tasksR_cons, flagsOk_cons, (h1 _ _).1, (h1 _ []).2, drop_app (tB_length x), drop_app (cB_length x), i1, i2]
    exact ⟨rfl, rfl⟩
theorem flat_len {α : Type} {f : α → List Int} {k : Nat} (hf : ∀ x, (f x).length = k) : ∀ l : List α, ((l.map f).flatten).length = k * l.length
  | [] => rfl
  | x :: l => by rw [List.map_cons, List.flatten_cons, List.length_append, hf, flat_len hf l, List.length_cons, Nat.mul_succ]; omega
theorem decode_encode {xs : List SG} {ts : List ST} {bs : List Int} (ho : ∀ t ∈ ts, 0 ≤ t.f3 ∧ t.f3 ≤ 18446744073709551615) (h : encodeOf xs ts = (0, bs)) :
    decodeOf bs = (0, xs, ts) ∧ PackOk (secsOf xs ts) ∧ bs = packB (secsOf xs ts) ∧ checkOf (xs.map gOf) (ts.map tOf) = 0 := by
  unfold encodeOf at h
  by_cases hc : checkOf (xs.map gOf) (ts.map tOf) = 0
  case neg => rw [if_pos hc] at h; exact absurd (congrArg Prod.fst h) hc
  rw [if_neg (by simp [hc])] at h
  have hok : PackOk (secsOf xs ts) ∧ packB (secsOf xs ts) = bs := by
    unfold packOf at h
    by_cases h1 : 16 < (secsOf xs ts).length
    · rw [if_pos h1] at h; cases h
    rw [if_neg h1] at h
    by_cases h2 : risingL 0 ((secsOf xs ts).map (·.f0)) = true
    case neg => rw [if_pos (by simpa using h2)] at h; cases h
    rw [if_neg (by simp [h2])] at h
    by_cases h3 : (secsOf xs ts).any longE = true
    · rw [if_pos h3] at h; cases h
    rw [if_neg h3] at h
    refine ⟨⟨by omega, h2, fun s hs => ?_, secs_inB xs ts⟩, congrArg Prod.snd h⟩
    have h4 : longE s = false := by
      rw [Bool.not_eq_true, List.any_eq_false] at h3
      simpa using h3 s hs
    unfold longE at h4
    simpa using h4
  obtain ⟨hok, rfl⟩ := hok
  refine ⟨?_, hok, rfl, hc⟩
  have F := (fine_iff _ _).1 hc
  have hg : ∀ x ∈ xs, GoodG x := fun x hx => by
    obtain ⟨a, b, c, d, e, f⟩ := G_pos F (List.mem_map.2 ⟨x, hx, rfl⟩)
    exact ⟨a, b, c, d, e, f⟩
  have ht : ∀ x ∈ ts, GoodT x := fun x hx => by
    obtain ⟨a, b, c, d, e, f⟩ := T_pos F (List.mem_map.2 ⟨x, hx, rfl⟩)
    exact ⟨a, b, c, ho x hx, d, e, f⟩
  unfold decodeOf
  rw [unpack_pack hok]
  dsimp only
  rw [if_neg (by simp)]
  unfold secsOf decodeL
  dsimp only
  rw [if_neg (by simp)]
  unfold decodeS
  have l1 := flat_len gB_length xs
  have l2 := flat_len bB_length xs
  have l3 := flat_len tB_length ts
  have l4 := flat_len cB_length ts
  obtain ⟨t1, t2⟩ := tasksR_of ts ht
  rw [l1, l2, l3, l4, Nat.mul_div_cancel_left _ (by decide), Nat.mul_div_cancel_left _ (by decide), groupsR_of xs hg, t1, t2]
  rw [if_neg (by simp), if_neg (by simp), if_neg (by simp [hc])]
theorem packOf_ok {ss : List SE} (h : PackOk ss) : packOf ss = (0, packB ss) := by
  unfold packOf
  have h1 := h.len
  rw [if_neg (by omega), if_neg (by rw [h.rise]; simp), if_neg]
  rw [Bool.not_eq_true, List.any_eq_false]
  intro s hs
  have := h.long s hs
  simp [longE]; omega
theorem bodies_len (xs : List SG) (ts : List ST) : (packB (secsOf xs ts)).length = 41 + 21 * xs.length + 35 * ts.length := by
  have l1 := flat_len gB_length xs
  have l2 := flat_len bB_length xs
  have l3 := flat_len tB_length ts
  have l4 := flat_len cB_length ts
  have h1 := packT_len (secsOf xs ts)
  have h2 : (secsOf xs ts).length = 4 := rfl
  have h3 : (bodies (secsOf xs ts)).length = 21 * xs.length + 35 * ts.length := by
    unfold bodies secsOf
    simp only [List.map_cons, List.map_nil, List.flatten_cons, List.flatten_nil, List.length_append, List.length_nil]
    rw [l1, l2, l3, l4]; omega
  unfold packB
  rw [List.length_append, List.length_append, digs_length, h1, h2, h3]; omega
end Go.Proofs.YtpnjhffnlafabaaGreatDoor.Im
