/- Plain: what commits and deletes leave on a disk, and what Open finds there. -/
import Derived.Test.YtiibfboendnifaaDoorSl2
namespace Go.Proofs.YtiibfboendnifaaDoor.Sl
set_option linter.unusedVariables false
set_option linter.unusedSimpArgs false
open Go.RowKit Go.Proofs.Bk Go.Proofs.Bm Go.Proofs.YtiibfboendnifaaDoor.Dk Go.Proofs.YtiibfboendnifaaDoorW.PrintWords

/-! ### numbers as bytes, and back -/
theorem leNum_digs : ∀ (k : Nat) (n : Int), 0 ≤ n → n < 256 ^ k → leNum (digs n k) = n
  | 0, n, h0, h1 => by simp at h1; unfold digs leNum; omega
  | k + 1, n, h0, h1 => by
    have hp : (256 : Int) ^ (k + 1) = 256 ^ k * 256 := Int.pow_succ ..
    unfold digs leNum
    rw [leNum_digs k (n / 256) (by omega) (by
      rw [hp] at h1
      exact Int.ediv_lt_of_lt_mul (by decide) h1)]
    omega

theorem put_take (h : Hd) : (pad h.put).take 21 = h.b2 := by
  have e : h.put = h.b2 ++ digs (crc h.b2) 4 := rfl
  unfold pad
  rw [e, List.append_assoc, List.take_append_of_le_length (by rw [h.b2_length]; decide), List.take_of_length_le (by rw [h.b2_length]; decide)]
theorem b2_drop4 (h : Hd) : h.b2.drop 4 = digs h.age 8 ++ (digs (if h.has then 1 else 0) 1 ++ (digs h.img.length 4 ++ digs h.chk 4)) := by
  have e : h.b2 = magic ++ (digs h.age 8 ++ (digs (if h.has then 1 else 0) 1 ++ (digs h.img.length 4 ++ digs h.chk 4))) := by
    unfold Hd.b2 Hd.b1; simp only [List.append_assoc]
  rw [e, List.drop_append_of_le_length (by decide), show magic.drop 4 = [] from rfl, List.nil_append]
theorem pow8 : (256 : Int) ^ 8 = 18446744073709551616 := by decide
theorem pow4 : (256 : Int) ^ 4 = 4294967296 := by decide
theorem raw_put (h : Hd) (ho : h.Ok) : rawAge (pad h.put) = h.age ∧ rawHas (pad h.put) = h.has ∧ rawMany (pad h.put) = h.img.length := by
  have l8 := digs_length 8 h.age
  have l1 := digs_length 1 (if h.has then 1 else 0)
  have l4 := digs_length 4 (h.img.length : Int)
  obtain ⟨a0, a1, hb, hn⟩ := ho
  have d1 : (h.b2.drop 4).drop 8 = digs (if h.has then 1 else 0) 1 ++ (digs h.img.length 4 ++ digs h.chk 4) := by
    rw [b2_drop4, List.drop_append_of_le_length (by omega), List.drop_of_length_le (by omega), List.nil_append]
  have d2 : ((h.b2.drop 4).drop 8).drop 1 = digs h.img.length 4 ++ digs h.chk 4 := by
    rw [d1, List.drop_append_of_le_length (by omega), List.drop_of_length_le (by omega), List.nil_append]
  refine ⟨?_, ?_, ?_⟩
  · unfold rawAge
    rw [put_take, b2_drop4, List.take_append_of_le_length (by omega), List.take_of_length_le (by omega), leNum_digs 8 _ a0 (by rw [pow8]; omega), IntKind.wrap_i64]
    omega
  · unfold rawHas
    rw [put_take, d1, List.take_append_of_le_length (by omega), List.take_of_length_le (by omega)]
    cases h.has <;> rfl
  · unfold rawMany
    rw [put_take, d2, List.take_append_of_le_length (by omega), List.take_of_length_le (by omega), leNum_digs 4 _ (by omega) (by rw [pow4]; omega)]

/-! ### sectors -/
theorem runOf_cons (D : Dsk) (i : Nat) : ∀ k, runOf D i (k + 1) = D.sec (i : Int) ++ runOf D (i + 1) k
  | 0 => by unfold runOf runOf; simp
  | k + 1 => by
    rw [runOf, runOf_cons D i k, List.append_assoc]
    congr 1
    rw [runOf, show i + 1 + k = i + (k + 1) by omega]
theorem runOf_congr {D D' : Dsk} {i : Nat} : ∀ k, (∀ j : Nat, i ≤ j → j < i + k → D.sec (j : Int) = D'.sec (j : Int)) → runOf D i k = runOf D' i k
  | 0, _ => rfl
  | k + 1, h => by rw [runOf, runOf, runOf_congr k (fun j h1 h2 => h j h1 (by omega)), h (i + k) (by omega) (by omega)]
theorem told_congr {D D' : Dsk} (hl : D'.kept.length = D.kept.length) (slot : Nat) (h0 : D'.sec (slot : Int) = D.sec (slot : Int)) (h : ∀ j : Nat, fromOf D slot ≤ j → j < fromOf D slot + halfOf D → D'.sec (j : Int) = D.sec (j : Int)) : toldOf D' slot = toldOf D slot := by
  have hh : halfOf D' = halfOf D := by unfold halfOf; rw [hl]
  have hf : fromOf D' slot = fromOf D slot := by unfold fromOf; rw [hh]
  have hr : runOf D' (fromOf D slot) (halfOf D) = runOf D (fromOf D slot) (halfOf D) := runOf_congr _ h
  have e1 : rawHd D' slot = rawHd D slot := by unfold rawHd; rw [h0, hf, hh, hr]
  have e2 : Bad D' slot = Bad D slot := by unfold Bad; rw [h0, hh]
  unfold toldOf
  rw [e1, h0]
  by_cases hb : Bad D slot
  · rw [if_pos hb, if_pos (by rw [e2]; exact hb)]
  · rw [if_neg hb, if_neg (by rw [e2]; exact hb)]

/-- slot's head is h, and its image is there -/
structure Holds (D : Dsk) (slot : Nat) (h : Hd) : Prop where
  sec : D.sec (slot : Int) = pad h.put
  img : (runOf D (fromOf D slot) (halfOf D)).take h.img.length = h.img
  ok : h.Ok
  age : 1 ≤ h.age
  mod : h.age % 2 = slot
  len : h.img.length ≤ 64 * halfOf D
  has : 0 < h.img.length → h.has = true
theorem Holds.told {D : Dsk} {slot : Nat} {h : Hd} (H : Holds D slot h) : toldOf D slot = h := by
  obtain ⟨r1, r2, r3⟩ := raw_put h H.ok
  have e : rawHd D slot = h := by
    unfold rawHd
    rw [H.sec, r1, r2, r3, Int.toNat_natCast, H.img]
  have hb : ¬ Bad D slot := by
    unfold Bad
    rw [H.sec, r1, r2, r3]
    have h1 := H.age; have h2 := H.ok.a1; have h3 := H.mod; have h4 := H.len; have h5 := H.has
    rintro (h | h | h | h | ⟨h, h'⟩)
    · omega
    · omega
    · exact h h3
    · omega
    · have := h5 (by omega); rw [this] at h'; cases h'
  unfold toldOf
  rw [if_neg hb, e, if_pos H.sec]
end Go.Proofs.YtiibfboendnifaaDoor.Sl
