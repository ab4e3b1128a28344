/- A reader of bytes: New, Part, Take of package le. -/
import Derived.Test.YtiibfboendnifaaDoorSlA
import Derived.Test.YtiibfboendnifaaDoorDkD
import Derived.Test.YtiibfboendnifaaDoorShelf
namespace Go.Proofs.YtiibfboendnifaaDoor.Sl
set_option linter.unusedVariables false
set_option linter.unusedSimpArgs false
open Go.RowKit Go.Proofs.Bk Go.Proofs.Bm Go.Proofs.YtiibfboendnifaaDoor.Dk Go.Proofs.YtiibfboendnifaaDoorW.PrintWords

theorem C_take0 {k : IntKind} {w : World} {A : Option Addr} {n : Nat} {xs : List Int} (h : (Kd.int k).C w A n xs) (m : Nat) (hm : m ≤ n) : (Kd.int k).C w A m (xs.take m) := by
  have hl : xs.length = n := h.1
  refine ⟨by rw [List.length_take]; omega, by have := h.2.1; omega, fun hp => ?_⟩
  obtain ⟨ad, e, hc⟩ := h.2.2 (by omega)
  exact ⟨ad, e, fun j p hj => hc j p (by rw [List.getElem?_take] at hj; split at hj; exact hj; cases hj)⟩
theorem C_drop0 {k : IntKind} {w : World} {A : Option Addr} {n : Nat} {xs : List Int} (h : (Kd.int k).C w A n xs) (m : Nat) (hm : m ≤ n) : (Kd.int k).C w (A.map fun x => x.add m) (n - m) (xs.drop m) := by
  have hl : xs.length = n := h.1
  refine ⟨by rw [List.length_drop]; omega, by have := h.2.1; omega, fun hp => ?_⟩
  obtain ⟨ad, rfl, hc⟩ := h.2.2 (by omega)
  refine ⟨ad.add m, rfl, fun j p hj => ?_⟩
  obtain ⟨c, h1, h2, h3⟩ := hc (m + j) p (by rw [List.getElem?_drop] at hj; exact hj)
  refine ⟨c, h1, h2, fun i u hu => ?_⟩
  have := h3 i u hu
  rw [Addr.add_add, show m + (j * (Kd.int k).sz + i) = (m + j) * (Kd.int k).sz + i from by show m + (j * 1 + i) = (m + j) * 1 + i; omega]
  exact this
theorem add_blk (ad : Addr) (m : Nat) : (ad.add m).block = ad.block := by unfold Addr.add; split <;> rfl
/-- the reader at block r: what is left of the bytes (in block g), how it failed -/
def IsReader (w : World) (r g : Nat) (xs : List Int) (f : Int) : Prop :=
  ∃ A c, w.heap[r]? = some (.cells #[.slice A xs.length c, .int .i64 f] 110 (0, 0)) ∧ xs.length ≤ c ∧ (Kd.int .u8).C w A xs.length xs ∧ (∀ ad, A = some ad → ad.block = g) ∧ r ≠ g

def part (xs : List Int) (f many : Int) : List Int × List Int × Int :=
  if f ≠ 0 then ([], xs, f) else if many < 0 then ([], xs, 1) else if (xs.length : Int) < many then ([], xs, 2) else (xs.take many.toNat, xs.drop many.toNat, 0)
def PartPost (r g : Nat) (xs : List Int) (f many : Int) (w : World) (e : Ending) (w' : World) : Prop :=
  ∃ A n c, e = .returned (.slice A n c) ∧ n ≤ c ∧ (Kd.int .u8).C w' A n (part xs f many).1 ∧ (∀ ad, A = some ad → ad.block = g) ∧ IsReader w' r g (part xs f many).2.1 (part xs f many).2.2 ∧ KeepF (fun k => k = r) w w'

set_option maxHeartbeats 4000000 in
theorem Part_calls (r g : Nat) (xs : List Int) (f many : Int) (w : World) (h : IsReader w r g xs f) :
    Calls Tryd.prog 57 #[.pointer (some ⟨r, 0, none⟩), .int .i64 many] w (PartPost r g xs f many w) := by
  obtain ⟨A, c, hr, hc, hC, hg, hrg⟩ := h
  have c0 : w.cell? ⟨r, 0, none⟩ = some (.slice A xs.length c) := (cell_row hr 0).trans rfl
  have c1 : w.cell? ⟨r, 1, none⟩ = some (.int .i64 f) := (cell_row hr 1).trans rfl
  have f0 : w.frozen? ⟨r, 0, none⟩ = false := frozen_row hr 0
  have f1 : w.frozen? ⟨r, 1, none⟩ = false := frozen_row hr 1
  have hn := hC.2.1
  have keep : ∀ (i : Nat) v w', w' = w.setCell ⟨r, i, none⟩ v → KeepF (fun k => k = r) w w' ∧ (Kd.int .u8).C w' A xs.length xs := by
    rintro i v w' rfl
    have hk := KeepF.setCell w ⟨r, i, none⟩ v
    exact ⟨hk, Kd_C_keep hC (fun ad e _ hb => hrg (hb.symm.trans (hg ad e))) hk⟩
  obtain ⟨n, hnl⟩ : ∃ n, xs.length = n := ⟨_, rfl⟩
  have fail : ∀ q : Int, q ≠ 0 → part xs f many = ([], xs, q) → PartPost r g xs f many w (.returned (.slice none 0 0)) (w.setCell ⟨r, 1, none⟩ (.int .i64 q)) := by
    intro q hq hp
    obtain ⟨k1, k2⟩ := keep 1 (.int .i64 q) _ rfl
    refine ⟨none, 0, 0, rfl, Nat.le_refl _, by rw [hp]; exact Kd.C_nil _ _, (fun ad e => by cases e), ?_, k1⟩
    rw [hp]
    exact ⟨A, c, (heap_set_same hr 1 _).trans rfl, hc, k2, hg, hrg⟩
  by_cases hf : f = 0
  · subst hf
    by_cases h0 : many < 0
    · replace fail := fail 1 (by decide) (by unfold part; rw [if_neg (by simp), if_pos h0])
      replace hr := Aside0.mk hr; replace hc := Aside0.mk hc; replace hC := Aside0.mk hC; replace hg := Aside0.mk hg; replace hrg := Aside0.mk hrg; replace keep := Aside0.mk keep; replace fail := Aside0.mk fail; replace hn := Aside0.mk hn
      go_enter Tryd.func57, Tryd.ntmps57
      go_wp2_with fail
      go_ret
      exact fail.out
    · rw [hnl] at c0 hc hn
      by_cases h1 : (n : Int) < many
      · replace fail := fail 2 (by decide) (by unfold part; rw [if_neg (by simp), if_neg h0, if_pos (by rw [hnl]; exact h1)])
        replace hr := Aside0.mk hr; replace hc := Aside0.mk hc; replace hC := Aside0.mk hC; replace hg := Aside0.mk hg; replace hrg := Aside0.mk hrg; replace keep := Aside0.mk keep; replace fail := Aside0.mk fail; replace hn := Aside0.mk hn; replace hnl := Aside0.mk hnl
        go_enter Tryd.func57, Tryd.ntmps57
        go_wp2_with fail
        go_ret
        exact fail.out
      · obtain ⟨m, rfl⟩ : ∃ m : Nat, many = m := ⟨many.toNat, by omega⟩
        have hm : m ≤ n := by omega
        have hp : part xs 0 m = (xs.take m, xs.drop m, 0) := by unfold part; rw [if_neg (by simp), if_neg h0, if_neg (by rw [hnl]; exact h1), Int.toNat_natCast]
        have fin : ∀ B q, (∀ ad, B = some ad → ad.block = g) → (∀ w', (Kd.int .u8).C w' A n xs → (Kd.int .u8).C w' B (n - m) (xs.drop m)) → n - m ≤ q → PartPost r g xs 0 m w (.returned (.slice A m m)) (w.setCell ⟨r, 0, none⟩ (.slice B (n - m) q)) := by
          intro B q hB hBC hq
          obtain ⟨k1, k2⟩ := keep 0 (.slice B (n - m) q) _ rfl
          rw [hnl] at k2
          refine ⟨A, m, m, rfl, Nat.le_refl _, by rw [hp]; exact C_take0 k2 m hm, hg, ?_, k1⟩
          rw [hp]
          have hd : (xs.drop m).length = n - m := by rw [List.length_drop, hnl]
          exact ⟨B, q, (by rw [hd]; exact (heap_set_same hr 0 _).trans rfl), by rw [hd]; exact hq, by rw [hd]; exact hBC _ k2, hB, hrg⟩
        by_cases hcm : c = m
        · subst hcm
          replace fin := fin A 0 hg (fun w' h => by
            have : xs.drop c = [] := List.drop_of_length_le (by omega)
            rw [this, show n - c = 0 by omega]
            exact ⟨rfl, by omega, fun h => absurd h (Nat.lt_irrefl _)⟩) (by omega)
          rw [show n - c = 0 by omega] at fin
          replace hr := Aside0.mk hr; replace hC := Aside0.mk hC; replace hg := Aside0.mk hg; replace hrg := Aside0.mk hrg; replace keep := Aside0.mk keep; replace fail := Aside0.mk fail; replace hnl := Aside0.mk hnl; replace hp := Aside0.mk hp; replace fin := Aside0.mk fin
          go_enter Tryd.func57, Tryd.ntmps57
          go_wp2_with fail
          go_ret
          exact fin.out
        · replace fin := fin (A.map fun x => x.add m) (c - m) (fun ad e => by
            obtain ⟨a, ha, rfl⟩ := Option.map_eq_some_iff.1 e
            rw [add_blk]; exact hg a ha) (fun w' h => C_drop0 h m hm) (by omega)
          replace hr := Aside0.mk hr; replace hC := Aside0.mk hC; replace hg := Aside0.mk hg; replace hrg := Aside0.mk hrg; replace keep := Aside0.mk keep; replace fail := Aside0.mk fail; replace hnl := Aside0.mk hnl; replace hp := Aside0.mk hp; replace fin := Aside0.mk fin
          go_enter Tryd.func57, Tryd.ntmps57
          go_wp2_with fail
          go_ret
          exact fin.out
  · have hp : part xs f many = ([], xs, f) := by unfold part; rw [if_pos hf]
    have fin : PartPost r g xs f many w (.returned (.slice none 0 0)) w :=
      ⟨none, 0, 0, rfl, Nat.le_refl _, by rw [hp]; exact Kd.C_nil _ _, (fun ad e => by cases e), by rw [hp]; exact ⟨A, c, hr, hc, hC, hg, hrg⟩, KeepF.refl _ _⟩
    have hf' : (f != 0) = true := by simpa using hf
    replace hr := Aside0.mk hr; replace hc := Aside0.mk hc; replace hC := Aside0.mk hC; replace hg := Aside0.mk hg; replace hrg := Aside0.mk hrg; replace keep := Aside0.mk keep; replace fail := Aside0.mk fail; replace hn := Aside0.mk hn; replace hp := Aside0.mk hp; replace fin := Aside0.mk fin
    clear hf
    go_enter Tryd.func57, Tryd.ntmps57
    go_wp2_with fail
    go_ret
    exact fin.out
/-- the number of bytes, the lowest ahead -/
def leNum : List Int → Int
  | [] => 0
  | b :: l => b + 256 * leNum l
def take (xs : List Int) (f : Int) (k : Nat) : Int × List Int × Int := (leNum (part xs f k).1, (part xs f k).2.1, (part xs f k).2.2)
def TakePost (r g : Nat) (xs : List Int) (f : Int) (k : Nat) (w : World) (e : Ending) (w' : World) : Prop :=
  e = .returned (.int .u64 (take xs f k).1) ∧ IsReader w' r g (take xs f k).2.1 (take xs f k).2.2 ∧ KeepF (fun k => k = r) w w'
theorem part_fst_len (xs : List Int) (f many : Int) : ((part xs f many).1.length : Int) ≤ max 0 many := by
  unfold part
  repeat' split
  all_goals simp
  all_goals omega
theorem part_fst_mem (xs : List Int) (f many : Int) : ∀ x ∈ (part xs f many).1, x ∈ xs := by
  unfold part
  repeat' split
  all_goals simp
  exact fun x hx => List.mem_of_mem_take hx
theorem leNum_range : ∀ (l : List Int), (∀ x ∈ l, 0 ≤ x ∧ x ≤ 255) → 0 ≤ leNum l ∧ leNum l < 256 ^ l.length
  | [], _ => by simp [leNum]
  | b :: l, h => by
    have h1 := h b (by simp)
    have h2 := leNum_range l (fun x hx => h x (by simp [hx]))
    unfold leNum
    rw [List.length_cons, Int.pow_succ]
    omega
theorem leNum_take (l : List Int) (j : Nat) (hj : j < l.length) : leNum (l.drop j) = rd l j + 256 * leNum (l.drop (j + 1)) := by
  rw [List.drop_eq_getElem_cons hj]
  show l[j] + 256 * leNum (l.drop (j + 1)) = _
  unfold rd; rw [Int.toNat_natCast, List.getD_eq_getElem?_getD, List.getElem?_eq_getElem hj]; rfl

theorem or_shl (z b : Int) (h0 : 0 ≤ z) (h1 : z < 72057594037927936) (h2 : 0 ≤ b) (h3 : b ≤ 255) : bits BinOp.or IntKind.u64 (IntKind.u64.wrap (z * 256)) (IntKind.u64.wrap b) = b + 256 * z := by
  rw [IntKind.wrap_u64, IntKind.wrap_u64, show z * 256 % 18446744073709551616 = z * 256 by omega, show b % 18446744073709551616 = b by omega]
  rw [bits_join .u64 64 (by decide) (fun n h1 h2 => by rw [IntKind.wrap_u64]; omega) 8 (z * 256) b (by omega) (by omega) (by omega) h2 (by omega) (by omega)]
  omega

set_option maxHeartbeats 4000000 in
set_option maxRecDepth 100000 in
theorem Take_calls (r g : Nat) (xs : List Int) (f width : Int) (k : Nat) (w : World) (h : IsReader w r g xs f) (hb : ∀ x ∈ xs, 0 ≤ x ∧ x ≤ 255) (hw : heldW width = k) (hk : k ≤ 8) :
    Calls Tryd.prog 58 #[.pointer (some ⟨r, 0, none⟩), .int .i64 width] w (TakePost r g xs f k w) := by
  have hfb := Aside0.mk (fun x hx => hb x (part_fst_mem xs f k x hx))
  have hfl : (part xs f k).1.length ≤ 8 := by have := part_fst_len xs f k; omega
  have H := Aside0.mk h
  clear h hb
  go_enter Tryd.func58, Tryd.ntmps58
  go_wp2_with fail
  refine Gl.scope_jumps 0 (fun a' w' => ∃ (z : Int) (A : Option Addr) (n c j : Nat) (u8 u9 u10 u11 u12 u13 u14 u15 u16 u17 u18 u19 u20 u21 u22 u23 u24 u25 u26 : Value), a' = { tmps := #[.pointer (some ⟨r, 0, none⟩), .int .i64 width, undef, undef, .int .u64 0, .slice A n c, .int .u64 z, .int .i64 j, u8, u9, u10, u11, u12, u13, u14, u15, u16, u17, u18, u19, u20, u21, u22, u23, u24, u25, u26], defers := [] } ∧ j ≤ n ∧ n ≤ 8 ∧ n ≤ c ∧ Aside0 (z = leNum ((part xs f k).1.drop j)) ∧
      Aside0 ((Kd.int .u8).C w' A n (part xs f k).1) ∧ Aside0 (IsReader w' r g (part xs f k).2.1 (part xs f k).2.2) ∧ Aside0 (KeepF (fun k => k = r) w w')) (fun a' _ => (intOf (a'.tmps.getD 7 undef)).toNat) rfl ?_ ?_
  · rintro a' w' ⟨z, A, n, c, j, u8, u9, u10, u11, u12, u13, u14, u15, u16, u17, u18, u19, u20, u21, u22, u23, u24, u25, u26, rfl, hj, hn, hc, hzz, hC, hR, hK⟩
    by_cases hz : j = 0
    · subst hz
      go_wp2_with fail
      go_ret
      exact ⟨by rw [hzz.out]; rfl, hR.out, hK.out⟩
    · have hz' : (((j : Nat) : Int) == 0) = false := by simpa using hz
      obtain ⟨i, rfl⟩ : ∃ i, j = i + 1 := ⟨j - 1, by omega⟩
      have e1 : ((i + 1 : Nat) : Int) - 1 = (i : Int) := by omega
      have p1 : 0 ≤ (i : Int) := by omega
      have q1 : (i : Int) < (n : Int) := by omega
      obtain ⟨ad, rfl, x1⟩ := Kd.at_int hC.out i p1 q1
      rw [Int.toNat_natCast] at x1
      have hl : (part xs f k).1.length = n := hC.out.1
      have hr0 := leNum_range _ (fun x hx => hfb.out x (List.mem_of_mem_drop (i := i + 1) hx))
      rw [← hzz.out] at hr0
      obtain ⟨b, hb⟩ : ∃ b, rd (part xs f k).1 i = b := ⟨_, rfl⟩
      rw [hb] at x1
      replace hb := Aside0.mk hb; replace hr0 := Aside0.mk hr0
      go_wp2_with fail
      have hz56 : z < 72057594037927936 := by
        have h1 := hr0.out.2
        have hle : ((part xs f k).1.drop (i + 1)).length ≤ 7 := by rw [List.length_drop]; omega
        have h2 : (256 : Int) ^ ((part xs f k).1.drop (i + 1)).length ≤ 256 ^ 7 := by
          have := Nat.pow_le_pow_right (n := 256) (by decide) hle
          exact_mod_cast this
        have e : (256 : Int) ^ 7 = 72057594037927936 := by decide
        omega
      have hb2 : 0 ≤ b ∧ b ≤ 255 := hfb.out b (by
        rw [← hb.out]; unfold rd; rw [Int.toNat_natCast, List.getD_eq_getElem?_getD, List.getElem?_eq_getElem (by omega)]
        exact List.getElem_mem _)
      rw [or_shl z b hr0.out.1 hz56 hb2.1 hb2.2]
      go_step3
      refine ⟨rfl, ⟨b + 256 * z, _, n, c, i, _, _, _, _, _, _, _, _, _, _, _, _, _, _, _, _, _, _, _, rfl, by omega, hn, hc, ⟨?_⟩, hC, hR, hK⟩, ?_⟩
      · rw [leNum_take _ i (by omega), hb.out, hzz.out]
      · show ((i : Nat) : Int).toNat < ((i + 1 : Nat) : Int).toNat
        omega
  · intro pass
    go_wp2_with fail
    refine (held_calls width w).mono ?_
    rintro e w' ⟨rfl, rfl⟩
    rw [hw]
    go_wp2_with fail
    refine (Part_calls r g xs f k w H.out).mono ?_
    rintro e w1 ⟨A, n, c, rfl, hc, hC, hg, hR, hK⟩
    have hl : (part xs f k).1.length = n := hC.1
    go_wp2_with fail
    go_step3
    rename_i hK0
    refine hK0 _ _ (pass _ _ ⟨0, A, n, c, n, _, _, _, _, _, _, _, _, _, _, _, _, _, _, _, _, _, _, _, rfl, Nat.le_refl _, by omega, hc, ⟨?_⟩, ⟨hC⟩, ⟨hR⟩, ⟨hK⟩⟩)
    rw [List.drop_of_length_le (by omega)]
    rfl

theorem bytes_of_row {w : World} {b n : Nat} {v : Value} {xs : List Int} (h : w.ownsRow b 5 1 v n (byt xs)) (hn : xs.length = n) : ∃ A c, v = .slice A n c ∧ (Kd.int .u8).C w A n xs := by
  subst hn
  obtain ⟨_, h | h⟩ := h
  · obtain ⟨rfl, h0⟩ := h
    have : xs = [] := List.eq_nil_of_length_eq_zero h0
    subst this
    exact ⟨none, 0, rfl, Kd.C_nil _ _⟩
  · obtain ⟨g, cap, cur, rfl, hb, hg, hn, hm, hs, ht⟩ := h
    refine ⟨some ⟨g, 0, none⟩, cap, rfl, ⟨rfl, (by have hml : maxLen ≤ 9223372036854775807 := (by decide); omega), fun hp => ⟨_, rfl, fun j x hj => ⟨[.int .u8 x], rfl, rfl, fun i u hu => ?_⟩⟩⟩⟩
    have hi : i = 0 := by cases i with | zero => rfl | succ i => simp at hu
    subst hi
    simp at hu; subst hu
    show w.cell? ((⟨g, 0, none⟩ : Addr).add (j * 1 + 0)) = _
    rw [addAt, cell_row hg]
    have hj' : j < xs.length := (List.getElem?_eq_some_iff.1 hj).1
    have := congrArg (fun l => l[j]?) ht
    simp only [byt, Nat.mul_one, List.getElem?_take_of_lt hj', List.getElem?_map, hj, Option.map_some, Array.getElem?_toList] at this
    rw [← this]; congr 1; omega
/-- bytes.Clone -/
def ClonePost (A : Option Addr) (xs : List Int) (n : Nat) (w : World) (e : Ending) (w' : World) : Prop :=
  ∃ v, e = .returned v ∧ w'.ownsRow w.heap.size 5 1 v n (byt xs) ∧ (v = .slice none 0 0 ↔ A = none) ∧ Below w.heap.size w w'
theorem Clone_calls (A : Option Addr) (n c : Nat) (xs : List Int) (w : World) (h : (Kd.int .u8).C w A n xs) (hn : n ≤ 140737488355328) :
    Calls Tryd.prog 36 #[.slice A n c] w (ClonePost A xs n w) := by
  cases A with
  | none =>
    have hn0 : n = 0 := by
      apply Decidable.byContradiction; intro hc
      obtain ⟨ad, e, _⟩ := h.2.2 (by omega)
      cases e
    subst hn0
    have : xs = [] := List.eq_nil_of_length_eq_zero h.1
    subst this
    refine (Tryd.bytes_Clone_nil 0 c w).mono ?_
    rintro e w' ⟨rfl, rfl⟩
    exact ⟨_, rfl, own_nil _ _ _ _, by simp, Below.refl _ _⟩
  | some ad =>
    refine (Tryd.bytes_Clone_at ad n c xs w h.1 hn (fun i hi => ?_)).mono ?_
    · obtain ⟨ad', e, hx⟩ := Kd.at_int h (i : Int) (by omega) (by omega)
      injection e with e; subst e
      rw [Int.toNat_natCast] at hx
      rw [hx]; unfold rd; rw [Int.toNat_natCast]
    · rintro e w' ⟨v', rfl, ho, hne, hb⟩
      exact ⟨v', rfl, ho, by simp [hne], hb⟩

def NewRPost (xs : List Int) (w : World) (e : Ending) (w' : World) : Prop :=
  ∃ r g, e = .returned (.pointer (some ⟨r, 0, none⟩)) ∧ IsReader w' r g xs 0 ∧ w.heap.size ≤ r ∧ Below w.heap.size w w' ∧ (0 < xs.length → g < w'.heap.size)
set_option maxHeartbeats 4000000 in
theorem NewR_calls (A : Option Addr) (n c : Nat) (xs : List Int) (w : World) (h : (Kd.int .u8).C w A n xs) (hn : n ≤ 140737488355328) :
    Calls Tryd.prog 56 #[.slice A n c] w (NewRPost xs w) := by
  have H := Aside0.mk h
  clear h
  go_enter Tryd.func56, Tryd.ntmps56
  go_wp2_with fail
  refine (Clone_calls A n c xs w H.out hn).mono ?_
  rintro e w1 ⟨v, rfl, ho, _, hb⟩
  have hnx : xs.length = n := H.out.1
  have hs : ∃ B cB, v = .slice B n cB ∧ n ≤ cB ∧ (Kd.int .u8).C w1 B n xs ∧ (∀ ad, B = some ad → ad.block < w1.heap.size) := by
    obtain ⟨B, cB, rfl, hB⟩ := bytes_of_row ho hnx
    refine ⟨B, cB, rfl, ?_, hB, fun ad e => own_lt ho _ (by rw [e]; rfl)⟩
    rcases ho.2 with ⟨e, h0⟩ | ⟨g, cap, cur, e, _, _, h1, _⟩
    · omega
    · injection e with _ _ e3; omega
  obtain ⟨B, cB, rfl, hcB, hB, hlt⟩ := hs
  replace ho := Aside0.mk ho; replace hb := Aside0.mk hb; replace hB := Aside0.mk hB; replace hlt := Aside0.mk hlt
  go_wp2_with fail
  go_ret
  have hbA := below_alloc (Below.refl w1.heap.size w1) (.cells #[.slice B n cB, .int .i64 0] 110)
  have hg : ∃ g, (∀ ad, B = some ad → ad.block = g) ∧ w1.heap.size ≠ g ∧ (0 < xs.length → g < w1.heap.size) := by
    cases B with
    | none => exact ⟨w1.heap.size + 1, (fun ad e => by cases e), by omega, fun hp => by obtain ⟨ad, e, _⟩ := hB.out.2.2 (by omega); cases e⟩
    | some ad => exact ⟨ad.block, (fun ad' e => by injection e with e; rw [e]), by have := hlt.out ad rfl; omega, fun _ => hlt.out ad rfl⟩
  obtain ⟨g, hg, hne, hgl⟩ := hg
  exact ⟨w1.heap.size, g, rfl, ⟨B, cB, (by rw [hnx]; exact heap_alloc_same _ _), (by rw [hnx]; exact hcB), (by rw [hnx]; exact Kd.C_below hB.out hbA), hg, hne⟩, hb.out.size, below_then hb.out hb.out.size hbA, fun hp => by have := hgl hp; have := hbA.size; omega⟩
end Go.Proofs.YtiibfboendnifaaDoor.Sl
