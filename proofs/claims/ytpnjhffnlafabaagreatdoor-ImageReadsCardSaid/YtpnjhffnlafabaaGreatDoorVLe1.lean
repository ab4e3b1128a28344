/- Numbers as bytes: Put of package le. A reader of bytes: New, Part, Take of package le. The check of package crc: in, More, Of, over the table that the program's start lays. -/
import Derived.Test.YtpnjhffnlafabaaGreatDoorVKf
import Derived.Test.YtpnjhffnlafabaaGreatDoorVOp
import Derived.Test.YtpnjhffnlafabaaGreatDoorVW
import Derived.Deep.QuietTactic
import Derived.BigQuiet
import Derived.StillTailTactics
import Derived.OwnWalkIn
import Derived.WalkSpells
import Derived.WalkLawsBesides
import Derived.Test.YtpnjhffnlafabaaGreatDoorVGl
import Derived.Lib.AppendZerosOnto
import Derived.Laws.AppendOwn
import Derived.Test.YtpnjhffnlafabaaGreatDoorVShelf
import Derived.Laws.BitsAllLaws
import Derived.Lib.SmallJoins
namespace Go.Proofs.YtpnjhffnlafabaaGreatDoor.Sl
set_option linter.unusedVariables false
set_option linter.unusedSimpArgs false
attribute [local go_sem] Go.Proofs.YtpnjhffnlafabaaGreatDoorW.PrintMore.max2_int Go.Proofs.YtpnjhffnlafabaaGreatDoorW.PrintMore.min2_int Go.Proofs.YtpnjhffnlafabaaGreatDoorW.PrintMore.max_two Go.Proofs.YtpnjhffnlafabaaGreatDoorW.PrintMore.min_two
open Go.RowKit Go.Proofs.Bk Go.Proofs.Bm Go.Proofs.Kf Go.Proofs.YtpnjhffnlafabaaGreatDoorW.PrintWords
def byt (s : List Int) : List Value := s.map (Value.int .u8)
theorem byt_length (s : List Int) : (byt s).length = s.length := by simp [byt]
theorem byt_one {s : List Int} : ∀ v ∈ byt s, v.oneCell' = true := by
  intro v hv
  obtain ⟨x, _, rfl⟩ := List.mem_map.1 hv
  rfl
theorem heap_set_same {w : World} {g : Nat} {cs : Array Value} {t : TypeId} (h : w.heap[g]? = some (.cells cs t (0, 0))) (i : Nat) (v : Value) : (w.setCell ⟨g, i, none⟩ v).heap[g]? = some (.cells (cs.setIfInBounds i v) t (0, 0)) := setCell_row h i v
theorem Kd_C_keep {k : IntKind} {F : Nat → Prop} {w w' : World} {A : Option Addr} {n : Nat} {xs : List Int} (h : Kd.C (Kd.int k) w A n xs) (hf : ∀ ad, A = some ad → 0 < n → ¬ F ad.block) (hk : KeepF F w w') : Kd.C (Kd.int k) w' A n xs := by
  refine ⟨h.1, h.2.1, fun hn => ?_⟩
  obtain ⟨ad, e, hc⟩ := h.2.2 hn
  refine ⟨ad, e, fun j p hj => ?_⟩
  obtain ⟨c, h1, h2, h3⟩ := hc j p hj
  refine ⟨c, h1, h2, fun i u hu => ?_⟩
  have h4 := h3 i u hu
  have hb : (ad.add (j * (Kd.int k).sz + i)).block = ad.block := by unfold Addr.add; split <;> rfl
  have hlt := World.block_lt_of_cell? w _ h4
  rw [hb] at hlt
  exact (World.cell?_of_block (w := w) (w' := w') (by rw [hb]; exact hk.block _ hlt (hf ad e hn))).trans h4
def heldW (n : Int) : Int := max 1 (min n 8)
set_option maxHeartbeats 1000000 in
theorem held_calls (n : Int) (w : World) : Calls Tryz.prog 65 #[.int .i64 n] w fun e w' => e = .returned (.int .i64 (heldW n)) ∧ w = w' := by
  by_cases h1 : 8 < n
  · have e : heldW n = 8 := by unfold heldW; omega
    rw [e]; clear e
    go_enter Tryz.func65, Tryz.ntmps65
    go_wp2
    go_ret
    exact ⟨rfl, rfl⟩
  · by_cases h2 : 1 < n
    · have e : heldW n = n := by unfold heldW; omega
      rw [e]; clear e
      go_enter Tryz.func65, Tryz.ntmps65
      go_wp2
      go_ret
      exact ⟨rfl, rfl⟩
    · have e : heldW n = 1 := by unfold heldW; omega
      rw [e]; clear e
      go_enter Tryz.func65, Tryz.ntmps65
      go_wp2
      go_ret
      exact ⟨rfl, rfl⟩
def digs : Int → Nat → List Int
  | _, 0 => []
  | n, k + 1 => n % 256 :: digs (n / 256) k
theorem digs_length : ∀ (k : Nat) (n : Int), (digs n k).length = k
  | 0, _ => rfl
  | k + 1, n => by simp [digs, digs_length k]
theorem digs_range : ∀ (k : Nat) (n : Int), ∀ x ∈ digs n k, 0 ≤ x ∧ x ≤ 255
  | 0, _ => by intro x hx; simp [digs] at hx
  | k + 1, n => by
    intro x hx
    rcases List.mem_cons.1 hx with rfl | hx
    · omega
    · exact digs_range k _ x hx
def Out (w : World) (base : Nat) (v : Value) (xs : List Int) : Prop :=
  w.ownsRow base 5 1 v xs.length (byt xs) ∨ ∃ ad, v = .slice (some ad) xs.length xs.length ∧ ∀ j u, (byt xs)[j]? = some u → w.cell? (ad.add j) = some u
theorem info_u8 : (Tryz.prog.info? 5).map (fun i => (i.zero, i.size, i.bytes)) = some (some (.int .u8 0), 1, 1) := by kernel_rfl
theorem out_append (w0 w : World) (base : Nat) (v : Value) (xs : List Int) (x : Int) (ty : TypeId) (h : Out w base v xs) (hb : base ≤ w0.heap.size) (hw : Below base w0 w) (hn : xs.length ≤ 1000000) :
    ∃ v1 W1, (Builtin.append_ #[28, 28] ty #[v, .slice (some ⟨w.heap.size, 0, none⟩) 1 1]).run Tryz.prog (w.alloc (.cells #[.int .u8 x] 5)) = .ok v1 W1 ∧
      W1.ownsRow base 5 1 v1 (xs ++ [x]).length (byt (xs ++ [x])) ∧ Below base w0 W1 := by
  obtain ⟨ti, hti, hz⟩ := Option.map_eq_some_iff.1 info_u8
  simp only [Prod.mk.injEq] at hz
  obtain ⟨hz0, hz1, hz2⟩ := hz
  have hml : 1000001 ≤ maxLen := by decide
  have hbw : base ≤ w.heap.size := Nat.le_trans hb hw.size
  have hbel : Below base w (w.alloc (.cells #[.int .u8 x] 5)) := (Below.refl base w).alloc hbw _
  have hbel' : Below w.heap.size w (w.alloc (.cells #[.int .u8 x] 5)) := below_alloc (Below.refl _ _) _
  have hnew : ∀ j u, (byt [x])[j]? = some u → (w.alloc (.cells #[.int .u8 x] 5)).cell? ((⟨w.heap.size, 0, none⟩ : Addr).add j) = some u := cells_row (cs := byt [x]) (heap_alloc_same w _)
  have e1 : (xs ++ [x]).length = xs.length + 1 := by simp
  have e2 : byt (xs ++ [x]) = byt xs ++ byt [x] := by simp [byt]
  rw [e1, e2]
  rcases h with h | ⟨ad, rfl, hc⟩
  · obtain ⟨v1, W1, r1, r2, r3, r4⟩ := run_append_own (P := Tryz.prog) (w := w.alloc (.cells #[.int .u8 x] 5)) base 28 ty 5 ti (.int .u8 0) 1 1 Tryz.underlying28 hti hz0 hz1 hz2 rfl (by decide) v xs.length (byt xs)
      (own_move h (fun k hk => hbel'.block k (own_lt h k hk))) ⟨w.heap.size, 0, none⟩ 1 1 (byt [x]) rfl hnew byt_one (by omega) (by omega) (Nat.le_trans hbw hbel.size)
    exact ⟨v1, W1, r1, r2, (hw.trans hbel).grown r3 (Nat.le_trans hbw hbel.size) (own_base h)⟩
  · have hr := run_append_grow (P := Tryz.prog) (w.alloc (.cells #[.int .u8 x] 5)) 28 ty 5 ti (.int .u8 0) Tryz.underlying28 hti hz0 ad xs.length xs.length (byt xs) (by rw [hz1, byt_length]; omega) (fun j u hj => pw_cell_below hbel' (hc j u hj)) ⟨w.heap.size, 0, none⟩ 1 1 (byt [x]) (by rw [hz1]; rfl) hnew (by omega) (by omega) (growslice_fits (by omega) (by rw [hz2]; omega))
    have hge := grownCap_ge (w.alloc (.cells #[.int .u8 x] 5)) (xs.length + 1) xs.length 5
    have hcm := grownCap_le_maxLen (w.alloc (.cells #[.int .u8 x] 5)) (xs.length + 1) xs.length 5 (by omega)
    generalize grownCap (w.alloc (.cells #[.int .u8 x] 5)) (xs.length + 1) xs.length 5 = gc at hr hge hcm
    refine ⟨_, _, hr, ⟨by simp [byt], .inr ⟨_, gc, _, rfl, Nat.le_trans hbw hbel.size, heap_alloc_same _ _, hge, hcm, ?_, ?_⟩⟩, ?_⟩
    · simp [size_zeroCells, hz1, byt_length, Value.cells]; omega
    · rw [Array.toList_append, Array.toList_append, Nat.mul_one, List.toList_toArray, List.toList_toArray, List.take_append_of_le_length (by simp [byt]), List.take_of_length_le (by simp [byt])]
    · exact ((hw.trans hbel).drew).alloc (by simp; exact Nat.le_trans hbw (by simp)) _
end Go.Proofs.YtpnjhffnlafabaaGreatDoor.Sl
namespace Go.Proofs.YtpnjhffnlafabaaGreatDoor.Sl
set_option linter.unusedVariables false
set_option linter.unusedSimpArgs false
open Go.RowKit Go.Proofs.Bk Go.Proofs.Bm Go.Proofs.Kf Go.Proofs.YtpnjhffnlafabaaGreatDoorW.PrintWords
theorem C_take0 {k : IntKind} {w : World} {A : Option Addr} {n : Nat} {xs : List Int} (h : (Kd.int k).C w A n xs) (m : Nat) (hm : m ≤ n) : (Kd.int k).C w A m (xs.take m) := by
  have hl : xs.length = n := h.1
  refine ⟨by rw [List.length_take]; omega, by have := h.2.1; omega, fun hp => ?_⟩
  obtain ⟨ad, e, hc⟩ := h.2.2 (by omega)
  exact ⟨ad, e, fun j p hj => hc j p (by rw [List.getElem?_take] at hj; split at hj; exact hj; cases hj)⟩
theorem C_drop0 {k : IntKind} {w : World} {A : Option Addr} {n : Nat} {xs : List Int} (h : (Kd.int k).C w A n xs) (m : Nat) (hm : m ≤ n) : (Kd.int k).C w (A.map fun x => x.add m) (n - m) (xs.drop m) := by
  have hl : xs.length = n := h.1
  refine ⟨by rw [List.length_drop]; omega, by have := h.2.1; omega, fun hp => ?_⟩
  obtain ⟨ad, rfl, hc⟩ := h.2.2 (by omega)
  refine ⟨ad.add m, rfl, fun j p hj => ?_⟩
  obtain ⟨c, h1, h2, h3⟩ := hc (m + j) p (by rw [List.getElem?_drop] at hj; exact hj)
  refine ⟨c, h1, h2, fun i u hu => ?_⟩
  have := h3 i u hu
  rw [Addr.add_add, show m + (j * (Kd.int k).sz + i) = (m + j) * (Kd.int k).sz + i from by show m + (j * 1 + i) = (m + j) * 1 + i; omega]
  exact this
theorem add_blk (ad : Addr) (m : Nat) : (ad.add m).block = ad.block := by unfold Addr.add; split <;> rfl
def IsReader (w : World) (r g : Nat) (xs : List Int) (f : Int) : Prop :=
  ∃ A c, w.heap[r]? = some (.cells #[.slice A xs.length c, .int .i64 f] 99 (0, 0)) ∧ xs.length ≤ c ∧ (Kd.int .u8).C w A xs.length xs ∧ (∀ ad, A = some ad → ad.block = g) ∧ r ≠ g
def part (xs : List Int) (f many : Int) : List Int × List Int × Int :=
  if f ≠ 0 then ([], xs, f) else if many < 0 then ([], xs, 1) else if (xs.length : Int) < many then ([], xs, 2) else (xs.take many.toNat, xs.drop many.toNat, 0)
def PartPost (r g : Nat) (xs : List Int) (f many : Int) (w : World) (e : Ending) (w' : World) : Prop :=
  ∃ A n c, e = .returned (.slice A n c) ∧ n ≤ c ∧ (Kd.int .u8).C w' A n (part xs f many).1 ∧ (∀ ad, A = some ad → ad.block = g) ∧ IsReader w' r g (part xs f many).2.1 (part xs f many).2.2 ∧ KeepF (fun k => k = r) w w'
set_option maxHeartbeats 4000000 in
theorem Part_calls (r g : Nat) (xs : List Int) (f many : Int) (w : World) (h : IsReader w r g xs f) :
    Calls Tryz.prog 59 #[.pointer (some ⟨r, 0, none⟩), .int .i64 many] w (PartPost r g xs f many w) := by
  obtain ⟨A, c, hr, hc, hC, hg, hrg⟩ := h
  have c0 : w.cell? ⟨r, 0, none⟩ = some (.slice A xs.length c) := (cell_row hr 0).trans rfl
  have c1 : w.cell? ⟨r, 1, none⟩ = some (.int .i64 f) := (cell_row hr 1).trans rfl
  have f0 : w.frozen? ⟨r, 0, none⟩ = false := frozen_row hr 0
  have f1 : w.frozen? ⟨r, 1, none⟩ = false := frozen_row hr 1
  have hn := hC.2.1
  have keep : ∀ (i : Nat) v w', w' = w.setCell ⟨r, i, none⟩ v → KeepF (fun k => k = r) w w' ∧ (Kd.int .u8).C w' A xs.length xs := by
    rintro i v w' rfl
    have hk := KeepF.setCell w ⟨r, i, none⟩ v
    exact ⟨hk, Kd_C_keep hC (fun ad e _ hb => hrg (hb.symm.trans (hg ad e))) hk⟩
  obtain ⟨n, hnl⟩ : ∃ n, xs.length = n := ⟨_, rfl⟩
  have fail : ∀ q : Int, q ≠ 0 → part xs f many = ([], xs, q) → PartPost r g xs f many w (.returned (.slice none 0 0)) (w.setCell ⟨r, 1, none⟩ (.int .i64 q)) := by
    intro q hq hp
    obtain ⟨k1, k2⟩ := keep 1 (.int .i64 q) _ rfl
    refine ⟨none, 0, 0, rfl, Nat.le_refl _, by rw [hp]; exact Kd.C_nil _ _, (fun ad e => by cases e), ?_, k1⟩
    rw [hp]
    exact ⟨A, c, (heap_set_same hr 1 _).trans rfl, hc, k2, hg, hrg⟩
  by_cases hf : f = 0
  · subst hf
    by_cases h0 : many < 0
    · replace fail := fail 1 (by decide) (by unfold part; rw [if_neg (by simp), if_pos h0])
      replace hr := Aside0.mk hr; replace hc := Aside0.mk hc; replace hC := Aside0.mk hC; replace hg := Aside0.mk hg; replace hrg := Aside0.mk hrg; replace keep := Aside0.mk keep; replace fail := Aside0.mk fail; replace hn := Aside0.mk hn
      go_enter Tryz.func59, Tryz.ntmps59
      go_wp2_with fail
      go_ret
      exact fail.out
    · rw [hnl] at c0 hc hn
      by_cases h1 : (n : Int) < many
      · replace fail := fail 2 (by decide) (by unfold part; rw [if_neg (by simp), if_neg h0, if_pos (by rw [hnl]; exact h1)])
        replace hr := Aside0.mk hr; replace hc := Aside0.mk hc; replace hC := Aside0.mk hC; replace hg := Aside0.mk hg; replace hrg := Aside0.mk hrg; replace keep := Aside0.mk keep; replace fail := Aside0.mk fail; replace hn := Aside0.mk hn; replace hnl := Aside0.mk hnl
        go_enter Tryz.func59, Tryz.ntmps59
        go_wp2_with fail
        go_ret
        exact fail.out
      · obtain ⟨m, rfl⟩ : ∃ m : Nat, many = m := ⟨many.toNat, by omega⟩
        have hm : m ≤ n := by omega
        have hp : part xs 0 m = (xs.take m, xs.drop m, 0) := by unfold part; rw [if_neg (by simp), if_neg h0, if_neg (by rw [hnl]; exact h1), Int.toNat_natCast]
        have fin : ∀ B q, (∀ ad, B = some ad → ad.block = g) → (∀ w', (Kd.int .u8).C w' A n xs → (Kd.int .u8).C w' B (n - m) (xs.drop m)) → n - m ≤ q → PartPost r g xs 0 m w (.returned (.slice A m m)) (w.setCell ⟨r, 0, none⟩ (.slice B (n - m) q)) := by
          intro B q hB hBC hq
          obtain ⟨k1, k2⟩ := keep 0 (.slice B (n - m) q) _ rfl
          rw [hnl] at k2
          refine ⟨A, m, m, rfl, Nat.le_refl _, by rw [hp]; exact C_take0 k2 m hm, hg, ?_, k1⟩
          rw [hp]
          have hd : (xs.drop m).length = n - m := by rw [List.length_drop, hnl]
          exact ⟨B, q, (by rw [hd]; exact (heap_set_same hr 0 _).trans rfl), by rw [hd]; exact hq, by rw [hd]; exact hBC _ k2, hB, hrg⟩
        by_cases hcm : c = m
        · subst hcm
          replace fin := fin A 0 hg (fun w' h => by
            have : xs.drop c = [] := List.drop_of_length_le (by omega)
            rw [this, show n - c = 0 by omega]
            exact ⟨rfl, by omega, fun h => absurd h (Nat.lt_irrefl _)⟩) (by omega)
          rw [show n - c = 0 by omega] at fin
          replace hr := Aside0.mk hr; replace hC := Aside0.mk hC; replace hg := Aside0.mk hg; replace hrg := Aside0.mk hrg; replace keep := Aside0.mk keep; replace fail := Aside0.mk fail; replace hnl := Aside0.mk hnl; replace hp := Aside0.mk hp; replace fin := Aside0.mk fin
          go_enter Tryz.func59, Tryz.ntmps59
          go_wp2_with fail
          go_ret
          exact fin.out
        · replace fin := fin (A.map fun x => x.add m) (c - m) (fun ad e => by
            obtain ⟨a, ha, rfl⟩ := Option.map_eq_some_iff.1 e
            rw [add_blk]; exact hg a ha) (fun w' h => C_drop0 h m hm) (by omega)
          replace hr := Aside0.mk hr; replace hC := Aside0.mk hC; replace hg := Aside0.mk hg; replace hrg := Aside0.mk hrg; replace keep := Aside0.mk keep; replace fail := Aside0.mk fail; replace hnl := Aside0.mk hnl; replace hp := Aside0.mk hp; replace fin := Aside0.mk fin
          go_enter Tryz.func59, Tryz.ntmps59
          go_wp2_with fail
          go_ret
          exact fin.out
  · have hp : part xs f many = ([], xs, f) := by unfold part; rw [if_pos hf]
    have fin : PartPost r g xs f many w (.returned (.slice none 0 0)) w :=
      ⟨none, 0, 0, rfl, Nat.le_refl _, by rw [hp]; exact Kd.C_nil _ _, (fun ad e => by cases e), by rw [hp]; exact ⟨A, c, hr, hc, hC, hg, hrg⟩, KeepF.refl _ _⟩
    have hf' : (f != 0) = true := by simpa using hf
    replace hr := Aside0.mk hr; replace hc := Aside0.mk hc; replace hC := Aside0.mk hC; replace hg := Aside0.mk hg; replace hrg := Aside0.mk hrg; replace keep := Aside0.mk keep; replace fail := Aside0.mk fail; replace hn := Aside0.mk hn; replace hp := Aside0.mk hp; replace fin := Aside0.mk fin
    clear hf
    go_enter Tryz.func59, Tryz.ntmps59
    go_wp2_with fail
    go_ret
    exact fin.out
def leNum : List Int → Int
  | [] => 0
  | b :: l => b + 256 * leNum l
def take (xs : List Int) (f : Int) (k : Nat) : Int × List Int × Int := (leNum (part xs f k).1, (part xs f k).2.1, (part xs f k).2.2)
def TakePost (r g : Nat) (xs : List Int) (f : Int) (k : Nat) (w : World) (e : Ending) (w' : World) : Prop :=
  e = .returned (.int .u64 (take xs f k).1) ∧ IsReader w' r g (take xs f k).2.1 (take xs f k).2.2 ∧ KeepF (fun k => k = r) w w'
theorem part_fst_len (xs : List Int) (f many : Int) : ((part xs f many).1.length : Int) ≤ max 0 many := by
  unfold part
  repeat' split
  all_goals simp
  all_goals omega
theorem part_fst_mem (xs : List Int) (f many : Int) : ∀ x ∈ (part xs f many).1, x ∈ xs := by
  unfold part
  repeat' split
  all_goals simp
  exact fun x hx => List.mem_of_mem_take hx
theorem leNum_range : ∀ (l : List Int), (∀ x ∈ l, 0 ≤ x ∧ x ≤ 255) → 0 ≤ leNum l ∧ leNum l < 256 ^ l.length
  | [], _ => by simp [leNum]
  | b :: l, h => by
    have h1 := h b (by simp)
    have h2 := leNum_range l (fun x hx => h x (by simp [hx]))
    unfold leNum
    rw [List.length_cons, Int.pow_succ]
    omega
theorem leNum_take (l : List Int) (j : Nat) (hj : j < l.length) : leNum (l.drop j) = rd l j + 256 * leNum (l.drop (j + 1)) := by
  rw [List.drop_eq_getElem_cons hj]
  show l[j] + 256 * leNum (l.drop (j + 1)) = _
  unfold rd; rw [Int.toNat_natCast, List.getD_eq_getElem?_getD, List.getElem?_eq_getElem hj]; rfl
theorem or_shl (z b : Int) (h0 : 0 ≤ z) (h1 : z < 72057594037927936) (h2 : 0 ≤ b) (h3 : b ≤ 255) : bits BinOp.or IntKind.u64 (IntKind.u64.wrap (z * 256)) (IntKind.u64.wrap b) = b + 256 * z := by
  rw [IntKind.wrap_u64, IntKind.wrap_u64, show z * 256 % 18446744073709551616 = z * 256 by omega, show b % 18446744073709551616 = b by omega]
  rw [bits_join .u64 64 (by decide) (fun n h1 h2 => by rw [IntKind.wrap_u64]; omega) 8 (z * 256) b (by omega) (by omega) (by omega) h2 (by omega) (by omega)]
  omega
set_option maxHeartbeats 4000000 in
set_option maxRecDepth 100000 in
theorem Take_calls (r g : Nat) (xs : List Int) (f width : Int) (k : Nat) (w : World) (h : IsReader w r g xs f) (hb : ∀ x ∈ xs, 0 ≤ x ∧ x ≤ 255) (hw : heldW width = k) (hk : k ≤ 8) :
    Calls Tryz.prog 63 #[.pointer (some ⟨r, 0, none⟩), .int .i64 width] w (TakePost r g xs f k w) := by
  have hfb := Aside0.mk (fun x hx => hb x (part_fst_mem xs f k x hx))
  have hfl : (part xs f k).1.length ≤ 8 := by have := part_fst_len xs f k; omega
  have H := Aside0.mk h
  clear h hb
  go_enter Tryz.func63, Tryz.ntmps63
  go_wp2_with fail
  refine Gl.scope_jumps 0 (fun a' w' => ∃ (z : Int) (A : Option Addr) (n c j : Nat) (u8 u9 u10 u11 u12 u13 u14 u15 u16 u17 u18 u19 u20 u21 u22 u23 u24 u25 u26 : Value), a' = { tmps := #[.pointer (some ⟨r, 0, none⟩), .int .i64 width, undef, undef, .int .u64 0, .slice A n c, .int .u64 z, .int .i64 j, u8, u9, u10, u11, u12, u13, u14, u15, u16, u17, u18, u19, u20, u21, u22, u23, u24, u25, u26], defers := [] } ∧ j ≤ n ∧ n ≤ 8 ∧ n ≤ c ∧ Aside0 (z = leNum ((part xs f k).1.drop j)) ∧
      Aside0 ((Kd.int .u8).C w' A n (part xs f k).1) ∧ Aside0 (IsReader w' r g (part xs f k).2.1 (part xs f k).2.2) ∧ Aside0 (KeepF (fun k => k = r) w w')) (fun a' _ => (intOf (a'.tmps.getD 7 undef)).toNat) rfl ?_ ?_
  · rintro a' w' ⟨z, A, n, c, j, u8, u9, u10, u11, u12, u13, u14, u15, u16, u17, u18, u19, u20, u21, u22, u23, u24, u25, u26, rfl, hj, hn, hc, hzz, hC, hR, hK⟩
    by_cases hz : j = 0
    · subst hz
      go_wp2_with fail
      go_ret
      exact ⟨by rw [hzz.out]; rfl, hR.out, hK.out⟩
    · have hz' : (((j : Nat) : Int) == 0) = false := by simpa using hz
      obtain ⟨i, rfl⟩ : ∃ i, j = i + 1 := ⟨j - 1, by omega⟩
      have e1 : ((i + 1 : Nat) : Int) - 1 = (i : Int) := by omega
      have p1 : 0 ≤ (i : Int) := by omega
      have q1 : (i : Int) < (n : Int) := by omega
      obtain ⟨ad, rfl, x1⟩ := Kd.at_int hC.out i p1 q1
      rw [Int.toNat_natCast] at x1
      have hl : (part xs f k).1.length = n := hC.out.1
      have hr0 := leNum_range _ (fun x hx => hfb.out x (List.mem_of_mem_drop (i := i + 1) hx))
      rw [← hzz.out] at hr0
      obtain ⟨b, hb⟩ : ∃ b, rd (part xs f k).1 i = b := ⟨_, rfl⟩
      rw [hb] at x1
      replace hb := Aside0.mk hb; replace hr0 := Aside0.mk hr0
      go_wp2_with fail
      have hz56 : z < 72057594037927936 := by
        have h1 := hr0.out.2
        have hle : ((part xs f k).1.drop (i + 1)).length ≤ 7 := by rw [List.length_drop]; omega
        have h2 : (256 : Int) ^ ((part xs f k).1.drop (i + 1)).length ≤ 256 ^ 7 := by
          have := Nat.pow_le_pow_right (n := 256) (by decide) hle
          exact_mod_cast this
        have e : (256 : Int) ^ 7 = 72057594037927936 := by decide
        omega
      have hb2 : 0 ≤ b ∧ b ≤ 255 := hfb.out b (by
        rw [← hb.out]; unfold rd; rw [Int.toNat_natCast, List.getD_eq_getElem?_getD, List.getElem?_eq_getElem (by omega)]
        exact List.getElem_mem _)
      rw [or_shl z b hr0.out.1 hz56 hb2.1 hb2.2]
      go_step3
      refine ⟨rfl, ⟨b + 256 * z, _, n, c, i, _, _, _, _, _, _, _, _, _, _, _, _, _, _, _, _, _, _, _, rfl, by omega, hn, hc, ⟨?_⟩, hC, hR, hK⟩, ?_⟩
      · rw [leNum_take _ i (by omega), hb.out, hzz.out]
      · show ((i : Nat) : Int).toNat < ((i + 1 : Nat) : Int).toNat
        omega
  · intro pass
    go_wp2_with fail
    refine (held_calls width w).mono ?_
    rintro e w' ⟨rfl, rfl⟩
    rw [hw]
    go_wp2_with fail
    refine (Part_calls r g xs f k w H.out).mono ?_
    rintro e w1 ⟨A, n, c, rfl, hc, hC, hg, hR, hK⟩
    have hl : (part xs f k).1.length = n := hC.1
    go_wp2_with fail
    go_step3
    rename_i hK0
    refine hK0 _ _ (pass _ _ ⟨0, A, n, c, n, _, _, _, _, _, _, _, _, _, _, _, _, _, _, _, _, _, _, _, rfl, Nat.le_refl _, by omega, hc, ⟨?_⟩, ⟨hC⟩, ⟨hR⟩, ⟨hK⟩⟩)
    rw [List.drop_of_length_le (by omega)]
    rfl
theorem bytes_of_row {w : World} {b n : Nat} {v : Value} {xs : List Int} (h : w.ownsRow b 5 1 v n (byt xs)) (hn : xs.length = n) : ∃ A c, v = .slice A n c ∧ (Kd.int .u8).C w A n xs := by
  subst hn
  obtain ⟨_, h | h⟩ := h
  · obtain ⟨rfl, h0⟩ := h
    have : xs = [] := List.eq_nil_of_length_eq_zero h0
    subst this
    exact ⟨none, 0, rfl, Kd.C_nil _ _⟩
  · obtain ⟨g, cap, cur, rfl, hb, hg, hn, hm, hs, ht⟩ := h
    refine ⟨some ⟨g, 0, none⟩, cap, rfl, ⟨rfl, (by have hml : maxLen ≤ 9223372036854775807 := (by decide); omega), fun hp => ⟨_, rfl, fun j x hj => ⟨[.int .u8 x], rfl, rfl, fun i u hu => ?_⟩⟩⟩⟩
    have hi : i = 0 := by cases i with | zero => rfl | succ i => simp at hu
    subst hi
    simp at hu; subst hu
    show w.cell? ((⟨g, 0, none⟩ : Addr).add (j * 1 + 0)) = _
    rw [addAt, cell_row hg]
    have hj' : j < xs.length := (List.getElem?_eq_some_iff.1 hj).1
    have := congrArg (fun l => l[j]?) ht
    simp only [byt, Nat.mul_one, List.getElem?_take_of_lt hj', List.getElem?_map, hj, Option.map_some, Array.getElem?_toList] at this
    rw [← this]; congr 1; omega
def ClonePost (A : Option Addr) (xs : List Int) (n : Nat) (w : World) (e : Ending) (w' : World) : Prop :=
  ∃ v, e = .returned v ∧ w'.ownsRow w.heap.size 5 1 v n (byt xs) ∧ (v = .slice none 0 0 ↔ A = none) ∧ Below w.heap.size w w'
theorem Clone_calls (A : Option Addr) (n c : Nat) (xs : List Int) (w : World) (h : (Kd.int .u8).C w A n xs) (hn : n ≤ 140737488355328) :
    Calls Tryz.prog 61 #[.slice A n c] w (ClonePost A xs n w) := by
  cases A with
  | none =>
    have hn0 : n = 0 := by
      apply Decidable.byContradiction; intro hc
      obtain ⟨ad, e, _⟩ := h.2.2 (by omega)
      cases e
    subst hn0
    have : xs = [] := List.eq_nil_of_length_eq_zero h.1
    subst this
    refine (Tryz.bytes_Clone_nil 0 c w).mono ?_
    rintro e w' ⟨rfl, rfl⟩
    exact ⟨_, rfl, own_nil _ _ _ _, by simp, Below.refl _ _⟩
  | some ad =>
    refine (Tryz.bytes_Clone_at ad n c xs w h.1 hn (fun i hi => ?_)).mono ?_
    · obtain ⟨ad', e, hx⟩ := Kd.at_int h (i : Int) (by omega) (by omega)
      injection e with e; subst e
      rw [Int.toNat_natCast] at hx
      rw [hx]; unfold rd; rw [Int.toNat_natCast]
    · rintro e w' ⟨v', rfl, ho, hne, hb⟩
      exact ⟨v', rfl, ho, by simp [hne], hb⟩
def NewRPost (xs : List Int) (w : World) (e : Ending) (w' : World) : Prop :=
  ∃ r g, e = .returned (.pointer (some ⟨r, 0, none⟩)) ∧ IsReader w' r g xs 0 ∧ w.heap.size ≤ r ∧ Below w.heap.size w w' ∧ (0 < xs.length → g < w'.heap.size)
set_option maxHeartbeats 4000000 in
theorem NewR_calls (A : Option Addr) (n c : Nat) (xs : List Int) (w : World) (h : (Kd.int .u8).C w A n xs) (hn : n ≤ 140737488355328) :
    Calls Tryz.prog 28 #[.slice A n c] w (NewRPost xs w) := by
  have H := Aside0.mk h
  clear h
  go_enter Tryz.func28, Tryz.ntmps28
  go_wp2_with fail
  refine (Clone_calls A n c xs w H.out hn).mono ?_
  rintro e w1 ⟨v, rfl, ho, _, hb⟩
  have hnx : xs.length = n := H.out.1
  have hs : ∃ B cB, v = .slice B n cB ∧ n ≤ cB ∧ (Kd.int .u8).C w1 B n xs ∧ (∀ ad, B = some ad → ad.block < w1.heap.size) := by
    obtain ⟨B, cB, rfl, hB⟩ := bytes_of_row ho hnx
    refine ⟨B, cB, rfl, ?_, hB, fun ad e => own_lt ho _ (by rw [e]; rfl)⟩
    rcases ho.2 with ⟨e, h0⟩ | ⟨g, cap, cur, e, _, _, h1, _⟩
    · omega
    · injection e with _ _ e3; omega
  obtain ⟨B, cB, rfl, hcB, hB, hlt⟩ := hs
  replace ho := Aside0.mk ho; replace hb := Aside0.mk hb; replace hB := Aside0.mk hB; replace hlt := Aside0.mk hlt
  go_wp2_with fail
  go_ret
  have hbA := below_alloc (Below.refl w1.heap.size w1) (.cells #[.slice B n cB, .int .i64 0] 99)
  have hg : ∃ g, (∀ ad, B = some ad → ad.block = g) ∧ w1.heap.size ≠ g ∧ (0 < xs.length → g < w1.heap.size) := by
    cases B with
    | none => exact ⟨w1.heap.size + 1, (fun ad e => by cases e), by omega, fun hp => by obtain ⟨ad, e, _⟩ := hB.out.2.2 (by omega); cases e⟩
    | some ad => exact ⟨ad.block, (fun ad' e => by injection e with e; rw [e]), by have := hlt.out ad rfl; omega, fun _ => hlt.out ad rfl⟩
  obtain ⟨g, hg, hne, hgl⟩ := hg
  exact ⟨w1.heap.size, g, rfl, ⟨B, cB, (by rw [hnx]; exact heap_alloc_same _ _), (by rw [hnx]; exact hcB), (by rw [hnx]; exact Kd.C_below hB.out hbA), hg, hne⟩, hb.out.size, below_then hb.out hb.out.size hbA, fun hp => by have := hgl hp; have := hbA.size; omega⟩
end Go.Proofs.YtpnjhffnlafabaaGreatDoor.Sl
namespace Go.Proofs.YtpnjhffnlafabaaGreatDoor.Sl
set_option linter.unusedVariables false
set_option linter.unusedSimpArgs false
open Go.RowKit Go.Proofs.Bk Go.Proofs.Bm Go.Proofs.Kf Go.Proofs.YtpnjhffnlafabaaGreatDoorW.PrintWords
def halves : List Int := [0, 498536548, 997073096, 651767980, 1994146192, 1802195444, 1303535960, 1342533948, 3988292384, 4027552580, 3604390888, 3412177804, 2607071920, 2262029012, 2685067896, 3183342108]
def Tab (w : World) : Prop := ∀ j : Nat, j < 16 → w.cell? ⟨0, j, none⟩ = some (.int .u32 (rd halves j))
theorem wraps_u32 (n : Int) (h₀ : 0 ≤ n) (h₁ : n < 2 ^ 32) : IntKind.u32.wrap n = n := by rw [IntKind.wrap_u32]; omega
theorem and15 (x : Int) (h₀ : 0 ≤ x) (h₁ : x < 4294967296) : bits BinOp.and IntKind.u32 x 15 = x % 16 := bits_mask .u32 32 (by decide) wraps_u32 4 (by decide) x h₀ (by omega)
theorem xor_range (a b : Int) (h1 : 0 ≤ a) (h2 : a < 4294967296) (h3 : 0 ≤ b) (h4 : b < 4294967296) : 0 ≤ bits BinOp.xor IntKind.u32 a b ∧ bits BinOp.xor IntKind.u32 a b < 4294967296 := by
  rw [u32_xor a b h1 h2 h3 h4]
  have : a.toNat ^^^ b.toNat < 2 ^ 32 := Nat.xor_lt_two_pow (by omega) (by omega)
  omega
theorem halves_range (i : Int) : 0 ≤ rd halves i ∧ rd halves i < 4294967296 := by
  unfold rd
  have : ∀ x ∈ halves, 0 ≤ x ∧ x < 4294967296 := by decide
  rw [List.getD_eq_getElem?_getD]
  cases e : halves[i.toNat]? with
  | none => simp
  | some x => exact this x (List.mem_of_getElem? e)
def crcStep (x : Int) : Int := bits BinOp.xor IntKind.u32 (x / 16) (rd halves (x % 16))
def crcIn (c b : Int) : Int := crcStep (crcStep (bits BinOp.xor IntKind.u32 c b))
theorem crcStep_range (x : Int) (h1 : 0 ≤ x) (h2 : x < 4294967296) : 0 ≤ crcStep x ∧ crcStep x < 4294967296 := xor_range _ _ (by omega) (by omega) (halves_range _).1 (halves_range _).2
theorem crcIn_range (c b : Int) (hc : 0 ≤ c ∧ c < 4294967296) (hb : 0 ≤ b ∧ b ≤ 255) : 0 ≤ crcIn c b ∧ crcIn c b < 4294967296 := by
  have h1 := xor_range c b hc.1 hc.2 hb.1 (by omega)
  have h2 := crcStep_range _ h1.1 h1.2
  exact crcStep_range _ h2.1 h2.2
theorem Tab.at_ {w : World} (h : Tab w) (x : Int) (h1 : 0 ≤ x) : w.cell? ⟨0, (x % 16).toNat, none⟩ = some (.int .u32 (rd halves (x % 16))) := by
  have := h (x % 16).toNat (by omega)
  rw [show (((x % 16).toNat : Nat) : Int) = x % 16 by omega] at this
  exact this
set_option maxHeartbeats 4000000 in
theorem in_calls (c b : Int) (w : World) (h : Tab w) (hc : 0 ≤ c ∧ c < 4294967296) (hb : 0 ≤ b ∧ b ≤ 255) :
    Calls Tryz.prog 92 #[.int .u32 c, .int .u8 b] w fun e w' => e = .returned (.int .u32 (crcIn c b)) ∧ w = w' := by
  have hin : Aside0 (crcIn c b = crcStep (crcStep (bits BinOp.xor IntKind.u32 c b))) := ⟨rfl⟩
  have r0 := xor_range c b hc.1 hc.2 hb.1 (by omega)
  obtain ⟨x, hx⟩ : ∃ x, bits BinOp.xor IntKind.u32 c b = x := ⟨_, rfl⟩
  rw [hx] at r0 hin
  have r1 := crcStep_range x r0.1 r0.2
  have a0 := and15 x r0.1 r0.2
  have t0 := h.at_ x r0.1
  have s0 : bits BinOp.xor IntKind.u32 (x / 16) (rd halves (x % 16)) = crcStep x := rfl
  obtain ⟨y, hy⟩ : ∃ y, crcStep x = y := ⟨_, rfl⟩
  rw [hy] at r1 hin s0
  have a1 := and15 y r1.1 r1.2
  have t1 := h.at_ y r1.1
  have s1 : bits BinOp.xor IntKind.u32 (y / 16) (rd halves (y % 16)) = crcStep y := rfl
  obtain ⟨z, hz⟩ : ∃ z, crcStep y = z := ⟨_, rfl⟩
  rw [hz] at hin s1
  obtain ⟨p, hp⟩ : ∃ p, rd halves (x % 16) = p := ⟨_, rfl⟩
  rw [hp] at t0 s0
  obtain ⟨q, hq⟩ : ∃ q, rd halves (y % 16) = q := ⟨_, rfl⟩
  rw [hq] at t1 s1
  obtain ⟨b0, b1⟩ := hb
  obtain ⟨c0, c1⟩ := hc
  obtain ⟨x0, x1⟩ := r0
  obtain ⟨y0, y1⟩ := r1
  clear hy hz hp hq h
  go_enter Tryz.func92, Tryz.ntmps92
  go_wp2_with fail
  go_ret
  exact ⟨by rw [hin.out]; rfl, rfl⟩
theorem unxor (z : Int) (h0 : 0 ≤ z) (h1 : z < 4294967296) : bits BinOp.xor IntKind.u32 IntKind.u32.max z = 4294967295 - z := by
  rw [show IntKind.u32.max = 4294967295 by decide, u32_xor 4294967295 z (by decide) (by decide) h0 h1]
  obtain ⟨n, rfl⟩ : ∃ n : Nat, z = n := ⟨z.toNat, by omega⟩
  rw [Int.toNat_natCast]
  have h : (4294967295 : Nat) ^^^ n = 4294967295 - n := by
    have e1 := BitVec.allOnes_xor (x := BitVec.ofNat 32 n)
    have e2 := congrArg BitVec.toNat e1
    rw [BitVec.toNat_xor, BitVec.toNat_not, BitVec.toNat_allOnes, BitVec.toNat_ofNat, Nat.mod_eq_of_lt (by omega)] at e2
    exact e2
  show (((4294967295 : Nat) ^^^ n : Nat) : Int) = _
  rw [h]; omega
def crcAll (c : Int) (l : List Int) : Int := l.foldl crcIn c
theorem crcAll_range : ∀ (l : List Int) (c : Int), (0 ≤ c ∧ c < 4294967296) → (∀ x ∈ l, 0 ≤ x ∧ x ≤ 255) → 0 ≤ crcAll c l ∧ crcAll c l < 4294967296
  | [], c, hc, _ => hc
  | b :: l, c, hc, h => crcAll_range l _ (crcIn_range c b hc (h b (by simp))) (fun x hx => h x (by simp [hx]))
theorem crcAll_take (l : List Int) (c : Int) (j : Nat) (hj : j < l.length) : crcAll c (l.take (j + 1)) = crcIn (crcAll c (l.take j)) (rd l j) := by
  unfold crcAll
  rw [List.take_add_one, List.getElem?_eq_getElem hj, List.foldl_append]
  unfold rd; rw [Int.toNat_natCast, List.getD_eq_getElem?_getD, List.getElem?_eq_getElem hj]; rfl
def crcMore (c : Int) (l : List Int) : Int := 4294967295 - crcAll (4294967295 - c) l
def crc (l : List Int) : Int := crcMore 0 l
theorem crc_range (l : List Int) (h : ∀ x ∈ l, 0 ≤ x ∧ x ≤ 255) : 0 ≤ crc l ∧ crc l < 4294967296 := by
  have := crcAll_range l (4294967295 - 0) (by omega) h
  unfold crc crcMore
  omega
set_option maxHeartbeats 4000000 in
set_option maxRecDepth 100000 in
theorem More_calls (chk : Int) (A : Option Addr) (n c : Nat) (l : List Int) (w : World) (hT : Tab w) (h : (Kd.int .u8).C w A n l) (hc : 0 ≤ chk ∧ chk < 4294967296) (hb : ∀ x ∈ l, 0 ≤ x ∧ x ≤ 255) :
    Calls Tryz.prog 66 #[.int .u32 chk, .slice A n c] w fun e w' => e = .returned (.int .u32 (crcMore chk l)) ∧ w = w' := by
  have H := Aside0.mk h
  have HT := Aside0.mk hT
  have HB := Aside0.mk hb
  have hn : l.length = n := h.1
  have hn2 := h.2.1
  obtain ⟨hc0, hc1⟩ := hc
  clear h hT hb
  go_enter Tryz.func66, Tryz.ntmps66
  go_wp2_with fail
  refine Gl.scope_jumps 0 (fun a' w' => ∃ (z : Int) (j : Nat) (u7 u8 u9 u10 u11 u12 u13 u14 u15 u16 u17 u18 u19 u20 u21 u22 : Value), a' = { tmps := #[.int .u32 chk, .slice A n c, undef, undef, .int .u32 0, .int .u32 z, .int .i64 j, u7, u8, u9, u10, u11, u12, u13, u14, u15, u16, u17, u18, u19, u20, u21, u22], defers := [] } ∧ j ≤ n ∧ 0 ≤ z ∧ z < 4294967296 ∧ Aside0 (z = crcAll (4294967295 - chk) (l.take j)) ∧ w = w') (fun a' _ => n - (intOf (a'.tmps.getD 6 undef)).toNat) rfl ?_ ?_
  · rintro a' w' ⟨z, j, u7, u8, u9, u10, u11, u12, u13, u14, u15, u16, u17, u18, u19, u20, u21, u22, rfl, hj, hz0, hz1, hz, rfl⟩
    by_cases hjn : j = n
    · subst hjn
      have hx := unxor z hz0 hz1
      go_wp2_with fail
      go_ret
      refine ⟨?_, rfl⟩
      rw [List.take_of_length_le (by omega)] at hz
      unfold crcMore
      rw [← hz.out]; rfl
    · have hjn' : (((j : Nat) : Int) == ((n : Nat) : Int)) = false := by simp; omega
      have p1 : 0 ≤ (j : Int) := by omega
      have q1 : (j : Int) < (n : Int) := by omega
      obtain ⟨ad, rfl, x1⟩ := Kd.at_int H.out j p1 q1
      rw [Int.toNat_natCast] at x1
      have hb2 : 0 ≤ rd l j ∧ rd l j ≤ 255 := HB.out _ (by unfold rd; rw [Int.toNat_natCast, List.getD_eq_getElem?_getD, List.getElem?_eq_getElem (by omega)]; exact List.getElem_mem _)
      have hr := crcIn_range z (rd l j) ⟨hz0, hz1⟩ hb2
      have hst := Aside0.mk (crcAll_take l (4294967295 - chk) j (by omega))
      obtain ⟨b, hbe⟩ : ∃ b, rd l j = b := ⟨_, rfl⟩
      rw [hbe] at x1 hb2 hr hst
      replace hbe := Aside0.mk hbe; replace hr := Aside0.mk hr; replace hb2 := Aside0.mk hb2
      go_wp2_with fail
      refine (in_calls z b w HT.out ⟨hz0, hz1⟩ hb2.out).mono ?_
      rintro e w' ⟨rfl, rfl⟩
      go_wp2_with fail
      rw [show (j : Int) + 1 = ((j + 1 : Nat) : Int) by omega]
      go_step3
      refine ⟨rfl, ⟨crcIn z b, j + 1, _, _, _, _, _, _, _, _, _, _, _, _, _, _, _, _, rfl, by omega, hr.out.1, hr.out.2, ⟨by rw [hst.out, hz.out]⟩, rfl⟩, ?_⟩
      show n - ((j + 1 : Nat) : Int).toNat < n - ((j : Nat) : Int).toNat
      omega
  · intro pass
    have hx := unxor chk hc0 hc1
    go_wp2_with fail
    go_step3
    rename_i hK0
    refine hK0 _ _ (pass _ _ ⟨4294967295 - chk, 0, _, _, _, _, _, _, _, _, _, _, _, _, _, _, _, _, rfl, Nat.zero_le _, by omega, by omega, ⟨rfl⟩, rfl⟩)
set_option maxHeartbeats 4000000 in
theorem Of_calls (A : Option Addr) (n c : Nat) (l : List Int) (w : World) (hT : Tab w) (h : (Kd.int .u8).C w A n l) (hb : ∀ x ∈ l, 0 ≤ x ∧ x ≤ 255) :
    Calls Tryz.prog 38 #[.slice A n c] w fun e w' => e = .returned (.int .u32 (crc l)) ∧ w = w' := by
  have H := Aside0.mk h
  have HT := Aside0.mk hT
  have HB := Aside0.mk hb
  clear h hT hb
  go_enter Tryz.func38, Tryz.ntmps38
  go_wp2_with fail
  refine (More_calls 0 A n c l w HT.out H.out (by decide) HB.out).mono ?_
  rintro e w' ⟨rfl, rfl⟩
  go_wp2_with fail
  go_ret
  exact ⟨rfl, rfl⟩
end Go.Proofs.YtpnjhffnlafabaaGreatDoor.Sl
namespace Go.Proofs.YtpnjhffnlafabaaGreatDoor.Sl
set_option linter.unusedVariables false
set_option linter.unusedSimpArgs false
open Go.RowKit Go.Proofs.Bk Go.Proofs.Bm Go.Proofs.Kf Go.Proofs.YtpnjhffnlafabaaGreatDoorW.PrintWords
theorem Tab.step {w w' : World} (h : Tab w) (hb : Below w.heap.size w w') : Tab w' := fun j hj => pw_cell_below hb (h j hj)
end Go.Proofs.YtpnjhffnlafabaaGreatDoor.Sl
