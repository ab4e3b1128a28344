/- Numbers as bytes: Put of package le. -/
import Derived.Test.YtiibfboendnifaaDoorDkC
import Derived.Test.YtiibfboendnifaaDoorGl
import Derived.Lib.AppendZerosOnto
import Derived.Laws.AppendOwn
namespace Go.Proofs.YtiibfboendnifaaDoor.Sl
set_option linter.unusedVariables false
set_option linter.unusedSimpArgs false
attribute [local go_sem] Go.Proofs.YtiibfboendnifaaDoorW.PrintMore.max2_int Go.Proofs.YtiibfboendnifaaDoorW.PrintMore.min2_int Go.Proofs.YtiibfboendnifaaDoorW.PrintMore.max_two Go.Proofs.YtiibfboendnifaaDoorW.PrintMore.min_two
open Go.RowKit Go.Proofs.Bk Go.Proofs.Bm Go.Proofs.YtiibfboendnifaaDoor.Dk Go.Proofs.YtiibfboendnifaaDoorW.PrintWords

def heldW (n : Int) : Int := max 1 (min n 8)
set_option maxHeartbeats 1000000 in
theorem held_calls (n : Int) (w : World) : Calls Tryd.prog 69 #[.int .i64 n] w fun e w' => e = .returned (.int .i64 (heldW n)) ∧ w = w' := by
  by_cases h1 : 8 < n
  · have e : heldW n = 8 := by unfold heldW; omega
    rw [e]; clear e
    go_enter Tryd.func69, Tryd.ntmps69
    go_wp2
    go_ret
    exact ⟨rfl, rfl⟩
  · by_cases h2 : 1 < n
    · have e : heldW n = n := by unfold heldW; omega
      rw [e]; clear e
      go_enter Tryd.func69, Tryd.ntmps69
      go_wp2
      go_ret
      exact ⟨rfl, rfl⟩
    · have e : heldW n = 1 := by unfold heldW; omega
      rw [e]; clear e
      go_enter Tryd.func69, Tryd.ntmps69
      go_wp2
      go_ret
      exact ⟨rfl, rfl⟩

/-- a number's bytes, the lowest ahead -/
def digs : Int → Nat → List Int
  | _, 0 => []
  | n, k + 1 => n % 256 :: digs (n / 256) k
theorem digs_length : ∀ (k : Nat) (n : Int), (digs n k).length = k
  | 0, _ => rfl
  | k + 1, n => by simp [digs, digs_length k]
theorem digs_range : ∀ (k : Nat) (n : Int), ∀ x ∈ digs n k, 0 ≤ x ∧ x ≤ 255
  | 0, _ => by intro x hx; simp [digs] at hx
  | k + 1, n => by
    intro x hx
    rcases List.mem_cons.1 hx with rfl | hx
    · omega
    · exact digs_range k _ x hx

/-- what a Put may lay bytes behind: a row of its own, or one that is full -/
def Out (w : World) (base : Nat) (v : Value) (xs : List Int) : Prop :=
  w.ownsRow base 5 1 v xs.length (byt xs) ∨ ∃ ad, v = .slice (some ad) xs.length xs.length ∧ ∀ j u, (byt xs)[j]? = some u → w.cell? (ad.add j) = some u

theorem info_u8 : (Tryd.prog.info? 5).map (fun i => (i.zero, i.size, i.bytes)) = some (some (.int .u8 0), 1, 1) := by kernel_rfl

/-- one byte more: append(out, x) of a row [x] that has just been laid -/
theorem out_append (w0 w : World) (base : Nat) (v : Value) (xs : List Int) (x : Int) (ty : TypeId) (h : Out w base v xs) (hb : base ≤ w0.heap.size) (hw : Below base w0 w) (hn : xs.length ≤ 1000000) :
    ∃ v1 W1, (Builtin.append_ #[32, 32] ty #[v, .slice (some ⟨w.heap.size, 0, none⟩) 1 1]).run Tryd.prog (w.alloc (.cells #[.int .u8 x] 5)) = .ok v1 W1 ∧
      W1.ownsRow base 5 1 v1 (xs ++ [x]).length (byt (xs ++ [x])) ∧ Below base w0 W1 := by
  obtain ⟨ti, hti, hz⟩ := Option.map_eq_some_iff.1 info_u8
  simp only [Prod.mk.injEq] at hz
  obtain ⟨hz0, hz1, hz2⟩ := hz
  have hml : 1000001 ≤ maxLen := by decide
  have hbw : base ≤ w.heap.size := Nat.le_trans hb hw.size
  have hbel : Below base w (w.alloc (.cells #[.int .u8 x] 5)) := (Below.refl base w).alloc hbw _
  have hbel' : Below w.heap.size w (w.alloc (.cells #[.int .u8 x] 5)) := below_alloc (Below.refl _ _) _
  have hnew : ∀ j u, (byt [x])[j]? = some u → (w.alloc (.cells #[.int .u8 x] 5)).cell? ((⟨w.heap.size, 0, none⟩ : Addr).add j) = some u := cells_row (cs := byt [x]) (heap_alloc_same w _)
  have e1 : (xs ++ [x]).length = xs.length + 1 := by simp
  have e2 : byt (xs ++ [x]) = byt xs ++ byt [x] := by simp [byt]
  rw [e1, e2]
  rcases h with h | ⟨ad, rfl, hc⟩
  · obtain ⟨v1, W1, r1, r2, r3, r4⟩ := run_append_own (P := Tryd.prog) (w := w.alloc (.cells #[.int .u8 x] 5)) base 32 ty 5 ti (.int .u8 0) 1 1 Tryd.underlying32 hti hz0 hz1 hz2 rfl (by decide) v xs.length (byt xs)
      (own_move h (fun k hk => hbel'.block k (own_lt h k hk))) ⟨w.heap.size, 0, none⟩ 1 1 (byt [x]) rfl hnew byt_one (by omega) (by omega) (Nat.le_trans hbw hbel.size)
    exact ⟨v1, W1, r1, r2, (hw.trans hbel).grown r3 (Nat.le_trans hbw hbel.size) (own_base h)⟩
  · have hr := run_append_grow (P := Tryd.prog) (w.alloc (.cells #[.int .u8 x] 5)) 32 ty 5 ti (.int .u8 0) Tryd.underlying32 hti hz0 ad xs.length xs.length (byt xs) (by rw [hz1, byt_length]; omega) (fun j u hj => pw_cell_below hbel' (hc j u hj)) ⟨w.heap.size, 0, none⟩ 1 1 (byt [x]) (by rw [hz1]; rfl) hnew (by omega) (by omega) (growslice_fits (by omega) (by rw [hz2]; omega))
    have hge := grownCap_ge (w.alloc (.cells #[.int .u8 x] 5)) (xs.length + 1) xs.length 5
    have hcm := grownCap_le_maxLen (w.alloc (.cells #[.int .u8 x] 5)) (xs.length + 1) xs.length 5 (by omega)
    generalize grownCap (w.alloc (.cells #[.int .u8 x] 5)) (xs.length + 1) xs.length 5 = gc at hr hge hcm
    refine ⟨_, _, hr, ⟨by simp [byt], .inr ⟨_, gc, _, rfl, Nat.le_trans hbw hbel.size, heap_alloc_same _ _, hge, hcm, ?_, ?_⟩⟩, ?_⟩
    · simp [size_zeroCells, hz1, byt_length, Value.cells]; omega
    · rw [Array.toList_append, Array.toList_append, Nat.mul_one, List.toList_toArray, List.toList_toArray, List.take_append_of_le_length (by simp [byt]), List.take_of_length_le (by simp [byt])]
    · exact ((hw.trans hbel).drew).alloc (by simp; exact Nat.le_trans hbw (by simp)) _

def PutPost (base : Nat) (xs : List Int) (n : Int) (k : Nat) (w : World) (e : Ending) (w' : World) : Prop :=
  ∃ v, e = .returned v ∧ Out w' base v (xs ++ digs n k) ∧ (0 < k → w'.ownsRow base 5 1 v (xs ++ digs n k).length (byt (xs ++ digs n k))) ∧ Below base w w'

set_option maxHeartbeats 4000000 in
set_option maxRecDepth 100000 in
theorem Put_calls (base : Nat) (v : Value) (xs : List Int) (n : Int) (width : Int) (k : Nat) (w : World) (h : Out w base v xs) (hb : base ≤ w.heap.size) (hn : xs.length ≤ 1000) (h0 : 0 ≤ n) (hw : heldW width = k) (hk : k ≤ 8) :
    Calls Tryd.prog 71 #[v, .int .u64 n, .int .i64 width] w (PutPost base xs n k w) := by
  have H := Aside0.mk h
  clear h
  go_enter Tryd.func71, Tryd.ntmps71
  go_wp2_with fail
  refine Gl.scope_jumps 0 (fun a' w' => ∃ (u : Value) (ys : List Int) (m : Int) (j : Nat) (u8 u9 u10 u11 u12 u13 u14 u15 u16 u17 u18 u19 u20 u21 : Value), a' = { tmps := #[u, .int .u64 m, .int .i64 width, undef, undef, undef, .slice none 0 0, .int .i64 j, u8, u9, u10, u11, u12, u13, u14, u15, u16, u17, u18, u19, u20, u21], defers := [] } ∧ j ≤ k ∧ 0 ≤ m ∧ m ≤ n ∧ ys.length + j = xs.length + k ∧ Aside0 (ys ++ digs m j = xs ++ digs n k) ∧ Aside0 (Out w' base u ys) ∧ Aside0 (j < k → w'.ownsRow base 5 1 u ys.length (byt ys)) ∧ Aside0 (Below base w w')) (fun a' _ => (intOf (a'.tmps.getD 7 undef)).toNat) rfl ?_ ?_
  · rintro a' w' ⟨u, ys, m, j, u8, u9, u10, u11, u12, u13, u14, u15, u16, u17, u18, u19, u20, u21, rfl, hj, hm0, hmn, hlen, hE, hO, hOw, hB⟩
    by_cases hz : j = 0
    · subst hz
      go_wp2_with fail
      go_ret
      have hE' : ys = xs ++ digs n k := by have := hE.out; rw [digs, List.append_nil] at this; exact this
      subst hE'
      exact ⟨u, rfl, hO.out, fun hp => hOw.out hp, hB.out⟩
    · have hz' : (((j : Nat) : Int) == 0) = false := by simpa using hz
      obtain ⟨v1, W1, r1, r2, r3⟩ := out_append w w' base u ys (m % 256) 32 hO.out hb hB.out (by omega)
      replace r2 := Aside0.mk r2; replace r3 := Aside0.mk r3
      go_wp2_with ((with_reducible refine gate_op (.call ⟨.builtin .append, #[.tmp 13, .tmp 16], #[32, 32]⟩) rfl ?_); refine Lib.wpList_append_run _ rfl (.tmp 13) (.tmp 16) 32 32 rfl _ _ rfl rfl v1 W1 r1 ?_)
      rw [show (j : Int) - 1 = ((j - 1 : Nat) : Int) by omega]
      go_step3
      refine ⟨rfl, ⟨v1, ys ++ [m % 256], m / 256, j - 1, _, _, _, _, _, _, _, _, _, _, _, _, _, _, rfl, by omega, by omega, by omega, by simp; omega, ⟨?_⟩, ⟨.inl r2.out⟩, ⟨fun _ => r2.out⟩, r3⟩, ?_⟩
      · have := hE.out
        obtain ⟨i, rfl⟩ : ∃ i, j = i + 1 := ⟨j - 1, by omega⟩
        rw [digs] at this
        rw [List.append_assoc]; exact this
      · show ((j - 1 : Nat) : Int).toNat < ((j : Nat) : Int).toNat
        omega
  · intro pass
    go_wp2_with fail
    refine (held_calls width w).mono ?_
    rintro e w' ⟨rfl, rfl⟩
    rw [hw]
    go_wp2_with fail
    go_step3
    rename_i hK0
    exact hK0 _ _ (pass _ _ ⟨v, xs, n, k, _, _, _, _, _, _, _, _, _, _, _, _, _, _, rfl, Nat.le_refl _, h0, Int.le_refl _, rfl, ⟨rfl⟩, H, ⟨fun h => absurd h (Nat.lt_irrefl _)⟩, ⟨Below.refl _ _⟩⟩)
end Go.Proofs.YtiibfboendnifaaDoor.Sl
