/- read of package slots: the first bytes of a slot. -/
import Derived.Test.YtiibfboendnifaaDoorSlG
import Derived.Test.YtiibfboendnifaaDoorDkW
namespace Go.Proofs.YtiibfboendnifaaDoor.Sl
set_option linter.unusedVariables false
set_option linter.unusedSimpArgs false
open Go.RowKit Go.Proofs.Bk Go.Proofs.Bm Go.Proofs.YtiibfboendnifaaDoor.Dk Go.Proofs.YtiibfboendnifaaDoorW.PrintWords

/-- so many sectors from sector i on, one behind another, as they read -/
def runOf (D : Dsk) (i : Nat) : Nat → List Int
  | 0 => []
  | k + 1 => runOf D i k ++ D.sec ((i + k : Nat) : Int)
theorem sec_Sec {w : World} {B K M : Nat} {D : Dsk} (h : IsDisk w B K M D) {i : Nat} (h1 : i < D.kept.length) : Sec (D.sec (i : Int)) := by
  unfold Dsk.sec
  cases e : aget D.waits (i : Int) with
  | none =>
    show Sec (D.kept.getD (i : Int).toNat [])
    rw [Int.toNat_natCast, List.getD_eq_getElem?_getD, List.getElem?_eq_getElem h1]; exact h.secs _ (List.getElem_mem _)
  | some v => exact (h.wsec _ ((aget_some_iff h.mp.nodup _ v).1 e)).1
theorem runOf_length {w : World} {B K M : Nat} {D : Dsk} (h : IsDisk w B K M D) (i : Nat) : ∀ k, i + k ≤ D.kept.length → (runOf D i k).length = 64 * k ∧ ∀ x ∈ runOf D i k, 0 ≤ x ∧ x ≤ 255
  | 0, _ => ⟨rfl, by simp [runOf]⟩
  | k + 1, hk => by
    have ih := runOf_length h i k (by omega)
    have hs := sec_Sec h (i := i + k) (by omega)
    unfold runOf
    refine ⟨by rw [List.length_append, ih.1, hs.1]; omega, fun x hx => ?_⟩
    rcases List.mem_append.1 hx with hx | hx
    · exact ih.2 x hx
    · exact hs.2 x hx
theorem runOf_take (D : Dsk) (i : Nat) {w : World} {B K M : Nat} (h : IsDisk w B K M D) : ∀ (d k m : Nat), i + (k + d) ≤ D.kept.length → m ≤ 64 * k → (runOf D i (k + d)).take m = (runOf D i k).take m
  | 0, k, m, _, _ => rfl
  | d + 1, k, m, hl, hm => by
    have := (runOf_length h i (k + d) (by omega)).1
    rw [← Nat.add_assoc, runOf, List.take_append_of_le_length (by omega)]
    exact runOf_take D i h d k m (by omega) hm

/-- append of a row that reads onto a row of the call's own -/
theorem own_append {w0 W : World} {base n : Nat} {v : Value} {xs : List Int} (ho : W.ownsRow base 5 1 v n (byt xs)) (hB : Below base w0 W) (hbase : base ≤ W.heap.size) {ad : Addr} {m : Nat} {ys : List Int} (hy : (Kd.int .u8).C W (some ad) m ys) (hn : n + m ≤ 2000000) (c : Nat) (ty : TypeId) (hm : 0 < m) :
    ∃ A1 c1 W1, (Builtin.append_ #[32, 32] ty #[v, .slice (some ad) m c]).run Tryd.prog W = .ok (.slice A1 (n + m) c1) W1 ∧ W1.ownsRow base 5 1 (.slice A1 (n + m) c1) (n + m) (byt (xs ++ ys)) ∧ Below base w0 W1 := by
  obtain ⟨ti, hti, hz⟩ := Option.map_eq_some_iff.1 info_u8
  simp only [Prod.mk.injEq] at hz
  obtain ⟨hz0, hz1, hz2⟩ := hz
  have hml : 2000000 ≤ maxLen := by unfold maxLen; omega
  have hyl : ys.length = m := hy.1
  have hc : ∀ j u, (byt ys)[j]? = some u → W.cell? (ad.add j) = some u := by
    intro j u hj
    obtain ⟨ad', e, hx⟩ := Kd.at_int hy (j : Int) (by omega) (by have := (List.getElem?_eq_some_iff.1 hj).1; rw [byt_length] at this; omega)
    obtain rfl := Option.some.inj e
    rw [Int.toNat_natCast] at hx
    rw [hx]
    rw [byt, List.getElem?_map] at hj
    obtain ⟨y, hy2, rfl⟩ := Option.map_eq_some_iff.1 hj
    unfold rd; rw [Int.toNat_natCast, List.getD_eq_getElem?_getD, hy2]; rfl
  obtain ⟨v1, W1, r1, r2, r3, r4⟩ := run_append_own (P := Tryd.prog) (w := W) base 32 ty 5 ti (.int .u8 0) 1 1 Tryd.underlying32 hti hz0 hz1 hz2 rfl (by decide) v n (byt xs) ho ad m c (byt ys) (by rw [byt_length]; omega) hc byt_one (by omega) (by omega) hbase
  have e2 : byt (xs ++ ys) = byt xs ++ byt ys := by simp [byt]
  obtain ⟨g, cap, rfl⟩ := Go.Joins.ownsRow_form r2 (by omega)
  exact ⟨some ⟨g, 0, none⟩, cap, W1, r1, by rw [e2]; exact r2, hB.grown r3 hbase (own_base ho)⟩
def ReadPost2 (D : Dsk) (i m : Nat) (w : World) (e : Ending) (w' : World) : Prop :=
  ∃ A c, e = .returned (.tuple #[.slice A m c, .int .i64 0]) ∧ m ≤ c ∧ (Kd.int .u8).C w' A m ((runOf D i (halfOf D)).take m) ∧ (∀ ad, A = some ad → w.heap.size ≤ ad.block) ∧ Below w.heap.size w w'

set_option maxHeartbeats 8000000 in
set_option maxRecDepth 100000 in
theorem read_calls (B K M : Nat) (D : Dsk) (slot m : Nat) (w : World) (h : IsDisk w B K M D) (h4 : 4 ≤ D.kept.length) (hl : D.left ≠ 0) (hs : slot ≤ 1) (hm : m ≤ 64 * halfOf D) :
    Calls Tryd.prog 59 #[.pointer (some ⟨B, 0, none⟩), .int .i64 slot, .int .i64 m] w (ReadPost2 D (fromOf D slot) m w) := by
  obtain ⟨ti, hti, hz⟩ := Option.map_eq_some_iff.1 info_u8
  simp only [Prod.mk.injEq] at hz
  obtain ⟨hz0, hz1, hz2⟩ := hz
  have hhl := half_le h
  have hin : fromOf D slot + halfOf D ≤ D.kept.length := by
    unfold fromOf halfOf
    rcases (by omega : slot = 0 ∨ slot = 1) with rfl | rfl <;> omega
  have h2 : 2 ≤ D.kept.length := by omega
  have hfl : fromOf D slot ≤ 600 := by have := h.few; omega
  have H := Aside0.mk h
  replace h4 := Aside0.mk h4; replace h2 := Aside0.mk h2; replace hz0 := Aside0.mk hz0; replace hz1 := Aside0.mk hz1; replace hz2 := Aside0.mk hz2; replace hti := Aside0.mk hti
  clear h
  go_enter Tryd.func59, Tryd.ntmps59
  go_wp2_with fail
  refine (from_calls B K M D slot w H.out h2.out hs).mono ?_
  rintro e w' ⟨rfl, rfl⟩
  rw [show (2 + slot * halfOf D : Nat) = fromOf D slot from rfl]
  obtain ⟨i0, hi0⟩ : ∃ i0, fromOf D slot = i0 := ⟨_, rfl⟩
  rw [hi0] at hin hfl ⊢
  replace hi0 := Aside0.mk hi0
  go_wp2_with fail
  go_loopw [8, 9] (fun o i wr => ∃ (k : Nat), i = .int .i64 ((i0 + k : Nat) : Int) ∧ k ≤ halfOf D ∧ slLen o = 64 * k ∧ (∃ A c, o = .slice A (64 * k) c) ∧ Aside0 (wr.ownsRow w.heap.size 5 1 o (64 * k) (byt (runOf D i0 k))) ∧ Aside0 (Below w.heap.size w wr))
    (fun o _ _ => 20000 - slLen o)
  case atStart => exact ⟨0, by simp, Nat.zero_le _, rfl, ⟨_, _, rfl⟩, ⟨own_nil _ _ _ _⟩, ⟨Below.refl _ _⟩⟩
  case round =>
    obtain ⟨k, rfl, hk, hsl, ⟨A, c, rfl⟩, hO, hB⟩ := hrel
    by_cases hlt : 64 * k < m
    · have hk1 : k < halfOf D := by omega
      have hlt' : ((64 * k : Nat) : Int) < (m : Int) := by omega
      obtain ⟨z, hz⟩ : ∃ z, 64 * k = z := ⟨_, rfl⟩
      rw [hz] at hO hlt' ⊢
      have hkk : i0 + k < D.kept.length := by omega
      have hS : Sec (D.sec ((i0 + k : Nat) : Int)) := sec_Sec H.out hkk
      have hrd : D.rdErr ((i0 + k : Nat) : Int) = 0 := by
        unfold Dsk.rdErr
        rw [if_pos (by unfold Dsk.has; simp; omega), if_neg hl]
      have hrun : runOf D i0 (k + 1) = runOf D i0 k ++ D.sec ((i0 + k : Nat) : Int) := rfl
      have Hr := H.out.below hB.out
      obtain ⟨ii, hii⟩ : ∃ ii : Int, ((i0 + k : Nat) : Int) = ii := ⟨_, rfl⟩
      have hi2 : 0 ≤ ii ∧ ii ≤ 2000 := by omega
      have hi3 : ii + 1 = ((i0 + (k + 1) : Nat) : Int) := by omega
      rw [hii] at hS hrd hrun ⊢
      obtain ⟨ys, hys⟩ : ∃ ys, D.sec ii = ys := ⟨_, rfl⟩
      rw [hys] at hS hrun
      obtain ⟨hi20, hi21⟩ := hi2
      replace hz := Aside0.mk hz; replace hkk := Aside0.mk hkk; replace hrd := Aside0.mk hrd; replace hrun := Aside0.mk hrun; replace Hr := Aside0.mk Hr; replace hii := Aside0.mk hii; replace hys := Aside0.mk hys; replace hS := Aside0.mk hS; replace hi3 := Aside0.mk hi3
      go_wp2_with fail
      refine (Read_calls B K M D ii wr Hr.out).mono ?_
      rintro e w2 ⟨v, rfl, hs2, _, hb2⟩
      rw [hrd.out] at hs2 ⊢
      obtain ⟨gg, hs2, hg1, hg2⟩ := hs2 rfl
      rw [hys.out] at hs2
      obtain ⟨off, cc, rfl, hcc, hx⟩ := hs2
      rw [hS.out.1]
      have hy : (Kd.int .u8).C w2 (some ⟨gg, off, none⟩) 64 ys := SlRow.c hx hS.out.1 (by omega)
      have ho2 := own_move hO.out (fun q hq => hb2.block q (own_lt hO.out q hq))
      have hB2 := below_step hB.out hb2
      obtain ⟨A1, c1, W1, q1, q2, q3⟩ := own_append ho2 hB2 hB2.size hy (by omega) cc 32 (by decide)
      rw [← hrun.out] at q2
      replace q2 := Aside0.mk q2; replace q3 := Aside0.mk q3; replace hy := Aside0.mk hy; replace ho2 := Aside0.mk ho2; replace hB2 := Aside0.mk hB2; replace hb2 := Aside0.mk hb2; replace hx := Aside0.mk hx
      go_wp2_with ((with_reducible refine gate_op (.call ⟨.builtin .append, #[.tmp 30, .tmp 31], #[32, 32]⟩) rfl ?_); refine Lib.wpList_append_run _ rfl (.tmp 30) (.tmp 31) 32 32 rfl _ _ rfl rfl _ W1 q1 ?_)
      go_roundw
      case measure => show _ < _; simp only [slLen]; omega
      case rel =>
        have ez : z + 64 = 64 * (k + 1) := by have := hz.out; omega
        have q2' := q2.out
        rw [ez] at q2' ⊢
        exact ⟨k + 1, by rw [hi3.out], by omega, rfl, ⟨_, _, rfl⟩, ⟨q2'⟩, q3⟩
    · have hlt' : ¬ ((64 * k : Nat) : Int) < (m : Int) := by omega
      have hmz : m ≤ 64 * k := by omega
      have htk : (runOf D i0 (halfOf D)).take m = (runOf D i0 k).take m := by
        have := runOf_take D i0 H.out (halfOf D - k) k m (by omega) hmz
        rw [show k + (halfOf D - k) = halfOf D by omega] at this
        exact this
      obtain ⟨z, hz⟩ : ∃ z, 64 * k = z := ⟨_, rfl⟩
      rw [hz] at hO hlt' hmz ⊢
      have hrl := (runOf_length H.out i0 k (by omega)).1
      have hcap := row_cap hO.out
      obtain ⟨A', c', e, hC⟩ := bytes_of_row hO.out (by omega)
      injection e with e1 e2 e3
      subst e1
      subst e3
      have fin : ReadPost2 D i0 m w (.returned (.tuple #[.slice A m c, .int .i64 0])) wr := ⟨A, c, rfl, by omega, by rw [htk]; exact C_take0 hC m hmz, fun ad e => own_base hO.out _ (by rw [e]; rfl), hB.out⟩
      rw [← hi0.out] at fin
      have i1 : (0 : Int) ≤ (m : Int) := by omega
      have i2 : (m : Int) ≤ (z : Int) := by omega
      have i3 : (m : Int) ≤ (c : Int) := by omega
      replace hO := Aside0.mk hO; replace hC := Aside0.mk hC; replace hz := Aside0.mk hz; replace htk := Aside0.mk htk; replace fin := Aside0.mk fin; replace hrl := Aside0.mk hrl
      clear hlt
      go_wp2_with fail
      go_ret2
      exact fin.out
end Go.Proofs.YtiibfboendnifaaDoor.Sl
