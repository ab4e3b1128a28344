/- Rot of package disk. -/
import Derived.Test.YtiibfboendnifaaDoorDkG
namespace Go.Proofs.YtiibfboendnifaaDoor.Dk
set_option linter.unusedVariables false
set_option linter.unusedSimpArgs false
open Go.RowKit Go.Proofs.Bk Go.Proofs.Bm Go.Proofs.YtiibfboendnifaaDoorW.PrintWords

theorem wrap64_small (x : Int) (h0 : 0 ≤ x) (h1 : x < 1048576) : IntKind.i64.wrap x = x := by
  simp [IntKind.wrap, IntKind.bits, IntKind.signed]
  omega
/-- a byte with one bit turned over -/
def flip (v : Int) (r : Nat) : Int := bits BinOp.xor IntKind.u8 v (IntKind.u8.wrap (2 ^ r))
theorem flip_all : ∀ (v : Fin 256) (r : Fin 8), flip (flip v.val r.val) r.val = v.val ∧ flip v.val r.val ≠ v.val ∧ 0 ≤ flip v.val r.val ∧ flip v.val r.val ≤ 255 := by decide +kernel
theorem flip_spec (v : Int) (r : Nat) (h0 : 0 ≤ v) (h1 : v ≤ 255) (hr : r < 8) : flip (flip v r) r = v ∧ flip v r ≠ v ∧ 0 ≤ flip v r ∧ flip v r ≤ 255 := by
  have := flip_all ⟨v.toNat, by omega⟩ ⟨r, hr⟩
  simp only [show ((v.toNat : Nat) : Int) = v by omega] at this
  exact this
def turned (s : List Int) (b : Int) : List Int := s.set (b.tdiv 8).toNat (flip (s.getD (b.tdiv 8).toNat 0) (b.tmod 8).toNat)
def Dsk.rot (D : Dsk) (i b : Int) : Dsk := if D.has i ∧ 0 ≤ b ∧ b < 512 then { D with kept := D.kept.set i.toNat (turned (D.kept.getD i.toNat []) b) } else D
theorem keptCells_set1 (x : Int) (q : Nat) (hq : q < 64) : ∀ (k : List (List Int)) (hk : ∀ s ∈ k, Sec s) (i : Nat) (s : List Int), k[i]? = some s → keptCells (k.set i (s.set q x)) = (keptCells k).set (i * 64 + q) (.int .u8 x)
  | [], _, i, s, h => by simp at h
  | s0 :: k, hk, 0, s, h => by
    have h1 : (byt s0).length = 64 := by rw [byt_length]; exact (hk s0 (by simp)).1
    have e : s0 = s := by simpa using h
    subst e
    unfold keptCells
    simp only [List.map_cons, List.flatten_cons, List.set_cons_zero, Nat.zero_mul, Nat.zero_add]
    rw [List.set_append_left _ _ (by omega)]
    congr 1
    unfold byt; rw [List.map_set]
  | s0 :: k, hk, i + 1, s, h => by
    have h1 : (byt s0).length = 64 := by rw [byt_length]; exact (hk s0 (by simp)).1
    have ih := keptCells_set1 x q hq k (fun s hs => hk s (by simp [hs])) i s (by simpa using h)
    unfold keptCells at *
    simp only [List.map_cons, List.flatten_cons, List.set_cons_succ]
    rw [ih, List.set_append_right _ _ (by omega), h1, show (i + 1) * 64 + q - 64 = i * 64 + q by omega]
theorem Sec_set {s : List Int} (h : Sec s) (q : Nat) (x : Int) (hx : 0 ≤ x ∧ x ≤ 255) : Sec (s.set q x) := by
  refine ⟨by rw [List.length_set]; exact h.1, fun y hy => ?_⟩
  rcases List.mem_or_eq_of_mem_set hy with hy | rfl
  · exact h.2 y hy
  · exact hx
theorem IsDisk.setByte {w : World} {B K M : Nat} {D : Dsk} (h : IsDisk w B K M D) {i q : Nat} {s : List Int} {x : Int} (hi : D.kept[i]? = some s) (hq : q < 64) (hx : 0 ≤ x ∧ x ≤ 255) :
    IsDisk (w.setCell ⟨K, i * 64 + q, none⟩ (.int .u8 x)) B K M { D with kept := D.kept.set i (s.set q x) } := by
  refine ⟨?_, ?_, h.mp.of_block (Below.heap_setCell w _ _ M (Ne.symm h.km)), h.bk, h.bm, h.km, by simpa using h.few, ?_, ?_, h.lft⟩
  · rw [Below.heap_setCell w _ _ B h.bk, h.blk]; simp
  · rw [heap_set_same h.kblk, keptCells_set1 x q hq _ h.secs i s hi]; simp
  · intro y hy
    rcases List.mem_or_eq_of_mem_set hy with hy | rfl
    · exact h.secs y hy
    · exact Sec_set (h.secs _ (List.mem_of_getElem? hi)) q x hx
  · intro p hp; have := h.wsec p hp; simpa using this
def RotPost (B K M : Nat) (D : Dsk) (i b : Int) (w : World) (e : Ending) (w' : World) : Prop := e = .returned (.tuple #[]) ∧ IsDisk w' B K M (D.rot i b) ∧ KeepF (FD B K M) w w'
set_option maxHeartbeats 4000000 in
set_option maxRecDepth 100000 in
theorem Rot_calls (B K M : Nat) (D : Dsk) (i b : Int) (w : World) (h : IsDisk w B K M D) :
    Calls Tryd.prog 18 #[.pointer (some ⟨B, 0, none⟩), .int .i64 i, .int .i64 b] w (RotPost B K M D i b w) := by
  have H := Aside0.mk h
  have hlw := h.lts
  replace hlw := Aside0.mk hlw
  clear h
  by_cases hh : D.has i = true
  · by_cases hb0 : 0 ≤ b
    · by_cases hb1 : b < 512
      · have hin : 0 ≤ i ∧ i < (D.kept.length : Int) := by unfold Dsk.has at hh; simpa using hh
        obtain ⟨i1, i2⟩ := hin
        obtain ⟨q, hq⟩ : ∃ q : Nat, (q : Int) = b.tdiv 8 := ⟨(b.tdiv 8).toNat, by rw [Int.tdiv_eq_ediv_of_nonneg hb0]; omega⟩
        obtain ⟨r, hr⟩ : ∃ r : Nat, (r : Int) = b.tmod 8 := ⟨(b.tmod 8).toNat, by rw [Int.tmod_eq_emod_of_nonneg hb0]; omega⟩
        have hq0 : (q : Int) < 64 := by rw [hq, Int.tdiv_eq_ediv_of_nonneg hb0]; omega
        have hr0 : (r : Int) < 8 := by rw [hr, Int.tmod_eq_emod_of_nonneg hb0]; omega
        have hqz : 0 ≤ (q : Int) := by omega
        have hqw : IntKind.i64.wrap (b.tdiv 8) = q := by rw [← hq]; exact wrap64_small _ (by omega) (by omega)
        replace hq := Aside0.mk hq; replace hr := Aside0.mk hr; replace hqw := Aside0.mk hqw
        have c0 := H.out.c0
        obtain ⟨z, hz⟩ : ∃ z, D.kept.length = z := ⟨_, rfl⟩
        rw [hz] at c0 i2
        obtain ⟨s, hs⟩ : ∃ s, D.kept[i.toNat]? = some s := ⟨D.kept[i.toNat]'(by omega), List.getElem?_eq_getElem _⟩
        have hS : Sec s := H.out.secs _ (List.mem_of_getElem? hs)
        obtain ⟨v, hv⟩ : ∃ v, s[q]? = some v := ⟨s[q]'(by rw [hS.1]; omega), List.getElem?_eq_getElem _⟩
        have hv2 := hS.2 v (List.mem_of_getElem? hv)
        have xv : w.cell? ⟨K, i.toNat * 64 + q, none⟩ = some (.int .u8 v) := by
          rw [cell_row H.out.kblk, List.getElem?_toArray]
          refine kept_cells H.out.secs hs q _ ?_
          rw [byt, List.getElem?_map, hv]; rfl
        replace hz := Aside0.mk hz; replace hs := Aside0.mk hs; replace hS := Aside0.mk hS; replace hv := Aside0.mk hv; replace hv2 := Aside0.mk hv2
        go_enter Tryd.func18, Tryd.ntmps18
        go_wp2_with (go_at_call 42; refine (there_calls B K M D i _ H.out).mono ?_; rintro e w' ⟨rfl, rfl⟩; rw [hh])
        go_still_tail 16, (by kernel_rfl)
        rw [hqw.out]
        repeat still_step
        rw [← hr.out]
        repeat still_step
        refine wpStill_nil ?_
        change wpList _ _ _ _ _ w.drew
        have hR : Aside0 (D.rot i b = { D with kept := D.kept.set i.toNat (s.set q (flip v r)) }) := ⟨by
          unfold Dsk.rot turned
          rw [if_pos ⟨hh, hb0, hb1⟩, List.getD_eq_getElem?_getD, hs.out, ← hq.out, ← hr.out]
          simp only [Option.getD_some, Int.toNat_natCast, List.getD_eq_getElem?_getD, hv.out]⟩
        have hD := ((H.out.drewN 1).setByte hs.out (q := q) (x := flip v r) (by omega) ((flip_spec v r hv2.out.1 hv2.out.2 (by omega)).2.2))
        have hK : KeepF (FD B K M) w (w.drew.setCell ⟨K, i.toNat * 64 + q, none⟩ (.int .u8 (flip v r))) := (KeepF.drew (KeepF.refl _ w)).trans (F' := fun k => k = K) (KeepF.setCell w.drew ⟨K, i.toNat * 64 + q, none⟩ _) (fun i _ e => .inr (.inl e))
        have fin : Aside0 (RotPost B K M D i b w (.returned (.tuple #[])) (w.drew.setCell ⟨K, i.toNat * 64 + q, none⟩ (.int .u8 (flip v r)))) := ⟨⟨rfl, by rw [hR.out]; exact hD, hK⟩⟩
        clear hD hK
        have xv' : w.drew.cell? ⟨K, i.toNat * 64 + q, none⟩ = some (.int .u8 v) := xv
        have xf : w.drew.frozen? ⟨K, i.toNat * 64 + q, none⟩ = false := frozen_row (w := w) H.out.kblk _
        clear xv c0
        go_wp2
        go_end0
        exact fin.out
      · have fin : Aside0 (RotPost B K M D i b w (.returned (.tuple #[])) w) := ⟨⟨rfl, by unfold Dsk.rot; rw [if_neg (by rintro ⟨_, _, h⟩; omega)]; exact H.out, KeepF.refl _ _⟩⟩
        go_enter Tryd.func18, Tryd.ntmps18
        go_wp2_with (go_at_call 42; refine (there_calls B K M D i _ H.out).mono ?_; rintro e w' ⟨rfl, rfl⟩; rw [hh])
        go_end0
        exact fin.out
    · have fin : Aside0 (RotPost B K M D i b w (.returned (.tuple #[])) w) := ⟨⟨rfl, by unfold Dsk.rot; rw [if_neg (by rintro ⟨_, h, _⟩; omega)]; exact H.out, KeepF.refl _ _⟩⟩
      go_enter Tryd.func18, Tryd.ntmps18
      go_wp2_with (go_at_call 42; refine (there_calls B K M D i _ H.out).mono ?_; rintro e w' ⟨rfl, rfl⟩; rw [hh])
      go_end0
      exact fin.out
  · have hh' : D.has i = false := by simpa using hh
    have fin : Aside0 (RotPost B K M D i b w (.returned (.tuple #[])) w) := ⟨⟨rfl, by unfold Dsk.rot; rw [if_neg (by rintro ⟨h, _, _⟩; exact hh h)]; exact H.out, KeepF.refl _ _⟩⟩
    go_enter Tryd.func18, Tryd.ntmps18
    go_wp2_with (go_at_call 42; refine (there_calls B K M D i _ H.out).mono ?_; rintro e w' ⟨rfl, rfl⟩; rw [hh'])
    go_end0
    exact fin.out
end Go.Proofs.YtiibfboendnifaaDoor.Dk
