/- Open of package slots. -/
import Derived.Test.YtiibfboendnifaaDoorSlI
namespace Go.Proofs.YtiibfboendnifaaDoor.Sl
set_option linter.unusedVariables false
set_option linter.unusedSimpArgs false
open Go.RowKit Go.Proofs.Bk Go.Proofs.Bm Go.Proofs.YtiibfboendnifaaDoor.Dk Go.Proofs.YtiibfboendnifaaDoorW.PrintWords

theorem hd0_ok : hd0.Ok := ⟨Int.le_refl _, by decide, (by intro x hx; cases hx), by decide⟩
theorem toldOf_ok {w : World} {B K M : Nat} {D : Dsk} (h : IsDisk w B K M D) (h4 : 4 ≤ D.kept.length) (slot : Nat) (hs : slot ≤ 1) : (toldOf D slot).Ok := by
  have hhl := half_le h
  have hrl := runOf_length h (fromOf D slot) (halfOf D) (by
    unfold fromOf halfOf
    rcases (by omega : slot = 0 ∨ slot = 1) with rfl | rfl <;> omega)
  unfold toldOf
  split
  · exact hd0_ok
  · rename_i hb
    split
    · have h1 : 1 ≤ rawAge (D.sec slot) := by
        apply Decidable.byContradiction; intro hc; exact hb (.inl (by omega))
      have h2 : rawAge (D.sec slot) ≤ 1099511627776 := by
        apply Decidable.byContradiction; intro hc; exact hb (.inr (.inl (by omega)))
      exact ⟨by show 0 ≤ rawAge _; omega, h2, fun x hx => hrl.2 x (List.mem_of_mem_take hx), by show ((runOf D _ _).take _).length ≤ _; rw [List.length_take]; omega⟩
    · exact hd0_ok
def newer (a b : Hd) : Hd := if a.age < b.age then b else a
def openK (D : Dsk) : Nat → Hd
  | 0 => hd0
  | k + 1 => newer (openK D k) (toldOf D k)
def openOf (D : Dsk) : Hd := openK D 2
def OpenPost (B K M : Nat) (D : Dsk) (w : World) (e : Ending) (w' : World) : Prop :=
  ∃ v, e = .returned (.tuple #[v, .int .i64 (if D.kept.length < 4 then 1 else if D.left = 0 then 19 else 0)]) ∧ Below w.heap.size w w' ∧
    ((D.kept.length < 4 ∨ D.left = 0) → v = .pointer none) ∧
    (¬ (D.kept.length < 4 ∨ D.left = 0) → ∃ S, v = .pointer (some ⟨S, 0, none⟩) ∧ w.heap.size ≤ S ∧ Sto w' S B K M D (openOf D))

set_option maxHeartbeats 8000000 in
set_option maxRecDepth 100000 in
theorem Open_calls (B K M : Nat) (D : Dsk) (w : World) (hT : Tab w) (h : IsDisk w B K M D) (hz : ¬ FD B K M 0) :
    Calls Tryd.prog 12 #[.pointer (some ⟨B, 0, none⟩)] w (OpenPost B K M D w) := by
  have H := Aside0.mk h
  by_cases h4 : D.kept.length < 4
  · have fin : OpenPost B K M D w (.returned (.tuple #[.pointer none, .int .i64 1])) w := ⟨_, by rw [if_pos h4], Below.refl _ _, fun _ => rfl, fun hn => absurd (.inl h4) hn⟩
    have hlt : (D.kept.length : Int) < 4 := by omega
    obtain ⟨n, hn⟩ : ∃ n, D.kept.length = n := ⟨_, rfl⟩
    rw [hn] at hlt
    replace fin := Aside0.mk fin; replace hn := Aside0.mk hn
    clear h h4 hT
    go_enter Tryd.func12, Tryd.ntmps12
    go_wp2_with (go_at_call 34; refine (Len_calls B K M D w H.out).mono ?_; rintro e w' ⟨rfl, rfl⟩; rw [hn.out])
    go_ret2
    exact fin.out
  · have h4' : 4 ≤ D.kept.length := by omega
    have hlt : ¬ (D.kept.length : Int) < 4 := by omega
    have h0s : 0 < w.heap.size := by
      have := World.block_lt_of_cell? w _ (hT 0 (by decide))
      exact this
    obtain ⟨n, hn⟩ : ∃ n, D.kept.length = n := ⟨_, rfl⟩
    rw [hn] at hlt
    replace hn := Aside0.mk hn
    have hbA := below_alloc (Below.refl w.heap.size w) (.cells #[.int .i64 0, .bool false, .slice none 0 0, .pointer (some ⟨B, 0, none⟩)] 74)
    have hfr : ¬ FD B K M w.heap.size := by have := h.lts; unfold FD; omega
    have s0 : Sto (w.alloc (.cells #[.int .i64 0, .bool false, .slice none 0 0, .pointer (some ⟨B, 0, none⟩)] 74)) w.heap.size B K M D hd0 :=
      ⟨h.below hbA, ⟨none, 0, heap_alloc_same _ _, Nat.le_refl _, Kd.C_nil _ _, (fun ad e => by cases e)⟩, hfr, hd0_ok, fun hf => by
        rcases hf with hf | hf
        · exact hz hf
        · omega⟩
    obtain ⟨w1, hw1⟩ : ∃ w1, w.alloc (.cells #[.int .i64 0, .bool false, .slice none 0 0, .pointer (some ⟨B, 0, none⟩)] 74) = w1 := ⟨_, rfl⟩
    rw [hw1] at hbA s0
    have hS1 : w.heap.size < w1.heap.size := by rw [← hw1]; simp
    have hT1 := hT.step hbA
    replace h := Aside0.mk h; replace h4 := Aside0.mk h4; replace h4' := Aside0.mk h4'; replace hT := Aside0.mk hT; replace hbA := Aside0.mk hbA; replace s0 := Aside0.mk s0; replace hT1 := Aside0.mk hT1; replace hfr := Aside0.mk hfr
    go_enter Tryd.func12, Tryd.ntmps12
    go_wp2_with (go_at_call 34; refine (Len_calls B K M D w H.out).mono ?_; rintro e w' ⟨rfl, rfl⟩; rw [hn.out])
    by_cases hl : D.left = 0
    · have fin : ∀ w', Below w.heap.size w w' → OpenPost B K M D w (.returned (.tuple #[.pointer none, .int .i64 19])) w' := fun w' hb => ⟨_, by rw [if_neg h4.out, if_pos hl], hb, fun _ => rfl, fun hn => absurd (.inr hl) hn⟩
      replace fin := Aside0.mk fin
      replace hw1 := Aside0.mk hw1
      go_loopw [14] (fun i wr => i = .int .i64 0 ∧ wr = w1) (fun _ _ => 0)
      case atStart => exact ⟨rfl, rfl⟩
      case round =>
        obtain ⟨rfl, rfl⟩ := hrel
        go_wp2_with (go_at_call 35; refine (told_calls B K M D 0 _ hT1.out s0.out.dk h4'.out (by omega)).mono ?_; rintro e w2 ⟨Hh, A, c, rfl, _, _, _, _, hb2⟩; rw [if_pos hl]; obtain ⟨n1, hn1⟩ : ∃ x, Hh.img.length = x := ⟨_, rfl⟩; have hV : hdV Hh A c = #[.int .i64 Hh.age, .bool Hh.has, .slice A n1 c] := (by unfold hdV; rw [hn1]); rw [hV]; replace hb2 := Aside0.mk hb2; replace hn1 := Aside0.mk hn1; replace hV := Aside0.mk hV)
        go_ret2
        exact fin.out _ (below_step hbA.out (below_alloc hb2.out _))
    · replace hw1 := Aside0.mk hw1
      go_loopw [14] (fun i wr => ∃ k : Nat, i = .int .i64 k ∧ k ≤ 2 ∧ Aside0 (Sto wr w.heap.size B K M D (openK D k)) ∧ Aside0 (Below w.heap.size w wr))
        (fun i _ => 2 - (intOf i).toNat)
      case atStart => exact ⟨0, rfl, by omega, s0, hbA⟩
      case round =>
        obtain ⟨k, rfl, hk, hs, hB⟩ := hrel
        by_cases hlt2 : k < 2
        · have hk2 : (k : Int) < 2 := by omega
          go_wp2_with (go_at_call 35; refine (told_calls B K M D k wr (hT.out.step hB.out) hs.out.dk h4'.out (by omega)).mono ?_; rintro e w2 ⟨Hh, A, c, rfl, hH, hc, hC, hf, hb2⟩; rw [if_neg hl]; replace hH := hH hl; have hok : Hh.Ok := (by rw [hH]; exact toldOf_ok hs.out.dk h4'.out k (by omega)); obtain ⟨a1, ha1⟩ : ∃ x, Hh.age = x := ⟨_, rfl⟩; obtain ⟨b1, hb1⟩ : ∃ x, Hh.has = x := ⟨_, rfl⟩; obtain ⟨n1, hn1⟩ : ∃ x, Hh.img.length = x := ⟨_, rfl⟩; have hV : hdV Hh A c = #[.int .i64 a1, .bool b1, .slice A n1 c] := (by unfold hdV; rw [ha1, hb1, hn1]); rw [hV]; replace hH := Aside0.mk hH; replace hc := Aside0.mk hc; replace hC := Aside0.mk hC; replace hf := Aside0.mk hf; replace hb2 := Aside0.mk hb2; replace hok := Aside0.mk hok; replace ha1 := Aside0.mk ha1; replace hb1 := Aside0.mk hb1; replace hn1 := Aside0.mk hn1; replace hV := Aside0.mk hV)
          have hbB := below_alloc (Below.refl w2.heap.size w2) (.cells #[.int .i64 a1, .bool b1, .slice A n1 c] 72)
          have s2 := (hs.out.below hb2.out).below hbB
          have hB2 := below_step (below_step hB.out hb2.out) hbB
          have hC2 := Kd.C_below hC.out hbB
          have hr0 : (w2.alloc (.cells #[.int .i64 a1, .bool b1, .slice A n1 c] 72)).heap[w2.heap.size]? = some (.cells #[.int .i64 a1, .bool b1, .slice A n1 c] 72 (0, 0)) := heap_alloc_same _ _
          have hlt3 := (s2.st).choose_spec.choose_spec.1
          obtain ⟨V, hV2⟩ : ∃ V, w2.alloc (.cells #[.int .i64 a1, .bool b1, .slice A n1 c] 72) = V := ⟨_, rfl⟩
          obtain ⟨g, hg⟩ : ∃ g, w2.heap.size = g := ⟨_, rfl⟩
          rw [hV2] at s2 hB2 hC2 hr0 hbB ⊢
          rw [hg] at hr0 ⊢
          obtain ⟨A0, c0, x0, x1, x2, x3, _⟩ := s2.cells
          obtain ⟨a0, ha0⟩ : ∃ x, (openK D k).age = x := ⟨_, rfl⟩
          rw [ha0] at x0
          have z0 : V.cell? ⟨g, 0, none⟩ = some (.int .i64 a1) := (cell_row hr0 0).trans rfl
          have z1 : V.cell? ⟨g, 1, none⟩ = some (.bool b1) := (cell_row hr0 1).trans rfl
          have z2 : V.cell? ⟨g, 2, none⟩ = some (.slice A n1 c) := (cell_row hr0 2).trans rfl
          clear x1 x2 x3 hlt3
          replace hbB := Aside0.mk hbB; replace s2 := Aside0.mk s2; replace hB2 := Aside0.mk hB2; replace hC2 := Aside0.mk hC2; replace hr0 := Aside0.mk hr0; replace hV2 := Aside0.mk hV2; replace hg := Aside0.mk hg; replace ha0 := Aside0.mk ha0
          have hkk : openK D (k + 1) = newer (openK D k) Hh := by rw [hH.out]; rfl
          have hk1 : (k : Int) + 1 = ((k + 1 : Nat) : Int) := by omega
          replace hk1 := Aside0.mk hk1
          by_cases hlt4 : a0 < a1
          · have hn4 : openK D (k + 1) = Hh := by rw [hkk]; unfold newer; rw [ha0.out, ha1.out, if_pos hlt4]
            replace hn4 := Aside0.mk hn4; replace hkk := Aside0.mk hkk
            go_wp2_with fail
            go_quiet (fail)
            have hbU : Below V.heap.size V (V.drewN nq) := pw_below_drewN (Below.refl _ _) nq
            obtain ⟨U, hU⟩ : ∃ U, V.drewN nq = U := ⟨_, rfl⟩
            rw [hU] at hbU ⊢
            have s3 := s2.out.below hbU
            have hB3 := below_step hB2.out hbU
            have hr3 := (hbU.block g (Array.getElem?_eq_some_iff.1 hr0.out).1).trans hr0.out
            have hC3 := Kd.C_below hC2.out hbU
            obtain ⟨cur, hcu, hcl, s4, k4⟩ := s3.setHead Hh A c hok.out hc.out hC3 (fun ad e => by have := hf.out ad e; exact hs.out.fresh _ this)
            rw [hV.out] at s4 k4
            have hB4 := hB3.trans (k4.to_below hB3.size (fun i hi => by omega))
            replace hcu := Aside0.mk hcu; replace hcl := Aside0.mk hcl; replace s4 := Aside0.mk s4; replace k4 := Aside0.mk k4; replace hB4 := Aside0.mk hB4; replace hbU := Aside0.mk hbU; replace s3 := Aside0.mk s3; replace hB3 := Aside0.mk hB3; replace hr3 := Aside0.mk hr3; replace hC3 := Aside0.mk hC3; replace hU := Aside0.mk hU
            go_wp2_with (first
              | ((with_reducible refine gate_op (.load 72 (.tmp 6)) rfl ?_); refine wpList_load_midB rfl _ _ rfl ⟨g, 0, none⟩ rfl [.int .i64 a1, .bool b1, .slice A n1 c] _ (cells_row hr3.out) Tryd.underlying72 rfl (size_head _ rfl) ?_)
              | ((with_reducible refine gate_op (.store 72 (.tmp 37) (.tmp 35)) rfl ?_); refine wpList_store_midB rfl _ _ _ rfl w.heap.size 0 [.int .i64 a1, .bool b1, .slice A n1 c] rfl rfl 74 cur hcu.out (size_head _ rfl) (by rw [hcl.out]; show 0 + 3 ≤ 4; omega) head_one ?_))
            go_roundw
            case measure => show 2 - ((k : Int) + 1).toNat < 2 - (k : Int).toNat; omega
            case rel => exact ⟨k + 1, by rw [hk1.out], by omega, ⟨by rw [hn4.out]; exact s4.out⟩, hB4⟩
          · have hn4 : openK D (k + 1) = openK D k := by rw [hkk]; unfold newer; rw [ha0.out, ha1.out, if_neg hlt4]
            replace hn4 := Aside0.mk hn4; replace hkk := Aside0.mk hkk
            go_wp2_with fail
            go_quiet (fail)
            have hbU : Below V.heap.size V (V.drewN nq) := pw_below_drewN (Below.refl _ _) nq
            obtain ⟨U, hU⟩ : ∃ U, V.drewN nq = U := ⟨_, rfl⟩
            rw [hU] at hbU ⊢
            have s3 := s2.out.below hbU
            have hB3 := below_step hB2.out hbU
            replace hbU := Aside0.mk hbU; replace s3 := Aside0.mk s3; replace hB3 := Aside0.mk hB3; replace hU := Aside0.mk hU
            go_wp2_with fail
            go_roundw
            case measure => show 2 - ((k : Int) + 1).toNat < 2 - (k : Int).toNat; omega
            case rel => exact ⟨k + 1, by rw [hk1.out], by omega, ⟨by rw [hn4.out]; exact s3.out⟩, hB3⟩
        · have hk2 : k = 2 := by omega
          subst hk2
          have hnl : ¬ (D.kept.length < 4 ∨ D.left = 0) := fun hh => hh.elim h4.out hl
          have fin : OpenPost B K M D w (.returned (.tuple #[.pointer (some ⟨w.heap.size, 0, none⟩), .int .i64 0])) wr :=
            ⟨_, by rw [if_neg h4.out, if_neg hl], hB.out, fun hn => absurd hn hnl, fun _ => ⟨w.heap.size, rfl, Nat.le_refl _, hs.out⟩⟩
          replace fin := Aside0.mk fin
          go_wp2_with fail
          go_ret2
          exact fin.out
end Go.Proofs.YtiibfboendnifaaDoor.Sl
