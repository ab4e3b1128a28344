/- The chapter's example of slots. -/
import Derived.Test.YtiibfboendnifaaDoorSlN
namespace Go.Proofs.YtiibfboendnifaaDoor.Sl
set_option linter.unusedVariables false
set_option linter.unusedSimpArgs false
open Go.RowKit Go.Proofs.Bk Go.Proofs.Bm Go.Proofs.Op Go.Proofs.YtiibfboendnifaaDoor.Dk Go.Proofs.YtiibfboendnifaaDoorW.PrintWords

/-- the caller's world w, and a store with its disk that are younger -/
structure OldS (w W : World) (S B K M : Nat) : Prop where
  bel : Below w.heap.size w W
  s : w.heap.size ≤ S
  b : w.heap.size ≤ B
  k : w.heap.size ≤ K
  m : w.heap.size ≤ M
theorem OldS.keep {w W W' : World} {S B K M : Nat} (h : OldS w W S B K M) (hk : KeepF (FS S B K M) W W') : OldS w W' S B K M :=
  ⟨h.bel.trans (hk.to_below h.bel.size (fun i hi => by rcases hi with (rfl | rfl | rfl) | rfl; exact h.b; exact h.k; exact h.m; exact h.s)), h.s, h.b, h.k, h.m⟩
theorem OldS.below {w W W' : World} {S B K M : Nat} (h : OldS w W S B K M) (hk : Below W.heap.size W W') : OldS w W' S B K M := h.keep (KeepF.of_below hk)
theorem zero_lt_tab {w : World} (h : Tab w) : 0 < w.heap.size := World.block_lt_of_cell? w _ (h 0 (by decide))

theorem inv_open {n : Nat} {D : Dsk} {h : Hd} (I : Inv n D h) : ¬ (D.kept.length < 4 ∨ D.left = 0) := by
  rintro (h1 | h1)
  · have := I.fine.len; have := I.n4; omega
  · have := I.fine.left; omega
theorem kept_sec {n : Nat} {D : Dsk} (h : Fine n D) (hw : D.waits = []) {i : Nat} (hi : i < n) : D.kept[i]? = some (D.sec (i : Int)) := by
  unfold Dsk.sec
  rw [hw, aget_nil, Int.toNat_natCast, List.getD_eq_getElem?_getD, List.getElem?_eq_getElem (by rw [h.len]; exact hi)]
  rfl
theorem one_row (x : Int) (t : TypeId) (W : World) : (Kd.int .u8).C (W.alloc (.cells #[.int .u8 x] t)) (some ⟨W.heap.size, 0, none⟩) 1 [x] := by
  refine ⟨rfl, by omega, fun _ => ⟨_, rfl, fun j p hj => ⟨[.int .u8 p], rfl, rfl, fun q u hu => ?_⟩⟩⟩
  have hi : q = 0 := by cases q with | zero => rfl | succ i => simp at hu
  subst hi
  simp at hu; subst hu
  show (W.alloc _).cell? ((⟨W.heap.size, 0, none⟩ : Addr).add (j * 1 + 0)) = _
  rw [addAt, cell_row (heap_alloc_same W _)]
  rcases j with _ | j
  · simp at hj; subst hj; rfl
  · simp at hj

theorem open_post {B K M : Nat} {n : Nat} {D : Dsk} {h : Hd} (I : Inv n D h) {w w' : World} {e : Ending} (hp : OpenPost B K M D w e w') :
    ∃ S, e = .returned (.tuple #[.pointer (some ⟨S, 0, none⟩), .int .i64 0]) ∧ w.heap.size ≤ S ∧ Sto w' S B K M D h ∧ Below w.heap.size w w' := by
  obtain ⟨v, rfl, hb, _, h2⟩ := hp
  have hno := inv_open I
  obtain ⟨S, rfl, hS, hs⟩ := h2 hno
  rw [I.open_] at hs
  exact ⟨S, by rw [if_neg (fun hh => hno (.inl hh)), if_neg (fun hh => hno (.inr hh))], hS, hs, hb⟩

set_option maxHeartbeats 8000000 in
set_option maxRecDepth 100000 in
theorem awake_calls (w : World) (hT : Tab w) : Calls Tryd.prog 9 #[] w (OkPost w) := by
  have h0 := zero_lt_tab hT
  obtain ⟨D0, hD0⟩ : ∃ D0, D0 = (⟨List.replicate 8 zeros, [], -1⟩ : Dsk) := ⟨_, rfl⟩
  have eN : (⟨List.replicate (max 0 (min (8 : Int) 512)).toNat zeros, [], -1⟩ : Dsk) = D0 := by rw [hD0]; rfl
  have I0 : Inv 8 D0 hd0 := by rw [hD0]; exact inv_new 8 (by decide) (by decide)
  have hh0 : halfOf D0 = 3 := fine_half I0.fine
  obtain ⟨D2, e1, I2, hw2, hh2⟩ := commit_fine I0 [7] (by decide) (by rw [hh0]; decide) (by rw [hh0]; decide) (by decide)
  have hE : (⟨hd0.age + 1, true, [7]⟩ : Hd) = ⟨1, true, [7]⟩ := rfl
  rw [hE] at e1 I2
  have hk5 := kept_sec I2.fine hw2 (i := 5) (by decide)
  have h7 : (D2.sec ((5 : Nat) : Int)).length = 64 → ∃ l, D2.sec ((5 : Nat) : Int) = 7 :: l := by
    intro hlen
    rcases I2.cur with ⟨h, _⟩ | ⟨slot, hs, hh, _⟩
    · cases h
    · have hm := hh.mod
      have e : slot = 1 := by have : (1 : Int) % 2 = (slot : Int) := hm; omega
      subst e
      have hf : fromOf D2 1 = 5 := by unfold fromOf; rw [hh2, hh0]
      have hi := hh.img
      rw [hf, hh2, hh0, show (3 : Nat) = 2 + 1 from rfl, runOf_cons] at hi
      cases hc : D2.sec ((5 : Nat) : Int) with
      | nil => rw [hc] at hlen; simp at hlen
      | cons a l =>
        rw [hc] at hi
        simp at hi
        exact ⟨l, by rw [hi]⟩
  replace hT := Aside0.mk hT
  replace hD0 := Aside0.mk hD0; replace eN := Aside0.mk eN; replace I0 := Aside0.mk I0; replace hh0 := Aside0.mk hh0; replace e1 := Aside0.mk e1; replace I2 := Aside0.mk I2; replace hw2 := Aside0.mk hw2; replace hh2 := Aside0.mk hh2; replace hk5 := Aside0.mk hk5; replace h7 := Aside0.mk h7
  go_enter Tryd.func9, Tryd.ntmps9
  go_wp2_with fail
  with_reducible refine (New_calls 8 w).mono ?_
  rintro e w1 ⟨B, K, M, rfl, h1, hB1, hK1, hM1, hbel⟩
  rw [eN.out] at h1
  have hT1 := hT.out.step hbel
  have hz : ¬ FD B K M 0 := by unfold FD; omega
  replace h1 := Aside0.mk h1; replace hbel := Aside0.mk hbel; replace hT1 := Aside0.mk hT1; replace hz := Aside0.mk hz
  go_wp2_with fail
  with_reducible refine (Open_calls B K M D0 w1 hT1.out h1.out hz.out).mono ?_
  intro e w2 he
  obtain ⟨S, rfl, hS, s2, hb2⟩ := open_post I0.out he
  clear he
  have O2 : OldS w w2 S B K M := ⟨below_step hbel.out hb2, Nat.le_trans hbel.out.size hS, hB1, hK1, hM1⟩
  clear hB1 hK1 hM1
  have hbA := below_alloc (Below.refl w2.heap.size w2) (.cells #[.int .u8 7] 5)
  have s3 := s2.below hbA
  have O3 := O2.below hbA
  have hC3 := one_row 7 5 w2
  have hT3 := hT.out.step O3.bel
  replace s2 := Aside0.mk s2; replace hb2 := Aside0.mk hb2; replace O2 := Aside0.mk O2; replace hbA := Aside0.mk hbA; replace s3 := Aside0.mk s3; replace O3 := Aside0.mk O3; replace hC3 := Aside0.mk hC3; replace hT3 := Aside0.mk hT3
  go_wp2_with fail
  have h48 : Aside0 (4 ≤ D0.kept.length) := ⟨by rw [I0.out.fine.len]; decide⟩
  with_reducible refine (Commit_calls S B K M D0 hd0 (some ⟨w2.heap.size, 0, none⟩) 1 1 [7] _ hT3.out s3.out h48.out hC3.out (by decide)).mono ?_
  rintro e w4 ⟨rfl, s4, k4⟩
  rw [e1.out] at s4 ⊢
  have O4 := O3.out.keep k4
  replace s4 := Aside0.mk s4; replace k4 := Aside0.mk k4; replace O4 := Aside0.mk O4
  go_wp2_with fail
  with_reducible refine (Kept_calls B K M D2 _ s4.out.dk).mono ?_
  rintro e w5 ⟨v, rfl, hR, hb5⟩
  have hl8 : D2.kept.length = 8 := I2.out.fine.len
  obtain ⟨Ak, ck, rfl, hck, hCk⟩ := Kd.R_reads hR
  rw [hl8] at hck hCk ⊢
  have hsec5 : Sec (D2.sec ((5 : Nat) : Int)) := s4.out.dk.secs _ (List.mem_of_getElem? hk5.out)
  obtain ⟨l, hl7⟩ := h7.out hsec5.1
  obtain ⟨adk, A6, c6, rfl, hx5, hc6, hC6⟩ := sec_at hCk (i := 5) (by decide) hk5.out
  rw [hsec5.1] at hx5 hc6 hC6
  have s5 := s4.out.below hb5
  have O5 := O4.out.below hb5
  replace hR := Aside0.mk hR; replace hb5 := Aside0.mk hb5; replace hck := Aside0.mk hck; replace hCk := Aside0.mk hCk; replace hsec5 := Aside0.mk hsec5; replace hl7 := Aside0.mk hl7; replace hx5 := Aside0.mk hx5; replace hC6 := Aside0.mk hC6; replace s5 := Aside0.mk s5; replace O5 := Aside0.mk O5; replace hl8 := Aside0.mk hl8
  go_wp2_with fail
  with_reducible refine (Image_calls S B K M D2 ⟨1, true, [7]⟩ _ s5.out).mono ?_
  rintro e w6 ⟨v6, rfl, hv6, hb6⟩
  obtain ⟨A7, c7, rfl, hC7⟩ := bytes_of_row hv6 rfl
  have s6 := s5.out.below hb6
  have O6 := O5.out.below hb6
  obtain ⟨ad7, rfl, y7⟩ := Kd.at_int hC7 0 (by decide) (by decide)
  have y6 := pw_cell_below hb6 hx5.out
  have y6' : w6.cell? ⟨adk.block, adk.off + 5, none⟩ = _ := y6
  have hC6' := Kd.C_below hC6.out hb6
  obtain ⟨ad6, rfl, y5⟩ := Kd.at_int hC6' 0 (by decide) (by decide)
  rw [show rd (D2.sec ((5 : Nat) : Int)) 0 = 7 from by rw [hl7.out]; rfl] at y5
  rw [show rd (⟨1, true, [7]⟩ : Hd).img 0 = 7 from rfl] at y7
  rw [show (0 : Int).toNat = 0 from rfl, show ∀ a : Addr, a.add 0 = a from fun a => rfl] at y5 y7
  have hlen7 : (⟨1, true, [7]⟩ : Hd).img.length = 1 := rfl
  have hh2' : Aside0 (64 * halfOf D2 = 192) := ⟨by rw [hh2.out, hh0.out]⟩
  have h28 : Aside0 (2 ≤ D2.kept.length) := ⟨by rw [hl8.out]; decide⟩
  replace hv6 := Aside0.mk hv6; replace hb6 := Aside0.mk hb6; replace hC7 := Aside0.mk hC7; replace s6 := Aside0.mk s6; replace O6 := Aside0.mk O6; replace hC6' := Aside0.mk hC6'
  rw [hlen7]
  go_wp2_with (first
    | (go_at_call 13; refine (Age_calls S B K M D2 ⟨1, true, [7]⟩ w6 s6.out).mono ?_; rintro e w' ⟨rfl, rfl⟩)
    | (go_at_call 19; refine (Room_calls S B K M D2 ⟨1, true, [7]⟩ w6 s6.out h28.out).mono ?_; rintro e w' ⟨rfl, rfl⟩; rw [hh2'.out]))
  go_ret
  exact ⟨rfl, O6.out.bel⟩
end Go.Proofs.YtiibfboendnifaaDoor.Sl
