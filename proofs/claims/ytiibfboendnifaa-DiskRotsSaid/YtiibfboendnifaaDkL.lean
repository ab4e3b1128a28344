/- What the calls do to a disk that is on; the chapter's example (awake). -/
import Derived.Test.YtiibfboendnifaaDkK
import Derived.Lib.SmallJoins
namespace Go.Proofs.Ytiibfboendnifaa.Dk
set_option linter.unusedVariables false
set_option linter.unusedSimpArgs false
open Go.RowKit Go.Proofs.Bk Go.Proofs.Bm Go.Proofs.Op Go.Proofs.YtiibfboendnifaaW.PrintWords

theorem Fine.has {n : Nat} {D : Dsk} (h : Fine n D) {i : Int} (h0 : 0 ≤ i) (h1 : i < n) : D.has i = true := by
  unfold Dsk.has; rw [h.len]; simp [h0, h1]
theorem Fine.tick_eq {n : Nat} {D : Dsk} (h : Fine n D) : D.tick = D := by
  obtain ⟨k, w, l⟩ := D
  have : l = -1 := h.left
  subst this; rfl
theorem Fine.wrErr {n : Nat} {D : Dsk} (h : Fine n D) {i : Int} {bs : List Int} (h0 : 0 ≤ i) (h1 : i < n) (hb : bs.length ≤ 64) : D.wrErr i bs = 0 := by
  unfold Dsk.wrErr; rw [h.left, if_neg (by decide), if_pos (h.has h0 h1), if_neg (by omega)]
theorem Fine.wrt_eq {n : Nat} {D : Dsk} (h : Fine n D) {i : Int} {bs : List Int} (h0 : 0 ≤ i) (h1 : i < n) (hb : bs.length ≤ 64) : D.wrt i bs = { D with waits := aset D.waits i (pad bs) } := by
  unfold Dsk.wrt; rw [if_pos (h.wrErr h0 h1 hb), h.tick_eq]
theorem Fine.flErr {n : Nat} {D : Dsk} (h : Fine n D) : D.flErr = 0 := by
  unfold Dsk.flErr; rw [h.left, if_neg (by decide)]
theorem Fine.fl_eq {n : Nat} {D : Dsk} (h : Fine n D) : D.fl = { D with kept := mix D.kept D.waits [], waits := [] } := by
  unfold Dsk.fl; rw [if_neg (by rw [h.left]; decide), h.tick_eq]
theorem Fine.rdErr {n : Nat} {D : Dsk} (h : Fine n D) {i : Int} (h0 : 0 ≤ i) (h1 : i < n) : D.rdErr i = 0 := by
  unfold Dsk.rdErr; rw [if_pos (h.has h0 h1), h.left, if_neg (by decide)]
theorem crash_none {n : Nat} {D : Dsk} (h : Fine n D) (hw : D.waits = []) (kp : List Bool) : D.crash kp = D := by
  obtain ⟨k, w, l⟩ := D
  have : l = -1 := h.left
  subst this
  dsimp only at hw; subst hw
  unfold Dsk.crash Dsk.wts srt
  simp [crash1]
theorem crash_one {n : Nat} {D : Dsk} (h : Fine n D) {i : Int} {v : List Int} (hw : D.waits = [(i, v)]) (kp : List Bool) :
    D.crash kp = { D with kept := if kp.getD 0 false then D.kept.set i.toNat v else D.kept, waits := [] } := by
  obtain ⟨k, w, l⟩ := D
  have : l = -1 := h.left
  subst this
  dsimp only at hw; subst hw
  unfold Dsk.crash Dsk.wts srt
  simp only [List.map_cons, List.map_nil, List.mergeSort_singleton]
  unfold crash1 Dsk.one
  simp [aget_cons, adel, crash1]

def OkPost (w : World) (e : Ending) (w' : World) : Prop := e = .returned (.bool true) ∧ Below w.heap.size w w'
def ab : List Int := [97, 98]
theorem ab_row (t : TypeId) (W : World) (F : Nat → Prop) (hF : ¬ F W.heap.size) : CF F .u8 (W.alloc (.cells #[.int .u8 97, .int .u8 98] t (2, 3))) (some ⟨W.heap.size, 0, none⟩) 2 ab := by
  refine ⟨⟨rfl, by omega, fun _ => ⟨_, rfl, fun j p hj => ⟨[.int .u8 p], rfl, rfl, fun i u hu => ?_⟩⟩⟩, fun ad e _ => by injection e with e; subst e; exact hF⟩
  have hi : i = 0 := by cases i with | zero => rfl | succ i => simp at hu
  subst hi
  simp at hu; subst hu
  show (W.alloc _).cell? ((⟨W.heap.size, 0, none⟩ : Addr).add (j * 1 + 0)) = _
  rw [addAt, cell_row (heap_alloc_same W _)]
  rcases j with _ | _ | j
  · simp [ab] at hj; subst hj; rfl
  · simp [ab] at hj; subst hj; rfl
  · simp [ab] at hj
theorem tr_row (t : TypeId) (W : World) (F : Nat → Prop) (hF : ¬ F W.heap.size) : CG Kd.bool F (W.alloc (.cells #[.bool true] t)) (some ⟨W.heap.size, 0, none⟩) 1 [true] := by
  refine ⟨⟨rfl, by omega, fun _ => ⟨_, rfl, fun j p hj => ⟨[.bool p], rfl, rfl, fun i u hu => ?_⟩⟩⟩, fun ad e _ => by injection e with e; subst e; exact hF⟩
  have hi : i = 0 := by cases i with | zero => rfl | succ i => simp at hu
  subst hi
  simp at hu; subst hu
  show (W.alloc _).cell? ((⟨W.heap.size, 0, none⟩ : Addr).add (j * 1 + 0)) = _
  rw [addAt, cell_row (heap_alloc_same W _)]
  rcases j with _ | j
  · simp at hj; subst hj; rfl
  · simp at hj
theorem IsDisk.fresh {w : World} {B K M : Nat} {D : Dsk} (h : IsDisk w B K M D) : ¬ FD B K M w.heap.size := by
  have := h.lts; unfold FD; omega

/-- bytes from off on in block b -/
def SlRow (w : World) (b off : Nat) (xs : List Int) : Prop := ∀ (j : Nat) x, xs[j]? = some x → w.cell? ⟨b, off + j, none⟩ = some (.int .u8 x)
theorem SlRow.keep {w w' : World} {b off : Nat} {xs : List Int} {F : Nat → Prop} (h : SlRow w b off xs) (hk : KeepF F w w') (hb : b < w.heap.size) (hF : ¬ F b) : SlRow w' b off xs :=
  fun j x hj => (World.cell?_of_block (w := w) (a := ⟨b, off + j, none⟩) (hk.block b hb hF)).trans (h j x hj)
set_option maxHeartbeats 4000000 in
set_option maxRecDepth 100000 in
theorem awake_calls (w : World) : Calls Try.prog 7 #[] w (OkPost w) := by
  have hcv : ∀ (W : World) (n c : Nat), (convert 23 23 (.slice (some ⟨W.heap.size, 0, none⟩) n c)).run Try.prog (W.alloc (.cells #[.int .u8 97, .int .u8 98] 5)) = .ok (.slice (some ⟨W.heap.size, 0, none⟩) n c) (W.alloc (.cells #[.int .u8 97, .int .u8 98] 5 (2, 3))) := fun W n c => Lib.run_convert_bytes_const W 23 5 _ n c Try.underlying23 Try.underlying5
  obtain ⟨D0, hD0⟩ : ∃ D0, D0 = (⟨[zeros, zeros, zeros], [], -1⟩ : Dsk) := ⟨_, rfl⟩
  obtain ⟨D1, hD1⟩ : ∃ D1, D1 = (⟨[zeros, pad ab, zeros], [], -1⟩ : Dsk) := ⟨_, rfl⟩
  have F0 : Fine 3 D0 := by subst hD0; exact ⟨rfl, rfl⟩
  have F1 : Fine 3 D1 := by subst hD1; exact ⟨rfl, rfl⟩
  have eN : (⟨List.replicate (max 0 (min (3 : Int) 512)).toNat zeros, [], -1⟩ : Dsk) = D0 := by subst hD0; rfl
  have eE : D0.wrErr 1 ab = 0 := F0.wrErr (by decide) (by decide) (by decide)
  have eW : D0.wrt 1 ab = { D0 with waits := [(1, pad ab)] } := by rw [F0.wrt_eq (by decide) (by decide) (by decide)]; subst hD0; rfl
  have FW : Fine 3 { D0 with waits := [(1, pad ab)] } := ⟨F0.left, F0.len⟩
  have eC0 : (D0.wrt 1 ab).crash [] = D0 := by rw [eW, crash_one FW rfl]; subst hD0; rfl
  have eC1 : (D0.wrt 1 ab).crash [true] = D1 := by rw [eW, crash_one FW rfl]; subst hD0 hD1; rfl
  have eR0 : D0.rdErr 1 = 0 := F0.rdErr (by decide) (by decide)
  have eR1 : D1.rdErr 1 = 0 := F1.rdErr (by decide) (by decide)
  have eS0 : D0.sec 1 = zeros := by subst hD0; rfl
  have eS1 : D1.sec 1 = pad ab := by subst hD1; rfl
  replace hD0 := Aside0.mk hD0; replace hD1 := Aside0.mk hD1; replace F0 := Aside0.mk F0; replace F1 := Aside0.mk F1; replace eN := Aside0.mk eN; replace eE := Aside0.mk eE; replace eW := Aside0.mk eW; replace FW := Aside0.mk FW; replace eC0 := Aside0.mk eC0; replace eC1 := Aside0.mk eC1; replace eR0 := Aside0.mk eR0; replace eR1 := Aside0.mk eR1; replace eS0 := Aside0.mk eS0; replace eS1 := Aside0.mk eS1
  go_enter Try.func7, Try.ntmps7
  go_wp2_with (go_at_call 20; refine (New_calls 3 w).mono ?_; rintro e w1 ⟨B, K, M, rfl, h1, hB1, hK1, hM1, hbel⟩; rw [eN.out] at h1; replace hbel := Aside0.mk (show Old w w1 B K M from ⟨hbel, hB1, hK1, hM1⟩); clear hB1 hK1 hM1; have hr1 := ab_row 5 w1 (FD B K M) h1.fresh; have h2 := h1.below (below_alloc (Below.refl _ w1) (.cells #[.int .u8 97, .int .u8 98] 5 (2, 3))); have hO2 := hbel.out.below (below_alloc (Below.refl _ w1) (.cells #[.int .u8 97, .int .u8 98] 5 (2, 3))); replace h1 := Aside0.mk h1; replace hr1 := Aside0.mk hr1; replace h2 := Aside0.mk h2; replace hO2 := Aside0.mk hO2)
  go_wp2_with (go_at_call 10; refine (Write_calls B K M D0 1 (some ⟨w1.heap.size, 0, none⟩) 2 2 ab _ h2.out hr1.out (by decide)).mono ?_; rintro e w2 ⟨rfl, h3, hk3⟩; have hO3 := hO2.out.keep hk3; rw [eE.out]; have hr3 : CG Kd.bool (FD B K M) w2 none 0 [] := ⟨Kd.C_nil _ _, fun ad e _ => by cases e⟩; replace h3 := Aside0.mk h3; replace hk3 := Aside0.mk hk3; replace hO3 := Aside0.mk hO3; replace hr3 := Aside0.mk hr3)
  go_wp2_with (go_at_call 13; refine (Crash_calls B K M (D0.wrt 1 ab) none 0 0 [] _ h3.out hr3.out).mono ?_; rintro e w3 ⟨rfl, h4, hk4⟩; have hO4 := hO3.out.keep hk4; rw [eC0.out] at h4; replace h4 := Aside0.mk h4; replace hk4 := Aside0.mk hk4; replace hO4 := Aside0.mk hO4)
  go_wp2_with (go_at_call 14; refine (Read_calls B K M D0 1 _ h4.out).mono ?_; rintro e w4 ⟨v1, rfl, hs1, _, hb5⟩; rw [eR0.out] at hs1 ⊢; obtain ⟨g1, hs1, hg1, hg1'⟩ := hs1 rfl; rw [eS0.out] at hs1; obtain ⟨f1, d1, rfl, hd1, hx1⟩ := hs1; change SlRow w4 g1 f1 zeros at hx1; have h5 := h4.out.below hb5; have hO5 := hO4.out.below hb5; have hr6 := ab_row 5 w4 (FD B K M) h5.fresh; have h6 := h5.below (below_alloc (Below.refl _ w4) (.cells #[.int .u8 97, .int .u8 98] 5 (2, 3))); have hO6 := hO5.below (below_alloc (Below.refl _ w4) (.cells #[.int .u8 97, .int .u8 98] 5 (2, 3))); replace hd1 := Aside0.mk hd1; replace hx1 := Aside0.mk hx1; replace h5 := Aside0.mk h5; replace hO5 := Aside0.mk hO5; replace hb5 := Aside0.mk hb5; replace hg1 := Aside0.mk hg1; replace hg1' := Aside0.mk hg1'; replace hr6 := Aside0.mk hr6; replace h6 := Aside0.mk h6; replace hO6 := Aside0.mk hO6; rw [show zeros.length = 64 from rfl])
  go_wp2_with (go_at_call 10; refine (Write_calls B K M D0 1 (some ⟨w4.heap.size, 0, none⟩) 2 2 ab _ h6.out hr6.out (by decide)).mono ?_; rintro e w5 ⟨rfl, h7, hk7⟩; have hO7 := hO6.out.keep hk7; rw [eE.out]; have hr8 := tr_row 4 w5 (FD B K M) h7.fresh; have h8 := h7.below (below_alloc (Below.refl _ w5) (.cells #[.bool true] 4)); have hO8 := hO7.below (below_alloc (Below.refl _ w5) (.cells #[.bool true] 4)); replace h7 := Aside0.mk h7; replace hk7 := Aside0.mk hk7; replace hO7 := Aside0.mk hO7; replace hr8 := Aside0.mk hr8; replace h8 := Aside0.mk h8; replace hO8 := Aside0.mk hO8)
  go_wp2_with (go_at_call 13; refine (Crash_calls B K M (D0.wrt 1 ab) (some ⟨w5.heap.size, 0, none⟩) 1 1 [true] _ h8.out hr8.out).mono ?_; rintro e w6 ⟨rfl, h9, hk9⟩; have hO9 := hO8.out.keep hk9; rw [eC1.out] at h9; replace h9 := Aside0.mk h9; replace hk9 := Aside0.mk hk9; replace hO9 := Aside0.mk hO9)
  go_wp2_with (go_at_call 14; refine (Read_calls B K M D1 1 _ h9.out).mono ?_; rintro e w7 ⟨v2, rfl, hs2, _, hb10⟩; rw [eR1.out] at hs2 ⊢; obtain ⟨g2, hs2, hg2, hg2'⟩ := hs2 rfl; rw [eS1.out] at hs2; obtain ⟨f2, d2, rfl, hd2, hx2⟩ := hs2; change SlRow w7 g2 f2 (pad ab) at hx2; have hO10 := hO9.out.below hb10; have hq : SlRow w7 g1 f1 zeros := hx1.out.keep (F := FD B K M) ((((KeepF.of_below (below_alloc (Below.refl _ w4) _)).trans hk7.out (fun _ _ h => h)).trans (KeepF.of_below (below_alloc (Below.refl _ w5) (.cells #[.bool true] 4)) (F := FD B K M)) (fun _ _ h => h)).trans ((hk9.out).trans (KeepF.of_below hb10) (fun _ _ h => h)) (fun _ _ h => h)) hg1'.out (fun hf => by have := h4.out.lts; have := hg1.out; unfold FD at hf; omega); have x1 : w7.cell? ⟨g1, f1, none⟩ = some (.int .u8 0) := hq 0 0 rfl; have y1 : w7.cell? ⟨g2, f2, none⟩ = some (.int .u8 97) := hx2 0 97 rfl; have y2 : w7.cell? ⟨g2, f2 + 1, none⟩ = some (.int .u8 98) := hx2 1 98 rfl; have y3 : w7.cell? ⟨g2, f2 + 2, none⟩ = some (.int .u8 0) := hx2 2 0 rfl; replace hd2 := Aside0.mk hd2; replace hx2 := Aside0.mk hx2; replace hb10 := Aside0.mk hb10; replace hO10 := Aside0.mk hO10; replace hg2 := Aside0.mk hg2; replace hg2' := Aside0.mk hg2'; replace hq := Aside0.mk hq; rw [show (pad ab).length = 64 from rfl])
  go_ret
  exact ⟨rfl, hO10.out.bel⟩
end Go.Proofs.Ytiibfboendnifaa.Dk
