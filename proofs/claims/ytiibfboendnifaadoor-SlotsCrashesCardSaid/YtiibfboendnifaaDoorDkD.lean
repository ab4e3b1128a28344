/- Write of package disk. -/
import Derived.Test.YtiibfboendnifaaDoorDkC
namespace Go.Proofs.YtiibfboendnifaaDoor.Dk
set_option linter.unusedVariables false
set_option linter.unusedSimpArgs false
open Go.RowKit Go.Proofs.Bk Go.Proofs.Bm Go.Proofs.YtiibfboendnifaaDoorW.PrintWords

/-- a row that is read, in no block of F -/
structure CF (F : Nat → Prop) (k : IntKind) (w : World) (A : Option Addr) (n : Nat) (xs : List Int) : Prop where
  c : Kd.C (Kd.int k) w A n xs
  far : ∀ ad, A = some ad → 0 < n → ¬ F ad.block
theorem Kd_C_keep {k : IntKind} {F : Nat → Prop} {w w' : World} {A : Option Addr} {n : Nat} {xs : List Int} (h : Kd.C (Kd.int k) w A n xs) (hf : ∀ ad, A = some ad → 0 < n → ¬ F ad.block) (hk : KeepF F w w') : Kd.C (Kd.int k) w' A n xs := by
  refine ⟨h.1, h.2.1, fun hn => ?_⟩
  obtain ⟨ad, e, hc⟩ := h.2.2 hn
  refine ⟨ad, e, fun j p hj => ?_⟩
  obtain ⟨c, h1, h2, h3⟩ := hc j p hj
  refine ⟨c, h1, h2, fun i u hu => ?_⟩
  have h4 := h3 i u hu
  have hb : (ad.add (j * (Kd.int k).sz + i)).block = ad.block := by unfold Addr.add; split <;> rfl
  have hlt := World.block_lt_of_cell? w _ h4
  rw [hb] at hlt
  exact (World.cell?_of_block (w := w) (w' := w') (by rw [hb]; exact hk.block _ hlt (hf ad e hn))).trans h4
theorem CF.keep {k : IntKind} {F G : Nat → Prop} {w w' : World} {A : Option Addr} {n : Nat} {xs : List Int} (h : CF F k w A n xs) (hk : KeepF G w w') (hG : ∀ i, G i → F i) : CF F k w' A n xs :=
  ⟨Kd_C_keep h.c (fun ad e hn hg => h.far ad e hn (hG _ hg)) hk, h.far⟩
theorem CF.at_ {k : IntKind} {F : Nat → Prop} {w : World} {A : Option Addr} {n : Nat} {xs : List Int} (h : CF F k w A n xs) (hn : 0 < n) : ∃ ad, A = some ad ∧ ∀ (j : Nat) x, xs[j]? = some x → w.cell? (ad.add j) = some (.int k x) := by
  obtain ⟨ad, e, hc⟩ := h.c.2.2 hn
  refine ⟨ad, e, fun j x hj => ?_⟩
  obtain ⟨c, h1, h2, h3⟩ := hc j x hj
  have h2' : c = [.int k x] := h2
  subst h2'
  have := h3 0 _ rfl
  rw [show j * (Kd.int k).sz + 0 = j from (by show j * 1 + 0 = j; omega)] at this
  exact this

def pad (bs : List Int) : List Int := bs ++ List.replicate (64 - bs.length) 0
theorem pad_sec {bs : List Int} (hl : bs.length ≤ 64) (hb : ∀ x ∈ bs, 0 ≤ x ∧ x ≤ 255) : Sec (pad bs) := by
  refine ⟨by simp [pad]; omega, fun x hx => ?_⟩
  rcases List.mem_append.1 hx with h | h
  · exact hb x h
  · have := (List.mem_replicate.1 h).2; omega
theorem splice_pad (bs : List Int) (hl : bs.length ≤ 64) : splice (byt zeros) 0 (byt bs) = byt (pad bs) := by
  unfold splice
  rw [List.take_zero, List.nil_append, Nat.zero_add, byt_length]
  unfold byt pad zeros
  rw [List.map_append, ← List.map_drop, List.drop_replicate]

def Dsk.wrErr (D : Dsk) (i : Int) (bs : List Int) : Int := if D.left = 0 then 19 else if D.has i then (if bs.length > 64 then 22 else 0) else 6
def Dsk.wrt (D : Dsk) (i : Int) (bs : List Int) : Dsk := if D.wrErr i bs = 0 then { D.tick with waits := aset D.waits i (pad bs) } else D.tick
def WritePost (B K M : Nat) (D : Dsk) (i : Int) (bs : List Int) (w : World) (e : Ending) (w' : World) : Prop :=
  e = .returned (.int .i64 (D.wrErr i bs)) ∧ IsDisk w' B K M (D.wrt i bs) ∧ KeepF (FD B K M) w w'

theorem IsDisk.setWait {w : World} {B K M : Nat} {D : Dsk} (h : IsDisk w B K M D) {i : Int} {s : List Int} {ob : Obj} (hm : IMap .i64 secV (bset w M ob) M (aset D.waits i s)) (hi : 0 ≤ i ∧ i < D.kept.length) (hs : Sec s) :
    IsDisk (bset w M ob) B K M { D with waits := aset D.waits i s } := by
  refine ⟨(bset_other w h.bm ob).trans h.blk, (bset_other w h.km ob).trans h.kblk, hm, h.bk, h.bm, h.km, h.few, h.secs, ?_, h.lft⟩
  intro p hp
  have : ∀ l : List (Int × List Int), (∀ p ∈ l, Sec p.2 ∧ 0 ≤ p.1 ∧ p.1 < (D.kept.length : Int)) → ∀ p ∈ aset l i s, Sec p.2 ∧ 0 ≤ p.1 ∧ p.1 < (D.kept.length : Int) := by
    intro l
    induction l with
    | nil => intro _ p hp; simp [aset] at hp; subst hp; exact ⟨hs, hi⟩
    | cons q l ih =>
      intro hl p hp
      unfold aset at hp
      split at hp
      · rcases List.mem_cons.1 hp with rfl | hp
        · exact ⟨hs, hi⟩
        · exact hl p (by simp [hp])
      · rcases List.mem_cons.1 hp with rfl | hp
        · exact hl _ (by simp)
        · exact ih (fun p hp => hl p (by simp [hp])) p hp
  exact this D.waits h.wsec p hp
theorem KeepF.bset (w : World) (b : Nat) (o : Obj) : KeepF (fun k => k = b) w (bset w b o) := ⟨rfl, rfl, rfl, by rw [bset_size]; exact Nat.le_refl _, fun i hi hn => bset_other w hn o⟩

set_option maxHeartbeats 4000000 in
set_option maxRecDepth 100000 in
theorem Write_calls (B K M : Nat) (D : Dsk) (i : Int) (A : Option Addr) (n c : Nat) (bs : List Int) (w : World) (h : IsDisk w B K M D) (hr : CF (FD B K M) .u8 w A n bs) (hb : ∀ x ∈ bs, 0 ≤ x ∧ x ≤ 255) :
    Calls Tryd.prog 38 #[.pointer (some ⟨B, 0, none⟩), .int .i64 i, .slice A n c] w (WritePost B K M D i bs w) := by
  have hn : bs.length = n := hr.c.1
  have hnb := hr.c.2.1
  have H := Aside0.mk h
  have HR := Aside0.mk hr
  have HBB := Aside0.mk hb
  clear h hr hb
  by_cases h0 : D.left = 0
  · have fin : Aside0 (∀ w', IsDisk w' B K M D.tick → KeepF (FD B K M) w w' → WritePost B K M D i bs w (.returned (.int .i64 19)) w') := ⟨fun w' h1 h2 => ⟨by unfold Dsk.wrErr; rw [if_pos h0], by unfold Dsk.wrt Dsk.wrErr; rw [if_pos h0, if_neg (by omega)]; exact h1, h2⟩⟩
    have hd : decide (D.left = 0) = true := decide_eq_true h0
    clear h0
    go_enter Tryd.func38, Tryd.ntmps38
    go_wp2_with (go_at_call 62; refine (off_calls B K M D _ H.out).mono ?_; rintro e w1 ⟨rfl, h1, h2⟩; replace h1 := Aside0.mk h1; replace h2 := Aside0.mk h2; rw [hd])
    go_ret
    exact fin.out _ h1.out h2.out
  · have hd : decide (D.left = 0) = false := decide_eq_false h0
    have hth : D.tick.has i = D.has i := rfl
    by_cases hh : D.has i = true
    · by_cases hl : 64 < n
      · have fin : Aside0 (∀ w', IsDisk w' B K M D.tick → KeepF (FD B K M) w w' → WritePost B K M D i bs w (.returned (.int .i64 22)) w') := ⟨fun w' h1 h2 => by
          have e : D.wrErr i bs = 22 := by unfold Dsk.wrErr; rw [if_neg h0, if_pos hh, if_pos (by omega)]
          exact ⟨by rw [e], by unfold Dsk.wrt; rw [e, if_neg (by omega)]; exact h1, h2⟩⟩
        clear h0 hth hn
        go_enter Tryd.func38, Tryd.ntmps38
        go_wp2_with (first
          | (go_at_call 62; refine (off_calls B K M D _ H.out).mono ?_; rintro e w1 ⟨rfl, h1, h2⟩; replace h1 := Aside0.mk h1; replace h2 := Aside0.mk h2; rw [hd])
          | (go_at_call 42; refine (there_calls B K M D.tick i _ h1.out).mono ?_; rintro e w' ⟨rfl, rfl⟩; rw [show D.tick.has i = true from hh]))
        go_ret
        exact fin.out _ h1.out h2.out
      · have hin : 0 ≤ i ∧ i < (D.kept.length : Int) := by unfold Dsk.has at hh; simpa using hh
        have hl64 : bs.length ≤ 64 := by omega
        have he : D.wrErr i bs = 0 := by unfold Dsk.wrErr; rw [if_neg h0, if_pos hh, if_neg (by omega)]
        have fin : Aside0 (∀ w', IsDisk w' B K M { D.tick with waits := aset D.tick.waits i (pad bs) } → KeepF (FD B K M) w w' → WritePost B K M D i bs w (.returned (.int .i64 0)) w') := ⟨fun w' h1 h2 =>
          ⟨by rw [he], by unfold Dsk.wrt; rw [he, if_pos rfl]; exact h1, h2⟩⟩
        have hps := Aside0.mk (pad_sec hl64 HBB.out)
        have hsp := Aside0.mk (splice_pad bs hl64)
        have hsl := fun W g => (show (Instr.sliceAt 84 (.pointer (some ⟨g, 0, none⟩)) none none none).run Tryd.prog W = .ok (.slice (some ⟨g, 0, none⟩) 64 64) W by kernel_rfl)
        replace hin := Aside0.mk hin; replace hl64 := Aside0.mk hl64; replace hn := Aside0.mk hn
        clear h0 hth he
        go_enter Tryd.func38, Tryd.ntmps38
        go_wp2_with (first
          | (go_at_call 62; refine (off_calls B K M D _ H.out).mono ?_; rintro e w1 ⟨rfl, h1, h2⟩; replace h1 := Aside0.mk h1; replace h2 := Aside0.mk h2; rw [hd])
          | (go_at_call 42; refine (there_calls B K M D.tick i _ h1.out).mono ?_; rintro e w' ⟨rfl, rfl⟩; rw [show D.tick.has i = true from hh])
          | ((with_reducible refine gate_op (.alloc 84) rfl ?_); refine wpList_alloc_of rfl _ rfl rfl (zero_sector _) ?_; have h3 := Aside0.mk (CF.keep HR.out h2.out (fun _ hi => hi)))
          | ((with_reducible refine gate_op (.call ⟨.builtin .copy, #[.tmp 20, .tmp 21], #[32, 32]⟩) rfl ?_); go_must (refine wpList_copy_splice rfl (.tmp 20) (.tmp 21) 32 32 rfl 5 Tryd.underlying32 ?k1 (some ⟨w1.heap.size, 0, none⟩) A 64 64 n c rfl rfl w1.heap.size 0 (byt zeros) 84 (heap_alloc_same _ _) (byt bs) ?k2 ?k3 ?k4 byt_one w1.heap.size w1 (below_alloc (Below.refl _ _) _) (Nat.le_refl _) ?_); (case k1 => kernel_rfl); (case k2 => rw [byt_length, hn.out]; have := hl64.out; rw [hn.out] at this; exact (Nat.min_eq_left this).symm);
              (case k3 => intro hp; rw [byt_length, hn.out] at hp; obtain ⟨ad, e1, e2⟩ := h3.out.at_ hp; exact ⟨rfl, ad, e1, fun j v hj => by
                rw [byt, List.getElem?_map] at hj
                obtain ⟨x, hx, rfl⟩ := Option.map_eq_some_iff.1 hj
                exact ((below_alloc (Below.refl _ w1) _).cell (World.block_lt_of_cell? _ _ (e2 j x hx))).trans (e2 j x hx)⟩);
              (case k4 => rw [byt_length, byt_length]; have := hl64.out; show 0 + bs.length ≤ 64; omega); intro w2 hw2 hb2; rw [hsp.out] at hw2; replace hw2 := Aside0.mk hw2.out; replace hb2 := Aside0.mk hb2))
        have H2 := Aside0.mk (h1.out.below hb2.out)
        have c1 := H2.out.c1
        go_still_tail 6, (by kernel_rfl)
        refine wpStill_load_cells rfl _ _ rfl ⟨w1.heap.size, 0, none⟩ rfl (byt (pad bs)) _ (cells_row (w := w2.drew) hw2.out) Tryd.underlying84 rfl ?k5 ?_
        case k5 => rw [byt_length, hps.out.1]; exact size_sector
        repeat still_step
        refine wpStill_nil ?_
        change wpList _ _ _ _ _ w2.drew
        refine wpList_mapUpdate_imap (enc := secV) rfl _ _ _ 68 rfl Tryd.underlying68 Tryd.underlying3 M D.tick.waits i (pad bs) rfl rfl rfl (show IMap .i64 secV w2.drew M D.tick.waits from H2.out.mp) ?_
        intro ob hob
        have hD := (H2.out.drewN 1).setWait (s := pad bs) hob hin.out hps.out
        have hK : KeepF (FD B K M) w (bset w2.drew M ob) := by
          refine KeepF.trans (F' := FD B K M) h2.out (KeepF.trans (F' := fun k => k = M) (KeepF.of_below (hb2.out.drew)) (KeepF.bset _ _ _) (fun k _ hk => .inr (.inr hk))) (fun k _ hk => hk)
        replace hD := Aside0.mk hD; replace hK := Aside0.mk hK
        go_wp2
        go_ret
        exact fin.out _ hD.out hK.out
    · have hh' : D.has i = false := by simpa using hh
      have fin : Aside0 (∀ w', IsDisk w' B K M D.tick → KeepF (FD B K M) w w' → WritePost B K M D i bs w (.returned (.int .i64 6)) w') := ⟨fun w' h1 h2 => by
        have e : D.wrErr i bs = 6 := by unfold Dsk.wrErr; rw [if_neg h0, if_neg hh]
        exact ⟨by rw [e], by unfold Dsk.wrt; rw [e, if_neg (by omega)]; exact h1, h2⟩⟩
      clear h0 hh hth
      go_enter Tryd.func38, Tryd.ntmps38
      go_wp2_with (first
        | (go_at_call 62; refine (off_calls B K M D _ H.out).mono ?_; rintro e w1 ⟨rfl, h1, h2⟩; replace h1 := Aside0.mk h1; replace h2 := Aside0.mk h2; rw [hd])
        | (go_at_call 42; refine (there_calls B K M D.tick i _ h1.out).mono ?_; rintro e w' ⟨rfl, rfl⟩; rw [show D.tick.has i = false from hh']))
      go_ret
      exact fin.out _ h1.out h2.out
end Go.Proofs.YtiibfboendnifaaDoor.Dk
