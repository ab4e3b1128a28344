/- Of disks that are on; rows of bytes; what a crash does: no program's text is walked here. Kept of package disk: all sectors, as they are kept. What a crash keeps, sector by sector; lists of sectors that are handed out. -/
import Derived.Test.YtiibfboendnifaaDoorDk1
import Derived.Lib.SmallJoins
namespace Go.Proofs.YtiibfboendnifaaDoor.Dk
set_option linter.unusedVariables false
set_option linter.unusedSimpArgs false
open Go.RowKit Go.Proofs.Bk Go.Proofs.Bm Go.Proofs.Op Go.Proofs.YtiibfboendnifaaDoorW.PrintWords

/-- the caller's world w0, and a disk that is younger -/
structure Old (w0 w : World) (B K M : Nat) : Prop where
  bel : Below w0.heap.size w0 w
  b : w0.heap.size ≤ B
  k : w0.heap.size ≤ K
  m : w0.heap.size ≤ M
theorem Old.keep {w0 w w' : World} {B K M : Nat} (h : Old w0 w B K M) (hk : KeepF (FD B K M) w w') : Old w0 w' B K M :=
  ⟨h.bel.trans (hk.to_below h.bel.size (fun i hi => by rcases hi with rfl | rfl | rfl; exact h.b; exact h.k; exact h.m)), h.b, h.k, h.m⟩
theorem Old.below {w0 w w' : World} {B K M : Nat} (h : Old w0 w B K M) (hk : Below w.heap.size w w') : Old w0 w' B K M :=
  h.keep (KeepF.of_below hk)
theorem row_old {α : Type} {enc : α → Value} {h1 : ∀ x, (enc x).oneCell' = true} {w : World} {ad : Addr} {n : Nat} {xs : List α} (h : (Kd.scalar enc h1).C w (some ad) n xs) (hn : 0 < n) : ad.block < w.heap.size := by
  obtain ⟨ad', e, hc⟩ := h.2.2 hn
  injection e with e; subst e
  have hl : xs.length = n := h.1
  obtain ⟨cs, hc1, hc2, hc3⟩ := hc 0 (xs[0]'(by omega)) (List.getElem?_eq_getElem _)
  have hc2' : cs = [enc (xs[0]'(by omega))] := hc2
  rw [hc2'] at hc3
  have := World.block_lt_of_cell? w _ (hc3 0 _ rfl)
  have e : (ad.add (0 * (Kd.scalar enc h1).sz + 0)) = ad := by unfold Addr.add; simp
  rw [e] at this; exact this
theorem Old.cg {α : Type} {enc : α → Value} {h1 : ∀ x, (enc x).oneCell' = true} {w0 w : World} {B K M : Nat} {A : Option Addr} {n : Nat} {xs : List α} (h : Old w0 w B K M) (hr : (Kd.scalar enc h1).C w0 A n xs) : CG (Kd.scalar enc h1) (FD B K M) w A n xs := by
  refine ⟨Kd.C_below hr h.bel, fun ad e hn hg => ?_⟩
  subst e
  have := row_old hr hn
  have := h.b; have := h.k; have := h.m
  unfold FD at hg; omega
theorem Old.cf {w0 w : World} {B K M : Nat} {k : IntKind} {A : Option Addr} {n : Nat} {xs : List Int} (h : Old w0 w B K M) (hr : (Kd.int k).C w0 A n xs) : CF (FD B K M) k w A n xs :=
  ⟨(h.cg hr).c, (h.cg hr).far⟩

/-- the disk is on, and has n sectors -/
structure Fine (n : Nat) (D : Dsk) : Prop where
  left : D.left = -1
  len : D.kept.length = n
theorem Fine.tick {n : Nat} {D : Dsk} (h : Fine n D) : Fine n D.tick := ⟨by unfold Dsk.tick; rw [h.left]; rfl, h.len⟩
theorem Fine.wrt {n : Nat} {D : Dsk} (h : Fine n D) (i : Int) (bs : List Int) : Fine n (D.wrt i bs) := by
  unfold Dsk.wrt
  split
  · exact ⟨h.tick.left, h.tick.len⟩
  · exact h.tick
theorem Fine.fl {n : Nat} {D : Dsk} (h : Fine n D) : Fine n D.fl := by
  unfold Dsk.fl
  split
  · exact h.tick
  · exact ⟨h.tick.left, by show (mix D.kept D.waits []).length = n; rw [mix_length]; exact h.len⟩
theorem crash1_len (keep : List Bool) : ∀ (l : List Int) (D : Dsk) (n : Nat), (crash1 keep D l n).kept.length = D.kept.length
  | [], _, _ => rfl
  | i :: l, D, n => by
    unfold crash1
    rw [crash1_len keep l]
    unfold Dsk.one
    dsimp only
    split <;> simp
theorem Fine.crash {n : Nat} {D : Dsk} (h : Fine n D) (kp : List Bool) : Fine n (D.crash kp) := ⟨rfl, by unfold Dsk.crash; show (crash1 kp D D.wts 0).kept.length = n; rw [crash1_len]; exact h.len⟩
theorem Fine.rot {n : Nat} {D : Dsk} (h : Fine n D) (i b : Int) : Fine n (D.rot i b) := by
  unfold Dsk.rot
  split
  · exact ⟨h.left, by simpa using h.len⟩
  · exact h
theorem Fine.has {n : Nat} {D : Dsk} (h : Fine n D) {i : Int} (h0 : 0 ≤ i) (h1 : i < n) : D.has i = true := by
  unfold Dsk.has; rw [h.len]; simp [h0, h1]
theorem Fine.tick_eq {n : Nat} {D : Dsk} (h : Fine n D) : D.tick = D := by
  obtain ⟨k, w, l⟩ := D
  have : l = -1 := h.left
  subst this; rfl
theorem Fine.wrErr {n : Nat} {D : Dsk} (h : Fine n D) {i : Int} {bs : List Int} (h0 : 0 ≤ i) (h1 : i < n) (hb : bs.length ≤ 64) : D.wrErr i bs = 0 := by
  unfold Dsk.wrErr; rw [h.left, if_neg (by decide), if_pos (h.has h0 h1), if_neg (by omega)]
theorem Fine.wrt_eq {n : Nat} {D : Dsk} (h : Fine n D) {i : Int} {bs : List Int} (h0 : 0 ≤ i) (h1 : i < n) (hb : bs.length ≤ 64) : D.wrt i bs = { D with waits := aset D.waits i (pad bs) } := by
  unfold Dsk.wrt; rw [if_pos (h.wrErr h0 h1 hb), h.tick_eq]
theorem Fine.flErr {n : Nat} {D : Dsk} (h : Fine n D) : D.flErr = 0 := by
  unfold Dsk.flErr; rw [h.left, if_neg (by decide)]
theorem Fine.fl_eq {n : Nat} {D : Dsk} (h : Fine n D) : D.fl = { D with kept := mix D.kept D.waits [], waits := [] } := by
  unfold Dsk.fl; rw [if_neg (by rw [h.left]; decide), h.tick_eq]
theorem Fine.rdErr {n : Nat} {D : Dsk} (h : Fine n D) {i : Int} (h0 : 0 ≤ i) (h1 : i < n) : D.rdErr i = 0 := by
  unfold Dsk.rdErr; rw [if_pos (h.has h0 h1), h.left, if_neg (by decide)]
theorem crash_none {n : Nat} {D : Dsk} (h : Fine n D) (hw : D.waits = []) (kp : List Bool) : D.crash kp = D := by
  obtain ⟨k, w, l⟩ := D
  have : l = -1 := h.left
  subst this
  dsimp only at hw; subst hw
  unfold Dsk.crash Dsk.wts srt
  simp [crash1]
theorem crash_one {n : Nat} {D : Dsk} (h : Fine n D) {i : Int} {v : List Int} (hw : D.waits = [(i, v)]) (kp : List Bool) :
    D.crash kp = { D with kept := if kp.getD 0 false then D.kept.set i.toNat v else D.kept, waits := [] } := by
  obtain ⟨k, w, l⟩ := D
  have : l = -1 := h.left
  subst this
  dsimp only at hw; subst hw
  unfold Dsk.crash Dsk.wts srt
  simp only [List.map_cons, List.map_nil, List.mergeSort_singleton]
  unfold crash1 Dsk.one
  simp [aget_cons, adel, crash1]

def OkPost (w : World) (e : Ending) (w' : World) : Prop := e = .returned (.bool true) ∧ Below w.heap.size w w'
theorem tr_row (t : TypeId) (W : World) (F : Nat → Prop) (hF : ¬ F W.heap.size) : CG Kd.bool F (W.alloc (.cells #[.bool true] t)) (some ⟨W.heap.size, 0, none⟩) 1 [true] := by
  refine ⟨⟨rfl, by omega, fun _ => ⟨_, rfl, fun j p hj => ⟨[.bool p], rfl, rfl, fun i u hu => ?_⟩⟩⟩, fun ad e _ => by injection e with e; subst e; exact hF⟩
  have hi : i = 0 := by cases i with | zero => rfl | succ i => simp at hu
  subst hi
  simp at hu; subst hu
  show (W.alloc _).cell? ((⟨W.heap.size, 0, none⟩ : Addr).add (j * 1 + 0)) = _
  rw [addAt, cell_row (heap_alloc_same W _)]
  rcases j with _ | j
  · simp at hj; subst hj; rfl
  · simp at hj
theorem IsDisk.fresh {w : World} {B K M : Nat} {D : Dsk} (h : IsDisk w B K M D) : ¬ FD B K M w.heap.size := by
  have := h.lts; unfold FD; omega

/-- bytes from off on in block b -/
def SlRow (w : World) (b off : Nat) (xs : List Int) : Prop := ∀ (j : Nat) x, xs[j]? = some x → w.cell? ⟨b, off + j, none⟩ = some (.int .u8 x)
theorem SlRow.keep {w w' : World} {b off : Nat} {xs : List Int} {F : Nat → Prop} (h : SlRow w b off xs) (hk : KeepF F w w') (hb : b < w.heap.size) (hF : ¬ F b) : SlRow w' b off xs :=
  fun j x hj => (World.cell?_of_block (w := w) (a := ⟨b, off + j, none⟩) (hk.block b hb hF)).trans (h j x hj)
theorem Old.back {w0 w1 w : World} {B K M : Nat} (h : Old w1 w B K M) (hb : Below w0.heap.size w0 w1) : Old w0 w B K M :=
  ⟨below_then hb hb.size h.bel, Nat.le_trans hb.size h.b, Nat.le_trans hb.size h.k, Nat.le_trans hb.size h.m⟩
theorem foldl_adel : ∀ (l : List Int) (ws : List (Int × List Int)), (ws.map (·.1)).Perm l → l.foldl adel ws = []
  | [], ws, h => by
    have := h.length_eq
    simp at this
    simpa using this
  | i :: l, ws, h => by
    rw [List.foldl_cons]
    refine foldl_adel l _ ?_
    have := h.erase i
    rw [List.erase_cons_head] at this
    rw [keys_adel]; exact this
theorem crash1_waits (kp : List Bool) : ∀ (l : List Int) (D : Dsk) (n : Nat), (crash1 kp D l n).waits = l.foldl adel D.waits
  | [], _, _ => rfl
  | i :: l, D, n => by unfold crash1; rw [crash1_waits kp l]; rfl
theorem crash1_kept (kp : List Bool) (i : Nat) : ∀ (l : List Int) (D : Dsk) (n : Nat), (∀ x ∈ l, x.toNat ≠ i) → (crash1 kp D l n).kept[i]? = D.kept[i]?
  | [], _, _, _ => rfl
  | x :: l, D, n, h => by
    unfold crash1
    rw [crash1_kept kp i l _ _ (fun y hy => h y (by simp [hy]))]
    unfold Dsk.one
    dsimp only
    split
    · rw [List.getElem?_set_ne (h x (by simp))]
    · rfl
theorem wts_perm (D : Dsk) : D.wts.Perm (D.waits.map (·.1)) := List.mergeSort_perm _ _
theorem crash_waits (D : Dsk) (kp : List Bool) : (D.crash kp).waits = [] := by
  unfold Dsk.crash
  show (crash1 kp D D.wts 0).waits = []
  rw [crash1_waits]
  exact foldl_adel _ _ (wts_perm D).symm
theorem crash_kept {w : World} {B K M : Nat} {D : Dsk} (h : IsDisk w B K M D) (kp : List Bool) {i : Int} (h0 : 0 ≤ i) (hi : aget D.waits i = none) : (D.crash kp).kept[i.toNat]? = D.kept[i.toNat]? := by
  unfold Dsk.crash
  show (crash1 kp D D.wts 0).kept[i.toNat]? = _
  refine crash1_kept kp _ _ _ _ (fun x hx e => ?_)
  have hx' := (wts_perm D).mem_iff.1 hx
  obtain ⟨p, hp, rfl⟩ := List.mem_map.1 hx'
  have := (h.wsec p hp).2.1
  have e' : p.1 = i := by omega
  rw [e'] at hx'
  exact (aget_none_iff _ _).1 hi hx'
theorem wrt_other {n : Nat} {D : Dsk} (h : Fine n D) {i j : Int} (hj : j ≠ i) (bs : List Int) : aget (D.wrt j bs).waits i = aget D.waits i ∧ (D.wrt j bs).kept = D.kept := by
  unfold Dsk.wrt
  split
  · exact ⟨by rw [aget_aset, if_neg (Ne.symm hj)], rfl⟩
  · rw [h.tick_eq]; exact ⟨rfl, rfl⟩
theorem fl_kept {n : Nat} {D : Dsk} (h : Fine n D) {i : Int} (h0 : 0 ≤ i) {v : List Int} (hv : aget D.waits i = some v) (hi : i < n) : D.fl.kept[i.toNat]? = some v := by
  rw [h.fl_eq]
  show (mix D.kept D.waits [])[i.toNat]? = _
  unfold mix
  rw [List.getElem?_mapIdx, List.getElem?_eq_getElem (by rw [h.len]; omega), Option.map_some, aget_nil, show ((i.toNat : Nat) : Int) = i by omega, hv]
  rfl
theorem fl_waits {n : Nat} {D : Dsk} (h : Fine n D) : D.fl.waits = [] := by rw [h.fl_eq]
theorem sec_kept {D : Dsk} {i : Int} {v : List Int} (hw : aget D.waits i = none) (hk : D.kept[i.toNat]? = some v) : D.sec i = v := by
  unfold Dsk.sec; rw [hw, List.getD_eq_getElem?_getD, hk]; rfl
theorem pad_lo {bs : List Int} {k : Nat} (hk : k < bs.length) : (pad bs)[k]? = some (rd bs k) := by
  unfold pad rd
  rw [List.getElem?_append_left hk, List.getD_eq_getElem?_getD, Int.toNat_natCast, List.getElem?_eq_getElem hk]; rfl
theorem pad_hi {bs : List Int} {k : Nat} (hk : bs.length ≤ k) (h64 : k < 64) : (pad bs)[k]? = some 0 := by
  unfold pad
  rw [List.getElem?_append_right hk, List.getElem?_replicate, if_pos (by omega)]

theorem SlRow.c {w : World} {b off : Nat} {xs : List Int} (h : SlRow w b off xs) {n : Nat} (hn : xs.length = n) (hl : n ≤ 9223372036854775807) : (Kd.int .u8).C w (some ⟨b, off, none⟩) n xs := by
  refine ⟨hn, hl, fun _ => ⟨_, rfl, fun j p hj => ⟨[.int .u8 p], rfl, rfl, fun i u hu => ?_⟩⟩⟩
  have hi : i = 0 := by cases i with | zero => rfl | succ i => simp at hu
  subst hi
  simp at hu; subst hu
  show w.cell? ((⟨b, off, none⟩ : Addr).add (j * 1 + 0)) = _
  rw [addAt, show off + (j * 1 + 0) = off + j by omega]
  exact h j p hj
end Go.Proofs.YtiibfboendnifaaDoor.Dk
namespace Go.Proofs.YtiibfboendnifaaDoor.Dk
set_option linter.unusedVariables false
set_option linter.unusedSimpArgs false
open Go.RowKit Go.Proofs.Bk Go.Proofs.Bm Go.Proofs.Op Go.Proofs.YtiibfboendnifaaDoorW.PrintWords

/-- a sector that is handed out: a slice over a block of a sector's type -/
def secM (w : World) (base : Nat) (ok : Nat → Prop) (x : List Int) (cs : List Value) : Prop :=
  ∃ g off c, cs = [.slice (some ⟨g, off, none⟩) x.length c] ∧ x.length ≤ c ∧ x.length ≤ 9223372036854775807 ∧ ok g ∧ base ≤ g ∧ SlRow w g off x ∧ ∃ cells, w.heap[g]? = some (.cells cells 84 (0, 0))
def kSec : Kd (List Int) where
  sz := 1
  E := [84]
  K := fun w x cs => ∃ A c, cs = [.slice A x.length c] ∧ x.length ≤ c ∧ (Kd.int .u8).C w A x.length x
  M := secM
  K_len := by
    rintro w x cs ⟨A, c, rfl, _⟩
    rfl
  K_one := by
    rintro w x cs ⟨A, c, rfl, _⟩ u hu
    rw [List.mem_singleton.1 hu]
    rfl
  K_below := by
    rintro w w1 x cs hb ⟨A, c, rfl, hl, hr⟩
    exact ⟨A, c, rfl, hl, Kd.C_below hr hb⟩
  K_of_M := by
    rintro w base ok x cs ⟨g, off, c, rfl, hc, hl, _, _, hr, _⟩
    exact ⟨_, c, rfl, hc, hr.c rfl hl⟩
  M_mono := by
    rintro w base ok ok' x cs hok ⟨g, off, c, rfl, hc, hl, h1, h2⟩
    exact ⟨g, off, c, rfl, hc, hl, hok _ h1, h2⟩
  M_bound := by
    rintro w base ok x cs ⟨g, off, c, rfl, hc, hl, h1, h2, h3, h4⟩
    obtain ⟨cells, hh⟩ := h4
    exact ⟨g, off, c, rfl, hc, hl, ⟨h1, h2, (Array.getElem?_eq_some_iff.1 hh).1, _, by simp, cells, hh⟩, h2, h3, cells, hh⟩
  M_move := by
    rintro w w1 base ok x cs hm ⟨g, off, c, rfl, hc, hl, h1, h2, h3, h4⟩
    have e := hm g h1
    exact ⟨g, off, c, rfl, hc, hl, h1, h2, fun j y hj => (World.cell?_of_block (w := w) (a := ⟨g, off + j, none⟩) e).trans (h3 j y hj), by rw [e]; exact h4⟩
  M_lower := by
    rintro w base base' ok x cs hb ⟨g, off, c, rfl, hc, hl, h1, h2, h3, h4⟩
    exact ⟨g, off, c, rfl, hc, hl, h1, Nat.le_trans hb h2, h3, h4⟩
theorem info_bytes : (Tryd.prog.info? 32).map (fun i => (i.zero, i.size, i.bytes)) = some (some (.slice none 0 0), 1, 24) := by kernel_rfl

theorem kept_store (w wr : World) (s : List Int) (u3 : Value) (xs : List (List Int)) (HO : kSec.R 32 wr w.heap.size (fun _ => True) u3 xs) (HB : Below w.heap.size w wr) (hS : Sec s) :
    ∃ V, (wr.alloc (.cells zrow 84)).setRow wr.heap.size (byt s).toArray = V ∧ kSec.R 32 V w.heap.size (fun _ => True) u3 xs ∧ Below w.heap.size w V ∧
      kSec.M V w.heap.size (fun i => i = wr.heap.size) s [.slice (some ⟨wr.heap.size, 0, none⟩) 64 64] ∧ some wr.heap.size ≠ u3.ownBlock := by
  have hb2 : Below wr.heap.size wr ((wr.alloc (.cells zrow 84)).setRow wr.heap.size (byt s).toArray) := below_setRow (below_alloc (Below.refl _ _) _) (Nat.le_refl _) _
  have hrow : ((wr.alloc (.cells zrow 84)).setRow wr.heap.size (byt s).toArray).heap[wr.heap.size]? = some (.cells (byt s).toArray 84 (0, 0)) := setRow_heap _ _ _ _ _ _ (heap_alloc_same _ _)
  refine ⟨_, rfl, Kd.R_step HO (fun i _ hi => hb2.block i hi), below_then HB HB.size hb2, ?_, fun e => by have := Kd.R_lt HO _ e.symm; omega⟩
  refine ⟨wr.heap.size, 0, 64, by rw [hS.1], by rw [hS.1]; exact Nat.le_refl _, by rw [hS.1]; decide, rfl, HB.size, fun j x hj => ?_, _, hrow⟩
  rw [cell_row hrow, Nat.zero_add, List.getElem?_toArray, byt, List.getElem?_map, hj]; rfl
def KeptPost (D : Dsk) (w : World) (e : Ending) (w' : World) : Prop :=
  ∃ v, e = .returned v ∧ kSec.R 32 w' w.heap.size (fun _ => True) v D.kept ∧ Below w.heap.size w w'
set_option maxHeartbeats 4000000 in
set_option maxRecDepth 100000 in
theorem Kept_calls (B K M : Nat) (D : Dsk) (w : World) (h : IsDisk w B K M D) : Calls Tryd.prog 22 #[.pointer (some ⟨B, 0, none⟩)] w (KeptPost D w) := by
  have H := Aside0.mk h
  have c0 := h.c0
  have hkb := h.few
  obtain ⟨z, hz⟩ : ∃ z, D.kept.length = z := ⟨_, rfl⟩
  rw [hz] at c0 hkb
  have hsl := fun W g => (show (Instr.sliceAt 84 (.pointer (some ⟨g, 0, none⟩)) none none none).run Tryd.prog W = .ok (.slice (some ⟨g, 0, none⟩) 64 64) W by kernel_rfl)
  replace hz := Aside0.mk hz
  clear h
  go_enter Tryd.func22, Tryd.ntmps22
  go_wp2_with fail
  go_loopw [3, 11] (fun u i wr => ∃ (k : Nat), i = .int .i64 k ∧ k ≤ z ∧ Aside0 (kSec.R 32 wr w.heap.size (fun _ => True) u (D.kept.take k)) ∧ Aside0 (Below w.heap.size w wr)) (fun _ i _ => z - (intOf i).toNat)
  case atStart => exact ⟨0, rfl, Nat.zero_le _, ⟨by rw [List.take_zero]; exact Kd.R_nil _ _ _ _ _⟩, ⟨Below.refl _ _⟩⟩
  case round =>
    obtain ⟨k, rfl, hk, HO, HB⟩ := hrel
    by_cases hlt : k < z
    · have p1 : 0 ≤ (k : Int) := by omega
      have q1 : (k : Int) < (z : Int) := by omega
      obtain ⟨s, hs⟩ : ∃ s, D.kept[k]? = some s := ⟨D.kept[k]'(by rw [hz.out]; exact hlt), List.getElem?_eq_getElem _⟩
      have hS : Aside0 (Sec s) := ⟨H.out.secs _ (List.mem_of_getElem? hs)⟩
      have hcl : Aside0 (∀ j v, (byt s)[j]? = some v → wr.cell? ((⟨K, k * 64, none⟩ : Addr).add j) = some v) := ⟨fun j v hj => by
        have : w.cell? ((⟨K, k * 64, none⟩ : Addr).add j) = some v := by
          rw [addAt, cell_row H.out.kblk, List.getElem?_toArray]; exact kept_cells H.out.secs hs j v hj
        exact (HB.out.cell (World.block_lt_of_cell? w _ this)).trans this⟩
      replace hs := Aside0.mk hs
      go_wp2_with (first
        | ((with_reducible refine gate_op (.load 84 (.tmp 13)) rfl ?_); go_must (refine wpList_load_midB rfl _ _ rfl ⟨K, k * 64, none⟩ rfl (byt s) _ hcl.out Tryd.underlying84 rfl ?r2 ?_); (case r2 => rw [byt_length, hS.out.1]; exact size_sector))
        | ((with_reducible refine gate_op (.alloc 84) rfl ?_); refine wpList_alloc_of rfl _ rfl rfl (zero_sector _) ?_)
        | ((with_reducible refine gate_op (.store 84 (.tmp 5) (.tmp 14)) rfl ?_); go_must (refine wpList_store_midB rfl _ _ _ rfl wr.heap.size 0 (byt s) rfl rfl 84 (byt zeros) (heap_alloc_same _ _) ?q1 ?q2 byt_one ?_); (case q1 => rw [byt_length, hS.out.1]; exact size_sector); (case q2 => rw [byt_length, byt_length, hS.out.1]; decide); rw [splice_all _ _ (by rw [byt_length, byt_length, hS.out.1]; rfl)]; obtain ⟨V, hV, hOV, hBV, hpM, hu3⟩ := kept_store w wr s u3 _ HO.out HB.out hS.out; change wpList _ _ _ _ _ ((wr.alloc (.cells zrow 84)).setRow wr.heap.size (byt s).toArray); rw [hV]; clear hV; replace hOV := Aside0.mk hOV; replace hBV := Aside0.mk hBV; replace hpM := Aside0.mk hpM; replace hu3 := Aside0.mk hu3)
        | ((with_reducible refine gate_op (.call ⟨.builtin .append, #[.tmp 15, .tmp 17], #[41, 41]⟩) rfl ?_); go_must (refine Kd.R_append kSec (w0 := w) w.heap.size rfl (.tmp 15) (.tmp 17) 41 32 (.slice none 0 0) 24 rfl Tryd.underlying41 info_bytes rfl (by decide) (by omega) u3 (D.kept.take k) s [.slice (some ⟨wr.heap.size, 0, none⟩) 64 64] (fun _ => True) (fun i => i = wr.heap.size) rfl rfl ?aP ?aQ (fun _ _ => trivial) ?aO ?aB ?aS ?aL ?_); (case aP => exact hpM.out); (case aQ => exact fun i hi => ⟨trivial, by rw [hi]; exact hu3.out⟩); (case aO => exact hOV.out); (case aB => exact hBV.out); (case aS => exact hBV.out.size); (case aL => have := List.length_take_le k D.kept; omega); intro v1 wb ho hb1 hg hat; replace ho := Aside0.mk ho; replace hb1 := Aside0.mk hb1; clear hg hat))
      have hfin : Aside0 (kSec.R 32 wb w.heap.size (fun _ => True) v1 (D.kept.take (k + 1))) := ⟨by rw [List.take_add_one, hs.out]; exact ho.out⟩
      go_roundw
      case rel => exact ⟨k + 1, by simp, by omega, hfin, hb1⟩
      case measure => show z - ((k : Int) + 1).toNat < z - (k : Int).toNat; omega
    · go_wp2_with fail
      go_ret
      have hkz : k = z := by omega
      have := HO.out
      rw [List.take_of_length_le (by rw [hz.out]; omega)] at this
      exact ⟨_, rfl, this, HB.out⟩
end Go.Proofs.YtiibfboendnifaaDoor.Dk
namespace Go.Proofs.YtiibfboendnifaaDoor.Dk
set_option linter.unusedVariables false
set_option linter.unusedSimpArgs false
open Go.RowKit Go.Proofs.Bk Go.Proofs.Bm Go.Proofs.Op Go.Proofs.YtiibfboendnifaaDoorW.PrintWords

theorem crash1_at (kp : List Bool) (i : Int) : ∀ (l : List Int) (D : Dsk) (n k : Nat), (D.waits.map (·.1)).Nodup → l.Nodup → (∀ x ∈ l, 0 ≤ x) → l[k]? = some i → i.toNat < D.kept.length →
    (crash1 kp D l n).kept[i.toNat]? = if kp.getD (n + k) false then some ((aget D.waits i).getD zeros) else D.kept[i.toNat]?
  | [], _, _, _, _, _, _, h, _ => by simp at h
  | x :: l, D, n, 0, hw, hl, h0, h, hi => by
    have e : x = i := by simpa using h
    subst e
    have hx : x ∉ l := (List.nodup_cons.1 hl).1
    unfold crash1
    rw [crash1_kept kp x.toNat l _ _ (fun y hy e => hx (by
      have h1 := h0 y (by simp [hy]); have h2 := h0 x (by simp)
      have : y = x := by omega
      rw [← this]; exact hy))]
    unfold Dsk.one
    dsimp only
    rw [Nat.add_zero]
    split
    · rw [List.getElem?_set_self hi]
    · rfl
  | x :: l, D, n, k + 1, hw, hl, h0, h, hi => by
    have hk : l[k]? = some i := by simpa using h
    have hx : x ∉ l := (List.nodup_cons.1 hl).1
    have hxi : x ≠ i := fun e => hx (by rw [e]; exact List.mem_of_getElem? hk)
    have h1 := h0 x (by simp)
    have h2 := h0 i (by simp [List.mem_of_getElem? hk])
    unfold crash1
    have hone : (D.one (kp.getD n false) x).kept[i.toNat]? = D.kept[i.toNat]? := by
      unfold Dsk.one
      dsimp only
      split
      · rw [List.getElem?_set_ne (by omega)]
      · rfl
    have hlen : (D.one (kp.getD n false) x).kept.length = D.kept.length := by unfold Dsk.one; dsimp only; split <;> simp
    have hag : aget (D.one (kp.getD n false) x).waits i = aget D.waits i := by
      show aget (adel D.waits x) i = _
      rw [aget_adel hw, if_neg (Ne.symm hxi)]
    rw [crash1_at kp i l _ (n + 1) k (nodup_adel hw x) (List.nodup_cons.1 hl).2 (fun y hy => h0 y (by simp [hy])) hk (by rw [hlen]; exact hi), hone, hag, show n + 1 + k = n + (k + 1) by omega]
theorem wts_nodup {w : World} {B K M : Nat} {D : Dsk} (h : IsDisk w B K M D) : D.wts.Nodup := ((wts_perm D).nodup_iff).2 h.mp.nodup
theorem wts_range {w : World} {B K M : Nat} {D : Dsk} (h : IsDisk w B K M D) : ∀ x ∈ D.wts, 0 ≤ x ∧ x < D.kept.length := by
  intro x hx
  obtain ⟨p, hp, rfl⟩ := List.mem_map.1 ((wts_perm D).mem_iff.1 hx)
  exact (h.wsec p hp).2
theorem wts_lt {w : World} {B K M : Nat} {D : Dsk} (h : IsDisk w B K M D) : ∀ (j k : Nat) (hj : j < k) (hk : k < D.wts.length), D.wts[j]'(by omega) < D.wts[k] := by
  intro j k hj hk
  have hs : D.wts.Pairwise (fun a b => (decide (a ≤ b)) = true) := List.pairwise_mergeSort (fun a b c h1 h2 => by simp only [decide_eq_true_eq] at *; omega) (fun a b => by simp only [Bool.or_eq_true, decide_eq_true_eq]; omega) _
  have h1 := List.pairwise_iff_getElem.1 hs j k (by omega) hk hj
  have h2 := List.pairwise_iff_getElem.1 (wts_nodup h) j k (by omega) hk hj
  simp only [decide_eq_true_eq] at h1
  omega
theorem crash_at {w : World} {B K M : Nat} {D : Dsk} (h : IsDisk w B K M D) (kp : List Bool) {k : Nat} {i : Int} (hi : D.wts[k]? = some i) :
    (D.crash kp).kept[i.toNat]? = some (if kp.getD k false then D.sec i else D.kept.getD i.toNat []) := by
  have hr := wts_range h i (List.mem_of_getElem? hi)
  have hmem := (wts_perm D).mem_iff.1 (List.mem_of_getElem? hi)
  obtain ⟨v, hv⟩ := aget_of_mem hmem
  unfold Dsk.crash
  show (crash1 kp D D.wts 0).kept[i.toNat]? = _
  rw [crash1_at kp i D.wts D 0 k h.mp.nodup (wts_nodup h) (fun x hx => (wts_range h x hx).1) hi (by omega), Nat.zero_add]
  unfold Dsk.sec
  rw [hv]
  split
  · rfl
  · rw [List.getD_eq_getElem?_getD, List.getElem?_eq_getElem (by omega)]; rfl
theorem aget_none_of_wts {D : Dsk} {i : Int} (h : i ∉ D.wts) : aget D.waits i = none := (aget_none_iff _ _).2 (fun hm => h ((wts_perm D).mem_iff.2 hm))
theorem crash_not {w : World} {B K M : Nat} {D : Dsk} (h : IsDisk w B K M D) (kp : List Bool) {i : Int} (h0 : 0 ≤ i) (h1 : i < D.kept.length) (hi : i ∉ D.wts) :
    (D.crash kp).kept[i.toNat]? = some (D.kept.getD i.toNat []) ∧ D.sec i = D.kept.getD i.toNat [] := by
  have ha := aget_none_of_wts hi
  refine ⟨?_, by unfold Dsk.sec; rw [ha]; rfl⟩
  rw [crash_kept h kp h0 ha, List.getD_eq_getElem?_getD, List.getElem?_eq_getElem (by omega)]; rfl
theorem Sec_sec {w : World} {B K M : Nat} {D : Dsk} (h : IsDisk w B K M D) {i : Int} (h0 : 0 ≤ i) (h1 : i < D.kept.length) : Sec (D.sec i) := by
  unfold Dsk.sec
  cases e : aget D.waits i with
  | none =>
    show Sec (D.kept.getD i.toNat [])
    rw [List.getD_eq_getElem?_getD, List.getElem?_eq_getElem (by omega)]; exact h.secs _ (List.getElem_mem _)
  | some v => exact (h.wsec _ ((aget_some_iff h.mp.nodup i v).1 e)).1

/-- a list of sectors that is no part of a disk -/
theorem R_far {w : World} {b B K M : Nat} {v : Value} {xs : List (List Int)} (h : kSec.R 32 w b (fun _ => True) v xs) (hb : B < b ∧ K < b ∧ M < b) : kSec.R 32 w b (fun k => ¬ FD B K M k) v xs :=
  Kd.R_mono (Kd.R_bound h) (fun k hk hf => by have := hk.2.1; unfold FD at hf; omega)
theorem R_keep {w w' : World} {b B K M : Nat} {v : Value} {xs : List (List Int)} (h : kSec.R 32 w b (fun k => ¬ FD B K M k) v xs) (hk : KeepF (FD B K M) w w') : kSec.R 32 w' b (fun k => ¬ FD B K M k) v xs :=
  Kd.R_step h (fun i hi hl => hk.block i hl hi)
/-- what stands at place i of such a list -/
theorem sec_at {w : World} {A : Option Addr} {n : Nat} {xs : List (List Int)} (h : kSec.C w A n xs) {i : Nat} (hi : i < n) {s : List Int} (hs : xs[i]? = some s) :
    ∃ ad A1 c1, A = some ad ∧ w.cell? (ad.add i) = some (.slice A1 s.length c1) ∧ s.length ≤ c1 ∧ (Kd.int .u8).C w A1 s.length s := by
  obtain ⟨ad, rfl, hc⟩ := h.2.2 (by omega)
  obtain ⟨cs, h1, h2, h3⟩ := hc i s hs
  obtain ⟨A1, c1, rfl, hl, hr⟩ := h2
  have := h3 0 _ rfl
  rw [show i * kSec.sz + 0 = i from (by show i * 1 + 0 = i; omega)] at this
  exact ⟨ad, A1, c1, rfl, this, hl, hr⟩
end Go.Proofs.YtiibfboendnifaaDoor.Dk
