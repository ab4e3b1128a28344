/- Of disks that are on; rows of bytes; what a crash does: no program's text is walked here. -/
import Derived.Test.YtiibfboendnifaaDoorDkH
import Derived.Lib.SmallJoins
namespace Go.Proofs.YtiibfboendnifaaDoor.Dk
set_option linter.unusedVariables false
set_option linter.unusedSimpArgs false
open Go.RowKit Go.Proofs.Bk Go.Proofs.Bm Go.Proofs.Op Go.Proofs.YtiibfboendnifaaDoorW.PrintWords

/-- the caller's world w0, and a disk that is younger -/
structure Old (w0 w : World) (B K M : Nat) : Prop where
  bel : Below w0.heap.size w0 w
  b : w0.heap.size ≤ B
  k : w0.heap.size ≤ K
  m : w0.heap.size ≤ M
theorem Old.keep {w0 w w' : World} {B K M : Nat} (h : Old w0 w B K M) (hk : KeepF (FD B K M) w w') : Old w0 w' B K M :=
  ⟨h.bel.trans (hk.to_below h.bel.size (fun i hi => by rcases hi with rfl | rfl | rfl; exact h.b; exact h.k; exact h.m)), h.b, h.k, h.m⟩
theorem Old.below {w0 w w' : World} {B K M : Nat} (h : Old w0 w B K M) (hk : Below w.heap.size w w') : Old w0 w' B K M :=
  h.keep (KeepF.of_below hk)
theorem row_old {α : Type} {enc : α → Value} {h1 : ∀ x, (enc x).oneCell' = true} {w : World} {ad : Addr} {n : Nat} {xs : List α} (h : (Kd.scalar enc h1).C w (some ad) n xs) (hn : 0 < n) : ad.block < w.heap.size := by
  obtain ⟨ad', e, hc⟩ := h.2.2 hn
  injection e with e; subst e
  have hl : xs.length = n := h.1
  obtain ⟨cs, hc1, hc2, hc3⟩ := hc 0 (xs[0]'(by omega)) (List.getElem?_eq_getElem _)
  have hc2' : cs = [enc (xs[0]'(by omega))] := hc2
  rw [hc2'] at hc3
  have := World.block_lt_of_cell? w _ (hc3 0 _ rfl)
  have e : (ad.add (0 * (Kd.scalar enc h1).sz + 0)) = ad := by unfold Addr.add; simp
  rw [e] at this; exact this
theorem Old.cg {α : Type} {enc : α → Value} {h1 : ∀ x, (enc x).oneCell' = true} {w0 w : World} {B K M : Nat} {A : Option Addr} {n : Nat} {xs : List α} (h : Old w0 w B K M) (hr : (Kd.scalar enc h1).C w0 A n xs) : CG (Kd.scalar enc h1) (FD B K M) w A n xs := by
  refine ⟨Kd.C_below hr h.bel, fun ad e hn hg => ?_⟩
  subst e
  have := row_old hr hn
  have := h.b; have := h.k; have := h.m
  unfold FD at hg; omega
theorem Old.cf {w0 w : World} {B K M : Nat} {k : IntKind} {A : Option Addr} {n : Nat} {xs : List Int} (h : Old w0 w B K M) (hr : (Kd.int k).C w0 A n xs) : CF (FD B K M) k w A n xs :=
  ⟨(h.cg hr).c, (h.cg hr).far⟩

/-- the disk is on, and has n sectors -/
structure Fine (n : Nat) (D : Dsk) : Prop where
  left : D.left = -1
  len : D.kept.length = n
theorem Fine.tick {n : Nat} {D : Dsk} (h : Fine n D) : Fine n D.tick := ⟨by unfold Dsk.tick; rw [h.left]; rfl, h.len⟩
theorem Fine.wrt {n : Nat} {D : Dsk} (h : Fine n D) (i : Int) (bs : List Int) : Fine n (D.wrt i bs) := by
  unfold Dsk.wrt
  split
  · exact ⟨h.tick.left, h.tick.len⟩
  · exact h.tick
theorem Fine.fl {n : Nat} {D : Dsk} (h : Fine n D) : Fine n D.fl := by
  unfold Dsk.fl
  split
  · exact h.tick
  · exact ⟨h.tick.left, by show (mix D.kept D.waits []).length = n; rw [mix_length]; exact h.len⟩
theorem crash1_len (keep : List Bool) : ∀ (l : List Int) (D : Dsk) (n : Nat), (crash1 keep D l n).kept.length = D.kept.length
  | [], _, _ => rfl
  | i :: l, D, n => by
    unfold crash1
    rw [crash1_len keep l]
    unfold Dsk.one
    dsimp only
    split <;> simp
theorem Fine.crash {n : Nat} {D : Dsk} (h : Fine n D) (kp : List Bool) : Fine n (D.crash kp) := ⟨rfl, by unfold Dsk.crash; show (crash1 kp D D.wts 0).kept.length = n; rw [crash1_len]; exact h.len⟩
theorem Fine.rot {n : Nat} {D : Dsk} (h : Fine n D) (i b : Int) : Fine n (D.rot i b) := by
  unfold Dsk.rot
  split
  · exact ⟨h.left, by simpa using h.len⟩
  · exact h
theorem Fine.has {n : Nat} {D : Dsk} (h : Fine n D) {i : Int} (h0 : 0 ≤ i) (h1 : i < n) : D.has i = true := by
  unfold Dsk.has; rw [h.len]; simp [h0, h1]
theorem Fine.tick_eq {n : Nat} {D : Dsk} (h : Fine n D) : D.tick = D := by
  obtain ⟨k, w, l⟩ := D
  have : l = -1 := h.left
  subst this; rfl
theorem Fine.wrErr {n : Nat} {D : Dsk} (h : Fine n D) {i : Int} {bs : List Int} (h0 : 0 ≤ i) (h1 : i < n) (hb : bs.length ≤ 64) : D.wrErr i bs = 0 := by
  unfold Dsk.wrErr; rw [h.left, if_neg (by decide), if_pos (h.has h0 h1), if_neg (by omega)]
theorem Fine.wrt_eq {n : Nat} {D : Dsk} (h : Fine n D) {i : Int} {bs : List Int} (h0 : 0 ≤ i) (h1 : i < n) (hb : bs.length ≤ 64) : D.wrt i bs = { D with waits := aset D.waits i (pad bs) } := by
  unfold Dsk.wrt; rw [if_pos (h.wrErr h0 h1 hb), h.tick_eq]
theorem Fine.flErr {n : Nat} {D : Dsk} (h : Fine n D) : D.flErr = 0 := by
  unfold Dsk.flErr; rw [h.left, if_neg (by decide)]
theorem Fine.fl_eq {n : Nat} {D : Dsk} (h : Fine n D) : D.fl = { D with kept := mix D.kept D.waits [], waits := [] } := by
  unfold Dsk.fl; rw [if_neg (by rw [h.left]; decide), h.tick_eq]
theorem Fine.rdErr {n : Nat} {D : Dsk} (h : Fine n D) {i : Int} (h0 : 0 ≤ i) (h1 : i < n) : D.rdErr i = 0 := by
  unfold Dsk.rdErr; rw [if_pos (h.has h0 h1), h.left, if_neg (by decide)]
theorem crash_none {n : Nat} {D : Dsk} (h : Fine n D) (hw : D.waits = []) (kp : List Bool) : D.crash kp = D := by
  obtain ⟨k, w, l⟩ := D
  have : l = -1 := h.left
  subst this
  dsimp only at hw; subst hw
  unfold Dsk.crash Dsk.wts srt
  simp [crash1]
theorem crash_one {n : Nat} {D : Dsk} (h : Fine n D) {i : Int} {v : List Int} (hw : D.waits = [(i, v)]) (kp : List Bool) :
    D.crash kp = { D with kept := if kp.getD 0 false then D.kept.set i.toNat v else D.kept, waits := [] } := by
  obtain ⟨k, w, l⟩ := D
  have : l = -1 := h.left
  subst this
  dsimp only at hw; subst hw
  unfold Dsk.crash Dsk.wts srt
  simp only [List.map_cons, List.map_nil, List.mergeSort_singleton]
  unfold crash1 Dsk.one
  simp [aget_cons, adel, crash1]

def OkPost (w : World) (e : Ending) (w' : World) : Prop := e = .returned (.bool true) ∧ Below w.heap.size w w'
theorem tr_row (t : TypeId) (W : World) (F : Nat → Prop) (hF : ¬ F W.heap.size) : CG Kd.bool F (W.alloc (.cells #[.bool true] t)) (some ⟨W.heap.size, 0, none⟩) 1 [true] := by
  refine ⟨⟨rfl, by omega, fun _ => ⟨_, rfl, fun j p hj => ⟨[.bool p], rfl, rfl, fun i u hu => ?_⟩⟩⟩, fun ad e _ => by injection e with e; subst e; exact hF⟩
  have hi : i = 0 := by cases i with | zero => rfl | succ i => simp at hu
  subst hi
  simp at hu; subst hu
  show (W.alloc _).cell? ((⟨W.heap.size, 0, none⟩ : Addr).add (j * 1 + 0)) = _
  rw [addAt, cell_row (heap_alloc_same W _)]
  rcases j with _ | j
  · simp at hj; subst hj; rfl
  · simp at hj
theorem IsDisk.fresh {w : World} {B K M : Nat} {D : Dsk} (h : IsDisk w B K M D) : ¬ FD B K M w.heap.size := by
  have := h.lts; unfold FD; omega

/-- bytes from off on in block b -/
def SlRow (w : World) (b off : Nat) (xs : List Int) : Prop := ∀ (j : Nat) x, xs[j]? = some x → w.cell? ⟨b, off + j, none⟩ = some (.int .u8 x)
theorem SlRow.keep {w w' : World} {b off : Nat} {xs : List Int} {F : Nat → Prop} (h : SlRow w b off xs) (hk : KeepF F w w') (hb : b < w.heap.size) (hF : ¬ F b) : SlRow w' b off xs :=
  fun j x hj => (World.cell?_of_block (w := w) (a := ⟨b, off + j, none⟩) (hk.block b hb hF)).trans (h j x hj)
theorem Old.back {w0 w1 w : World} {B K M : Nat} (h : Old w1 w B K M) (hb : Below w0.heap.size w0 w1) : Old w0 w B K M :=
  ⟨below_then hb hb.size h.bel, Nat.le_trans hb.size h.b, Nat.le_trans hb.size h.k, Nat.le_trans hb.size h.m⟩
theorem foldl_adel : ∀ (l : List Int) (ws : List (Int × List Int)), (ws.map (·.1)).Perm l → l.foldl adel ws = []
  | [], ws, h => by
    have := h.length_eq
    simp at this
    simpa using this
  | i :: l, ws, h => by
    rw [List.foldl_cons]
    refine foldl_adel l _ ?_
    have := h.erase i
    rw [List.erase_cons_head] at this
    rw [keys_adel]; exact this
theorem crash1_waits (kp : List Bool) : ∀ (l : List Int) (D : Dsk) (n : Nat), (crash1 kp D l n).waits = l.foldl adel D.waits
  | [], _, _ => rfl
  | i :: l, D, n => by unfold crash1; rw [crash1_waits kp l]; rfl
theorem crash1_kept (kp : List Bool) (i : Nat) : ∀ (l : List Int) (D : Dsk) (n : Nat), (∀ x ∈ l, x.toNat ≠ i) → (crash1 kp D l n).kept[i]? = D.kept[i]?
  | [], _, _, _ => rfl
  | x :: l, D, n, h => by
    unfold crash1
    rw [crash1_kept kp i l _ _ (fun y hy => h y (by simp [hy]))]
    unfold Dsk.one
    dsimp only
    split
    · rw [List.getElem?_set_ne (h x (by simp))]
    · rfl
theorem wts_perm (D : Dsk) : D.wts.Perm (D.waits.map (·.1)) := List.mergeSort_perm _ _
theorem crash_waits (D : Dsk) (kp : List Bool) : (D.crash kp).waits = [] := by
  unfold Dsk.crash
  show (crash1 kp D D.wts 0).waits = []
  rw [crash1_waits]
  exact foldl_adel _ _ (wts_perm D).symm
theorem crash_kept {w : World} {B K M : Nat} {D : Dsk} (h : IsDisk w B K M D) (kp : List Bool) {i : Int} (h0 : 0 ≤ i) (hi : aget D.waits i = none) : (D.crash kp).kept[i.toNat]? = D.kept[i.toNat]? := by
  unfold Dsk.crash
  show (crash1 kp D D.wts 0).kept[i.toNat]? = _
  refine crash1_kept kp _ _ _ _ (fun x hx e => ?_)
  have hx' := (wts_perm D).mem_iff.1 hx
  obtain ⟨p, hp, rfl⟩ := List.mem_map.1 hx'
  have := (h.wsec p hp).2.1
  have e' : p.1 = i := by omega
  rw [e'] at hx'
  exact (aget_none_iff _ _).1 hi hx'
theorem wrt_other {n : Nat} {D : Dsk} (h : Fine n D) {i j : Int} (hj : j ≠ i) (bs : List Int) : aget (D.wrt j bs).waits i = aget D.waits i ∧ (D.wrt j bs).kept = D.kept := by
  unfold Dsk.wrt
  split
  · exact ⟨by rw [aget_aset, if_neg (Ne.symm hj)], rfl⟩
  · rw [h.tick_eq]; exact ⟨rfl, rfl⟩
theorem fl_kept {n : Nat} {D : Dsk} (h : Fine n D) {i : Int} (h0 : 0 ≤ i) {v : List Int} (hv : aget D.waits i = some v) (hi : i < n) : D.fl.kept[i.toNat]? = some v := by
  rw [h.fl_eq]
  show (mix D.kept D.waits [])[i.toNat]? = _
  unfold mix
  rw [List.getElem?_mapIdx, List.getElem?_eq_getElem (by rw [h.len]; omega), Option.map_some, aget_nil, show ((i.toNat : Nat) : Int) = i by omega, hv]
  rfl
theorem fl_waits {n : Nat} {D : Dsk} (h : Fine n D) : D.fl.waits = [] := by rw [h.fl_eq]
theorem sec_kept {D : Dsk} {i : Int} {v : List Int} (hw : aget D.waits i = none) (hk : D.kept[i.toNat]? = some v) : D.sec i = v := by
  unfold Dsk.sec; rw [hw, List.getD_eq_getElem?_getD, hk]; rfl
theorem pad_lo {bs : List Int} {k : Nat} (hk : k < bs.length) : (pad bs)[k]? = some (rd bs k) := by
  unfold pad rd
  rw [List.getElem?_append_left hk, List.getD_eq_getElem?_getD, Int.toNat_natCast, List.getElem?_eq_getElem hk]; rfl
theorem pad_hi {bs : List Int} {k : Nat} (hk : bs.length ≤ k) (h64 : k < 64) : (pad bs)[k]? = some 0 := by
  unfold pad
  rw [List.getElem?_append_right hk, List.getElem?_replicate, if_pos (by omega)]

theorem SlRow.c {w : World} {b off : Nat} {xs : List Int} (h : SlRow w b off xs) {n : Nat} (hn : xs.length = n) (hl : n ≤ 9223372036854775807) : (Kd.int .u8).C w (some ⟨b, off, none⟩) n xs := by
  refine ⟨hn, hl, fun _ => ⟨_, rfl, fun j p hj => ⟨[.int .u8 p], rfl, rfl, fun i u hu => ?_⟩⟩⟩
  have hi : i = 0 := by cases i with | zero => rfl | succ i => simp at hu
  subst hi
  simp at hu; subst hu
  show w.cell? ((⟨b, off, none⟩ : Addr).add (j * 1 + 0)) = _
  rw [addAt, show off + (j * 1 + 0) = off + j by omega]
  exact h j p hj
end Go.Proofs.YtiibfboendnifaaDoor.Dk
