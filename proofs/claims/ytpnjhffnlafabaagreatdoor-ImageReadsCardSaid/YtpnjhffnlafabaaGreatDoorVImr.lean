/- Decode of package image: readers beside each other, the scene while it is built. -/
import Derived.Test.YtpnjhffnlafabaaGreatDoorVIma
namespace Go.Proofs.YtpnjhffnlafabaaGreatDoor.Im
set_option linter.unusedVariables false
set_option linter.unusedSimpArgs false
open Go.Proofs Go.RowKit Go.Proofs.Bk Go.Proofs.Bm Go.Proofs.Sc Go.Proofs.Kf Go.Proofs.YtpnjhffnlafabaaGreatDoorW.PrintWords Go.Proofs.YtpnjhffnlafabaaGreatDoor.Sl Go.Proofs.YtpnjhffnlafabaaGreatDoor.Sn Go.Proofs.YtpnjhffnlafabaaGreatDoor.PImageBack
theorem _root_.Go.Proofs.YtpnjhffnlafabaaGreatDoor.Sl.IsReader.gne {w : World} {r g r2 g2 : Nat} {ys : List Int} {f2 : Int} {cs : Array Value} {t : TypeId} {fz : Nat × Nat} (h1 : w.heap[r]? = some (.cells cs t fz)) (h2 : IsReader w r2 g2 ys f2) (hp : 0 < ys.length) (hno : ∀ (i : Nat) (x : Int), cs[i]? ≠ some (Value.int .u8 x)) : g2 ≠ r := by
  intro e
  obtain ⟨B, d, k1, k2, k3, k4, k5⟩ := h2
  obtain ⟨b, o, rfl, -, hc⟩ := C_at k3 hp (by decide)
  obtain ⟨c0, q1, q2, q3⟩ := hc 0 ys[0] (List.getElem?_eq_getElem hp)
  cases q2
  have h3 := q3 0 _ rfl
  have hb : b = r := (k4 _ rfl).trans e
  subst hb
  rw [Kf.cell_row h1] at h3
  exact hno _ _ h3
theorem _root_.Go.Proofs.YtpnjhffnlafabaaGreatDoor.Sl.IsReader.cross {w : World} {r g r2 g2 : Nat} {xs ys : List Int} {f f2 : Int} (h : IsReader w r g xs f) (h2 : IsReader w r2 g2 ys f2) (hp : 0 < ys.length) : g2 ≠ r := by
  obtain ⟨A, c, h1, -⟩ := h
  refine IsReader.gne (g := g) h1 h2 hp (fun i x => ?_)
  rcases i with _ | _ | i <;> simp
theorem KeepF.of_base {base : Nat} {a b : World} (h : Below base a b) : KeepF (fun i => base ≤ i) a b := ⟨h.os, h.tape, h.output, h.size, fun i _ hn => h.block i (by omega)⟩
section
variable {base : Nat} {w0 w w1 : World} {b : Nat} {A : Option Addr} {c : Nat} {gs : List SG} {B : Option Addr} {d : Nat} {ts : List ST}
theorem _root_.Go.Proofs.YtpnjhffnlafabaaGreatDoor.Sn.Bld.rebase (h : Bld base w0 b A c gs B d ts w) : Bld base w b A c gs B d ts w := ⟨Below.refl _ _, h.lo, h.row, h.rg, h.rt⟩
theorem _root_.Go.Proofs.YtpnjhffnlafabaaGreatDoor.Sn.Bld.move {F : Nat → Prop} (h : Bld base w0 b A c gs B d ts w) (hk : KeepF F w w1) (hF : ∀ i, i < w.heap.size → F i → i < base) : Bld base w1 b A c gs B d ts w1 :=
  ⟨Below.refl _ _, h.lo, (hk.block b (lt_row h.row) (fun hf => by have := hF b (lt_row h.row) hf; have := h.lo; omega)).trans h.row,
    Kd.R_mono (Kd.R_move (Kd.R_bound h.rg) (fun k q => hk.block k q.2.2.1 (fun hf => by have := hF k q.2.2.1 hf; have := q.2.1; omega))) (fun k q => q.1),
    Kd.R_mono (Kd.R_move (Kd.R_bound h.rt) (fun k q => hk.block k q.2.2.1 (fun hf => by have := hF k q.2.2.1 hf; have := q.2.1; omega))) (fun k q => q.1)⟩
end
theorem E_four {w : World} {A : Option Addr} {s0 s1 s2 s3 : SE} (h : kE.C w A 4 [s0, s1, s2, s3]) :
    ∃ q o A0 c0 A1 c1 A2 c2 A3 c3, A = some ⟨q, o, none⟩ ∧ q < w.heap.size ∧
      (w.cell? ⟨q, o + 1, none⟩ = some (.slice A0 s0.f1.length c0) ∧ w.cell? ⟨q, o + 3, none⟩ = some (.slice A1 s1.f1.length c1) ∧ w.cell? ⟨q, o + 5, none⟩ = some (.slice A2 s2.f1.length c2) ∧ w.cell? ⟨q, o + 7, none⟩ = some (.slice A3 s3.f1.length c3) ∧ w.cell? ⟨q, o + 6, none⟩ = some (.int .i64 s3.f0)) ∧
      U8.C w A0 s0.f1.length s0.f1 ∧ U8.C w A1 s1.f1.length s1.f1 ∧ U8.C w A2 s2.f1.length s2.f1 ∧ U8.C w A3 s3.f1.length s3.f1 := by
  obtain ⟨q, o, x0, A0, c0, rfl, hq, e0, -, a1, -, k0⟩ := E_one h (k := 0) (by decide)
  obtain ⟨q1, o1, x1, A1, c1, f1, -, e1, -, b1, -, k1⟩ := E_one h (k := 1) (by decide)
  obtain ⟨q2, o2, x2, A2, c2, f2, -, e2, -, d1, -, k2⟩ := E_one h (k := 2) (by decide)
  obtain ⟨q3, o3, x3, A3, c3, f3, -, e3, g0, g1, -, k3⟩ := E_one h (k := 3) (by decide)
  cases e0; cases e1; cases e2; cases e3
  cases f1; cases f2; cases f3
  exact ⟨q, o, A0, c0, A1, c1, A2, c2, A3, c3, rfl, hq, ⟨a1, b1, d1, g1, g0⟩, k0, k1, k2, k3⟩
structure F4 (w : World) (q o : Nat) (A0 : Option Addr) (c0 : Nat) (A1 : Option Addr) (c1 : Nat) (A2 : Option Addr) (c2 : Nat) (A3 : Option Addr) (c3 : Nat) (L0 L1 L2 L3 : List Int) (kd : Int) : Prop where
  x1 : w.cell? ⟨q, o + 1, none⟩ = some (.slice A0 L0.length c0)
  x3 : w.cell? ⟨q, o + 3, none⟩ = some (.slice A1 L1.length c1)
  x5 : w.cell? ⟨q, o + 5, none⟩ = some (.slice A2 L2.length c2)
  x7 : w.cell? ⟨q, o + 7, none⟩ = some (.slice A3 L3.length c3)
  x6 : w.cell? ⟨q, o + 6, none⟩ = some (.int .i64 kd)
  k0 : U8.C w A0 L0.length L0
  k1 : U8.C w A1 L1.length L1
  k2 : U8.C w A2 L2.length L2
  k3 : U8.C w A3 L3.length L3
theorem F4.below {w w' : World} {q o : Nat} {A0 A1 A2 A3 : Option Addr} {c0 c1 c2 c3 : Nat} {L0 L1 L2 L3 : List Int} {kd : Int} (h : F4 w q o A0 c0 A1 c1 A2 c2 A3 c3 L0 L1 L2 L3 kd) (hb : Below w.heap.size w w') : F4 w' q o A0 c0 A1 c1 A2 c2 A3 c3 L0 L1 L2 L3 kd :=
  ⟨pw_cell_below hb h.x1, pw_cell_below hb h.x3, pw_cell_below hb h.x5, pw_cell_below hb h.x7, pw_cell_below hb h.x6, Kd.C_below h.k0 hb, Kd.C_below h.k1 hb, Kd.C_below h.k2 hb, Kd.C_below h.k3 hb⟩
/-! ### four readers in an array -/
def ptrs (rs : List Nat) (n : Nat) : List Value := rs.map (fun r => Value.pointer (some ⟨r, 0, none⟩)) ++ List.replicate (n - rs.length) (.pointer none)
theorem ptrs_set {rs : List Nat} {n : Nat} (h : rs.length < n) (r : Nat) : (ptrs rs n).set rs.length (.pointer (some ⟨r, 0, none⟩)) = ptrs (rs ++ [r]) n := by
  unfold ptrs
  rw [List.set_append_right _ _ (by simp), List.length_map, Nat.sub_self]
  obtain ⟨m, hm⟩ : ∃ m, n - rs.length = m + 1 := ⟨n - rs.length - 1, by omega⟩
  rw [hm, List.length_append, List.length_singleton, show n - (rs.length + 1) = m by omega, List.replicate_succ]
  simp
theorem ptrs_u8 (rs : List Nat) (n : Nat) (i : Nat) (x : Int) : (ptrs rs n).toArray[i]? ≠ some (Value.int .u8 x) := by
  intro h
  rw [List.getElem?_toArray] at h
  have hm := List.mem_of_getElem? h
  unfold ptrs at hm
  rcases List.mem_append.1 hm with hm | hm
  · obtain ⟨r, -, e⟩ := List.mem_map.1 hm; cases e
  · have := (List.mem_replicate.1 hm).2; cases this
structure RdS (wB W : World) (b7 : Nat) (Ls : List (List Int)) (rs : List Nat) : Prop where
  row : W.heap[b7]? = some (.cells (ptrs rs 4).toArray 67 (0, 0))
  rd : ∀ (j r : Nat), rs[j]? = some r → wB.heap.size ≤ r ∧ ∃ L g, Ls[j]? = some L ∧ IsReader W r g L 0
  nd : rs.Nodup
  keep : KeepF (fun i => i = b7) wB W
theorem RdS.size {wB W : World} {b7 : Nat} {Ls : List (List Int)} {rs : List Nat} (h : RdS wB W b7 Ls rs) : wB.heap.size ≤ W.heap.size := h.keep.size
theorem RdS.start {wB : World} {b7 : Nat} {Ls : List (List Int)} (h : wB.heap[b7]? = some (.cells #[.pointer none, .pointer none, .pointer none, .pointer none] 67 (0, 0))) : RdS wB wB b7 Ls [] :=
  ⟨h, fun j r hj => by simp at hj, List.nodup_nil, KeepF.refl _ _⟩
theorem RdS.move {wB W W' : World} {b7 : Nat} {Ls : List (List Int)} {rs : List Nat} (h : RdS wB W b7 Ls rs) (hb : Below W.heap.size W W') : RdS wB W' b7 Ls rs := by
  refine ⟨row_below hb h.row, fun j r hj => ?_, h.nd, h.keep.trans (KeepF.of_below (F := fun _ => False) hb) (fun _ _ e => e.elim)⟩
  obtain ⟨h1, L, g, h2, h3⟩ := h.rd j r hj
  exact ⟨h1, L, g, h2, h3.keep (F := fun _ => False) (KeepF.of_below hb) id (fun _ => id)⟩
theorem RdS.push {wB W W' : World} {b7 : Nat} {Ls : List (List Int)} {rs : List Nat} (h : RdS wB W b7 Ls rs) (hb7 : b7 < wB.heap.size) (hl : rs.length < 4) {L : List Int} {r g : Nat} (hL : Ls[rs.length]? = some L) (hn : IsReader W' r g L 0) (hr : W.heap.size ≤ r) (hb : Below W.heap.size W W') :
    RdS wB (W'.setCell ⟨b7, rs.length, none⟩ (.pointer (some ⟨r, 0, none⟩))) b7 Ls (rs ++ [r]) := by
  have h' := h.move hb
  have hrow := h'.row
  have hk := KeepF.setCell W' ⟨b7, rs.length, none⟩ (.pointer (some ⟨r, 0, none⟩))
  have keep : ∀ {r' g' : Nat} {L' : List Int}, IsReader W' r' g' L' 0 → r' ≠ b7 → IsReader (W'.setCell ⟨b7, rs.length, none⟩ (.pointer (some ⟨r, 0, none⟩))) r' g' L' 0 := fun hi hne =>
    hi.keep hk (fun e => hne e) (fun hp e => (IsReader.gne (g := 0) hrow hi hp (ptrs_u8 rs 4)) e)
  refine ⟨?_, fun j r' hj => ?_, ?_, h'.keep.trans hk (fun i _ e => e)⟩
  · rw [setCell_row hrow, List.setIfInBounds_toArray, ptrs_set hl]
  · by_cases hjl : j < rs.length
    · rw [List.getElem?_append_left hjl] at hj
      obtain ⟨h1, L', g', h2, h3⟩ := h'.rd j r' hj
      exact ⟨h1, L', g', h2, keep h3 (by omega)⟩
    · rw [List.getElem?_append_right (by omega)] at hj
      obtain ⟨e1, e2⟩ : j - rs.length = 0 ∧ r' = r := by
        cases hx : j - rs.length with
        | zero => rw [hx] at hj; simp at hj; exact ⟨rfl, hj.symm⟩
        | succ m => rw [hx] at hj; simp at hj
      subst e2
      obtain rfl : j = rs.length := by omega
      have := h.size
      exact ⟨by omega, L, g, hL, keep hn (by omega)⟩
  · rw [List.nodup_append]
    refine ⟨h.nd, by simp, fun a ha b hb' => ?_⟩
    simp at hb'
    subst hb'
    obtain ⟨j, hj⟩ := List.mem_iff_getElem?.1 ha
    obtain ⟨h1, L', g', h2, h3⟩ := h.rd j a hj
    have := h3.lt
    omega
def RL (wB : World) (b7 : Nat) (L0 L1 L2 L3 : List Int) (G T : Nat) (z : Int) (wr : World) : Prop :=
  ∃ rs : List Nat, z = rs.length ∧ rs.length ≤ 4 ∧ RdS wB wr b7 [L0, L1, L2, L3] rs ∧ (1 ≤ rs.length → L0.length = 9 * G) ∧ (2 ≤ rs.length → L1.length = 12 * G) ∧ (3 ≤ rs.length → L2.length = 27 * T) ∧ (4 ≤ rs.length → L3.length = 8 * T)
theorem RL.start {wB : World} {b7 : Nat} {L0 L1 L2 L3 : List Int} {G T : Nat} (h : wB.heap[b7]? = some (.cells #[.pointer none, .pointer none, .pointer none, .pointer none] 67 (0, 0))) : RL wB b7 L0 L1 L2 L3 G T 0 wB :=
  ⟨[], rfl, by decide, RdS.start h, fun h => absurd h (by decide), fun h => absurd h (by decide), fun h => absurd h (by decide), fun h => absurd h (by decide)⟩
theorem RL.range {wB wr : World} {b7 : Nat} {L0 L1 L2 L3 : List Int} {G T : Nat} {z : Int} (h : RL wB b7 L0 L1 L2 L3 G T z wr) : z = 0 ∨ z = 1 ∨ z = 2 ∨ z = 3 ∨ z = 4 := by
  obtain ⟨rs, h1, h2, -⟩ := h
  omega
theorem RL.keep {wB wr : World} {b7 : Nat} {L0 L1 L2 L3 : List Int} {G T : Nat} {z : Int} (h : RL wB b7 L0 L1 L2 L3 G T z wr) : KeepF (fun i => i = b7) wB wr := by
  obtain ⟨rs, -, -, h3, -⟩ := h
  exact h3.keep
theorem RL.row {wB wr : World} {b7 : Nat} {L0 L1 L2 L3 : List Int} {G T : Nat} {z : Int} (h : RL wB b7 L0 L1 L2 L3 G T z wr) : ∃ cs, wr.heap[b7]? = some (.cells cs 67 (0, 0)) ∧ cs.size = 4 := by
  obtain ⟨rs, -, h2, h3, -⟩ := h
  refine ⟨_, h3.row, ?_⟩
  unfold ptrs
  simp
  omega
theorem RL.push {wB wr W : World} {b7 : Nat} {L0 L1 L2 L3 : List Int} {G T : Nat} {z : Int} (h : RL wB b7 L0 L1 L2 L3 G T z wr) (hb7 : b7 < wB.heap.size) {j : Nat} (hz : z = j) (hj : j < 4) {L : List Int} (hL : [L0, L1, L2, L3][j]? = some L) {r g : Nat} (hn : IsReader W r g L 0) (hr : wr.heap.size ≤ r) (hb : Below wr.heap.size wr W)
    (hl : L.length = if j = 0 then 9 * G else if j = 1 then 12 * G else if j = 2 then 27 * T else 8 * T) : RL wB b7 L0 L1 L2 L3 G T (z + 1) (W.setCell ⟨b7, j, none⟩ (.pointer (some ⟨r, 0, none⟩))) := by
  obtain ⟨rs, h1, h2, h3, l0, l1, l2, l3⟩ := h
  obtain rfl : j = rs.length := by omega
  refine ⟨rs ++ [r], by simp; omega, by simp; omega, h3.push hb7 hj hL hn hr hb, ?_, ?_, ?_, ?_⟩
  all_goals intro hle
  all_goals rw [List.length_append, List.length_singleton] at hle
  · by_cases e : 1 ≤ rs.length
    · exact l0 e
    · have e0 : rs.length = 0 := by omega
      rw [e0] at hL hl; cases hL; exact hl
  · by_cases e : 2 ≤ rs.length
    · exact l1 e
    · have e0 : rs.length = 1 := by omega
      rw [e0] at hL hl; cases hL; exact hl
  · by_cases e : 3 ≤ rs.length
    · exact l2 e
    · have e0 : rs.length = 2 := by omega
      rw [e0] at hL hl; cases hL; exact hl
  · have e0 : rs.length = 3 := by omega
    rw [e0] at hL hl; cases hL; exact hl
theorem RL.done {wB wr : World} {b7 : Nat} {L0 L1 L2 L3 : List Int} {G T : Nat} (h : RL wB b7 L0 L1 L2 L3 G T 4 wr) :
    (L0.length = 9 * G ∧ L1.length = 12 * G ∧ L2.length = 27 * T ∧ L3.length = 8 * T) ∧ ∃ r0 r1 r2 r3 g0 g1 g2 g3, wr.heap[b7]? = some (.cells #[.pointer (some ⟨r0, 0, none⟩), .pointer (some ⟨r1, 0, none⟩), .pointer (some ⟨r2, 0, none⟩), .pointer (some ⟨r3, 0, none⟩)] 67 (0, 0)) ∧
      (IsReader wr r0 g0 L0 0 ∧ IsReader wr r1 g1 L1 0 ∧ IsReader wr r2 g2 L2 0 ∧ IsReader wr r3 g3 L3 0) ∧ (wB.heap.size ≤ r0 ∧ wB.heap.size ≤ r1 ∧ wB.heap.size ≤ r2 ∧ wB.heap.size ≤ r3) ∧ r0 ≠ r1 ∧ r0 ≠ r2 ∧ r0 ≠ r3 ∧ r1 ≠ r2 ∧ r1 ≠ r3 ∧ r2 ≠ r3 := by
  obtain ⟨rs, h1, h2, h3, l0, l1, l2, l3⟩ := h
  have hl : rs.length = 4 := by omega
  refine ⟨⟨l0 (by omega), l1 (by omega), l2 (by omega), l3 (by omega)⟩, ?_⟩
  match rs, hl with
  | [r0, r1, r2, r3], _ =>
    obtain ⟨a0, M0, g0, e0, i0⟩ := h3.rd 0 r0 rfl
    obtain ⟨a1, M1, g1, e1, i1⟩ := h3.rd 1 r1 rfl
    obtain ⟨a2, M2, g2, e2, i2⟩ := h3.rd 2 r2 rfl
    obtain ⟨a3, M3, g3, e3, i3⟩ := h3.rd 3 r3 rfl
    cases e0; cases e1; cases e2; cases e3
    have hn := h3.nd
    simp only [List.nodup_cons, List.mem_cons, List.not_mem_nil, or_false, not_or] at hn
    exact ⟨r0, r1, r2, r3, g0, g1, g2, g3, h3.row, ⟨i0, i1, i2, i3⟩, ⟨a0, a1, a2, a3⟩, hn.1.1, hn.1.2.1, hn.1.2.2, hn.2.1.1, hn.2.1.2, hn.2.2.1⟩
theorem szR1 : (Tryz.prog.info? 66).map (·.size) = some 1 := by kernel_rfl
structure RI (base : Nat) (wx wr : World) (b r r' g g' : Nat) (xs ys : List Int) (A : Option Addr) (c : Nat) (gs : List SG) (B : Option Addr) (d : Nat) (ts : List ST) : Prop where
  bld : Bld base wr b A c gs B d ts wr
  i0 : IsReader wr r g xs 0
  i1 : IsReader wr r' g' ys 0
  keep : KeepF (fun i => i = r ∨ i = r' ∨ base ≤ i) wx wr
section
variable {base : Nat} {wx wr w10 w12 : World} {b r r' g g' : Nat} {xs ys xs' ys' : List Int} {A A2 : Option Addr} {c c2 : Nat} {gs gs2 : List SG} {B B2 : Option Addr} {d d2 : Nat} {ts ts2 : List ST}
theorem RI.drew (h : RI base wx wr b r r' g g' xs ys A c gs B d ts) : RI base wx wr.drew b r r' g g' xs ys A c gs B d ts :=
  ⟨h.bld.drew.rebase, h.i0.keep ((KeepF.refl (fun _ => False) wr).drew) id (fun _ => id), h.i1.keep ((KeepF.refl (fun _ => False) wr).drew) id (fun _ => id), h.keep.drew⟩
theorem RI.moved (h : RI base wx wr b r r' g g' xs ys A c gs B d ts) (hk : KeepF (fun i => i = r ∨ i = r') wr w10) (hr : r < base) (hr' : r' < base) : Bld base w10 b A c gs B d ts w10 :=
  h.bld.move hk (fun i _ e => by rcases e with e | e <;> omega)
theorem RI.push (h : RI base wx wr b r r' g g' xs ys A c gs B d ts) (hk : KeepF (fun i => i = r ∨ i = r') wr w10) (j0 : IsReader w10 r g xs' 0) (j1 : IsReader w10 r' g' ys' 0) (hb : Bld base w10 b A2 c2 gs2 B2 d2 ts2 w12) (hr : r < base) (hr' : r' < base) (hg : 0 < xs'.length → g < base) (hg' : 0 < ys'.length → g' < base) :
    RI base wx w12 b r r' g g' xs' ys' A2 c2 gs2 B2 d2 ts2 :=
  ⟨hb.rebase, j0.keep (KeepF.of_base hb.below) (by omega) (fun hp e => by have := hg hp; omega), j1.keep (KeepF.of_base hb.below) (by omega) (fun hp e => by have := hg' hp; omega),
    (h.keep.trans hk (fun i _ e => by rcases e with e | e; exact .inl e; exact .inr (.inl e))).trans (KeepF.of_base hb.below) (fun i _ e => .inr (.inr e))⟩
theorem RI.row (h : RI base wx wr b r r' g g' xs ys A c gs B d ts) {i : Nat} {o : Obj} (hi : wx.heap[i]? = some o) (hb : i < base) (h1 : i ≠ r) (h2 : i ≠ r') : wr.heap[i]? = some o :=
  (h.keep.block i (lt_row hi) (fun e => by rcases e with e | e | e <;> omega)).trans hi
theorem RI.below (h : RI base wx wr b r r' g g' xs ys A c gs B d ts) {base0 : Nat} (h0 : base0 ≤ wx.heap.size) (hb : base0 ≤ base) (h1 : base0 ≤ r) (h2 : base0 ≤ r') : Below base0 wx wr :=
  KeepF.to_below h.keep h0 (fun i e => by rcases e with e | e | e <;> omega)
end
/-! ### numbers out of bytes are words -/
theorem nx_wf (l : List Int) (k : Nat) : (Lit.int .i64 (nx l k)).wf = true := by
  unfold nx wrap64
  simp [Lit.wf, IntKind.min, IntKind.max, IntKind.signed, IntKind.bits]
  omega
theorem groupR_ok (xs ys : List Int) : okG (groupR xs ys) := ⟨nx_wf _ _, nx_wf _ _, nx_wf _ _, nx_wf _ _, nx_wf _ _, nx_wf _ _⟩
theorem groupsR_ok {xs ys : List Int} {k : Nat} : ∀ x ∈ groupsR xs ys k, okG x := by
  intro x hx
  unfold groupsR at hx
  obtain ⟨i, -, rfl⟩ := List.mem_map.1 hx
  exact groupR_ok _ _
theorem groupsR_length (xs ys : List Int) (k : Nat) : (groupsR xs ys k).length = k := by simp [groupsR]
theorem tasksR_length (xs ys : List Int) (k : Nat) : (tasksR xs ys k).length = k := by simp [tasksR]
end Go.Proofs.YtpnjhffnlafabaaGreatDoor.Im
