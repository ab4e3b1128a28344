/- do and walked: what a list of operations does to a disk. -/
import Derived.Test.YtiibfboendnifaaDkI
namespace Go.Proofs.Ytiibfboendnifaa.Dk
set_option linter.unusedVariables false
set_option linter.unusedSimpArgs false
open Go.RowKit Go.Proofs.Bk Go.Proofs.Bm Go.Proofs.Op Go.Proofs.YtiibfboendnifaaW.PrintWords

/-- the caller's world w0, and a disk that is younger -/
structure Old (w0 w : World) (B K M : Nat) : Prop where
  bel : Below w0.heap.size w0 w
  b : w0.heap.size ≤ B
  k : w0.heap.size ≤ K
  m : w0.heap.size ≤ M
theorem Old.keep {w0 w w' : World} {B K M : Nat} (h : Old w0 w B K M) (hk : KeepF (FD B K M) w w') : Old w0 w' B K M :=
  ⟨h.bel.trans (hk.to_below h.bel.size (fun i hi => by rcases hi with rfl | rfl | rfl; exact h.b; exact h.k; exact h.m)), h.b, h.k, h.m⟩
theorem Old.below {w0 w w' : World} {B K M : Nat} (h : Old w0 w B K M) (hk : Below w.heap.size w w') : Old w0 w' B K M :=
  h.keep (KeepF.of_below hk)
theorem row_old {α : Type} {enc : α → Value} {h1 : ∀ x, (enc x).oneCell' = true} {w : World} {ad : Addr} {n : Nat} {xs : List α} (h : (Kd.scalar enc h1).C w (some ad) n xs) (hn : 0 < n) : ad.block < w.heap.size := by
  obtain ⟨ad', e, hc⟩ := h.2.2 hn
  injection e with e; subst e
  have hl : xs.length = n := h.1
  obtain ⟨cs, hc1, hc2, hc3⟩ := hc 0 (xs[0]'(by omega)) (List.getElem?_eq_getElem _)
  have hc2' : cs = [enc (xs[0]'(by omega))] := hc2
  rw [hc2'] at hc3
  have := World.block_lt_of_cell? w _ (hc3 0 _ rfl)
  have e : (ad.add (0 * (Kd.scalar enc h1).sz + 0)) = ad := by unfold Addr.add; simp
  rw [e] at this; exact this
theorem Old.cg {α : Type} {enc : α → Value} {h1 : ∀ x, (enc x).oneCell' = true} {w0 w : World} {B K M : Nat} {A : Option Addr} {n : Nat} {xs : List α} (h : Old w0 w B K M) (hr : (Kd.scalar enc h1).C w0 A n xs) : CG (Kd.scalar enc h1) (FD B K M) w A n xs := by
  refine ⟨Kd.C_below hr h.bel, fun ad e hn hg => ?_⟩
  subst e
  have := row_old hr hn
  have := h.b; have := h.k; have := h.m
  unfold FD at hg; omega
theorem Old.cf {w0 w : World} {B K M : Nat} {k : IntKind} {A : Option Addr} {n : Nat} {xs : List Int} (h : Old w0 w B K M) (hr : (Kd.int k).C w0 A n xs) : CF (FD B K M) k w A n xs :=
  ⟨(h.cg hr).c, (h.cg hr).far⟩

def Dsk.doo (D : Dsk) (o : OpM) : Dsk := if o.k = 1 then D.wrt o.i o.b else if o.k = 2 then D.fl else if o.k = 4 then D.crash o.kp else if o.k = 5 then D.rot o.i o.n else D
def DoPost (B K M : Nat) (D : Dsk) (o : OpM) (w : World) (e : Ending) (w' : World) : Prop :=
  (∃ v1 v2, e = .returned (.tuple #[v1, v2])) ∧ IsDisk w' B K M (D.doo o) ∧ KeepF (FD B K M) w w'

set_option maxHeartbeats 4000000 in
set_option maxRecDepth 100000 in
theorem do_calls (w0 w : World) (B K M : Nat) (D : Dsk) (o : OpM) (A1 : Option Addr) (c1 : Nat) (A2 : Option Addr) (c2 : Nat) (h : IsDisk w B K M D) (hO : Old w0 w B K M) (hat : OpAt w0 o A1 c1 A2 c2) (hb : ∀ x ∈ o.b, 0 ≤ x ∧ x ≤ 255) (h3 : o.k ≠ 3) :
    Calls Try.prog 21 #[.pointer (some ⟨B, 0, none⟩), .agg (opCells o A1 c1 A2 c2).toArray] w (DoPost B K M D o w) := by
  have hdo : D.doo o = if o.k = 1 then D.wrt o.i o.b else if o.k = 2 then D.fl else if o.k = 4 then D.crash o.kp else if o.k = 5 then D.rot o.i o.n else D := rfl
  obtain ⟨kv, iv, nv, bs, kp⟩ := o
  unfold opCells
  unfold OpAt at hat
  dsimp only at hat hb h3 hdo ⊢
  obtain ⟨nb, hnb⟩ : ∃ nb, bs.length = nb := ⟨_, rfl⟩
  obtain ⟨nk, hnk⟩ : ∃ nk, kp.length = nk := ⟨_, rfl⟩
  rw [hnb, hnk] at hat
  rw [hnb, hnk]
  have hbel := below_alloc (Below.refl w.heap.size w) (.cells #[.int .i64 kv, .int .i64 iv, .int .i64 nv, .slice A1 nb c1, .slice A2 nk c2] 35)
  have h1 := h.below hbel
  have hO1 := hO.below hbel
  have H1 := Aside0.mk h1
  have HR1 := Aside0.mk (hO1.cf hat.1)
  have HR2 := Aside0.mk (hO1.cg hat.2)
  have HB := Aside0.mk hb
  have hk1 : KeepF (FD B K M) w (w.alloc (.cells #[.int .i64 kv, .int .i64 iv, .int .i64 nv, .slice A1 nb c1, .slice A2 nk c2] 35)) := KeepF.of_below hbel
  have fin : Aside0 (∀ (D' : Dsk) (w' : World) (v1 v2 : Value), D.doo ⟨kv, iv, nv, bs, kp⟩ = D' → IsDisk w' B K M D' → KeepF (FD B K M) (w.alloc (.cells #[.int .i64 kv, .int .i64 iv, .int .i64 nv, .slice A1 nb c1, .slice A2 nk c2] 35)) w' → DoPost B K M D ⟨kv, iv, nv, bs, kp⟩ w (.returned (.tuple #[v1, v2])) w') := ⟨fun D' w' v1 v2 he h1 h2 => ⟨⟨_, _, rfl⟩, by rw [he]; exact h1, hk1.trans h2 (fun i _ e => e)⟩⟩
  clear h hO hat hb h1 hO1 hbel hk1
  replace hnb := Aside0.mk hnb; replace hnk := Aside0.mk hnk
  by_cases k1 : kv = 1
  · subst k1
    rw [if_pos rfl] at hdo
    replace hdo := Aside0.mk hdo
    clear h3
    go_enter Try.func21, Try.ntmps21
    go_wp2_with (go_at_call 10; refine (Write_calls B K M D iv A1 nb c1 bs _ H1.out HR1.out HB.out).mono ?_; rintro e w' ⟨rfl, e1, e2⟩; replace e1 := Aside0.mk e1; replace e2 := Aside0.mk e2)
    go_ret2
    exact fin.out _ _ _ _ hdo.out e1.out e2.out
  · by_cases k2 : kv = 2
    · subst k2
      rw [if_neg (by decide), if_pos rfl] at hdo
      replace hdo := Aside0.mk hdo
      clear h3
      go_enter Try.func21, Try.ntmps21
      go_wp2_with (go_at_call 11; refine (Flush_calls B K M D _ H1.out).mono ?_; rintro e w' ⟨rfl, e1, e2⟩; replace e1 := Aside0.mk e1; replace e2 := Aside0.mk e2)
      go_ret2
      exact fin.out _ _ _ _ hdo.out e1.out e2.out
    · by_cases k4 : kv = 4
      · subst k4
        rw [if_neg (by decide), if_neg (by decide), if_pos rfl] at hdo
        replace hdo := Aside0.mk hdo
        clear h3
        go_enter Try.func21, Try.ntmps21
        go_wp2_with (go_at_call 13; refine (Crash_calls B K M D A2 nk c2 kp _ H1.out HR2.out).mono ?_; rintro e w' ⟨rfl, e1, e2⟩; replace e1 := Aside0.mk e1; replace e2 := Aside0.mk e2)
        go_ret2
        exact fin.out _ _ _ _ hdo.out e1.out e2.out
      · by_cases k5 : kv = 5
        · subst k5
          rw [if_neg (by decide), if_neg (by decide), if_neg (by decide), if_pos rfl] at hdo
          replace hdo := Aside0.mk hdo
          clear h3
          go_enter Try.func21, Try.ntmps21
          go_wp2_with (go_at_call 18; refine (Rot_calls B K M D iv nv _ H1.out).mono ?_; rintro e w' ⟨rfl, e1, e2⟩; replace e1 := Aside0.mk e1; replace e2 := Aside0.mk e2)
          go_ret2
          exact fin.out _ _ _ _ hdo.out e1.out e2.out
        · rw [if_neg k1, if_neg k2, if_neg k4, if_neg k5] at hdo
          replace hdo := Aside0.mk hdo
          have t1 : (kv == 1) = false := by simpa using k1
          have t2 : (kv == 2) = false := by simpa using k2
          have t3 : (kv == 3) = false := by simpa using h3
          have t4 : (kv == 4) = false := by simpa using k4
          have t5 : (kv == 5) = false := by simpa using k5
          clear h3 k1 k2 k4 k5
          go_enter Try.func21, Try.ntmps21
          go_wp2_with (go_at_call 14; refine (Read_calls B K M D iv _ H1.out).mono ?_; rintro e w' ⟨v, rfl, _, _, e1⟩; replace e2 := KeepF.of_below (F := FD B K M) e1; replace e1 := H1.out.below e1; replace e1 := Aside0.mk e1; replace e2 := Aside0.mk e2)
          go_ret2
          exact fin.out _ _ _ _ hdo.out e1.out e2.out
end Go.Proofs.Ytiibfboendnifaa.Dk
