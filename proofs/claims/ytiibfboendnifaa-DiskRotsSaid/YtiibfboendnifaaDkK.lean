/- walked: a disk of twenty sectors behind a list of operations. -/
import Derived.Test.YtiibfboendnifaaDkJ
namespace Go.Proofs.Ytiibfboendnifaa.Dk
set_option linter.unusedVariables false
set_option linter.unusedSimpArgs false
open Go.RowKit Go.Proofs.Bk Go.Proofs.Bm Go.Proofs.Op Go.Proofs.YtiibfboendnifaaW.PrintWords

/-- the disk is on, and has n sectors -/
structure Fine (n : Nat) (D : Dsk) : Prop where
  left : D.left = -1
  len : D.kept.length = n
theorem Fine.tick {n : Nat} {D : Dsk} (h : Fine n D) : Fine n D.tick := ⟨by unfold Dsk.tick; rw [h.left]; rfl, h.len⟩
theorem Fine.wrt {n : Nat} {D : Dsk} (h : Fine n D) (i : Int) (bs : List Int) : Fine n (D.wrt i bs) := by
  unfold Dsk.wrt
  split
  · exact ⟨h.tick.left, h.tick.len⟩
  · exact h.tick
theorem Fine.fl {n : Nat} {D : Dsk} (h : Fine n D) : Fine n D.fl := by
  unfold Dsk.fl
  split
  · exact h.tick
  · exact ⟨h.tick.left, by show (mix D.kept D.waits []).length = n; rw [mix_length]; exact h.len⟩
theorem crash1_len (keep : List Bool) : ∀ (l : List Int) (D : Dsk) (n : Nat), (crash1 keep D l n).kept.length = D.kept.length
  | [], _, _ => rfl
  | i :: l, D, n => by
    unfold crash1
    rw [crash1_len keep l]
    unfold Dsk.one
    dsimp only
    split <;> simp
theorem Fine.crash {n : Nat} {D : Dsk} (h : Fine n D) (kp : List Bool) : Fine n (D.crash kp) := ⟨rfl, by unfold Dsk.crash; show (crash1 kp D D.wts 0).kept.length = n; rw [crash1_len]; exact h.len⟩
theorem Fine.rot {n : Nat} {D : Dsk} (h : Fine n D) (i b : Int) : Fine n (D.rot i b) := by
  unfold Dsk.rot
  split
  · exact ⟨h.left, by simpa using h.len⟩
  · exact h
theorem Fine.doo {n : Nat} {D : Dsk} (h : Fine n D) (o : OpM) : Fine n (D.doo o) := by
  unfold Dsk.doo
  repeat' split
  · exact h.wrt _ _
  · exact h.fl
  · exact h.crash _
  · exact h.rot _ _
  · exact h

def WalkedPost (w : World) (e : Ending) (w' : World) : Prop :=
  ∃ B K M D, e = .returned (.pointer (some ⟨B, 0, none⟩)) ∧ IsDisk w' B K M D ∧ Fine 20 D ∧ Old w w' B K M

set_option maxHeartbeats 4000000 in
set_option maxRecDepth 100000 in
theorem walked_calls (A : Option Addr) (n c : Nat) (l : List OpM) (w : World) (h : kOp.C w A n l) (hb : ∀ o ∈ l, ∀ x ∈ o.b, 0 ≤ x ∧ x ≤ 255) :
    Calls Try.prog 9 #[.slice A n c] w (WalkedPost w) := by
  have H := Aside0.mk h
  have hn := h.2.1
  have HB := Aside0.mk hb
  clear h hb
  go_enter Try.func9, Try.ntmps9
  go_wp2_with (go_at_call 20; refine (New_calls 20 w).mono ?_; rintro e w1 ⟨B, K, M, rfl, h1, hB1, hK1, hM1, hbel⟩)
  have hO : Old w w1 B K M := ⟨hbel, hB1, hK1, hM1⟩
  have hF : Fine 20 ⟨List.replicate (max 0 (min (20 : Int) 512)).toNat zeros, [], -1⟩ := ⟨rfl, by rw [List.length_replicate]; decide⟩
  generalize (⟨List.replicate (max 0 (min (20 : Int) 512)).toNat zeros, [], -1⟩ : Dsk) = D0 at h1 hF
  replace h1 := Aside0.mk h1; replace hO := Aside0.mk hO; replace hF := Aside0.mk hF
  clear hB1 hK1 hM1 hbel
  go_loopw [4] (fun i wr => ∃ (k : Nat) (Dn : Dsk), i = .int .i64 k ∧ k ≤ n ∧ Aside0 (IsDisk wr B K M Dn) ∧ Aside0 (Fine 20 Dn) ∧ Aside0 (Old w wr B K M)) (fun i _ => n - (intOf i).toNat)
  case atStart => exact ⟨0, D0, rfl, Nat.zero_le _, h1, hF, hO⟩
  case round =>
    obtain ⟨k, Dn, rfl, hk, hD, hFn, hOn⟩ := hrel
    by_cases hlt : k < n
    · have p1 : 0 ≤ (k : Int) := by omega
      have q1 : (k : Int) < (n : Int) := by omega
      obtain ⟨ad, o, A1, c1, A2, c2, rfl, ho, hat, hcs⟩ := ops_at H.out hlt
      have hcs' : ∀ i u, (opCells o A1 c1 A2 c2)[i]? = some u → wr.cell? ((ad.add (k * 5)).add i) = some u := fun i u hu => by
        rw [Addr.add_add]
        have := hcs i u hu
        exact (hOn.out.bel.cell (World.block_lt_of_cell? w _ this)).trans this
      have x0 : wr.cell? (ad.add (k * 5)) = some (.int .i64 o.k) := by
        have := hcs' 0 _ rfl
        rw [Addr.add_add] at this; exact this
      have hbo := Aside0.mk (HB.out o (List.mem_of_getElem? ho))
      replace hcs := Aside0.mk hcs; replace hcs' := Aside0.mk hcs'; replace hat := Aside0.mk hat; replace ho := Aside0.mk ho
      by_cases h3 : o.k = 3
      · rw [h3] at x0
        replace h3 := Aside0.mk h3
        go_wp2
        go_roundw
        case rel => exact ⟨k + 1, Dn, by simp, by omega, hD, hFn, hOn⟩
        case measure => show n - ((k : Int) + 1).toNat < n - (k : Int).toNat; omega
      · have t3 : (o.k != 3) = true := by simpa using h3
        have h3' := Aside0.mk h3
        clear h3
        obtain ⟨kv, hkv⟩ : ∃ kv, o.k = kv := ⟨_, rfl⟩
        rw [hkv] at x0 t3
        replace hkv := Aside0.mk hkv
        go_wp2_with (first
          | ((with_reducible refine gate_op (.load 35 (.tmp 26)) rfl ?_); go_must (refine wpList_load_midB rfl _ _ rfl (ad.add (k * 5)) rfl (opCells o A1 c1 A2 c2) _ hcs'.out Try.underlying35 rfl ?r2 ?_); (case r2 => kernel_rfl))
          | (go_at_call 21; refine (do_calls w wr B K M Dn o A1 c1 A2 c2 hD.out hOn.out hat.out hbo.out h3'.out).mono ?_; rintro e w' ⟨⟨v1, v2, rfl⟩, e1, e2⟩; replace e1 := Aside0.mk e1; replace e2 := Aside0.mk e2))
        have hO' := Aside0.mk (hOn.out.keep e2.out)
        have hF' := Aside0.mk (hFn.out.doo o)
        go_roundw
        case rel => exact ⟨k + 1, Dn.doo o, by simp, by omega, e1, hF', hO'⟩
        case measure => show n - ((k : Int) + 1).toNat < n - (k : Int).toNat; omega
    · go_wp2
      go_ret
      exact ⟨B, K, M, Dn, rfl, hD.out, hFn.out, hOn.out⟩
end Go.Proofs.Ytiibfboendnifaa.Dk
