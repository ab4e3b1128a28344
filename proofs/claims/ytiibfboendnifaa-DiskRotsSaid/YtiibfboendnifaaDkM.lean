/- DiskStays: what was flushed stays. -/
import Derived.Test.YtiibfboendnifaaDkL
namespace Go.Proofs.Ytiibfboendnifaa.Dk
set_option linter.unusedVariables false
set_option linter.unusedSimpArgs false
open Go.RowKit Go.Proofs.Bk Go.Proofs.Bm Go.Proofs.Op Go.Proofs.YtiibfboendnifaaW.PrintWords

theorem Old.back {w0 w1 w : World} {B K M : Nat} (h : Old w1 w B K M) (hb : Below w0.heap.size w0 w1) : Old w0 w B K M :=
  ⟨below_then hb hb.size h.bel, Nat.le_trans hb.size h.b, Nat.le_trans hb.size h.k, Nat.le_trans hb.size h.m⟩
theorem foldl_adel : ∀ (l : List Int) (ws : List (Int × List Int)), (ws.map (·.1)).Perm l → l.foldl adel ws = []
  | [], ws, h => by
    have := h.length_eq
    simp at this
    simpa using this
  | i :: l, ws, h => by
    rw [List.foldl_cons]
    refine foldl_adel l _ ?_
    have := h.erase i
    rw [List.erase_cons_head] at this
    rw [keys_adel]; exact this
theorem crash1_waits (kp : List Bool) : ∀ (l : List Int) (D : Dsk) (n : Nat), (crash1 kp D l n).waits = l.foldl adel D.waits
  | [], _, _ => rfl
  | i :: l, D, n => by unfold crash1; rw [crash1_waits kp l]; rfl
theorem crash1_kept (kp : List Bool) (i : Nat) : ∀ (l : List Int) (D : Dsk) (n : Nat), (∀ x ∈ l, x.toNat ≠ i) → (crash1 kp D l n).kept[i]? = D.kept[i]?
  | [], _, _, _ => rfl
  | x :: l, D, n, h => by
    unfold crash1
    rw [crash1_kept kp i l _ _ (fun y hy => h y (by simp [hy]))]
    unfold Dsk.one
    dsimp only
    split
    · rw [List.getElem?_set_ne (h x (by simp))]
    · rfl
theorem wts_perm (D : Dsk) : D.wts.Perm (D.waits.map (·.1)) := List.mergeSort_perm _ _
theorem crash_waits (D : Dsk) (kp : List Bool) : (D.crash kp).waits = [] := by
  unfold Dsk.crash
  show (crash1 kp D D.wts 0).waits = []
  rw [crash1_waits]
  exact foldl_adel _ _ (wts_perm D).symm
theorem crash_kept {w : World} {B K M : Nat} {D : Dsk} (h : IsDisk w B K M D) (kp : List Bool) {i : Int} (h0 : 0 ≤ i) (hi : aget D.waits i = none) : (D.crash kp).kept[i.toNat]? = D.kept[i.toNat]? := by
  unfold Dsk.crash
  show (crash1 kp D D.wts 0).kept[i.toNat]? = _
  refine crash1_kept kp _ _ _ _ (fun x hx e => ?_)
  have hx' := (wts_perm D).mem_iff.1 hx
  obtain ⟨p, hp, rfl⟩ := List.mem_map.1 hx'
  have := (h.wsec p hp).2.1
  have e' : p.1 = i := by omega
  rw [e'] at hx'
  exact (aget_none_iff _ _).1 hi hx'
theorem wrt_other {n : Nat} {D : Dsk} (h : Fine n D) {i j : Int} (hj : j ≠ i) (bs : List Int) : aget (D.wrt j bs).waits i = aget D.waits i ∧ (D.wrt j bs).kept = D.kept := by
  unfold Dsk.wrt
  split
  · exact ⟨by rw [aget_aset, if_neg (Ne.symm hj)], rfl⟩
  · rw [h.tick_eq]; exact ⟨rfl, rfl⟩
theorem fl_kept {n : Nat} {D : Dsk} (h : Fine n D) {i : Int} (h0 : 0 ≤ i) {v : List Int} (hv : aget D.waits i = some v) (hi : i < n) : D.fl.kept[i.toNat]? = some v := by
  rw [h.fl_eq]
  show (mix D.kept D.waits [])[i.toNat]? = _
  unfold mix
  rw [List.getElem?_mapIdx, List.getElem?_eq_getElem (by rw [h.len]; omega), Option.map_some, aget_nil, show ((i.toNat : Nat) : Int) = i by omega, hv]
  rfl
theorem fl_waits {n : Nat} {D : Dsk} (h : Fine n D) : D.fl.waits = [] := by rw [h.fl_eq]
theorem sec_kept {D : Dsk} {i : Int} {v : List Int} (hw : aget D.waits i = none) (hk : D.kept[i.toNat]? = some v) : D.sec i = v := by
  unfold Dsk.sec; rw [hw, List.getD_eq_getElem?_getD, hk]; rfl
theorem pad_lo {bs : List Int} {k : Nat} (hk : k < bs.length) : (pad bs)[k]? = some (rd bs k) := by
  unfold pad rd
  rw [List.getElem?_append_left hk, List.getD_eq_getElem?_getD, Int.toNat_natCast, List.getElem?_eq_getElem hk]; rfl
theorem pad_hi {bs : List Int} {k : Nat} (hk : bs.length ≤ k) (h64 : k < 64) : (pad bs)[k]? = some 0 := by
  unfold pad
  rw [List.getElem?_append_right hk, List.getElem?_replicate, if_pos (by omega)]

set_option maxHeartbeats 8000000 in
set_option maxRecDepth 100000 in
theorem DiskStays_calls (w : World) (A0 : Option Addr) (n0 c0 : Nat) (l0 : List OpM) (hr0 : kOp.C w A0 n0 l0) (hc0 : n0 ≤ c0) (ho0 : ∀ x ∈ l0, okOp x)
    (a1 : Int) (w1 : (Lit.int .u8 a1).wf = true)
    (A2 : Option Addr) (n2 c2 : Nat) (l2 : List Int) (hr2 : (Kd.int .u8).C w A2 n2 l2) (hc2 : n2 ≤ c2) (ho2 : ∀ x ∈ l2, (Lit.int .u8 x).wf = true)
    (A3 : Option Addr) (n3 c3 : Nat) (l3 : List OpM) (hr3 : kOp.C w A3 n3 l3) (hc3 : n3 ≤ c3) (ho3 : ∀ x ∈ l3, okOp x)
    (A4 : Option Addr) (n4 c4 : Nat) (l4 : List Bool) (hr4 : Kd.bool.C w A4 n4 l4) (hc4 : n4 ≤ c4) (ho4 : ∀ x ∈ l4, True) :
    Calls Try.prog 3 #[.slice A0 n0 c0, .int .u8 a1, .slice A2 n2 c2, .slice A3 n3 c3, .slice A4 n4 c4] w (OkPost w) := by
  have hb0 : Aside0 (∀ o ∈ l0, ∀ x ∈ o.b, 0 ≤ x ∧ x ≤ 255) := ⟨fun o ho x hx => wf_u8 ((ho0 o ho).2.2.2.1 x hx)⟩
  have hb3 : Aside0 (∀ o ∈ l3, ∀ x ∈ o.b, 0 ≤ x ∧ x ≤ 255) := ⟨fun o ho x hx => wf_u8 ((ho3 o ho).2.2.2.1 x hx)⟩
  have hb2 : Aside0 (∀ x ∈ l2, 0 ≤ x ∧ x ≤ 255) := ⟨fun x hx => wf_u8 (ho2 x hx)⟩
  have ha1 := wf_u8 w1
  have hn2 := hr2.2.1
  have hn3 := hr3.2.1
  have hn4 := hr4.2.1
  have hl2 : Aside0 (l2.length = n2) := ⟨hr2.1⟩
  have HR0 := Aside0.mk hr0
  have HR2 := Aside0.mk hr2
  have HR3 := Aside0.mk hr3
  have HR4 := Aside0.mk hr4
  clear hr0 hr2 hr3 hr4 hc0 hc2 hc3 hc4 ho0 ho2 ho3 ho4 w1
  go_enter Try.func3, Try.ntmps3
  go_wp2_with fail
  with_reducible refine (awake_calls w).mono ?_
  rintro e w1 ⟨rfl, hB1⟩
  replace hB1 := Aside0.mk hB1
  go_wp2_with fail
  with_reducible refine (few_calls A0 n0 c0 l0 _ (Kd.C_below HR0.out hB1.out)).mono ?_
  rintro e w' ⟨⟨b1, rfl⟩, rfl⟩
  go_wp2_with fail
  with_reducible refine (few_calls A3 n3 c3 l3 _ (Kd.C_below HR3.out hB1.out)).mono ?_
  rintro e w' ⟨⟨b2, rfl⟩, rfl⟩
  by_cases hb : b1 = true ∧ b2 = true ∧ n3 ≤ 20 ∧ n2 ≤ 64 ∧ n4 ≤ 50
  · obtain ⟨rfl, rfl, q3, q2, q4⟩ := hb
    go_wp2_with fail
    with_reducible refine (walked_calls A0 n0 c0 l0 _ (Kd.C_below HR0.out hB1.out) hb0.out).mono ?_
    rintro e w4 ⟨B, K, M, D, rfl, hD, hF, hO⟩
    replace hO := hO.back hB1.out
    replace hD := Aside0.mk hD; replace hF := Aside0.mk hF; replace hO := Aside0.mk hO
    go_wp2_with fail
    obtain ⟨i, hi⟩ : ∃ i, a1 % 20 = i := ⟨_, rfl⟩
    rw [hi]
    have hi0 : 0 ≤ i := by omega
    have hi1 : i < 20 := by omega
    clear hi ha1
    have hbl : Aside0 (l2.length ≤ 64) := ⟨by rw [hl2.out]; exact q2⟩
    have hE := Aside0.mk (hF.out.wrErr hi0 hi1 hbl.out)
    have hW := Aside0.mk (hF.out.wrt_eq hi0 hi1 hbl.out)
    have hF1 := Aside0.mk (hF.out.wrt i l2)
    have hF2 := Aside0.mk hF1.out.fl
    have hg2 := Aside0.mk hF1.out.flErr
    have hk2 := Aside0.mk (fl_kept hF1.out hi0 (v := pad l2) (by rw [hW.out]; show aget (aset D.waits i (pad l2)) i = _; rw [aget_aset, if_pos rfl]) hi1)
    have hw2 := Aside0.mk (fl_waits hF1.out)
    with_reducible refine (Write_calls B K M D i A2 n2 c2 l2 _ hD.out (hO.out.cf HR2.out) hb2.out).mono ?_
    rintro e w5 ⟨rfl, h5, hk5⟩
    have hO5 := hO.out.keep hk5
    rw [hE.out]
    replace h5 := Aside0.mk h5; replace hk5 := Aside0.mk hk5; replace hO5 := Aside0.mk hO5
    go_wp2_with fail
    with_reducible refine (Flush_calls B K M _ _ h5.out).mono ?_
    rintro e w6 ⟨rfl, h6, hk6⟩
    have hO6 := hO5.out.keep hk6
    rw [hg2.out]
    generalize (D.wrt i l2).fl = D2 at h6 hF2 hk2 hw2
    replace h6 := Aside0.mk h6; replace hk6 := Aside0.mk hk6; replace hO6 := Aside0.mk hO6
    go_wp2_with fail
    with_reducible refine (Waits_calls B K M _ _ h6.out).mono ?_
    rintro e w7 ⟨v, rfl, ⟨A7, c7, rfl, hc7, hf7⟩, hb7⟩
    have h7 := h6.out.below hb7
    have hO7 := hO6.out.below hb7
    rw [show D2.waits.length = 0 from by rw [hw2.out]; rfl]
    replace hc7 := Aside0.mk hc7; replace hf7 := Aside0.mk hf7; replace hb7 := Aside0.mk hb7; replace h7 := Aside0.mk h7; replace hO7 := Aside0.mk hO7
    go_wp2_with fail
    have hn2' : Aside0 (aget D2.waits i = none) := ⟨by rw [hw2.out]; rfl⟩
    clear hF1 hg2 h5 hk5 hO5 h6 hk6 hO6 hb7
    go_loopw [18] (fun iv wr => ∃ (k : Nat) (Dn : Dsk), iv = .int .i64 k ∧ k ≤ n3 ∧ Aside0 (IsDisk wr B K M Dn) ∧ Aside0 (Fine 20 Dn) ∧ Aside0 (Old w wr B K M) ∧ Aside0 (aget Dn.waits i = none) ∧ Aside0 (Dn.kept[i.toNat]? = some (pad l2))) (fun iv _ => n3 - (intOf iv).toNat)
    case atStart => exact ⟨0, D2, rfl, Nat.zero_le _, h7, hF2, hO7, hn2', hk2⟩
    case round =>
      obtain ⟨k, Dn, rfl, hk, hDn, hFn, hOn, hNn, hKn⟩ := hrel
      by_cases hlt : k < n3
      · have p1 : 0 ≤ (k : Int) := by omega
        have q1 : (k : Int) < (n3 : Int) := by omega
        obtain ⟨ad, o, B1, d1, B2, d2, rfl, ho, hat, hcs⟩ := ops_at HR3.out hlt
        have mv : ∀ a v, w.cell? a = some v → wr.cell? a = some v := fun a v h => (hOn.out.bel.cell (World.block_lt_of_cell? w _ h)).trans h
        have x1 : wr.cell? ⟨(ad.add (k * 5)).block, (ad.add (k * 5)).off + 1, none⟩ = some (.int .i64 o.i) := by rw [add_field _ _ _ (by omega)]; exact mv _ _ (hcs 1 _ rfl)
        have x3 : wr.cell? ⟨(ad.add (k * 5)).block, (ad.add (k * 5)).off + 3, none⟩ = some (.slice B1 o.b.length d1) := by rw [add_field _ _ _ (by omega)]; exact mv _ _ (hcs 3 _ rfl)
        have hbo := Aside0.mk (hb3.out o (List.mem_of_getElem? ho))
        obtain ⟨oi, hoi⟩ : ∃ oi, o.i = oi := ⟨_, rfl⟩
        obtain ⟨on, hon⟩ : ∃ on, o.b.length = on := ⟨_, rfl⟩
        have hat1 := hat.1
        rw [hoi] at x1
        rw [hon] at x3 hat1
        replace ho := Aside0.mk ho; replace hat := Aside0.mk hat; replace hcs := Aside0.mk hcs; replace hoi := Aside0.mk hoi; replace hon := Aside0.mk hon; replace mv := Aside0.mk mv; replace hat1 := Aside0.mk hat1
        by_cases he : oi = i
        · have t1 : (oi != i) = false := by simpa using he
          clear he
          go_wp2_with fail
          go_roundw
          case rel => exact ⟨k + 1, Dn, by simp, by omega, hDn, hFn, hOn, hNn, hKn⟩
          case measure => show n3 - ((k : Int) + 1).toNat < n3 - (k : Int).toNat; omega
        · have t1 : (oi != i) = true := by simpa using he
          have hi2 := Aside0.mk (wrt_other hFn.out he o.b)
          clear he
          go_wp2_with fail
          go_still_tail 11, (by kernel_rfl)
          change wpList _ _ _ _ _ wr.drew
          have hO8 := Aside0.mk (hOn.out.keep (KeepF.drew (KeepF.refl (FD B K M) wr)))
          have hD8 : Aside0 (IsDisk wr.drew B K M Dn) := ⟨hDn.out.drewN 1⟩
          have hf8 := Aside0.mk (hO8.out.cf hat1.out)
          go_wp2_with (go_at_call 10; refine (Write_calls B K M Dn oi B1 on d1 o.b _ hD8.out hf8.out hbo.out).mono ?_; rintro e w9 ⟨rfl, h9, hk9⟩; replace h9 := Aside0.mk h9; replace hk9 := Aside0.mk hk9)
          have hO9 := Aside0.mk (hO8.out.keep hk9.out)
          have hF9 := Aside0.mk (hFn.out.wrt oi o.b)
          have hN9 : Aside0 (aget (Dn.wrt oi o.b).waits i = none) := ⟨hi2.out.1.trans hNn.out⟩
          have hK9 : Aside0 ((Dn.wrt oi o.b).kept[i.toNat]? = some (pad l2)) := ⟨by rw [hi2.out.2]; exact hKn.out⟩
          go_roundw
          case rel => exact ⟨k + 1, Dn.wrt oi o.b, by simp, by omega, h9, hF9, hO9, hN9, hK9⟩
          case measure => show n3 - ((k : Int) + 1).toNat < n3 - (k : Int).toNat; omega
      · have hC := Aside0.mk (crash_waits Dn l4)
        have hCk : Aside0 ((Dn.crash l4).kept[i.toNat]? = some (pad l2)) := ⟨(crash_kept hDn.out l4 hi0 hNn.out).trans hKn.out⟩
        have hFc := Aside0.mk (hFn.out.crash l4)
        have hCs : Aside0 ((Dn.crash l4).sec i = pad l2) := ⟨sec_kept (by rw [hC.out]; rfl) hCk.out⟩
        have hCe := Aside0.mk (hFc.out.rdErr hi0 hi1)
        go_wp2_with fail
        have hcg4 : CG Kd.bool (FD B K M) wr A4 n4 l4 := hOn.out.cg HR4.out
        with_reducible refine (Crash_calls B K M Dn A4 n4 c4 l4 _ hDn.out hcg4).mono ?_
        rintro e w10 ⟨rfl, h10, hk10⟩
        have hO10 := hOn.out.keep hk10
        replace h10 := Aside0.mk h10; replace hk10 := Aside0.mk hk10; replace hO10 := Aside0.mk hO10
        go_wp2_with fail
        with_reducible refine (Read_calls B K M _ i _ h10.out).mono ?_
        rintro e w11 ⟨v, rfl, hs, _, hb11⟩
        rw [hCe.out] at hs ⊢
        obtain ⟨g, hs, hg, hg'⟩ := hs rfl
        rw [hCs.out] at hs
        obtain ⟨f, d, rfl, hd, hx⟩ := hs
        change SlRow w11 g f (pad l2) at hx
        have hO11 := hO10.out.below hb11
        have hpl : (pad l2).length = 64 := by unfold pad; rw [List.length_append, List.length_replicate]; have := hbl.out; omega
        rw [hpl]
        replace hd := Aside0.mk hd; replace hx := Aside0.mk hx; replace hO11 := Aside0.mk hO11; replace hb11 := Aside0.mk hb11; replace hg := Aside0.mk hg; replace hg' := Aside0.mk hg'; replace hpl := Aside0.mk hpl
        go_wp2_with fail
        go_loopw [21] (fun iv wr => ∃ (k : Nat), iv = .int .i64 k ∧ k ≤ 64 ∧ Aside0 (SlRow wr g f (pad l2)) ∧ Aside0 (Below w.heap.size w wr)) (fun iv _ => 64 - (intOf iv).toNat)
        case atStart => exact ⟨0, rfl, by omega, hx, ⟨hO11.out.bel⟩⟩
        case round =>
          obtain ⟨k, rfl, hk, hX, hBw⟩ := hrel
          by_cases hlt : k < 64
          · by_cases hk2 : k < n2
            · have p1 : 0 ≤ (k : Int) := by omega
              have q1 : (k : Int) < (n2 : Int) := by omega
              have q5 : (k : Int) < 64 := by omega
              obtain ⟨ad, rfl, y1⟩ := Kd.at_int (Kd.C_below HR2.out hBw.out) k p1 q1
              rw [Int.toNat_natCast] at y1
              have y2 := hX.out k _ (pad_lo (by rw [hl2.out]; exact hk2))
              obtain ⟨z, hz⟩ : ∃ z, rd l2 k = z := ⟨_, rfl⟩
              rw [hz] at y1 y2
              replace hz := Aside0.mk hz
              go_wp2_with fail
              have q6 : ¬ (n2 : Int) ≤ (k : Int) := by omega
              have t1 : (z != z) = false := by simp
              go_quiet (fail)
              have hXq : Aside0 (SlRow (wr.drewN nq) g f (pad l2)) := ⟨hX.out⟩
              have hBq : Aside0 (Below w.heap.size w (wr.drewN nq)) := ⟨⟨hBw.out.os, hBw.out.tape, hBw.out.output, hBw.out.size, hBw.out.block⟩⟩
              go_wp2_with fail
              go_roundw
              case rel => exact ⟨k + 1, by simp, by omega, hXq, hBq⟩
              case measure => show 64 - ((k : Int) + 1).toNat < 64 - (k : Int).toNat; omega
            · have p1 : 0 ≤ (k : Int) := by omega
              have q1 : ¬ (k : Int) < (n2 : Int) := by omega
              have q6 : (n2 : Int) ≤ (k : Int) := by omega
              have q5 : (k : Int) < 64 := by omega
              have y2 := hX.out k _ (pad_hi (by rw [hl2.out]; omega) hlt)
              go_wp2_with fail
              go_quiet (fail)
              have hXq : Aside0 (SlRow (wr.drewN nq) g f (pad l2)) := ⟨hX.out⟩
              have hBq : Aside0 (Below w.heap.size w (wr.drewN nq)) := ⟨⟨hBw.out.os, hBw.out.tape, hBw.out.output, hBw.out.size, hBw.out.block⟩⟩
              go_wp2_with fail
              go_roundw
              case rel => exact ⟨k + 1, by simp, by omega, hXq, hBq⟩
              case measure => show 64 - ((k : Int) + 1).toNat < 64 - (k : Int).toNat; omega
          · go_wp2_with fail
            go_ret
            exact ⟨rfl, hBw.out⟩
  · have fin := Aside0.mk (show OkPost w (.returned (.bool true)) w1 from ⟨rfl, hB1.out⟩)
    clear hB1
    cases b1 with
    | false => go_wp2; go_ret; exact fin.out
    | true =>
      cases b2 with
      | false => go_wp2; go_ret; exact fin.out
      | true =>
        by_cases q3 : n3 ≤ 20
        · by_cases q2 : n2 ≤ 64
          · have q4 : ¬ n4 ≤ 50 := fun h => hb ⟨rfl, rfl, q3, q2, h⟩
            clear hb
            go_wp2; go_ret; exact fin.out
          · clear hb
            go_wp2; go_ret; exact fin.out
        · clear hb
          go_wp2; go_ret; exact fin.out
end Go.Proofs.Ytiibfboendnifaa.Dk
