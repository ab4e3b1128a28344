/- Unpack of package parcel: the sections' row while bodies are laid into it. -/
import Derived.Test.YtpnjhffnlafabaaGreatDoorQIm9
namespace Go.Proofs.YtpnjhffnlafabaaGreatDoor.Im
set_option linter.unusedVariables false
set_option linter.unusedSimpArgs false
open Go.Proofs Go.RowKit Go.Proofs.Bk Go.Proofs.Bm Go.Proofs.Sc Go.Proofs.Kf Go.Proofs.YtpnjhffnlafabaaGreatDoorW.PrintWords Go.Proofs.YtpnjhffnlafabaaGreatDoor.Sl Go.Proofs.YtpnjhffnlafabaaGreatDoor.Sn Go.Proofs.YtpnjhffnlafabaaGreatDoor.PImageBack
theorem part_le (xs : List Int) (f m : Int) : (Sl.part xs f m).1.length ≤ xs.length ∧ (Sl.part xs f m).2.1.length ≤ xs.length := by
  unfold Sl.part
  repeat' split
  all_goals simp
  all_goals (try rw [List.length_take])
  all_goals omega
theorem partsL_le : ∀ (es : List EN) (xs : List Int) (f : Int), (partsL es xs f).2.1.length ≤ xs.length
  | [], _, _ => Nat.le_refl _
  | e :: es, xs, f => by
    have h1 := part_le xs f e.f1
    have h2 := partsL_le es (Sl.part xs f e.f1).2.1 (Sl.part xs f e.f1).2.2
    rw [partsL]
    exact Nat.le_trans h2 h1.2
theorem set_mid (a : List (List Int)) (l : List Int) {k N : Nat} (ha : a.length = k) (hk : k < N) : (a ++ List.replicate (N - k) []).set k l = (a ++ [l]) ++ List.replicate (N - (k + 1)) [] := by
  rw [List.set_append_right _ _ (by omega), ha, Nat.sub_self]
  obtain ⟨m, hm⟩ : ∃ m, N - k = m + 1 := ⟨N - k - 1, by omega⟩
  rw [hm, show N - (k + 1) = m by omega, List.replicate_succ]
  simp
theorem sumsOk_snoc {es : List EN} {bs : List (List Int)} {k : Nat} {x : EN} {l : List Int} (hx : es[k]? = some x) (hl : bs[k]? = some l) : sumsOk (es.take (k + 1)) (bs.take (k + 1)) = (sumsOk (es.take k) (bs.take k) && decide (crc l = x.f2)) := by
  have h1 : k < es.length := (List.getElem?_eq_some_iff.1 hx).1
  have h2 : k < bs.length := (List.getElem?_eq_some_iff.1 hl).1
  unfold sumsOk
  rw [List.take_add_one, List.take_add_one, hx, hl, List.zip_append (by simp; omega)]
  simp
theorem sumsOk_false {es : List EN} {bs : List (List Int)} {k : Nat} (h : sumsOk (es.take k) (bs.take k) = false) : sumsOk es bs = false := by
  unfold sumsOk at h ⊢
  rw [List.zip_eq_zipWith, ← List.take_zipWith, ← List.zip_eq_zipWith] at h
  rw [List.all_eq_false] at h ⊢
  obtain ⟨p, hp, hq⟩ := h
  exact ⟨p, List.mem_of_mem_take hp, hq⟩
theorem N_keep {w w' : World} {A : Option Addr} {n r : Nat} {es : List EN} (h : kN.C w A n es) (hA : ∀ ad, A = some ad → ad.block ≠ r) (hk : KeepF (fun i => i = r ∨ w.heap.size ≤ i) w w') : kN.C w' A n es := by
  refine ⟨h.1, h.2.1, fun hn => ?_⟩
  obtain ⟨ad, e, hc⟩ := h.2.2 hn
  refine ⟨ad, e, fun j p hj => ?_⟩
  obtain ⟨c', p1, p2, p3⟩ := hc j p hj
  refine ⟨c', p1, ?_, fun i u hu => ?_⟩
  · obtain rfl := kN_open p2
    exact kN_mk _ _
  · have h4 := p3 i u hu
    have hlt := World.block_lt_of_cell? w _ h4
    refine (World.cell?_of_block (w := w) (w' := w') (hk.block _ hlt (fun hF => ?_))).trans h4
    rcases hF with e2 | e2
    · rw [add_blk] at e2; exact hA ad e e2
    · omega
structure OW (W : World) (q r : Nat) (es : List EN) (bs : List (List Int)) : Prop where
  row : ∃ cur, W.heap[q]? = some (.cells cur 36 (0, 0))
  kind : ∀ j x, es[j]? = some x → W.cell? ⟨q, j * 2, none⟩ = some (.int .i64 x.f0)
  body : ∀ j l, bs[j]? = some l → ∃ A c, W.cell? ⟨q, j * 2 + 1, none⟩ = some (.slice A l.length c) ∧ l.length ≤ c ∧ U8.C W A l.length l ∧ ∀ ad, A = some ad → 0 < l.length → ad.block ≠ q ∧ ad.block ≠ r
theorem OW.keep {W W' : World} {q r : Nat} {es : List EN} {bs : List (List Int)} {F : Nat → Prop} (h : OW W q r es bs) (hk : KeepF F W W') (hq : ¬ F q) (hb : ∀ i, i < W.heap.size → F i → i = r) : OW W' q r es bs := by
  obtain ⟨⟨cur, hr⟩, h2, h3⟩ := h
  have hblk := hk.block q (lt_row hr) hq
  refine ⟨⟨cur, hblk.trans hr⟩, fun j x hx => (World.cell?_of_block (w := W) (w' := W') hblk).trans (h2 j x hx), fun j l hl => ?_⟩
  obtain ⟨A, c, q1, q2, q3, q4⟩ := h3 j l hl
  refine ⟨A, c, (World.cell?_of_block (w := W) (w' := W') hblk).trans q1, q2, ?_, q4⟩
  refine ⟨q3.1, q3.2.1, fun hn => ?_⟩
  obtain ⟨ad, e, hc⟩ := q3.2.2 hn
  refine ⟨ad, e, fun j p hj => ?_⟩
  obtain ⟨c', p1, p2, p3⟩ := hc j p hj
  refine ⟨c', p1, p2, fun i u hu => ?_⟩
  have h4 := p3 i u hu
  have hlt := World.block_lt_of_cell? W _ h4
  refine (World.cell?_of_block (w := W) (w' := W') (hk.block _ hlt (fun hF => ?_))).trans h4
  have h5 := hb _ hlt hF
  rw [add_blk] at h5
  exact (q4 ad e hn).2 h5
theorem OW.below {W W' : World} {q r : Nat} {es : List EN} {bs : List (List Int)} (h : OW W q r es bs) (hb : Below W.heap.size W W') : OW W' q r es bs :=
  h.keep (F := fun _ => False) (KeepF.of_below hb) id (fun _ _ h => h.elim)
theorem OW.frozen {W : World} {q r : Nat} {es : List EN} {bs : List (List Int)} (h : OW W q r es bs) (j : Nat) : W.frozen? ⟨q, j, none⟩ = false := by
  obtain ⟨⟨cur, hr⟩, -, -⟩ := h
  exact frozen_row hr j
theorem OW.set {W : World} {q r : Nat} {es : List EN} {bs : List (List Int)} {k : Nat} {l0 l : List Int} {A : Option Addr} {c : Nat} (h : OW W q r es bs) (hk : bs[k]? = some l0) (hc : l.length ≤ c) (hC : U8.C W A l.length l) (hA : ∀ ad, A = some ad → 0 < l.length → ad.block ≠ q ∧ ad.block ≠ r) :
    OW (W.setCell ⟨q, k * 2 + 1, none⟩ (.slice A l.length c)) q r es (bs.set k l) := by
  obtain ⟨⟨cur, hr⟩, h2, h3⟩ := h
  have hF := KeepF.setCell W ⟨q, k * 2 + 1, none⟩ (.slice A l.length c)
  obtain ⟨A0, c0, q1, -⟩ := h3 k l0 hk
  have hrow := setCell_row hr (k * 2 + 1) (.slice A l.length c)
  have hci := cell_row hr
  have hcell : ∀ j, (W.setCell ⟨q, k * 2 + 1, none⟩ (.slice A l.length c)).cell? ⟨q, j, none⟩ = if j = k * 2 + 1 then some (.slice A l.length c) else W.cell? ⟨q, j, none⟩ := by
    intro j
    rw [cell_row hrow, Array.getElem?_setIfInBounds, hci]
    have hlt : k * 2 + 1 < cur.size := by
      rw [hci] at q1
      exact (Array.getElem?_eq_some_iff.1 q1).1
    by_cases hj : k * 2 + 1 = j
    · subst hj; rw [if_pos rfl, if_pos hlt, if_pos rfl]
    · rw [if_neg hj, if_neg (fun e => hj e.symm)]
  have hCk : ∀ {B : Option Addr} {m : List Int}, U8.C W B m.length m → (∀ ad, B = some ad → 0 < m.length → ad.block ≠ q ∧ ad.block ≠ r) → U8.C (W.setCell ⟨q, k * 2 + 1, none⟩ (.slice A l.length c)) B m.length m :=
    fun hB hBa => Kd_C_keep hB (fun ad e hp e2 => (hBa ad e hp).1 e2) hF
  refine ⟨⟨_, hrow⟩, fun j x hx => ?_, fun j m hm => ?_⟩
  · rw [hcell, if_neg (by omega)]; exact h2 j x hx
  · rw [List.getElem?_set] at hm
    by_cases hj : k = j
    · subst hj
      rw [if_pos rfl] at hm
      split at hm
      · injection hm with hm; subst hm
        exact ⟨A, c, by rw [hcell, if_pos rfl], hc, hCk hC hA, hA⟩
      · cases hm
    · rw [if_neg hj] at hm
      obtain ⟨B, d, p1, p2, p3, p4⟩ := h3 j m hm
      exact ⟨B, d, by rw [hcell, if_neg (by omega)]; exact p1, p2, hCk p3 p4, p4⟩
abbrev Secs (w : World) (base : Nat) (v : Value) (ss : List SE) : Prop := kE.R 36 w base (fun _ => True) v ss
theorem infoE2 : (Tryz.prog.info? 36).map (fun i => (i.zero, i.size, i.bytes)) = some (some (.agg #[.int .i64 0, .slice none 0 0]), 2, 32) := by kernel_rfl
def kinds0 (es : List EN) : List SE := es.map fun x => ⟨x.f0, []⟩
theorem kinds0_take {es : List EN} {k : Nat} {x : EN} (h : es[k]? = some x) : kinds0 (es.take (k + 1)) = kinds0 (es.take k) ++ [⟨x.f0, []⟩] := by
  unfold kinds0; rw [List.take_add_one, h]; simp
theorem OW.begin {W : World} {base N c7 r : Nat} {A7 : Option Addr} {es : List EN} (h : Secs W base (.slice A7 N c7) (kinds0 es)) (hl : es.length = N) (hp : 0 < N) :
    ∃ q, A7 = some ⟨q, 0, none⟩ ∧ base ≤ q ∧ q < W.heap.size ∧ OW W q r es (List.replicate N []) := by
  have hkl : (kinds0 es).length = N := by unfold kinds0; rw [List.length_map, hl]
  obtain ⟨A, c, e1, -, hC⟩ := Kd.R_reads h
  injection e1 with e1 e2 e3
  subst e1
  rw [hkl] at hC
  obtain ⟨_, inner, ⟨hlen, hown⟩, hreps⟩ := h
  rcases hown with ⟨e, hz⟩ | ⟨q, cap, cur, e, hb, hg, -⟩
  · rw [hkl] at hz; omega
  · injection e with e e2 e3
    subst e
    refine ⟨q, rfl, hb, lt_row hg, ⟨cur, hg⟩, fun j x hx => ?_, fun j l hj => ?_⟩
    · have hj : j < N := by rw [← hl]; exact (List.getElem?_eq_some_iff.1 hx).1
      obtain ⟨b, o, y, A1, c1, q1, -, hy, t0, t1, -, -⟩ := E_one hC hj
      injection q1 with q1
      injection q1 with q1 q2
      subst q1; subst q2
      have : y = ⟨x.f0, []⟩ := by
        unfold kinds0 at hy; rw [List.getElem?_map, hx] at hy; simpa using hy.symm
      subst this
      rw [Nat.zero_add] at t0
      exact t0
    · have hj' : j < N ∧ l = [] := by
        rw [List.getElem?_replicate] at hj
        split at hj
        · exact ⟨by assumption, by injection hj with hj; exact hj.symm⟩
        · cases hj
      obtain ⟨hjN, rfl⟩ := hj'
      obtain ⟨b, o, y, A1, c1, q1, -, hy, t0, t1, t2, t3⟩ := E_one hC hjN
      injection q1 with q1
      injection q1 with q1 q2
      subst q1; subst q2
      have hx : ∃ x, es[j]? = some x := ⟨_, List.getElem?_eq_getElem (by omega)⟩
      obtain ⟨x, hx⟩ := hx
      have : y = ⟨x.f0, []⟩ := by
        unfold kinds0 at hy; rw [List.getElem?_map, hx] at hy; simpa using hy.symm
      subst this
      rw [Nat.zero_add] at t1
      exact ⟨A1, c1, t1, t2, t3, fun ad _ h0 => by simp at h0⟩
end Go.Proofs.YtpnjhffnlafabaaGreatDoor.Im
