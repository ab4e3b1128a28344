/- Numbers as bytes: Put of package le, with what it leaves as it was; num, flag, row of package image. num, flag, row of package image: fields as bytes. -/
import Derived.Test.YtpnjhffnlafabaaGreatDoorVLe1
import Derived.Test.YtpnjhffnlafabaaGreatDoorVSc2
namespace Go.Proofs.YtpnjhffnlafabaaGreatDoor.Im
set_option linter.unusedVariables false
set_option linter.unusedSimpArgs false
open Go.RowKit Go.Proofs.Bk Go.Proofs.Bm Go.Proofs.Kf Go.Proofs.YtpnjhffnlafabaaGreatDoorW.PrintWords Go.Proofs.YtpnjhffnlafabaaGreatDoor.Sl
structure Grew (w : World) (v : Value) (w' : World) (v' : Value) : Prop where
  blk : ∀ k, k < w.heap.size → some k ≠ v.ownBlock → w'.heap[k]? = w.heap[k]?
  own : v'.ownBlock = v.ownBlock ∨ ∃ b, v'.ownBlock = some b ∧ w.heap.size ≤ b
  sz : w.heap.size ≤ w'.heap.size
theorem Grew.refl (w : World) (v : Value) : Grew w v w v := ⟨fun _ _ _ => rfl, .inl rfl, Nat.le_refl _⟩
theorem Grew.trans {w w1 w2 : World} {v v1 v2 : Value} (h : Grew w v w1 v1) (k : Grew w1 v1 w2 v2) : Grew w v w2 v2 := by
  refine ⟨fun q hq hn => (k.blk q (Nat.lt_of_lt_of_le hq h.sz) ?_).trans (h.blk q hq hn), ?_, Nat.le_trans h.sz k.sz⟩
  · rcases h.own with e | ⟨b, e, hb⟩
    · rw [e]; exact hn
    · rw [e]; intro e2; injection e2 with e2; omega
  · rcases k.own with e | ⟨b, e, hb⟩
    · rw [e]; exact h.own
    · exact .inr ⟨b, e, Nat.le_trans h.sz hb⟩
theorem Grew.below {w w1 : World} (v : Value) (h : Below w.heap.size w w1) : Grew w v w1 v := ⟨fun k hk _ => h.block k hk, .inl rfl, h.size⟩
theorem Grew.then_ {w w1 w2 : World} {v v1 : Value} (h : Grew w v w1 v1) (k : Below w1.heap.size w1 w2) : Grew w v w2 v1 := h.trans (Grew.below v1 k)
theorem Grew.of {w w1 : World} {v v1 : Value} (hg : w.grownBy w1 v.ownBlock) (ho : v1.ownBlock = v.ownBlock ∨ ∃ b, v1.ownBlock = some b ∧ w.heap.size ≤ b) : Grew w v w1 v1 := ⟨fun k hk hn => hg.block k hk hn, ho, hg.size⟩
abbrev U8 : Kd Int := Kd.int .u8
abbrev Byts (w : World) (base : Nat) (v : Value) (xs : List Int) : Prop := U8.R 5 w base (fun _ => True) v xs
def PutPost2 (base : Nat) (v : Value) (xs : List Int) (n : Int) (k : Nat) (w : World) (e : Ending) (w' : World) : Prop :=
  ∃ v', e = .returned v' ∧ Byts w' base v' (xs ++ digs n k) ∧ Below base w w' ∧ Grew w v w' v'
def Lit (w : World) (v : Value) (xs : List Int) : Prop := ∃ ad, v = .slice (some ad) xs.length xs.length ∧ ∀ j u, (byt xs)[j]? = some u → w.cell? (ad.add j) = some u
set_option maxHeartbeats 4000000 in
set_option maxRecDepth 100000 in
theorem Put2_calls (base : Nat) (v : Value) (xs : List Int) (n : Int) (width : Int) (k : Nat) (w : World) (h : Byts w base v xs ∨ (0 < k ∧ Lit w v xs)) (hb : base ≤ w.heap.size) (hn : xs.length ≤ 900000) (h0 : 0 ≤ n) (hw : heldW width = k) (hk : k ≤ 8) :
    Calls Tryz.prog 37 #[v, .int .u64 n, .int .i64 width] w (PutPost2 base v xs n k w) := by
  have H := Aside0.mk h
  clear h
  go_enter Tryz.func37, Tryz.ntmps37
  go_wp2_with fail
  refine Gl.scope_jumps 0 (fun a' w' => ∃ (u : Value) (ys : List Int) (m : Int) (j : Nat) (u8 u9 u10 u11 u12 u13 u14 u15 u16 u17 u18 u19 u20 u21 : Value), a' = { tmps := #[u, .int .u64 m, .int .i64 width, undef, undef, undef, .slice none 0 0, .int .i64 j, u8, u9, u10, u11, u12, u13, u14, u15, u16, u17, u18, u19, u20, u21], defers := [] } ∧ j ≤ k ∧ 0 ≤ m ∧ m ≤ n ∧ ys.length + j = xs.length + k ∧ Aside0 (ys ++ digs m j = xs ++ digs n k) ∧ Aside0 (Byts w' base u ys ∨ (0 < j ∧ Lit w' u ys)) ∧ Aside0 (Below base w w') ∧ Aside0 (Grew w v w' u)) (fun a' _ => (intOf (a'.tmps.getD 7 undef)).toNat) rfl ?_ ?_
  · rintro a' w' ⟨u, ys, m, j, u8, u9, u10, u11, u12, u13, u14, u15, u16, u17, u18, u19, u20, u21, rfl, hj, hm0, hmn, hlen, hE, hO, hB, hGr⟩
    by_cases hz : j = 0
    · subst hz
      have hR := hO.out.resolve_right (fun h => absurd h.1 (Nat.lt_irrefl _))
      clear hO
      replace hR := Aside0.mk hR
      go_wp2_with fail
      go_ret
      have hE' : ys = xs ++ digs n k := by have := hE.out; rw [digs, List.append_nil] at this; exact this
      subst hE'
      exact ⟨u, rfl, hR.out, hB.out, hGr.out⟩
    · have hz' : (((j : Nat) : Int) == 0) = false := by simpa using hz
      have hE2 : (ys ++ [m % 256]) ++ digs (m / 256) (j - 1) = xs ++ digs n k := by
        have := hE.out
        obtain ⟨i, rfl⟩ : ∃ i, j = i + 1 := ⟨j - 1, by omega⟩
        rw [digs] at this
        rw [List.append_assoc]; exact this
      rcases hO.out with hR | ⟨-, hL⟩
      · have hl8 : (ys.length + 1) * 1 ≤ 140737488355328 := by omega
        have hbs : base ≤ w'.heap.size := Nat.le_trans hb hB.out.size
        replace hR := Aside0.mk hR; replace hE2 := Aside0.mk hE2; replace hl8 := Aside0.mk hl8; replace hbs := Aside0.mk hbs
        clear hO
        go_wp2_with (((with_reducible refine gate_builtin (b := .append) (xs := #[.tmp 13, .tmp 16]) rfl ?_); at_builtin; refine Kd.R_append U8 (w0 := w) base rfl (.tmp 13) (.tmp 16) 28 5 (.int .u8 0) 1 rfl Tryz.underlying28 info_u8 rfl (by decide) (by decide) u ys (m % 256) [.int .u8 (m % 256)] (fun _ => True) (fun _ => False) rfl rfl ?aP (fun _ hk => hk.elim) (fun _ _ => trivial) hR.out hB.out hbs.out hl8.out ?_; (case aP => exact rfl); intro v1 W1 r2 r3 hg4 hat4; have hG1 := hGr.out.trans (Grew.of hg4 hat4); replace r2 := Aside0.mk r2; replace r3 := Aside0.mk r3; replace hG1 := Aside0.mk hG1; clear hg4 hat4))
        rw [show (j : Int) - 1 = ((j - 1 : Nat) : Int) by omega]
        go_step3
        refine ⟨rfl, ⟨v1, ys ++ [m % 256], m / 256, j - 1, _, _, _, _, _, _, _, _, _, _, _, _, _, _, rfl, by omega, by omega, by omega, by simp; omega, hE2, ⟨.inl r2.out⟩, r3, hG1⟩, ?_⟩
        show ((j - 1 : Nat) : Int).toNat < ((j : Nat) : Int).toNat
        omega
      · obtain ⟨v1, W1, r1, r2, r3⟩ := out_append w' w' w'.heap.size u ys (m % 256) 28 (.inr hL) (Nat.le_refl _) (Below.refl _ _) (by omega)
        have r4 : Byts W1 base v1 (ys ++ [m % 256]) := Kd.R_lower (Kd.R_of_own (enc := Value.int .u8) (h1 := fun _ => rfl) r2 (fun _ _ => trivial)) (Nat.le_trans hb hB.out.size)
        have r5 : Grew w' u W1 v1 := by
          refine ⟨fun k hk _ => r3.block k hk, .inr ?_, r3.size⟩
          rcases r2.2 with ⟨_, h0⟩ | ⟨g, cap, cur, e, h1, -⟩
          · simp at h0
          · exact ⟨g, by rw [e]; rfl, h1⟩
        have hG1 := hGr.out.trans r5
        have r3' := hB.out.trans (r3.mono (Nat.le_trans hb hB.out.size))
        clear r2 r3 r5
        replace r4 := Aside0.mk r4; replace r3' := Aside0.mk r3'; replace hG1 := Aside0.mk hG1; replace hE2 := Aside0.mk hE2
        go_wp2_with ((with_reducible refine gate_op (.call ⟨.builtin .append, #[.tmp 13, .tmp 16], #[28, 28]⟩) rfl ?_); refine Lib.wpList_append_run _ rfl (.tmp 13) (.tmp 16) 28 28 rfl _ _ rfl rfl v1 W1 r1 ?_)
        rw [show (j : Int) - 1 = ((j - 1 : Nat) : Int) by omega]
        go_step3
        refine ⟨rfl, ⟨v1, ys ++ [m % 256], m / 256, j - 1, _, _, _, _, _, _, _, _, _, _, _, _, _, _, rfl, by omega, by omega, by omega, by simp; omega, hE2, ⟨.inl r4.out⟩, r3', hG1⟩, ?_⟩
        show ((j - 1 : Nat) : Int).toNat < ((j : Nat) : Int).toNat
        omega
  · intro pass
    go_wp2_with fail
    refine (held_calls width w).mono ?_
    rintro e w' ⟨rfl, rfl⟩
    rw [hw]
    go_wp2_with fail
    go_step3
    rename_i hK0
    exact hK0 _ _ (pass _ _ ⟨v, xs, n, k, _, _, _, _, _, _, _, _, _, _, _, _, _, _, rfl, Nat.le_refl _, h0, Int.le_refl _, rfl, ⟨rfl⟩, H, ⟨Below.refl _ _⟩, ⟨Grew.refl _ _⟩⟩)
end Go.Proofs.YtpnjhffnlafabaaGreatDoor.Im
namespace Go.Proofs.YtpnjhffnlafabaaGreatDoor.Im
set_option linter.unusedVariables false
set_option linter.unusedSimpArgs false
open Go.RowKit Go.Proofs.Bk Go.Proofs.Bm Go.Proofs.Kf Go.Proofs.YtpnjhffnlafabaaGreatDoorW.PrintWords Go.Proofs.YtpnjhffnlafabaaGreatDoor.Sl Go.Proofs.YtpnjhffnlafabaaGreatDoor.Sn Go.Proofs.YtpnjhffnlafabaaGreatDoor.PImageBack
abbrev SF := S54
abbrev kF : Kd SF := k54
instance : Inhabited SF := ⟨z54⟩
theorem F_one {A : Option Addr} {n : Nat} {ts : List SF} {w : World} (h : kF.C w A n ts) {k : Nat} (hk : k < n) :
    ∃ b o x, A = some ⟨b, o, none⟩ ∧ b < w.heap.size ∧ ts[k]? = some x ∧ w.cell? ⟨b, o + k * 2, none⟩ = some (.int .u64 x.f0) ∧ w.cell? ⟨b, o + k * 2 + 1, none⟩ = some (.int .i64 x.f1) := by
  obtain ⟨b, o, h1, h2, h3⟩ := C_at h (by omega) (by decide)
  have hl : k < ts.length := by have := h.1; omega
  have hx := List.getElem?_eq_getElem hl
  obtain ⟨c, _, q2, q3⟩ := h3 k _ hx
  obtain rfl := k54_open q2
  exact ⟨b, o, ts[k], h1, h2, hx, q3 0 _ rfl, q3 1 _ rfl⟩
theorem szF2 : (Tryz.prog.info? 54).map (·.size) = some 2 := by kernel_rfl
theorem oneF2 {a b : Int} : ∀ v ∈ ([.int .u64 a, .int .i64 b] : List Value), v.oneCell' = true := by
  intro v hv; simp at hv; rcases hv with rfl | rfl <;> rfl
def BelowPost1 (v : Value) (w : World) (e : Ending) (w' : World) : Prop := e = .returned v ∧ Below w.heap.size w w'
set_option maxRecDepth 100000 in
theorem num_calls (n width : Int) (w : World) (h0 : 0 ≤ n) (h1 : n ≤ 9223372036854775807) : Calls Tryz.prog 21 #[.int .i64 n, .int .i64 width] w (BelowPost1 (.agg #[.int .u64 n, .int .i64 width]) w) := by
  have hw : IntKind.u64.wrap n = n := by rw [IntKind.wrap_u64]; omega
  go_enter Tryz.func21, Tryz.ntmps21
  go_wp2_with (first
    | (((with_reducible refine gate_dst (N := 4) rfl ?_); refine box_event ?hg (N := 4) ?hd (cs := #[.int .u64 0, .int .i64 0]) (t := 54) ?hr ?_; (case hd => rfl); (case hg => rfl); (case hr => first | (go_simp; done) | (go_simp; rfl)); intro gb hgb w2 kgb bgb; replace hgb := Aside0.mk hgb; replace kgb := Aside0.mk kgb; replace bgb := Aside0.mk bgb))
    | (((with_reducible refine gate_op (.store 54 (.tmp 4) (.tmp 8)) rfl ?_); refine wpList_store_midB rfl _ _ _ rfl gb 0 [.int .u64 n, .int .i64 width] rfl rfl 54 [.int .u64 0, .int .i64 0] kgb.out szF2 (Nat.le_refl _) oneF2 ?_; obtain ⟨kk, bb⟩ := boxed (cs := [.int .u64 0, .int .i64 0]) (cs2 := [.int .u64 n, .int .i64 width]) hgb.out kgb.out bgb.out rfl; revert kk bb; generalize World.setRow _ gb (splice [.int .u64 0, .int .i64 0] 0 [.int .u64 n, .int .i64 width]).toArray = w3; clear kgb bgb; intro kgb bgb; replace kgb := Aside0.mk kgb; replace bgb := Aside0.mk bgb)))
  refine bodyPost_ret (results_cell_row rfl _ _ gb _ _ _ _ rfl kgb.out Tryz.underlying54 rfl ?hi) rfl ?_
  case hi => exact szF2
  exact ⟨rfl, bgb.out⟩
theorem flag_calls (b : Bool) (w : World) : Calls Tryz.prog 22 #[.bool b] w (PurePost (.int .i64 (if b then 1 else 0)) w) := by
  cases b
  all_goals go_enter Tryz.func22, Tryz.ntmps22
  all_goals go_wp2_with fail
  all_goals go_ret
  all_goals exact ⟨rfl, rfl⟩
def fieldB (f : SF) : List Int := digs f.f0 (heldW f.f1).toNat
def rowB (fs : List SF) : List Int := (fs.map fieldB).flatten
theorem held_range (n : Int) : 1 ≤ heldW n ∧ heldW n ≤ 8 := by unfold heldW; omega
theorem fieldB_len (f : SF) : (fieldB f).length ≤ 8 := by unfold fieldB; rw [digs_length]; have := held_range f.f1; omega
theorem rowB_len : ∀ fs : List SF, (rowB fs).length ≤ 8 * fs.length
  | [] => by simp [rowB]
  | f :: fs => by
    have h1 := rowB_len fs
    have h2 := fieldB_len f
    unfold rowB at h1 ⊢
    rw [List.map_cons, List.flatten_cons, List.length_append, List.length_cons]; omega
def RowPost (base : Nat) (v : Value) (xs ys : List Int) (w : World) (e : Ending) (w' : World) : Prop :=
  ∃ v', e = .returned v' ∧ Byts w' base v' (xs ++ ys) ∧ Below base w w' ∧ Grew w v w' v'
set_option maxHeartbeats 4000000 in
set_option maxRecDepth 100000 in
theorem row_calls (base : Nat) (v : Value) (xs : List Int) (A : Option Addr) (n c : Nat) (fs : List SF) (w : World) (h : Byts w base v xs) (hb : base ≤ w.heap.size) (hn : xs.length + 8 * n ≤ 900000) (hF : kF.C w A n fs) (h0 : ∀ f ∈ fs, 0 ≤ f.f0)
    (hne : ∀ ad, A = some ad → some ad.block ≠ v.ownBlock) :
    Calls Tryz.prog 20 #[v, .slice A n c] w (RowPost base v xs (rowB fs) w) := by
  have hln := hF.1
  have hn63 := hF.2.1
  have H := Aside0.mk h
  have HF := Aside0.mk hF
  clear h hF
  replace hln := Aside0.mk hln; replace h0 := Aside0.mk h0; replace hne := Aside0.mk hne
  go_enter Tryz.func20, Tryz.ntmps20
  go_wp2_with fail
  go_loopw [0, 9] (fun v0 iv wr => ∃ k : Nat, iv = .int .i64 k ∧ k ≤ n ∧ Aside0 (Byts wr base v0 (xs ++ rowB (fs.take k))) ∧ Aside0 (Below base w wr) ∧ Aside0 (Grew w v wr v0)) (fun _ iv _ => n - (intOf iv).toNat)
  case atStart => exact ⟨0, rfl, Nat.zero_le _, ⟨by simpa [rowB] using H.out⟩, ⟨Below.refl _ _⟩, ⟨Grew.refl _ _⟩⟩
  case round =>
    obtain ⟨k, rfl, hk, hR, hb1, hGr⟩ := hrel
    by_cases hlt : k < n
    · have p1 : 0 ≤ (k : Int) := by omega
      have q1 : (k : Int) < (n : Int) := by omega
      have HFr : kF.C wr A n fs := by
        obtain ⟨b, o, x, e, hbl, -⟩ := F_one HF.out hlt
        have hbk := hGr.out.blk b hbl (by have := hne.out _ e; exact this)
        refine ⟨HF.out.1, HF.out.2.1, fun hp => ?_⟩
        obtain ⟨ad, e2, hc⟩ := HF.out.2.2 hp
        rw [e] at e2
        injection e2 with e2
        subst e2
        refine ⟨_, e, fun j p hj => ?_⟩
        obtain ⟨cs, h1, h2, h3⟩ := hc j p hj
        obtain rfl := k54_open h2
        exact ⟨_, h1, k54_mk wr p, fun i u hu => (World.cell?_of_block (w := w) (w' := wr) (by rw [add_blk]; exact hbk)).trans (h3 i u hu)⟩
      obtain ⟨b, o, x, rfl, -, hx, t0, t1⟩ := F_one HFr hlt
      have hm := List.mem_of_getElem? hx
      have hx0 := h0.out x hm
      have hl1 : (xs ++ rowB (fs.take k)).length ≤ 900000 := by
        have h1 := rowB_len (fs.take k)
        have h2 := List.length_take_le k fs
        rw [List.length_append]; omega
      have hbs : base ≤ wr.heap.size := Nat.le_trans hb hGr.out.sz
      have hrow : rowB (fs.take (k + 1)) = rowB (fs.take k) ++ fieldB x := by unfold rowB; rw [List.take_add_one, hx]; simp
      have hw9 := held_range x.f1
      clear HFr
      replace hx := Aside0.mk hx; replace hm := Aside0.mk hm; replace hl1 := Aside0.mk hl1; replace hbs := Aside0.mk hbs; replace hrow := Aside0.mk hrow; replace hw9 := Aside0.mk hw9
      go_wp2_with (first
        | (((with_reducible refine gate_dst (N := 6) rfl ?_); refine box_event ?hg (N := 6) ?hd (cs := #[.int .u64 0, .int .i64 0]) (t := 54) ?hr ?_; (case hd => rfl); (case hg => rfl); (case hr => first | (go_simp; done) | (go_simp; rfl)); intro gb hgb w2 kgb bgb; replace hgb := Aside0.mk hgb; replace kgb := Aside0.mk kgb; replace bgb := Aside0.mk bgb))
        | (((with_reducible refine gate_op (.store 54 (.tmp 6) (.tmp 12)) rfl ?_); refine wpList_store_midB rfl _ _ _ rfl gb 0 [.int .u64 x.f0, .int .i64 x.f1] rfl rfl 54 [.int .u64 0, .int .i64 0] kgb.out szF2 (Nat.le_refl _) oneF2 ?_; obtain ⟨kk, bb⟩ := boxed (cs := [.int .u64 0, .int .i64 0]) (cs2 := [.int .u64 x.f0, .int .i64 x.f1]) hgb.out kgb.out bgb.out rfl; revert kk bb; generalize World.setRow _ gb (splice [.int .u64 0, .int .i64 0] 0 [.int .u64 x.f0, .int .i64 x.f1]).toArray = w3; clear kgb bgb; intro kgb bgb; replace kgb := Aside0.mk kgb; replace bgb := Aside0.mk bgb); (have g0 := (cell_row kgb.out 0).trans (rfl : _ = some (Value.int .u64 x.f0))); (have g1 := (cell_row kgb.out 1).trans (rfl : _ = some (Value.int .i64 x.f1))); have hR3 := Aside0.mk (Kd.R_below hR.out bgb.out); have hG3 := Aside0.mk (hGr.out.then_ bgb.out); have hb3 := Aside0.mk (hb1.out.trans (bgb.out.mono hbs.out))))
      with_reducible refine (Put2_calls base _ _ x.f0 x.f1 (heldW x.f1).toNat _ (.inl hR3.out) (Nat.le_trans hbs.out bgb.out.size) hl1.out hx0 (by have := hw9.out; omega) (by have := hw9.out; omega)).mono ?_
      rintro e w4 ⟨v4, rfl, r1, r2, r3⟩
      have hG4 := Aside0.mk (hG3.out.trans r3)
      have hb4 := Aside0.mk (hb3.out.trans r2)
      clear r2 r3
      replace r1 := Aside0.mk r1
      go_wp2_with fail
      go_roundw
      case rel => exact ⟨k + 1, by simp, by omega, ⟨by rw [hrow.out, ← List.append_assoc]; exact r1.out⟩, hb4, hG4⟩
      case measure => show n - ((k : Int) + 1).toNat < n - (k : Int).toNat; omega
    · obtain rfl : n = k := by omega
      have e0 : fs.take n = fs := List.take_of_length_le (by rw [hln.out]; exact Nat.le_refl _)
      rw [e0] at hR
      go_wp2_with fail
      go_ret
      exact ⟨_, rfl, hR.out, hb1.out, hGr.out⟩
end Go.Proofs.YtpnjhffnlafabaaGreatDoor.Im
