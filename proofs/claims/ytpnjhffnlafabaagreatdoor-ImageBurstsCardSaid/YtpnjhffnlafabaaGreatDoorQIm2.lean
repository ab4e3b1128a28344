/- num, flag, row of package image: fields as bytes. -/
import Derived.Test.YtpnjhffnlafabaaGreatDoorQIm1
import Derived.Test.YtpnjhffnlafabaaGreatDoorQSc2
namespace Go.Proofs.YtpnjhffnlafabaaGreatDoor.Im
set_option linter.unusedVariables false
set_option linter.unusedSimpArgs false
open Go.RowKit Go.Proofs.Bk Go.Proofs.Bm Go.Proofs.Kf Go.Proofs.YtpnjhffnlafabaaGreatDoorW.PrintWords Go.Proofs.YtpnjhffnlafabaaGreatDoor.Sl Go.Proofs.YtpnjhffnlafabaaGreatDoor.Sn Go.Proofs.YtpnjhffnlafabaaGreatDoor.PImageBack
abbrev SF := S54
abbrev kF : Kd SF := k54
instance : Inhabited SF := ⟨z54⟩
theorem F_one {A : Option Addr} {n : Nat} {ts : List SF} {w : World} (h : kF.C w A n ts) {k : Nat} (hk : k < n) :
    ∃ b o x, A = some ⟨b, o, none⟩ ∧ b < w.heap.size ∧ ts[k]? = some x ∧ w.cell? ⟨b, o + k * 2, none⟩ = some (.int .u64 x.f0) ∧ w.cell? ⟨b, o + k * 2 + 1, none⟩ = some (.int .i64 x.f1) := by
  obtain ⟨b, o, h1, h2, h3⟩ := C_at h (by omega) (by decide)
  have hl : k < ts.length := by have := h.1; omega
  have hx := List.getElem?_eq_getElem hl
  obtain ⟨c, _, q2, q3⟩ := h3 k _ hx
  obtain rfl := k54_open q2
  exact ⟨b, o, ts[k], h1, h2, hx, q3 0 _ rfl, q3 1 _ rfl⟩
theorem szF2 : (Tryz.prog.info? 54).map (·.size) = some 2 := by kernel_rfl
theorem oneF2 {a b : Int} : ∀ v ∈ ([.int .u64 a, .int .i64 b] : List Value), v.oneCell' = true := by
  intro v hv; simp at hv; rcases hv with rfl | rfl <;> rfl
def BelowPost1 (v : Value) (w : World) (e : Ending) (w' : World) : Prop := e = .returned v ∧ Below w.heap.size w w'
set_option maxRecDepth 100000 in
theorem num_calls (n width : Int) (w : World) (h0 : 0 ≤ n) (h1 : n ≤ 9223372036854775807) : Calls Tryz.prog 21 #[.int .i64 n, .int .i64 width] w (BelowPost1 (.agg #[.int .u64 n, .int .i64 width]) w) := by
  have hw : IntKind.u64.wrap n = n := by rw [IntKind.wrap_u64]; omega
  go_enter Tryz.func21, Tryz.ntmps21
  go_wp2_with (first
    | (((with_reducible refine gate_dst (N := 4) rfl ?_); refine box_event ?hg (N := 4) ?hd (cs := #[.int .u64 0, .int .i64 0]) (t := 54) ?hr ?_; (case hd => rfl); (case hg => rfl); (case hr => first | (go_simp; done) | (go_simp; rfl)); intro gb hgb w2 kgb bgb; replace hgb := Aside0.mk hgb; replace kgb := Aside0.mk kgb; replace bgb := Aside0.mk bgb))
    | (((with_reducible refine gate_op (.store 54 (.tmp 4) (.tmp 8)) rfl ?_); refine wpList_store_midB rfl _ _ _ rfl gb 0 [.int .u64 n, .int .i64 width] rfl rfl 54 [.int .u64 0, .int .i64 0] kgb.out szF2 (Nat.le_refl _) oneF2 ?_; obtain ⟨kk, bb⟩ := boxed (cs := [.int .u64 0, .int .i64 0]) (cs2 := [.int .u64 n, .int .i64 width]) hgb.out kgb.out bgb.out rfl; revert kk bb; generalize World.setRow _ gb (splice [.int .u64 0, .int .i64 0] 0 [.int .u64 n, .int .i64 width]).toArray = w3; clear kgb bgb; intro kgb bgb; replace kgb := Aside0.mk kgb; replace bgb := Aside0.mk bgb)))
  refine bodyPost_ret (results_cell_row rfl _ _ gb _ _ _ _ rfl kgb.out Tryz.underlying54 rfl ?hi) rfl ?_
  case hi => exact szF2
  exact ⟨rfl, bgb.out⟩
theorem flag_calls (b : Bool) (w : World) : Calls Tryz.prog 22 #[.bool b] w (PurePost (.int .i64 (if b then 1 else 0)) w) := by
  cases b
  all_goals go_enter Tryz.func22, Tryz.ntmps22
  all_goals go_wp2_with fail
  all_goals go_ret
  all_goals exact ⟨rfl, rfl⟩
def fieldB (f : SF) : List Int := digs f.f0 (heldW f.f1).toNat
def rowB (fs : List SF) : List Int := (fs.map fieldB).flatten
theorem held_range (n : Int) : 1 ≤ heldW n ∧ heldW n ≤ 8 := by unfold heldW; omega
theorem fieldB_len (f : SF) : (fieldB f).length ≤ 8 := by unfold fieldB; rw [digs_length]; have := held_range f.f1; omega
theorem rowB_len : ∀ fs : List SF, (rowB fs).length ≤ 8 * fs.length
  | [] => by simp [rowB]
  | f :: fs => by
    have h1 := rowB_len fs
    have h2 := fieldB_len f
    unfold rowB at h1 ⊢
    rw [List.map_cons, List.flatten_cons, List.length_append, List.length_cons]; omega
def RowPost (base : Nat) (v : Value) (xs ys : List Int) (w : World) (e : Ending) (w' : World) : Prop :=
  ∃ v', e = .returned v' ∧ Byts w' base v' (xs ++ ys) ∧ Below base w w' ∧ Grew w v w' v'
set_option maxHeartbeats 4000000 in
set_option maxRecDepth 100000 in
theorem row_calls (base : Nat) (v : Value) (xs : List Int) (A : Option Addr) (n c : Nat) (fs : List SF) (w : World) (h : Byts w base v xs) (hb : base ≤ w.heap.size) (hn : xs.length + 8 * n ≤ 900000) (hF : kF.C w A n fs) (h0 : ∀ f ∈ fs, 0 ≤ f.f0)
    (hne : ∀ ad, A = some ad → some ad.block ≠ v.ownBlock) :
    Calls Tryz.prog 20 #[v, .slice A n c] w (RowPost base v xs (rowB fs) w) := by
  have hln := hF.1
  have hn63 := hF.2.1
  have H := Aside0.mk h
  have HF := Aside0.mk hF
  clear h hF
  replace hln := Aside0.mk hln; replace h0 := Aside0.mk h0; replace hne := Aside0.mk hne
  go_enter Tryz.func20, Tryz.ntmps20
  go_wp2_with fail
  go_loopw [0, 9] (fun v0 iv wr => ∃ k : Nat, iv = .int .i64 k ∧ k ≤ n ∧ Aside0 (Byts wr base v0 (xs ++ rowB (fs.take k))) ∧ Aside0 (Below base w wr) ∧ Aside0 (Grew w v wr v0)) (fun _ iv _ => n - (intOf iv).toNat)
  case atStart => exact ⟨0, rfl, Nat.zero_le _, ⟨by simpa [rowB] using H.out⟩, ⟨Below.refl _ _⟩, ⟨Grew.refl _ _⟩⟩
  case round =>
    obtain ⟨k, rfl, hk, hR, hb1, hGr⟩ := hrel
    by_cases hlt : k < n
    · have p1 : 0 ≤ (k : Int) := by omega
      have q1 : (k : Int) < (n : Int) := by omega
      have HFr : kF.C wr A n fs := by
        obtain ⟨b, o, x, e, hbl, -⟩ := F_one HF.out hlt
        have hbk := hGr.out.blk b hbl (by have := hne.out _ e; exact this)
        refine ⟨HF.out.1, HF.out.2.1, fun hp => ?_⟩
        obtain ⟨ad, e2, hc⟩ := HF.out.2.2 hp
        rw [e] at e2
        injection e2 with e2
        subst e2
        refine ⟨_, e, fun j p hj => ?_⟩
        obtain ⟨cs, h1, h2, h3⟩ := hc j p hj
        obtain rfl := k54_open h2
        exact ⟨_, h1, k54_mk wr p, fun i u hu => (World.cell?_of_block (w := w) (w' := wr) (by rw [add_blk]; exact hbk)).trans (h3 i u hu)⟩
      obtain ⟨b, o, x, rfl, -, hx, t0, t1⟩ := F_one HFr hlt
      have hm := List.mem_of_getElem? hx
      have hx0 := h0.out x hm
      have hl1 : (xs ++ rowB (fs.take k)).length ≤ 900000 := by
        have h1 := rowB_len (fs.take k)
        have h2 := List.length_take_le k fs
        rw [List.length_append]; omega
      have hbs : base ≤ wr.heap.size := Nat.le_trans hb hGr.out.sz
      have hrow : rowB (fs.take (k + 1)) = rowB (fs.take k) ++ fieldB x := by unfold rowB; rw [List.take_add_one, hx]; simp
      have hw9 := held_range x.f1
      clear HFr
      replace hx := Aside0.mk hx; replace hm := Aside0.mk hm; replace hl1 := Aside0.mk hl1; replace hbs := Aside0.mk hbs; replace hrow := Aside0.mk hrow; replace hw9 := Aside0.mk hw9
      go_wp2_with (first
        | (((with_reducible refine gate_dst (N := 6) rfl ?_); refine box_event ?hg (N := 6) ?hd (cs := #[.int .u64 0, .int .i64 0]) (t := 54) ?hr ?_; (case hd => rfl); (case hg => rfl); (case hr => first | (go_simp; done) | (go_simp; rfl)); intro gb hgb w2 kgb bgb; replace hgb := Aside0.mk hgb; replace kgb := Aside0.mk kgb; replace bgb := Aside0.mk bgb))
        | (((with_reducible refine gate_op (.store 54 (.tmp 6) (.tmp 12)) rfl ?_); refine wpList_store_midB rfl _ _ _ rfl gb 0 [.int .u64 x.f0, .int .i64 x.f1] rfl rfl 54 [.int .u64 0, .int .i64 0] kgb.out szF2 (Nat.le_refl _) oneF2 ?_; obtain ⟨kk, bb⟩ := boxed (cs := [.int .u64 0, .int .i64 0]) (cs2 := [.int .u64 x.f0, .int .i64 x.f1]) hgb.out kgb.out bgb.out rfl; revert kk bb; generalize World.setRow _ gb (splice [.int .u64 0, .int .i64 0] 0 [.int .u64 x.f0, .int .i64 x.f1]).toArray = w3; clear kgb bgb; intro kgb bgb; replace kgb := Aside0.mk kgb; replace bgb := Aside0.mk bgb); (have g0 := (cell_row kgb.out 0).trans (rfl : _ = some (Value.int .u64 x.f0))); (have g1 := (cell_row kgb.out 1).trans (rfl : _ = some (Value.int .i64 x.f1))); have hR3 := Aside0.mk (Kd.R_below hR.out bgb.out); have hG3 := Aside0.mk (hGr.out.then_ bgb.out); have hb3 := Aside0.mk (hb1.out.trans (bgb.out.mono hbs.out))))
      with_reducible refine (Put2_calls base _ _ x.f0 x.f1 (heldW x.f1).toNat _ (.inl hR3.out) (Nat.le_trans hbs.out bgb.out.size) hl1.out hx0 (by have := hw9.out; omega) (by have := hw9.out; omega)).mono ?_
      rintro e w4 ⟨v4, rfl, r1, r2, r3⟩
      have hG4 := Aside0.mk (hG3.out.trans r3)
      have hb4 := Aside0.mk (hb3.out.trans r2)
      clear r2 r3
      replace r1 := Aside0.mk r1
      go_wp2_with fail
      go_roundw
      case rel => exact ⟨k + 1, by simp, by omega, ⟨by rw [hrow.out, ← List.append_assoc]; exact r1.out⟩, hb4, hG4⟩
      case measure => show n - ((k : Int) + 1).toNat < n - (k : Int).toNat; omega
    · obtain rfl : n = k := by omega
      have e0 : fs.take n = fs := List.take_of_length_le (by rw [hln.out]; exact Nat.le_refl _)
      rw [e0] at hR
      go_wp2_with fail
      go_ret
      exact ⟨_, rfl, hR.out, hb1.out, hGr.out⟩
end Go.Proofs.YtpnjhffnlafabaaGreatDoor.Im
