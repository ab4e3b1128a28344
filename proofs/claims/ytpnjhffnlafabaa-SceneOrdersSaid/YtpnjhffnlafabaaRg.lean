/- The reference of law 13: its tree (of layer 12) of a scene's groups: walked by hand. The reference of layer 12: a group and all below it: walked by hand. -/
import Derived.Test.YtpnjhffnlafabaaRp
import Derived.Test.YtpnjhffnlafabaaHt
import Derived.Deep.AppendLies
namespace Go.Proofs.Ytpnjhffnlafabaa.Sn
set_option linter.unusedVariables false
set_option linter.unusedSimpArgs false
open Go.Proofs Go.RowKit Go.Sort Go.Shelf Go.Lib Go.Proofs.Bk Go.Proofs.Bm Go.Proofs.Op Go.Proofs.Sc Go.Proofs.Kf Go.Proofs.YtpnjhffnlafabaaW.PrintWords Go.Proofs.Ytpnjhffnlafabaa.PSceneOrders

/-- a tree that is being built -/
structure Trb (base : Nat) (w0 : World) (b : Nat) (A : Option Addr) (c : Nat) (ps : List SP) (w : World) : Prop where
  below : Below base w0 w
  lo : base ≤ b
  row : w.heap[b]? = some (.cells #[.slice A ps.length c] 90 (0, 0))
  rp : kP.R 92 w base (fun _ => True) (.slice A ps.length c) ps
section
variable {base : Nat} {w0 w w1 : World} {b : Nat} {A : Option Addr} {c : Nat} {ps : List SP}
theorem Trb.size (h : Trb base w0 b A c ps w) : base ≤ w.heap.size := Nat.le_of_lt (Nat.lt_of_le_of_lt h.lo (lt_row h.row))
theorem Trb.start (hb : Below base w0 w) (hl : base ≤ b) (hr : w.heap[b]? = some (.cells #[.slice none 0 0] 90 (0, 0))) : Trb base w0 b none 0 [] w :=
  ⟨hb, hl, hr, Kd.R_nil _ _ _ _ _⟩
theorem Trb.grow (h : Trb base w0 b A c ps w) (hb : Below w.heap.size w w1) : Trb base w0 b A c ps w1 :=
  ⟨h.below.trans (hb.mono h.size), h.lo, row_below hb h.row, Kd.R_below h.rp hb⟩
theorem Trb.drew (h : Trb base w0 b A c ps w) : Trb base w0 b A c ps w.drew := h.grow (Below.refl _ _).drew
theorem Trb.push (h : Trb base w0 b A c ps w) {A1 : Option Addr} {c1 : Nat} {ps1 : List SP} (hR : kP.R 92 w1 base (fun _ => True) (.slice A1 ps1.length c1) ps1) (hb : Below base w0 w1) (hg : w.grownBy w1 (Value.slice A ps.length c).ownBlock) :
    Trb base w0 b A1 c1 ps1 (w1.setCell ⟨b, 0, none⟩ (.slice A1 ps1.length c1)) := by
  have hr : w1.heap[b]? = some (.cells #[.slice A ps.length c] 90 (0, 0)) := (hg.block b (lt_row h.row) (fun e => Kd.R_ne h.rp h.row (by decide) e)).trans h.row
  refine ⟨hb.trans ((KeepF.setCell w1 _ _).to_below (Nat.le_of_lt (Nat.lt_of_le_of_lt h.lo (lt_row hr))) (fun i hi => by rw [hi]; exact h.lo)), h.lo, ?_, R_cell hR hr rfl (by decide)⟩
  rw [setCell_row hr]; rfl
theorem Trb.keep (h : Trb base w0 b A c ps w) (hg : w.grownBy w1 (Value.slice A ps.length c).ownBlock) {k : Nat} {cs : Array Value} {v : Value} (hk : w.heap[k]? = some (.cells cs 25 (0, 0))) (hne : k ≠ b) : (w1.setCell ⟨b, 0, none⟩ v).heap[k]? = some (.cells cs 25 (0, 0)) :=
  (Below.heap_setCell w1 _ v k hne).trans ((hg.block k (lt_row hk) (fun e => Kd.R_ne h.rp hk (by decide) e)).trans hk)
end
theorem infoP3 : (Try.prog.info? 92).map (fun i => (i.zero, i.size, i.bytes)) = some (some (.agg #[.int .i64 0, .int .i64 0]), 2, 16) := by kernel_rfl
def TreePost (ps : List SP) (w : World) (e : Ending) (w' : World) : Prop := ∃ g P c, e = .returned (.pointer (some ⟨g, 0, none⟩)) ∧ IsTree w' g P c ps ∧ Below w.heap.size w w'
set_option maxHeartbeats 4000000 in
set_option maxRecDepth 100000 in
theorem tree_calls (A : Option Addr) (n c : Nat) (xs : List SG) (B : Option Addr) (m d : Nat) (w : World) (hG : kG.C w A n xs) (hn : n < 17592186044) :
    Calls Try.prog 43 #[.agg #[.slice A n c, .slice B m d]] w (TreePost (pairs xs) w) := by
  have hln := hG.1
  have HG := Aside0.mk hG
  clear hG
  replace hln := Aside0.mk hln
  go_enter Try.func43, Try.ntmps43
  go_wp2_with (first
    | (((with_reducible refine gate_dst (N := 1) rfl ?_); refine box_event ?hg (N := 1) ?hd (cs := #[.slice A n c, .slice B m d]) (t := 25) ?hr ?_; (case hd => rfl); (case hg => rfl); (case hr => first | (go_simp; done) | (go_simp; rfl)); intro b1 hb1 w1 kb1 bb1; replace hb1 := Aside0.mk hb1; replace kb1 := Aside0.mk kb1; replace bb1 := Aside0.mk bb1))
    | (((with_reducible refine gate_dst (N := 6) rfl ?_); refine box_event ?hg (N := 6) ?hd (cs := #[.slice none 0 0]) (t := 90) ?hr ?_; (case hd => rfl); (case hg => rfl); (case hr => first | (go_simp; done) | (go_simp; rfl)); intro b5 hb5 w3 kb5 bb5; replace hb5 := Aside0.mk hb5; replace kb5 := Aside0.mk kb5; replace bb5 := Aside0.mk bb5); have k23 := Aside0.mk (row_below bb5.out kb1.out); have hS := Aside0.mk (Trb.start (bb1.out.trans (bb5.out.mono bb1.out.size)) (by have := hb5.out; have := bb1.out.size; omega) kb5.out)))
  have h15 : Aside0 (b1 ≠ b5) := ⟨by have := hb5.out; have := lt_row kb1.out; omega⟩
  clear kb1 bb1 kb5 bb5 hb1 hb5
  go_loopw [4] (fun iv wr => ∃ (k : Nat) (A1 : Option Addr) (c1 : Nat) (ps : List SP), iv = .int .i64 k ∧ k ≤ n ∧ Aside0 (ps = pairs (xs.take k)) ∧ Aside0 (Trb w.heap.size w b5 A1 c1 ps wr) ∧ Aside0 (wr.heap[b1]? = some (.cells #[.slice A n c, .slice B m d] 25 (0, 0)))) (fun iv _ => n - (intOf iv).toNat)
  case atStart => exact ⟨0, none, 0, [], rfl, Nat.zero_le _, ⟨rfl⟩, hS, k23⟩
  case round =>
    obtain ⟨k, A1, c1, ps, rfl, hk, hps, hSr, k2r⟩ := hrel
    have e0 := (Kf.cell_row k2r.out 0).trans (rfl : _ = some (Value.slice A n c))
    by_cases hlt : k < n
    · have p1 : 0 ≤ (k : Int) := by omega
      have q1 : (k : Int) < (n : Int) := by omega
      have HGr := Kd.C_below HG.out hSr.out.below
      obtain ⟨bG, oG, x1, eA, hbG, hx1, t0, t1, t2, t3, t4, t5⟩ := G_one HGr hlt
      subst eA
      clear t2 t3 t4 t5
      have d0r := (cell_row hSr.out.row 0).trans (rfl : _ = some (Value.slice A1 ps.length c1))
      obtain ⟨n1, hn1⟩ : ∃ n1, ps.length = n1 := ⟨_, rfl⟩
      have hl8 : (ps.length + 1) * 16 ≤ 140737488355328 := by
        rw [hps.out]
        unfold pairs
        rw [List.length_map]
        have h2 := List.length_take_le k xs
        omega
      rw [hn1] at d0r
      obtain ⟨p1', hp1⟩ : ∃ p : SP, p = ⟨x1.f0, x1.f1⟩ := ⟨_, rfl⟩
      obtain ⟨n2, hn2⟩ : ∃ n2, (ps ++ [p1']).length = n2 := ⟨_, rfl⟩
      have hSd := Aside0.mk hSr.out.drew
      have hRd : kP.R 92 wr.drew w.heap.size (fun _ => True) (.slice A1 n1 c1) ps := by rw [← hn1]; exact hSd.out.rp
      have d0a : (wr.drew.alloc (.cells #[.int .i64 x1.f0, .int .i64 x1.f1] 92)).cell? ⟨b5, 0, none⟩ = some (.slice A1 n1 c1) := pw_cell_below (below_alloc (Below.refl _ wr.drew) _) d0r
      have hps' : ps ++ [p1'] = pairs (xs.take (k + 1)) := by rw [List.take_add_one, hx1, hps.out, hp1]; simp [pairs]
      have sOf : ∀ W, Below w.heap.size w W → W.heap[b1]? = some (.cells #[.slice (some ⟨bG, oG, none⟩) n c, .slice B m d] 25 (0, 0)) → (W.cell? ⟨b1, 0, none⟩ = some (.slice (some ⟨bG, oG, none⟩) n c) ∧ W.cell? ⟨bG, oG + k * 6, none⟩ = some (.int .i64 x1.f0) ∧ W.cell? ⟨bG, oG + k * 6 + 1, none⟩ = some (.int .i64 x1.f1)) := fun W h1 h2 => by
        obtain ⟨b', o', x', e, -, hx', u0, u1, -, -, -, -⟩ := G_one (Kd.C_below HG.out h1) hlt
        cases e
        rw [hx1] at hx'
        cases hx'
        exact ⟨(Kf.cell_row h2 0).trans rfl, u0, u1⟩
      have s0 := sOf wr.drew hSd.out.below k2r.out
      have ba := below_alloc (Below.refl wr.drew.heap.size wr.drew) (.cells #[.int .i64 x1.f0, .int .i64 x1.f1] 92)
      have s1 := (⟨d0a, sOf _ (hSd.out.grow ba).below (row_below ba (show wr.drew.heap[b1]? = _ from k2r.out))⟩ : _ ∧ _)
      have d0d : wr.drew.cell? ⟨b5, 0, none⟩ = some (.slice A1 n1 c1) := d0r
      replace sOf := Aside0.mk sOf
      clear ba
      replace HGr := Aside0.mk HGr; replace hx1 := Aside0.mk hx1; replace hn1 := Aside0.mk hn1; replace hl8 := Aside0.mk hl8; replace hn2 := Aside0.mk hn2; replace hRd := Aside0.mk hRd; replace hps' := Aside0.mk hps'
      go_wp2_with fail
      (refine Ht.begin2 20 (fun w' => w'.cell? ⟨b5, 0, none⟩ = some (.slice A1 n1 c1) ∧ w'.cell? ⟨b1, 0, none⟩ = some (.slice (some ⟨bG, oG, none⟩) n c) ∧ w'.cell? ⟨bG, oG + k * 6, none⟩ = some (.int .i64 x1.f0) ∧ w'.cell? ⟨bG, oG + k * 6 + 1, none⟩ = some (.int .i64 x1.f1)) (by kernel_rfl) (by kernel_rfl) ⟨d0d, s0⟩ ?_; intro hSnow; (try dsimp only at hSnow); simp only [List.take_succ_cons, List.take_zero, List.drop_succ_cons, List.drop_zero]; repeat (refine Ht.Hx.take (v := ?_) (by kernel_rfl) (by kernel_rfl) (fun _ _ _ h => h) (by with_reducible exact hSnow) (Or.inl ⟨by rfl, fun w hSw => ?_⟩) ?_; rotate_left; focus ((try dsimp only at hSw); go_simp; (try with_reducible rfl); done)); (try simp only [Act.put, List.setIfInBounds_toArray, List.set_cons_zero, List.set_cons_succ]))
      (refine Ht.Hx.effect (by kernel_rfl) ?_; go_wp2_with (fail); refine ⟨s1, ?_⟩; clear hSnow; (have hSnow := s1); repeat (refine Ht.Hx.take (v := ?_) (by kernel_rfl) (by kernel_rfl) (fun _ _ _ h => h) (by with_reducible exact hSnow) (Or.inl ⟨by rfl, fun w hSw => ?_⟩) ?_; rotate_left; focus ((try dsimp only at hSw); go_simp; (try with_reducible rfl); done)); (try simp only [Act.put, List.setIfInBounds_toArray, List.set_cons_zero, List.set_cons_succ]))
      (refine Ht.Hx.effect (by kernel_rfl) ?_; go_wp2_with (((with_reducible refine gate_builtin (b := .append) (xs := #[.tmp 18, .tmp 32]) rfl ?_); at_builtin; refine Kd.R_append kP (w0 := w) w.heap.size rfl (.tmp 18) (.tmp 32) 88 92 (.agg #[.int .i64 0, .int .i64 0]) 16 rfl Try.underlying88 infoP3 rfl (by decide) (by omega) (.slice A1 n1 c1) ps p1' [.int .i64 x1.f0, .int .i64 x1.f1] (fun _ => True) (fun _ => False) rfl rfl ?aP (fun _ hk => hk.elim) (fun _ _ => trivial) hRd.out hSd.out.below hSd.out.size hl8.out ?_; (case aP => rw [hp1]; exact k92_mkM _ _ _ _); intro v2 w10 hR10 hb10 hg10 hat10; obtain ⟨A2, c2, ev2, hd2, _⟩ := Kd.R_reads hR10; rw [hn2.out] at ev2; subst ev2; rw [← hn2.out] at hR10; rw [← hn1.out] at hg10; have hr10 := (hg10.block b5 (lt_row hSd.out.row) (fun e => Kd.R_ne hSd.out.rp hSd.out.row (by decide) e)).trans hSd.out.row; have s10 := (cell_row hr10 0).trans (rfl : _ = some (Value.slice A1 ps.length c1)); have s11 : w10.frozen? ⟨b5, 0, none⟩ = false := frozen_row hr10 0; have k110 := (hg10.block b1 (lt_row k2r.out) (fun e => Kd.R_ne hSd.out.rp (show wr.drew.heap[b1]? = _ from k2r.out) (by decide) e)).trans k2r.out; rw [hn1.out] at s10; have q10 := (⟨s10, sOf.out w10 hb10 k110⟩ : _ ∧ _); clear s10; replace hR10 := Aside0.mk hR10; replace hb10 := Aside0.mk hb10; replace hg10 := Aside0.mk hg10; replace hat10 := Aside0.mk hat10; replace hr10 := Aside0.mk hr10)); refine ⟨q10, ?_⟩; clear hSnow; (have hSnow := q10); repeat (refine Ht.Hx.take (v := ?_) (by kernel_rfl) (by kernel_rfl) (fun _ _ _ h => h) (by with_reducible exact hSnow) (Or.inl ⟨by rfl, fun w hSw => ?_⟩) ?_; rotate_left; focus ((try dsimp only at hSw); go_simp; (try with_reducible rfl); done)); (try simp only [Act.put, List.setIfInBounds_toArray, List.set_cons_zero, List.set_cons_succ]))
      (refine Ht.Hx.done (by kernel_rfl) ?_; clear hSnow)
      all_goals go_wp2_with fail
      all_goals go_roundw
      all_goals try (case measure => show n - ((k : Int) + 1).toNat < n - (k : Int).toNat; omega)
      all_goals
        refine ⟨k + 1, A2, c2, ps ++ [p1'], by simp, by omega, hps', ⟨?_⟩, ⟨?_⟩⟩
        · rw [← hn2.out]; exact hSd.out.push hR10.out hb10.out hg10.out
        · exact hSd.out.keep hg10.out k2r.out h15.out
    · obtain rfl : n = k := by omega
      have hps2 : Aside0 (ps = pairs xs) := ⟨by rw [hps.out, List.take_of_length_le (by rw [hln.out]; exact Nat.le_refl _)]⟩
      clear hps
      go_wp2_with fail
      go_ret
      refine ⟨b5, A1, c1, rfl, ?_, hSr.out.below⟩
      rw [← hps2.out]
      obtain ⟨A', c', e, _, hC⟩ := Kd.R_reads hSr.out.rp
      cases e
      exact ⟨(cell_row hSr.out.row 0).trans rfl, hC⟩
end Go.Proofs.Ytpnjhffnlafabaa.Sn
namespace Go.Proofs.Ytpnjhffnlafabaa.Sn
set_option linter.unusedVariables false
set_option linter.unusedSimpArgs false
open Go.RowKit Go.Sort Go.Shelf Go.Lib Go.Proofs.Bk Go.Proofs.Bm Go.Proofs.Op Go.Proofs.Sc Go.Proofs.Kf Go.Proofs.YtpnjhffnlafabaaW.PrintWords Go.Proofs.Ytpnjhffnlafabaa.PSceneOrders

theorem len_of_mem {α : Type} {f : Int → List α} : ∀ {K : List Int} {k : Int}, k ∈ K → (f k).length ≤ ((K.map f).flatten).length
  | a :: K, k, h => by
    rw [List.map_cons, List.flatten_cons, List.length_append]
    rcases List.mem_cons.1 h with rfl | h
    · omega
    · have := len_of_mem (f := f) h; omega
theorem flatK_take {α : Type} {f : Int → List α} {K : List Int} {k : Nat} {x : Int} (h : K[k]? = some x) : ((K.take (k + 1)).map f).flatten = ((K.take k).map f).flatten ++ f x := by
  rw [List.take_add_one, h]; simp
theorem flatK_len {α : Type} {f : Int → List α} (K : List Int) (k : Nat) : (((K.take k).map f).flatten).length ≤ ((K.map f).flatten).length := by
  have h : (K.map f).flatten = ((K.take k).map f).flatten ++ ((K.drop k).map f).flatten := by rw [← List.flatten_append, ← List.map_append, List.take_append_drop]
  rw [h, List.length_append]; omega
set_option maxHeartbeats 4000000 in
set_option maxRecDepth 100000 in
theorem Under_calls (g : Nat) (P : Option Addr) (c : Nat) (ps : List SP) (hlen : ps.length < 17592186044416) : ∀ (f : Nat) (id : Int) (w : World), IsTree w g P c ps → Rok ps f id → (runder ps f id).length < 17592186044 →
    Calls Try.prog 44 #[.pointer (some ⟨g, 0, none⟩), .int .i64 id] w (IdsPost (runder ps f id) w)
  | 0, id, w, _, h, _ => h.elim
  | f + 1, id, w, hT, hok, hl => by
    obtain ⟨hh, hk⟩ := hok
    obtain ⟨K, hK⟩ : ∃ K, rkids ps id (ps.length + 1) 0 = K := ⟨_, rfl⟩
    rw [hK] at hk
    have hrun : runder ps (f + 1) id = id :: (K.map (runder ps f)).flatten := by rw [← hK]; rfl
    rw [hrun] at hl ⊢
    rw [List.length_cons] at hl
    have ih := fun (k : Int) (hm : k ∈ K) (W : World) (hW : Below w.heap.size w W) => Under_calls g P c ps hlen f k W (hT.below hW (Nat.le_refl _)) (hk k hm) (by have := len_of_mem (f := runder ps f) hm; omega)
    have kh := Has_calls g P c ps id w hT
    have kk := fun (W : World) (hW : Below w.heap.size w W) => Kids_calls g P c ps id W (hT.below hW (Nat.le_refl _)) hlen
    rw [hh] at kh
    rw [hK] at kk
    clear hT hk hK hh hrun
    replace ih := Aside0.mk ih; replace kh := Aside0.mk kh; replace kk := Aside0.mk kk; replace hl := Aside0.mk hl
    go_enter Try.func44, Try.ntmps44
    go_wp2_with (first
      | (go_at_call 63; (with_reducible refine kh.out.mono ?_); rintro e w' ⟨rfl, hw'⟩; replace hw' := hw'.symm; subst hw'))
    change Calls _ _ _ (w.alloc (.cells #[.int .i64 id] 3)) _
    have hR1 : (Kd.int .i64).R 3 (w.alloc (.cells #[.int .i64 id] 3)) w.heap.size (fun _ => True) (.slice (some ⟨w.heap.size, 0, none⟩) 1 1) [id] := Kd.R_of_own (own_lit w w.heap.size 3 .i64 [id] (Nat.le_refl _) (by simp)) (fun _ _ => trivial)
    have hb1 := below_alloc (Below.refl w.heap.size w) (.cells #[.int .i64 id] 3)
    have hs1 : (w.alloc (.cells #[.int .i64 id] 3)).heap.size = w.heap.size + 1 := by simp
    generalize w.alloc (.cells #[.int .i64 id] 3) = w1 at hR1 hb1 hs1 ⊢
    with_reducible refine (kk.out w1 hb1).mono ?_
    rintro e w2 ⟨v6, rfl, hR6, hb2⟩
    obtain ⟨A6, c6, rfl, h6l, hC6⟩ := Kd.R_reads hR6
    obtain ⟨nk, hnk⟩ : ∃ nk, K.length = nk := ⟨_, rfl⟩
    have hnk63 : nk ≤ 9223372036854775807 := by rw [← hnk]; exact hC6.2.1
    clear hC6
    have hs2 := hb2.size
    have hR6' := Kd.R_mono (Kd.R_bound hR6) (ok' := fun k => w1.heap.size ≤ k ∧ k < w2.heap.size) (fun k hk => ⟨hk.2.1, hk.2.2.1⟩)
    have hR2 := Kd.R_below hR1 hb2
    have hB2 := hb1.trans (hb2.mono hb1.size)
    rw [hnk] at hR6' h6l ⊢
    clear hR6 hb2 hb1 hR1
    replace hR6' := Aside0.mk hR6'; replace hR2 := Aside0.mk hR2; replace hB2 := Aside0.mk hB2; replace hs1 := Aside0.mk hs1; replace hs2 := Aside0.mk hs2; replace hnk := Aside0.mk hnk; replace h6l := Aside0.mk h6l
    go_wp2_with fail
    go_loopw [5, 7] (fun v5 iv wr => ∃ k : Nat, iv = .int .i64 k ∧ k ≤ nk ∧ Aside0 ((Kd.int .i64).R 3 wr w.heap.size (fun _ => True) v5 (id :: ((K.take k).map (runder ps f)).flatten)) ∧ Aside0 (Below w.heap.size w wr) ∧ Aside0 (∀ q, v5.ownBlock = some q → q < w1.heap.size ∨ w2.heap.size ≤ q) ∧ Aside0 ((Kd.int .i64).R 3 wr w1.heap.size (fun k => w1.heap.size ≤ k ∧ k < w2.heap.size) (.slice A6 nk c6) K) ∧ Aside0 (w2.heap.size ≤ wr.heap.size)) (fun _ iv _ => nk - (intOf iv).toNat)
    case atStart => exact ⟨0, rfl, Nat.zero_le _, ⟨by simpa using hR2.out⟩, hB2, ⟨fun q hq => by (have h0 : w.heap.size = q := by simpa [Value.ownBlock] using hq); (have := hs1.out); omega⟩, hR6', ⟨Nat.le_refl _⟩⟩
    case round =>
      obtain ⟨k, rfl, hk, hR, hb, hq, hKr, hsz⟩ := hrel
      by_cases hlt : k < nk
      · have p1 : 0 ≤ (k : Int) := by omega
        have q1 : (k : Int) < (nk : Int) := by omega
        obtain ⟨x, hx⟩ : ∃ x, K[k]? = some x := ⟨_, List.getElem?_eq_getElem (by rw [hnk.out]; exact hlt)⟩
        obtain ⟨hn9, hc9, hC9⟩ := Kd.R_reads' hKr.out
        rw [hnk.out] at hC9
        obtain ⟨ad, rfl, y1⟩ := Kd.at_int hC9 (k : Int) p1 q1
        rw [Int.toNat_natCast, show Go.Proofs.YtpnjhffnlafabaaW.PrintWords.rd K k = x from by unfold Go.Proofs.YtpnjhffnlafabaaW.PrintWords.rd; rw [Int.toNat_natCast, List.getD_eq_getElem?_getD, hx]; rfl] at y1
        have hmx : x ∈ K := List.mem_of_getElem? hx
        have kx := ih.out x hmx wr hb.out
        have hxl : (runder ps f x).length ≤ ((K.map (runder ps f)).flatten).length := len_of_mem hmx
        have hfl := flatK_len (f := runder ps f) K k
        have hft := flatK_take (f := runder ps f) hx
        have hll := hl.out
        clear hn9 hc9 hC9
        obtain ⟨L, hL⟩ : ∃ L, runder ps f x = L := ⟨_, rfl⟩
        rw [hL] at kx hxl hft
        obtain ⟨M, hM⟩ : ∃ M, ((K.take k).map (runder ps f)).flatten = M := ⟨_, rfl⟩
        rw [hM] at hR hfl hft
        have hl8 : ((id :: M).length + L.length) * 8 ≤ 140737488355328 := by rw [List.length_cons]; omega
        clear hfl hxl hll hM hL hmx
        replace hx := Aside0.mk hx; replace kx := Aside0.mk kx; replace hft := Aside0.mk hft; replace hl8 := Aside0.mk hl8
        go_wp2_with (first
          | (go_at_call 44; (with_reducible refine kx.out.mono ?_); rintro e w4 ⟨v9, rfl, hR9, hb9⟩; obtain ⟨A9, c9, rfl, hc9, hC9⟩ := Kd.R_reads hR9; have hRx := Aside0.mk (Kd.R_below hR.out hb9); have hbx := Aside0.mk (hb.out.trans (hb9.mono hb.out.size)); have hKx := Aside0.mk (Kd.R_below hKr.out hb9); have hs9 := Aside0.mk hb9.size; clear hb9 hR9; replace hc9 := Aside0.mk hc9; replace hC9 := Aside0.mk hC9)
          | ((with_reducible refine gate_builtin (b := .append) (xs := #[.tmp 23, .tmp 29]) rfl ?_); at_builtin; refine Kd.R_append_rows (Kd.int .i64) (w0 := w) w.heap.size rfl (.tmp 23) (.tmp 29) 31 3 (.int .i64 0) 8 rfl Try.underlying31 info_intR rfl (by decide) (by omega) u5 (id :: M) L A9 L.length c9 (fun _ => True) (fun _ => False) rfl rfl hRx.out hC9.out (fun _ _ h => h) (fun _ hk => hk.elim) (fun _ _ => trivial) hbx.out hbx.out.size hl8.out ?_; intro v10 w10 hR10 hb10 hg10 hat10; have hK10 := Aside0.mk (Kd.R_grown hKx.out hg10 (fun j hj e => by rcases hq.out j e.symm with h | h <;> omega)); have hs10 := Aside0.mk hg10.size; replace hR10 := Aside0.mk hR10; replace hb10 := Aside0.mk hb10; replace hg10 := Aside0.mk hg10; replace hat10 := Aside0.mk hat10))
        go_roundw
        case measure => show nk - ((k : Int) + 1).toNat < nk - (k : Int).toNat; omega
        case rel =>
          refine ⟨k + 1, by simp, by omega, ⟨by rw [hft.out]; exact hR10.out⟩, hb10, ⟨fun q h => ?_⟩, hK10, ⟨by have := hsz.out; have := hs9.out; have := hs10.out; omega⟩⟩
          rcases hat10.out with h1 | ⟨b, h1, h2⟩
          · exact hq.out q (by rw [← h1]; exact h)
          · rw [h1] at h; cases h
            have := hsz.out; have := hs9.out; omega
      · obtain rfl : nk = k := by omega
        have e0 : ((K.take nk).map (runder ps f)).flatten = (K.map (runder ps f)).flatten := by rw [List.take_of_length_le (by rw [hnk.out]; exact Nat.le_refl _)]
        rw [e0] at hR
        go_wp2_with fail
        go_ret
        exact ⟨_, rfl, hR.out, hb.out⟩
end Go.Proofs.Ytpnjhffnlafabaa.Sn
