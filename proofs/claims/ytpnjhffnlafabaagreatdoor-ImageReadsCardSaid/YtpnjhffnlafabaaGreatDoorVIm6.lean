/- next, group, task of package image: a group's and a task's numbers out of two readers. -/
import Derived.Test.YtpnjhffnlafabaaGreatDoorVIm5
namespace Go.Proofs.YtpnjhffnlafabaaGreatDoor.Im
set_option linter.unusedVariables false
set_option linter.unusedSimpArgs false
open Go.RowKit Go.Proofs.Bk Go.Proofs.Bm Go.Proofs.Sc Go.Proofs.Kf Go.Proofs.YtpnjhffnlafabaaGreatDoorW.PrintWords Go.Proofs.YtpnjhffnlafabaaGreatDoor.Sl Go.Proofs.YtpnjhffnlafabaaGreatDoor.Sn Go.Proofs.YtpnjhffnlafabaaGreatDoor.PImageBack
theorem _root_.Go.Proofs.YtpnjhffnlafabaaGreatDoor.Sl.IsReader.keep {w w' : World} {r g : Nat} {xs : List Int} {f : Int} {F : Nat → Prop} (h : IsReader w r g xs f) (hk : KeepF F w w') (hr : ¬ F r) (hg : 0 < xs.length → ¬ F g) : IsReader w' r g xs f := by
  obtain ⟨A, c, h1, h2, h3, h4, h5⟩ := h
  exact ⟨A, c, (hk.block r (lt_row h1) hr).trans h1, h2, Kd_C_keep h3 (fun ad e hp hF => hg hp (by rw [← h4 ad e]; exact hF)) hk, h4, h5⟩
theorem _root_.Go.Proofs.YtpnjhffnlafabaaGreatDoor.Sl.IsReader.lt {w : World} {r g : Nat} {xs : List Int} {f : Int} (h : IsReader w r g xs f) : r < w.heap.size := by
  obtain ⟨A, c, h1, -⟩ := h
  exact lt_row h1
theorem _root_.Go.Proofs.YtpnjhffnlafabaaGreatDoor.Sl.IsReader.glt {w : World} {r g : Nat} {xs : List Int} {f : Int} (h : IsReader w r g xs f) : 0 < xs.length → g < w.heap.size := by
  intro hp
  obtain ⟨A, c, h1, h2, h3, h4, h5⟩ := h
  obtain ⟨ad, e, hc⟩ := h3.2.2 hp
  obtain ⟨c0, q1, q2, q3⟩ := hc 0 xs[0] (List.getElem?_eq_getElem hp)
  cases q2
  have := World.block_lt_of_cell? w _ (q3 0 _ rfl)
  rw [add_blk, h4 ad e] at this
  exact this
theorem _root_.Go.Proofs.YtpnjhffnlafabaaGreatDoor.Sl.IsReader.ne {w : World} {r g : Nat} {xs : List Int} {f : Int} (h : IsReader w r g xs f) : r ≠ g := h.choose_spec.choose_spec.2.2.2.2
theorem take_ok {xs : List Int} {k : Nat} (hk : k ≤ xs.length) : Sl.take xs 0 k = (leNum (xs.take k), xs.drop k, 0) := by
  have h : Sl.part xs 0 k = (xs.take k, xs.drop k, 0) := by
    unfold Sl.part
    rw [if_neg (by simp), if_neg (by omega), if_neg (by omega), Int.toNat_natCast]
  unfold Sl.take
  rw [h]
theorem inB_drop {xs : List Int} (h : inB xs) (k : Nat) : inB (xs.drop k) := fun x hx => h x (List.mem_of_mem_drop hx)
def nx (xs : List Int) (k : Nat) : Int := wrap64 (leNum (xs.take k))
def NextPost (r g : Nat) (xs : List Int) (k : Nat) (v : Value) (w : World) (e : Ending) (w' : World) : Prop :=
  e = .returned v ∧ IsReader w' r g (xs.drop k) 0 ∧ KeepF (fun k => k = r) w w'
theorem take_calls (r g : Nat) (xs : List Int) (width : Int) (k : Nat) (w : World) (h : IsReader w r g xs 0) (hb : inB xs) (hw : heldW width = k) (hk : k ≤ 8) (hl : k ≤ xs.length) :
    Calls Tryz.prog 63 #[.pointer (some ⟨r, 0, none⟩), .int .i64 width] w (NextPost r g xs k (.int .u64 (leNum (xs.take k))) w) := by
  have kt := Take_calls r g xs 0 width k w h hb hw hk
  unfold TakePost at kt
  rw [take_ok hl] at kt
  exact kt
theorem next_calls (r g : Nat) (xs : List Int) (width : Int) (k : Nat) (w : World) (h : IsReader w r g xs 0) (hb : inB xs) (hw : heldW width = k) (hk : k ≤ 8) (hl : k ≤ xs.length) :
    Calls Tryz.prog 62 #[.pointer (some ⟨r, 0, none⟩), .int .i64 width] w (NextPost r g xs k (.int .i64 (nx xs k)) w) := by
  have kt := take_calls r g xs width k w h hb hw hk hl
  unfold nx
  generalize leNum (xs.take k) = v at kt ⊢
  clear h
  replace kt := Aside0.mk kt; replace hb := Aside0.mk hb
  go_enter Tryz.func62, Tryz.ntmps62
  go_wp2_with (go_at_call 63; (with_reducible refine kt.out.mono ?_); rintro e w' ⟨rfl, h1, h2⟩; replace h1 := Aside0.mk h1; replace h2 := Aside0.mk h2)
  go_ret
  exact ⟨rfl, h1.out, h2.out⟩
structure GS (w0 W : World) (r g r2 g2 ga gb : Nat) (xs ys : List Int) (t : TypeId) (ca cb : List Value) : Prop where
  a : IsReader W r g xs 0
  b : IsReader W r2 g2 ys 0
  ra : W.heap[ga]? = some (.cells ca.toArray t (0, 0))
  rb : W.heap[gb]? = some (.cells cb.toArray t (0, 0))
  k : KeepF (fun k => k = r ∨ k = r2) w0 W
  na : w0.heap.size ≤ ga
  nb : w0.heap.size ≤ gb
  ne : ga ≠ gb
  l1 : r < w0.heap.size
  l2 : r2 < w0.heap.size
  rr : r ≠ r2
  x1 : g2 ≠ r
  x2 : g ≠ r2
  g1 : 0 < xs.length → g < w0.heap.size
  g3 : 0 < ys.length → g2 < w0.heap.size
theorem GS.next1 {w0 W W' : World} {r g r2 g2 ga gb : Nat} {xs ys : List Int} {t : TypeId} {ca cb : List Value} (h : GS w0 W r g r2 g2 ga gb xs ys t ca cb) {k : Nat} (h1 : IsReader W' r g (xs.drop k) 0) (h2 : KeepF (fun k => k = r) W W') : GS w0 W' r g r2 g2 ga gb (xs.drop k) ys t ca cb := by
  obtain ⟨a, b, ra, rb, kk, na, nb, ne, l1, l2, rr, x1, x2, g1, g3⟩ := h
  exact ⟨h1, b.keep h2 (fun e => rr e.symm) (fun _ e => x1 e), (h2.block ga (lt_row ra) (fun e => by omega)).trans ra, (h2.block gb (lt_row rb) (fun e => by omega)).trans rb, kk.trans h2 (fun i _ e => .inl e), na, nb, ne, l1, l2, rr, x1, x2, fun hp => g1 (by rw [List.length_drop] at hp; omega), g3⟩
theorem GS.next2 {w0 W W' : World} {r g r2 g2 ga gb : Nat} {xs ys : List Int} {t : TypeId} {ca cb : List Value} (h : GS w0 W r g r2 g2 ga gb xs ys t ca cb) {k : Nat} (h1 : IsReader W' r2 g2 (ys.drop k) 0) (h2 : KeepF (fun k => k = r2) W W') : GS w0 W' r g r2 g2 ga gb xs (ys.drop k) t ca cb := by
  obtain ⟨a, b, ra, rb, kk, na, nb, ne, l1, l2, rr, x1, x2, g1, g3⟩ := h
  exact ⟨a.keep h2 (fun e => rr e) (fun _ e => x2 e), h1, (h2.block ga (lt_row ra) (fun e => by omega)).trans ra, (h2.block gb (lt_row rb) (fun e => by omega)).trans rb, kk.trans h2 (fun i _ e => .inr e), na, nb, ne, l1, l2, rr, x1, x2, g1, fun hp => g3 (by rw [List.length_drop] at hp; omega)⟩
theorem GS.keepAt {w0 W W' : World} {r g r2 g2 ga gb q : Nat} {xs ys : List Int} {t : TypeId} {ca cb ca' cb' : List Value} (h : GS w0 W r g r2 g2 ga gb xs ys t ca cb) (hq : q = ga ∨ q = gb) (hk : KeepF (fun k => k = q) W W') (ra' : W'.heap[ga]? = some (.cells ca'.toArray t (0, 0))) (rb' : W'.heap[gb]? = some (.cells cb'.toArray t (0, 0))) : GS w0 W' r g r2 g2 ga gb xs ys t ca' cb' := by
  obtain ⟨a, b, ra, rb, kk, na, nb, ne, l1, l2, rr, x1, x2, g1, g3⟩ := h
  exact ⟨a.keep hk (fun e => by omega) (fun hp e => by have := g1 hp; omega), b.keep hk (fun e => by omega) (fun hp e => by have := g3 hp; omega), ra', rb', kk.trans hk (fun i hi e => by omega), na, nb, ne, l1, l2, rr, x1, x2, g1, g3⟩
theorem GS.set {w0 W : World} {r g r2 g2 ga gb : Nat} {xs ys : List Int} {t : TypeId} {ca cb : List Value} (h : GS w0 W r g r2 g2 ga gb xs ys t ca cb) (i : Nat) (v : Value) (cb' : List Value) (e : cb.set i v = cb') : GS w0 (W.setCell ⟨gb, i, none⟩ v) r g r2 g2 ga gb xs ys t ca cb' := by
  have hk := KeepF.setCell W ⟨gb, i, none⟩ v
  refine h.keepAt (.inr rfl) hk ((hk.block ga (lt_row h.ra) (fun e => h.ne e)).trans h.ra) ?_
  rw [setCell_row h.rb, ← e]; simp
theorem GS.fin {w0 W : World} {r g r2 g2 ga gb : Nat} {xs ys : List Int} {t : TypeId} {ca cb : List Value} (h : GS w0 W r g r2 g2 ga gb xs ys t ca cb) (e : cb.length = ca.length) : GS w0 (W.setRow ga (splice ca 0 cb).toArray) r g r2 g2 ga gb xs ys t cb cb := by
  have hk := KeepF.setRow W ga (splice ca 0 cb).toArray
  refine h.keepAt (.inl rfl) hk ?_ ((hk.block gb (lt_row h.rb) (fun e => h.ne e.symm)).trans h.rb)
  rw [splice_all _ _ e]
  exact setRow_heap _ _ _ _ _ _ h.ra
theorem GS.begin {w W1 W2 : World} {r g r2 g2 ga gb : Nat} {xs ys : List Int} {t : TypeId} {ca cb : List Value} (a : IsReader w r g xs 0) (b : IsReader w r2 g2 ys 0) (rr : r ≠ r2) (x1 : g2 ≠ r) (x2 : g ≠ r2) (ha : ga = w.heap.size) (hb : gb = W1.heap.size) (ra : W1.heap[ga]? = some (.cells ca.toArray t (0, 0))) (rb : W2.heap[gb]? = some (.cells cb.toArray t (0, 0))) (b1 : Below w.heap.size w W1) (b2 : Below W1.heap.size W1 W2) : GS w W2 r g r2 g2 ga gb xs ys t ca cb := by
  have hB : KeepF (fun _ => False) w W2 := KeepF.of_below (b1.trans (b2.mono b1.size))
  have hsz := b1.size
  have hlt := lt_row ra
  exact ⟨a.keep hB id (fun _ => id), b.keep hB id (fun _ => id), row_below b2 ra, rb, hB.mono (fun _ h => h.elim), by omega, by omega, by omega, a.lt, b.lt, rr, x1, x2, a.glt, b.glt⟩
theorem sz_int1 : (Tryz.prog.info? 3).map (·.size) = some 1 := by kernel_rfl
theorem sz_u641 : (Tryz.prog.info? 52).map (·.size) = some 1 := by kernel_rfl
theorem sz_bool1 : (Tryz.prog.info? 4).map (·.size) = some 1 := by kernel_rfl
def groupR (xs ys : List Int) : SG := ⟨nx xs 3, nx (xs.drop 3) 3, nx (xs.drop 6) 3, ⟨nx ys 3, nx (ys.drop 3) 3, nx (ys.drop 6) 6⟩⟩
def taskR (xs ys : List Int) : ST := ⟨nx xs 3, nx (xs.drop 3) 3, nx (xs.drop 6) 3, leNum (ys.take 8), nx (xs.drop 9) 1 == 1, nx (xs.drop 10) 6, ⟨nx (xs.drop 16) 8, nx (xs.drop 24) 3⟩⟩
def TwoPost (r g r2 g2 : Nat) (xs ys : List Int) (v : Value) (w : World) (e : Ending) (w' : World) : Prop :=
  e = .returned v ∧ IsReader w' r g xs 0 ∧ IsReader w' r2 g2 ys 0 ∧ KeepF (fun k => k = r ∨ k = r2) w w'
set_option maxHeartbeats 2000000 in
set_option maxRecDepth 100000 in
theorem group_calls (r g r2 g2 : Nat) (xs ys : List Int) (w : World) (ha : IsReader w r g xs 0) (hb : IsReader w r2 g2 ys 0) (hrr : r ≠ r2) (hx1 : g2 ≠ r) (hx2 : g ≠ r2) (hba : inB xs) (hbb : inB ys) (hl1 : 9 ≤ xs.length) (hl2 : 12 ≤ ys.length) :
    Calls Tryz.prog 29 #[.pointer (some ⟨r, 0, none⟩), .pointer (some ⟨r2, 0, none⟩)] w (TwoPost r g r2 g2 (xs.drop 9) (ys.drop 12) (.agg ([.int .i64 (groupR xs ys).f0, .int .i64 (groupR xs ys).f1, .int .i64 (groupR xs ys).f2, .int .i64 (groupR xs ys).f3.f0, .int .i64 (groupR xs ys).f3.f1, .int .i64 (groupR xs ys).f3.f2] : List Value).toArray) w) := by
  have HX := Aside0.mk (And.intro hrr (And.intro hx1 hx2))
  clear hrr hx1 hx2
  replace ha := Aside0.mk ha; replace hb := Aside0.mk hb; replace hba := Aside0.mk hba; replace hbb := Aside0.mk hbb
  obtain ⟨v1, hv1⟩ : ∃ v, nx xs 3 = v := ⟨_, rfl⟩
  obtain ⟨v2, hv2⟩ : ∃ v, nx (xs.drop 3) 3 = v := ⟨_, rfl⟩
  obtain ⟨v3, hv3⟩ : ∃ v, nx (xs.drop 6) 3 = v := ⟨_, rfl⟩
  obtain ⟨v4, hv4⟩ : ∃ v, nx ys 3 = v := ⟨_, rfl⟩
  obtain ⟨v5, hv5⟩ : ∃ v, nx (ys.drop 3) 3 = v := ⟨_, rfl⟩
  obtain ⟨v6, hv6⟩ : ∃ v, nx (ys.drop 6) 6 = v := ⟨_, rfl⟩
  replace hv1 := Aside0.mk hv1; replace hv2 := Aside0.mk hv2; replace hv3 := Aside0.mk hv3; replace hv4 := Aside0.mk hv4; replace hv5 := Aside0.mk hv5; replace hv6 := Aside0.mk hv6
  go_enter Tryz.func29, Tryz.ntmps29
  go_wp2_with (first
    | (((with_reducible refine gate_dst (N := 4) rfl ?_); refine box_event ?hg (N := 4) ?hd (cs := #[.int .i64 0, .int .i64 0, .int .i64 0, .int .i64 0, .int .i64 0, .int .i64 0]) (t := 50) ?hr ?_; (case hd => rfl); (case hg => rfl); (case hr => first | (go_simp; done) | (go_simp; rfl)); intro ga hga w1 kga bga; replace hga := Aside0.mk hga; replace kga := Aside0.mk kga; replace bga := Aside0.mk bga))
    | (((with_reducible refine gate_dst (N := 5) rfl ?_); refine box_event ?hg (N := 5) ?hd (cs := #[.int .i64 0, .int .i64 0, .int .i64 0, .int .i64 0, .int .i64 0, .int .i64 0]) (t := 50) ?hr ?_; (case hd => rfl); (case hg => rfl); (case hr => first | (go_simp; done) | (go_simp; rfl)); intro gb hgb w2 kgb bgb; replace hgb := Aside0.mk hgb; replace kgb := Aside0.mk kgb; replace bgb := Aside0.mk bgb); (have s0 := Aside0.mk (GS.begin ha.out hb.out HX.out.1 HX.out.2.1 HX.out.2.2 hga.out hgb.out kga.out kgb.out bga.out bgb.out)); clear kga kgb bga bgb)
    | (go_at_call 62; (have kc := next_calls r g xs 3 3 w2 s0.out.a hba.out (by decide) (by decide) (by exact Nat.le_trans (by decide) hl1)); rw [hv1.out] at kc; (with_reducible refine kc.mono ?_); clear kc; rintro e u1 ⟨rfl, p1, q1⟩; (have n1 := s0.out.next1 p1 q1); clear p1 q1; replace n1 := Aside0.mk n1)
    | ((with_reducible refine gate_op (.store 3 (.tmp 8) (.tmp 7)) rfl ?_); refine storeCell_event rfl _ _ _ rfl ⟨gb, 0, none⟩ (.int .i64 v1) (.int .i64 0) rfl rfl rfl ((cell_row n1.out.rb 0).trans rfl) (frozen_row n1.out.rb 0) sz_int1 rfl rfl ?_; (have m1a := n1.out.set 0 (.int .i64 v1) [.int .i64 v1, .int .i64 0, .int .i64 0, .int .i64 0, .int .i64 0, .int .i64 0] rfl); generalize World.setCell u1 _ _ = y1a at m1a ⊢; replace m1a := Aside0.mk m1a)
    | (go_at_call 62; (have kc := next_calls r g (xs.drop 3) 3 3 y1a m1a.out.a (inB_drop hba.out 3) (by decide) (by decide) (by rw [List.length_drop]; omega)); rw [hv2.out] at kc; (with_reducible refine kc.mono ?_); clear kc; rintro e u2 ⟨rfl, p2, q2⟩; (have n2 := m1a.out.next1 p2 q2); clear p2 q2; simp only [List.drop_drop, Nat.reduceAdd] at n2; replace n2 := Aside0.mk n2)
    | ((with_reducible refine gate_op (.store 3 (.tmp 11) (.tmp 10)) rfl ?_); refine storeCell_event rfl _ _ _ rfl ⟨gb, 1, none⟩ (.int .i64 v2) (.int .i64 0) rfl rfl rfl ((cell_row n2.out.rb 1).trans rfl) (frozen_row n2.out.rb 1) sz_int1 rfl rfl ?_; (have m2a := n2.out.set 1 (.int .i64 v2) [.int .i64 v1, .int .i64 v2, .int .i64 0, .int .i64 0, .int .i64 0, .int .i64 0] rfl); generalize World.setCell u2 _ _ = y2a at m2a ⊢; replace m2a := Aside0.mk m2a)
    | (go_at_call 62; (have kc := next_calls r g (xs.drop 6) 3 3 y2a m2a.out.a (inB_drop hba.out 6) (by decide) (by decide) (by rw [List.length_drop]; omega)); rw [hv3.out] at kc; (with_reducible refine kc.mono ?_); clear kc; rintro e u3 ⟨rfl, p3, q3⟩; (have n3 := m2a.out.next1 p3 q3); clear p3 q3; simp only [List.drop_drop, Nat.reduceAdd] at n3; replace n3 := Aside0.mk n3)
    | ((with_reducible refine gate_op (.store 3 (.tmp 14) (.tmp 13)) rfl ?_); refine storeCell_event rfl _ _ _ rfl ⟨gb, 2, none⟩ (.int .i64 v3) (.int .i64 0) rfl rfl rfl ((cell_row n3.out.rb 2).trans rfl) (frozen_row n3.out.rb 2) sz_int1 rfl rfl ?_; (have m3a := n3.out.set 2 (.int .i64 v3) [.int .i64 v1, .int .i64 v2, .int .i64 v3, .int .i64 0, .int .i64 0, .int .i64 0] rfl); generalize World.setCell u3 _ _ = y3a at m3a ⊢; replace m3a := Aside0.mk m3a)
    | (go_at_call 62; (have kc := next_calls r2 g2 ys 3 3 y3a m3a.out.b hbb.out (by decide) (by decide) (by exact Nat.le_trans (by decide) hl2)); rw [hv4.out] at kc; (with_reducible refine kc.mono ?_); clear kc; rintro e u4 ⟨rfl, p4, q4⟩; (have n4 := m3a.out.next2 p4 q4); clear p4 q4; replace n4 := Aside0.mk n4)
    | ((with_reducible refine gate_op (.store 3 (.tmp 18) (.tmp 16)) rfl ?_); refine storeCell_event rfl _ _ _ rfl ⟨gb, 3, none⟩ (.int .i64 v4) (.int .i64 0) rfl rfl rfl ((cell_row n4.out.rb 3).trans rfl) (frozen_row n4.out.rb 3) sz_int1 rfl rfl ?_; (have m4b := n4.out.set 3 (.int .i64 v4) [.int .i64 v1, .int .i64 v2, .int .i64 v3, .int .i64 v4, .int .i64 0, .int .i64 0] rfl); generalize World.setCell u4 _ _ = y4b at m4b ⊢; replace m4b := Aside0.mk m4b)
    | (go_at_call 62; (have kc := next_calls r2 g2 (ys.drop 3) 3 3 y4b m4b.out.b (inB_drop hbb.out 3) (by decide) (by decide) (by rw [List.length_drop]; omega)); rw [hv5.out] at kc; (with_reducible refine kc.mono ?_); clear kc; rintro e u5 ⟨rfl, p5, q5⟩; (have n5 := m4b.out.next2 p5 q5); clear p5 q5; simp only [List.drop_drop, Nat.reduceAdd] at n5; replace n5 := Aside0.mk n5)
    | ((with_reducible refine gate_op (.store 3 (.tmp 22) (.tmp 20)) rfl ?_); refine storeCell_event rfl _ _ _ rfl ⟨gb, 4, none⟩ (.int .i64 v5) (.int .i64 0) rfl rfl rfl ((cell_row n5.out.rb 4).trans rfl) (frozen_row n5.out.rb 4) sz_int1 rfl rfl ?_; (have m5b := n5.out.set 4 (.int .i64 v5) [.int .i64 v1, .int .i64 v2, .int .i64 v3, .int .i64 v4, .int .i64 v5, .int .i64 0] rfl); generalize World.setCell u5 _ _ = y5b at m5b ⊢; replace m5b := Aside0.mk m5b)
    | (go_at_call 62; (have kc := next_calls r2 g2 (ys.drop 6) 6 6 y5b m5b.out.b (inB_drop hbb.out 6) (by decide) (by decide) (by rw [List.length_drop]; omega)); rw [hv6.out] at kc; (with_reducible refine kc.mono ?_); clear kc; rintro e u6 ⟨rfl, p6, q6⟩; (have n6 := m5b.out.next2 p6 q6); clear p6 q6; simp only [List.drop_drop, Nat.reduceAdd] at n6; replace n6 := Aside0.mk n6)
    | ((with_reducible refine gate_op (.store 3 (.tmp 26) (.tmp 24)) rfl ?_); refine storeCell_event rfl _ _ _ rfl ⟨gb, 5, none⟩ (.int .i64 v6) (.int .i64 0) rfl rfl rfl ((cell_row n6.out.rb 5).trans rfl) (frozen_row n6.out.rb 5) sz_int1 rfl rfl ?_; (have m6b := n6.out.set 5 (.int .i64 v6) [.int .i64 v1, .int .i64 v2, .int .i64 v3, .int .i64 v4, .int .i64 v5, .int .i64 v6] rfl); generalize World.setCell u6 _ _ = y6b at m6b ⊢; replace m6b := Aside0.mk m6b)
    | ((with_reducible refine gate_op (.load 50 (.tmp 5)) rfl ?_); refine wpList_load_midB rfl _ _ rfl ⟨gb, 0, none⟩ rfl [.int .i64 v1, .int .i64 v2, .int .i64 v3, .int .i64 v4, .int .i64 v5, .int .i64 v6] _ (Bk.cells_row m6b.out.rb) Tryz.underlying50 rfl szG6 ?_)
    | ((with_reducible refine gate_op (.store 50 (.tmp 4) (.tmp 27)) rfl ?_); go_must (refine wpList_store_midB rfl _ _ _ rfl ga 0 [.int .i64 v1, .int .i64 v2, .int .i64 v3, .int .i64 v4, .int .i64 v5, .int .i64 v6] rfl rfl 50 [.int .i64 0, .int .i64 0, .int .i64 0, .int .i64 0, .int .i64 0, .int .i64 0] m6b.out.ra szG6 (Nat.le_refl _) oneG6 ?_); go_must (have f0 := m6b.out.fin rfl); go_must (generalize World.setRow _ ga (splice [.int .i64 0, .int .i64 0, .int .i64 0, .int .i64 0, .int .i64 0, .int .i64 0] 0 [.int .i64 v1, .int .i64 v2, .int .i64 v3, .int .i64 v4, .int .i64 v5, .int .i64 v6]).toArray = z0 at f0 ⊢); replace f0 := Aside0.mk f0))
  refine bodyPost_ret (results_cell_row rfl _ _ ga _ _ _ _ rfl f0.out.ra Tryz.underlying50 rfl ?hi) rfl ?_
  case hi => exact szG6
  exact ⟨by unfold groupR; dsimp only; rw [hv1.out, hv2.out, hv3.out, hv4.out, hv5.out, hv6.out], f0.out.a, f0.out.b, f0.out.k⟩
set_option maxHeartbeats 2000000 in
set_option maxRecDepth 100000 in
theorem task_calls (r g r2 g2 : Nat) (xs ys : List Int) (w : World) (ha : IsReader w r g xs 0) (hb : IsReader w r2 g2 ys 0) (hrr : r ≠ r2) (hx1 : g2 ≠ r) (hx2 : g ≠ r2) (hba : inB xs) (hbb : inB ys) (hl1 : 27 ≤ xs.length) (hl2 : 8 ≤ ys.length) :
    Calls Tryz.prog 30 #[.pointer (some ⟨r, 0, none⟩), .pointer (some ⟨r2, 0, none⟩)] w (TwoPost r g r2 g2 (xs.drop 27) (ys.drop 8) (.tuple #[.agg ([.int .i64 (taskR xs ys).f0, .int .i64 (taskR xs ys).f1, .int .i64 (taskR xs ys).f2, .int .u64 (taskR xs ys).f3, .bool (taskR xs ys).f4, .int .i64 (taskR xs ys).f5, .int .i64 (taskR xs ys).f6.f0, .int .i64 (taskR xs ys).f6.f1] : List Value).toArray, .bool (decide (nx (xs.drop 9) 1 ≤ 1))]) w) := by
  have HX := Aside0.mk (And.intro hrr (And.intro hx1 hx2))
  clear hrr hx1 hx2
  replace ha := Aside0.mk ha; replace hb := Aside0.mk hb; replace hba := Aside0.mk hba; replace hbb := Aside0.mk hbb
  obtain ⟨v1, hv1⟩ : ∃ v, nx xs 3 = v := ⟨_, rfl⟩
  obtain ⟨v2, hv2⟩ : ∃ v, nx (xs.drop 3) 3 = v := ⟨_, rfl⟩
  obtain ⟨v3, hv3⟩ : ∃ v, nx (xs.drop 6) 3 = v := ⟨_, rfl⟩
  obtain ⟨v4, hv4⟩ : ∃ v, nx (xs.drop 9) 1 = v := ⟨_, rfl⟩
  obtain ⟨v5, hv5⟩ : ∃ v, nx (xs.drop 10) 6 = v := ⟨_, rfl⟩
  obtain ⟨v6, hv6⟩ : ∃ v, nx (xs.drop 16) 8 = v := ⟨_, rfl⟩
  obtain ⟨v7, hv7⟩ : ∃ v, nx (xs.drop 24) 3 = v := ⟨_, rfl⟩
  obtain ⟨v8, hv8⟩ : ∃ v, leNum (ys.take 8) = v := ⟨_, rfl⟩
  replace hv1 := Aside0.mk hv1; replace hv2 := Aside0.mk hv2; replace hv3 := Aside0.mk hv3; replace hv4 := Aside0.mk hv4; replace hv5 := Aside0.mk hv5; replace hv6 := Aside0.mk hv6; replace hv7 := Aside0.mk hv7; replace hv8 := Aside0.mk hv8
  go_enter Tryz.func30, Tryz.ntmps30
  go_wp2_with (first
    | (((with_reducible refine gate_dst (N := 4) rfl ?_); refine box_event ?hg (N := 4) ?hd (cs := #[.int .i64 0, .int .i64 0, .int .i64 0, .int .u64 0, .bool false, .int .i64 0, .int .i64 0, .int .i64 0]) (t := 59) ?hr ?_; (case hd => rfl); (case hg => rfl); (case hr => first | (go_simp; done) | (go_simp; rfl)); intro ga hga w1 kga bga; replace hga := Aside0.mk hga; replace kga := Aside0.mk kga; replace bga := Aside0.mk bga))
    | (((with_reducible refine gate_dst (N := 6) rfl ?_); refine box_event ?hg (N := 6) ?hd (cs := #[.int .i64 0, .int .i64 0, .int .i64 0, .int .u64 0, .bool false, .int .i64 0, .int .i64 0, .int .i64 0]) (t := 59) ?hr ?_; (case hd => rfl); (case hg => rfl); (case hr => first | (go_simp; done) | (go_simp; rfl)); intro gb hgb w2 kgb bgb; replace hgb := Aside0.mk hgb; replace kgb := Aside0.mk kgb; replace bgb := Aside0.mk bgb); (have s0 := Aside0.mk (GS.begin ha.out hb.out HX.out.1 HX.out.2.1 HX.out.2.2 hga.out hgb.out kga.out kgb.out bga.out bgb.out)); clear kga kgb bga bgb)
    | (go_at_call 62; (have kc := next_calls r g xs 3 3 w2 s0.out.a hba.out (by decide) (by decide) (by exact Nat.le_trans (by decide) hl1)); rw [hv1.out] at kc; (with_reducible refine kc.mono ?_); clear kc; rintro e u1 ⟨rfl, p1, q1⟩; (have n1 := s0.out.next1 p1 q1); clear p1 q1; replace n1 := Aside0.mk n1)
    | ((with_reducible refine gate_op (.store 3 (.tmp 10) (.tmp 9)) rfl ?_); refine storeCell_event rfl _ _ _ rfl ⟨gb, 0, none⟩ (.int .i64 v1) (.int .i64 0) rfl rfl rfl ((cell_row n1.out.rb 0).trans rfl) (frozen_row n1.out.rb 0) sz_int1 rfl rfl ?_; (have m1a := n1.out.set 0 (.int .i64 v1) [.int .i64 v1, .int .i64 0, .int .i64 0, .int .u64 0, .bool false, .int .i64 0, .int .i64 0, .int .i64 0] rfl); generalize World.setCell u1 _ _ = y1a at m1a ⊢; replace m1a := Aside0.mk m1a)
    | (go_at_call 62; (have kc := next_calls r g (xs.drop 3) 3 3 y1a m1a.out.a (inB_drop hba.out 3) (by decide) (by decide) (by rw [List.length_drop]; omega)); rw [hv2.out] at kc; (with_reducible refine kc.mono ?_); clear kc; rintro e u2 ⟨rfl, p2, q2⟩; (have n2 := m1a.out.next1 p2 q2); clear p2 q2; simp only [List.drop_drop, Nat.reduceAdd] at n2; replace n2 := Aside0.mk n2)
    | ((with_reducible refine gate_op (.store 3 (.tmp 13) (.tmp 12)) rfl ?_); refine storeCell_event rfl _ _ _ rfl ⟨gb, 1, none⟩ (.int .i64 v2) (.int .i64 0) rfl rfl rfl ((cell_row n2.out.rb 1).trans rfl) (frozen_row n2.out.rb 1) sz_int1 rfl rfl ?_; (have m2a := n2.out.set 1 (.int .i64 v2) [.int .i64 v1, .int .i64 v2, .int .i64 0, .int .u64 0, .bool false, .int .i64 0, .int .i64 0, .int .i64 0] rfl); generalize World.setCell u2 _ _ = y2a at m2a ⊢; replace m2a := Aside0.mk m2a)
    | (go_at_call 62; (have kc := next_calls r g (xs.drop 6) 3 3 y2a m2a.out.a (inB_drop hba.out 6) (by decide) (by decide) (by rw [List.length_drop]; omega)); rw [hv3.out] at kc; (with_reducible refine kc.mono ?_); clear kc; rintro e u3 ⟨rfl, p3, q3⟩; (have n3 := m2a.out.next1 p3 q3); clear p3 q3; simp only [List.drop_drop, Nat.reduceAdd] at n3; replace n3 := Aside0.mk n3)
    | ((with_reducible refine gate_op (.store 3 (.tmp 16) (.tmp 15)) rfl ?_); refine storeCell_event rfl _ _ _ rfl ⟨gb, 2, none⟩ (.int .i64 v3) (.int .i64 0) rfl rfl rfl ((cell_row n3.out.rb 2).trans rfl) (frozen_row n3.out.rb 2) sz_int1 rfl rfl ?_; (have m3a := n3.out.set 2 (.int .i64 v3) [.int .i64 v1, .int .i64 v2, .int .i64 v3, .int .u64 0, .bool false, .int .i64 0, .int .i64 0, .int .i64 0] rfl); generalize World.setCell u3 _ _ = y3a at m3a ⊢; replace m3a := Aside0.mk m3a)
    | (go_at_call 62; (have kc := next_calls r g (xs.drop 9) 1 1 y3a m3a.out.a (inB_drop hba.out 9) (by decide) (by decide) (by rw [List.length_drop]; omega)); rw [hv4.out] at kc; (with_reducible refine kc.mono ?_); clear kc; rintro e u4 ⟨rfl, p4, q4⟩; (have n4 := m3a.out.next1 p4 q4); clear p4 q4; simp only [List.drop_drop, Nat.reduceAdd] at n4; replace n4 := Aside0.mk n4)
    | ((with_reducible refine gate_op (.store 4 (.tmp 21) (.tmp 20)) rfl ?_); refine storeCell_event rfl _ _ _ rfl ⟨gb, 4, none⟩ (.bool (v4 == 1)) (.bool false) rfl rfl rfl ((cell_row n4.out.rb 4).trans rfl) (frozen_row n4.out.rb 4) sz_bool1 rfl rfl ?_; (have m4s := n4.out.set 4 (.bool (v4 == 1)) [.int .i64 v1, .int .i64 v2, .int .i64 v3, .int .u64 0, .bool (v4 == 1), .int .i64 0, .int .i64 0, .int .i64 0] rfl); generalize World.setCell u4 _ _ = y4s at m4s ⊢; replace m4s := Aside0.mk m4s)
    | (go_at_call 62; (have kc := next_calls r g (xs.drop 10) 6 6 y4s m4s.out.a (inB_drop hba.out 10) (by decide) (by decide) (by rw [List.length_drop]; omega)); rw [hv5.out] at kc; (with_reducible refine kc.mono ?_); clear kc; rintro e u5 ⟨rfl, p5, q5⟩; (have n5 := m4s.out.next1 p5 q5); clear p5 q5; simp only [List.drop_drop, Nat.reduceAdd] at n5; replace n5 := Aside0.mk n5)
    | ((with_reducible refine gate_op (.store 3 (.tmp 24) (.tmp 23)) rfl ?_); refine storeCell_event rfl _ _ _ rfl ⟨gb, 5, none⟩ (.int .i64 v5) (.int .i64 0) rfl rfl rfl ((cell_row n5.out.rb 5).trans rfl) (frozen_row n5.out.rb 5) sz_int1 rfl rfl ?_; (have m5a := n5.out.set 5 (.int .i64 v5) [.int .i64 v1, .int .i64 v2, .int .i64 v3, .int .u64 0, .bool (v4 == 1), .int .i64 v5, .int .i64 0, .int .i64 0] rfl); generalize World.setCell u5 _ _ = y5a at m5a ⊢; replace m5a := Aside0.mk m5a)
    | (go_at_call 62; (have kc := next_calls r g (xs.drop 16) 8 8 y5a m5a.out.a (inB_drop hba.out 16) (by decide) (by decide) (by rw [List.length_drop]; omega)); rw [hv6.out] at kc; (with_reducible refine kc.mono ?_); clear kc; rintro e u6 ⟨rfl, p6, q6⟩; (have n6 := m5a.out.next1 p6 q6); clear p6 q6; simp only [List.drop_drop, Nat.reduceAdd] at n6; replace n6 := Aside0.mk n6)
    | ((with_reducible refine gate_op (.store 3 (.tmp 28) (.tmp 26)) rfl ?_); refine storeCell_event rfl _ _ _ rfl ⟨gb, 6, none⟩ (.int .i64 v6) (.int .i64 0) rfl rfl rfl ((cell_row n6.out.rb 6).trans rfl) (frozen_row n6.out.rb 6) sz_int1 rfl rfl ?_; (have m6a := n6.out.set 6 (.int .i64 v6) [.int .i64 v1, .int .i64 v2, .int .i64 v3, .int .u64 0, .bool (v4 == 1), .int .i64 v5, .int .i64 v6, .int .i64 0] rfl); generalize World.setCell u6 _ _ = y6a at m6a ⊢; replace m6a := Aside0.mk m6a)
    | (go_at_call 62; (have kc := next_calls r g (xs.drop 24) 3 3 y6a m6a.out.a (inB_drop hba.out 24) (by decide) (by decide) (by rw [List.length_drop]; omega)); rw [hv7.out] at kc; (with_reducible refine kc.mono ?_); clear kc; rintro e u7 ⟨rfl, p7, q7⟩; (have n7 := m6a.out.next1 p7 q7); clear p7 q7; simp only [List.drop_drop, Nat.reduceAdd] at n7; replace n7 := Aside0.mk n7)
    | ((with_reducible refine gate_op (.store 3 (.tmp 32) (.tmp 30)) rfl ?_); refine storeCell_event rfl _ _ _ rfl ⟨gb, 7, none⟩ (.int .i64 v7) (.int .i64 0) rfl rfl rfl ((cell_row n7.out.rb 7).trans rfl) (frozen_row n7.out.rb 7) sz_int1 rfl rfl ?_; (have m7a := n7.out.set 7 (.int .i64 v7) [.int .i64 v1, .int .i64 v2, .int .i64 v3, .int .u64 0, .bool (v4 == 1), .int .i64 v5, .int .i64 v6, .int .i64 v7] rfl); generalize World.setCell u7 _ _ = y7a at m7a ⊢; replace m7a := Aside0.mk m7a)
    | (go_at_call 63; (have kc := take_calls r2 g2 ys 8 8 y7a m7a.out.b hbb.out (by decide) (by decide) (by exact Nat.le_trans (by decide) hl2)); rw [hv8.out] at kc; (with_reducible refine kc.mono ?_); clear kc; rintro e u8 ⟨rfl, p8, q8⟩; (have n8 := m7a.out.next2 p8 q8); clear p8 q8; replace n8 := Aside0.mk n8)
    | ((with_reducible refine gate_op (.store 52 (.tmp 35) (.tmp 34)) rfl ?_); refine storeCell_event rfl _ _ _ rfl ⟨gb, 3, none⟩ (.int .u64 v8) (.int .u64 0) rfl rfl rfl ((cell_row n8.out.rb 3).trans rfl) (frozen_row n8.out.rb 3) sz_u641 rfl rfl ?_; (have m8b := n8.out.set 3 (.int .u64 v8) [.int .i64 v1, .int .i64 v2, .int .i64 v3, .int .u64 v8, .bool (v4 == 1), .int .i64 v5, .int .i64 v6, .int .i64 v7] rfl); generalize World.setCell u8 _ _ = y8b at m8b ⊢; replace m8b := Aside0.mk m8b)
    | ((with_reducible refine gate_op (.load 59 (.tmp 6)) rfl ?_); refine wpList_load_midB rfl _ _ rfl ⟨gb, 0, none⟩ rfl [.int .i64 v1, .int .i64 v2, .int .i64 v3, .int .u64 v8, .bool (v4 == 1), .int .i64 v5, .int .i64 v6, .int .i64 v7] _ (Bk.cells_row m8b.out.rb) Tryz.underlying59 rfl szT8 ?_)
    | ((with_reducible refine gate_op (.store 59 (.tmp 4) (.tmp 36)) rfl ?_); go_must (refine wpList_store_midB rfl _ _ _ rfl ga 0 [.int .i64 v1, .int .i64 v2, .int .i64 v3, .int .u64 v8, .bool (v4 == 1), .int .i64 v5, .int .i64 v6, .int .i64 v7] rfl rfl 59 [.int .i64 0, .int .i64 0, .int .i64 0, .int .u64 0, .bool false, .int .i64 0, .int .i64 0, .int .i64 0] m8b.out.ra szT8 (Nat.le_refl _) oneT8 ?_); go_must (have f0 := m8b.out.fin rfl); go_must (generalize World.setRow _ ga (splice [.int .i64 0, .int .i64 0, .int .i64 0, .int .u64 0, .bool false, .int .i64 0, .int .i64 0, .int .i64 0] 0 [.int .i64 v1, .int .i64 v2, .int .i64 v3, .int .u64 v8, .bool (v4 == 1), .int .i64 v5, .int .i64 v6, .int .i64 v7]).toArray = z0 at f0 ⊢); replace f0 := Aside0.mk f0))
  refine bodyPost_ret (results_ct rfl _ _ ga _ _ _ _ rfl f0.out.ra Tryz.underlying59 rfl ?hi) rfl ?_
  case hi => exact szT8
  exact ⟨by unfold taskR; dsimp only; rw [hv1.out, hv2.out, hv3.out, hv4.out, hv5.out, hv6.out, hv7.out, hv8.out]; rfl, f0.out.a, f0.out.b, f0.out.k⟩
end Go.Proofs.YtpnjhffnlafabaaGreatDoor.Im
