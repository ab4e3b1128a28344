/- End of package le; table of package parcel: what the table of an image tells. table of package parcel: the walk. Unpack of package parcel, plain; bytes.HasPrefix; the magic as bytes. Unpack of package parcel: the sections' row while bodies are laid into it. -/
import Derived.Test.YtpnjhffnlafabaaGreatDoorVIm6
import Derived.Test.YtpnjhffnlafabaaGreatDoorVHt
namespace Go.Proofs.YtpnjhffnlafabaaGreatDoor.Im
set_option linter.unusedVariables false
set_option linter.unusedSimpArgs false
open Go.RowKit Go.Proofs.Bk Go.Proofs.Bm Go.Proofs.Sc Go.Proofs.Kf Go.Proofs.YtpnjhffnlafabaaGreatDoorW.PrintWords Go.Proofs.YtpnjhffnlafabaaGreatDoor.Sl Go.Proofs.YtpnjhffnlafabaaGreatDoor.Sn Go.Proofs.YtpnjhffnlafabaaGreatDoor.PImageBack
/-! ### entries -/
structure EN where
  f0 : Int
  f1 : Int
  f2 : Int
def zN : EN := ⟨0, 0, 0⟩
instance : Inhabited EN := ⟨zN⟩
def kN : Kd EN := Kd.iso (Kd.pair (Kd.int .i64) (Kd.pair (Kd.int .i64) (Kd.int .u64))) (fun x : EN => (x.f0, x.f1, x.f2))
theorem kN_open {w : World} {x : EN} {cs : List Value} (h : kN.K w x cs) : cs = [.int .i64 x.f0, .int .i64 x.f1, .int .u64 x.f2] := by
  obtain ⟨_, _, rfl, rfl, ⟨_, _, rfl, rfl, rfl⟩⟩ := h
  exact rfl
theorem kN_mk (w : World) (x : EN) : kN.K w x [.int .i64 x.f0, .int .i64 x.f1, .int .u64 x.f2] := ⟨[.int .i64 x.f0], [.int .i64 x.f1, .int .u64 x.f2], rfl, rfl, ⟨[.int .i64 x.f1], [.int .u64 x.f2], rfl, rfl, rfl⟩⟩
theorem kN_mkM (w : World) (base : Nat) (ok : Nat → Prop) (x : EN) : kN.M w base ok x [.int .i64 x.f0, .int .i64 x.f1, .int .u64 x.f2] := ⟨[.int .i64 x.f0], [.int .i64 x.f1, .int .u64 x.f2], rfl, rfl, ⟨[.int .i64 x.f1], [.int .u64 x.f2], rfl, rfl, rfl⟩⟩
theorem szN3 : (Tryz.prog.info? 95).map (·.size) = some 3 := by kernel_rfl
theorem oneN3 {a b c : Int} : ∀ v ∈ ([.int .i64 a, .int .i64 b, .int .u64 c] : List Value), v.oneCell' = true := by
  intro v hv; simp at hv; rcases hv with rfl | rfl | rfl <;> rfl
theorem N_one {A : Option Addr} {n : Nat} {ts : List EN} {w : World} (h : kN.C w A n ts) {k : Nat} (hk : k < n) :
    ∃ b o x, A = some ⟨b, o, none⟩ ∧ b < w.heap.size ∧ ts[k]? = some x ∧ w.cell? ⟨b, o + k * 3, none⟩ = some (.int .i64 x.f0) ∧ w.cell? ⟨b, o + k * 3 + 1, none⟩ = some (.int .i64 x.f1) ∧ w.cell? ⟨b, o + k * 3 + 2, none⟩ = some (.int .u64 x.f2) := by
  obtain ⟨b, o, h1, h2, h3⟩ := C_at h (by omega) (by decide)
  have hl : k < ts.length := by have := h.1; omega
  have hx := List.getElem?_eq_getElem hl
  obtain ⟨c, _, q2, q3⟩ := h3 k _ hx
  obtain rfl := kN_open q2
  exact ⟨b, o, ts[k], h1, h2, hx, q3 0 _ rfl, q3 1 _ rfl, q3 2 _ rfl⟩
/-! ### End -/
def endOf (xs : List Int) (f : Int) : Int := if f = 0 ∧ 0 < xs.length then 3 else f
set_option maxHeartbeats 2000000 in
theorem End_calls (r g : Nat) (xs : List Int) (f : Int) (w : World) (h : IsReader w r g xs f) :
    Calls Tryz.prog 60 #[.pointer (some ⟨r, 0, none⟩)] w (PurePost (.int .i64 (endOf xs f)) w) := by
  obtain ⟨A, c, hr, hc, hC, hg, hrg⟩ := h
  have c0 : w.cell? ⟨r, 0, none⟩ = some (.slice A xs.length c) := (cell_row hr 0).trans rfl
  have c1 : w.cell? ⟨r, 1, none⟩ = some (.int .i64 f) := (cell_row hr 1).trans rfl
  obtain ⟨n, hn⟩ : ∃ n, xs.length = n := ⟨_, rfl⟩
  rw [hn] at c0
  clear hr hC hg hrg hc
  by_cases hf : f = 0
  · subst hf
    by_cases h0 : 0 < n
    · have e : endOf xs 0 = 3 := by unfold endOf; rw [if_pos ⟨rfl, by omega⟩]
      have z : (0 : Int) < (n : Int) := by omega
      rw [e]
      go_enter Tryz.func60, Tryz.ntmps60
      go_wp2_with fail
      go_ret
      exact ⟨rfl, rfl⟩
    · have e : endOf xs 0 = 0 := by unfold endOf; rw [if_neg (fun h => h0 (by omega))]
      have z : ¬ (0 : Int) < (n : Int) := by omega
      rw [e]
      go_enter Tryz.func60, Tryz.ntmps60
      go_wp2_with fail
      go_ret
      exact ⟨rfl, rfl⟩
  · have e : endOf xs f = f := by unfold endOf; rw [if_neg (fun h => hf h.1)]
    have z : (f == 0) = false := by simpa using hf
    rw [e]
    go_enter Tryz.func60, Tryz.ntmps60
    go_wp2_with fail
    go_ret
    exact ⟨rfl, rfl⟩
theorem part_ok_calls (r g : Nat) (xs : List Int) (many : Int) (k : Nat) (w : World) (hmk : many = (k : Int)) (h : IsReader w r g xs 0) (hl : k ≤ xs.length) :
    Calls Tryz.prog 59 #[.pointer (some ⟨r, 0, none⟩), .int .i64 many] w (fun e w' => ∃ A c, e = .returned (.slice A k c) ∧ k ≤ c ∧ U8.C w' A k (xs.take k) ∧ (∀ ad, A = some ad → ad.block = g) ∧ IsReader w' r g (xs.drop k) 0 ∧ KeepF (fun k => k = r) w w') := by
  subst hmk
  have hp : Sl.part xs 0 k = (xs.take k, xs.drop k, 0) := by
    unfold Sl.part
    rw [if_neg (by simp), if_neg (by omega), if_neg (by omega), Int.toNat_natCast]
  have kt := Part_calls r g xs 0 k w h
  unfold PartPost at kt
  rw [hp] at kt
  refine kt.mono ?_
  rintro e w' ⟨A, n, c, rfl, h1, h2, h3, h4, h5⟩
  have hn : (xs.take k).length = n := h2.1
  rw [List.length_take, Nat.min_eq_left hl] at hn
  subst hn
  exact ⟨A, c, rfl, h1, h2, h3, h4, h5⟩
/-! ### table, plain -/
def eRow (xs : List Int) : EN := ⟨nx xs 1, nx (xs.drop 1) 2, leNum ((xs.drop 3).take 4)⟩
def entriesOf (xs : List Int) (k : Nat) : List EN := (List.range k).map fun i => eRow (xs.drop (7 * i))
theorem entriesOf_succ (xs : List Int) (k : Nat) : entriesOf xs (k + 1) = entriesOf xs k ++ [eRow (xs.drop (7 * k))] := by
  unfold entriesOf; rw [List.range_succ, List.map_append]; rfl
theorem entriesOf_length (xs : List Int) (k : Nat) : (entriesOf xs k).length = k := by simp [entriesOf]
def manyOf (b : List Int) : Nat := (leNum ((b.drop 4).take 1)).toNat
def tableOf (b : List Int) : Int × List EN × List Int :=
  if leNum ((b.drop 5).take 4) ≠ crc (b.take 5) then (4, [], []) else if 16 < manyOf b then (7, [], []) else if b.length < 13 + 7 * manyOf b then (2, [], [])
  else if leNum ((b.drop (9 + 7 * manyOf b)).take 4) ≠ crc (b.take (9 + 7 * manyOf b)) then (4, [], []) else (0, entriesOf (b.drop 9) (manyOf b), b.drop (13 + 7 * manyOf b))
end Go.Proofs.YtpnjhffnlafabaaGreatDoor.Im
namespace Go.Proofs.YtpnjhffnlafabaaGreatDoor.Im
set_option linter.unusedVariables false
set_option linter.unusedSimpArgs false
open Go.Proofs Go.RowKit Go.Proofs.Bk Go.Proofs.Bm Go.Proofs.Sc Go.Proofs.Kf Go.Proofs.YtpnjhffnlafabaaGreatDoorW.PrintWords Go.Proofs.YtpnjhffnlafabaaGreatDoor.Sl Go.Proofs.YtpnjhffnlafabaaGreatDoor.Sn Go.Proofs.YtpnjhffnlafabaaGreatDoor.PImageBack
def TabPost (b : List Int) (w : World) (e : Ending) (w' : World) : Prop :=
  ∃ (v rp : Value) (er : Int) (es : List EN) (rest : List Int), e = .returned (.tuple #[v, rp, .int .i64 er]) ∧ (er, es, rest) = tableOf b ∧ Below w.heap.size w w' ∧
    (er = 0 → ∃ A c r g, v = .slice A es.length c ∧ kN.C w' A es.length es ∧ (∀ ad, A = some ad → ad.block ≠ r) ∧ rp = .pointer (some ⟨r, 0, none⟩) ∧ IsReader w' r g rest 0 ∧ w.heap.size ≤ r ∧ g ≠ r ∧ (∀ ad, A = some ad → w.heap.size ≤ ad.block))
theorem TabPost.odd {b : List Int} {w w' : World} {er : Int} (h : tableOf b = (er, [], [])) (hb : Below w.heap.size w w') (hn : er ≠ 0) : TabPost b w (.returned (.tuple #[.slice none 0 0, .pointer none, .int .i64 er])) w' :=
  ⟨_, _, er, [], [], rfl, h.symm, hb, fun h0 => absurd h0 hn⟩
theorem leNum1 {xs : List Int} (hb : inB xs) : ∃ m : Nat, leNum (xs.take 1) = (m : Int) ∧ m ≤ 255 := by
  cases xs with
  | nil => exact ⟨0, rfl, by decide⟩
  | cons x l =>
    have := hb x (by simp)
    refine ⟨x.toNat, ?_, by omega⟩
    simp [leNum]; omega
theorem KeepF.fresh {w W W' : World} {r : Nat} (h : KeepF (fun k => k = r) W W') (hb : Below w.heap.size w W) (hr : w.heap.size ≤ r) : Below w.heap.size w W' :=
  hb.trans (KeepF.to_below h hb.size (fun i e => by rw [e]; exact hr))
abbrev Ents (w : World) (base : Nat) (v : Value) (es : List EN) : Prop := kN.R 95 w base (fun _ => True) v es
theorem infoN3 : (Tryz.prog.info? 95).map (fun i => (i.zero, i.size, i.bytes)) = some (some (.agg #[.int .i64 0, .int .i64 0, .int .u64 0]), 3, 24) := by kernel_rfl
theorem Ents.step {W W' : World} {base : Nat} {v : Value} {es : List EN} (h : Ents W base v es) (hs : ∀ k, k < W.heap.size → some k = v.ownBlock → W'.heap[k]? = W.heap[k]?) : Ents W' base v es := by
  have h1 := Kd.R_tight (d := kN) rfl h
  exact Kd.R_mono (Kd.R_step h1 (fun k hk hlt => hs k hlt hk)) (fun _ _ => trivial)
structure TS (w0 W : World) (r g : Nat) (b : List Int) (pos : Nat) (v : Value) (es : List EN) : Prop where
  rd : IsReader W r g (b.drop pos) 0
  ro : Ents W w0.heap.size v es
  nr : some r ≠ v.ownBlock
  ng : 0 < (b.drop pos).length → some g ≠ v.ownBlock
  bl : Below w0.heap.size w0 W
  rr : w0.heap.size ≤ r
theorem TS.keep {w0 W W' : World} {r g : Nat} {b : List Int} {pos : Nat} {v : Value} {es : List EN} {F : Nat → Prop} (h : TS w0 W r g b pos v es) (hk : KeepF F W W') (h1 : ¬ F r) (h2 : 0 < (b.drop pos).length → ¬ F g) (h3 : ∀ k, some k = v.ownBlock → ¬ F k) (h4 : ∀ i, F i → w0.heap.size ≤ i) : TS w0 W' r g b pos v es :=
  ⟨h.rd.keep hk h1 h2, h.ro.step (fun k hlt e => hk.block k hlt (h3 k e)), h.nr, h.ng, h.bl.trans (KeepF.to_below hk h.bl.size h4), h.rr⟩
theorem TS.below {w0 W W' : World} {r g : Nat} {b : List Int} {pos : Nat} {v : Value} {es : List EN} (h : TS w0 W r g b pos v es) (hb : Below W.heap.size W W') : TS w0 W' r g b pos v es :=
  h.keep (F := fun _ => False) (KeepF.of_below hb) id (fun _ => id) (fun _ _ => id) (fun _ h => h.elim)
theorem TS.take {w0 W W' : World} {r g : Nat} {b : List Int} {pos : Nat} {v : Value} {es : List EN} {k : Nat} (h : TS w0 W r g b pos v es) (h1 : IsReader W' r g ((b.drop pos).drop k) 0) (h2 : KeepF (fun k => k = r) W W') : TS w0 W' r g b (pos + k) v es := by
  rw [List.drop_drop] at h1
  exact ⟨h1, h.ro.step (fun k hlt e => h2.block k hlt (fun e2 => h.nr (by rw [← e2]; exact e))), h.nr, fun hp => h.ng (by rw [List.length_drop] at hp ⊢; omega), KeepF.fresh h2 h.bl h.rr, h.rr⟩
theorem TS.push {w0 W W' : World} {r g : Nat} {b : List Int} {pos : Nat} {v v' : Value} {es es' : List EN} (h : TS w0 W r g b pos v es) (hr : Ents W' w0.heap.size v' es') (hb : Below w0.heap.size w0 W') (hg : Grew W v W' v') : TS w0 W' r g b pos v' es' := by
  have hrl := h.rd.lt
  refine ⟨?_, hr, fun e => ?_, fun hp e => ?_, hb, h.rr⟩
  · obtain ⟨A, c, h1, h2, h3, h4, h5⟩ := h.rd
    refine ⟨A, c, (hg.blk r (lt_row h1) h.nr).trans h1, h2, ?_, h4, h5⟩
    refine ⟨h3.1, h3.2.1, fun hn => ?_⟩
    obtain ⟨ad, e, hc⟩ := h3.2.2 hn
    refine ⟨ad, e, fun j p hj => ?_⟩
    obtain ⟨c', q1, q2, q3⟩ := hc j p hj
    refine ⟨c', q1, q2, fun i u hu => hg.cell (q3 i u hu) ?_⟩
    rw [add_blk, h4 ad e]
    exact h.ng hn
  · rcases hg.own with e1 | ⟨q, e1, hq⟩
    · rw [e1] at e; exact h.nr e
    · rw [e1] at e; injection e with e; omega
  · have hgl := h.rd.glt hp
    rcases hg.own with e1 | ⟨q, e1, hq⟩
    · rw [e1] at e; exact h.ng hp e
    · rw [e1] at e; injection e with e; omega
theorem TS.gb {w0 W W' : World} {r g gb : Nat} {b : List Int} {pos : Nat} {v : Value} {es : List EN} (h : TS w0 W r g b pos v es) (hgb : gb = W.heap.size) : r ≠ gb ∧ (0 < (b.drop pos).length → g ≠ gb) ∧ some gb ≠ v.ownBlock ∧ w0.heap.size ≤ gb := by
  have h1 := h.rd.lt
  refine ⟨by omega, fun hp => by have := h.rd.glt hp; omega, fun e => ?_, by have := h.bl.size; omega⟩
  have := Kd.R_lt h.ro gb e.symm
  omega
structure TB (w0 W : World) (r g gb : Nat) (b : List Int) (pos : Nat) (v : Value) (es : List EN) (cs : List Value) : Prop where
  t : TS w0 W r g b pos v es
  row : W.heap[gb]? = some (.cells cs.toArray 95 (0, 0))
  n1 : r ≠ gb
  n2 : 0 < (b.drop pos).length → g ≠ gb
  n3 : some gb ≠ v.ownBlock
  n4 : w0.heap.size ≤ gb
theorem TB.take {w0 W W' : World} {r g gb : Nat} {b : List Int} {pos : Nat} {v : Value} {es : List EN} {cs : List Value} {k : Nat} (h : TB w0 W r g gb b pos v es cs) (h1 : IsReader W' r g ((b.drop pos).drop k) 0) (h2 : KeepF (fun k => k = r) W W') : TB w0 W' r g gb b (pos + k) v es cs :=
  ⟨h.t.take h1 h2, (h2.block gb (lt_row h.row) (fun e => h.n1 e.symm)).trans h.row, h.n1, fun hp => h.n2 (by rw [List.length_drop] at hp ⊢; omega), h.n3, h.n4⟩
theorem TB.set {w0 W : World} {r g gb : Nat} {b : List Int} {pos : Nat} {v : Value} {es : List EN} {cs : List Value} (h : TB w0 W r g gb b pos v es cs) (i : Nat) (x : Value) (cs' : List Value) (e : cs.set i x = cs') : TB w0 (W.setCell ⟨gb, i, none⟩ x) r g gb b pos v es cs' := by
  have hk := KeepF.setCell W ⟨gb, i, none⟩ x
  refine ⟨h.t.keep hk (fun e => h.n1 e) (fun hp e => h.n2 hp e) (fun k e e2 => h.n3 (by rw [← (show k = gb from e2)]; exact e)) (fun i e => by rw [show i = gb from e]; exact h.n4), ?_, h.n1, h.n2, h.n3, h.n4⟩
  rw [setCell_row h.row, ← e]; simp
set_option maxHeartbeats 8000000 in
set_option maxRecDepth 100000 in
theorem table_calls (A : Option Addr) (n c : Nat) (b : List Int) (w : World) (hT : Tab w) (h : U8.C w A n b) (hc : n ≤ c) (hn : n ≤ 140737488355328) (h9 : 9 ≤ n) (hby : inB b) :
    Calls Tryz.prog 58 #[.slice A n c] w (TabPost b w) := by
  have hln : b.length = n := h.1
  have HE := Aside0.mk h
  have HT := Aside0.mk hT
  clear h hT
  obtain ⟨m, hm, hm255⟩ := leNum1 (inB_drop hby 4)
  have hmany : manyOf b = m := by unfold manyOf; rw [hm, Int.toNat_natCast]
  have hwm : wrap64 (m : Int) = (m : Int) := by unfold wrap64; omega
  obtain ⟨s1, hs1⟩ : ∃ s, leNum ((b.drop 5).take 4) = s := ⟨_, rfl⟩
  obtain ⟨k1, hk1⟩ : ∃ k, crc (b.take 5) = k := ⟨_, rfl⟩
  have hin5 : inB (b.take 5) := fun x hx => hby x (List.mem_of_mem_take hx)
  obtain ⟨q0, q1⟩ := crc_range (b.take 5) hin5
  rw [hk1] at q0 q1
  have hwk : IntKind.u64.wrap k1 = k1 := by rw [IntKind.wrap_u64]; omega
  have ko : ∀ W, Below w.heap.size w W → _ := fun W hW => Of_calls A 5 c (b.take 5) W (HT.out.step hW) (C_take0 (Kd.C_below HE.out hW) 5 (by omega)) hin5
  have htab : tableOf b = if s1 ≠ k1 then (4, [], []) else if 16 < m then (7, [], []) else if n < 13 + 7 * m then (2, [], [])
      else if leNum ((b.drop (9 + 7 * m)).take 4) ≠ crc (b.take (9 + 7 * m)) then (4, [], []) else (0, entriesOf (b.drop 9) m, b.drop (13 + 7 * m)) := by
    unfold tableOf; rw [hmany, hs1, hk1, hln]
  replace hln := Aside0.mk hln; replace hby := Aside0.mk hby; replace hm := Aside0.mk hm; replace hmany := Aside0.mk hmany; replace hs1 := Aside0.mk hs1; replace hk1 := Aside0.mk hk1; replace hin5 := Aside0.mk hin5; replace ko := Aside0.mk ko
  go_enter Tryz.func58, Tryz.ntmps58
  go_wp2_with (first
    | (go_at_call 28; (with_reducible refine (NewR_calls A n c b w HE.out hn).mono ?_); rintro e w1 ⟨r, g, rfl, r1, hr, hb1, -⟩; replace hb1 := Aside0.mk hb1; replace r1 := Aside0.mk r1)
    | (go_at_call 59; (with_reducible refine (part_ok_calls r g b 4 4 w1 rfl r1.out (by rw [hln.out]; omega)).mono ?_); rintro e w2 ⟨A2, c2, rfl, -, -, -, r2, kf⟩; (have hb2 := Aside0.mk (KeepF.fresh kf hb1.out hr)); clear kf; replace r2 := Aside0.mk r2)
    | (go_at_call 63; (have kt := take_calls r g (b.drop 4) 1 1 w2 r2.out (inB_drop hby.out 4) (by decide) (by decide) (by rw [List.length_drop, hln.out]; omega)); rw [hm.out] at kt; (with_reducible refine kt.mono ?_); clear kt; rintro e w3 ⟨rfl, r3, kf⟩; (have hb3 := Aside0.mk (KeepF.fresh kf hb2.out hr)); clear kf; simp only [List.drop_drop, Nat.reduceAdd] at r3; replace r3 := Aside0.mk r3))
  have r3d := Aside0.mk (r3.out.keep ((KeepF.refl (fun _ => False) w3).drew) id (fun _ => id))
  have hb3d := Aside0.mk (hb3.out.drew)
  obtain ⟨d1, hd1⟩ : ∃ d, (s1 != k1) = d := ⟨_, rfl⟩
  clear r1 r2 r3 hb1 hb2 hb3
  have z5 : (5 : Int) ≤ (c : Int) := by omega
  have z5' : ¬ (c : Int) < 5 := by omega
  (first | (go_region_held3 (fun w' => True)
      (first | (with_reducible exact trivial) | go_keep)
      (first
        | (go_at_call 63; (have kt := take_calls r g (b.drop 5) 4 4 w3.drew r3d.out (inB_drop hby.out 5) (by decide) (by decide) (by rw [List.length_drop, hln.out]; omega)); rw [hs1.out] at kt; (with_reducible refine kt.mono ?_); clear kt; rintro e w4 ⟨rfl, r4, kf⟩; (have hb4 := Aside0.mk (KeepF.fresh kf hb3d.out hr)); clear kf; simp only [List.drop_drop, Nat.reduceAdd] at r4; replace r4 := Aside0.mk r4)
        | (go_at_call 38; (have kc := ko.out w4 hb4.out); rw [hk1.out] at kc; (with_reducible refine kc.mono ?_); clear kc; rintro e w' ⟨rfl, hw'⟩; subst hw'))) | fail)
  cases d1 with
  | true =>
    have ht : Aside0 (tableOf b = (4, [], [])) := ⟨by rw [htab, if_pos (by simpa using hd1)]⟩
    go_wp2_with fail
    go_ret3
    exact TabPost.odd ht.out hb4.out (by decide)
  | false =>
  rw [if_neg (by simpa using hd1)] at htab
  by_cases h16 : 16 < m
  · have z16 : (16 : Int) < (m : Int) := by omega
    have ht : Aside0 (tableOf b = (7, [], [])) := ⟨by rw [htab, if_pos h16]⟩
    go_wp2_with fail
    go_ret3
    exact TabPost.odd ht.out hb4.out (by decide)
  have z16 : ¬ (16 : Int) < (m : Int) := by omega
  rw [if_neg h16] at htab
  by_cases h13 : n < 13 + 7 * m
  · have z13 : (n : Int) < 9 + 7 * (m : Int) + 4 := by omega
    have ht : Aside0 (tableOf b = (2, [], [])) := ⟨by rw [htab, if_pos h13]⟩
    go_wp2_with fail
    go_ret3
    exact TabPost.odd ht.out hb4.out (by decide)
  have z13 : ¬ (n : Int) < 9 + 7 * (m : Int) + 4 := by omega
  rw [if_neg h13] at htab
  replace htab := Aside0.mk htab
  go_wp2_with fail
  have hS0 := Aside0.mk (⟨r4.out, Kd.R_nil _ _ _ _ _, (fun e => by cases e), (fun _ e => by cases e), hb4.out, hr⟩ : TS w w4 r g b 9 (.slice none 0 0) [])
  go_loopw [8, 37] (fun lv iv wr => ∃ k : Nat, iv = .int .i64 k ∧ k ≤ m ∧ Aside0 (TS w wr r g b (9 + 7 * k) lv (entriesOf (b.drop 9) k))) (fun _ iv _ => m - (intOf iv).toNat)
  case atStart => exact ⟨0, rfl, Nat.zero_le _, hS0⟩
  case round =>
    clear hS0 r4 hb4
    obtain ⟨k, rfl, hk, hS⟩ := hrel
    by_cases hlt : k < m
    · have p1 : (k : Int) < (m : Int) := by omega
      obtain ⟨p, hp⟩ : ∃ p, 9 + 7 * k = p := ⟨_, rfl⟩
      rw [hp] at hS
      obtain ⟨u1, hu1⟩ : ∃ u, leNum ((b.drop p).take 1) = u := ⟨_, rfl⟩
      obtain ⟨u2, hu2⟩ : ∃ u, leNum ((b.drop (p + 1)).take 2) = u := ⟨_, rfl⟩
      obtain ⟨u3, hu3⟩ : ∃ u, leNum ((b.drop (p + 1 + 2)).take 4) = u := ⟨_, rfl⟩
      have hen : entriesOf (b.drop 9) (k + 1) = entriesOf (b.drop 9) k ++ [⟨wrap64 u1, wrap64 u2, u3⟩] := by
        rw [entriesOf_succ, List.drop_drop, hp]; unfold eRow nx; rw [List.drop_drop, List.drop_drop, hu1, hu2, ← hu3]
      have hl0 : p + 7 ≤ n := by omega
      have hl8 : ((entriesOf (b.drop 9) k).length + 1) * 24 ≤ 140737488355328 := by rw [entriesOf_length]; omega
      obtain ⟨ek, hek⟩ : ∃ e, entriesOf (b.drop 9) k = e := ⟨_, rfl⟩
      rw [hek] at hS hl8 hen
      replace hp := Aside0.mk hp; replace hu1 := Aside0.mk hu1; replace hu2 := Aside0.mk hu2; replace hu3 := Aside0.mk hu3; replace hen := Aside0.mk hen; replace hl8 := Aside0.mk hl8; replace hek := Aside0.mk hek
      go_wp2_with (first
        | (((with_reducible refine gate_dst (N := 9) rfl ?_); refine box_event ?hg (N := 9) ?hd (cs := #[.int .i64 0, .int .i64 0, .int .u64 0]) (t := 95) ?hr ?_; (case hd => rfl); (case hg => rfl); (case hr => first | (go_simp; done) | (go_simp; rfl)); intro gb hgb w5 kgb bgb; replace hgb := Aside0.mk hgb; replace kgb := Aside0.mk kgb; replace bgb := Aside0.mk bgb); (have q := hS.out.gb (W' := w5) hgb.out); (have B0 := Aside0.mk (⟨hS.out.below bgb.out, kgb.out, q.1, q.2.1, q.2.2.1, q.2.2.2⟩ : TB w w5 r g gb b p _ ek [.int .i64 0, .int .i64 0, .int .u64 0])); clear q kgb bgb)
        | (go_at_call 63; (have kt := take_calls r g (b.drop p) 1 1 w5 B0.out.t.rd (inB_drop hby.out p) (by decide) (by decide) (by rw [List.length_drop, hln.out]; omega)); rw [hu1.out] at kt; (with_reducible refine kt.mono ?_); clear kt; rintro e w6 ⟨rfl, q1, kf⟩; (have B1 := Aside0.mk (B0.out.take q1 kf)); clear q1 kf)
        | ((with_reducible refine gate_op (.store 3 (.tmp 42) (.tmp 41)) rfl ?_); refine storeCell_event rfl _ _ _ rfl ⟨gb, 0, none⟩ (.int .i64 (wrap64 u1)) (.int .i64 0) rfl rfl rfl ((cell_row B1.out.row 0).trans rfl) (frozen_row B1.out.row 0) sz_int1 rfl rfl ?_; (have B2 := B1.out.set 0 (.int .i64 (wrap64 u1)) [.int .i64 (wrap64 u1), .int .i64 0, .int .u64 0] rfl); generalize World.setCell w6 _ _ = w7 at B2 ⊢; replace B2 := Aside0.mk B2)
        | (go_at_call 63; (have kt := take_calls r g (b.drop (p + 1)) 2 2 w7 B2.out.t.rd (inB_drop hby.out (p + 1)) (by decide) (by decide) (by rw [List.length_drop, hln.out]; omega)); rw [hu2.out] at kt; (with_reducible refine kt.mono ?_); clear kt; rintro e w8 ⟨rfl, q1, kf⟩; (have B3 := Aside0.mk (B2.out.take q1 kf)); clear q1 kf)
        | ((with_reducible refine gate_op (.store 3 (.tmp 46) (.tmp 45)) rfl ?_); refine storeCell_event rfl _ _ _ rfl ⟨gb, 1, none⟩ (.int .i64 (wrap64 u2)) (.int .i64 0) rfl rfl rfl ((cell_row B3.out.row 1).trans rfl) (frozen_row B3.out.row 1) sz_int1 rfl rfl ?_; (have B4 := B3.out.set 1 (.int .i64 (wrap64 u2)) [.int .i64 (wrap64 u1), .int .i64 (wrap64 u2), .int .u64 0] rfl); generalize World.setCell w8 _ _ = w9 at B4 ⊢; replace B4 := Aside0.mk B4)
        | (go_at_call 63; (have kt := take_calls r g (b.drop (p + 1 + 2)) 4 4 w9 B4.out.t.rd (inB_drop hby.out (p + 1 + 2)) (by decide) (by decide) (by rw [List.length_drop, hln.out]; omega)); rw [hu3.out] at kt; (with_reducible refine kt.mono ?_); clear kt; rintro e w10 ⟨rfl, q1, kf⟩; (have B5 := Aside0.mk (B4.out.take q1 kf)); clear q1 kf)
        | ((with_reducible refine gate_op (.store 52 (.tmp 49) (.tmp 48)) rfl ?_); refine storeCell_event rfl _ _ _ rfl ⟨gb, 2, none⟩ (.int .u64 u3) (.int .u64 0) rfl rfl rfl ((cell_row B5.out.row 2).trans rfl) (frozen_row B5.out.row 2) sz_u641 rfl rfl ?_; (have B6 := B5.out.set 2 (.int .u64 u3) [.int .i64 (wrap64 u1), .int .i64 (wrap64 u2), .int .u64 u3] rfl); generalize World.setCell w10 _ _ = w11 at B6 ⊢; replace B6 := Aside0.mk B6)
        | ((with_reducible refine gate_op (.load 95 (.tmp 9)) rfl ?_); refine wpList_load_midB rfl _ _ rfl ⟨gb, 0, none⟩ rfl [.int .i64 (wrap64 u1), .int .i64 (wrap64 u2), .int .u64 u3] _ (Bk.cells_row B6.out.row) Tryz.underlying95 rfl szN3 ?_)
        | ((with_reducible refine gate_builtin (b := .append) (xs := #[.tmp 50, .tmp 52]) rfl ?_); at_builtin; refine Kd.R_append kN (w0 := w) w.heap.size rfl (.tmp 50) (.tmp 52) 91 95 (.agg #[.int .i64 0, .int .i64 0, .int .u64 0]) 24 rfl Tryz.underlying91 infoN3 rfl (by decide) (by omega) u8 ek (⟨wrap64 u1, wrap64 u2, u3⟩ : EN) [.int .i64 (wrap64 u1), .int .i64 (wrap64 u2), .int .u64 u3] (fun _ => True) (fun _ => False) rfl rfl (kN_mkM _ _ _ _) (fun _ hk => hk.elim) (fun _ _ => trivial) B6.out.t.ro B6.out.t.bl B6.out.t.bl.size hl8.out ?_; intro v2 w12 hR hb12 hg12 hat12; have hS2 := Aside0.mk (B6.out.t.push hR hb12 (Grew.of hg12 hat12)); clear hR hb12 hg12 hat12))
      go_roundw
      case rel => exact ⟨k + 1, by simp, by omega, ⟨by rw [hen.out, show 9 + 7 * (k + 1) = p + 1 + 2 + 4 by have := hp.out; omega]; exact hS2.out⟩⟩
      case measure => show m - ((k : Int) + 1).toNat < m - (k : Int).toNat; omega
    · obtain rfl : m = k := by omega
      obtain ⟨L, hL⟩ : ∃ L, 9 + 7 * m = L := ⟨_, rfl⟩
      have hLi : 9 + 7 * (m : Int) = (L : Int) := by omega
      have hLn : L + 4 ≤ n := by omega
      obtain ⟨s2, hs2⟩ : ∃ s, leNum ((b.drop L).take 4) = s := ⟨_, rfl⟩
      obtain ⟨k2, hk2⟩ : ∃ k, crc (b.take L) = k := ⟨_, rfl⟩
      rw [hL, hs2, hk2] at htab
      rw [hL] at hS
      have hinL : inB (b.take L) := fun x hx => hby.out x (List.mem_of_mem_take hx)
      obtain ⟨q0, q1⟩ := crc_range (b.take L) hinL
      rw [hk2] at q0 q1
      have hwk2 : IntKind.u64.wrap k2 = k2 := by rw [IntKind.wrap_u64]; omega
      have ko2 : ∀ W, Below w.heap.size w W → _ := fun W hW => Of_calls A L c (b.take L) W (HT.out.step hW) (C_take0 (Kd.C_below HE.out hW) L (by omega)) hinL
      have z5 : (L : Int) ≤ (c : Int) := by omega
      have z6 : 0 ≤ (L : Int) := by omega
      replace hL := Aside0.mk hL; replace hs2 := Aside0.mk hs2; replace hk2 := Aside0.mk hk2; replace hinL := Aside0.mk hinL; replace ko2 := Aside0.mk ko2
      go_wp2_with fail
      simp only [hLi]
      have hSd := Aside0.mk (hS.out.keep ((KeepF.refl (fun _ => False) wr).drew) id (fun _ => id) (fun _ _ => id) (fun _ h => h.elim))
      obtain ⟨d2, hd2⟩ : ∃ d, (s2 != k2) = d := ⟨_, rfl⟩
      (first | (go_region_held3 (fun w' => True)
          (first | (with_reducible exact trivial) | go_keep)
          (first
            | (go_at_call 63; (have kt := take_calls r g (b.drop L) 4 4 wr.drew hSd.out.rd (inB_drop hby.out L) (by decide) (by decide) (by rw [List.length_drop, hln.out]; omega)); rw [hs2.out] at kt; (with_reducible refine kt.mono ?_); clear kt; rintro e w5 ⟨rfl, q1, kf⟩; (have hS5 := Aside0.mk (hSd.out.take q1 kf)); clear q1 kf)
            | (go_at_call 38; (have kc := ko2.out w5 hS5.out.bl); rw [hk2.out] at kc; (with_reducible refine kc.mono ?_); clear kc; rintro e w' ⟨rfl, hw'⟩; subst hw'))) | fail)
      cases d2 with
      | true =>
        have ht : Aside0 (tableOf b = (4, [], [])) := ⟨by rw [htab.out, if_pos (by simpa using hd2)]⟩
        go_wp2_with fail
        go_ret3
        exact TabPost.odd ht.out hS5.out.bl (by decide)
      | false =>
        have ht : Aside0 (tableOf b = (0, entriesOf (b.drop 9) m, b.drop (L + 4))) := ⟨by rw [htab.out, if_neg (by simpa using hd2), show 13 + 7 * m = L + 4 by have := hL.out; omega]⟩
        go_wp2_with fail
        go_ret3
        obtain ⟨A1, cc, hv, hcc, hC⟩ := Kd.R_reads hS5.out.ro
        have hnr := hS5.out.nr
        have hbase : ∀ q, u8.ownBlock = some q → w.heap.size ≤ q := fun q hq => own_base hS5.out.ro.2.choose_spec.1 q hq
        refine ⟨_, _, 0, _, _, rfl, ht.out.symm, hS5.out.bl, fun _ => ⟨A1, cc, r, g, hv, hC, (fun ad e e2 => hnr ?_), rfl, hS5.out.rd, hr, (fun e => hS5.out.rd.ne e.symm), (fun ad e => hbase ad.block ?_)⟩⟩
        · rw [hv, e, ← e2]; rfl
        · rw [hv, e]; rfl
end Go.Proofs.YtpnjhffnlafabaaGreatDoor.Im
namespace Go.Proofs.YtpnjhffnlafabaaGreatDoor.Im
set_option linter.unusedVariables false
set_option linter.unusedSimpArgs false
open Go.Proofs Go.RowKit Go.Proofs.Bk Go.Proofs.Bm Go.Proofs.Sc Go.Proofs.Kf Go.Proofs.YtpnjhffnlafabaaGreatDoorW.PrintWords Go.Proofs.YtpnjhffnlafabaaGreatDoor.Sl Go.Proofs.YtpnjhffnlafabaaGreatDoor.Sn Go.Proofs.YtpnjhffnlafabaaGreatDoor.PImageBack
theorem u8_ofNat_inj {a b : Int} (ha : 0 ≤ a ∧ a ≤ 255) (hb : 0 ≤ b ∧ b ≤ 255) (h : UInt8.ofNat a.toNat = UInt8.ofNat b.toNat) : a = b := by
  have := congrArg UInt8.toNat h
  simp only [UInt8.toNat_ofNat'] at this
  rw [Nat.mod_eq_of_lt (by omega), Nat.mod_eq_of_lt (by omega)] at this
  omega
theorem bytesOf_inj {x y : List Int} (hx : ∀ a ∈ x, 0 ≤ a ∧ a ≤ 255) (hy : ∀ a ∈ y, 0 ≤ a ∧ a ≤ 255) (h : Lib.bytesOf x = Lib.bytesOf y) : x = y := by
  induction x generalizing y with
  | nil => cases y with | nil => rfl | cons b y => simp [Lib.bytesOf] at h
  | cons a x ih =>
    cases y with
    | nil => simp [Lib.bytesOf] at h
    | cons b y =>
      simp only [Lib.bytesOf, List.map_cons, List.cons.injEq] at h
      have ha := hx a (by simp)
      have hb := hy b (by simp)
      rw [u8_ofNat_inj ha hb h.1, ih (fun c hc => hx c (by simp [hc])) (fun c hc => hy c (by simp [hc])) h.2]
theorem bytesIn_of {w : World} {A : Option Addr} {n : Nat} {xs : List Int} (h : (Kd.int .u8).C w A n xs) : Lib.BytesIn w A n xs := by
  intro hn
  obtain ⟨ad, rfl, _⟩ := h.2.2 hn
  refine Lib.BytesIn.of_cells (a := ad) (fun i hi => ?_) hn
  obtain ⟨ad', e, hx⟩ := Kd.at_int h (i : Int) (by omega) (by omega)
  obtain rfl := Option.some.inj e
  rw [Int.toNat_natCast] at hx
  rw [hx]; unfold rd; rw [Int.toNat_natCast]
theorem HasPrefix_calls (A1 A2 : Option Addr) (n c m d : Nat) (xs ys : List Int) (w : World) (h1 : U8.C w A1 n xs) (h2 : U8.C w A2 m ys) (hc : n ≤ c) (hx : inB xs) (hy : inB ys) :
    Calls Tryz.prog 57 #[.slice A1 n c, .slice A2 m d] w (PurePost (.bool (decide (xs.take m = ys))) w) := by
  refine (Tryz.bytes_HasPrefix_all A1 A2 n c m d xs ys w h1.1 h2.1 hc (bytesIn_of h1) (bytesIn_of h2)).mono ?_
  rintro e w' ⟨rfl, rfl⟩
  refine ⟨?_, rfl⟩
  have hm : ys.length = m := h2.1
  have hk : Lib.hasPrefix (Lib.bytesOf xs) (Lib.bytesOf ys) = decide (xs.take m = ys) := by
    unfold Lib.hasPrefix
    rw [Bool.eq_iff_iff, List.isPrefixOf_iff_prefix, List.prefix_iff_eq_take, decide_eq_true_iff]
    have hl : (Lib.bytesOf ys).length = m := by simp [Lib.bytesOf, hm]
    have ht : (Lib.bytesOf xs).take m = Lib.bytesOf (xs.take m) := by simp [Lib.bytesOf, List.map_take]
    rw [hl, ht]
    exact ⟨fun h => (bytesOf_inj hy (fun x hx' => hx x (List.mem_of_mem_take hx')) h).symm, fun h => by rw [h]⟩
  rw [hk]
/-! ### Unpack, plain -/
def partsL : List EN → List Int → Int → List (List Int) × List Int × Int
  | [], xs, f => ([], xs, f)
  | e :: es, xs, f => ((Sl.part xs f e.f1).1 :: (partsL es (Sl.part xs f e.f1).2.1 (Sl.part xs f e.f1).2.2).1, (partsL es (Sl.part xs f e.f1).2.1 (Sl.part xs f e.f1).2.2).2)
theorem partsL_snoc : ∀ (es : List EN) (e : EN) (xs : List Int) (f : Int), partsL (es ++ [e]) xs f =
    ((partsL es xs f).1 ++ [(Sl.part (partsL es xs f).2.1 (partsL es xs f).2.2 e.f1).1], (Sl.part (partsL es xs f).2.1 (partsL es xs f).2.2 e.f1).2)
  | [], e, xs, f => rfl
  | x :: es, e, xs, f => by
    rw [List.cons_append, partsL, partsL_snoc es e]
    rfl
theorem partsL_length : ∀ (es : List EN) (xs : List Int) (f : Int), (partsL es xs f).1.length = es.length
  | [], _, _ => rfl
  | e :: es, xs, f => by rw [partsL, List.length_cons, partsL_length es, List.length_cons]
def sumsOk (es : List EN) (bs : List (List Int)) : Bool := (es.zip bs).all fun p => decide (crc p.2 = p.1.f2)
def secsZ (es : List EN) (bs : List (List Int)) : List SE := (es.zip bs).map fun p => ⟨p.1.f0, p.2⟩
def unpackOf (b : List Int) : Int × List SE :=
  if b.length < 9 then (2, []) else if b.take 4 ≠ pmagic then (20, []) else
  if (tableOf b).1 ≠ 0 then ((tableOf b).1, []) else
  if risingL 0 ((tableOf b).2.1.map (·.f0)) = false then (21, []) else
  if endOf (partsL (tableOf b).2.1 (tableOf b).2.2 0).2.1 (partsL (tableOf b).2.1 (tableOf b).2.2 0).2.2 ≠ 0 then (endOf (partsL (tableOf b).2.1 (tableOf b).2.2 0).2.1 (partsL (tableOf b).2.1 (tableOf b).2.2 0).2.2, []) else
  if sumsOk (tableOf b).2.1 (partsL (tableOf b).2.1 (tableOf b).2.2 0).1 = false then (4, []) else (0, secsZ (tableOf b).2.1 (partsL (tableOf b).2.1 (tableOf b).2.2 0).1)
end Go.Proofs.YtpnjhffnlafabaaGreatDoor.Im
namespace Go.Proofs.YtpnjhffnlafabaaGreatDoor.Im
set_option linter.unusedVariables false
set_option linter.unusedSimpArgs false
open Go.Proofs Go.RowKit Go.Proofs.Bk Go.Proofs.Bm Go.Proofs.Sc Go.Proofs.Kf Go.Proofs.YtpnjhffnlafabaaGreatDoorW.PrintWords Go.Proofs.YtpnjhffnlafabaaGreatDoor.Sl Go.Proofs.YtpnjhffnlafabaaGreatDoor.Sn Go.Proofs.YtpnjhffnlafabaaGreatDoor.PImageBack
theorem part_le (xs : List Int) (f m : Int) : (Sl.part xs f m).1.length ≤ xs.length ∧ (Sl.part xs f m).2.1.length ≤ xs.length := by
  unfold Sl.part
  repeat' split
  all_goals simp
  all_goals (try rw [List.length_take])
  all_goals omega
theorem partsL_le : ∀ (es : List EN) (xs : List Int) (f : Int), (partsL es xs f).2.1.length ≤ xs.length
  | [], _, _ => Nat.le_refl _
  | e :: es, xs, f => by
    have h1 := part_le xs f e.f1
    have h2 := partsL_le es (Sl.part xs f e.f1).2.1 (Sl.part xs f e.f1).2.2
    rw [partsL]
    exact Nat.le_trans h2 h1.2
theorem set_mid (a : List (List Int)) (l : List Int) {k N : Nat} (ha : a.length = k) (hk : k < N) : (a ++ List.replicate (N - k) []).set k l = (a ++ [l]) ++ List.replicate (N - (k + 1)) [] := by
  rw [List.set_append_right _ _ (by omega), ha, Nat.sub_self]
  obtain ⟨m, hm⟩ : ∃ m, N - k = m + 1 := ⟨N - k - 1, by omega⟩
  rw [hm, show N - (k + 1) = m by omega, List.replicate_succ]
  simp
theorem sumsOk_snoc {es : List EN} {bs : List (List Int)} {k : Nat} {x : EN} {l : List Int} (hx : es[k]? = some x) (hl : bs[k]? = some l) : sumsOk (es.take (k + 1)) (bs.take (k + 1)) = (sumsOk (es.take k) (bs.take k) && decide (crc l = x.f2)) := by
  have h1 : k < es.length := (List.getElem?_eq_some_iff.1 hx).1
  have h2 : k < bs.length := (List.getElem?_eq_some_iff.1 hl).1
  unfold sumsOk
  rw [List.take_add_one, List.take_add_one, hx, hl, List.zip_append (by simp; omega)]
  simp
theorem sumsOk_false {es : List EN} {bs : List (List Int)} {k : Nat} (h : sumsOk (es.take k) (bs.take k) = false) : sumsOk es bs = false := by
  unfold sumsOk at h ⊢
  rw [List.zip_eq_zipWith, ← List.take_zipWith, ← List.zip_eq_zipWith] at h
  rw [List.all_eq_false] at h ⊢
  obtain ⟨p, hp, hq⟩ := h
  exact ⟨p, List.mem_of_mem_take hp, hq⟩
theorem N_keep {w w' : World} {A : Option Addr} {n r : Nat} {es : List EN} (h : kN.C w A n es) (hA : ∀ ad, A = some ad → ad.block ≠ r) (hk : KeepF (fun i => i = r ∨ w.heap.size ≤ i) w w') : kN.C w' A n es := by
  refine ⟨h.1, h.2.1, fun hn => ?_⟩
  obtain ⟨ad, e, hc⟩ := h.2.2 hn
  refine ⟨ad, e, fun j p hj => ?_⟩
  obtain ⟨c', p1, p2, p3⟩ := hc j p hj
  refine ⟨c', p1, ?_, fun i u hu => ?_⟩
  · obtain rfl := kN_open p2
    exact kN_mk _ _
  · have h4 := p3 i u hu
    have hlt := World.block_lt_of_cell? w _ h4
    refine (World.cell?_of_block (w := w) (w' := w') (hk.block _ hlt (fun hF => ?_))).trans h4
    rcases hF with e2 | e2
    · rw [add_blk] at e2; exact hA ad e e2
    · omega
structure OW (W : World) (q r : Nat) (es : List EN) (bs : List (List Int)) : Prop where
  row : ∃ cur, W.heap[q]? = some (.cells cur 36 (0, 0))
  kind : ∀ j x, es[j]? = some x → W.cell? ⟨q, j * 2, none⟩ = some (.int .i64 x.f0)
  body : ∀ j l, bs[j]? = some l → ∃ A c, W.cell? ⟨q, j * 2 + 1, none⟩ = some (.slice A l.length c) ∧ l.length ≤ c ∧ U8.C W A l.length l ∧ ∀ ad, A = some ad → 0 < l.length → ad.block ≠ q ∧ ad.block ≠ r
theorem OW.keep {W W' : World} {q r : Nat} {es : List EN} {bs : List (List Int)} {F : Nat → Prop} (h : OW W q r es bs) (hk : KeepF F W W') (hq : ¬ F q) (hb : ∀ i, i < W.heap.size → F i → i = r) : OW W' q r es bs := by
  obtain ⟨⟨cur, hr⟩, h2, h3⟩ := h
  have hblk := hk.block q (lt_row hr) hq
  refine ⟨⟨cur, hblk.trans hr⟩, fun j x hx => (World.cell?_of_block (w := W) (w' := W') hblk).trans (h2 j x hx), fun j l hl => ?_⟩
  obtain ⟨A, c, q1, q2, q3, q4⟩ := h3 j l hl
  refine ⟨A, c, (World.cell?_of_block (w := W) (w' := W') hblk).trans q1, q2, ?_, q4⟩
  refine ⟨q3.1, q3.2.1, fun hn => ?_⟩
  obtain ⟨ad, e, hc⟩ := q3.2.2 hn
  refine ⟨ad, e, fun j p hj => ?_⟩
  obtain ⟨c', p1, p2, p3⟩ := hc j p hj
  refine ⟨c', p1, p2, fun i u hu => ?_⟩
  have h4 := p3 i u hu
  have hlt := World.block_lt_of_cell? W _ h4
  refine (World.cell?_of_block (w := W) (w' := W') (hk.block _ hlt (fun hF => ?_))).trans h4
  have h5 := hb _ hlt hF
  rw [add_blk] at h5
  exact (q4 ad e hn).2 h5
theorem OW.below {W W' : World} {q r : Nat} {es : List EN} {bs : List (List Int)} (h : OW W q r es bs) (hb : Below W.heap.size W W') : OW W' q r es bs :=
  h.keep (F := fun _ => False) (KeepF.of_below hb) id (fun _ _ h => h.elim)
theorem OW.frozen {W : World} {q r : Nat} {es : List EN} {bs : List (List Int)} (h : OW W q r es bs) (j : Nat) : W.frozen? ⟨q, j, none⟩ = false := by
  obtain ⟨⟨cur, hr⟩, -, -⟩ := h
  exact frozen_row hr j
theorem OW.set {W : World} {q r : Nat} {es : List EN} {bs : List (List Int)} {k : Nat} {l0 l : List Int} {A : Option Addr} {c : Nat} (h : OW W q r es bs) (hk : bs[k]? = some l0) (hc : l.length ≤ c) (hC : U8.C W A l.length l) (hA : ∀ ad, A = some ad → 0 < l.length → ad.block ≠ q ∧ ad.block ≠ r) :
    OW (W.setCell ⟨q, k * 2 + 1, none⟩ (.slice A l.length c)) q r es (bs.set k l) := by
  obtain ⟨⟨cur, hr⟩, h2, h3⟩ := h
  have hF := KeepF.setCell W ⟨q, k * 2 + 1, none⟩ (.slice A l.length c)
  obtain ⟨A0, c0, q1, -⟩ := h3 k l0 hk
  have hrow := setCell_row hr (k * 2 + 1) (.slice A l.length c)
  have hci := cell_row hr
  have hcell : ∀ j, (W.setCell ⟨q, k * 2 + 1, none⟩ (.slice A l.length c)).cell? ⟨q, j, none⟩ = if j = k * 2 + 1 then some (.slice A l.length c) else W.cell? ⟨q, j, none⟩ := by
    intro j
    rw [cell_row hrow, Array.getElem?_setIfInBounds, hci]
    have hlt : k * 2 + 1 < cur.size := by
      rw [hci] at q1
      exact (Array.getElem?_eq_some_iff.1 q1).1
    by_cases hj : k * 2 + 1 = j
    · subst hj; rw [if_pos rfl, if_pos hlt, if_pos rfl]
    · rw [if_neg hj, if_neg (fun e => hj e.symm)]
  have hCk : ∀ {B : Option Addr} {m : List Int}, U8.C W B m.length m → (∀ ad, B = some ad → 0 < m.length → ad.block ≠ q ∧ ad.block ≠ r) → U8.C (W.setCell ⟨q, k * 2 + 1, none⟩ (.slice A l.length c)) B m.length m :=
    fun hB hBa => Kd_C_keep hB (fun ad e hp e2 => (hBa ad e hp).1 e2) hF
  refine ⟨⟨_, hrow⟩, fun j x hx => ?_, fun j m hm => ?_⟩
  · rw [hcell, if_neg (by omega)]; exact h2 j x hx
  · rw [List.getElem?_set] at hm
    by_cases hj : k = j
    · subst hj
      rw [if_pos rfl] at hm
      split at hm
      · injection hm with hm; subst hm
        exact ⟨A, c, by rw [hcell, if_pos rfl], hc, hCk hC hA, hA⟩
      · cases hm
    · rw [if_neg hj] at hm
      obtain ⟨B, d, p1, p2, p3, p4⟩ := h3 j m hm
      exact ⟨B, d, by rw [hcell, if_neg (by omega)]; exact p1, p2, hCk p3 p4, p4⟩
abbrev Secs (w : World) (base : Nat) (v : Value) (ss : List SE) : Prop := kE.R 36 w base (fun _ => True) v ss
theorem infoE2 : (Tryz.prog.info? 36).map (fun i => (i.zero, i.size, i.bytes)) = some (some (.agg #[.int .i64 0, .slice none 0 0]), 2, 32) := by kernel_rfl
def kinds0 (es : List EN) : List SE := es.map fun x => ⟨x.f0, []⟩
theorem kinds0_take {es : List EN} {k : Nat} {x : EN} (h : es[k]? = some x) : kinds0 (es.take (k + 1)) = kinds0 (es.take k) ++ [⟨x.f0, []⟩] := by
  unfold kinds0; rw [List.take_add_one, h]; simp
theorem OW.begin {W : World} {base N c7 r : Nat} {A7 : Option Addr} {es : List EN} (h : Secs W base (.slice A7 N c7) (kinds0 es)) (hl : es.length = N) (hp : 0 < N) :
    ∃ q, A7 = some ⟨q, 0, none⟩ ∧ base ≤ q ∧ q < W.heap.size ∧ OW W q r es (List.replicate N []) := by
  have hkl : (kinds0 es).length = N := by unfold kinds0; rw [List.length_map, hl]
  obtain ⟨A, c, e1, -, hC⟩ := Kd.R_reads h
  injection e1 with e1 e2 e3
  subst e1
  rw [hkl] at hC
  obtain ⟨_, inner, ⟨hlen, hown⟩, hreps⟩ := h
  rcases hown with ⟨e, hz⟩ | ⟨q, cap, cur, e, hb, hg, -⟩
  · rw [hkl] at hz; omega
  · injection e with e e2 e3
    subst e
    refine ⟨q, rfl, hb, lt_row hg, ⟨cur, hg⟩, fun j x hx => ?_, fun j l hj => ?_⟩
    · have hj : j < N := by rw [← hl]; exact (List.getElem?_eq_some_iff.1 hx).1
      obtain ⟨b, o, y, A1, c1, q1, -, hy, t0, t1, -, -⟩ := E_one hC hj
      injection q1 with q1
      injection q1 with q1 q2
      subst q1; subst q2
      have : y = ⟨x.f0, []⟩ := by
        unfold kinds0 at hy; rw [List.getElem?_map, hx] at hy; simpa using hy.symm
      subst this
      rw [Nat.zero_add] at t0
      exact t0
    · have hj' : j < N ∧ l = [] := by
        rw [List.getElem?_replicate] at hj
        split at hj
        · exact ⟨by assumption, by injection hj with hj; exact hj.symm⟩
        · cases hj
      obtain ⟨hjN, rfl⟩ := hj'
      obtain ⟨b, o, y, A1, c1, q1, -, hy, t0, t1, t2, t3⟩ := E_one hC hjN
      injection q1 with q1
      injection q1 with q1 q2
      subst q1; subst q2
      have hx : ∃ x, es[j]? = some x := ⟨_, List.getElem?_eq_getElem (by omega)⟩
      obtain ⟨x, hx⟩ := hx
      have : y = ⟨x.f0, []⟩ := by
        unfold kinds0 at hy; rw [List.getElem?_map, hx] at hy; simpa using hy.symm
      subst this
      rw [Nat.zero_add] at t1
      exact ⟨A1, c1, t1, t2, t3, fun ad _ h0 => by simp at h0⟩
end Go.Proofs.YtpnjhffnlafabaaGreatDoor.Im
