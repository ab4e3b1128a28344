/- steps of package scene: how many steps each group is from the top. whole and Tall of package scene. Tall of package scene. -/
import Derived.Test.YtpnjhffnlafabaaGreatDoorQScG
import Derived.Test.YtpnjhffnlafabaaGreatDoorQSc1
namespace Go.Proofs.YtpnjhffnlafabaaGreatDoor.Sn
set_option linter.unusedVariables false
set_option linter.unusedSimpArgs false
open Go.RowKit Go.Sort Go.Shelf Go.Proofs.Bk Go.Proofs.Bm Go.Proofs.Op Go.Proofs.Sc Go.Proofs.Kf Go.Proofs.YtpnjhffnlafabaaGreatDoorW.PrintWords Go.Proofs.YtpnjhffnlafabaaGreatDoor.PImageBack
def upS (xs : List SG) : List (Int × Int) := xs.foldl (fun l x => aset l x.f0 x.f1) []
theorem upS_eq (xs : List SG) : upS xs = upOf (xs.map gOf) := by unfold upS upOf; rw [List.foldl_map]; rfl
theorem zero_int (w : World) : (zeroValue 3).run Tryz.prog w = .ok (.int .i64 0) w := Tryz.zeroValue3 w
theorem look_int {w : World} {mb : Nat} {l : List (Int × Int)} (h : IMap .i64 (Value.int .i64) w mb l) (k : Int) :
    (Instr.lookup 113 (.map (some mb)) (.int .i64 k) false).run Tryz.prog w = .ok (.int .i64 ((aget l k).getD 0)) w := by
  have := run_lookup_imap (P := Tryz.prog) Tryz.underlying113 Tryz.underlying3 (zero_int w) h k
  rw [this]
  cases aget l k <;> rfl
theorem look_up {w : World} {mb : Nat} {xs : List SG} (h : IMap .i64 (Value.int .i64) w mb (upS xs)) (k : Int) :
    (Instr.lookup 113 (.map (some mb)) (.int .i64 k) false).run Tryz.prog w = .ok (.int .i64 (up (xs.map gOf) k)) w := by
  rw [look_int h, upS_eq]; rfl
def Way (f : Int → Int) (lim : Nat) (id : Int) (j : Nat) (a : Int) : Prop := j ≤ lim ∧ climb f lim id = (j + (climb f (lim - j) a).1, (climb f (lim - j) a).2)
theorem Way.start (f : Int → Int) (lim : Nat) (id : Int) : Way f lim id 0 id := ⟨Nat.zero_le _, by simp⟩
theorem Way.step {f : Int → Int} {lim : Nat} {id : Int} {j : Nat} {a : Int} (h : Way f lim id j a) (hf : f a ≠ 0) (hj : j < lim) : Way f lim id (j + 1) (f a) := by
  refine ⟨hj, ?_⟩
  rw [h.2]
  obtain ⟨r, hr⟩ : ∃ r, lim - j = r + 1 := ⟨lim - j - 1, by omega⟩
  have hr2 : lim - (j + 1) = r := by omega
  rw [hr, hr2, climb, if_neg hf]
  simp only [Prod.mk.injEq, and_true]; omega
theorem Way.stop {f : Int → Int} {lim : Nat} {id : Int} {j : Nat} {a : Int} (h : Way f lim id j a) (hs : f a = 0 ∨ j = lim) : climb f lim id = (j, a) := by
  rw [h.2]
  have e : climb f (lim - j) a = (0, a) := by
    cases hr : lim - j with
    | zero => rfl
    | succ r =>
      rcases hs with hs | hs
      · rw [climb, if_pos hs]
      · omega
  rw [e]; simp
def stepsL (gs : List G) (xs : List SG) : List (Int × Int) := xs.foldl (fun l x => aset l x.f0 (stepsOf gs x.f0)) []
def StepsPost (gs : List G) (xs : List SG) (w : World) (e : Ending) (w' : World) : Prop := ∃ mb, e = .returned (.map (some mb)) ∧ IMap .i64 (Value.int .i64) w' mb (stepsL gs xs) ∧ w.heap.size ≤ mb ∧ Below w.heap.size w w'
set_option maxHeartbeats 8000000 in
set_option maxRecDepth 100000 in
theorem steps_calls (A : Option Addr) (n c : Nat) (xs : List SG) (B : Option Addr) (m d : Nat) (w : World) (hG : kG.C w A n xs) (hn : n ≤ 4096) :
    Calls Tryz.prog 77 #[.agg #[.slice A n c, .slice B m d]] w (StepsPost (xs.map gOf) xs w) := by
  have hln := hG.1
  have HG := Aside0.mk hG
  clear hG
  replace hln := Aside0.mk hln
  go_enter Tryz.func77, Tryz.ntmps77
  go_wp2_with (first
    | (((with_reducible refine gate_dst (N := 1) rfl ?_); refine box_event ?hg (N := 1) ?hd (cs := #[.slice A n c, .slice B m d]) (t := 25) ?hr ?_; (case hd => rfl); (case hg => rfl); (case hr => first | (go_simp; done) | (go_simp; rfl)); intro b0 hb0 w1 kb0 bb0; replace hb0 := Aside0.mk hb0; replace kb0 := Aside0.mk kb0; replace bb0 := Aside0.mk bb0); have c0 : w1.cell? ⟨b0, 0, none⟩ = some (.slice A n c) := (Kf.cell_row kb0.out 0).trans rfl)
    | (((with_reducible refine gate_dst (N := 11) rfl ?_); refine mkmap_event ?hg (N := 11) ?hd 113 ?ho ?_; (case hd => rfl); (case hg => rfl); (case ho => rfl); intro mu hmu w2 kmu bmu; replace hmu := Aside0.mk hmu; replace kmu := Aside0.mk kmu; replace bmu := Aside0.mk bmu); have c0 := pw_cell_below bmu.out c0))
  have hb0s := lt_row kb0.out
  have hmu0 : b0 < mu := by have := hmu.out; omega
  have hwm : w.heap.size ≤ mu := by have := hmu.out; have := bb0.out.size; omega
  have hB2 := below_step bb0.out bmu.out
  have hI0 : IMap .i64 (Value.int .i64) w2 mu [] := Kf.IMap.new kmu.out
  have q0 : w2.cell? ⟨b0, 0, none⟩ = some (.slice A n c) := by assumption
  replace hb0s := Aside0.mk hb0s; replace hmu0 := Aside0.mk hmu0; replace hwm := Aside0.mk hwm; replace hB2 := Aside0.mk hB2; replace hI0 := Aside0.mk hI0; replace q0 := Aside0.mk q0
  go_loopw [15] (fun t15 wr => ∃ (k : Nat), t15 = .int .i64 k ∧ k ≤ n ∧ Aside0 (IMap .i64 (Value.int .i64) wr mu ((xs.take k).foldl (fun l x => aset l x.f0 x.f1) [])) ∧ Aside0 (KeepF (fun i => i = mu) w2 wr)) (fun t15 _ => n - (intOf t15).toNat)
  case atStart => exact ⟨0, rfl, Nat.zero_le _, hI0, ⟨KeepF.refl _ _⟩⟩
  case round =>
    obtain ⟨k, rfl, hk, hI, hK⟩ := hrel
    have c0 := keepF_cell hK.out q0.out (show ¬ b0 = mu by have := hmu0.out; omega)
    have hBr := hB2.out.trans (hK.out.to_below (base := w.heap.size) hB2.out.size (fun i hi => by have := hwm.out; omega))
    replace hBr := Aside0.mk hBr
    by_cases hlt : k < n
    · have p1 : (0 : Int) ≤ (k : Int) := by omega
      have q1' : (k : Int) < (n : Int) := by omega
      obtain ⟨ad, x, rfl, hx, hcs⟩ := G_cells (Kd.C_below HG.out hBr.out) hlt
      have htk : xs.take (k + 1) = xs.take k ++ [x] := by rw [List.take_add_one, hx]; rfl
      have e1 := one_G x
      change ∀ v ∈ ([.int .i64 x.f0, .int .i64 x.f1, .int .i64 x.f2, .int .i64 x.f3.f0, .int .i64 x.f3.f1, .int .i64 x.f3.f2] : List Value), v.oneCell' = true at e1
      change ∀ i u, ([.int .i64 x.f0, .int .i64 x.f1, .int .i64 x.f2, .int .i64 x.f3.f0, .int .i64 x.f3.f1, .int .i64 x.f3.f2] : List Value)[i]? = some u → wr.cell? ((ad.add (k * 6)).add i) = some u at hcs
      have hmr := hI.out.lt
      replace hx := Aside0.mk hx; replace hcs := Aside0.mk hcs; replace htk := Aside0.mk htk; replace e1 := Aside0.mk e1; replace hmr := Aside0.mk hmr
      go_wp2_with (first
        | ((with_reducible refine gate_op (.load 50 (.tmp 17)) rfl ?_); refine wpList_load_midB rfl _ _ rfl (ad.add (k * 6)) rfl ([.int .i64 x.f0, .int .i64 x.f1, .int .i64 x.f2, .int .i64 x.f3.f0, .int .i64 x.f3.f1, .int .i64 x.f3.f2] : List Value) _ hcs.out Tryz.underlying50 rfl info_G ?_)
        | (((with_reducible refine gate_dst (N := 5) rfl ?_); refine box_event ?hg (N := 5) ?hd (cs := zG.toArray) (t := 50) ?hr ?_; (case hd => rfl); (case hg => rfl); (case hr => first | (go_simp; done) | (go_simp; rfl)); intro gb hgb w7 kgb bgb; replace hgb := Aside0.mk hgb; replace kgb := Aside0.mk kgb; replace bgb := Aside0.mk bgb))
        | (((with_reducible refine gate_op (.store 50 (.tmp 5) (.tmp 18)) rfl ?_); refine wpList_store_midB rfl _ _ _ rfl gb 0 ([.int .i64 x.f0, .int .i64 x.f1, .int .i64 x.f2, .int .i64 x.f3.f0, .int .i64 x.f3.f1, .int .i64 x.f3.f2] : List Value) rfl rfl 50 zG kgb.out info_G (Nat.le_refl _) e1.out ?_; obtain ⟨kk, bb⟩ := boxed (cs := zG) (cs2 := ([.int .i64 x.f0, .int .i64 x.f1, .int .i64 x.f2, .int .i64 x.f3.f0, .int .i64 x.f3.f1, .int .i64 x.f3.f2] : List Value)) hgb.out kgb.out bgb.out rfl; revert kk bb; generalize World.setRow _ gb (splice zG 0 ([.int .i64 x.f0, .int .i64 x.f1, .int .i64 x.f2, .int .i64 x.f3.f0, .int .i64 x.f3.f1, .int .i64 x.f3.f2] : List Value)).toArray = w8; clear kgb bgb; intro kgb bgb; replace kgb := Aside0.mk kgb; replace bgb := Aside0.mk bgb); replace c0 := pw_cell_below bgb.out c0; have g0 : w8.cell? ⟨gb, 0, none⟩ = some (.int .i64 x.f0) := (Kf.cell_row kgb.out 0).trans rfl; have g1 : w8.cell? ⟨gb, 1, none⟩ = some (.int .i64 x.f1) := (Kf.cell_row kgb.out 1).trans rfl; have hI8 := Aside0.mk (hI.out.of_block (bgb.out.block _ hmr.out)))
        | ((with_reducible refine gate_op (.mapUpdate 113 (.tmp 19) (.tmp 21) (.tmp 23)) rfl ?_); refine wpList_mapUpdate_imap (enc := Value.int .i64) rfl _ _ _ 113 rfl Tryz.underlying113 Tryz.underlying3 mu _ x.f0 x.f1 rfl rfl rfl hI8.out ?_; intro ob hM9; replace hM9 := Aside0.mk hM9))
      go_roundw
      case measure => show n - ((k : Int) + 1).toNat < n - (k : Int).toNat; omega
      case rel => exact ⟨k + 1, by simp, by omega, ⟨by rw [htk.out, List.foldl_append]; exact hM9.out⟩, ⟨(hK.out.trans (KeepF.of_below (F := fun i => i = mu) bgb.out) (fun _ _ h => h)).trans (KeepF.bset w8 mu ob) (fun _ _ h => h)⟩⟩
    · obtain rfl : k = n := by omega
      have hall : xs.take k = xs := List.take_of_length_le (by rw [hln.out]; exact Nat.le_refl _)
      rw [hall] at hI
      have hI : Aside0 (IMap .i64 (Value.int .i64) wr mu (upS xs)) := hI
      clear hlt
      replace hall := Aside0.mk hall
      go_wp2_with (first
        | (((with_reducible refine gate_dst (N := 25) rfl ?_); refine mkmap_event ?hg (N := 25) ?hd 113 ?ho ?_; (case hd => rfl); (case hg => rfl); (case ho => rfl); intro mo hmo w3 kmo bmo; replace hmo := Aside0.mk hmo; replace kmo := Aside0.mk kmo; replace bmo := Aside0.mk bmo); replace c0 := pw_cell_below bmo.out c0))
      have hmulr := hI.out.lt
      have hmm : mu < mo := by have := hmo.out; omega
      have hwo : w.heap.size ≤ mo := by have := hwm.out; omega
      have hI3 := hI.out.of_block (bmo.out.block _ hmulr)
      have hB3 := below_step hBr.out bmo.out
      have hO0 : IMap .i64 (Value.int .i64) w3 mo [] := Kf.IMap.new kmo.out
      have h0o : b0 < mo := by have := hmu0.out; omega
      obtain ⟨gs, hgs⟩ : ∃ gs, xs.map gOf = gs := ⟨_, rfl⟩
      rw [hgs]
      replace hmm := Aside0.mk hmm; replace hwo := Aside0.mk hwo; replace hI3 := Aside0.mk hI3; replace hB3 := Aside0.mk hB3; replace hO0 := Aside0.mk hO0; replace h0o := Aside0.mk h0o; replace hgs := Aside0.mk hgs
      have q3 := c0
      clear c0
      go_loopw [29] (fun t29 wr => ∃ (k' : Nat), t29 = .int .i64 k' ∧ k' ≤ k ∧ Aside0 (IMap .i64 (Value.int .i64) wr mo ((xs.take k').foldl (fun l x => aset l x.f0 (stepsOf gs x.f0)) [])) ∧ Aside0 (KeepF (fun i => i = mo) w3 wr)) (fun t29 _ => k - (intOf t29).toNat)
      case atStart => exact ⟨0, rfl, Nat.zero_le _, hO0, ⟨KeepF.refl _ _⟩⟩
      case round =>
        obtain ⟨k', rfl, hk', hO, hK3⟩ := hrel
        have c0 := keepF_cell hK3.out q3 (show ¬ b0 = mo by have := h0o.out; omega)
        have hBr := hB3.out.trans (hK3.out.to_below (base := w.heap.size) hB3.out.size (fun i hi => by have := hwo.out; omega))
        have hIr := hI3.out.of_block (hK3.out.block _ hI3.out.lt (by have := hmm.out; omega))
        replace hBr := Aside0.mk hBr; replace hIr := Aside0.mk hIr
        by_cases hlt : k' < k
        · have p1 : (0 : Int) ≤ (k' : Int) := by omega
          have q1' : (k' : Int) < (k : Int) := by omega
          obtain ⟨ad, x, rfl, hx, hcs⟩ := G_cells (Kd.C_below HG.out hBr.out) hlt
          obtain ⟨ad2, y, had2, hy, hcy⟩ := G_cells (Kd.C_below HG.out hBr.out) (show 0 < k by omega)
          obtain rfl : ad = ad2 := Option.some.inj had2
          have hhd : headId gs = y.f0 := by
            rw [← hgs.out]
            cases xs with
            | nil => simp at hy
            | cons z zs => simp at hy; subst hy; rfl
          have hgl : gs.length = k := by rw [← hgs.out, List.length_map, hln.out]
          have htk : xs.take (k' + 1) = xs.take k' ++ [x] := by rw [List.take_add_one, hx]; rfl
          have e1 := one_G x
          change ∀ v ∈ ([.int .i64 x.f0, .int .i64 x.f1, .int .i64 x.f2, .int .i64 x.f3.f0, .int .i64 x.f3.f1, .int .i64 x.f3.f2] : List Value), v.oneCell' = true at e1
          change ∀ i u, ([.int .i64 x.f0, .int .i64 x.f1, .int .i64 x.f2, .int .i64 x.f3.f0, .int .i64 x.f3.f1, .int .i64 x.f3.f2] : List Value)[i]? = some u → wr.cell? ((ad.add (k' * 6)).add i) = some u at hcs
          have hy0 : wr.cell? ad = some (.int .i64 y.f0) := by have := hcy 0 (.int .i64 y.f0) rfl; rw [Nat.zero_mul] at this; exact this
          have hmr := hO.out.lt
          have hmi := hIr.out.lt
          obtain ⟨id, hid⟩ : ∃ id, x.f0 = id := ⟨_, rfl⟩
          rw [hid] at e1 hcs
          replace hx := Aside0.mk hx; replace hcs := Aside0.mk hcs; replace htk := Aside0.mk htk; replace e1 := Aside0.mk e1; replace hmr := Aside0.mk hmr; replace hmi := Aside0.mk hmi; replace hhd := Aside0.mk hhd; replace hgl := Aside0.mk hgl; replace hy := Aside0.mk hy; replace hcy := Aside0.mk hcy; replace hid := Aside0.mk hid
          go_wp2_with (first
            | ((with_reducible refine gate_op (.load 50 (.tmp 31)) rfl ?_); refine wpList_load_midB rfl _ _ rfl (ad.add (k' * 6)) rfl ([.int .i64 id, .int .i64 x.f1, .int .i64 x.f2, .int .i64 x.f3.f0, .int .i64 x.f3.f1, .int .i64 x.f3.f2] : List Value) _ hcs.out Tryz.underlying50 rfl info_G ?_)
            | (((with_reducible refine gate_dst (N := 8) rfl ?_); refine box_event ?hg (N := 8) ?hd (cs := zG.toArray) (t := 50) ?hr ?_; (case hd => rfl); (case hg => rfl); (case hr => first | (go_simp; done) | (go_simp; rfl)); intro gb hgb w7 kgb bgb; replace hgb := Aside0.mk hgb; replace kgb := Aside0.mk kgb; replace bgb := Aside0.mk bgb))
            | (((with_reducible refine gate_op (.store 50 (.tmp 8) (.tmp 32)) rfl ?_); refine wpList_store_midB rfl _ _ _ rfl gb 0 ([.int .i64 id, .int .i64 x.f1, .int .i64 x.f2, .int .i64 x.f3.f0, .int .i64 x.f3.f1, .int .i64 x.f3.f2] : List Value) rfl rfl 50 zG kgb.out info_G (Nat.le_refl _) e1.out ?_; obtain ⟨kk, bb⟩ := boxed (cs := zG) (cs2 := ([.int .i64 id, .int .i64 x.f1, .int .i64 x.f2, .int .i64 x.f3.f0, .int .i64 x.f3.f1, .int .i64 x.f3.f2] : List Value)) hgb.out kgb.out bgb.out rfl; revert kk bb; generalize World.setRow _ gb (splice zG 0 ([.int .i64 id, .int .i64 x.f1, .int .i64 x.f2, .int .i64 x.f3.f0, .int .i64 x.f3.f1, .int .i64 x.f3.f2] : List Value)).toArray = w8; clear kgb bgb; intro kgb bgb; replace kgb := Aside0.mk kgb; replace bgb := Aside0.mk bgb); replace c0 := pw_cell_below bgb.out c0; replace hy0 := pw_cell_below bgb.out hy0; have g0 : w8.cell? ⟨gb, 0, none⟩ = some (.int .i64 id) := (Kf.cell_row kgb.out 0).trans rfl; have hO8 := Aside0.mk (hO.out.of_block (bgb.out.block _ hmr.out)); have hI8 := Aside0.mk (hIr.out.of_block (bgb.out.block _ hmi.out))))
          go_quiet (fail)
          have hBz : Below wr.heap.size wr (w8.drewN nq) := pw_below_drewN bgb.out nq
          have z0 : (w8.drewN nq).cell? ⟨b0, 0, none⟩ = some (.slice (some ad) k c) := c0
          have z1 : (w8.drewN nq).cell? ad = some (.int .i64 y.f0) := hy0
          have z2 : (w8.drewN nq).cell? ⟨gb, 0, none⟩ = some (.int .i64 id) := g0
          have hOz : IMap .i64 (Value.int .i64) (w8.drewN nq) mo _ := hO8.out.of_block rfl
          have hIz : IMap .i64 (Value.int .i64) (w8.drewN nq) mu (upS xs) := hI8.out.of_block rfl
          clear c0 hy0 g0 kgb bgb hO8 hI8
          obtain ⟨wz, hwz⟩ : ∃ wz, w8.drewN nq = wz := ⟨_, rfl⟩
          rw [hwz] at hBz z0 z1 z2 hOz hIz ⊢
          clear hwz
          have hlk : ∀ a, (Instr.lookup 113 (.map (some mu)) (.int .i64 a) false).run Tryz.prog wz = .ok (.int .i64 (up gs a)) wz := fun a => by rw [look_up hIz, hgs.out]
          have hkk : (k : Int) ≤ 4096 := by omega
          replace hBz := Aside0.mk hBz; replace hOz := Aside0.mk hOz; replace hIz := Aside0.mk hIz; replace hlk := Aside0.mk hlk
          go_wp2_with fail
          go_loop [9, 10] (fun t9 t10 => ∃ (j : Nat) (a : Int), t9 = .int .i64 j ∧ t10 = .int .i64 a ∧ Aside0 (Way (up gs) (k + 1) id j a)) (fun t9 _ => k + 1 - (intOf t9).toNat)
          case atStart => exact ⟨0, id, rfl, rfl, ⟨Way.start _ _ _⟩⟩
          case round =>
            obtain ⟨j, a, rfl, rfl, hW⟩ := hrel
            have hj := hW.out.1
            have hla := hlk.out a
            obtain ⟨u, hu⟩ : ∃ u, up gs a = u := ⟨_, rfl⟩
            rw [hu] at hla
            by_cases hgo : u ≠ 0 ∧ j ≤ k
            · obtain ⟨hu0, hjk⟩ := hgo
              have hjk' : (j : Int) ≤ (k : Int) := by omega
              have hu1 : (u != 0) = true := by simpa using hu0
              have hu2 : (u == 0) = false := by simpa using hu0
              have hW2 := hW.out.step (by rw [hu]; exact hu0) (by omega)
              rw [hu] at hW2
              replace hW2 := Aside0.mk hW2; replace hu := Aside0.mk hu
              go_wp2_with fail
              go_round
              case measure => show k + 1 - ((j : Int) + 1).toNat < k + 1 - (j : Int).toNat; omega
              case rel => exact ⟨j + 1, u, by simp, rfl, hW2⟩
            · have hst : climb (up gs) (gs.length + 1) id = (j, a) := by
                rw [hgl.out]
                refine hW.out.stop ?_
                rw [hu]
                by_cases h0 : u = 0
                · exact .inl h0
                · right
                  have : ¬ j ≤ k := fun h => hgo ⟨h0, h⟩
                  omega
              have hway : (u = 0 ∧ j ≤ k) ∨ (u = 0 ∧ ¬ j ≤ k) ∨ (u ≠ 0 ∧ ¬ j ≤ k) := by
                by_cases h0 : u = 0
                · by_cases h1 : j ≤ k
                  · exact .inl ⟨h0, h1⟩
                  · exact .inr (.inl ⟨h0, h1⟩)
                · exact .inr (.inr ⟨h0, fun h => hgo ⟨h0, h⟩⟩)
              have hsteps : stepsOf gs id = if j ≤ k ∧ a = y.f0 then (j : Int) else -1 := by
                unfold stepsOf
                rw [hst, hhd.out, hgl.out]
                by_cases h1 : j ≤ k ∧ a = y.f0
                · rw [if_pos h1, if_neg]
                  rintro (h | ⟨_, h⟩)
                  · simp at h; omega
                  · exact h h1.2
                · rw [if_neg h1, if_pos]
                  by_cases h2 : j ≤ k
                  · right; exact ⟨by omega, fun h3 => h1 ⟨h2, h3⟩⟩
                  · left; simp; omega
              clear hgo
              have hkpos : (0 : Int) < (k : Int) := by omega
              replace hst := Aside0.mk hst; replace hsteps := Aside0.mk hsteps; replace hu := Aside0.mk hu
              have fin : ∀ (r : Int) (wf : World), r = stepsOf gs id → wf = wz → True := fun _ _ _ _ => trivial
              clear fin
              have hjk : (j ≤ k ∧ a = y.f0) ∨ (j ≤ k ∧ a ≠ y.f0) ∨ ¬ j ≤ k := by
                by_cases h1 : j ≤ k
                · by_cases h2 : a = y.f0
                  · exact .inl ⟨h1, h2⟩
                  · exact .inr (.inl ⟨h1, h2⟩)
                · exact .inr (.inr h1)
              obtain ⟨yv, hyv⟩ : ∃ yv, y.f0 = yv := ⟨_, rfl⟩
              rw [hyv] at z1 hjk hsteps
              replace hyv := Aside0.mk hyv
              rcases hjk with ⟨h1, h2⟩ | ⟨h1, h2⟩ | h1
              · subst h2
                have hs : stepsOf gs id = (j : Int) := by rw [hsteps.out, if_pos ⟨h1, rfl⟩]
                have hu0 : u = 0 := by rcases hway with h | h | h <;> omega
                subst hu0
                have hjk' : (j : Int) ≤ (k : Int) := by omega
                have hjk2 : ¬ (k : Int) < (j : Int) := by omega
                clear hway
                replace hs := Aside0.mk hs
                go_wp2_with (first
                  | ((with_reducible refine gate_op (.mapUpdate 113 (.tmp 71) (.tmp 73) (.tmp 74)) rfl ?_); refine wpList_mapUpdate_imap (enc := Value.int .i64) rfl _ _ _ 113 rfl Tryz.underlying113 Tryz.underlying3 mo _ id (j : Int) rfl rfl rfl hOz.out ?_; intro ob hM9; replace hM9 := Aside0.mk hM9))
                go_roundw
                case measure => show k - ((k' : Int) + 1).toNat < k - (k' : Int).toNat; omega
                case rel => exact ⟨k' + 1, by simp, by omega, ⟨by rw [htk.out, List.foldl_append]; show IMap _ _ _ _ (aset _ x.f0 (stepsOf gs x.f0)); rw [hid.out, hs.out]; exact hM9.out⟩, ⟨(hK3.out.trans (KeepF.of_below (F := fun i => i = mo) hBz.out) (fun _ _ h => h)).trans (KeepF.bset wz mo ob) (fun _ _ h => h)⟩⟩
              · have hs : stepsOf gs id = -1 := by rw [hsteps.out, if_neg (fun h => h2 h.2)]
                have hu0 : u = 0 := by rcases hway with h | h | h <;> omega
                subst hu0
                have hjk' : (j : Int) ≤ (k : Int) := by omega
                have hjk2 : ¬ (k : Int) < (j : Int) := by omega
                have h2' : (a == yv) = false := by simpa using h2
                have h2'' : (a != yv) = true := by simpa using h2
                clear hway
                replace hs := Aside0.mk hs
                go_wp2_with (first
                  | ((with_reducible refine gate_op (.mapUpdate 113 (.tmp 71) (.tmp 73) (.tmp 74)) rfl ?_); refine wpList_mapUpdate_imap (enc := Value.int .i64) rfl _ _ _ 113 rfl Tryz.underlying113 Tryz.underlying3 mo _ id (-1) rfl rfl rfl hOz.out ?_; intro ob hM9; replace hM9 := Aside0.mk hM9))
                go_roundw
                case measure => show k - ((k' : Int) + 1).toNat < k - (k' : Int).toNat; omega
                case rel => exact ⟨k' + 1, by simp, by omega, ⟨by rw [htk.out, List.foldl_append]; show IMap _ _ _ _ (aset _ x.f0 (stepsOf gs x.f0)); rw [hid.out, hs.out]; exact hM9.out⟩, ⟨(hK3.out.trans (KeepF.of_below (F := fun i => i = mo) hBz.out) (fun _ _ h => h)).trans (KeepF.bset wz mo ob) (fun _ _ h => h)⟩⟩
              · have hs : stepsOf gs id = -1 := by rw [hsteps.out, if_neg (fun h => h1 h.1)]
                have hjk' : ¬ (j : Int) ≤ (k : Int) := by omega
                have hjk2 : (k : Int) < (j : Int) := by omega
                have hu0 : u = 0 ∨ u ≠ 0 := by by_cases h : u = 0; exact .inl h; exact .inr h
                clear hway
                replace hs := Aside0.mk hs
                rcases hu0 with hu0 | hu0
                · subst hu0
                  go_wp2_with (first
                    | ((with_reducible refine gate_op (.mapUpdate 113 (.tmp 71) (.tmp 73) (.tmp 74)) rfl ?_); refine wpList_mapUpdate_imap (enc := Value.int .i64) rfl _ _ _ 113 rfl Tryz.underlying113 Tryz.underlying3 mo _ id (-1) rfl rfl rfl hOz.out ?_; intro ob hM9; replace hM9 := Aside0.mk hM9))
                  go_roundw
                  case measure => show k - ((k' : Int) + 1).toNat < k - (k' : Int).toNat; omega
                  case rel => exact ⟨k' + 1, by simp, by omega, ⟨by rw [htk.out, List.foldl_append]; show IMap _ _ _ _ (aset _ x.f0 (stepsOf gs x.f0)); rw [hid.out, hs.out]; exact hM9.out⟩, ⟨(hK3.out.trans (KeepF.of_below (F := fun i => i = mo) hBz.out) (fun _ _ h => h)).trans (KeepF.bset wz mo ob) (fun _ _ h => h)⟩⟩
                · have hu1 : (u != 0) = true := by simpa using hu0
                  have hu2 : (u == 0) = false := by simpa using hu0
                  go_wp2_with (first
                    | ((with_reducible refine gate_op (.mapUpdate 113 (.tmp 71) (.tmp 73) (.tmp 74)) rfl ?_); refine wpList_mapUpdate_imap (enc := Value.int .i64) rfl _ _ _ 113 rfl Tryz.underlying113 Tryz.underlying3 mo _ id (-1) rfl rfl rfl hOz.out ?_; intro ob hM9; replace hM9 := Aside0.mk hM9))
                  go_roundw
                  case measure => show k - ((k' : Int) + 1).toNat < k - (k' : Int).toNat; omega
                  case rel => exact ⟨k' + 1, by simp, by omega, ⟨by rw [htk.out, List.foldl_append]; show IMap _ _ _ _ (aset _ x.f0 (stepsOf gs x.f0)); rw [hid.out, hs.out]; exact hM9.out⟩, ⟨(hK3.out.trans (KeepF.of_below (F := fun i => i = mo) hBz.out) (fun _ _ h => h)).trans (KeepF.bset wz mo ob) (fun _ _ h => h)⟩⟩
        · obtain rfl : k' = k := by omega
          rw [hall.out] at hO
          clear hlt
          go_wp2_with fail
          go_ret
          exact ⟨mo, rfl, by rw [hgs.out]; exact hO.out, hwo.out, hBr.out⟩
end Go.Proofs.YtpnjhffnlafabaaGreatDoor.Sn
namespace Go.Proofs.YtpnjhffnlafabaaGreatDoor.Sn
set_option linter.unusedVariables false
set_option linter.unusedSimpArgs false
attribute [local go_sem] Go.Proofs.YtpnjhffnlafabaaGreatDoorW.PrintMore.max2_int Go.Proofs.YtpnjhffnlafabaaGreatDoorW.PrintMore.min2_int Go.Proofs.YtpnjhffnlafabaaGreatDoorW.PrintMore.max_two Go.Proofs.YtpnjhffnlafabaaGreatDoorW.PrintMore.min_two
open Go.RowKit Go.Sort Go.Shelf Go.Proofs.Bk Go.Proofs.Bm Go.Proofs.Op Go.Proofs.Sc Go.Proofs.Kf Go.Proofs.YtpnjhffnlafabaaGreatDoorW.PrintWords Go.Proofs.YtpnjhffnlafabaaGreatDoor.PImageBack
theorem plainG_iff : ∀ (gs : List G) (seen : List Int), plainG gs seen = true ↔ ∀ i x, gs[i]? = some x → x.parent ≠ 0 ∧ x.id ∉ seen ++ gids (gs.take i)
  | [], seen => by simp [plainG]
  | g :: gs, seen => by
    unfold plainG
    rw [Bool.and_eq_true, plainG_iff gs]
    constructor
    · rintro ⟨h1, h2⟩ i x hx
      cases i with
      | zero => simp at hx; subst hx; simpa [gids] using h1
      | succ i =>
        have := h2 i x (by simpa using hx)
        simpa [gids] using this
    · intro h
      refine ⟨by have := h 0 g rfl; simpa [gids] using this, fun i x hx => ?_⟩
      have := h (i + 1) x (by simpa using hx)
      simpa [gids] using this
theorem tailPlain_iff (gs : List G) : tailPlain gs = true ↔ ∀ i x, 0 < i → gs[i]? = some x → x.parent ≠ 0 ∧ x.id ∉ gids (gs.take i) := by
  cases gs with
  | nil => simp [tailPlain]
  | cons g gs =>
    unfold tailPlain
    simp only []
    rw [plainG_iff]
    constructor
    · intro h i x hi hx
      obtain ⟨j, rfl⟩ : ∃ j, i = j + 1 := ⟨i - 1, by omega⟩
      have := h j x (by simpa using hx)
      simpa [gids] using this
    · intro h i x hx
      have := h (i + 1) x (by omega) (by simpa using hx)
      simpa [gids] using this
theorem aget_fun (f : Int → Int) (k : Int) : ∀ (xs : List SG) (l : List (Int × Int)), aget (xs.foldl (fun l x => aset l x.f0 (f x.f0)) l) k = if k ∈ xs.map (·.f0) then some (f k) else aget l k
  | [], l => by simp
  | x :: xs, l => by
    rw [List.foldl_cons, aget_fun f k xs, aget_aset]
    by_cases h : k ∈ xs.map (·.f0)
    · rw [if_pos h, if_pos (by simp only [List.map_cons, List.mem_cons]; exact .inr h)]
    · rw [if_neg h]
      by_cases h2 : k = x.f0
      · rw [if_pos h2, if_pos (by simp only [List.map_cons, List.mem_cons]; exact .inl h2), h2]
      · rw [if_neg h2, if_neg]
        simp only [List.map_cons, List.mem_cons, not_or]
        exact ⟨h2, h⟩
theorem nodup_fold (f : Int → Int) : ∀ (xs : List SG) (l : List (Int × Int)), (l.map (·.1)).Nodup → ((xs.foldl (fun l x => aset l x.f0 (f x.f0)) l).map (·.1)).Nodup
  | [], l, h => h
  | x :: xs, l, h => nodup_fold f xs _ (nodup_aset h _ _)
theorem mem_steps (gs : List G) (xs : List SG) (k v : Int) : (k, v) ∈ stepsL gs xs ↔ k ∈ xs.map (·.f0) ∧ v = stepsOf gs k := by
  have hn : ((stepsL gs xs).map (·.1)).Nodup := nodup_fold _ xs [] (by simp)
  rw [← aget_some_iff hn, show aget (stepsL gs xs) k = _ from aget_fun (stepsOf gs) k xs []]
  by_cases h : k ∈ xs.map (·.f0)
  · rw [if_pos h]; simp [h, eq_comm]
  · rw [if_neg h]; simp [h, aget_nil]
theorem all_steps (xs : List SG) : ((xs.map gOf).all fun g => decide (0 ≤ stepsOf (xs.map gOf) g.id)) = true ↔ ∀ p ∈ stepsL (xs.map gOf) xs, 0 ≤ p.2 := by
  rw [List.all_eq_true]
  constructor
  · rintro h ⟨k, v⟩ hp
    obtain ⟨h1, h2⟩ := (mem_steps _ _ _ _).1 hp
    obtain ⟨x, hx, rfl⟩ := List.mem_map.1 h1
    have := h (gOf x) (List.mem_map.2 ⟨x, hx, rfl⟩)
    show 0 ≤ v
    rw [h2]; exact of_decide_eq_true this
  · intro h g hg
    obtain ⟨x, hx, rfl⟩ := List.mem_map.1 hg
    have := h (x.f0, stepsOf (xs.map gOf) x.f0) ((mem_steps _ _ _ _).2 ⟨List.mem_map.2 ⟨x, hx, rfl⟩, rfl⟩)
    exact decide_eq_true this
set_option maxHeartbeats 2000000 in
theorem predTwice (w : World) (gb : Nat) (x : SG) (h4 : w.heap[gb]? = some (.cells ([.int .i64 x.f0, .int .i64 x.f1, .int .i64 x.f2, .int .i64 x.f3.f0, .int .i64 x.f3.f1, .int .i64 x.f3.f2] : List Value).toArray 50 (0, 0))) :
    PredBelow Tryz.prog 76 #[.pointer (some ⟨gb, 0, none⟩)] (fun x => .agg (gC x).toArray) (fun y => decide (y.f0 = x.f0)) w := fun W y hb => by
  have h4W := (hb.block _ (lt_row h4)).trans h4
  have hb4 : gb < W.heap.size := lt_row h4W
  show Calls Tryz.prog 76 #[.agg ([.int .i64 y.f0, .int .i64 y.f1, .int .i64 y.f2, .int .i64 y.f3.f0, .int .i64 y.f3.f1, .int .i64 y.f3.f2] : List Value).toArray, .pointer (some ⟨gb, 0, none⟩)] W fun e w' => e = .returned (.bool (decide (y.f0 = x.f0))) ∧ Below w.heap.size w w'
  obtain ⟨yv, hyv⟩ : ∃ yv, y.f0 = yv := ⟨_, rfl⟩
  obtain ⟨xv, hxv⟩ : ∃ xv, x.f0 = xv := ⟨_, rfl⟩
  rw [hxv] at h4W
  rw [hyv, hxv]
  obtain ⟨r, hr⟩ : ∃ r, decide (yv = xv) = r := ⟨_, rfl⟩
  have hr2 : (yv == xv) = r := by rw [← hr]; rfl
  rw [hr]
  replace h4W := Aside0.mk h4W; replace h4 := Aside0.mk h4; replace hb := Aside0.mk hb; replace hyv := Aside0.mk hyv; replace hxv := Aside0.mk hxv; replace hr := Aside0.mk hr
  go_enter Tryz.func76, Tryz.ntmps76
  go_wp2_with (first
    | (((with_reducible refine gate_dst (N := 2) rfl ?_); refine box_event ?hg (N := 2) ?hd (cs := ([.int .i64 yv, .int .i64 y.f1, .int .i64 y.f2, .int .i64 y.f3.f0, .int .i64 y.f3.f1, .int .i64 y.f3.f2] : List Value).toArray) (t := 50) ?hr ?_; (case hd => rfl); (case hg => rfl); (case hr => first | (go_simp; done) | (go_simp; rfl)); intro g2 hg2 w1 kg2 bg2; replace hg2 := Aside0.mk hg2; replace kg2 := Aside0.mk kg2; replace bg2 := Aside0.mk bg2); have c4 : w1.cell? ⟨gb, 0, none⟩ = some (.int .i64 xv) := pw_cell_below bg2.out ((Kf.cell_row h4W.out 0).trans rfl); have g1 : w1.cell? ⟨g2, 0, none⟩ = some (.int .i64 yv) := (Kf.cell_row kg2.out 0).trans rfl))
  go_ret
  exact ⟨rfl, hb.out.trans (bg2.out.mono hb.out.size)⟩
def WholePost (gs : List G) (w : World) (e : Ending) (w' : World) : Prop := e = .returned (.bool (wholeOf gs)) ∧ Below w.heap.size w w'
set_option maxHeartbeats 8000000 in
set_option maxRecDepth 100000 in
theorem whole_calls (A : Option Addr) (n c : Nat) (xs : List SG) (B : Option Addr) (m d : Nat) (w : World) (hG : kG.C w A n xs) (hc : n ≤ c) (hn : n ≤ 4096) :
    Calls Tryz.prog 44 #[.agg #[.slice A n c, .slice B m d]] w (WholePost (xs.map gOf) w) := by
  have hln := hG.1
  have hnc : (n : Int) ≤ (c : Int) := by omega
  have HG := Aside0.mk hG
  clear hG
  replace hln := Aside0.mk hln; replace hc := Aside0.mk hc
  go_enter Tryz.func44, Tryz.ntmps44
  go_wp2_with (first
    | (((with_reducible refine gate_dst (N := 1) rfl ?_); refine box_event ?hg (N := 1) ?hd (cs := #[.slice A n c, .slice B m d]) (t := 25) ?hr ?_; (case hd => rfl); (case hg => rfl); (case hr => first | (go_simp; done) | (go_simp; rfl)); intro b0 hb0 w1 kb0 bb0; replace hb0 := Aside0.mk hb0; replace kb0 := Aside0.mk kb0; replace bb0 := Aside0.mk bb0); have c0 : w1.cell? ⟨b0, 0, none⟩ = some (.slice A n c) := (Kf.cell_row kb0.out 0).trans rfl; have c1 : w1.cell? ⟨b0, 1, none⟩ = some (.slice B m d) := (Kf.cell_row kb0.out 1).trans rfl))
  have q0 := c0
  have q1 := c1
  clear c0 c1
  replace q0 := Aside0.mk q0; replace q1 := Aside0.mk q1
  go_loopw [11] (fun t11 wr => ∃ (k : Nat), t11 = .int .i64 k ∧ k ≤ n ∧ Aside0 (Below w1.heap.size w1 wr) ∧ Aside0 (∀ i x, 0 < i → i < k → (xs.map gOf)[i]? = some x → x.parent ≠ 0 ∧ x.id ∉ gids ((xs.map gOf).take i))) (fun t11 _ => n - (intOf t11).toNat)
  case atStart => exact ⟨0, rfl, Nat.zero_le _, ⟨Below.refl _ _⟩, ⟨fun i x _ h => absurd h (Nat.not_lt_zero _)⟩⟩
  case round =>
    obtain ⟨k, rfl, hk, hB, hP⟩ := hrel
    have c0 := pw_cell_below hB.out q0.out
    have c1 := pw_cell_below hB.out q1.out
    have hBw := below_step bb0.out hB.out
    replace hBw := Aside0.mk hBw
    by_cases hlt : k < n
    · have p1 : (0 : Int) ≤ (k : Int) := by omega
      have q1' : (k : Int) < (n : Int) := by omega
      have hkc : (k : Int) ≤ (c : Int) := by omega
      obtain ⟨ad, x, rfl, hx, hcs⟩ := G_cells (Kd.C_below HG.out hBw.out) hlt
      have e1 := one_G x
      change ∀ v ∈ ([.int .i64 x.f0, .int .i64 x.f1, .int .i64 x.f2, .int .i64 x.f3.f0, .int .i64 x.f3.f1, .int .i64 x.f3.f2] : List Value), v.oneCell' = true at e1
      change ∀ i u, ([.int .i64 x.f0, .int .i64 x.f1, .int .i64 x.f2, .int .i64 x.f3.f0, .int .i64 x.f3.f1, .int .i64 x.f3.f2] : List Value)[i]? = some u → wr.cell? ((ad.add (k * 6)).add i) = some u at hcs
      have hgx : (xs.map gOf)[k]? = some (gOf x) := by rw [List.getElem?_map, hx]; rfl
      -- the first k groups
      have hCk : ∀ W, Below wr.heap.size wr W → kG.C W (some ad) k (xs.take k) := fun W hW => by
        have h0 := Kd.C_below (Kd.C_below HG.out hBw.out) hW
        refine ⟨by rw [List.length_take, hln.out]; omega, by have := h0.2.1; omega, fun _ => ?_⟩
        obtain ⟨ad', e, hc'⟩ := h0.2.2 (by omega)
        refine ⟨ad', e, fun j y hj => hc' j y ?_⟩
        rw [List.getElem?_take] at hj
        split at hj
        · exact hj
        · cases hj
      obtain ⟨r, hr⟩ : ∃ r, (xs.take k).any (fun y => decide (y.f0 = x.f0)) = r := ⟨_, rfl⟩
      have hr' : r = true ↔ (gOf x).id ∈ gids ((xs.map gOf).take k) := by
        rw [← hr, List.any_eq_true, ← List.map_take]
        unfold gids
        rw [List.map_map, List.mem_map]
        constructor
        · rintro ⟨y, hy, h⟩; exact ⟨y, hy, of_decide_eq_true h⟩
        · rintro ⟨y, hy, h⟩; exact ⟨y, hy, by have h2 : y.f0 = x.f0 := h; simpa using h2⟩
      have hcon : ∀ W gb, Below wr.heap.size wr W → W.heap[gb]? = some (.cells ([.int .i64 x.f0, .int .i64 x.f1, .int .i64 x.f2, .int .i64 x.f3.f0, .int .i64 x.f3.f1, .int .i64 x.f3.f2] : List Value).toArray 50 (0, 0)) → Calls Tryz.prog 39 #[.slice (some ad) k c, .func (.func 76) #[] #[.pointer (some ⟨gb, 0, none⟩)]] W (AnyPost r W) := fun W gb hW hg => by
        rw [← hr]
        exact ContainsG_calls _ 76 #[.pointer (some ⟨gb, 0, none⟩)] (enters_of Tryz.func76 (by kernel_rfl) rfl) _ _ _ _ W (hCk W hW) (predTwice W gb x hg)
      have hbad : 0 < k → (x.f1 = 0 ∨ r = true) → wholeOf (xs.map gOf) = false := by
        intro h0 h
        cases hw : wholeOf (xs.map gOf) with
        | false => rfl
        | true =>
          unfold wholeOf at hw
          rw [Bool.and_eq_true, tailPlain_iff] at hw
          have := hw.1 k _ h0 hgx
          rcases h with h | h
          · exact absurd h this.1
          · exact absurd (hr'.1 h) this.2
      have hnext : (k = 0 ∨ (x.f1 ≠ 0 ∧ r = false)) → ∀ i y, 0 < i → i < k + 1 → (xs.map gOf)[i]? = some y → y.parent ≠ 0 ∧ y.id ∉ gids ((xs.map gOf).take i) := by
        intro h i y hi0 hi hy
        rcases Nat.lt_or_ge i k with h1 | h1
        · exact hP.out i y hi0 h1 hy
        · obtain rfl : i = k := by omega
          rw [hgx] at hy
          injection hy with hy
          subst hy
          rcases h with h | ⟨h, h2⟩
          · omega
          · exact ⟨h, fun h3 => by rw [hr'.2 h3] at h2; cases h2⟩
      obtain ⟨pv, hpv⟩ : ∃ pv, x.f1 = pv := ⟨_, rfl⟩
      rw [hpv] at hbad hnext e1 hcs hcon
      clear hr'
      replace hx := Aside0.mk hx; replace hcs := Aside0.mk hcs; replace e1 := Aside0.mk e1; replace hgx := Aside0.mk hgx; replace hCk := Aside0.mk hCk; replace hr := Aside0.mk hr; replace hcon := Aside0.mk hcon; replace hbad := Aside0.mk hbad; replace hnext := Aside0.mk hnext; replace hpv := Aside0.mk hpv
      have hcase : k = 0 ∨ (0 < k ∧ pv = 0) ∨ (0 < k ∧ pv ≠ 0) := by omega
      rcases hcase with h1 | ⟨h1, h2⟩ | ⟨h1, h2⟩
      · subst h1
        go_wp2_with (first
          | ((with_reducible refine gate_op (.load 50 (.tmp 14)) rfl ?_); refine wpList_load_midB rfl _ _ rfl (ad.add (0 * 6)) rfl ([.int .i64 x.f0, .int .i64 pv, .int .i64 x.f2, .int .i64 x.f3.f0, .int .i64 x.f3.f1, .int .i64 x.f3.f2] : List Value) _ hcs.out Tryz.underlying50 rfl info_G ?_)
          | (((with_reducible refine gate_dst (N := 4) rfl ?_); refine box_event ?hg (N := 4) ?hd (cs := zG.toArray) (t := 50) ?hr ?_; (case hd => rfl); (case hg => rfl); (case hr => first | (go_simp; done) | (go_simp; rfl)); intro gb hgb w7 kgb bgb; replace hgb := Aside0.mk hgb; replace kgb := Aside0.mk kgb; replace bgb := Aside0.mk bgb))
          | (((with_reducible refine gate_op (.store 50 (.tmp 4) (.tmp 15)) rfl ?_); refine wpList_store_midB rfl _ _ _ rfl gb 0 ([.int .i64 x.f0, .int .i64 pv, .int .i64 x.f2, .int .i64 x.f3.f0, .int .i64 x.f3.f1, .int .i64 x.f3.f2] : List Value) rfl rfl 50 zG kgb.out info_G (Nat.le_refl _) e1.out ?_; obtain ⟨kk, bb⟩ := boxed (cs := zG) (cs2 := ([.int .i64 x.f0, .int .i64 pv, .int .i64 x.f2, .int .i64 x.f3.f0, .int .i64 x.f3.f1, .int .i64 x.f3.f2] : List Value)) hgb.out kgb.out bgb.out rfl; revert kk bb; generalize World.setRow _ gb (splice zG 0 ([.int .i64 x.f0, .int .i64 pv, .int .i64 x.f2, .int .i64 x.f3.f0, .int .i64 x.f3.f1, .int .i64 x.f3.f2] : List Value)).toArray = w8; clear kgb bgb; intro kgb bgb; replace kgb := Aside0.mk kgb; replace bgb := Aside0.mk bgb); replace c0 := pw_cell_below bgb.out c0; replace c1 := pw_cell_below bgb.out c1; have g1 : w8.cell? ⟨gb, 1, none⟩ = some (.int .i64 pv) := (Kf.cell_row kgb.out 1).trans rfl))
        go_roundw
        case measure => show n - ((0 : Int) + 1).toNat < n - ((0 : Nat) : Int).toNat; omega
        case rel => exact ⟨0 + 1, rfl, by omega, ⟨below_step hB.out bgb.out⟩, ⟨hnext.out (.inl rfl)⟩⟩
      · subst h2
        have hk0 : (0 : Int) < (k : Int) := by omega
        have hw : wholeOf (xs.map gOf) = false := hbad.out h1 (.inl rfl)
        replace hw := Aside0.mk hw
        go_wp2_with (first
          | ((with_reducible refine gate_op (.load 50 (.tmp 14)) rfl ?_); refine wpList_load_midB rfl _ _ rfl (ad.add (k * 6)) rfl ([.int .i64 x.f0, .int .i64 0, .int .i64 x.f2, .int .i64 x.f3.f0, .int .i64 x.f3.f1, .int .i64 x.f3.f2] : List Value) _ hcs.out Tryz.underlying50 rfl info_G ?_)
          | (((with_reducible refine gate_dst (N := 4) rfl ?_); refine box_event ?hg (N := 4) ?hd (cs := zG.toArray) (t := 50) ?hr ?_; (case hd => rfl); (case hg => rfl); (case hr => first | (go_simp; done) | (go_simp; rfl)); intro gb hgb w7 kgb bgb; replace hgb := Aside0.mk hgb; replace kgb := Aside0.mk kgb; replace bgb := Aside0.mk bgb))
          | (((with_reducible refine gate_op (.store 50 (.tmp 4) (.tmp 15)) rfl ?_); refine wpList_store_midB rfl _ _ _ rfl gb 0 ([.int .i64 x.f0, .int .i64 0, .int .i64 x.f2, .int .i64 x.f3.f0, .int .i64 x.f3.f1, .int .i64 x.f3.f2] : List Value) rfl rfl 50 zG kgb.out info_G (Nat.le_refl _) e1.out ?_; obtain ⟨kk, bb⟩ := boxed (cs := zG) (cs2 := ([.int .i64 x.f0, .int .i64 0, .int .i64 x.f2, .int .i64 x.f3.f0, .int .i64 x.f3.f1, .int .i64 x.f3.f2] : List Value)) hgb.out kgb.out bgb.out rfl; revert kk bb; generalize World.setRow _ gb (splice zG 0 ([.int .i64 x.f0, .int .i64 0, .int .i64 x.f2, .int .i64 x.f3.f0, .int .i64 x.f3.f1, .int .i64 x.f3.f2] : List Value)).toArray = w8; clear kgb bgb; intro kgb bgb; replace kgb := Aside0.mk kgb; replace bgb := Aside0.mk bgb); replace c0 := pw_cell_below bgb.out c0; replace c1 := pw_cell_below bgb.out c1; have g1 : w8.cell? ⟨gb, 1, none⟩ = some (.int .i64 0) := (Kf.cell_row kgb.out 1).trans rfl))
        go_ret
        exact ⟨by rw [hw.out]; rfl, hBw.out.trans (bgb.out.mono hBw.out.size)⟩
      · have hk0 : (0 : Int) < (k : Int) := by omega
        have h2' : (pv == 0) = false := by simpa using h2
        go_wp2_with (first
          | ((with_reducible refine gate_op (.load 50 (.tmp 14)) rfl ?_); refine wpList_load_midB rfl _ _ rfl (ad.add (k * 6)) rfl ([.int .i64 x.f0, .int .i64 pv, .int .i64 x.f2, .int .i64 x.f3.f0, .int .i64 x.f3.f1, .int .i64 x.f3.f2] : List Value) _ hcs.out Tryz.underlying50 rfl info_G ?_)
          | (((with_reducible refine gate_dst (N := 4) rfl ?_); refine box_event ?hg (N := 4) ?hd (cs := zG.toArray) (t := 50) ?hr ?_; (case hd => rfl); (case hg => rfl); (case hr => first | (go_simp; done) | (go_simp; rfl)); intro gb hgb w7 kgb bgb; replace hgb := Aside0.mk hgb; replace kgb := Aside0.mk kgb; replace bgb := Aside0.mk bgb))
          | (((with_reducible refine gate_op (.store 50 (.tmp 4) (.tmp 15)) rfl ?_); refine wpList_store_midB rfl _ _ _ rfl gb 0 ([.int .i64 x.f0, .int .i64 pv, .int .i64 x.f2, .int .i64 x.f3.f0, .int .i64 x.f3.f1, .int .i64 x.f3.f2] : List Value) rfl rfl 50 zG kgb.out info_G (Nat.le_refl _) e1.out ?_; obtain ⟨kk, bb⟩ := boxed (cs := zG) (cs2 := ([.int .i64 x.f0, .int .i64 pv, .int .i64 x.f2, .int .i64 x.f3.f0, .int .i64 x.f3.f1, .int .i64 x.f3.f2] : List Value)) hgb.out kgb.out bgb.out rfl; revert kk bb; generalize World.setRow _ gb (splice zG 0 ([.int .i64 x.f0, .int .i64 pv, .int .i64 x.f2, .int .i64 x.f3.f0, .int .i64 x.f3.f1, .int .i64 x.f3.f2] : List Value)).toArray = w8; clear kgb bgb; intro kgb bgb; replace kgb := Aside0.mk kgb; replace bgb := Aside0.mk bgb); replace c0 := pw_cell_below bgb.out c0; replace c1 := pw_cell_below bgb.out c1; have g1 : w8.cell? ⟨gb, 1, none⟩ = some (.int .i64 pv) := (Kf.cell_row kgb.out 1).trans rfl))
        with_reducible refine (hcon.out w8 gb bgb.out kgb.out).mono ?_
        rintro e w9 ⟨rfl, hb9⟩
        have hB9 := below_step bgb.out hb9
        cases r with
        | true =>
          have hw : wholeOf (xs.map gOf) = false := hbad.out h1 (.inr rfl)
          replace hw := Aside0.mk hw
          go_wp2_with fail
          go_ret
          exact ⟨by rw [hw.out]; rfl, hBw.out.trans (hB9.mono hBw.out.size)⟩
        | false =>
          go_wp2_with fail
          go_roundw
          case measure => show n - ((k : Int) + 1).toNat < n - (k : Int).toNat; omega
          case rel => exact ⟨k + 1, by simp, by omega, ⟨below_step hB.out hB9⟩, ⟨hnext.out (.inr ⟨h2, by first | rfl | trivial⟩)⟩⟩
    · obtain rfl : k = n := by omega
      have htp : tailPlain (xs.map gOf) = true := by
        rw [tailPlain_iff]
        intro i x hi hx
        refine hP.out i x hi ?_ hx
        have := (List.getElem?_eq_some_iff.1 hx).1
        rw [List.length_map, hln.out] at this
        exact this
      have hall := all_steps xs
      have hwo : wholeOf (xs.map gOf) = true ↔ ∀ p ∈ stepsL (xs.map gOf) xs, 0 ≤ p.2 := by
        unfold wholeOf
        rw [htp, Bool.true_and]
        exact hall
      clear hlt hall
      replace htp := Aside0.mk htp; replace hwo := Aside0.mk hwo
      go_wp2_with fail
      with_reducible refine (steps_calls A k c xs B m d wr (Kd.C_below HG.out hBw.out) hn).mono ?_
      rintro e w3 ⟨mb, rfl, hI, hmb, hB3⟩
      obtain ⟨L, hL⟩ : ∃ L, stepsL (xs.map gOf) xs = L := ⟨_, rfl⟩
      rw [hL] at hwo hI
      have hB33 := below_step hBw.out hB3
      replace hI := Aside0.mk hI; replace hmb := Aside0.mk hmb; replace hB3 := Aside0.mk hB3; replace hL := Aside0.mk hL; replace hB33 := Aside0.mk hB33
      go_wp2_with (first
        | (at_range; refine wpList_range_imap (enc := Value.int .i64) (q := .i64) rfl _ 113 rfl Tryz.underlying113 mb L rfl hI.out ?_; intro ob hit; replace hit := Aside0.mk hit))
      go_frame
      have hBi : Below w3.heap.size w3 (w3.alloc ob) := below_alloc (Below.refl _ _) _
      obtain ⟨it, hite⟩ : ∃ it, w3.heap.size = it := ⟨_, rfl⟩
      obtain ⟨wi, hwi⟩ : ∃ wi, w3.alloc ob = wi := ⟨_, rfl⟩
      have hits : it < wi.heap.size := by rw [← hwi, ← hite]; simp
      have hwit : w.heap.size ≤ it := by have := hB33.out.size; omega
      rw [hwi] at hBi hit ⊢
      rw [hite] at hit ⊢
      have hBw3 := below_step hB33.out hBi
      clear hwi
      replace hBi := Aside0.mk hBi; replace hite := Aside0.mk hite; replace hits := Aside0.mk hits; replace hwit := Aside0.mk hwit; replace hBw3 := Aside0.mk hBw3
      go_loopw [] (fun wr => ∃ left : List (Int × Int), Aside0 (ILeft .i64 (Value.int .i64) wr it mb L left) ∧ Aside0 (KeepF (fun i => i = it) wi wr) ∧ Aside0 (∀ p ∈ L, p ∈ left ∨ 0 ≤ p.2) ∧ Aside0 (∀ p ∈ left, p ∈ L)) (fun wr => wr.rangeLeft mb it)
      case atStart => exact ⟨L, hit, ⟨KeepF.refl _ _⟩, ⟨fun p h => .inl h⟩, ⟨fun p h => h⟩⟩
      case round =>
        obtain ⟨left, hLe, hK, hV, hS⟩ := hrel
        go_wp2_with (first
          | (at_next; refine wpList_next_imap (enc := Value.int .i64) (q := .i64) rfl _ rfl it mb L left rfl hLe.out ?_ ?_)
          | go_in)
        · intro hd0
          subst hd0
          have hw : wholeOf (xs.map gOf) = true := hwo.out.2 (fun p hp => by
            rcases hV.out p hp with h | h
            · cases h
            · exact h)
          replace hw := Aside0.mk hw
          go_wp2_with fail
          go_ret
          exact ⟨by rw [hw.out]; rfl, hBw3.out.trans (hK.out.to_below (base := w.heap.size) hBw3.out.size (fun i hi => by have := hwit.out; omega))⟩
        · intro k2 v left' w4 ob2 hp hw hl hen
          have hkw : KeepF (fun i => i = it) wr (bset w4 it ob2) := by
            rcases hw with e | e
            · subst e; exact KeepF.bset _ _ _
            · subst e; exact (KeepF.drew (KeepF.refl _ wr)).trans (F' := fun i => i = it) (KeepF.bset _ _ _) (fun _ _ h => h)
          have hK2 := hK.out.trans hkw (fun _ _ h => h)
          have hmem : (k2, v) ∈ L := hS.out _ (hp.mem_iff.2 (by simp))
          have hBf := hBw3.out.trans (hK2.to_below (base := w.heap.size) hBw3.out.size (fun i hi => by have := hwit.out; omega))
          obtain ⟨W, hW⟩ : ∃ W, bset w4 it ob2 = W := ⟨_, rfl⟩
          rw [hW] at hl hen hK2 hBf ⊢
          have hc1 := hLe.out.count
          have hc2 := hl.count
          have hlen := hp.length_eq
          simp at hlen
          clear hW hkw hw
          replace hp := Aside0.mk hp; replace hl := Aside0.mk hl; replace hK2 := Aside0.mk hK2; replace hmem := Aside0.mk hmem; replace hBf := Aside0.mk hBf; replace hc1 := Aside0.mk hc1; replace hc2 := Aside0.mk hc2
          by_cases hv : v < 0
          · have hw : wholeOf (xs.map gOf) = false := by
              cases hw : wholeOf (xs.map gOf) with
              | false => rfl
              | true => have := hwo.out.1 hw _ hmem.out; have : 0 ≤ v := this; omega
            replace hw := Aside0.mk hw
            go_wp2_with fail
            go_ret
            exact ⟨by rw [hw.out]; rfl, hBf.out⟩
          · go_wp2_with fail
            go_roundw
            case measure => show W.rangeLeft mb it < wr.rangeLeft mb it; rw [hc1.out, hc2.out]; omega
            case rel => exact ⟨left', hl, hK2, ⟨fun p hq => by
              rcases hV.out p hq with h | h
              · rcases List.mem_cons.1 (hp.out.mem_iff.1 h) with h2 | h2
                · subst h2; exact .inr (by show 0 ≤ v; omega)
                · exact .inl h2
              · exact .inr h⟩, ⟨fun p hq => hS.out p (hp.out.mem_iff.2 (List.mem_cons_of_mem _ hq))⟩⟩
end Go.Proofs.YtpnjhffnlafabaaGreatDoor.Sn
namespace Go.Proofs.YtpnjhffnlafabaaGreatDoor.Sn
set_option linter.unusedVariables false
set_option linter.unusedSimpArgs false
attribute [local go_sem] Go.Proofs.YtpnjhffnlafabaaGreatDoorW.PrintMore.max2_int Go.Proofs.YtpnjhffnlafabaaGreatDoorW.PrintMore.min2_int Go.Proofs.YtpnjhffnlafabaaGreatDoorW.PrintMore.max_two Go.Proofs.YtpnjhffnlafabaaGreatDoorW.PrintMore.min_two
open Go.RowKit Go.Sort Go.Shelf Go.Proofs.Bk Go.Proofs.Bm Go.Proofs.Op Go.Proofs.Sc Go.Proofs.Kf Go.Proofs.YtpnjhffnlafabaaGreatDoorW.PrintWords Go.Proofs.YtpnjhffnlafabaaGreatDoor.PImageBack
theorem tall_max (xs : List SG) {M : Int} (h0 : 0 ≤ M) (h1 : ∀ p ∈ stepsL (xs.map gOf) xs, p.2 ≤ M) (h2 : M = 0 ∨ ∃ p ∈ stepsL (xs.map gOf) xs, p.2 = M) : M = tallOf (xs.map gOf) := by
  unfold tallOf
  apply Int.le_antisymm
  · rw [le_max]
    rcases h2 with h | ⟨⟨k, v⟩, hp, h⟩
    · exact .inl (by omega)
    · obtain ⟨a1, a2⟩ := (mem_steps _ _ _ _).1 hp
      obtain ⟨x, hx, rfl⟩ := List.mem_map.1 a1
      refine .inr ⟨stepsOf (xs.map gOf) x.f0, List.mem_map.2 ⟨gOf x, List.mem_map.2 ⟨x, hx, rfl⟩, rfl⟩, ?_⟩
      have h : v = M := h
      omega
  · rcases (le_max _ ((xs.map gOf).map fun g => stepsOf (xs.map gOf) g.id) 0).1 (Int.le_refl _) with h | ⟨y, hy, h⟩
    · omega
    · obtain ⟨g, hg, rfl⟩ := List.mem_map.1 hy
      obtain ⟨x, hx, rfl⟩ := List.mem_map.1 hg
      have := h1 (x.f0, stepsOf (xs.map gOf) x.f0) ((mem_steps _ _ _ _).2 ⟨List.mem_map.2 ⟨x, hx, rfl⟩, rfl⟩)
      exact Int.le_trans h this
def TallPost (gs : List G) (w : World) (e : Ending) (w' : World) : Prop := e = .returned (.int .i64 (tallOf gs)) ∧ Below w.heap.size w w'
set_option maxHeartbeats 8000000 in
set_option maxRecDepth 100000 in
theorem Tall_calls (A : Option Addr) (n c : Nat) (xs : List SG) (B : Option Addr) (m d : Nat) (w : World) (hG : kG.C w A n xs) (hn : n ≤ 4096) :
    Calls Tryz.prog 47 #[.agg #[.slice A n c, .slice B m d]] w (TallPost (xs.map gOf) w) := by
  have HG := Aside0.mk hG
  clear hG
  go_enter Tryz.func47, Tryz.ntmps47
  go_wp2_with (first
    | (((with_reducible refine gate_dst (N := 1) rfl ?_); refine box_event ?hg (N := 1) ?hd (cs := #[.slice A n c, .slice B m d]) (t := 25) ?hr ?_; (case hd => rfl); (case hg => rfl); (case hr => first | (go_simp; done) | (go_simp; rfl)); intro b0 hb0 wr kb0 bb0; replace hb0 := Aside0.mk hb0; replace kb0 := Aside0.mk kb0; replace bb0 := Aside0.mk bb0); have c0 : wr.cell? ⟨b0, 0, none⟩ = some (.slice A n c) := (Kf.cell_row kb0.out 0).trans rfl; have c1 : wr.cell? ⟨b0, 1, none⟩ = some (.slice B m d) := (Kf.cell_row kb0.out 1).trans rfl))
  with_reducible refine (steps_calls A n c xs B m d wr (Kd.C_below HG.out bb0.out) hn).mono ?_
  rintro e w3 ⟨mb, rfl, hI, hmb, hB3⟩
  obtain ⟨L, hL⟩ : ∃ L, stepsL (xs.map gOf) xs = L := ⟨_, rfl⟩
  rw [hL] at hI
  have hB33 := below_step bb0.out hB3
  clear c0 c1
  replace hI := Aside0.mk hI; replace hmb := Aside0.mk hmb; replace hB3 := Aside0.mk hB3; replace hL := Aside0.mk hL; replace hB33 := Aside0.mk hB33
  go_wp2_with (first
    | (at_range; refine wpList_range_imap (enc := Value.int .i64) (q := .i64) rfl _ 113 rfl Tryz.underlying113 mb L rfl hI.out ?_; intro ob hit; replace hit := Aside0.mk hit))
  go_frame
  have hBi : Below w3.heap.size w3 (w3.alloc ob) := below_alloc (Below.refl _ _) _
  obtain ⟨it, hite⟩ : ∃ it, w3.heap.size = it := ⟨_, rfl⟩
  obtain ⟨wi, hwi⟩ : ∃ wi, w3.alloc ob = wi := ⟨_, rfl⟩
  have hits : it < wi.heap.size := by rw [← hwi, ← hite]; simp
  have hwit : w.heap.size ≤ it := by have := hB33.out.size; omega
  rw [hwi] at hBi hit ⊢
  rw [hite] at hit ⊢
  have hBw3 := below_step hB33.out hBi
  clear hwi
  replace hBi := Aside0.mk hBi; replace hite := Aside0.mk hite; replace hits := Aside0.mk hits; replace hwit := Aside0.mk hwit; replace hBw3 := Aside0.mk hBw3
  go_loopw [3] (fun t3 wr => ∃ (left : List (Int × Int)) (M : Int), t3 = .int .i64 M ∧ Aside0 (ILeft .i64 (Value.int .i64) wr it mb L left) ∧ Aside0 (KeepF (fun i => i = it) wi wr) ∧ Aside0 ((∀ p ∈ L, p ∈ left ∨ p.2 ≤ M) ∧ 0 ≤ M ∧ (M = 0 ∨ ∃ p ∈ L, p.2 = M)) ∧ Aside0 (∀ p ∈ left, p ∈ L)) (fun _ wr => wr.rangeLeft mb it)
  case atStart => exact ⟨L, 0, rfl, hit, ⟨KeepF.refl _ _⟩, ⟨fun p h => .inl h, Int.le_refl _, .inl rfl⟩, ⟨fun p h => h⟩⟩
  case round =>
    obtain ⟨left, M, rfl, hLe, hK, hV, hS⟩ := hrel
    go_wp2_with (first
      | (at_next; refine wpList_next_imap (enc := Value.int .i64) (q := .i64) rfl _ rfl it mb L left rfl hLe.out ?_ ?_)
      | go_in)
    · intro hd0
      subst hd0
      have hM : M = tallOf (xs.map gOf) := by
        rw [← hL.out] at hV
        exact tall_max xs hV.out.2.1 (fun p hp => by
          rcases hV.out.1 p hp with h | h
          · cases h
          · exact h) hV.out.2.2
      replace hM := Aside0.mk hM
      go_wp2_with fail
      go_ret
      exact ⟨by rw [← hM.out]; rfl, hBw3.out.trans (hK.out.to_below (base := w.heap.size) hBw3.out.size (fun i hi => by have := hwit.out; omega))⟩
    · intro k2 v left' w4 ob2 hp hw hl hen
      have hkw : KeepF (fun i => i = it) wr (bset w4 it ob2) := by
        rcases hw with e | e
        · subst e; exact KeepF.bset _ _ _
        · subst e; exact (KeepF.drew (KeepF.refl _ wr)).trans (F' := fun i => i = it) (KeepF.bset _ _ _) (fun _ _ h => h)
      have hK2 := hK.out.trans hkw (fun _ _ h => h)
      have hmem : (k2, v) ∈ L := hS.out _ (hp.mem_iff.2 (by simp))
      have hBf := hBw3.out.trans (hK2.to_below (base := w.heap.size) hBw3.out.size (fun i hi => by have := hwit.out; omega))
      obtain ⟨W, hW⟩ : ∃ W, bset w4 it ob2 = W := ⟨_, rfl⟩
      rw [hW] at hl hen hK2 hBf ⊢
      have hc1 := hLe.out.count
      have hc2 := hl.count
      have hlen := hp.length_eq
      simp at hlen
      clear hW hkw hw
      replace hp := Aside0.mk hp; replace hl := Aside0.mk hl; replace hK2 := Aside0.mk hK2; replace hmem := Aside0.mk hmem; replace hBf := Aside0.mk hBf; replace hc1 := Aside0.mk hc1; replace hc2 := Aside0.mk hc2
      have hM0 := hV.out.2.1
      have hnew : ∀ M2 : Int, M2 = max M v → (∀ p ∈ L, p ∈ left' ∨ p.2 ≤ M2) ∧ 0 ≤ M2 ∧ (M2 = 0 ∨ ∃ p ∈ L, p.2 = M2) := by
        rintro M2 rfl
        refine ⟨fun p hq => ?_, by omega, ?_⟩
        · rcases hV.out.1 p hq with h | h
          · rcases List.mem_cons.1 (hp.out.mem_iff.1 h) with h2 | h2
            · subst h2; exact .inr (by show v ≤ _; omega)
            · exact .inl h2
          · exact .inr (by omega)
        · rcases Int.le_total M v with h | h
          · exact .inr ⟨_, hmem.out, by show v = _; omega⟩
          · rcases hV.out.2.2 with h2 | ⟨p, hp2, h2⟩
            · exact .inl (by omega)
            · exact .inr ⟨p, hp2, by omega⟩
      replace hnew := Aside0.mk hnew
      go_wp2_with fail
      go_roundw
      case measure => show W.rangeLeft mb it < wr.rangeLeft mb it; rw [hc1.out, hc2.out]; omega
      case rel => exact ⟨left', if M < v then v else M, rfl, hl, hK2, ⟨hnew.out _ (by split <;> omega)⟩, ⟨fun p hq => hS.out p (hp.out.mem_iff.2 (List.mem_cons_of_mem _ hq))⟩⟩
end Go.Proofs.YtpnjhffnlafabaaGreatDoor.Sn
