/- steps of package scene: how many steps each group is from the top. whole and Tall of package scene. Tall of package scene. under of package scene: slices.SortFunc at groups; what the walk of the groups holds. under of package scene: what the walk holds; the sort of one key's row. under of package scene: one step of the walk, and the walk. under of package scene: the walk of a tree. under of package scene: the rows of the map while it is being filled. under of package scene. -/
import Derived.Test.YtpnjhffnlafabaaGreatDoorVScG
import Derived.Test.YtpnjhffnlafabaaGreatDoorVSc1
import Derived.Test.YtpnjhffnlafabaaGreatDoorVStD
import Derived.StillTailTactics
import Derived.Deep.RegionHeld3
namespace Go.Proofs.YtpnjhffnlafabaaGreatDoor.Sn
set_option linter.unusedVariables false
set_option linter.unusedSimpArgs false
open Go.RowKit Go.Sort Go.Shelf Go.Proofs.Bk Go.Proofs.Bm Go.Proofs.Op Go.Proofs.Sc Go.Proofs.Kf Go.Proofs.YtpnjhffnlafabaaGreatDoorW.PrintWords Go.Proofs.YtpnjhffnlafabaaGreatDoor.PImageBack
def upS (xs : List SG) : List (Int × Int) := xs.foldl (fun l x => aset l x.f0 x.f1) []
theorem upS_eq (xs : List SG) : upS xs = upOf (xs.map gOf) := by unfold upS upOf; rw [List.foldl_map]; rfl
theorem zero_int (w : World) : (zeroValue 3).run Tryz.prog w = .ok (.int .i64 0) w := Tryz.zeroValue3 w
theorem look_int {w : World} {mb : Nat} {l : List (Int × Int)} (h : IMap .i64 (Value.int .i64) w mb l) (k : Int) :
    (Instr.lookup 113 (.map (some mb)) (.int .i64 k) false).run Tryz.prog w = .ok (.int .i64 ((aget l k).getD 0)) w := by
  have := run_lookup_imap (P := Tryz.prog) Tryz.underlying113 Tryz.underlying3 (zero_int w) h k
  rw [this]
  cases aget l k <;> rfl
theorem look_up {w : World} {mb : Nat} {xs : List SG} (h : IMap .i64 (Value.int .i64) w mb (upS xs)) (k : Int) :
    (Instr.lookup 113 (.map (some mb)) (.int .i64 k) false).run Tryz.prog w = .ok (.int .i64 (up (xs.map gOf) k)) w := by
  rw [look_int h, upS_eq]; rfl
def Way (f : Int → Int) (lim : Nat) (id : Int) (j : Nat) (a : Int) : Prop := j ≤ lim ∧ climb f lim id = (j + (climb f (lim - j) a).1, (climb f (lim - j) a).2)
theorem Way.start (f : Int → Int) (lim : Nat) (id : Int) : Way f lim id 0 id := ⟨Nat.zero_le _, by simp⟩
theorem Way.step {f : Int → Int} {lim : Nat} {id : Int} {j : Nat} {a : Int} (h : Way f lim id j a) (hf : f a ≠ 0) (hj : j < lim) : Way f lim id (j + 1) (f a) := by
  refine ⟨hj, ?_⟩
  rw [h.2]
  obtain ⟨r, hr⟩ : ∃ r, lim - j = r + 1 := ⟨lim - j - 1, by omega⟩
  have hr2 : lim - (j + 1) = r := by omega
  rw [hr, hr2, climb, if_neg hf]
  simp only [Prod.mk.injEq, and_true]; omega
theorem Way.stop {f : Int → Int} {lim : Nat} {id : Int} {j : Nat} {a : Int} (h : Way f lim id j a) (hs : f a = 0 ∨ j = lim) : climb f lim id = (j, a) := by
  rw [h.2]
  have e : climb f (lim - j) a = (0, a) := by
    cases hr : lim - j with
    | zero => rfl
    | succ r =>
      rcases hs with hs | hs
      · rw [climb, if_pos hs]
      · omega
  rw [e]; simp
def stepsL (gs : List G) (xs : List SG) : List (Int × Int) := xs.foldl (fun l x => aset l x.f0 (stepsOf gs x.f0)) []
def StepsPost (gs : List G) (xs : List SG) (w : World) (e : Ending) (w' : World) : Prop := ∃ mb, e = .returned (.map (some mb)) ∧ IMap .i64 (Value.int .i64) w' mb (stepsL gs xs) ∧ w.heap.size ≤ mb ∧ Below w.heap.size w w'
set_option maxHeartbeats 8000000 in
set_option maxRecDepth 100000 in
theorem steps_calls (A : Option Addr) (n c : Nat) (xs : List SG) (B : Option Addr) (m d : Nat) (w : World) (hG : kG.C w A n xs) (hn : n ≤ 4096) :
    Calls Tryz.prog 77 #[.agg #[.slice A n c, .slice B m d]] w (StepsPost (xs.map gOf) xs w) := by
  have hln := hG.1
  have HG := Aside0.mk hG
  clear hG
  replace hln := Aside0.mk hln
  go_enter Tryz.func77, Tryz.ntmps77
  go_wp2_with (first
    | (((with_reducible refine gate_dst (N := 1) rfl ?_); refine box_event ?hg (N := 1) ?hd (cs := #[.slice A n c, .slice B m d]) (t := 25) ?hr ?_; (case hd => rfl); (case hg => rfl); (case hr => first | (go_simp; done) | (go_simp; rfl)); intro b0 hb0 w1 kb0 bb0; replace hb0 := Aside0.mk hb0; replace kb0 := Aside0.mk kb0; replace bb0 := Aside0.mk bb0); have c0 : w1.cell? ⟨b0, 0, none⟩ = some (.slice A n c) := (Kf.cell_row kb0.out 0).trans rfl)
    | (((with_reducible refine gate_dst (N := 11) rfl ?_); refine mkmap_event ?hg (N := 11) ?hd 113 ?ho ?_; (case hd => rfl); (case hg => rfl); (case ho => rfl); intro mu hmu w2 kmu bmu; replace hmu := Aside0.mk hmu; replace kmu := Aside0.mk kmu; replace bmu := Aside0.mk bmu); have c0 := pw_cell_below bmu.out c0))
  have hb0s := lt_row kb0.out
  have hmu0 : b0 < mu := by have := hmu.out; omega
  have hwm : w.heap.size ≤ mu := by have := hmu.out; have := bb0.out.size; omega
  have hB2 := below_step bb0.out bmu.out
  have hI0 : IMap .i64 (Value.int .i64) w2 mu [] := Kf.IMap.new kmu.out
  have q0 : w2.cell? ⟨b0, 0, none⟩ = some (.slice A n c) := by assumption
  replace hb0s := Aside0.mk hb0s; replace hmu0 := Aside0.mk hmu0; replace hwm := Aside0.mk hwm; replace hB2 := Aside0.mk hB2; replace hI0 := Aside0.mk hI0; replace q0 := Aside0.mk q0
  go_loopw [15] (fun t15 wr => ∃ (k : Nat), t15 = .int .i64 k ∧ k ≤ n ∧ Aside0 (IMap .i64 (Value.int .i64) wr mu ((xs.take k).foldl (fun l x => aset l x.f0 x.f1) [])) ∧ Aside0 (KeepF (fun i => i = mu) w2 wr)) (fun t15 _ => n - (intOf t15).toNat)
  case atStart => exact ⟨0, rfl, Nat.zero_le _, hI0, ⟨KeepF.refl _ _⟩⟩
  case round =>
    obtain ⟨k, rfl, hk, hI, hK⟩ := hrel
    have c0 := keepF_cell hK.out q0.out (show ¬ b0 = mu by have := hmu0.out; omega)
    have hBr := hB2.out.trans (hK.out.to_below (base := w.heap.size) hB2.out.size (fun i hi => by have := hwm.out; omega))
    replace hBr := Aside0.mk hBr
    by_cases hlt : k < n
    · have p1 : (0 : Int) ≤ (k : Int) := by omega
      have q1' : (k : Int) < (n : Int) := by omega
      obtain ⟨ad, x, rfl, hx, hcs⟩ := G_cells (Kd.C_below HG.out hBr.out) hlt
      have htk : xs.take (k + 1) = xs.take k ++ [x] := by rw [List.take_add_one, hx]; rfl
      have e1 := one_G x
      change ∀ v ∈ ([.int .i64 x.f0, .int .i64 x.f1, .int .i64 x.f2, .int .i64 x.f3.f0, .int .i64 x.f3.f1, .int .i64 x.f3.f2] : List Value), v.oneCell' = true at e1
      change ∀ i u, ([.int .i64 x.f0, .int .i64 x.f1, .int .i64 x.f2, .int .i64 x.f3.f0, .int .i64 x.f3.f1, .int .i64 x.f3.f2] : List Value)[i]? = some u → wr.cell? ((ad.add (k * 6)).add i) = some u at hcs
      have hmr := hI.out.lt
      replace hx := Aside0.mk hx; replace hcs := Aside0.mk hcs; replace htk := Aside0.mk htk; replace e1 := Aside0.mk e1; replace hmr := Aside0.mk hmr
      go_wp2_with (first
        | ((with_reducible refine gate_op (.load 50 (.tmp 17)) rfl ?_); refine wpList_load_midB rfl _ _ rfl (ad.add (k * 6)) rfl ([.int .i64 x.f0, .int .i64 x.f1, .int .i64 x.f2, .int .i64 x.f3.f0, .int .i64 x.f3.f1, .int .i64 x.f3.f2] : List Value) _ hcs.out Tryz.underlying50 rfl info_G ?_)
        | (((with_reducible refine gate_dst (N := 5) rfl ?_); refine box_event ?hg (N := 5) ?hd (cs := zG.toArray) (t := 50) ?hr ?_; (case hd => rfl); (case hg => rfl); (case hr => first | (go_simp; done) | (go_simp; rfl)); intro gb hgb w7 kgb bgb; replace hgb := Aside0.mk hgb; replace kgb := Aside0.mk kgb; replace bgb := Aside0.mk bgb))
        | (((with_reducible refine gate_op (.store 50 (.tmp 5) (.tmp 18)) rfl ?_); refine wpList_store_midB rfl _ _ _ rfl gb 0 ([.int .i64 x.f0, .int .i64 x.f1, .int .i64 x.f2, .int .i64 x.f3.f0, .int .i64 x.f3.f1, .int .i64 x.f3.f2] : List Value) rfl rfl 50 zG kgb.out info_G (Nat.le_refl _) e1.out ?_; obtain ⟨kk, bb⟩ := boxed (cs := zG) (cs2 := ([.int .i64 x.f0, .int .i64 x.f1, .int .i64 x.f2, .int .i64 x.f3.f0, .int .i64 x.f3.f1, .int .i64 x.f3.f2] : List Value)) hgb.out kgb.out bgb.out rfl; revert kk bb; generalize World.setRow _ gb (splice zG 0 ([.int .i64 x.f0, .int .i64 x.f1, .int .i64 x.f2, .int .i64 x.f3.f0, .int .i64 x.f3.f1, .int .i64 x.f3.f2] : List Value)).toArray = w8; clear kgb bgb; intro kgb bgb; replace kgb := Aside0.mk kgb; replace bgb := Aside0.mk bgb); replace c0 := pw_cell_below bgb.out c0; have g0 : w8.cell? ⟨gb, 0, none⟩ = some (.int .i64 x.f0) := (Kf.cell_row kgb.out 0).trans rfl; have g1 : w8.cell? ⟨gb, 1, none⟩ = some (.int .i64 x.f1) := (Kf.cell_row kgb.out 1).trans rfl; have hI8 := Aside0.mk (hI.out.of_block (bgb.out.block _ hmr.out)))
        | ((with_reducible refine gate_op (.mapUpdate 113 (.tmp 19) (.tmp 21) (.tmp 23)) rfl ?_); refine wpList_mapUpdate_imap (enc := Value.int .i64) rfl _ _ _ 113 rfl Tryz.underlying113 Tryz.underlying3 mu _ x.f0 x.f1 rfl rfl rfl hI8.out ?_; intro ob hM9; replace hM9 := Aside0.mk hM9))
      go_roundw
      case measure => show n - ((k : Int) + 1).toNat < n - (k : Int).toNat; omega
      case rel => exact ⟨k + 1, by simp, by omega, ⟨by rw [htk.out, List.foldl_append]; exact hM9.out⟩, ⟨(hK.out.trans (KeepF.of_below (F := fun i => i = mu) bgb.out) (fun _ _ h => h)).trans (KeepF.bset w8 mu ob) (fun _ _ h => h)⟩⟩
    · obtain rfl : k = n := by omega
      have hall : xs.take k = xs := List.take_of_length_le (by rw [hln.out]; exact Nat.le_refl _)
      rw [hall] at hI
      have hI : Aside0 (IMap .i64 (Value.int .i64) wr mu (upS xs)) := hI
      clear hlt
      replace hall := Aside0.mk hall
      go_wp2_with (first
        | (((with_reducible refine gate_dst (N := 25) rfl ?_); refine mkmap_event ?hg (N := 25) ?hd 113 ?ho ?_; (case hd => rfl); (case hg => rfl); (case ho => rfl); intro mo hmo w3 kmo bmo; replace hmo := Aside0.mk hmo; replace kmo := Aside0.mk kmo; replace bmo := Aside0.mk bmo); replace c0 := pw_cell_below bmo.out c0))
      have hmulr := hI.out.lt
      have hmm : mu < mo := by have := hmo.out; omega
      have hwo : w.heap.size ≤ mo := by have := hwm.out; omega
      have hI3 := hI.out.of_block (bmo.out.block _ hmulr)
      have hB3 := below_step hBr.out bmo.out
      have hO0 : IMap .i64 (Value.int .i64) w3 mo [] := Kf.IMap.new kmo.out
      have h0o : b0 < mo := by have := hmu0.out; omega
      obtain ⟨gs, hgs⟩ : ∃ gs, xs.map gOf = gs := ⟨_, rfl⟩
      rw [hgs]
      replace hmm := Aside0.mk hmm; replace hwo := Aside0.mk hwo; replace hI3 := Aside0.mk hI3; replace hB3 := Aside0.mk hB3; replace hO0 := Aside0.mk hO0; replace h0o := Aside0.mk h0o; replace hgs := Aside0.mk hgs
      have q3 := c0
      clear c0
      go_loopw [29] (fun t29 wr => ∃ (k' : Nat), t29 = .int .i64 k' ∧ k' ≤ k ∧ Aside0 (IMap .i64 (Value.int .i64) wr mo ((xs.take k').foldl (fun l x => aset l x.f0 (stepsOf gs x.f0)) [])) ∧ Aside0 (KeepF (fun i => i = mo) w3 wr)) (fun t29 _ => k - (intOf t29).toNat)
      case atStart => exact ⟨0, rfl, Nat.zero_le _, hO0, ⟨KeepF.refl _ _⟩⟩
      case round =>
        obtain ⟨k', rfl, hk', hO, hK3⟩ := hrel
        have c0 := keepF_cell hK3.out q3 (show ¬ b0 = mo by have := h0o.out; omega)
        have hBr := hB3.out.trans (hK3.out.to_below (base := w.heap.size) hB3.out.size (fun i hi => by have := hwo.out; omega))
        have hIr := hI3.out.of_block (hK3.out.block _ hI3.out.lt (by have := hmm.out; omega))
        replace hBr := Aside0.mk hBr; replace hIr := Aside0.mk hIr
        by_cases hlt : k' < k
        · have p1 : (0 : Int) ≤ (k' : Int) := by omega
          have q1' : (k' : Int) < (k : Int) := by omega
          obtain ⟨ad, x, rfl, hx, hcs⟩ := G_cells (Kd.C_below HG.out hBr.out) hlt
          obtain ⟨ad2, y, had2, hy, hcy⟩ := G_cells (Kd.C_below HG.out hBr.out) (show 0 < k by omega)
          obtain rfl : ad = ad2 := Option.some.inj had2
          have hhd : headId gs = y.f0 := by
            rw [← hgs.out]
            cases xs with
            | nil => simp at hy
            | cons z zs => simp at hy; subst hy; rfl
          have hgl : gs.length = k := by rw [← hgs.out, List.length_map, hln.out]
          have htk : xs.take (k' + 1) = xs.take k' ++ [x] := by rw [List.take_add_one, hx]; rfl
          have e1 := one_G x
          change ∀ v ∈ ([.int .i64 x.f0, .int .i64 x.f1, .int .i64 x.f2, .int .i64 x.f3.f0, .int .i64 x.f3.f1, .int .i64 x.f3.f2] : List Value), v.oneCell' = true at e1
          change ∀ i u, ([.int .i64 x.f0, .int .i64 x.f1, .int .i64 x.f2, .int .i64 x.f3.f0, .int .i64 x.f3.f1, .int .i64 x.f3.f2] : List Value)[i]? = some u → wr.cell? ((ad.add (k' * 6)).add i) = some u at hcs
          have hy0 : wr.cell? ad = some (.int .i64 y.f0) := by have := hcy 0 (.int .i64 y.f0) rfl; rw [Nat.zero_mul] at this; exact this
          have hmr := hO.out.lt
          have hmi := hIr.out.lt
          obtain ⟨id, hid⟩ : ∃ id, x.f0 = id := ⟨_, rfl⟩
          rw [hid] at e1 hcs
          replace hx := Aside0.mk hx; replace hcs := Aside0.mk hcs; replace htk := Aside0.mk htk; replace e1 := Aside0.mk e1; replace hmr := Aside0.mk hmr; replace hmi := Aside0.mk hmi; replace hhd := Aside0.mk hhd; replace hgl := Aside0.mk hgl; replace hy := Aside0.mk hy; replace hcy := Aside0.mk hcy; replace hid := Aside0.mk hid
          go_wp2_with (first
            | ((with_reducible refine gate_op (.load 50 (.tmp 31)) rfl ?_); refine wpList_load_midB rfl _ _ rfl (ad.add (k' * 6)) rfl ([.int .i64 id, .int .i64 x.f1, .int .i64 x.f2, .int .i64 x.f3.f0, .int .i64 x.f3.f1, .int .i64 x.f3.f2] : List Value) _ hcs.out Tryz.underlying50 rfl info_G ?_)
            | (((with_reducible refine gate_dst (N := 8) rfl ?_); refine box_event ?hg (N := 8) ?hd (cs := zG.toArray) (t := 50) ?hr ?_; (case hd => rfl); (case hg => rfl); (case hr => first | (go_simp; done) | (go_simp; rfl)); intro gb hgb w7 kgb bgb; replace hgb := Aside0.mk hgb; replace kgb := Aside0.mk kgb; replace bgb := Aside0.mk bgb))
            | (((with_reducible refine gate_op (.store 50 (.tmp 8) (.tmp 32)) rfl ?_); refine wpList_store_midB rfl _ _ _ rfl gb 0 ([.int .i64 id, .int .i64 x.f1, .int .i64 x.f2, .int .i64 x.f3.f0, .int .i64 x.f3.f1, .int .i64 x.f3.f2] : List Value) rfl rfl 50 zG kgb.out info_G (Nat.le_refl _) e1.out ?_; obtain ⟨kk, bb⟩ := boxed (cs := zG) (cs2 := ([.int .i64 id, .int .i64 x.f1, .int .i64 x.f2, .int .i64 x.f3.f0, .int .i64 x.f3.f1, .int .i64 x.f3.f2] : List Value)) hgb.out kgb.out bgb.out rfl; revert kk bb; generalize World.setRow _ gb (splice zG 0 ([.int .i64 id, .int .i64 x.f1, .int .i64 x.f2, .int .i64 x.f3.f0, .int .i64 x.f3.f1, .int .i64 x.f3.f2] : List Value)).toArray = w8; clear kgb bgb; intro kgb bgb; replace kgb := Aside0.mk kgb; replace bgb := Aside0.mk bgb); replace c0 := pw_cell_below bgb.out c0; replace hy0 := pw_cell_below bgb.out hy0; have g0 : w8.cell? ⟨gb, 0, none⟩ = some (.int .i64 id) := (Kf.cell_row kgb.out 0).trans rfl; have hO8 := Aside0.mk (hO.out.of_block (bgb.out.block _ hmr.out)); have hI8 := Aside0.mk (hIr.out.of_block (bgb.out.block _ hmi.out))))
          go_quiet (fail)
          have hBz : Below wr.heap.size wr (w8.drewN nq) := pw_below_drewN bgb.out nq
          have z0 : (w8.drewN nq).cell? ⟨b0, 0, none⟩ = some (.slice (some ad) k c) := c0
          have z1 : (w8.drewN nq).cell? ad = some (.int .i64 y.f0) := hy0
          have z2 : (w8.drewN nq).cell? ⟨gb, 0, none⟩ = some (.int .i64 id) := g0
          have hOz : IMap .i64 (Value.int .i64) (w8.drewN nq) mo _ := hO8.out.of_block rfl
          have hIz : IMap .i64 (Value.int .i64) (w8.drewN nq) mu (upS xs) := hI8.out.of_block rfl
          clear c0 hy0 g0 kgb bgb hO8 hI8
          obtain ⟨wz, hwz⟩ : ∃ wz, w8.drewN nq = wz := ⟨_, rfl⟩
          rw [hwz] at hBz z0 z1 z2 hOz hIz ⊢
          clear hwz
          have hlk : ∀ a, (Instr.lookup 113 (.map (some mu)) (.int .i64 a) false).run Tryz.prog wz = .ok (.int .i64 (up gs a)) wz := fun a => by rw [look_up hIz, hgs.out]
          have hkk : (k : Int) ≤ 4096 := by omega
          replace hBz := Aside0.mk hBz; replace hOz := Aside0.mk hOz; replace hIz := Aside0.mk hIz; replace hlk := Aside0.mk hlk
          go_wp2_with fail
          go_loop [9, 10] (fun t9 t10 => ∃ (j : Nat) (a : Int), t9 = .int .i64 j ∧ t10 = .int .i64 a ∧ Aside0 (Way (up gs) (k + 1) id j a)) (fun t9 _ => k + 1 - (intOf t9).toNat)
          case atStart => exact ⟨0, id, rfl, rfl, ⟨Way.start _ _ _⟩⟩
          case round =>
            obtain ⟨j, a, rfl, rfl, hW⟩ := hrel
            have hj := hW.out.1
            have hla := hlk.out a
            obtain ⟨u, hu⟩ : ∃ u, up gs a = u := ⟨_, rfl⟩
            rw [hu] at hla
            by_cases hgo : u ≠ 0 ∧ j ≤ k
            · obtain ⟨hu0, hjk⟩ := hgo
              have hjk' : (j : Int) ≤ (k : Int) := by omega
              have hu1 : (u != 0) = true := by simpa using hu0
              have hu2 : (u == 0) = false := by simpa using hu0
              have hW2 := hW.out.step (by rw [hu]; exact hu0) (by omega)
              rw [hu] at hW2
              replace hW2 := Aside0.mk hW2; replace hu := Aside0.mk hu
              go_wp2_with fail
              go_round
              case measure => show k + 1 - ((j : Int) + 1).toNat < k + 1 - (j : Int).toNat; omega
              case rel => exact ⟨j + 1, u, by simp, rfl, hW2⟩
            · have hst : climb (up gs) (gs.length + 1) id = (j, a) := by
                rw [hgl.out]
                refine hW.out.stop ?_
                rw [hu]
                by_cases h0 : u = 0
                · exact .inl h0
                · right
                  have : ¬ j ≤ k := fun h => hgo ⟨h0, h⟩
                  omega
              have hway : (u = 0 ∧ j ≤ k) ∨ (u = 0 ∧ ¬ j ≤ k) ∨ (u ≠ 0 ∧ ¬ j ≤ k) := by
                by_cases h0 : u = 0
                · by_cases h1 : j ≤ k
                  · exact .inl ⟨h0, h1⟩
                  · exact .inr (.inl ⟨h0, h1⟩)
                · exact .inr (.inr ⟨h0, fun h => hgo ⟨h0, h⟩⟩)
              have hsteps : stepsOf gs id = if j ≤ k ∧ a = y.f0 then (j : Int) else -1 := by
                unfold stepsOf
                rw [hst, hhd.out, hgl.out]
                by_cases h1 : j ≤ k ∧ a = y.f0
                · rw [if_pos h1, if_neg]
                  rintro (h | ⟨_, h⟩)
                  · simp at h; omega
                  · exact h h1.2
                · rw [if_neg h1, if_pos]
                  by_cases h2 : j ≤ k
                  · right; exact ⟨by omega, fun h3 => h1 ⟨h2, h3⟩⟩
                  · left; simp; omega
              clear hgo
              have hkpos : (0 : Int) < (k : Int) := by omega
              replace hst := Aside0.mk hst; replace hsteps := Aside0.mk hsteps; replace hu := Aside0.mk hu
              have fin : ∀ (r : Int) (wf : World), r = stepsOf gs id → wf = wz → True := fun _ _ _ _ => trivial
              clear fin
              have hjk : (j ≤ k ∧ a = y.f0) ∨ (j ≤ k ∧ a ≠ y.f0) ∨ ¬ j ≤ k := by
                by_cases h1 : j ≤ k
                · by_cases h2 : a = y.f0
                  · exact .inl ⟨h1, h2⟩
                  · exact .inr (.inl ⟨h1, h2⟩)
                · exact .inr (.inr h1)
              obtain ⟨yv, hyv⟩ : ∃ yv, y.f0 = yv := ⟨_, rfl⟩
              rw [hyv] at z1 hjk hsteps
              replace hyv := Aside0.mk hyv
              rcases hjk with ⟨h1, h2⟩ | ⟨h1, h2⟩ | h1
              · subst h2
                have hs : stepsOf gs id = (j : Int) := by rw [hsteps.out, if_pos ⟨h1, rfl⟩]
                have hu0 : u = 0 := by rcases hway with h | h | h <;> omega
                subst hu0
                have hjk' : (j : Int) ≤ (k : Int) := by omega
                have hjk2 : ¬ (k : Int) < (j : Int) := by omega
                clear hway
                replace hs := Aside0.mk hs
                go_wp2_with (first
                  | ((with_reducible refine gate_op (.mapUpdate 113 (.tmp 71) (.tmp 73) (.tmp 74)) rfl ?_); refine wpList_mapUpdate_imap (enc := Value.int .i64) rfl _ _ _ 113 rfl Tryz.underlying113 Tryz.underlying3 mo _ id (j : Int) rfl rfl rfl hOz.out ?_; intro ob hM9; replace hM9 := Aside0.mk hM9))
                go_roundw
                case measure => show k - ((k' : Int) + 1).toNat < k - (k' : Int).toNat; omega
                case rel => exact ⟨k' + 1, by simp, by omega, ⟨by rw [htk.out, List.foldl_append]; show IMap _ _ _ _ (aset _ x.f0 (stepsOf gs x.f0)); rw [hid.out, hs.out]; exact hM9.out⟩, ⟨(hK3.out.trans (KeepF.of_below (F := fun i => i = mo) hBz.out) (fun _ _ h => h)).trans (KeepF.bset wz mo ob) (fun _ _ h => h)⟩⟩
              · have hs : stepsOf gs id = -1 := by rw [hsteps.out, if_neg (fun h => h2 h.2)]
                have hu0 : u = 0 := by rcases hway with h | h | h <;> omega
                subst hu0
                have hjk' : (j : Int) ≤ (k : Int) := by omega
                have hjk2 : ¬ (k : Int) < (j : Int) := by omega
                have h2' : (a == yv) = false := by simpa using h2
                have h2'' : (a != yv) = true := by simpa using h2
                clear hway
                replace hs := Aside0.mk hs
                go_wp2_with (first
                  | ((with_reducible refine gate_op (.mapUpdate 113 (.tmp 71) (.tmp 73) (.tmp 74)) rfl ?_); refine wpList_mapUpdate_imap (enc := Value.int .i64) rfl _ _ _ 113 rfl Tryz.underlying113 Tryz.underlying3 mo _ id (-1) rfl rfl rfl hOz.out ?_; intro ob hM9; replace hM9 := Aside0.mk hM9))
                go_roundw
                case measure => show k - ((k' : Int) + 1).toNat < k - (k' : Int).toNat; omega
                case rel => exact ⟨k' + 1, by simp, by omega, ⟨by rw [htk.out, List.foldl_append]; show IMap _ _ _ _ (aset _ x.f0 (stepsOf gs x.f0)); rw [hid.out, hs.out]; exact hM9.out⟩, ⟨(hK3.out.trans (KeepF.of_below (F := fun i => i = mo) hBz.out) (fun _ _ h => h)).trans (KeepF.bset wz mo ob) (fun _ _ h => h)⟩⟩
              · have hs : stepsOf gs id = -1 := by rw [hsteps.out, if_neg (fun h => h1 h.1)]
                have hjk' : ¬ (j : Int) ≤ (k : Int) := by omega
                have hjk2 : (k : Int) < (j : Int) := by omega
                have hu0 : u = 0 ∨ u ≠ 0 := by by_cases h : u = 0; exact .inl h; exact .inr h
                clear hway
                replace hs := Aside0.mk hs
                rcases hu0 with hu0 | hu0
                · subst hu0
                  go_wp2_with (first
                    | ((with_reducible refine gate_op (.mapUpdate 113 (.tmp 71) (.tmp 73) (.tmp 74)) rfl ?_); refine wpList_mapUpdate_imap (enc := Value.int .i64) rfl _ _ _ 113 rfl Tryz.underlying113 Tryz.underlying3 mo _ id (-1) rfl rfl rfl hOz.out ?_; intro ob hM9; replace hM9 := Aside0.mk hM9))
                  go_roundw
                  case measure => show k - ((k' : Int) + 1).toNat < k - (k' : Int).toNat; omega
                  case rel => exact ⟨k' + 1, by simp, by omega, ⟨by rw [htk.out, List.foldl_append]; show IMap _ _ _ _ (aset _ x.f0 (stepsOf gs x.f0)); rw [hid.out, hs.out]; exact hM9.out⟩, ⟨(hK3.out.trans (KeepF.of_below (F := fun i => i = mo) hBz.out) (fun _ _ h => h)).trans (KeepF.bset wz mo ob) (fun _ _ h => h)⟩⟩
                · have hu1 : (u != 0) = true := by simpa using hu0
                  have hu2 : (u == 0) = false := by simpa using hu0
                  go_wp2_with (first
                    | ((with_reducible refine gate_op (.mapUpdate 113 (.tmp 71) (.tmp 73) (.tmp 74)) rfl ?_); refine wpList_mapUpdate_imap (enc := Value.int .i64) rfl _ _ _ 113 rfl Tryz.underlying113 Tryz.underlying3 mo _ id (-1) rfl rfl rfl hOz.out ?_; intro ob hM9; replace hM9 := Aside0.mk hM9))
                  go_roundw
                  case measure => show k - ((k' : Int) + 1).toNat < k - (k' : Int).toNat; omega
                  case rel => exact ⟨k' + 1, by simp, by omega, ⟨by rw [htk.out, List.foldl_append]; show IMap _ _ _ _ (aset _ x.f0 (stepsOf gs x.f0)); rw [hid.out, hs.out]; exact hM9.out⟩, ⟨(hK3.out.trans (KeepF.of_below (F := fun i => i = mo) hBz.out) (fun _ _ h => h)).trans (KeepF.bset wz mo ob) (fun _ _ h => h)⟩⟩
        · obtain rfl : k' = k := by omega
          rw [hall.out] at hO
          clear hlt
          go_wp2_with fail
          go_ret
          exact ⟨mo, rfl, by rw [hgs.out]; exact hO.out, hwo.out, hBr.out⟩
end Go.Proofs.YtpnjhffnlafabaaGreatDoor.Sn
namespace Go.Proofs.YtpnjhffnlafabaaGreatDoor.Sn
set_option linter.unusedVariables false
set_option linter.unusedSimpArgs false
attribute [local go_sem] Go.Proofs.YtpnjhffnlafabaaGreatDoorW.PrintMore.max2_int Go.Proofs.YtpnjhffnlafabaaGreatDoorW.PrintMore.min2_int Go.Proofs.YtpnjhffnlafabaaGreatDoorW.PrintMore.max_two Go.Proofs.YtpnjhffnlafabaaGreatDoorW.PrintMore.min_two
open Go.RowKit Go.Sort Go.Shelf Go.Proofs.Bk Go.Proofs.Bm Go.Proofs.Op Go.Proofs.Sc Go.Proofs.Kf Go.Proofs.YtpnjhffnlafabaaGreatDoorW.PrintWords Go.Proofs.YtpnjhffnlafabaaGreatDoor.PImageBack
theorem plainG_iff : ∀ (gs : List G) (seen : List Int), plainG gs seen = true ↔ ∀ i x, gs[i]? = some x → x.parent ≠ 0 ∧ x.id ∉ seen ++ gids (gs.take i)
  | [], seen => by simp [plainG]
  | g :: gs, seen => by
    unfold plainG
    rw [Bool.and_eq_true, plainG_iff gs]
    constructor
    · rintro ⟨h1, h2⟩ i x hx
      cases i with
      | zero => simp at hx; subst hx; simpa [gids] using h1
      | succ i =>
        have := h2 i x (by simpa using hx)
        simpa [gids] using this
    · intro h
      refine ⟨by have := h 0 g rfl; simpa [gids] using this, fun i x hx => ?_⟩
      have := h (i + 1) x (by simpa using hx)
      simpa [gids] using this
theorem tailPlain_iff (gs : List G) : tailPlain gs = true ↔ ∀ i x, 0 < i → gs[i]? = some x → x.parent ≠ 0 ∧ x.id ∉ gids (gs.take i) := by
  cases gs with
  | nil => simp [tailPlain]
  | cons g gs =>
    unfold tailPlain
    simp only []
    rw [plainG_iff]
    constructor
    · intro h i x hi hx
      obtain ⟨j, rfl⟩ : ∃ j, i = j + 1 := ⟨i - 1, by omega⟩
      have := h j x (by simpa using hx)
      simpa [gids] using this
    · intro h i x hx
      have := h (i + 1) x (by omega) (by simpa using hx)
      simpa [gids] using this
theorem aget_fun (f : Int → Int) (k : Int) : ∀ (xs : List SG) (l : List (Int × Int)), aget (xs.foldl (fun l x => aset l x.f0 (f x.f0)) l) k = if k ∈ xs.map (·.f0) then some (f k) else aget l k
  | [], l => by simp
  | x :: xs, l => by
    rw [List.foldl_cons, aget_fun f k xs, aget_aset]
    by_cases h : k ∈ xs.map (·.f0)
    · rw [if_pos h, if_pos (by simp only [List.map_cons, List.mem_cons]; exact .inr h)]
    · rw [if_neg h]
      by_cases h2 : k = x.f0
      · rw [if_pos h2, if_pos (by simp only [List.map_cons, List.mem_cons]; exact .inl h2), h2]
      · rw [if_neg h2, if_neg]
        simp only [List.map_cons, List.mem_cons, not_or]
        exact ⟨h2, h⟩
theorem nodup_fold (f : Int → Int) : ∀ (xs : List SG) (l : List (Int × Int)), (l.map (·.1)).Nodup → ((xs.foldl (fun l x => aset l x.f0 (f x.f0)) l).map (·.1)).Nodup
  | [], l, h => h
  | x :: xs, l, h => nodup_fold f xs _ (nodup_aset h _ _)
theorem mem_steps (gs : List G) (xs : List SG) (k v : Int) : (k, v) ∈ stepsL gs xs ↔ k ∈ xs.map (·.f0) ∧ v = stepsOf gs k := by
  have hn : ((stepsL gs xs).map (·.1)).Nodup := nodup_fold _ xs [] (by simp)
  rw [← aget_some_iff hn, show aget (stepsL gs xs) k = _ from aget_fun (stepsOf gs) k xs []]
  by_cases h : k ∈ xs.map (·.f0)
  · rw [if_pos h]; simp [h, eq_comm]
  · rw [if_neg h]; simp [h, aget_nil]
theorem all_steps (xs : List SG) : ((xs.map gOf).all fun g => decide (0 ≤ stepsOf (xs.map gOf) g.id)) = true ↔ ∀ p ∈ stepsL (xs.map gOf) xs, 0 ≤ p.2 := by
  rw [List.all_eq_true]
  constructor
  · rintro h ⟨k, v⟩ hp
    obtain ⟨h1, h2⟩ := (mem_steps _ _ _ _).1 hp
    obtain ⟨x, hx, rfl⟩ := List.mem_map.1 h1
    have := h (gOf x) (List.mem_map.2 ⟨x, hx, rfl⟩)
    show 0 ≤ v
    rw [h2]; exact of_decide_eq_true this
  · intro h g hg
    obtain ⟨x, hx, rfl⟩ := List.mem_map.1 hg
    have := h (x.f0, stepsOf (xs.map gOf) x.f0) ((mem_steps _ _ _ _).2 ⟨List.mem_map.2 ⟨x, hx, rfl⟩, rfl⟩)
    exact decide_eq_true this
set_option maxHeartbeats 2000000 in
theorem predTwice (w : World) (gb : Nat) (x : SG) (h4 : w.heap[gb]? = some (.cells ([.int .i64 x.f0, .int .i64 x.f1, .int .i64 x.f2, .int .i64 x.f3.f0, .int .i64 x.f3.f1, .int .i64 x.f3.f2] : List Value).toArray 50 (0, 0))) :
    PredBelow Tryz.prog 76 #[.pointer (some ⟨gb, 0, none⟩)] (fun x => .agg (gC x).toArray) (fun y => decide (y.f0 = x.f0)) w := fun W y hb => by
  have h4W := (hb.block _ (lt_row h4)).trans h4
  have hb4 : gb < W.heap.size := lt_row h4W
  show Calls Tryz.prog 76 #[.agg ([.int .i64 y.f0, .int .i64 y.f1, .int .i64 y.f2, .int .i64 y.f3.f0, .int .i64 y.f3.f1, .int .i64 y.f3.f2] : List Value).toArray, .pointer (some ⟨gb, 0, none⟩)] W fun e w' => e = .returned (.bool (decide (y.f0 = x.f0))) ∧ Below w.heap.size w w'
  obtain ⟨yv, hyv⟩ : ∃ yv, y.f0 = yv := ⟨_, rfl⟩
  obtain ⟨xv, hxv⟩ : ∃ xv, x.f0 = xv := ⟨_, rfl⟩
  rw [hxv] at h4W
  rw [hyv, hxv]
  obtain ⟨r, hr⟩ : ∃ r, decide (yv = xv) = r := ⟨_, rfl⟩
  have hr2 : (yv == xv) = r := by rw [← hr]; rfl
  rw [hr]
  replace h4W := Aside0.mk h4W; replace h4 := Aside0.mk h4; replace hb := Aside0.mk hb; replace hyv := Aside0.mk hyv; replace hxv := Aside0.mk hxv; replace hr := Aside0.mk hr
  go_enter Tryz.func76, Tryz.ntmps76
  go_wp2_with (first
    | (((with_reducible refine gate_dst (N := 2) rfl ?_); refine box_event ?hg (N := 2) ?hd (cs := ([.int .i64 yv, .int .i64 y.f1, .int .i64 y.f2, .int .i64 y.f3.f0, .int .i64 y.f3.f1, .int .i64 y.f3.f2] : List Value).toArray) (t := 50) ?hr ?_; (case hd => rfl); (case hg => rfl); (case hr => first | (go_simp; done) | (go_simp; rfl)); intro g2 hg2 w1 kg2 bg2; replace hg2 := Aside0.mk hg2; replace kg2 := Aside0.mk kg2; replace bg2 := Aside0.mk bg2); have c4 : w1.cell? ⟨gb, 0, none⟩ = some (.int .i64 xv) := pw_cell_below bg2.out ((Kf.cell_row h4W.out 0).trans rfl); have g1 : w1.cell? ⟨g2, 0, none⟩ = some (.int .i64 yv) := (Kf.cell_row kg2.out 0).trans rfl))
  go_ret
  exact ⟨rfl, hb.out.trans (bg2.out.mono hb.out.size)⟩
def WholePost (gs : List G) (w : World) (e : Ending) (w' : World) : Prop := e = .returned (.bool (wholeOf gs)) ∧ Below w.heap.size w w'
set_option maxHeartbeats 8000000 in
set_option maxRecDepth 100000 in
theorem whole_calls (A : Option Addr) (n c : Nat) (xs : List SG) (B : Option Addr) (m d : Nat) (w : World) (hG : kG.C w A n xs) (hc : n ≤ c) (hn : n ≤ 4096) :
    Calls Tryz.prog 44 #[.agg #[.slice A n c, .slice B m d]] w (WholePost (xs.map gOf) w) := by
  have hln := hG.1
  have hnc : (n : Int) ≤ (c : Int) := by omega
  have HG := Aside0.mk hG
  clear hG
  replace hln := Aside0.mk hln; replace hc := Aside0.mk hc
  go_enter Tryz.func44, Tryz.ntmps44
  go_wp2_with (first
    | (((with_reducible refine gate_dst (N := 1) rfl ?_); refine box_event ?hg (N := 1) ?hd (cs := #[.slice A n c, .slice B m d]) (t := 25) ?hr ?_; (case hd => rfl); (case hg => rfl); (case hr => first | (go_simp; done) | (go_simp; rfl)); intro b0 hb0 w1 kb0 bb0; replace hb0 := Aside0.mk hb0; replace kb0 := Aside0.mk kb0; replace bb0 := Aside0.mk bb0); have c0 : w1.cell? ⟨b0, 0, none⟩ = some (.slice A n c) := (Kf.cell_row kb0.out 0).trans rfl; have c1 : w1.cell? ⟨b0, 1, none⟩ = some (.slice B m d) := (Kf.cell_row kb0.out 1).trans rfl))
  have q0 := c0
  have q1 := c1
  clear c0 c1
  replace q0 := Aside0.mk q0; replace q1 := Aside0.mk q1
  go_loopw [11] (fun t11 wr => ∃ (k : Nat), t11 = .int .i64 k ∧ k ≤ n ∧ Aside0 (Below w1.heap.size w1 wr) ∧ Aside0 (∀ i x, 0 < i → i < k → (xs.map gOf)[i]? = some x → x.parent ≠ 0 ∧ x.id ∉ gids ((xs.map gOf).take i))) (fun t11 _ => n - (intOf t11).toNat)
  case atStart => exact ⟨0, rfl, Nat.zero_le _, ⟨Below.refl _ _⟩, ⟨fun i x _ h => absurd h (Nat.not_lt_zero _)⟩⟩
  case round =>
    obtain ⟨k, rfl, hk, hB, hP⟩ := hrel
    have c0 := pw_cell_below hB.out q0.out
    have c1 := pw_cell_below hB.out q1.out
    have hBw := below_step bb0.out hB.out
    replace hBw := Aside0.mk hBw
    by_cases hlt : k < n
    · have p1 : (0 : Int) ≤ (k : Int) := by omega
      have q1' : (k : Int) < (n : Int) := by omega
      have hkc : (k : Int) ≤ (c : Int) := by omega
      obtain ⟨ad, x, rfl, hx, hcs⟩ := G_cells (Kd.C_below HG.out hBw.out) hlt
      have e1 := one_G x
      change ∀ v ∈ ([.int .i64 x.f0, .int .i64 x.f1, .int .i64 x.f2, .int .i64 x.f3.f0, .int .i64 x.f3.f1, .int .i64 x.f3.f2] : List Value), v.oneCell' = true at e1
      change ∀ i u, ([.int .i64 x.f0, .int .i64 x.f1, .int .i64 x.f2, .int .i64 x.f3.f0, .int .i64 x.f3.f1, .int .i64 x.f3.f2] : List Value)[i]? = some u → wr.cell? ((ad.add (k * 6)).add i) = some u at hcs
      have hgx : (xs.map gOf)[k]? = some (gOf x) := by rw [List.getElem?_map, hx]; rfl
      -- the first k groups
      have hCk : ∀ W, Below wr.heap.size wr W → kG.C W (some ad) k (xs.take k) := fun W hW => by
        have h0 := Kd.C_below (Kd.C_below HG.out hBw.out) hW
        refine ⟨by rw [List.length_take, hln.out]; omega, by have := h0.2.1; omega, fun _ => ?_⟩
        obtain ⟨ad', e, hc'⟩ := h0.2.2 (by omega)
        refine ⟨ad', e, fun j y hj => hc' j y ?_⟩
        rw [List.getElem?_take] at hj
        split at hj
        · exact hj
        · cases hj
      obtain ⟨r, hr⟩ : ∃ r, (xs.take k).any (fun y => decide (y.f0 = x.f0)) = r := ⟨_, rfl⟩
      have hr' : r = true ↔ (gOf x).id ∈ gids ((xs.map gOf).take k) := by
        rw [← hr, List.any_eq_true, ← List.map_take]
        unfold gids
        rw [List.map_map, List.mem_map]
        constructor
        · rintro ⟨y, hy, h⟩; exact ⟨y, hy, of_decide_eq_true h⟩
        · rintro ⟨y, hy, h⟩; exact ⟨y, hy, by have h2 : y.f0 = x.f0 := h; simpa using h2⟩
      have hcon : ∀ W gb, Below wr.heap.size wr W → W.heap[gb]? = some (.cells ([.int .i64 x.f0, .int .i64 x.f1, .int .i64 x.f2, .int .i64 x.f3.f0, .int .i64 x.f3.f1, .int .i64 x.f3.f2] : List Value).toArray 50 (0, 0)) → Calls Tryz.prog 39 #[.slice (some ad) k c, .func (.func 76) #[] #[.pointer (some ⟨gb, 0, none⟩)]] W (AnyPost r W) := fun W gb hW hg => by
        rw [← hr]
        exact ContainsG_calls _ 76 #[.pointer (some ⟨gb, 0, none⟩)] (enters_of Tryz.func76 (by kernel_rfl) rfl) _ _ _ _ W (hCk W hW) (predTwice W gb x hg)
      have hbad : 0 < k → (x.f1 = 0 ∨ r = true) → wholeOf (xs.map gOf) = false := by
        intro h0 h
        cases hw : wholeOf (xs.map gOf) with
        | false => rfl
        | true =>
          unfold wholeOf at hw
          rw [Bool.and_eq_true, tailPlain_iff] at hw
          have := hw.1 k _ h0 hgx
          rcases h with h | h
          · exact absurd h this.1
          · exact absurd (hr'.1 h) this.2
      have hnext : (k = 0 ∨ (x.f1 ≠ 0 ∧ r = false)) → ∀ i y, 0 < i → i < k + 1 → (xs.map gOf)[i]? = some y → y.parent ≠ 0 ∧ y.id ∉ gids ((xs.map gOf).take i) := by
        intro h i y hi0 hi hy
        rcases Nat.lt_or_ge i k with h1 | h1
        · exact hP.out i y hi0 h1 hy
        · obtain rfl : i = k := by omega
          rw [hgx] at hy
          injection hy with hy
          subst hy
          rcases h with h | ⟨h, h2⟩
          · omega
          · exact ⟨h, fun h3 => by rw [hr'.2 h3] at h2; cases h2⟩
      obtain ⟨pv, hpv⟩ : ∃ pv, x.f1 = pv := ⟨_, rfl⟩
      rw [hpv] at hbad hnext e1 hcs hcon
      clear hr'
      replace hx := Aside0.mk hx; replace hcs := Aside0.mk hcs; replace e1 := Aside0.mk e1; replace hgx := Aside0.mk hgx; replace hCk := Aside0.mk hCk; replace hr := Aside0.mk hr; replace hcon := Aside0.mk hcon; replace hbad := Aside0.mk hbad; replace hnext := Aside0.mk hnext; replace hpv := Aside0.mk hpv
      have hcase : k = 0 ∨ (0 < k ∧ pv = 0) ∨ (0 < k ∧ pv ≠ 0) := by omega
      rcases hcase with h1 | ⟨h1, h2⟩ | ⟨h1, h2⟩
      · subst h1
        go_wp2_with (first
          | ((with_reducible refine gate_op (.load 50 (.tmp 14)) rfl ?_); refine wpList_load_midB rfl _ _ rfl (ad.add (0 * 6)) rfl ([.int .i64 x.f0, .int .i64 pv, .int .i64 x.f2, .int .i64 x.f3.f0, .int .i64 x.f3.f1, .int .i64 x.f3.f2] : List Value) _ hcs.out Tryz.underlying50 rfl info_G ?_)
          | (((with_reducible refine gate_dst (N := 4) rfl ?_); refine box_event ?hg (N := 4) ?hd (cs := zG.toArray) (t := 50) ?hr ?_; (case hd => rfl); (case hg => rfl); (case hr => first | (go_simp; done) | (go_simp; rfl)); intro gb hgb w7 kgb bgb; replace hgb := Aside0.mk hgb; replace kgb := Aside0.mk kgb; replace bgb := Aside0.mk bgb))
          | (((with_reducible refine gate_op (.store 50 (.tmp 4) (.tmp 15)) rfl ?_); refine wpList_store_midB rfl _ _ _ rfl gb 0 ([.int .i64 x.f0, .int .i64 pv, .int .i64 x.f2, .int .i64 x.f3.f0, .int .i64 x.f3.f1, .int .i64 x.f3.f2] : List Value) rfl rfl 50 zG kgb.out info_G (Nat.le_refl _) e1.out ?_; obtain ⟨kk, bb⟩ := boxed (cs := zG) (cs2 := ([.int .i64 x.f0, .int .i64 pv, .int .i64 x.f2, .int .i64 x.f3.f0, .int .i64 x.f3.f1, .int .i64 x.f3.f2] : List Value)) hgb.out kgb.out bgb.out rfl; revert kk bb; generalize World.setRow _ gb (splice zG 0 ([.int .i64 x.f0, .int .i64 pv, .int .i64 x.f2, .int .i64 x.f3.f0, .int .i64 x.f3.f1, .int .i64 x.f3.f2] : List Value)).toArray = w8; clear kgb bgb; intro kgb bgb; replace kgb := Aside0.mk kgb; replace bgb := Aside0.mk bgb); replace c0 := pw_cell_below bgb.out c0; replace c1 := pw_cell_below bgb.out c1; have g1 : w8.cell? ⟨gb, 1, none⟩ = some (.int .i64 pv) := (Kf.cell_row kgb.out 1).trans rfl))
        go_roundw
        case measure => show n - ((0 : Int) + 1).toNat < n - ((0 : Nat) : Int).toNat; omega
        case rel => exact ⟨0 + 1, rfl, by omega, ⟨below_step hB.out bgb.out⟩, ⟨hnext.out (.inl rfl)⟩⟩
      · subst h2
        have hk0 : (0 : Int) < (k : Int) := by omega
        have hw : wholeOf (xs.map gOf) = false := hbad.out h1 (.inl rfl)
        replace hw := Aside0.mk hw
        go_wp2_with (first
          | ((with_reducible refine gate_op (.load 50 (.tmp 14)) rfl ?_); refine wpList_load_midB rfl _ _ rfl (ad.add (k * 6)) rfl ([.int .i64 x.f0, .int .i64 0, .int .i64 x.f2, .int .i64 x.f3.f0, .int .i64 x.f3.f1, .int .i64 x.f3.f2] : List Value) _ hcs.out Tryz.underlying50 rfl info_G ?_)
          | (((with_reducible refine gate_dst (N := 4) rfl ?_); refine box_event ?hg (N := 4) ?hd (cs := zG.toArray) (t := 50) ?hr ?_; (case hd => rfl); (case hg => rfl); (case hr => first | (go_simp; done) | (go_simp; rfl)); intro gb hgb w7 kgb bgb; replace hgb := Aside0.mk hgb; replace kgb := Aside0.mk kgb; replace bgb := Aside0.mk bgb))
          | (((with_reducible refine gate_op (.store 50 (.tmp 4) (.tmp 15)) rfl ?_); refine wpList_store_midB rfl _ _ _ rfl gb 0 ([.int .i64 x.f0, .int .i64 0, .int .i64 x.f2, .int .i64 x.f3.f0, .int .i64 x.f3.f1, .int .i64 x.f3.f2] : List Value) rfl rfl 50 zG kgb.out info_G (Nat.le_refl _) e1.out ?_; obtain ⟨kk, bb⟩ := boxed (cs := zG) (cs2 := ([.int .i64 x.f0, .int .i64 0, .int .i64 x.f2, .int .i64 x.f3.f0, .int .i64 x.f3.f1, .int .i64 x.f3.f2] : List Value)) hgb.out kgb.out bgb.out rfl; revert kk bb; generalize World.setRow _ gb (splice zG 0 ([.int .i64 x.f0, .int .i64 0, .int .i64 x.f2, .int .i64 x.f3.f0, .int .i64 x.f3.f1, .int .i64 x.f3.f2] : List Value)).toArray = w8; clear kgb bgb; intro kgb bgb; replace kgb := Aside0.mk kgb; replace bgb := Aside0.mk bgb); replace c0 := pw_cell_below bgb.out c0; replace c1 := pw_cell_below bgb.out c1; have g1 : w8.cell? ⟨gb, 1, none⟩ = some (.int .i64 0) := (Kf.cell_row kgb.out 1).trans rfl))
        go_ret
        exact ⟨by rw [hw.out]; rfl, hBw.out.trans (bgb.out.mono hBw.out.size)⟩
      · have hk0 : (0 : Int) < (k : Int) := by omega
        have h2' : (pv == 0) = false := by simpa using h2
        go_wp2_with (first
          | ((with_reducible refine gate_op (.load 50 (.tmp 14)) rfl ?_); refine wpList_load_midB rfl _ _ rfl (ad.add (k * 6)) rfl ([.int .i64 x.f0, .int .i64 pv, .int .i64 x.f2, .int .i64 x.f3.f0, .int .i64 x.f3.f1, .int .i64 x.f3.f2] : List Value) _ hcs.out Tryz.underlying50 rfl info_G ?_)
          | (((with_reducible refine gate_dst (N := 4) rfl ?_); refine box_event ?hg (N := 4) ?hd (cs := zG.toArray) (t := 50) ?hr ?_; (case hd => rfl); (case hg => rfl); (case hr => first | (go_simp; done) | (go_simp; rfl)); intro gb hgb w7 kgb bgb; replace hgb := Aside0.mk hgb; replace kgb := Aside0.mk kgb; replace bgb := Aside0.mk bgb))
          | (((with_reducible refine gate_op (.store 50 (.tmp 4) (.tmp 15)) rfl ?_); refine wpList_store_midB rfl _ _ _ rfl gb 0 ([.int .i64 x.f0, .int .i64 pv, .int .i64 x.f2, .int .i64 x.f3.f0, .int .i64 x.f3.f1, .int .i64 x.f3.f2] : List Value) rfl rfl 50 zG kgb.out info_G (Nat.le_refl _) e1.out ?_; obtain ⟨kk, bb⟩ := boxed (cs := zG) (cs2 := ([.int .i64 x.f0, .int .i64 pv, .int .i64 x.f2, .int .i64 x.f3.f0, .int .i64 x.f3.f1, .int .i64 x.f3.f2] : List Value)) hgb.out kgb.out bgb.out rfl; revert kk bb; generalize World.setRow _ gb (splice zG 0 ([.int .i64 x.f0, .int .i64 pv, .int .i64 x.f2, .int .i64 x.f3.f0, .int .i64 x.f3.f1, .int .i64 x.f3.f2] : List Value)).toArray = w8; clear kgb bgb; intro kgb bgb; replace kgb := Aside0.mk kgb; replace bgb := Aside0.mk bgb); replace c0 := pw_cell_below bgb.out c0; replace c1 := pw_cell_below bgb.out c1; have g1 : w8.cell? ⟨gb, 1, none⟩ = some (.int .i64 pv) := (Kf.cell_row kgb.out 1).trans rfl))
        with_reducible refine (hcon.out w8 gb bgb.out kgb.out).mono ?_
        rintro e w9 ⟨rfl, hb9⟩
        have hB9 := below_step bgb.out hb9
        cases r with
        | true =>
          have hw : wholeOf (xs.map gOf) = false := hbad.out h1 (.inr rfl)
          replace hw := Aside0.mk hw
          go_wp2_with fail
          go_ret
          exact ⟨by rw [hw.out]; rfl, hBw.out.trans (hB9.mono hBw.out.size)⟩
        | false =>
          go_wp2_with fail
          go_roundw
          case measure => show n - ((k : Int) + 1).toNat < n - (k : Int).toNat; omega
          case rel => exact ⟨k + 1, by simp, by omega, ⟨below_step hB.out hB9⟩, ⟨hnext.out (.inr ⟨h2, by first | rfl | trivial⟩)⟩⟩
    · obtain rfl : k = n := by omega
      have htp : tailPlain (xs.map gOf) = true := by
        rw [tailPlain_iff]
        intro i x hi hx
        refine hP.out i x hi ?_ hx
        have := (List.getElem?_eq_some_iff.1 hx).1
        rw [List.length_map, hln.out] at this
        exact this
      have hall := all_steps xs
      have hwo : wholeOf (xs.map gOf) = true ↔ ∀ p ∈ stepsL (xs.map gOf) xs, 0 ≤ p.2 := by
        unfold wholeOf
        rw [htp, Bool.true_and]
        exact hall
      clear hlt hall
      replace htp := Aside0.mk htp; replace hwo := Aside0.mk hwo
      go_wp2_with fail
      with_reducible refine (steps_calls A k c xs B m d wr (Kd.C_below HG.out hBw.out) hn).mono ?_
      rintro e w3 ⟨mb, rfl, hI, hmb, hB3⟩
      obtain ⟨L, hL⟩ : ∃ L, stepsL (xs.map gOf) xs = L := ⟨_, rfl⟩
      rw [hL] at hwo hI
      have hB33 := below_step hBw.out hB3
      replace hI := Aside0.mk hI; replace hmb := Aside0.mk hmb; replace hB3 := Aside0.mk hB3; replace hL := Aside0.mk hL; replace hB33 := Aside0.mk hB33
      go_wp2_with (first
        | (at_range; refine wpList_range_imap (enc := Value.int .i64) (q := .i64) rfl _ 113 rfl Tryz.underlying113 mb L rfl hI.out ?_; intro ob hit; replace hit := Aside0.mk hit))
      go_frame
      have hBi : Below w3.heap.size w3 (w3.alloc ob) := below_alloc (Below.refl _ _) _
      obtain ⟨it, hite⟩ : ∃ it, w3.heap.size = it := ⟨_, rfl⟩
      obtain ⟨wi, hwi⟩ : ∃ wi, w3.alloc ob = wi := ⟨_, rfl⟩
      have hits : it < wi.heap.size := by rw [← hwi, ← hite]; simp
      have hwit : w.heap.size ≤ it := by have := hB33.out.size; omega
      rw [hwi] at hBi hit ⊢
      rw [hite] at hit ⊢
      have hBw3 := below_step hB33.out hBi
      clear hwi
      replace hBi := Aside0.mk hBi; replace hite := Aside0.mk hite; replace hits := Aside0.mk hits; replace hwit := Aside0.mk hwit; replace hBw3 := Aside0.mk hBw3
      go_loopw [] (fun wr => ∃ left : List (Int × Int), Aside0 (ILeft .i64 (Value.int .i64) wr it mb L left) ∧ Aside0 (KeepF (fun i => i = it) wi wr) ∧ Aside0 (∀ p ∈ L, p ∈ left ∨ 0 ≤ p.2) ∧ Aside0 (∀ p ∈ left, p ∈ L)) (fun wr => wr.rangeLeft mb it)
      case atStart => exact ⟨L, hit, ⟨KeepF.refl _ _⟩, ⟨fun p h => .inl h⟩, ⟨fun p h => h⟩⟩
      case round =>
        obtain ⟨left, hLe, hK, hV, hS⟩ := hrel
        go_wp2_with (first
          | (at_next; refine wpList_next_imap (enc := Value.int .i64) (q := .i64) rfl _ rfl it mb L left rfl hLe.out ?_ ?_)
          | go_in)
        · intro hd0
          subst hd0
          have hw : wholeOf (xs.map gOf) = true := hwo.out.2 (fun p hp => by
            rcases hV.out p hp with h | h
            · cases h
            · exact h)
          replace hw := Aside0.mk hw
          go_wp2_with fail
          go_ret
          exact ⟨by rw [hw.out]; rfl, hBw3.out.trans (hK.out.to_below (base := w.heap.size) hBw3.out.size (fun i hi => by have := hwit.out; omega))⟩
        · intro k2 v left' w4 ob2 hp hw hl hen
          have hkw : KeepF (fun i => i = it) wr (bset w4 it ob2) := by
            rcases hw with e | e
            · subst e; exact KeepF.bset _ _ _
            · subst e; exact (KeepF.drew (KeepF.refl _ wr)).trans (F' := fun i => i = it) (KeepF.bset _ _ _) (fun _ _ h => h)
          have hK2 := hK.out.trans hkw (fun _ _ h => h)
          have hmem : (k2, v) ∈ L := hS.out _ (hp.mem_iff.2 (by simp))
          have hBf := hBw3.out.trans (hK2.to_below (base := w.heap.size) hBw3.out.size (fun i hi => by have := hwit.out; omega))
          obtain ⟨W, hW⟩ : ∃ W, bset w4 it ob2 = W := ⟨_, rfl⟩
          rw [hW] at hl hen hK2 hBf ⊢
          have hc1 := hLe.out.count
          have hc2 := hl.count
          have hlen := hp.length_eq
          simp at hlen
          clear hW hkw hw
          replace hp := Aside0.mk hp; replace hl := Aside0.mk hl; replace hK2 := Aside0.mk hK2; replace hmem := Aside0.mk hmem; replace hBf := Aside0.mk hBf; replace hc1 := Aside0.mk hc1; replace hc2 := Aside0.mk hc2
          by_cases hv : v < 0
          · have hw : wholeOf (xs.map gOf) = false := by
              cases hw : wholeOf (xs.map gOf) with
              | false => rfl
              | true => have := hwo.out.1 hw _ hmem.out; have : 0 ≤ v := this; omega
            replace hw := Aside0.mk hw
            go_wp2_with fail
            go_ret
            exact ⟨by rw [hw.out]; rfl, hBf.out⟩
          · go_wp2_with fail
            go_roundw
            case measure => show W.rangeLeft mb it < wr.rangeLeft mb it; rw [hc1.out, hc2.out]; omega
            case rel => exact ⟨left', hl, hK2, ⟨fun p hq => by
              rcases hV.out p hq with h | h
              · rcases List.mem_cons.1 (hp.out.mem_iff.1 h) with h2 | h2
                · subst h2; exact .inr (by show 0 ≤ v; omega)
                · exact .inl h2
              · exact .inr h⟩, ⟨fun p hq => hS.out p (hp.out.mem_iff.2 (List.mem_cons_of_mem _ hq))⟩⟩
end Go.Proofs.YtpnjhffnlafabaaGreatDoor.Sn
namespace Go.Proofs.YtpnjhffnlafabaaGreatDoor.Sn
set_option linter.unusedVariables false
set_option linter.unusedSimpArgs false
attribute [local go_sem] Go.Proofs.YtpnjhffnlafabaaGreatDoorW.PrintMore.max2_int Go.Proofs.YtpnjhffnlafabaaGreatDoorW.PrintMore.min2_int Go.Proofs.YtpnjhffnlafabaaGreatDoorW.PrintMore.max_two Go.Proofs.YtpnjhffnlafabaaGreatDoorW.PrintMore.min_two
open Go.RowKit Go.Sort Go.Shelf Go.Proofs.Bk Go.Proofs.Bm Go.Proofs.Op Go.Proofs.Sc Go.Proofs.Kf Go.Proofs.YtpnjhffnlafabaaGreatDoorW.PrintWords Go.Proofs.YtpnjhffnlafabaaGreatDoor.PImageBack
theorem tall_max (xs : List SG) {M : Int} (h0 : 0 ≤ M) (h1 : ∀ p ∈ stepsL (xs.map gOf) xs, p.2 ≤ M) (h2 : M = 0 ∨ ∃ p ∈ stepsL (xs.map gOf) xs, p.2 = M) : M = tallOf (xs.map gOf) := by
  unfold tallOf
  apply Int.le_antisymm
  · rw [le_max]
    rcases h2 with h | ⟨⟨k, v⟩, hp, h⟩
    · exact .inl (by omega)
    · obtain ⟨a1, a2⟩ := (mem_steps _ _ _ _).1 hp
      obtain ⟨x, hx, rfl⟩ := List.mem_map.1 a1
      refine .inr ⟨stepsOf (xs.map gOf) x.f0, List.mem_map.2 ⟨gOf x, List.mem_map.2 ⟨x, hx, rfl⟩, rfl⟩, ?_⟩
      have h : v = M := h
      omega
  · rcases (le_max _ ((xs.map gOf).map fun g => stepsOf (xs.map gOf) g.id) 0).1 (Int.le_refl _) with h | ⟨y, hy, h⟩
    · omega
    · obtain ⟨g, hg, rfl⟩ := List.mem_map.1 hy
      obtain ⟨x, hx, rfl⟩ := List.mem_map.1 hg
      have := h1 (x.f0, stepsOf (xs.map gOf) x.f0) ((mem_steps _ _ _ _).2 ⟨List.mem_map.2 ⟨x, hx, rfl⟩, rfl⟩)
      exact Int.le_trans h this
def TallPost (gs : List G) (w : World) (e : Ending) (w' : World) : Prop := e = .returned (.int .i64 (tallOf gs)) ∧ Below w.heap.size w w'
set_option maxHeartbeats 8000000 in
set_option maxRecDepth 100000 in
theorem Tall_calls (A : Option Addr) (n c : Nat) (xs : List SG) (B : Option Addr) (m d : Nat) (w : World) (hG : kG.C w A n xs) (hn : n ≤ 4096) :
    Calls Tryz.prog 47 #[.agg #[.slice A n c, .slice B m d]] w (TallPost (xs.map gOf) w) := by
  have HG := Aside0.mk hG
  clear hG
  go_enter Tryz.func47, Tryz.ntmps47
  go_wp2_with (first
    | (((with_reducible refine gate_dst (N := 1) rfl ?_); refine box_event ?hg (N := 1) ?hd (cs := #[.slice A n c, .slice B m d]) (t := 25) ?hr ?_; (case hd => rfl); (case hg => rfl); (case hr => first | (go_simp; done) | (go_simp; rfl)); intro b0 hb0 wr kb0 bb0; replace hb0 := Aside0.mk hb0; replace kb0 := Aside0.mk kb0; replace bb0 := Aside0.mk bb0); have c0 : wr.cell? ⟨b0, 0, none⟩ = some (.slice A n c) := (Kf.cell_row kb0.out 0).trans rfl; have c1 : wr.cell? ⟨b0, 1, none⟩ = some (.slice B m d) := (Kf.cell_row kb0.out 1).trans rfl))
  with_reducible refine (steps_calls A n c xs B m d wr (Kd.C_below HG.out bb0.out) hn).mono ?_
  rintro e w3 ⟨mb, rfl, hI, hmb, hB3⟩
  obtain ⟨L, hL⟩ : ∃ L, stepsL (xs.map gOf) xs = L := ⟨_, rfl⟩
  rw [hL] at hI
  have hB33 := below_step bb0.out hB3
  clear c0 c1
  replace hI := Aside0.mk hI; replace hmb := Aside0.mk hmb; replace hB3 := Aside0.mk hB3; replace hL := Aside0.mk hL; replace hB33 := Aside0.mk hB33
  go_wp2_with (first
    | (at_range; refine wpList_range_imap (enc := Value.int .i64) (q := .i64) rfl _ 113 rfl Tryz.underlying113 mb L rfl hI.out ?_; intro ob hit; replace hit := Aside0.mk hit))
  go_frame
  have hBi : Below w3.heap.size w3 (w3.alloc ob) := below_alloc (Below.refl _ _) _
  obtain ⟨it, hite⟩ : ∃ it, w3.heap.size = it := ⟨_, rfl⟩
  obtain ⟨wi, hwi⟩ : ∃ wi, w3.alloc ob = wi := ⟨_, rfl⟩
  have hits : it < wi.heap.size := by rw [← hwi, ← hite]; simp
  have hwit : w.heap.size ≤ it := by have := hB33.out.size; omega
  rw [hwi] at hBi hit ⊢
  rw [hite] at hit ⊢
  have hBw3 := below_step hB33.out hBi
  clear hwi
  replace hBi := Aside0.mk hBi; replace hite := Aside0.mk hite; replace hits := Aside0.mk hits; replace hwit := Aside0.mk hwit; replace hBw3 := Aside0.mk hBw3
  go_loopw [3] (fun t3 wr => ∃ (left : List (Int × Int)) (M : Int), t3 = .int .i64 M ∧ Aside0 (ILeft .i64 (Value.int .i64) wr it mb L left) ∧ Aside0 (KeepF (fun i => i = it) wi wr) ∧ Aside0 ((∀ p ∈ L, p ∈ left ∨ p.2 ≤ M) ∧ 0 ≤ M ∧ (M = 0 ∨ ∃ p ∈ L, p.2 = M)) ∧ Aside0 (∀ p ∈ left, p ∈ L)) (fun _ wr => wr.rangeLeft mb it)
  case atStart => exact ⟨L, 0, rfl, hit, ⟨KeepF.refl _ _⟩, ⟨fun p h => .inl h, Int.le_refl _, .inl rfl⟩, ⟨fun p h => h⟩⟩
  case round =>
    obtain ⟨left, M, rfl, hLe, hK, hV, hS⟩ := hrel
    go_wp2_with (first
      | (at_next; refine wpList_next_imap (enc := Value.int .i64) (q := .i64) rfl _ rfl it mb L left rfl hLe.out ?_ ?_)
      | go_in)
    · intro hd0
      subst hd0
      have hM : M = tallOf (xs.map gOf) := by
        rw [← hL.out] at hV
        exact tall_max xs hV.out.2.1 (fun p hp => by
          rcases hV.out.1 p hp with h | h
          · cases h
          · exact h) hV.out.2.2
      replace hM := Aside0.mk hM
      go_wp2_with fail
      go_ret
      exact ⟨by rw [← hM.out]; rfl, hBw3.out.trans (hK.out.to_below (base := w.heap.size) hBw3.out.size (fun i hi => by have := hwit.out; omega))⟩
    · intro k2 v left' w4 ob2 hp hw hl hen
      have hkw : KeepF (fun i => i = it) wr (bset w4 it ob2) := by
        rcases hw with e | e
        · subst e; exact KeepF.bset _ _ _
        · subst e; exact (KeepF.drew (KeepF.refl _ wr)).trans (F' := fun i => i = it) (KeepF.bset _ _ _) (fun _ _ h => h)
      have hK2 := hK.out.trans hkw (fun _ _ h => h)
      have hmem : (k2, v) ∈ L := hS.out _ (hp.mem_iff.2 (by simp))
      have hBf := hBw3.out.trans (hK2.to_below (base := w.heap.size) hBw3.out.size (fun i hi => by have := hwit.out; omega))
      obtain ⟨W, hW⟩ : ∃ W, bset w4 it ob2 = W := ⟨_, rfl⟩
      rw [hW] at hl hen hK2 hBf ⊢
      have hc1 := hLe.out.count
      have hc2 := hl.count
      have hlen := hp.length_eq
      simp at hlen
      clear hW hkw hw
      replace hp := Aside0.mk hp; replace hl := Aside0.mk hl; replace hK2 := Aside0.mk hK2; replace hmem := Aside0.mk hmem; replace hBf := Aside0.mk hBf; replace hc1 := Aside0.mk hc1; replace hc2 := Aside0.mk hc2
      have hM0 := hV.out.2.1
      have hnew : ∀ M2 : Int, M2 = max M v → (∀ p ∈ L, p ∈ left' ∨ p.2 ≤ M2) ∧ 0 ≤ M2 ∧ (M2 = 0 ∨ ∃ p ∈ L, p.2 = M2) := by
        rintro M2 rfl
        refine ⟨fun p hq => ?_, by omega, ?_⟩
        · rcases hV.out.1 p hq with h | h
          · rcases List.mem_cons.1 (hp.out.mem_iff.1 h) with h2 | h2
            · subst h2; exact .inr (by show v ≤ _; omega)
            · exact .inl h2
          · exact .inr (by omega)
        · rcases Int.le_total M v with h | h
          · exact .inr ⟨_, hmem.out, by show v = _; omega⟩
          · rcases hV.out.2.2 with h2 | ⟨p, hp2, h2⟩
            · exact .inl (by omega)
            · exact .inr ⟨p, hp2, by omega⟩
      replace hnew := Aside0.mk hnew
      go_wp2_with fail
      go_roundw
      case measure => show W.rangeLeft mb it < wr.rangeLeft mb it; rw [hc1.out, hc2.out]; omega
      case rel => exact ⟨left', if M < v then v else M, rfl, hl, hK2, ⟨hnew.out _ (by split <;> omega)⟩, ⟨fun p hq => hS.out p (hp.out.mem_iff.2 (List.mem_cons_of_mem _ hq))⟩⟩
end Go.Proofs.YtpnjhffnlafabaaGreatDoor.Sn
namespace Go.Proofs.YtpnjhffnlafabaaGreatDoor.Sn
set_option linter.unusedVariables false
set_option linter.unusedSimpArgs false
open Go.RowKit Go.Sort Go.Shelf Go.Lib Go.Proofs.Bk Go.Proofs.Bm Go.Proofs.Op Go.Proofs.Sc Go.Proofs.Kf Go.Proofs.YtpnjhffnlafabaaGreatDoorW.PrintWords Go.Proofs.YtpnjhffnlafabaaGreatDoor.PImageBack Go.Proofs.YtpnjhffnlafabaaGreatDoor.St
section
variable {P : Program} {W : World} {ops : Array Oper} {rest : List Oper} {o : Oper} {a : Act} {Q : Exit → Act → World → Prop}
theorem store1_event (hgd : o.guard = none) (ty : TypeId) (x y : Operand) (ho : o.op = .store ty x y) (g : Nat) (A : Option Addr) (n c : Nat) (v0 : Value) (t : TypeId) (hx : a.eval x = .pointer (some ⟨g, 0, none⟩)) (hy : a.eval y = .slice A n c)
    (hg : W.heap[g]? = some (.cells #[v0] t (0, 0))) (hi : (P.info? ty).map (·.size) = some 1)
    (h : ∀ w1 : World, w1.heap[g]? = some (.cells #[.slice A n c] t (0, 0)) → KeepF (fun k => k = g) W w1 → wpList P ops Q rest (a.put o.dst undef) w1) : wpList P ops Q (o :: rest) a W := by
  have h1 : (storeVar ty ⟨g, 0, none⟩ (.slice A n c)).run P W = .ok () (W.setRow g #[.slice A n c]) := by
    have := run_storeCells_mid (P := P) g 0 t [.slice A n c] 0 [v0] W hg (by simp) (fun v hv => by simp at hv; subst hv; rfl)
    cases hq : P.info? ty with
    | none => simp [hq] at hi
    | some i =>
      have hs : i.size = 1 := by simpa [hq] using hi
      have hs2 : (splice [v0] 0 [Value.slice A n c]).toArray = #[.slice A n c] := by simp [splice]
      rw [Nat.zero_add, hs2] at this
      simp [storeVar, sizeOf, typeInfo, hq, Value.cells, hs, this]
  refine wpList_plain hgd fun _ hK => ?_
  unfold Oper.wp execOp
  simp only [ho, hx, hy, Instr.storeAt, Instr.sureAddr, Sem.run_bind, Sem.run_pure, Result.andThen_ok, h1]
  exact hK _ _ (h _ (setRow_heap W g _ _ t _ hg) (KeepF.setRow W g _))
end
theorem gC_len (x : SG) : (gC x).length = 6 := rfl
def cfG (x y : SG) : Int := Lib.compareInt x.f0 y.f0
theorem ltG (x y : SG) : ltOf cfG x y = decide (x.f0 < y.f0) := by
  unfold ltOf cfG Lib.compareInt
  by_cases h1 : x.f0 < y.f0
  · simp [h1]
  · by_cases h2 : y.f0 < x.f0 <;> simp [h1, h2]
theorem swoG : SWO (ltOf cfG) where
  irrefl x := by rw [ltG]; simp
  trans x y z h1 h2 := by rw [ltG] at *; simp at *; omega
  ntrans x y z h1 h2 := by rw [ltG] at *; simp at *; omega
set_option maxHeartbeats 2000000 in
theorem underCmp (x y : SG) (w : World) : Calls Tryz.prog 101 #[.agg (gC x).toArray, .agg (gC y).toArray] w fun e w' => e = .returned (.int .i64 (cfG x y)) ∧ ∃ q os', w' = grow (w.drewN q) os' := by
  show Calls Tryz.prog 101 #[.agg ([.int .i64 x.f0, .int .i64 x.f1, .int .i64 x.f2, .int .i64 x.f3.f0, .int .i64 x.f3.f1, .int .i64 x.f3.f2] : List Value).toArray, .agg ([.int .i64 y.f0, .int .i64 y.f1, .int .i64 y.f2, .int .i64 y.f3.f0, .int .i64 y.f3.f1, .int .i64 y.f3.f2] : List Value).toArray] w fun e w' => e = .returned (.int .i64 (Lib.compareInt x.f0 y.f0)) ∧ ∃ q os', w' = grow (w.drewN q) os'
  have hcon := fun W => Tryz.cmp_Compare_int x.f0 y.f0 W
  generalize Lib.compareInt x.f0 y.f0 = r at hcon ⊢
  go_enter Tryz.func101, Tryz.ntmps101
  go_wp2_with (go_at_call 83; refine (hcon _).mono ?_; rintro e w' ⟨rfl, rfl⟩)
  go_ret
  exact ⟨rfl, 0, _, by rw [alloc_eq_grow, alloc_eq_grow, grow_grow]; rfl⟩
theorem underLays (g off n : Nat) (w : World) : CmpLays Tryz.prog 101 #[] gC 6 cfG g off n w := fun _ _ _ _ x y => underCmp x y _
theorem sorted_listG {ts ys : List SG} (hp : PermIn 0 ts.length ts.toArray ys.toArray) (hs : SortedIn (ltOf cfG) 0 ts.length ys.toArray) : ys.Perm ts ∧ ys.Pairwise fun a b => a.f0 ≤ b.f0 := by
  have hl : ys.length = ts.length := by simpa using hp.1
  refine ⟨?_, ?_⟩
  · have := hp.2.2
    rw [show ts.toArray.extract 0 ts.length = ts.toArray by simp, show ys.toArray.extract 0 ts.length = ys.toArray by rw [← hl]; simp] at this
    exact this
  · rw [List.pairwise_iff_getElem]
    intro i j hi hj hij
    have := hs i j (Nat.zero_le _) hij (by omega)
    rw [ltG, getElem!_pos _ _ (by simpa using hj), getElem!_pos _ _ (by simpa using hi)] at this
    simp at this
    exact this
theorem keepF_sortK {α : Type} [Inhabited α] {enc : α → List Value} {k : Nat} {w : World} {g n : Nat} {d : Array α} {os : Array Obj} : KeepF (fun i => i = g) w (sortWorldK enc k w g 0 n d os) := by
  unfold sortWorldK putRowK
  refine ⟨rfl, rfl, rfl, by simp [putRow, mapBlock, Sort.ahead], fun j hj hn => ?_⟩
  rw [heap_grow_old _ _ (by simpa [putRow, mapBlock, Sort.ahead] using hj)]
  simp [putRow, mapBlock, Sort.ahead, Array.getElem?_modify, Ne.symm hn]
def SortGPost (g : Nat) (xs : List SG) (w : World) (e : Ending) (w' : World) : Prop :=
  e = .returned (.tuple #[]) ∧ ∃ ys : List SG, ys.Perm xs ∧ (ys.Pairwise fun a b => a.f0 ≤ b.f0) ∧ HoldsK gC 6 w' g 0 ys.toArray ∧ KeepF (fun i => i = g) w w'
theorem SortG_calls (g cap : Nat) (xs : List SG) (w : World) (hg : g < w.heap.size) (hH : HoldsK gC 6 w g 0 xs.toArray) (hsz : xs.length < 4611686018427387904) :
    Calls Tryz.prog 100 #[.slice (some ⟨g, 0, none⟩) xs.length cap, .func (.func 101) #[] #[]] w (SortGPost g xs w) := by
  have eg : ∀ args w, (callFunc 101 args).run Tryz.prog w = .ok (.enter 101 args) w := enters_of Tryz.func101 (by kernel_rfl) rfl
  refine Calls.mono (AnyQ.slices_SortFunc Tryz.sfG 6 Tryz.isAgg50 Tryz.sizeOf50 gC gC_len one_G cfG swoG 101 #[] g 0 cap xs.toArray w eg (underLays g 0 xs.toArray.size w) hH hg (by simpa using hsz)) ?_
  rintro e w' ⟨rfl, d', n, os, hP, hQ, rfl⟩
  obtain ⟨ys, rfl⟩ : ∃ ys : List SG, d' = ys.toArray := ⟨d'.toList, by simp⟩
  obtain ⟨h1, h2⟩ := sorted_listG (by simpa using hP) (by simpa using hQ)
  exact ⟨rfl, ys, h1, h2, holdsK_sortWorldK gC 6 w g 0 n xs.toArray ys.toArray os hg hH (by simpa using h1.length_eq), keepF_sortK⟩
theorem SortG_none (p : Option Addr) (cap : Nat) (fv : Value) (w : World) :
    Calls Tryz.prog 100 #[.slice p 0 cap, fv] w fun e w' => e = .returned (.tuple #[]) ∧ w' = w := AnyF.slices_SortFunc_none Tryz.sfG p cap fv w
end Go.Proofs.YtpnjhffnlafabaaGreatDoor.Sn
namespace Go.Proofs.YtpnjhffnlafabaaGreatDoor.Sn
set_option linter.unusedVariables false
set_option linter.unusedSimpArgs false
open Go.RowKit Go.Sort Go.Shelf Go.Lib Go.Proofs.Bk Go.Proofs.Bm Go.Proofs.Op Go.Proofs.Sc Go.Proofs.Kf Go.Proofs.YtpnjhffnlafabaaGreatDoorW.PrintWords Go.Proofs.YtpnjhffnlafabaaGreatDoor.PImageBack Go.Proofs.YtpnjhffnlafabaaGreatDoor.St
abbrev SV := Option Addr × Nat × Nat
def sv (p : SV) : Value := .slice p.1 p.2.1 p.2.2
def walkV (bo bk bw : Nat) : Value := .func (.func 99) #[] #[.pointer (some ⟨bo, 0, none⟩), .pointer (some ⟨bk, 0, none⟩), .pointer (some ⟨bw, 0, none⟩)]
def okO (bo bk bw mb : Nat) (l : List (Int × SV)) (k : Nat) : Prop := k ≠ bo ∧ k ≠ bk ∧ k ≠ bw ∧ k ≠ mb ∧ ∀ p ∈ l, ∀ ad, p.2.1 = some ad → ad.block ≠ k
def okRow (base bo bk bw mb : Nat) (w : World) (p : Int × SV) (xs : List SG) : Prop :=
  ∃ g, p.2.1 = some ⟨g, 0, none⟩ ∧ base ≤ g ∧ g < w.heap.size ∧ g ≠ bo ∧ g ≠ bk ∧ g ≠ bw ∧ g ≠ mb ∧ p.2.2.1 = xs.length ∧ xs.length ≤ p.2.2.2 ∧ HoldsK gC 6 w g 0 xs.toArray
structure KW (base : Nat) (w0 : World) (bo bk bw mb : Nat) (l : List (Int × SV)) (cont : Int → List SG) (ys : List SG) (w : World) : Prop where
  below : Below base w0 w
  blo : base ≤ bo
  lo : bo < w.heap.size
  obk : bo ≠ bk
  obw : bo ≠ bw
  obm : bo ≠ mb
  kids : w.heap[bk]? = some (.cells #[.map (some mb)] 131 (0, 0))
  map : IMap .i64 sv w mb l
  walk : w.heap[bw]? = some (.cells #[walkV bo bk bw] 132 (0, 0))
  out : ∃ A c, w.heap[bo]? = some (.cells #[.slice A ys.length c] 22 (0, 0)) ∧ ys.length ≤ c ∧ kG.R 50 w base (okO bo bk bw mb l) (.slice A ys.length c) ys
  row : ∀ p ∈ l, okRow base bo bk bw mb w p (cont p.1)
  apart : ∀ p ∈ l, ∀ q ∈ l, p.2.1 = q.2.1 → p.1 = q.1
  empty : ∀ k, aget l k = none → cont k = []
theorem holdsK_block {α : Type} [Inhabited α] {enc : α → List Value} {k : Nat} {w w1 : World} {g off : Nat} {d : Array α} (h : HoldsK enc k w g off d) (hb : w1.heap[g]? = w.heap[g]?) : HoldsK enc k w1 g off d := fun j hj =>
  ⟨(World.cell?_of_block (a := ⟨g, off + j, none⟩) hb).trans (h j hj).1, (World.frozen?_of_block (a := ⟨g, off + j, none⟩) hb).trans (h j hj).2⟩
section
variable {base : Nat} {w0 w w1 : World} {bo bk bw mb : Nat} {l : List (Int × SV)} {cont : Int → List SG} {ys : List SG}
theorem KW.grow (h : KW base w0 bo bk bw mb l cont ys w) (hb : Below w.heap.size w w1) (hbase : base ≤ w.heap.size) : KW base w0 bo bk bw mb l cont ys w1 where
  below := h.below.trans (hb.mono hbase)
  blo := h.blo
  lo := Nat.lt_of_lt_of_le h.lo hb.size
  obk := h.obk
  obw := h.obw
  obm := h.obm
  kids := row_below hb h.kids
  map := h.map.of_block (hb.block _ h.map.lt)
  walk := row_below hb h.walk
  out := by
    obtain ⟨A, c, h1, h2, h3⟩ := h.out
    exact ⟨A, c, row_below hb h1, h2, Kd.R_below h3 hb⟩
  row := fun p hp => by
    obtain ⟨g, h1, h2, h3, h4, h5, h6, h7, h8, h9, h10⟩ := h.row p hp
    exact ⟨g, h1, h2, Nat.lt_of_lt_of_le h3 hb.size, h4, h5, h6, h7, h8, h9, holdsK_block h10 (hb.block _ h3)⟩
  apart := h.apart
  empty := h.empty
theorem KW.size (h : KW base w0 bo bk bw mb l cont ys w) : base ≤ w.heap.size := Nat.le_of_lt (Nat.lt_of_le_of_lt h.blo h.lo)
theorem KW.rewrite (h : KW base w0 bo bk bw mb l cont ys w) {k : Int} {g n c : Nat} (hp : (k, ((some ⟨g, 0, none⟩, n, c) : SV)) ∈ l) {zs : List SG} (hl : zs.length = (cont k).length) (hz : HoldsK gC 6 w1 g 0 zs.toArray) (hk : KeepF (fun i => i = g) w w1) :
    KW base w0 bo bk bw mb l (fun j => if j = k then zs else cont j) ys w1 := by
  obtain ⟨g', e1, h2, h3, h4, h5, h6, h7, h8, h9, h10⟩ := h.row _ hp
  have e1' : g = g' := by
    have : (some (⟨g, 0, none⟩ : Addr)) = some ⟨g', 0, none⟩ := e1
    injection this with this
    injection this
  subst e1'
  have hlk := h.lo
  refine ⟨h.below.trans (hk.to_below h.size (fun i hi => by rw [hi]; exact h2)), h.blo, Nat.lt_of_lt_of_le h.lo hk.size, h.obk, h.obw, h.obm, (hk.block _ (lt_row h.kids) (Ne.symm h5)).trans h.kids, h.map.of_block (hk.block _ h.map.lt (Ne.symm h7)),
    (hk.block _ (lt_row h.walk) (Ne.symm h6)).trans h.walk, ?_, ?_, h.apart, ?_⟩
  · obtain ⟨A, c', q1, q2, q3⟩ := h.out
    refine ⟨A, c', (hk.block _ h.lo (Ne.symm h4)).trans q1, q2, Kd.R_step q3 (fun j hj hlt => hk.block j hlt (fun e => ?_))⟩
    exact hj.2.2.2.2 _ hp _ rfl e.symm
  · intro p hq
    obtain ⟨g2, r1, r2, r3, r4, r5, r6, r7, r8, r9, r10⟩ := h.row p hq
    by_cases hpk : p.1 = k
    · simp only [hpk, if_true]
      have hpe : p = (k, ((some ⟨g, 0, none⟩, n, c) : SV)) := by
        have e1 := (aget_some_iff h.map.nodup p.1 p.2).2 hq
        have e2 := (aget_some_iff h.map.nodup k _).2 hp
        rw [hpk, e2] at e1
        exact Prod.ext hpk (Option.some.inj e1).symm
      rw [hpe]
      exact ⟨g, rfl, h2, Nat.lt_of_lt_of_le h3 hk.size, h4, h5, h6, h7, by rw [hl]; exact h8, by rw [hl]; exact h9, hz⟩
    · simp only [hpk, if_false]
      have hne : g2 ≠ g := fun e => hpk (h.apart p hq _ hp (by rw [r1, e]))
      exact ⟨g2, r1, r2, Nat.lt_of_lt_of_le r3 hk.size, r4, r5, r6, r7, r8, r9, holdsK_block r10 (hk.block _ r3 hne)⟩
  · intro j hj
    by_cases hjk : j = k
    · subst hjk
      exact ((aget_none_iff _ _).1 hj (List.mem_map.2 ⟨_, hp, rfl⟩)).elim
    · simp only [hjk, if_false]; exact h.empty j hj
theorem KW.push {w2 w3 : World} {x : SG} {A : Option Addr} {c : Nat} {v1 : Value} (h : KW base w0 bo bk bw mb l cont ys w)
    (hR : kG.R 50 w2 base (okO bo bk bw mb l) v1 (ys ++ [x])) (h0 : w.heap[bo]? = some (.cells #[.slice A ys.length c] 22 (0, 0))) (h1 : kG.R 50 w base (okO bo bk bw mb l) (.slice A ys.length c) ys)
    (hb : Below base w0 w2) (hg : w.grownBy w2 (Value.slice A ys.length c).ownBlock) (h3 : w3.heap[bo]? = some (.cells #[v1] 22 (0, 0))) (hk : KeepF (fun i => i = bo) w2 w3) : KW base w0 bo bk bw mb l cont (ys ++ [x]) w3 := by
  have hne : ∀ k, ¬ okO bo bk bw mb l k → some k ≠ (Value.slice A ys.length c).ownBlock := fun k hn e => hn (h1.1 k e.symm)
  have far : ∀ k, k < w.heap.size → ¬ okO bo bk bw mb l k → k ≠ bo → w3.heap[k]? = w.heap[k]? := fun k hk1 hk2 hk3 =>
    (hk.block k (Nat.lt_of_lt_of_le hk1 hg.size) hk3).trans (hg.block k hk1 (hne k hk2))
  refine ⟨hb.trans (hk.to_below (Nat.le_trans h.size hg.size) (fun i hi => by rw [hi]; exact h.blo)), h.blo, Nat.lt_of_lt_of_le h.lo (Nat.le_trans hg.size hk.size), h.obk, h.obw, h.obm, (far bk (lt_row h.kids) (fun e => e.2.1 rfl) (Ne.symm h.obk)).trans h.kids,
    h.map.of_block (far mb h.map.lt (fun e => e.2.2.2.1 rfl) (Ne.symm h.obm)), (far bw (lt_row h.walk) (fun e => e.2.2.1 rfl) (Ne.symm h.obw)).trans h.walk, ?_, ?_, h.apart, h.empty⟩
  · have hR3 : kG.R 50 w3 base (okO bo bk bw mb l) v1 (ys ++ [x]) := Kd.R_step hR (fun j hj hlt => hk.block j hlt (fun e => hj.1 e))
    obtain ⟨A', c', rfl, hc', _⟩ := Kd.R_reads hR3
    exact ⟨A', c', h3, hc', hR3⟩
  · intro p hp
    obtain ⟨g, r1, r2, r3, r4, r5, r6, r7, r8, r9, r10⟩ := h.row p hp
    exact ⟨g, r1, r2, Nat.lt_of_lt_of_le r3 (Nat.le_trans hg.size hk.size), r4, r5, r6, r7, r8, r9, holdsK_block r10 (far g r3 (fun e => e.2.2.2.2 p hp _ r1 rfl) r4)⟩
theorem KW.at (h : KW base w0 bo bk bw mb l cont ys w) (k : Int) : (aget l k = none ∧ cont k = []) ∨ ∃ g n c, aget l k = some (some ⟨g, 0, none⟩, n, c) ∧ n = (cont k).length ∧ n ≤ c ∧ (k, ((some ⟨g, 0, none⟩, n, c) : SV)) ∈ l ∧ g < w.heap.size ∧ HoldsK gC 6 w g 0 (cont k).toArray := by
  cases ha : aget l k with
  | none => exact .inl ⟨rfl, h.empty k ha⟩
  | some p =>
    have hm := (aget_some_iff h.map.nodup k p).1 ha
    obtain ⟨g, h1, h2, h3, h4, h5, h6, h7, h8, h9, h10⟩ := h.row _ hm
    obtain ⟨A, n, c⟩ := p
    have h1' : A = some ⟨g, 0, none⟩ := h1
    subst h1'
    have h8' : n = (cont k).length := h8
    have h9' : (cont k).length ≤ c := h9
    exact .inr ⟨g, n, c, rfl, h8', by omega, hm, h3, h10⟩
def Srt (xs : List SG) : Prop := xs.Pairwise fun a b => a.f0 ≤ b.f0
theorem srt_unique {xs ys : List SG} (h : xs.Perm ys) (hn : (xs.map (·.f0)).Nodup) (hx : Srt xs) (hy : Srt ys) : xs = ys := by
  refine h.eq_of_pairwise ?_ hx hy
  intro a b ha hb h1 h2
  have e : a.f0 = b.f0 := Int.le_antisymm h1 h2
  have hb' := h.mem_iff.2 hb
  exact gOf_inj.1 (inj_id (gs := xs.map gOf) (by unfold gids; rw [List.map_map]; exact hn) (List.mem_map_of_mem ha) (List.mem_map_of_mem hb') e)
def SvAt (l : List (Int × SV)) (k : Int) : SV := (aget l k).getD (none, 0, 0)
def SortKPost (base : Nat) (w0 : World) (bo bk bw mb : Nat) (l : List (Int × SV)) (cont : Int → List SG) (ys : List SG) (k : Int) (e : Ending) (w' : World) : Prop :=
  e = .returned (.tuple #[]) ∧ ∃ cont', KW base w0 bo bk bw mb l cont' ys w' ∧ (∀ j, (cont' j).Perm (cont j)) ∧ (∀ j, Srt (cont j) → ((cont j).map (·.f0)).Nodup → cont' j = cont j) ∧ Srt (cont' k)
theorem KW.sorts (h : KW base w0 bo bk bw mb l cont ys w) (k : Int) (hsz : (cont k).length < 4611686018427387904) :
    Calls Tryz.prog 100 #[sv (SvAt l k), .func (.func 101) #[] #[]] w (SortKPost base w0 bo bk bw mb l cont ys k) := by
  rcases h.at k with ⟨h1, h2⟩ | ⟨g, n, c, h1, h2, h3, h4, h5, h6⟩
  · unfold SvAt sv; rw [h1]
    refine Calls.mono (SortG_none none 0 _ w) ?_
    rintro e w' ⟨rfl, rfl⟩
    exact ⟨rfl, cont, h, fun _ => List.Perm.refl _, fun _ _ _ => rfl, by rw [h2]; exact List.Pairwise.nil⟩
  · unfold SvAt sv; rw [h1]
    subst h2
    refine Calls.mono (SortG_calls g c (cont k) w h5 h6 hsz) ?_
    rintro e w' ⟨rfl, zs, p1, p2, p3, p4⟩
    refine ⟨rfl, _, h.rewrite h4 p1.length_eq p3 p4, fun j => ?_, fun j hj hn => ?_, ?_⟩
    · by_cases hj : j = k
      · subst hj; simpa using p1
      · simp only [hj, if_false]; exact List.Perm.refl _
    · by_cases hjk : j = k
      · subst hjk
        simp only [if_true]
        exact (srt_unique p1.symm hn hj p2).symm
      · simp only [hjk, if_false]
    · simp only [if_true]; exact p2
end
end Go.Proofs.YtpnjhffnlafabaaGreatDoor.Sn
namespace Go.Proofs.YtpnjhffnlafabaaGreatDoor.Sn
set_option linter.unusedVariables false
set_option linter.unusedSimpArgs false
open Go.RowKit Go.Sort Go.Shelf Go.Lib Go.Proofs.Bk Go.Proofs.Bm Go.Proofs.Op Go.Proofs.Sc Go.Proofs.Kf Go.Proofs.YtpnjhffnlafabaaGreatDoorW.PrintWords Go.Proofs.YtpnjhffnlafabaaGreatDoor.PImageBack Go.Proofs.YtpnjhffnlafabaaGreatDoor.St
theorem infoG3 : (Tryz.prog.info? 50).map (fun i => (i.zero, i.size, i.bytes)) = some (some (.agg zG.toArray), 6, 48) := by kernel_rfl
theorem info_rowG : (Tryz.prog.info? 22).map (·.size) = some 1 := by kernel_rfl
theorem zero_rowG (w : World) : (zeroValue 22).run Tryz.prog w = .ok (.slice none 0 0) w := Tryz.zeroValue22 w
theorem look_row {w : World} {mb : Nat} {l : List (Int × SV)} (h : IMap .i64 sv w mb l) (k : Int) :
    (Instr.lookup 131 (.map (some mb)) (.int .i64 k) false).run Tryz.prog w = .ok (sv (SvAt l k)) w := by
  have := run_lookup_imap (P := Tryz.prog) Tryz.underlying131 Tryz.underlying3 (zero_rowG w) h k
  rw [this]
  unfold SvAt
  cases aget l k <;> rfl
def WalkPost (base : Nat) (w0 : World) (bo bk bw mb : Nat) (l : List (Int × SV)) (cont : Int → List SG) (ys : List SG) (f : List G) (e : Ending) (w' : World) : Prop :=
  e = .returned (.tuple #[]) ∧ ∃ cont' ys', KW base w0 bo bk bw mb l cont' ys' w' ∧ (∀ j, (cont' j).Perm (cont j)) ∧ (∀ j, Srt (cont j) → ((cont j).map (·.f0)).Nodup → cont' j = cont j) ∧ ys'.map gOf = ys.map gOf ++ f
section
variable {base : Nat} {w0 : World} {bo bk bw mb : Nat} {l : List (Int × SV)}
theorem KW.fresh {cont : Int → List SG} {ys : List SG} {w : World} (h : KW base w0 bo bk bw mb l cont ys w) (k : Nat) (hk : w.heap.size ≤ k) : okO bo bk bw mb l k := by
  have h1 := h.lo
  have h2 := lt_row h.kids
  have h3 := lt_row h.walk
  have h4 := h.map.lt
  refine ⟨by omega, by omega, by omega, by omega, fun p hp ad had e => ?_⟩
  obtain ⟨g, r1, _, r3, _⟩ := h.row p hp
  rw [r1] at had
  injection had with had
  rw [← had] at e
  have : g = k := e
  omega
theorem kids_row {gs : List G} (hnd : (gids gs).Nodup) {S : List SG} {k : Int} (hp : (S.map gOf).Perm (kidsOf gs k)) (hs : Srt S) : S.map gOf = kidsS gs k := by
  have hn : (S.map (·.f0)).Nodup := by
    have h1 : (gids (S.map gOf)).Nodup := ((hp.map G.id).nodup_iff).2 (kidsOf_nodup hnd k)
    unfold gids at h1; rw [List.map_map] at h1; exact h1
  have h2 : (S.map gOf).Perm (kidsS gs k) := hp.trans (List.mergeSort_perm _ _).symm
  have hn' : (gids (S.map gOf)).Nodup := by unfold gids; rw [List.map_map]; exact hn
  refine h2.eq_of_pairwise (le := fun a b => a.id ≤ b.id) (fun a b ha hb h3 h4 => inj_id hn' ha (h2.mem_iff.2 hb) (Int.le_antisymm h3 h4)) ?_ (sorted_id _)
  rw [List.pairwise_map]; exact hs
theorem KW.cells {cont : Int → List SG} {ys : List SG} {w : World} (h : KW base w0 bo bk bw mb l cont ys w) {k : Int} {A : Option Addr} {n c : Nat} (hs : SvAt l k = (A, n, c)) : n = (cont k).length ∧ n ≤ c ∧ (0 < n → ∃ g, A = some ⟨g, 0, none⟩ ∧ ∀ (i : Nat) (y : SG), (cont k)[i]? = some y → ∀ j u, (gC y)[j]? = some u → w.cell? ⟨g, i * 6 + j, none⟩ = some u) := by
  unfold SvAt at hs
  rcases h.at k with ⟨h1, h2⟩ | ⟨g, n', c', h1, h2, h3, h4, h5, h6⟩
  · rw [h1] at hs
    injection hs with h3 h4
    injection h4 with h4 h5
    subst h4
    subst h5
    exact ⟨by rw [h2]; rfl, Nat.le_refl _, fun h => absurd h (Nat.lt_irrefl _)⟩
  · rw [h1] at hs
    injection hs with h7 h8
    injection h8 with h8 h9
    subst h7
    subst h8
    subst h9
    refine ⟨h2, h3, fun _ => ⟨g, rfl, fun i y hy j u hu => ?_⟩⟩
    have hi : i < (cont k).length := (List.getElem?_eq_some_iff.1 hy).1
    have h9 := holdsK_at gC_len h6 (j := i) (i := j) (u := u) (by simpa using hi) ?_
    · rw [Nat.zero_add] at h9; exact h9
    rw [show (cont k).toArray[i]! = y by rw [getElem!_def]; simp [hy]]
    exact hu
theorem flat_take {α β : Type} (F : α → List β) (S : List α) (i : Nat) (y : α) (h : S[i]? = some y) :
    ((S.take (i + 1)).map F).flatten = ((S.take i).map F).flatten ++ F y ∧ ((S.take i).map F).flatten.length + (F y).length ≤ (S.map F).flatten.length := by
  have h1 : S.take (i + 1) = S.take i ++ [y] := by rw [List.take_add_one, h]; rfl
  have h2 : ((S.take (i + 1)).map F).flatten = ((S.take i).map F).flatten ++ F y := by rw [h1]; simp
  refine ⟨h2, ?_⟩
  have h3 : (S.map F).flatten = ((S.take (i + 1)).map F).flatten ++ ((S.drop (i + 1)).map F).flatten := by rw [← List.flatten_append, ← List.map_append, List.take_append_drop]
  rw [h3, h2]; simp
set_option maxHeartbeats 8000000 in
set_option maxRecDepth 100000 in
theorem walk_step (gs : List G) (hnd : (gids gs).Nodup) (hlen : gs.length ≤ 1099511627776) (x : SG) (f : G → List G)
    (IH : ∀ y : SG, gOf y ∈ kidsOf gs x.f0 → ∀ cont ys W, KW base w0 bo bk bw mb l cont ys W → (∀ j, ((cont j).map gOf).Perm (kidsOf gs j)) → ys.length + (f (gOf y)).length ≤ 1099511627776 →
      Calls Tryz.prog 99 #[.agg (gC y).toArray, .pointer (some ⟨bo, 0, none⟩), .pointer (some ⟨bk, 0, none⟩), .pointer (some ⟨bw, 0, none⟩)] W (WalkPost base w0 bo bk bw mb l cont ys (f (gOf y))))
    (cont : Int → List SG) (ys : List SG) (W : World) (hW : KW base w0 bo bk bw mb l cont ys W) (hC : ∀ j, ((cont j).map gOf).Perm (kidsOf gs j)) (hb : ys.length + (gOf x :: ((kidsS gs x.f0).map f).flatten).length ≤ 1099511627776) :
    Calls Tryz.prog 99 #[.agg (gC x).toArray, .pointer (some ⟨bo, 0, none⟩), .pointer (some ⟨bk, 0, none⟩), .pointer (some ⟨bw, 0, none⟩)] W (WalkPost base w0 bo bk bw mb l cont ys (gOf x :: ((kidsS gs x.f0).map f).flatten)) := by
  show Calls Tryz.prog 99 #[.agg ([.int .i64 x.f0, .int .i64 x.f1, .int .i64 x.f2, .int .i64 x.f3.f0, .int .i64 x.f3.f1, .int .i64 x.f3.f2] : List Value).toArray, .pointer (some ⟨bo, 0, none⟩), .pointer (some ⟨bk, 0, none⟩), .pointer (some ⟨bw, 0, none⟩)] W _
  have hbs := hW.size
  obtain ⟨A, c, ho1, ho2, ho3⟩ := hW.out
  have e1 := one_G x
  change ∀ v ∈ ([.int .i64 x.f0, .int .i64 x.f1, .int .i64 x.f2, .int .i64 x.f3.f0, .int .i64 x.f3.f1, .int .i64 x.f3.f2] : List Value), v.oneCell' = true at e1
  have hm1 : ys.length + 1 ≤ 1099511627776 := by rw [List.length_cons] at hb; omega
  obtain ⟨⟨A5, n5, c5⟩, h5⟩ : ∃ p, SvAt l x.f0 = p := ⟨_, rfl⟩
  have hc0 : (cont x.f0).length < 4611686018427387904 := by
    have h1 := (hC x.f0).length_eq
    rw [List.length_map] at h1
    have h2 : (kidsOf gs x.f0).length ≤ gs.length := List.length_filter_le _ _
    omega
  replace hW := Aside0.mk hW
  replace IH := Aside0.mk IH
  replace hC := Aside0.mk hC; replace hb := Aside0.mk hb; replace ho1 := Aside0.mk ho1; replace ho2 := Aside0.mk ho2; replace ho3 := Aside0.mk ho3; replace e1 := Aside0.mk e1; replace hnd := Aside0.mk hnd; replace hlen := Aside0.mk hlen; replace h5 := Aside0.mk h5; replace hc0 := Aside0.mk hc0
  go_enter Tryz.func99, Tryz.ntmps99
  go_wp2_with (first
    | (((with_reducible refine gate_dst (N := 4) rfl ?_); refine box_event ?hg (N := 4) ?hd (cs := ([.int .i64 x.f0, .int .i64 x.f1, .int .i64 x.f2, .int .i64 x.f3.f0, .int .i64 x.f3.f1, .int .i64 x.f3.f2] : List Value).toArray) (t := 50) ?hr ?_; (case hd => rfl); (case hg => rfl); (case hr => first | (go_simp; done) | (go_simp; rfl)); intro gb hgb w1 kgb bgb; replace hgb := Aside0.mk hgb; replace kgb := Aside0.mk kgb; replace bgb := Aside0.mk bgb); have hW1 := Aside0.mk (hW.out.grow bgb.out hbs); have ho1' := Aside0.mk (Kf.row_below bgb.out ho1.out); have co : w1.cell? ⟨bo, 0, none⟩ = some (.slice A ys.length c) := (Kf.cell_row ho1'.out 0).trans rfl; have hR1 := Aside0.mk (Kd.R_below ho3.out bgb.out); have hg1 := kgb)
    | ((with_reducible refine gate_op (.load 50 (.tmp 4)) rfl ?_); refine wpList_load_midB rfl _ _ rfl ⟨gb, 0, none⟩ rfl ([.int .i64 x.f0, .int .i64 x.f1, .int .i64 x.f2, .int .i64 x.f3.f0, .int .i64 x.f3.f1, .int .i64 x.f3.f2] : List Value) _ (fun j v hv => by rw [add_at]; exact (Kf.cell_row hg1.out _).trans (by simpa using hv)) Tryz.underlying50 rfl info_G ?_)
    | ((with_reducible refine gate_builtin (b := .append) (xs := #[.tmp 8, .tmp 10]) rfl ?_); at_builtin; refine Kd.R_append kG (w0 := w0) base rfl (.tmp 8) (.tmp 10) 22 50 (.agg zG.toArray) 48 rfl Tryz.underlying22 infoG3 rfl (by decide) (by omega) (.slice A ys.length c) ys x ([.int .i64 x.f0, .int .i64 x.f1, .int .i64 x.f2, .int .i64 x.f3.f0, .int .i64 x.f3.f1, .int .i64 x.f3.f2] : List Value) (okO bo bk bw mb l) (fun _ => False) rfl rfl ?aP (fun _ hk => hk.elim) hW1.out.fresh hR1.out hW1.out.below hW1.out.size (by omega) ?_; (case aP => exact k50_mkM _ _ _ _); intro v2 w2 ho2' hb2 hg2 hat2; clear hat2; obtain ⟨A2, c2, rfl, hc2, _⟩ := Kd.R_reads ho2'; have hbo2 := (hg2.block bo hW1.out.lo (fun e => (hR1.out.1 bo e.symm).1 rfl)).trans ho1'.out; have hgb2 := (hg2.block gb (lt_row hg1.out) (by have := Kd.R_ne_new ho3.out 0; rw [hgb.out]; exact this)).trans hg1.out; replace ho2' := Aside0.mk ho2'; replace hb2 := Aside0.mk hb2; replace hg2 := Aside0.mk hg2; replace hbo2 := Aside0.mk hbo2; replace hgb2 := Aside0.mk hgb2; replace hc2 := Aside0.mk hc2)
    | ((with_reducible refine gate_op (.store 22 (.tmp 1) (.tmp 11)) rfl ?_); refine store1_event rfl _ _ _ rfl bo A2 (ys ++ [x]).length c2 (.slice A ys.length c) 22 rfl rfl hbo2.out info_rowG ?_; intro w3 h3 k3; have hW3 := Aside0.mk (hW1.out.push ho2'.out ho1'.out hR1.out hb2.out hg2.out h3 k3); have hgb3 := (k3.block gb (lt_row hgb2.out) (by have := hgb.out; have := hW.out.lo; omega)).trans hgb2.out; have ck : w3.cell? ⟨bk, 0, none⟩ = some (.map (some mb)) := (Kf.cell_row hW3.out.kids 0).trans rfl; have cg : w3.cell? ⟨gb, 0, none⟩ = some (.int .i64 x.f0) := (Kf.cell_row hgb3 0).trans rfl; have hla := look_row hW3.out.map x.f0; rw [h5.out] at hla; change _ = Result.ok (Value.slice A5 n5 c5) w3 at hla; clear h3 k3 hgb3))
  have hcs := hW3.out.sorts x.f0 hc0.out
  rw [h5.out] at hcs
  change Calls _ _ #[.slice A5 n5 c5, _] _ _ at hcs
  with_reducible refine hcs.mono ?_
  rintro e4 w4 ⟨rfl, cont4, hW4, hp4, hm4, hs4⟩
  obtain ⟨S, hS⟩ : ∃ S, cont4 x.f0 = S := ⟨_, rfl⟩
  have hC4 : ∀ j, ((cont4 j).map gOf).Perm (kidsOf gs j) := fun j => ((hp4 j).map gOf).trans (hC.out j)
  have hK : S.map gOf = kidsS gs x.f0 := by rw [← hS]; exact kids_row hnd.out (hC4 x.f0) hs4
  have hSn : (S.map (·.f0)).Nodup := by
    have h1 : (gids (S.map gOf)).Nodup := by rw [← hS]; exact (((hC4 x.f0).map G.id).nodup_iff).2 (kidsOf_nodup hnd.out _)
    unfold gids at h1; rw [List.map_map] at h1; exact h1
  obtain ⟨q1, q2, -⟩ := hW4.cells h5.out
  rw [hS] at q1
  have hn5 : (n5 : Int) ≤ (c5 : Int) := by omega
  have hn6 : n5 < 4611686018427387904 := by have h1 := (hC4 x.f0).length_eq; rw [List.length_map, hS] at h1; have h2 : (kidsOf gs x.f0).length ≤ gs.length := List.length_filter_le _ _; have := hlen.out; omega
  have hbS : ys.length + 1 + ((S.map fun y => f (gOf y)).flatten).length ≤ 1099511627776 := by
    have := hb.out
    rw [← hK, List.map_map, List.length_cons] at this
    have e : ((S.map (f ∘ gOf)).flatten).length = ((S.map fun y => f (gOf y)).flatten).length := rfl
    omega
  have hst : ∀ contj : Int → List SG, (∀ j, Srt (cont4 j) → ((cont4 j).map (·.f0)).Nodup → contj j = cont4 j) → contj x.f0 = S := fun contj h => by rw [h x.f0 hs4 (by rw [hS]; exact hSn), hS]
  clear hla ck cg co hcs
  replace hW4 := Aside0.mk hW4
  replace hp4 := Aside0.mk hp4; replace hm4 := Aside0.mk hm4; replace hs4 := Aside0.mk hs4; replace hC4 := Aside0.mk hC4; replace hK := Aside0.mk hK; replace hSn := Aside0.mk hSn; replace hbS := Aside0.mk hbS; replace hst := Aside0.mk hst; replace hS := Aside0.mk hS; replace q1 := Aside0.mk q1; replace q2 := Aside0.mk q2
  go_wp2_with fail
  go_loopw [20] (fun t20 wr => ∃ (i : Nat) (contj : Int → List SG) (ysj : List SG), t20 = .int .i64 i ∧ i ≤ n5 ∧ Aside0 (KW base w0 bo bk bw mb l contj ysj wr) ∧ Aside0 (∀ j, (contj j).Perm (cont4 j)) ∧ Aside0 (∀ j, Srt (cont4 j) → ((cont4 j).map (·.f0)).Nodup → contj j = cont4 j) ∧ Aside0 (ysj.map gOf = (ys ++ [x]).map gOf ++ ((S.take i).map fun y => f (gOf y)).flatten)) (fun t20 _ => n5 - (intOf t20).toNat)
  case atStart => exact ⟨0, cont4, ys ++ [x], rfl, Nat.zero_le _, hW4, ⟨fun _ => List.Perm.refl _⟩, ⟨fun _ _ _ => rfl⟩, ⟨by simp⟩⟩
  case round =>
    obtain ⟨i, contj, ysj, rfl, hi, hWj, hpj, hmj, hyj⟩ := hrel
    by_cases hlt : i < n5
    · have hlt' : (i : Int) < (n5 : Int) := by omega
      have hi0 : (0 : Int) ≤ (i : Int) := by omega
      obtain ⟨y, hy⟩ : ∃ y, S[i]? = some y := ⟨S[i]'(by have := q1.out; omega), List.getElem?_eq_getElem _⟩
      have hcj := hst.out contj hmj.out
      obtain ⟨-, -, hce⟩ := hWj.out.cells h5.out
      obtain ⟨g5, hA5, hce2⟩ := hce (by omega)
      clear hce
      have hcs := hce2 i y (by rw [hcj]; exact hy)
      clear hce2
      subst hA5
      obtain ⟨ft1, ft2⟩ := flat_take (fun y => f (gOf y)) S i y hy
      have e2 := one_G y
      change ∀ v ∈ ([.int .i64 y.f0, .int .i64 y.f1, .int .i64 y.f2, .int .i64 y.f3.f0, .int .i64 y.f3.f1, .int .i64 y.f3.f2] : List Value), v.oneCell' = true at e2
      change ∀ i' u, ([.int .i64 y.f0, .int .i64 y.f1, .int .i64 y.f2, .int .i64 y.f3.f0, .int .i64 y.f3.f1, .int .i64 y.f3.f2] : List Value)[i']? = some u → wr.cell? ⟨g5, i * 6 + i', none⟩ = some u at hcs
      have hyk : gOf y ∈ kidsOf gs x.f0 := by
        have h1 : gOf y ∈ S.map gOf := List.mem_map_of_mem (List.mem_of_getElem? hy)
        rw [← hS.out] at h1
        exact (hC4.out x.f0).mem_iff.1 h1
      have hyl : ysj.length + (f (gOf y)).length ≤ 1099511627776 := by
        have h1 := congrArg List.length hyj.out
        rw [List.length_map, List.length_append, List.length_map, List.length_append] at h1
        have := hbS.out
        simp only [List.length_singleton] at h1
        omega
      have hih := fun V hV => IH.out y hyk contj ysj V hV (fun j => ((hpj.out j).map gOf).trans (hC4.out j)) hyl
      change ∀ V, _ → Calls Tryz.prog 99 #[.agg ([.int .i64 y.f0, .int .i64 y.f1, .int .i64 y.f2, .int .i64 y.f3.f0, .int .i64 y.f3.f1, .int .i64 y.f3.f2] : List Value).toArray, .pointer (some ⟨bo, 0, none⟩), .pointer (some ⟨bk, 0, none⟩), .pointer (some ⟨bw, 0, none⟩)] V _ at hih
      have hjs := hWj.out.size
      replace hcs := Aside0.mk hcs; replace ft1 := Aside0.mk ft1; replace ft2 := Aside0.mk ft2; replace e2 := Aside0.mk e2; replace hyk := Aside0.mk hyk; replace hyl := Aside0.mk hyl; replace hih := Aside0.mk hih; replace hy := Aside0.mk hy; replace hcj := Aside0.mk hcj
      go_wp2_with (first
        | ((with_reducible refine gate_op (.load 50 (.tmp 22)) rfl ?_); refine wpList_load_midB rfl _ _ rfl ⟨g5, i * 6, none⟩ rfl ([.int .i64 y.f0, .int .i64 y.f1, .int .i64 y.f2, .int .i64 y.f3.f0, .int .i64 y.f3.f1, .int .i64 y.f3.f2] : List Value) _ (fun j v hv => by rw [add_at]; exact hcs.out j v hv) Tryz.underlying50 rfl info_G ?_)
        | (((with_reducible refine gate_dst (N := 7) rfl ?_); refine box_event ?hg (N := 7) ?hd (cs := zG.toArray) (t := 50) ?hr ?_; (case hd => rfl); (case hg => rfl); (case hr => first | (go_simp; done) | (go_simp; rfl)); intro gb5 hgb5 w7 kgb5 bgb5; replace hgb5 := Aside0.mk hgb5; replace kgb5 := Aside0.mk kgb5; replace bgb5 := Aside0.mk bgb5))
        | (((with_reducible refine gate_op (.store 50 (.tmp 7) (.tmp 23)) rfl ?_); refine wpList_store_midB rfl _ _ _ rfl gb5 0 ([.int .i64 y.f0, .int .i64 y.f1, .int .i64 y.f2, .int .i64 y.f3.f0, .int .i64 y.f3.f1, .int .i64 y.f3.f2] : List Value) rfl rfl 50 zG kgb5.out info_G (Nat.le_refl _) e2.out ?_; obtain ⟨kk, bb⟩ := boxed (cs := zG) (cs2 := ([.int .i64 y.f0, .int .i64 y.f1, .int .i64 y.f2, .int .i64 y.f3.f0, .int .i64 y.f3.f1, .int .i64 y.f3.f2] : List Value)) hgb5.out kgb5.out bgb5.out rfl; revert kk bb; generalize World.setRow _ gb5 (splice zG 0 ([.int .i64 y.f0, .int .i64 y.f1, .int .i64 y.f2, .int .i64 y.f3.f0, .int .i64 y.f3.f1, .int .i64 y.f3.f2] : List Value)).toArray = w8; clear kgb5 bgb5; intro kgb5 bgb5; replace kgb5 := Aside0.mk kgb5; replace bgb5 := Aside0.mk bgb5); have hW8 := Aside0.mk (hWj.out.grow bgb5.out hjs); have cw : w8.cell? ⟨bw, 0, none⟩ = some (walkV bo bk bw) := (Kf.cell_row hW8.out.walk 0).trans rfl; unfold walkV at cw; have hg8 := kgb5)
        | ((with_reducible refine gate_op (.load 50 (.tmp 7)) rfl ?_); refine wpList_load_midB rfl _ _ rfl ⟨gb5, 0, none⟩ rfl ([.int .i64 y.f0, .int .i64 y.f1, .int .i64 y.f2, .int .i64 y.f3.f0, .int .i64 y.f3.f1, .int .i64 y.f3.f2] : List Value) _ (fun j v hv => by rw [add_at]; exact (Kf.cell_row hg8.out _).trans (by simpa using hv)) Tryz.underlying50 rfl info_G ?_))
      with_reducible refine (hih.out _ hW8.out).mono ?_
      rintro e9 w9 ⟨rfl, cont9, ys9, hW9, hp9, hm9, hy9⟩
      clear cw
      replace hW9 := Aside0.mk hW9
      replace hp9 := Aside0.mk hp9; replace hm9 := Aside0.mk hm9; replace hy9 := Aside0.mk hy9
      go_wp2_with fail
      go_roundw
      case measure => show n5 - ((i : Int) + 1).toNat < n5 - (i : Int).toNat; omega
      case rel =>
        refine ⟨i + 1, cont9, ys9, by simp, by omega, hW9, ⟨fun j => (hp9.out j).trans (hpj.out j)⟩, ⟨fun j h1 h2 => ?_⟩, ⟨?_⟩⟩
        · have h3 := hmj.out j h1 h2
          rw [hm9.out j (by rw [h3]; exact h1) (by rw [h3]; exact h2), h3]
        · rw [hy9.out, hyj.out, ft1.out, List.append_assoc]
    · obtain rfl : i = n5 := by omega
      have hlt' : ¬ (i : Int) < (i : Int) := by omega
      have hy2 := hyj.out
      rw [q1.out, List.take_length] at hy2
      replace hy2 := Aside0.mk hy2
      go_wp2_with fail
      first | go_end0 | go_ret
      refine ⟨rfl, contj, ysj, hWj.out, fun j => (hpj.out j).trans (hp4.out j), fun j h1 h2 => ?_, ?_⟩
      · have h3 := hm4.out j h1 h2
        rw [hmj.out j (by rw [h3]; exact h1) (by rw [h3]; exact h2), h3]
      · rw [hy2.out, ← hK.out, List.map_map]
        simp [Function.comp_def]
end
end Go.Proofs.YtpnjhffnlafabaaGreatDoor.Sn
namespace Go.Proofs.YtpnjhffnlafabaaGreatDoor.Sn
set_option linter.unusedVariables false
set_option linter.unusedSimpArgs false
open Go.RowKit Go.Sort Go.Shelf Go.Lib Go.Proofs.Bk Go.Proofs.Bm Go.Proofs.Op Go.Proofs.Sc Go.Proofs.Kf Go.Proofs.YtpnjhffnlafabaaGreatDoorW.PrintWords Go.Proofs.YtpnjhffnlafabaaGreatDoor.PImageBack Go.Proofs.YtpnjhffnlafabaaGreatDoor.St
theorem mem_kidsOf {gs : List G} {k : Int} {c : G} (h : c ∈ kidsOf gs k) : c ∈ gs ∧ c.parent = k := by
  obtain ⟨h1, h2⟩ := List.mem_filter.1 h
  exact ⟨h1, of_decide_eq_true h2⟩
theorem nodup_of_gids {l : List G} (h : (gids l).Nodup) : l.Nodup := by
  unfold gids List.Nodup at h
  rw [List.pairwise_map] at h
  exact h.imp (fun hab e => hab (by rw [e]))
theorem kids_all {gs : List G} (hnd : (gids gs).Nodup) {S : List G} (hS : (gids S).Nodup) : (gids ((S.map fun g => kidsS gs g.id).flatten)).Nodup ∧ ∀ c, c ∈ (S.map fun g => kidsS gs g.id).flatten → c ∈ gs := by
  have hmem : ∀ (k : Int) c, c ∈ kidsS gs k ↔ c ∈ gs ∧ c.parent = k := fun k c => mem_kids
  have hk : ∀ k, (gids (kidsS gs k)).Nodup := fun k => (((List.mergeSort_perm (kidsOf gs k) _).map G.id).nodup_iff).2 (kidsOf_nodup hnd k)
  constructor
  · unfold gids List.Nodup
    rw [List.pairwise_map, List.pairwise_flatten]
    constructor
    · intro L hL
      obtain ⟨g, hg, rfl⟩ := List.mem_map.1 hL
      have := hk g.id
      unfold gids List.Nodup at this
      rw [List.pairwise_map] at this
      exact this
    · rw [List.pairwise_map]
      unfold gids List.Nodup at hS
      rw [List.pairwise_map] at hS
      refine hS.imp (fun {g g'} hne c hc c' hc' e => hne ?_)
      obtain ⟨h1, h2⟩ := (hmem _ _).1 hc
      obtain ⟨h3, h4⟩ := (hmem _ _).1 hc'
      have : c = c' := inj_id hnd h1 h3 e
      rw [← h2, ← h4, this]
  · intro c hc
    obtain ⟨L, hL, hcL⟩ := List.mem_flatten.1 hc
    obtain ⟨g, hg, rfl⟩ := List.mem_map.1 hL
    exact ((hmem _ _).1 hcL).1
theorem len_one {α : Type} : ∀ S : List α, ((S.map fun g => [g]).flatten).length = S.length
  | [] => rfl
  | g :: S => by have := len_one S; simp only [List.map_cons, List.flatten_cons, List.length_append, List.length_cons, List.length_nil] at *; omega
theorem len_more {α β : Type} (K : α → List β) (F : β → List α) : ∀ S : List α, ((S.map fun g => g :: ((K g).map F).flatten).flatten).length = S.length + ((((S.map K).flatten).map F).flatten).length
  | [] => rfl
  | g :: S => by have := len_more K F S; simp only [List.map_cons, List.flatten_cons, List.length_append, List.length_cons, List.map_append, List.flatten_append] at *; omega
theorem walk_lens {gs : List G} (hnd : (gids gs).Nodup) : ∀ (n : Nat) (S : List G), (gids S).Nodup → (∀ g ∈ S, g ∈ gs) → ((S.map (walk gs n)).flatten).length ≤ (n + 1) * gs.length
  | 0, S, hS, hs => by
    have h1 : ((S.map (walk gs 0)).flatten).length = S.length := len_one S
    rw [h1]
    have := List.Nodup.length_le_of_subset (nodup_of_gids hS) (fun g hg => hs g hg)
    omega
  | n + 1, S, hS, hs => by
    have h1 : ((S.map (walk gs (n + 1))).flatten).length = S.length + ((((S.map fun g => kidsS gs g.id).flatten).map (walk gs n)).flatten).length := len_more (fun g : G => kidsS gs g.id) (walk gs n) S
    rw [h1]
    obtain ⟨h2, h3⟩ := kids_all hnd hS
    have h4 := walk_lens hnd n _ h2 h3
    have h5 := List.Nodup.length_le_of_subset (nodup_of_gids hS) (fun g hg => hs g hg)
    rw [Nat.succ_mul]; omega
theorem walk_len {gs : List G} (hnd : (gids gs).Nodup) (n : Nat) {g : G} (hg : g ∈ gs) : (walk gs n g).length ≤ (n + 1) * gs.length := by
  have := walk_lens hnd n [g] (by simp [gids]) (by simpa using hg)
  simpa using this
section
variable {base : Nat} {w0 : World} {bo bk bw mb : Nat} {l : List (Int × SV)}
theorem walk_calls {gs : List G} (Y : Tree gs) (hlen : gs.length ≤ 1099511627776) : ∀ (n : Nat) (x : SG), gOf x ∈ gs → (gs.length : Int) ≤ stepsOf gs x.f0 + n → ∀ cont ys W, KW base w0 bo bk bw mb l cont ys W → (∀ j, ((cont j).map gOf).Perm (kidsOf gs j)) → ys.length + (walk gs n (gOf x)).length ≤ 1099511627776 →
    Calls Tryz.prog 99 #[.agg (gC x).toArray, .pointer (some ⟨bo, 0, none⟩), .pointer (some ⟨bk, 0, none⟩), .pointer (some ⟨bw, 0, none⟩)] W (WalkPost base w0 bo bk bw mb l cont ys (walk gs n (gOf x)))
  | 0, x, hx, hn, cont, ys, W, hW, hC, hb => by
    have hk : kidsOf gs x.f0 = [] := by
      rw [List.eq_nil_iff_forall_not_mem]
      intro c hc
      obtain ⟨h1, h2⟩ := mem_kidsOf hc
      have h3 := Y.kid (g := gOf x) (c := c) hx h1 h2
      have h4 := Y.le h1
      have h5 : stepsOf gs (gOf x).id = stepsOf gs x.f0 := rfl
      omega
    have hk2 : kidsS gs x.f0 = [] := by unfold kidsS; rw [hk]; simp
    have he : walk gs 0 (gOf x) = gOf x :: ((kidsS gs x.f0).map fun _ => ([] : List G)).flatten := by rw [hk2]; rfl
    rw [he] at hb ⊢
    exact walk_step gs Y.nd hlen x (fun _ => []) (fun y hy => by rw [hk] at hy; simp at hy) cont ys W hW hC hb
  | n + 1, x, hx, hn, cont, ys, W, hW, hC, hb => by
    have he : walk gs (n + 1) (gOf x) = gOf x :: ((kidsS gs x.f0).map (walk gs n)).flatten := rfl
    rw [he] at hb ⊢
    refine walk_step gs Y.nd hlen x (walk gs n) (fun y hy cont ys W hW hC hb => ?_) cont ys W hW hC hb
    obtain ⟨h1, h2⟩ := mem_kidsOf hy
    have h3 := Y.kid (g := gOf x) (c := gOf y) hx h1 h2
    have h5 : stepsOf gs (gOf x).id = stepsOf gs x.f0 := rfl
    have h6 : stepsOf gs (gOf y).id = stepsOf gs y.f0 := rfl
    exact walk_calls Y hlen n y h1 (by omega) cont ys W hW hC hb
end
end Go.Proofs.YtpnjhffnlafabaaGreatDoor.Sn
namespace Go.Proofs.YtpnjhffnlafabaaGreatDoor.Sn
set_option linter.unusedVariables false
set_option linter.unusedSimpArgs false
open Go.RowKit Go.Sort Go.Shelf Go.Lib Go.Proofs.Bk Go.Proofs.Bm Go.Proofs.Op Go.Proofs.Sc Go.Proofs.Kf Go.Proofs.YtpnjhffnlafabaaGreatDoorW.PrintWords Go.Proofs.YtpnjhffnlafabaaGreatDoor.PImageBack Go.Proofs.YtpnjhffnlafabaaGreatDoor.St
def kidsX (zs : List SG) (k : Int) : List SG := zs.filter fun y => decide (y.f1 = k)
theorem kidsX_snoc (zs : List SG) (x : SG) (k : Int) : kidsX (zs ++ [x]) k = if x.f1 = k then kidsX zs k ++ [x] else kidsX zs k := by
  unfold kidsX
  rw [List.filter_append]
  by_cases h : x.f1 = k <;> simp [h]
theorem kidsX_map (zs : List SG) (k : Int) : (kidsX zs k).map gOf = kidsOf (zs.map gOf) k := by
  unfold kidsX kidsOf
  rw [List.filter_map]; rfl
def okB (bk mb : Nat) (l : List (Int × SV)) (k : Int) (b : Nat) : Prop := b ≠ bk ∧ b ≠ mb ∧ ∀ q ∈ l, q.1 ≠ k → (sv q.2).ownBlock ≠ some b
structure KB (base : Nat) (w0 : World) (bk mb : Nat) (zs : List SG) (l : List (Int × SV)) (w : World) : Prop where
  below : Below base w0 w
  bbk : base ≤ bk
  bmb : base ≤ mb
  bkm : bk ≠ mb
  kids : w.heap[bk]? = some (.cells #[.map (some mb)] 131 (0, 0))
  map : IMap .i64 sv w mb l
  row : ∀ p ∈ l, (p.2.1 ≠ none) ∧ kG.R 50 w base (okB bk mb l p.1) (sv p.2) (kidsX zs p.1)
  empty : ∀ k, aget l k = none → kidsX zs k = []
section
variable {base : Nat} {w0 w w1 w2 w3 : World} {bk mb : Nat} {zs : List SG} {l : List (Int × SV)}
theorem KB.size (h : KB base w0 bk mb zs l w) : base ≤ w.heap.size := Nat.le_of_lt (Nat.lt_of_le_of_lt h.bbk (lt_row h.kids))
theorem KB.grow (h : KB base w0 bk mb zs l w) (hb : Below w.heap.size w w1) : KB base w0 bk mb zs l w1 :=
  ⟨h.below.trans (hb.mono h.size), h.bbk, h.bmb, h.bkm, row_below hb h.kids, h.map.of_block (hb.block _ h.map.lt), fun p hp => ⟨(h.row p hp).1, Kd.R_below (h.row p hp).2 hb⟩, h.empty⟩
theorem KB.old (h : KB base w0 bk mb zs l w) (k : Int) : kG.R 50 w base (okB bk mb l k) (sv (SvAt l k)) (kidsX zs k) := by
  unfold SvAt
  cases ha : aget l k with
  | none => rw [h.empty k ha]; exact Kd.R_nil _ _ _ _ _
  | some p => exact (h.row _ ((aget_some_iff h.map.nodup k p).1 ha)).2
theorem KB.fresh (h : KB base w0 bk mb zs l w) (k : Int) (b : Nat) (hb : w.heap.size ≤ b) : okB bk mb l k b := by
  have h2 := lt_row h.kids
  have h4 := h.map.lt
  refine ⟨by omega, by omega, fun q hq _ e => ?_⟩
  have := Kd.R_lt (h.row q hq).2 _ e
  omega
theorem KB.push (h : KB base w0 bk mb zs l w) {x : SG} {p1 : SV} {o : Obj} (hR : kG.R 50 w2 base (okB bk mb l x.f1) (sv p1) (kidsX zs x.f1 ++ [x])) (hb : Below base w0 w2)
    (hg : w.grownBy w2 (sv (SvAt l x.f1)).ownBlock) (hat : (sv p1).ownBlock = (sv (SvAt l x.f1)).ownBlock ∨ ∃ b, (sv p1).ownBlock = some b ∧ w.heap.size ≤ b)
    (hm : IMap .i64 sv (bset w2 mb o) mb (aset l x.f1 p1)) : KB base w0 bk mb (zs ++ [x]) (aset l x.f1 p1) (bset w2 mb o) := by
  have hk := KeepF.bset w2 mb o
  have hold := h.old x.f1
  have far : ∀ b, b < w.heap.size → (sv (SvAt l x.f1)).ownBlock ≠ some b → b ≠ mb → (bset w2 mb o).heap[b]? = w.heap[b]? := fun b h1 h2 h3 =>
    (hk.block b (Nat.lt_of_lt_of_le h1 hg.size) h3).trans (hg.block b h1 (fun e => h2 e.symm))
  refine ⟨hb.trans (hk.to_below (Nat.le_trans h.size hg.size) (fun i hi => by rw [hi]; exact h.bmb)), h.bbk, h.bmb, h.bkm, (far bk (lt_row h.kids) (fun e => (hold.1 bk e).1 rfl) h.bkm).trans h.kids, hm, ?_, ?_⟩
  · intro q hq
    have hn' := hm.nodup
    have hqa := (aget_some_iff hn' q.1 q.2).2 hq
    rw [aget_aset] at hqa
    have hin : ∀ q' ∈ aset l x.f1 p1, q'.1 ≠ x.f1 → q' ∈ l := fun q' hq' hne => by
      have := (aget_some_iff hn' q'.1 q'.2).2 hq'
      rw [aget_aset, if_neg hne] at this
      exact (aget_some_iff h.map.nodup q'.1 q'.2).1 this
    by_cases hqk : q.1 = x.f1
    · rw [if_pos hqk] at hqa
      have hq2 : q.2 = p1 := (Option.some.inj hqa).symm
      rw [hq2, hqk, kidsX_snoc, if_pos rfl]
      have hR3 : kG.R 50 (bset w2 mb o) base (okB bk mb l x.f1) (sv p1) (kidsX zs x.f1 ++ [x]) := Kd.R_step hR (fun b hb hlt => hk.block b hlt hb.2.1)
      refine ⟨?_, Kd.R_mono hR3 (fun b hb => ⟨hb.1, hb.2.1, fun q' hq' hne => hb.2.2 q' (hin q' hq' hne) hne⟩)⟩
      intro e
      obtain ⟨ad, c, he⟩ := Kd.R_slice1 hR3 (by simp)
      unfold sv at he
      rw [e] at he
      cases he
    · have hql := hin q hq hqk
      obtain ⟨r1, r2⟩ := h.row q hql
      rw [kidsX_snoc, if_neg (fun e => hqk e.symm)]
      refine ⟨r1, ?_⟩
      have hnew : ∀ b, okB bk mb l q.1 b → b < w.heap.size → (sv p1).ownBlock ≠ some b ∧ (sv (SvAt l x.f1)).ownBlock ≠ some b := by
        intro b hb hlt
        have hold2 : (sv (SvAt l x.f1)).ownBlock ≠ some b := by
          unfold SvAt
          cases ha : aget l x.f1 with
          | none => intro e; cases e
          | some p => exact hb.2.2 _ ((aget_some_iff h.map.nodup x.f1 p).1 ha) (fun e => hqk e.symm)
        refine ⟨?_, hold2⟩
        rcases hat with e | ⟨b', e, hle⟩
        · rw [e]; exact hold2
        · rw [e]; intro e2; injection e2 with e2; omega
      have r3 := Kd.R_bound r2
      have r4 := Kd.R_move (w1 := bset w2 mb o) r3 (fun b hb => far b hb.2.2.1 (hnew b hb.1 hb.2.2.1).2 hb.1.2.1)
      refine Kd.R_mono r4 (fun b hb => ⟨hb.1.1, hb.1.2.1, fun q' hq' hne e => ?_⟩)
      by_cases hq1 : q'.1 = x.f1
      · have := (aget_some_iff hn' q'.1 q'.2).2 hq'
        rw [aget_aset, if_pos hq1] at this
        rw [← Option.some.inj this] at e
        exact (hnew b hb.1 hb.2.2.1).1 e
      · exact hb.1.2.2 q' (hin q' hq' hq1) hne e
  · intro k hk2
    rw [aget_aset] at hk2
    by_cases e : k = x.f1
    · rw [if_pos e] at hk2; cases hk2
    · rw [if_neg e] at hk2
      rw [kidsX_snoc, if_neg (fun e2 => e e2.symm)]
      exact h.empty k hk2
theorem R_holds {ok : Nat → Prop} {v : Value} {xs : List SG} (h : kG.R 50 w base ok v xs) (hne : v ≠ .slice none 0 0) :
    ∃ g c, v = .slice (some ⟨g, 0, none⟩) xs.length c ∧ base ≤ g ∧ g < w.heap.size ∧ xs.length ≤ c ∧ HoldsK gC 6 w g 0 xs.toArray := by
  obtain ⟨A, c0, e0, hl0, hC⟩ := Kd.R_reads h
  obtain ⟨inner, hlen, ho⟩ := Kd.R_own h
  rcases ho with ⟨e1, _⟩ | ⟨g, cap, cur, e1, h1, h2, h3, _, _, _⟩
  · exact absurd e1 hne
  refine ⟨g, cap, e1, h1, lt_row h2, h3, fun j hj => ⟨?_, by simp [World.frozen?, h2]⟩⟩
  rw [size_flatK] at hj
  have hj' : j < xs.length * 6 := by simpa using hj
  rw [e1] at e0
  injection e0 with e2 _ _
  rw [← e2] at hC
  obtain ⟨b, off, e3, _, h5⟩ := G_at hC (by omega)
  injection e3 with e3
  injection e3 with e3 e4
  subst e3
  subst e4
  have h6 : j % 6 < (gC xs[j / 6]!).length := by rw [gC_len]; omega
  have h7 := h5 (j / 6) (by omega) (j % 6) _ (List.getElem?_eq_getElem h6)
  rw [show 0 + j / 6 * 6 + j % 6 = 0 + j by omega] at h7
  rw [h7, get_flatK gC 6 xs.toArray j hj, show xs.toArray[j / 6]! = xs[j / 6]! by rw [getElem!_def, getElem!_def]; simp, getElem!_pos (gC xs[j / 6]!) (j % 6) h6]
  rfl
end
end Go.Proofs.YtpnjhffnlafabaaGreatDoor.Sn
namespace Go.Proofs.YtpnjhffnlafabaaGreatDoor.Sn
set_option linter.unusedVariables false
set_option linter.unusedSimpArgs false
open Go.RowKit Go.Sort Go.Shelf Go.Lib Go.Proofs.Bk Go.Proofs.Bm Go.Proofs.Op Go.Proofs.Sc Go.Proofs.Kf Go.Proofs.YtpnjhffnlafabaaGreatDoorW.PrintWords Go.Proofs.YtpnjhffnlafabaaGreatDoor.PImageBack Go.Proofs.YtpnjhffnlafabaaGreatDoor.St
section
variable {P : Program} {W : World} {ops : Array Oper} {rest : List Oper} {o : Oper} {a : Act} {Q : Exit → Act → World → Prop}
theorem store1v_event (hgd : o.guard = none) (ty : TypeId) (x y : Operand) (ho : o.op = .store ty x y) (g : Nat) (v v0 : Value) (t : TypeId) (hx : a.eval x = .pointer (some ⟨g, 0, none⟩)) (hy : a.eval y = v)
    (hv1 : v.oneCell' = true) (hvc : v.cells = #[v]) (hg : W.heap[g]? = some (.cells #[v0] t (0, 0))) (hi : (P.info? ty).map (·.size) = some 1)
    (h : ∀ w1 : World, w1.heap[g]? = some (.cells #[v] t (0, 0)) → KeepF (fun k => k = g) W w1 → wpList P ops Q rest (a.put o.dst undef) w1) : wpList P ops Q (o :: rest) a W := by
  have h1 : (storeVar ty ⟨g, 0, none⟩ v).run P W = .ok () (W.setRow g #[v]) := by
    have := run_storeCells_mid (P := P) g 0 t [v] 0 [v0] W hg (by simp) (fun u hu => by simp at hu; subst hu; exact hv1)
    cases hq : P.info? ty with
    | none => simp [hq] at hi
    | some i =>
      have hs : i.size = 1 := by simpa [hq] using hi
      have hs2 : (splice [v0] 0 [v]).toArray = #[v] := by simp [splice]
      rw [Nat.zero_add, hs2] at this
      simp [storeVar, sizeOf, typeInfo, hq, hvc, hs, this]
  refine wpList_plain hgd fun _ hK => ?_
  unfold Oper.wp execOp
  simp only [ho, hx, hy, Instr.storeAt, Instr.sureAddr, Sem.run_bind, Sem.run_pure, Result.andThen_ok, h1]
  exact hK _ _ (h _ (setRow_heap W g _ _ t _ hg) (KeepF.setRow W g _))
end
section
variable {P : Program} {w : World} {ops : Array Oper} {o : Oper} {a : Act} {Q : Exit → Act → World → Prop} {Kc : Act → World → Prop}
end
theorem seven {W : World} {bk gb mb : Nat} {x : SG} (h1 : W.heap[bk]? = some (.cells #[.map (some mb)] 131 (0, 0))) (h2 : W.heap[gb]? = some (.cells ([.int .i64 x.f0, .int .i64 x.f1, .int .i64 x.f2, .int .i64 x.f3.f0, .int .i64 x.f3.f1, .int .i64 x.f3.f2] : List Value).toArray 50 (0, 0))) :
    W.cell? ⟨bk, 0, none⟩ = some (.map (some mb)) ∧ W.cell? ⟨gb, 0, none⟩ = some (.int .i64 x.f0) ∧ W.cell? ⟨gb, 1, none⟩ = some (.int .i64 x.f1) ∧ W.cell? ⟨gb, 2, none⟩ = some (.int .i64 x.f2) ∧ W.cell? ⟨gb, 3, none⟩ = some (.int .i64 x.f3.f0) ∧ W.cell? ⟨gb, 4, none⟩ = some (.int .i64 x.f3.f1) ∧ W.cell? ⟨gb, 5, none⟩ = some (.int .i64 x.f3.f2) :=
  ⟨(Kf.cell_row h1 0).trans rfl, (Kf.cell_row h2 0).trans rfl, (Kf.cell_row h2 1).trans rfl, (Kf.cell_row h2 2).trans rfl, (Kf.cell_row h2 3).trans rfl, (Kf.cell_row h2 4).trans rfl, (Kf.cell_row h2 5).trans rfl⟩
theorem KW.of_KB {base : Nat} {w0 wr w1 : World} {bo bk bw mb : Nat} {zs : List SG} {l : List (Int × SV)} (h : KB base w0 bk mb zs l wr) (hbo : wr.heap.size ≤ bo) (hbw : wr.heap.size ≤ bw) (hne : bo ≠ bw) (hb : Below wr.heap.size wr w1)
    (h1 : w1.heap[bo]? = some (.cells #[.slice none 0 0] 22 (0, 0))) (h2 : w1.heap[bw]? = some (.cells #[walkV bo bk bw] 132 (0, 0))) : KW base w0 bo bk bw mb l (kidsX zs) [] w1 := by
  have hk := lt_row h.kids
  have hm := h.map.lt
  have hs := h.size
  refine ⟨h.below.trans (hb.mono hs), by omega, lt_row h1, by omega, hne, by omega, row_below hb h.kids, h.map.of_block (hb.block _ hm), h2, ⟨none, 0, h1, Nat.le_refl _, Kd.R_nil _ _ _ _ _⟩, ?_, ?_, h.empty⟩
  · intro p hp
    obtain ⟨r1, r2⟩ := h.row p hp
    obtain ⟨⟨k, ⟨A, n, c⟩⟩, rfl⟩ : ∃ q, q = p := ⟨p, rfl⟩
    obtain ⟨g, c', e, g1, g2, g3, g4⟩ := R_holds r2 (fun e => by unfold sv at e; injection e with e; exact r1 e)
    have hok := r2.1 g (by rw [e]; rfl)
    unfold sv at e
    injection e with e1 e2 e3
    exact ⟨g, e1, g1, Nat.lt_of_lt_of_le g2 hb.size, by omega, hok.1, by omega, hok.2.1, e2, by show _ ≤ c; rw [show c = c' from e3]; exact g3, holdsK_block g4 (hb.block _ g2)⟩
  · intro p hp q hq he
    by_cases hpq : p.1 = q.1
    · exact hpq
    · obtain ⟨r1, r2⟩ := h.row p hp
      obtain ⟨g, c', e, _⟩ := R_holds r2 (fun e => by unfold sv at e; injection e with e; exact r1 e)
      have hok := r2.1 g (by rw [e]; rfl)
      refine absurd ?_ (hok.2.2 q hq (fun e2 => hpq e2.symm))
      unfold sv at e
      injection e with e1 _ _
      unfold sv
      rw [← he, e1]; rfl
theorem info_mapG : (Tryz.prog.info? 131).map (·.size) = some 1 := by kernel_rfl
theorem info_funG : (Tryz.prog.info? 132).map (·.size) = some 1 := by kernel_rfl
def UnderPost (xs : List SG) (w : World) (e : Ending) (w' : World) : Prop :=
  ∃ v ys, e = .returned v ∧ ys.map gOf = underOf (xs.map gOf) ∧ kG.R 50 w' w.heap.size (fun _ => True) v ys ∧ Below w.heap.size w w'
set_option maxHeartbeats 8000000 in
set_option maxRecDepth 100000 in
theorem under_calls (A : Option Addr) (n c : Nat) (xs : List SG) (B : Option Addr) (m d : Nat) (w : World) (hG : kG.C w A n xs) (hc : n ≤ c) (hn : n ≤ 4096) (Y : Tree (xs.map gOf)) :
    Calls Tryz.prog 84 #[.agg #[.slice A n c, .slice B m d]] w (UnderPost xs w) := by
  have hln := hG.1
  have hnc : (n : Int) ≤ (c : Int) := by omega
  have HG := Aside0.mk hG
  clear hG
  replace hln := Aside0.mk hln; replace hc := Aside0.mk hc; replace Y := Aside0.mk Y
  go_enter Tryz.func84, Tryz.ntmps84
  go_wp2_with (first
    | (((with_reducible refine gate_dst (N := 1) rfl ?_); refine box_event ?hg (N := 1) ?hd (cs := #[.slice A n c, .slice B m d]) (t := 25) ?hr ?_; (case hd => rfl); (case hg => rfl); (case hr => first | (go_simp; done) | (go_simp; rfl)); intro b0 hb0 w1 kb0 bb0; replace hb0 := Aside0.mk hb0; replace kb0 := Aside0.mk kb0; replace bb0 := Aside0.mk bb0))
    | (((with_reducible refine gate_dst (N := 8) rfl ?_); refine mkmap_event ?hg (N := 8) ?hd 131 ?ho ?_; (case hd => rfl); (case hg => rfl); (case ho => rfl); intro mb hmb w2 kmb bmb; replace hmb := Aside0.mk hmb; replace kmb := Aside0.mk kmb; replace bmb := Aside0.mk bmb))
    | (((with_reducible refine gate_dst (N := 3) rfl ?_); refine box_event ?hg (N := 3) ?hd (cs := #[.map none]) (t := 131) ?hr ?_; (case hd => rfl); (case hg => rfl); (case hr => first | (go_simp; done) | (go_simp; rfl)); intro bk hbk w3 kbk bbk; replace hbk := Aside0.mk hbk; replace kbk := Aside0.mk kbk; replace bbk := Aside0.mk bbk))
    | ((with_reducible refine gate_op (.store 131 (.tmp 3) (.tmp 8)) rfl ?_); refine store1v_event rfl _ _ _ rfl bk (.map (some mb)) (.map none) 131 rfl rfl rfl rfl kbk.out info_mapG ?_; intro w4 h4 k4; have h0_4 := (k4.block b0 (by have := lt_row kb0.out; have := bbk.out.size; have := bmb.out.size; omega) (by have := lt_row kb0.out; have := hbk.out; have := bmb.out.size; omega)).trans (Kf.row_below bbk.out (Kf.row_below bmb.out kb0.out)); have c0 : w4.cell? ⟨b0, 0, none⟩ = some (.slice A n c) := (Kf.cell_row h0_4 0).trans rfl))
  have hKB : KB w.heap.size w bk mb [] [] w4 := by
    have hs1 := bb0.out.size
    have hs2 := bmb.out.size
    have hs3 := bbk.out.size
    have e1 := hmb.out
    have e2 := hbk.out
    have e3 := lt_row kmb.out
    have hm3 : w4.heap[mb]? = some (.map #[] 0) := (k4.block mb (by omega) (by omega)).trans (Kf.row_below bbk.out kmb.out)
    refine ⟨(((bb0.out.trans (bmb.out.mono hs1)).trans (bbk.out.mono (by omega)))).trans (k4.to_below (by omega) (fun i hi => by omega)), by omega, by omega, by omega, h4, Kf.IMap.new hm3, fun p hp => by simp at hp, fun k _ => rfl⟩
  have hb01 : b0 = w.heap.size := hb0.out
  have hb0m : b0 < mb := by have := lt_row kb0.out; have := hmb.out; omega
  clear k4 h4 kb0 bb0 kmb bmb kbk bbk hb0
  replace hKB := Aside0.mk hKB
  replace h0_4 := Aside0.mk h0_4; replace hb01 := Aside0.mk hb01; replace hb0m := Aside0.mk hb0m
  have q0 := Aside0.mk c0
  clear c0
  obtain ⟨B0, hB0⟩ : ∃ o, o = Obj.cells #[Value.slice A n c, Value.slice B m d] 25 (0, 0) := ⟨_, rfl⟩
  go_loopw [12] (fun t12 wr => ∃ (k : Nat) (l : List (Int × SV)), t12 = .int .i64 k ∧ k ≤ n ∧ Aside0 (KB w.heap.size w bk mb (xs.take k) l wr) ∧ Aside0 (wr.heap[b0]? = some (.cells #[.slice A n c, .slice B m d] 25 (0, 0)))) (fun t12 _ => n - (intOf t12).toNat)
  case atStart => exact ⟨0, [], rfl, Nat.zero_le _, hKB, h0_4⟩
  case round =>
    obtain ⟨k, l, rfl, hk, hK, h0r⟩ := hrel
    have c0 : wr.cell? ⟨b0, 0, none⟩ = some (.slice A n c) := (Kf.cell_row h0r.out 0).trans rfl
    by_cases hlt : k < n
    · have p1 : (0 : Int) ≤ (k : Int) := by omega
      have q1' : (k : Int) < (n : Int) := by omega
      obtain ⟨ad, x, rfl, hx, hcs⟩ := G_cells (Kd.C_below HG.out hK.out.below) hlt
      have htk : xs.take (k + 1) = xs.take k ++ [x] := by rw [List.take_add_one, hx]; rfl
      have e1 := one_G x
      change ∀ v ∈ ([.int .i64 x.f0, .int .i64 x.f1, .int .i64 x.f2, .int .i64 x.f3.f0, .int .i64 x.f3.f1, .int .i64 x.f3.f2] : List Value), v.oneCell' = true at e1
      change ∀ i u, ([.int .i64 x.f0, .int .i64 x.f1, .int .i64 x.f2, .int .i64 x.f3.f0, .int .i64 x.f3.f1, .int .i64 x.f3.f2] : List Value)[i]? = some u → wr.cell? ((ad.add (k * 6)).add i) = some u at hcs
      have ho := hK.out.old x.f1
      obtain ⟨⟨A5, n5, c5⟩, h5⟩ : ∃ p, SvAt l x.f1 = p := ⟨_, rfl⟩
      replace hx := Aside0.mk hx; replace hcs := Aside0.mk hcs; replace htk := Aside0.mk htk; replace e1 := Aside0.mk e1; replace ho := Aside0.mk ho; replace h5 := Aside0.mk h5
      go_wp2_with (first
        | ((with_reducible refine gate_op (.load 50 (.tmp 14)) rfl ?_); refine wpList_load_midB rfl _ _ rfl (ad.add (k * 6)) rfl ([.int .i64 x.f0, .int .i64 x.f1, .int .i64 x.f2, .int .i64 x.f3.f0, .int .i64 x.f3.f1, .int .i64 x.f3.f2] : List Value) _ hcs.out Tryz.underlying50 rfl info_G ?_)
        | (((with_reducible refine gate_dst (N := 5) rfl ?_); refine box_event ?hg (N := 5) ?hd (cs := zG.toArray) (t := 50) ?hr ?_; (case hd => rfl); (case hg => rfl); (case hr => first | (go_simp; done) | (go_simp; rfl)); intro gb hgb w7 kgb bgb; replace hgb := Aside0.mk hgb; replace kgb := Aside0.mk kgb; replace bgb := Aside0.mk bgb))
        | (((with_reducible refine gate_op (.store 50 (.tmp 5) (.tmp 15)) rfl ?_); refine wpList_store_midB rfl _ _ _ rfl gb 0 ([.int .i64 x.f0, .int .i64 x.f1, .int .i64 x.f2, .int .i64 x.f3.f0, .int .i64 x.f3.f1, .int .i64 x.f3.f2] : List Value) rfl rfl 50 zG kgb.out info_G (Nat.le_refl _) e1.out ?_; obtain ⟨kk, bb⟩ := boxed (cs := zG) (cs2 := ([.int .i64 x.f0, .int .i64 x.f1, .int .i64 x.f2, .int .i64 x.f3.f0, .int .i64 x.f3.f1, .int .i64 x.f3.f2] : List Value)) hgb.out kgb.out bgb.out rfl; revert kk bb; generalize World.setRow _ gb (splice zG 0 ([.int .i64 x.f0, .int .i64 x.f1, .int .i64 x.f2, .int .i64 x.f3.f0, .int .i64 x.f3.f1, .int .i64 x.f3.f2] : List Value)).toArray = w8; clear kgb bgb; intro kgb bgb; replace kgb := Aside0.mk kgb; replace bgb := Aside0.mk bgb); have hK8 := Aside0.mk (hK.out.grow bgb.out); have h08 := Aside0.mk (Kf.row_below bgb.out h0r.out); have ck : w8.cell? ⟨bk, 0, none⟩ = some (.map (some mb)) := (Kf.cell_row hK8.out.kids 0).trans rfl; have g1 : w8.cell? ⟨gb, 1, none⟩ = some (.int .i64 x.f1) := (Kf.cell_row kgb.out 1).trans rfl; have hg8 := kgb))
      have g0 : w8.cell? ⟨gb, 0, none⟩ = some (.int .i64 x.f0) := (Kf.cell_row hg8.out 0).trans rfl
      have g2 : w8.cell? ⟨gb, 2, none⟩ = some (.int .i64 x.f2) := (Kf.cell_row hg8.out 2).trans rfl
      have g3 : w8.cell? ⟨gb, 3, none⟩ = some (.int .i64 x.f3.f0) := (Kf.cell_row hg8.out 3).trans rfl
      have g4 : w8.cell? ⟨gb, 4, none⟩ = some (.int .i64 x.f3.f1) := (Kf.cell_row hg8.out 4).trans rfl
      have g5 : w8.cell? ⟨gb, 5, none⟩ = some (.int .i64 x.f3.f2) := (Kf.cell_row hg8.out 5).trans rfl
      have hla := look_row (w := w8.drew) (hK8.out.map.of_block rfl) x.f1
      rw [h5.out] at hla
      change _ = Result.ok (Value.slice A5 n5 c5) w8.drew at hla
      have hlb := look_row (w := (w8.alloc (.cells #[.int .i64 x.f0, .int .i64 x.f1, .int .i64 x.f2, .int .i64 x.f3.f0, .int .i64 x.f3.f1, .int .i64 x.f3.f2] 50)).drew) (hK8.out.map.of_block (Below.heap_alloc w8 _ _ hK8.out.map.lt)) x.f1
      rw [h5.out] at hlb
      change _ = Result.ok (Value.slice A5 n5 c5) _ at hlb
      have hK9 := Aside0.mk (hK8.out.grow ((Below.refl w8.heap.size w8).drew))
      have hO9 := hK9.out.old x.f1
      rw [h5.out] at hO9
      change kG.R _ _ _ _ (.slice A5 n5 c5) _ at hO9
      have hfr := hK9.out.fresh x.f1
      have hgsz : gb = wr.heap.size := hgb.out
      have hgne : some gb ≠ (Value.slice A5 n5 c5).ownBlock := by
        have := hK.out.old x.f1
        rw [h5.out] at this
        have h9 := Kd.R_ne_new this 0
        rw [Nat.add_zero, ← hgsz] at h9
        exact h9
      have hbkm : bk ≠ mb := hK.out.bkm
      have hgbm : gb ≠ mb := by have := hK.out.map.lt; omega
      have hl48 : ((kidsX (xs.take k) x.f1).length + 1) * 48 ≤ 140737488355328 := by
        have h1 : (kidsX (xs.take k) x.f1).length ≤ (xs.take k).length := List.length_filter_le _ _
        have h2 := List.length_take_le k xs
        omega
      obtain ⟨n2, hn2⟩ : ∃ n2, (kidsX (xs.take k) x.f1 ++ [x]).length = n2 := ⟨_, rfl⟩
      replace hO9 := Aside0.mk hO9; replace hfr := Aside0.mk hfr; replace hgne := Aside0.mk hgne; replace hbkm := Aside0.mk hbkm; replace hgbm := Aside0.mk hgbm; replace hl48 := Aside0.mk hl48; replace hgsz := Aside0.mk hgsz; replace hn2 := Aside0.mk hn2
      go_region_held3 (fun w' => w'.cell? ⟨bk, 0, none⟩ = some (.map (some mb)) ∧ w'.cell? ⟨gb, 0, none⟩ = some (.int .i64 x.f0) ∧ w'.cell? ⟨gb, 1, none⟩ = some (.int .i64 x.f1) ∧ w'.cell? ⟨gb, 2, none⟩ = some (.int .i64 x.f2) ∧ w'.cell? ⟨gb, 3, none⟩ = some (.int .i64 x.f3.f0) ∧ w'.cell? ⟨gb, 4, none⟩ = some (.int .i64 x.f3.f1) ∧ w'.cell? ⟨gb, 5, none⟩ = some (.int .i64 x.f3.f2))
        (first | (with_reducible exact ⟨ck, g0, g1, g2, g3, g4, g5⟩) | (with_reducible exact s10) | (with_reducible exact s11) | go_keep)
        (first
          | (refine Kd.R_append_step kG (w0 := w) w.heap.size (by rfl) _ _ 22 50 (.agg zG.toArray) 48 (by rfl) Tryz.underlying22 infoG3 rfl (by decide) (by omega) (.slice A5 n5 c5) (kidsX (xs.take k) x.f1) x ([.int .i64 x.f0, .int .i64 x.f1, .int .i64 x.f2, .int .i64 x.f3.f0, .int .i64 x.f3.f1, .int .i64 x.f3.f2] : List Value) (okB bk mb l x.f1) (fun _ => False) (by rfl) (by rfl) ?aP (fun _ hk => hk.elim) hfr.out hO9.out hK9.out.below hK9.out.size hl48.out ?_; (case aP => exact k50_mkM _ _ _ _); intro v1 w10 ho10 hb10 hg10 hat10; obtain ⟨A2, c2, ev1, _, _⟩ := Kd.R_reads ho10; rw [hn2.out] at ev1; subst ev1; have k10 := (hg10.block bk (lt_row hK9.out.kids) (fun e => (hO9.out.1 bk e.symm).1 rfl)).trans hK9.out.kids; have k11 := (hg10.block gb (lt_row hg8.out) hgne.out).trans hg8.out; have hI10 : IMap .i64 sv w10 mb l := hK9.out.map.of_block (hg10.block mb hK9.out.map.lt (fun e => (hO9.out.1 mb e.symm).2.1 rfl)); have s10 := seven k10 k11; obtain ⟨ob, hrun, hM⟩ := run_mapUpdate_imap (P := Tryz.prog) (t := 131) Tryz.underlying131 Tryz.underlying3 hI10 x.f1 ((A2, n2, c2) : SV); change _ = Result.ok () (bset w10 mb ob) at hrun; have hrun' : (Instr.mapUpdate 131 (.map (some mb)) (.int .i64 x.f1) (.slice A2 n2 c2)).run Tryz.prog w10 = .ok () (bset w10 mb ob) := hrun; clear hrun; have s11 := seven ((bset_other w10 hbkm.out ob).trans k10) ((bset_other w10 hgbm.out ob).trans k11); replace ho10 := Aside0.mk ho10; replace hb10 := Aside0.mk hb10; replace hg10 := Aside0.mk hg10; replace hat10 := Aside0.mk hat10; replace k10 := Aside0.mk k10; replace k11 := Aside0.mk k11; replace hI10 := Aside0.mk hI10; replace hM := Aside0.mk hM))
      all_goals go_wp2
      all_goals go_roundw
      all_goals try (case measure => show n - ((k : Int) + 1).toNat < n - (k : Int).toNat; omega)
      all_goals
        refine ⟨k + 1, aset l x.f1 (A2, n2, c2), by simp, by omega, ⟨?_⟩, ⟨?_⟩⟩
        · rw [htk.out]
          exact hK9.out.push (p1 := (A2, n2, c2)) ho10.out hb10.out (by rw [h5.out]; exact hg10.out) (by rw [h5.out]; exact hat10.out) hM.out
        · have hne0 := Kd.R_ne hO9.out (show w8.drew.heap[b0]? = _ from h08.out) (by decide)
          have hb0m : b0 ≠ mb := by have := hb0m.out; omega
          exact (bset_other w10 hb0m ob).trans ((hg10.out.block b0 (lt_row (show w8.drew.heap[b0]? = _ from h08.out)) hne0).trans h08.out)
    · obtain rfl : k = n := by omega
      have hall : xs.take k = xs := List.take_of_length_le (by rw [hln.out]; exact Nat.le_refl _)
      rw [hall] at hK
      clear hlt
      replace hall := Aside0.mk hall
      have hsz := Aside0.mk hK.out.size
      have hkk : 0 < k ∨ k = 0 := by omega
      rcases hkk with hpos | hpos
      · have hpos' : (0 : Int) < (k : Int) := by omega
        go_wp2_with (first
          | (((with_reducible refine gate_dst (N := 6) rfl ?_); refine box_event ?hg (N := 6) ?hd (cs := #[.slice none 0 0]) (t := 22) ?hr ?_; (case hd => rfl); (case hg => rfl); (case hr => first | (go_simp; done) | (go_simp; rfl)); intro bo hbo w6 kbo bbo; replace hbo := Aside0.mk hbo; replace kbo := Aside0.mk kbo; replace bbo := Aside0.mk bbo))
          | (((with_reducible refine gate_dst (N := 7) rfl ?_); refine box_event ?hg (N := 7) ?hd (cs := #[.nilFunc]) (t := 132) ?hr ?_; (case hd => rfl); (case hg => rfl); (case hr => first | (go_simp; done) | (go_simp; rfl)); intro bw hbw w7 kbw bbw; replace hbw := Aside0.mk hbw; replace kbw := Aside0.mk kbw; replace bbw := Aside0.mk bbw))
          | ((with_reducible refine gate_op (.store 132 (.tmp 7) (.tmp 27)) rfl ?_); refine store1v_event rfl _ _ _ rfl bw (walkV bo bk bw) .nilFunc 132 rfl rfl rfl rfl kbw.out info_funG ?_; intro w8 h8 k8; have hbo7 := Kf.row_below bbw.out kbo.out; have hB8 := (Below.trans bbo.out (bbw.out.mono bbo.out.size)).trans (k8.to_below (Nat.le_trans bbo.out.size bbw.out.size) (fun i hi => by rw [hi, hbw.out]; exact bbo.out.size)); have hob : bo ≠ bw := (by have := lt_row kbo.out; have := hbw.out; omega); have hK8 := Aside0.mk (KW.of_KB (bo := bo) (bw := bw) hK.out (Nat.le_of_eq hbo.out.symm) (by rw [hbw.out]; exact bbo.out.size) hob hB8 ((k8.block bo (lt_row hbo7) hob).trans hbo7) h8); have hsz8 : Aside0 (w.heap.size ≤ w8.heap.size) := ⟨Nat.le_trans hsz.out hB8.size⟩; have h08 := Aside0.mk ((hB8.block b0 (lt_row h0r.out)).trans h0r.out); replace c0 := (Kf.cell_row h08.out 0).trans (rfl : _ = some (Value.slice A k c)); have cbo := (Kf.cell_row ((k8.block bo (lt_row hbo7) hob).trans hbo7) 0).trans (rfl : _ = some (Value.slice none 0 0)); have cw := (Kf.cell_row h8 0).trans (rfl : _ = some (walkV bo bk bw)); unfold walkV at cw; clear h8 k8 hbo7 hB8 hob))
        clear kbo bbo kbw bbw cbo
        obtain ⟨ad, x, rfl, hx, hcs⟩ := G_cells (Kd.C_below HG.out hK8.out.below) hpos
        rw [Nat.zero_mul] at hcs
        change ∀ i u, ([.int .i64 x.f0, .int .i64 x.f1, .int .i64 x.f2, .int .i64 x.f3.f0, .int .i64 x.f3.f1, .int .i64 x.f3.f2] : List Value)[i]? = some u → w8.cell? (ad.add i) = some u at hcs
        obtain ⟨zs, rfl⟩ : ∃ zs, xs = x :: zs := by
          cases xs with
          | nil => simp at hx
          | cons y zs => simp at hx; exact ⟨zs, by rw [hx]⟩
        obtain ⟨gs, hgs⟩ : ∃ gs, (x :: zs).map gOf = gs := ⟨_, rfl⟩
        have hgl : gs.length = k := by rw [← hgs, List.length_map]; exact hln.out
        have hxg : gOf x ∈ gs := by rw [← hgs]; simp
        have hY := Y.out
        rw [hgs] at hY
        have hun : underOf ((x :: zs).map gOf) = walk gs (gs.length + 1) (gOf x) := by rw [← hgs]; rfl
        have hw8 := hK8.out.grow ((Below.refl w8.heap.size w8).drew) hsz8.out
        have hst := hY.st (gOf x) hxg
        have hwl := walk_len hY.nd (gs.length + 1) hxg
        have hwl2 : (gs.length + 1 + 1) * gs.length ≤ 4098 * 4096 := Nat.mul_le_mul (by omega) (by omega)
        have hcon := walk_calls hY (by omega) (gs.length + 1) x hxg (by show _ ≤ stepsOf gs (gOf x).id + _; omega) (kidsX (x :: zs)) [] w8.drew hw8 (fun j => by rw [kidsX_map, hgs]) (by simp only [List.length_nil]; omega)
        change Calls Tryz.prog 99 #[.agg ([.int .i64 x.f0, .int .i64 x.f1, .int .i64 x.f2, .int .i64 x.f3.f0, .int .i64 x.f3.f1, .int .i64 x.f3.f2] : List Value).toArray, .pointer (some ⟨bo, 0, none⟩), .pointer (some ⟨bk, 0, none⟩), .pointer (some ⟨bw, 0, none⟩)] _ _ at hcon
        replace hcs := Aside0.mk hcs; replace hgs := Aside0.mk hgs; replace hgl := Aside0.mk hgl; replace hxg := Aside0.mk hxg; replace hY := Aside0.mk hY; replace hun := Aside0.mk hun; replace hw8 := Aside0.mk hw8; replace hst := Aside0.mk hst; replace hwl := Aside0.mk hwl; replace hwl2 := Aside0.mk hwl2; replace hcon := Aside0.mk hcon; replace hx := Aside0.mk hx
        go_still_tail 5, (by kernel_rfl)
        refine wpStill_load_cells rfl _ _ rfl ad rfl ([.int .i64 x.f0, .int .i64 x.f1, .int .i64 x.f2, .int .i64 x.f3.f0, .int .i64 x.f3.f1, .int .i64 x.f3.f2] : List Value) _ hcs.out Tryz.underlying50 rfl info_G ?_
        repeat still_step
        refine wpStill_nil ?_
        change wpList _ _ _ _ _ w8.drew
        clear cw c0
        go_wp2_with fail
        with_reducible refine hcon.out.mono ?_
        rintro e9 w9 ⟨rfl, cont9, ys9, hW9, -, -, hy9⟩
        obtain ⟨A9, c9, o1, o2, o3⟩ := hW9.out
        have hb9 := hW9.below
        clear hW9
        obtain ⟨n9, hn9⟩ : ∃ n9, ys9.length = n9 := ⟨_, rfl⟩
        rw [hn9] at o1 o2 o3
        have co := (Kf.cell_row o1 0).trans (rfl : _ = some (Value.slice A9 n9 c9))
        replace o1 := Aside0.mk o1; replace o2 := Aside0.mk o2; replace o3 := Aside0.mk o3; replace hb9 := Aside0.mk hb9; replace hn9 := Aside0.mk hn9; replace hy9 := Aside0.mk hy9
        go_wp2_with fail
        go_ret
        exact ⟨_, ys9, rfl, by rw [hun.out]; simpa using hy9.out, Kd.R_mono o3.out (fun _ _ => trivial), hb9.out⟩
      · have hpos' : ¬ (0 : Int) < (k : Int) := by omega
        have hx0 : xs = [] := List.length_eq_zero_iff.1 (by rw [hln.out, hpos])
        replace hx0 := Aside0.mk hx0; replace hpos := Aside0.mk hpos
        go_wp2_with (first
          | (((with_reducible refine gate_dst (N := 6) rfl ?_); refine box_event ?hg (N := 6) ?hd (cs := #[.slice none 0 0]) (t := 22) ?hr ?_; (case hd => rfl); (case hg => rfl); (case hr => first | (go_simp; done) | (go_simp; rfl)); intro bo hbo w6 kbo bbo; replace hbo := Aside0.mk hbo; replace kbo := Aside0.mk kbo; replace bbo := Aside0.mk bbo))
          | (((with_reducible refine gate_dst (N := 7) rfl ?_); refine box_event ?hg (N := 7) ?hd (cs := #[.nilFunc]) (t := 132) ?hr ?_; (case hd => rfl); (case hg => rfl); (case hr => first | (go_simp; done) | (go_simp; rfl)); intro bw hbw w7 kbw bbw; replace hbw := Aside0.mk hbw; replace kbw := Aside0.mk kbw; replace bbw := Aside0.mk bbw))
          | ((with_reducible refine gate_op (.store 132 (.tmp 7) (.tmp 27)) rfl ?_); refine store1v_event rfl _ _ _ rfl bw (walkV bo bk bw) .nilFunc 132 rfl rfl rfl rfl kbw.out info_funG ?_; intro w8 h8 k8; have hbo7 := Kf.row_below bbw.out kbo.out; have hB8 := (Below.trans bbo.out (bbw.out.mono bbo.out.size)).trans (k8.to_below (Nat.le_trans bbo.out.size bbw.out.size) (fun i hi => by rw [hi, hbw.out]; exact bbo.out.size)); have hob : bo ≠ bw := (by have := lt_row kbo.out; have := hbw.out; omega); have hK8 := Aside0.mk (KW.of_KB (bo := bo) (bw := bw) hK.out (Nat.le_of_eq hbo.out.symm) (by rw [hbw.out]; exact bbo.out.size) hob hB8 ((k8.block bo (lt_row hbo7) hob).trans hbo7) h8); have hsz8 : Aside0 (w.heap.size ≤ w8.heap.size) := ⟨Nat.le_trans hsz.out hB8.size⟩; have h08 := Aside0.mk ((hB8.block b0 (lt_row h0r.out)).trans h0r.out); replace c0 := (Kf.cell_row h08.out 0).trans (rfl : _ = some (Value.slice A k c)); have cbo := (Kf.cell_row ((k8.block bo (lt_row hbo7) hob).trans hbo7) 0).trans (rfl : _ = some (Value.slice none 0 0)); have cw := (Kf.cell_row h8 0).trans (rfl : _ = some (walkV bo bk bw)); unfold walkV at cw; clear h8 k8 hbo7 hB8 hob))
        go_ret
        exact ⟨_, [], rfl, by rw [hx0.out]; rfl, Kd.R_nil _ _ _ _ _, hK8.out.below⟩
end Go.Proofs.YtpnjhffnlafabaaGreatDoor.Sn
