/- Order of package scene, where a scene's groups are a tree and the tasks' numbers are distinct. same of package scene says whether two scenes are one. Check of package scene. -/
import Derived.Test.YtpnjhffnlafabaaGreatDoorVY
import Derived.Test.YtpnjhffnlafabaaGreatDoorVSp2
import Derived.Laws.Rows
import Derived.Deep.RegionHeld3
namespace Go.Proofs.YtpnjhffnlafabaaGreatDoor.Sn
set_option linter.unusedVariables false
set_option linter.unusedSimpArgs false
open Go.RowKit Go.Sort Go.Shelf Go.Lib Go.Proofs.Bk Go.Proofs.Bm Go.Proofs.Op Go.Proofs.Sc Go.Proofs.Kf Go.Proofs.YtpnjhffnlafabaaGreatDoorW.PrintWords Go.Proofs.YtpnjhffnlafabaaGreatDoor.PImageBack Go.Proofs.YtpnjhffnlafabaaGreatDoor.St
theorem kT_of_holds {w : World} {g : Nat} {ts : List ST} (h : HoldsK tC 8 w g 0 ts.toArray) (hn : ts.length ≤ 9223372036854775807) : kT.C w (some ⟨g, 0, none⟩) ts.length ts :=
  C_holds (κ := kT) tC_len (fun w x => k59_mk w x) h hn
def OrderPost (xs : List SG) (ts : List ST) (w : World) (e : Ending) (w' : World) : Prop :=
  ∃ (A' : Option Addr) (c' : Nat) (B' : Option Addr) (d' : Nat) (gs' : List SG) (ts' : List ST), e = .returned (.agg #[.slice A' gs'.length c', .slice B' ts'.length d']) ∧ gs'.length ≤ c' ∧ ts'.length ≤ d' ∧ kG.C w' A' gs'.length gs' ∧ kT.C w' B' ts'.length ts' ∧ gs'.map gOf = underOf (xs.map gOf) ∧ ts'.map tOf = sortT (ts.map tOf) ∧ (∀ ad, B' = some ad → ad.spot = none) ∧ Below w.heap.size w w'
set_option maxHeartbeats 8000000 in
set_option maxRecDepth 100000 in
theorem Order_calls (A : Option Addr) (n c : Nat) (xs : List SG) (B : Option Addr) (m d : Nat) (ts : List ST) (w : World) (hG : kG.C w A n xs) (hc : n ≤ c) (hn : n ≤ 4096) (hT : kT.C w B m ts) (hm : m ≤ 4096) (hB : ∀ ad, B = some ad → ad.spot = none)
    (Y : Tree (xs.map gOf)) (hwh : wholeOf (xs.map gOf) = true) (hnd : (ts.map (·.f0)).Nodup) :
    Calls Tryz.prog 46 #[.agg #[.slice A n c, .slice B m d]] w (OrderPost xs ts w) := by
  have hlt := hT.1
  have HG := Aside0.mk hG
  have HT := Aside0.mk hT
  clear hG hT
  replace hlt := Aside0.mk hlt; replace hc := Aside0.mk hc; replace hB := Aside0.mk hB; replace Y := Aside0.mk Y; replace hwh := Aside0.mk hwh; replace hnd := Aside0.mk hnd
  go_enter Tryz.func46, Tryz.ntmps46
  go_wp2_with (first
    | (((with_reducible refine gate_dst (N := 1) rfl ?_); refine box_event ?hg (N := 1) ?hd (cs := #[.slice A n c, .slice B m d]) (t := 25) ?hr ?_; (case hd => rfl); (case hg => rfl); (case hr => first | (go_simp; done) | (go_simp; rfl)); intro b0 hb0 w1 kb0 bb0; replace hb0 := Aside0.mk hb0; replace kb0 := Aside0.mk kb0; replace bb0 := Aside0.mk bb0))
    | (((with_reducible refine gate_dst (N := 2) rfl ?_); refine box_event ?hg (N := 2) ?hd (cs := #[.slice none 0 0, .slice none 0 0]) (t := 25) ?hr ?_; (case hd => rfl); (case hg => rfl); (case hr => first | (go_simp; done) | (go_simp; rfl)); intro b2 hb2 w2 kb2 bb2; replace hb2 := Aside0.mk hb2; replace kb2 := Aside0.mk kb2; replace bb2 := Aside0.mk bb2); have k02 := Aside0.mk (Kf.row_below bb2.out kb0.out))
    | ((with_reducible refine gate_op (.load 25 (.tmp 1)) rfl ?_); refine wpList_load_midB rfl _ _ rfl ⟨b0, 0, none⟩ rfl [.slice A n c, .slice B m d] _ (fun j v hv => by rw [add_at]; exact (Kf.cell_row k02.out _).trans (by simpa using hv)) Tryz.underlying25 rfl info_S ?_))
  have hB2 : Below w.heap.size w w2 := bb0.out.trans (bb2.out.mono bb0.out.size)
  with_reducible refine (whole_calls A n c xs B m d w2 (Kd.C_below HG.out hB2) hc.out hn).mono ?_
  rintro e3 w3 ⟨rfl, hb3⟩
  rw [hwh.out]
  have hB3 := hB2.trans (hb3.mono hB2.size)
  have k03 := Kf.row_below hb3 k02.out
  have k23 := Kf.row_below hb3 kb2.out
  have c1 := (Kf.cell_row k03 1).trans (rfl : _ = some (Value.slice B m d))
  have hbl : b0 < b2 := by have := lt_row kb0.out; have := hb2.out; omega
  have hb2w : w.heap.size ≤ b2 := by have := hb2.out; have := bb0.out.size; omega
  clear kb0 bb0 kb2 bb2 k02 hb3 hb0 hb2 hB2
  replace hB3 := Aside0.mk hB3; replace k03 := Aside0.mk k03; replace k23 := Aside0.mk k23; replace hbl := Aside0.mk hbl; replace hb2w := Aside0.mk hb2w
  go_wp2_with fail
  with_reducible refine (Clone_calls B m d ts w3 (Kd.C_below HT.out hB3.out) hB.out (by omega)).mono ?_
  rintro e4 w4 ⟨v4, rfl, hv4, hb4⟩
  have hsort : ∃ A4 c4, v4 = .slice A4 ts.length c4 ∧ Calls Tryz.prog 81 #[.slice A4 ts.length c4, .func (.func 82) #[] #[]] w4 (fun e w5 => e = .returned (.tuple #[]) ∧ Below w3.heap.size w4 w5 ∧
      ∃ zs : List ST, zs.map tOf = sortT (ts.map tOf) ∧ zs.length = ts.length ∧ zs.length ≤ c4 ∧ ((zs = [] ∧ A4 = none) ∨ ∃ g, A4 = some ⟨g, 0, none⟩ ∧ w3.heap.size ≤ g ∧ g < w5.heap.size ∧ HoldsK tC 8 w5 g 0 zs.toArray)) := by
    rcases hv4 with ⟨rfl, rfl⟩ | ⟨g, cap, rfl, q1, q2, q3, q4⟩
    · refine ⟨none, 0, rfl, Calls.mono (SortStable_none none 0 _ w4) ?_⟩
      rintro e w5 ⟨rfl, rfl⟩
      exact ⟨rfl, Below.refl _ _, [], by simp [sortT], rfl, Nat.le_refl _, .inl ⟨rfl, rfl⟩⟩
    · refine ⟨some ⟨g, 0, none⟩, cap, rfl, Calls.mono (SortStable_calls g cap ts w4 q2 q4 (by have := hlt.out; omega) hnd.out) ?_⟩
      rintro e w5 ⟨rfl, ys, r1, r2, r3, r4⟩
      exact ⟨rfl, r4.mono q1, ys, r1, r2.length_eq, by rw [r2.length_eq]; exact q3, .inr ⟨g, rfl, q1, Nat.lt_of_lt_of_le q2 r4.size, r3⟩⟩
  obtain ⟨A4, c4, rfl, hsort⟩ := hsort
  obtain ⟨m4, hm4⟩ : ∃ m4, ts.length = m4 := ⟨_, rfl⟩
  rw [hm4] at hsort ⊢
  replace hb4 := Aside0.mk hb4; replace hm4 := Aside0.mk hm4
  clear hv4 c1
  replace hsort := Aside0.mk hsort
  go_wp2_with fail
  with_reducible refine hsort.out.mono ?_
  rintro e5 w5 ⟨rfl, hb5, zs, z1, z2, z3, z4⟩
  have hb35 := (Below.trans hb4.out hb5)
  have hB5 := hB3.out.trans (hb35.mono hB3.out.size)
  have k05 := Kf.row_below hb35 k03.out
  have k25 := Kf.row_below hb35 k23.out
  have hb0s := lt_row k23.out
  have hs35 := hb35.size
  clear hb4 hb5 hb35 hsort
  replace hB5 := Aside0.mk hB5; replace k05 := Aside0.mk k05; replace k25 := Aside0.mk k25; replace z1 := Aside0.mk z1; replace z2 := Aside0.mk z2; replace z3 := Aside0.mk z3; replace z4 := Aside0.mk z4; replace hb0s := Aside0.mk hb0s; replace hs35 := Aside0.mk hs35
  go_wp2_with (first
    | ((with_reducible refine gate_op (.load 25 (.tmp 1)) rfl ?_); refine wpList_load_midB rfl _ _ rfl ⟨b0, 0, none⟩ rfl [.slice A n c, .slice B m d] _ (fun j v hv => by rw [add_at]; exact (Kf.cell_row k05.out _).trans (by simpa using hv)) Tryz.underlying25 rfl info_S ?_))
  with_reducible refine (under_calls A n c xs B m d w5 (Kd.C_below HG.out hB5.out) hc.out hn Y.out).mono ?_
  rintro e6 w6 ⟨v6, ys, rfl, u1, u2, hb6⟩
  obtain ⟨A6, c6, rfl, u3, -⟩ := Kd.R_reads u2
  have k26 := Kf.row_below hb6 k25.out
  obtain ⟨n6, hn6⟩ : ∃ n6, ys.length = n6 := ⟨_, rfl⟩
  rw [hn6] at u2 u3 ⊢
  replace u1 := Aside0.mk u1; replace u2 := Aside0.mk u2; replace u3 := Aside0.mk u3; replace hb6 := Aside0.mk hb6; replace k26 := Aside0.mk k26; replace hn6 := Aside0.mk hn6
  go_wp2_with (first
    | ((with_reducible refine gate_op (.store 25 (.tmp 2) (.tmp 16)) rfl ?_); refine wpList_store_midB rfl _ _ _ rfl b2 0 [.slice A6 n6 c6, .slice A4 m4 c4] rfl rfl 25 [.slice none 0 0, .slice none 0 0] k26.out info_S (Nat.le_refl _) (fun v hv => by simp at hv; rcases hv with rfl | rfl <;> rfl) ?_; have k7 := KeepF.setRow w6 b2 (splice [Value.slice none 0 0, .slice none 0 0] 0 [.slice A6 n6 c6, .slice A4 m4 c4]).toArray; have h7 := setRow_heap w6 b2 _ (splice [Value.slice none 0 0, .slice none 0 0] 0 [.slice A6 n6 c6, .slice A4 m4 c4]).toArray 25 _ k26.out; rw [splice_all _ _ (by rfl)] at k7 h7; revert k7 h7; rw [splice_all _ _ (by rfl)]; generalize w6.setRow b2 _ = w7; intro k7 h7; have d0 := (Kf.cell_row h7 0).trans (rfl : _ = some (Value.slice A6 n6 c6)); have d1 := (Kf.cell_row h7 1).trans (rfl : _ = some (Value.slice A4 m4 c4)); replace k7 := Aside0.mk k7; replace h7 := Aside0.mk h7))
  have hb26 : w5.heap.size ≤ w6.heap.size := hb6.out.size
  have hbl2 : b2 < w5.heap.size := lt_row k25.out
  have hB7 : Below w.heap.size w w7 := (hB5.out.trans (hb6.out.mono hB5.out.size)).trans (k7.out.to_below (by have := hB5.out.size; omega) (fun i hi => by rw [hi]; exact hb2w.out))
  have uR : kG.R 50 w7 w5.heap.size (fun _ => True) (.slice A6 n6 c6) ys := by
    have r1 := Kd.R_bound u2.out
    refine Kd.R_mono (Kd.R_move r1 (fun j hj => k7.out.block j hj.2.2.1 (fun e => ?_))) (fun _ _ => trivial)
    have := hj.2.1
    omega
  obtain ⟨A7, c7, e7, u4, u5⟩ := Kd.R_reads uR
  injection e7 with e8 e9 e10
  subst e8
  subst e10
  have tC4 : kT.C w7 A4 zs.length zs := by
    rcases z4.out with ⟨rfl, _⟩ | ⟨g, rfl, y1, y2, y3⟩
    · exact ⟨rfl, by simp, fun h => absurd h (Nat.lt_irrefl _)⟩
    · refine kT_of_holds (holdsK_block (holdsK_block y3 (hb6.out.block g y2)) (k7.out.block g (by omega) (fun e => ?_))) (by have := z2.out; have := hm4.out; have := hlt.out; omega)
      have := hb0s.out
      omega
  refine bodyPost_ret (results_cell_row rfl _ _ b2 _ _ _ _ rfl h7.out Tryz.underlying25 rfl ?hi) rfl ?_
  case hi => exact info_S
  refine ⟨A6, c6, A4, c4, ys, zs, ?_, by rw [hn6.out]; exact u3.out, z3.out, u5, tC4, u1.out, z1.out, (fun ad h => by rcases z4.out with ⟨_, h4⟩ | ⟨g, h4, _⟩ <;> rw [h4] at h <;> cases h; rfl), hB7⟩
  rw [hn6.out, z2.out]
end Go.Proofs.YtpnjhffnlafabaaGreatDoor.Sn
namespace Go.Proofs.YtpnjhffnlafabaaGreatDoor.Sn
set_option linter.unusedVariables false
set_option linter.unusedSimpArgs false
open Go.RowKit Go.Sort Go.Shelf Go.Lib Go.Proofs.Bk Go.Proofs.Bm Go.Proofs.Op Go.Proofs.Sc Go.Proofs.Kf Go.Proofs.YtpnjhffnlafabaaGreatDoorW.PrintWords Go.Proofs.YtpnjhffnlafabaaGreatDoor.PImageBack Go.Proofs.YtpnjhffnlafabaaGreatDoor.St
end Go.Proofs.YtpnjhffnlafabaaGreatDoor.Sn
namespace Go.Proofs.YtpnjhffnlafabaaGreatDoor.Sn
set_option linter.unusedVariables false
set_option linter.unusedSimpArgs false
open Go.RowKit Go.Sort Go.Shelf Go.Lib Go.Proofs.Bk Go.Proofs.Bm Go.Proofs.Op Go.Proofs.Sc Go.Proofs.Kf Go.Proofs.YtpnjhffnlafabaaGreatDoorW.PrintWords Go.Proofs.YtpnjhffnlafabaaGreatDoor.PImageBack Go.Proofs.YtpnjhffnlafabaaGreatDoor.St
theorem tree_of {gs : List G} (hn : (gids gs).Nodup) (ho : gs.any oddG = false) (hw : wholeOf gs = true) : Tree gs := by
  unfold wholeOf at hw
  rw [tailPlain_eq hn] at hw
  simp at hw
  refine ⟨hn, fun g hg => ?_, fun g hg => hw.2 g hg, fun g hg => hw.1 g hg⟩
  have := List.any_eq_false.1 ho g hg
  simp [oddG, within1] at this
  omega
theorem names_zero {gs : List G} {ts : List T} (h : namesOf gs ts = 0) : (idsOf gs ts).Nodup := by
  unfold namesOf at h
  by_cases hn : (idsOf gs ts).Nodup
  · exact hn
  · rw [if_pos hn] at h; cases h
theorem two_cells {W : World} {b : Nat} {u v : Value} (h0 : W.cell? ⟨b, 0, none⟩ = some u) (h1 : W.cell? ⟨b, 1, none⟩ = some v) : ∀ j x, [u, v][j]? = some x → W.cell? ((⟨b, 0, none⟩ : Addr).add j) = some x := by
  intro j x hx
  rw [add_at, Nat.zero_add]
  match j, hx with
  | 0, hx => simp at hx; subst hx; exact h0
  | 1, hx => simp at hx; subst hx; exact h1
theorem map_inj {α β : Type} {f : α → β} (hf : ∀ x y, f x = f y → x = y) : ∀ {l l' : List α}, l.map f = l'.map f → l = l'
  | [], [], _ => rfl
  | [], _ :: _, h => by simp at h
  | _ :: _, [], h => by simp at h
  | x :: l, y :: l', h => by
    simp only [List.map_cons, List.cons.injEq] at h
    rw [hf _ _ h.1, map_inj hf h.2]
theorem same_order {xs gs' : List SG} {ts ts' : List ST} (hw : wholeOf (xs.map gOf) = true) (h1 : gs'.map gOf = underOf (xs.map gOf)) (h2 : ts'.map tOf = sortT (ts.map tOf)) :
    decide (gs' = xs ∧ ts' = ts) = decide (orderOf (xs.map gOf) (ts.map tOf) = (xs.map gOf, ts.map tOf)) := by
  rw [decide_eq_decide]
  unfold orderOf
  rw [if_pos hw, Prod.mk.injEq, ← h1, ← h2]
  constructor
  · rintro ⟨rfl, rfl⟩; exact ⟨rfl, rfl⟩
  · rintro ⟨a, b⟩; exact ⟨map_inj (fun _ _ => gOf_inj.1) a, map_inj (fun _ _ => tOf_inj.1) b⟩
def CheckPost (gs : List G) (ts : List T) (w : World) (e : Ending) (w' : World) : Prop := e = .returned (.int .i64 (checkOf gs ts)) ∧ Below w.heap.size w w'
set_option maxHeartbeats 8000000 in
set_option maxRecDepth 100000 in
theorem Check_calls (A : Option Addr) (n c : Nat) (xs : List SG) (B : Option Addr) (m d : Nat) (ts : List ST) (w : World) (hG : kG.C w A n xs) (hc : n ≤ c) (hT : kT.C w B m ts) (hd : m ≤ d) (hB : ∀ ad, B = some ad → ad.spot = none) (ho : ∀ x ∈ xs, okG x) :
    Calls Tryz.prog 19 #[.agg #[.slice A n c, .slice B m d]] w (CheckPost (xs.map gOf) (ts.map tOf) w) := by
  have hln := hG.1
  have hlm := hT.1
  have hn63 := hG.2.1
  have hm63 := hT.2.1
  obtain ⟨gs, hgs⟩ : ∃ gs, xs.map gOf = gs := ⟨_, rfl⟩
  obtain ⟨us, hus⟩ : ∃ us, ts.map tOf = us := ⟨_, rfl⟩
  have hgl : gs.length = n := by rw [← hgs, List.length_map, hln]
  have hul : us.length = m := by rw [← hus, List.length_map, hlm]
  have HG := Aside0.mk hG
  have HT := Aside0.mk hT
  clear hG hT
  rw [hgs, hus]
  have hck : ∀ (r : Int) w', r = checkOf gs us → Below w.heap.size w w' → CheckPost gs us w (.returned (.int .i64 r)) w' := fun r w' h1 h2 => ⟨by rw [h1], h2⟩
  obtain ⟨ck, hcke⟩ : ∃ ck, checkOf gs us = ck := ⟨_, rfl⟩
  have hcd : ck = if n = 0 then 2 else if 4096 < n ∨ 4096 < m then 7 else if gs.any oddG || us.any oddT then 1
      else if namesOf gs us ≠ 0 then namesOf gs us else if wholeOf gs = false ∨ orderOf gs us ≠ (gs, us) then 5 else if 16 ≤ tallOf gs then 10 else 0 := by
    rw [← hcke, ← hgl, ← hul]; rfl
  rw [hcke] at hck
  replace hln := Aside0.mk hln; replace hlm := Aside0.mk hlm; replace hc := Aside0.mk hc; replace hd := Aside0.mk hd; replace hB := Aside0.mk hB; replace ho := Aside0.mk ho; replace hgs := Aside0.mk hgs; replace hus := Aside0.mk hus; replace hgl := Aside0.mk hgl; replace hul := Aside0.mk hul; replace hck := Aside0.mk hck; replace hcke := Aside0.mk hcke
  by_cases h0 : n = 0
  · rw [if_pos h0] at hcd
    subst h0
    replace hcd := Aside0.mk hcd
    go_enter Tryz.func19, Tryz.ntmps19
    go_wp2_with (first
      | (((with_reducible refine gate_dst (N := 1) rfl ?_); refine box_event ?hg (N := 1) ?hd (cs := #[.slice A 0 c, .slice B m d]) (t := 25) ?hr ?_; (case hd => rfl); (case hg => rfl); (case hr => first | (go_simp; done) | (go_simp; rfl)); intro b0 hb0 w1 kb0 bb0; replace hb0 := Aside0.mk hb0; replace kb0 := Aside0.mk kb0; replace bb0 := Aside0.mk bb0); have c0 := (Kf.cell_row kb0.out 0).trans (rfl : _ = some (Value.slice A 0 c)); have c1 := (Kf.cell_row kb0.out 1).trans (rfl : _ = some (Value.slice B m d))))
    go_ret
    exact hck.out _ _ hcd.out.symm bb0.out
  · rw [if_neg h0] at hcd
    have i0 : ¬ (n : Int) = 0 := by omega
    have i0' : ((n : Int) == 0) = false := by simpa using i0
    by_cases h1 : 4096 < n
    · rw [if_pos (.inl h1)] at hcd
      have i1 : (4096 : Int) < (n : Int) := by omega
      replace hcd := Aside0.mk hcd
      go_enter Tryz.func19, Tryz.ntmps19
      go_wp2_with (first
        | (((with_reducible refine gate_dst (N := 1) rfl ?_); refine box_event ?hg (N := 1) ?hd (cs := #[.slice A n c, .slice B m d]) (t := 25) ?hr ?_; (case hd => rfl); (case hg => rfl); (case hr => first | (go_simp; done) | (go_simp; rfl)); intro b0 hb0 w1 kb0 bb0; replace hb0 := Aside0.mk hb0; replace kb0 := Aside0.mk kb0; replace bb0 := Aside0.mk bb0); have c0 := (Kf.cell_row kb0.out 0).trans (rfl : _ = some (Value.slice A n c)); have c1 := (Kf.cell_row kb0.out 1).trans (rfl : _ = some (Value.slice B m d))))
      go_ret
      exact hck.out _ _ hcd.out.symm bb0.out
    have i1 : ¬ (4096 : Int) < (n : Int) := by omega
    by_cases h2 : 4096 < m
    · rw [if_pos (.inr h2)] at hcd
      have i2 : (4096 : Int) < (m : Int) := by omega
      replace hcd := Aside0.mk hcd
      go_enter Tryz.func19, Tryz.ntmps19
      go_wp2_with (first
        | (((with_reducible refine gate_dst (N := 1) rfl ?_); refine box_event ?hg (N := 1) ?hd (cs := #[.slice A n c, .slice B m d]) (t := 25) ?hr ?_; (case hd => rfl); (case hg => rfl); (case hr => first | (go_simp; done) | (go_simp; rfl)); intro b0 hb0 w1 kb0 bb0; replace hb0 := Aside0.mk hb0; replace kb0 := Aside0.mk kb0; replace bb0 := Aside0.mk bb0); have c0 := (Kf.cell_row kb0.out 0).trans (rfl : _ = some (Value.slice A n c)); have c1 := (Kf.cell_row kb0.out 1).trans (rfl : _ = some (Value.slice B m d))))
      go_ret
      exact hck.out _ _ hcd.out.symm bb0.out
    have i2 : ¬ (4096 : Int) < (m : Int) := by omega
    rw [if_neg (by omega)] at hcd
    have hag := fun W (hW : Below w.heap.size w W) => anyOddG A n c xs W (Kd.C_below HG.out hW) ho.out
    have hat := fun W (hW : Below w.heap.size w W) => anyOddT B m d ts W (Kd.C_below HT.out hW)
    rw [hgs.out] at hag
    rw [hus.out] at hat
    replace hag := Aside0.mk hag; replace hat := Aside0.mk hat
    by_cases h3 : gs.any oddG = true
    · rw [if_pos (by rw [h3]; rfl)] at hcd
      replace hcd := Aside0.mk hcd
      go_enter Tryz.func19, Tryz.ntmps19
      go_wp2_with (first
        | (((with_reducible refine gate_dst (N := 1) rfl ?_); refine box_event ?hg (N := 1) ?hd (cs := #[.slice A n c, .slice B m d]) (t := 25) ?hr ?_; (case hd => rfl); (case hg => rfl); (case hr => first | (go_simp; done) | (go_simp; rfl)); intro b0 hb0 w1 kb0 bb0; replace hb0 := Aside0.mk hb0; replace kb0 := Aside0.mk kb0; replace bb0 := Aside0.mk bb0); have c0 := (Kf.cell_row kb0.out 0).trans (rfl : _ = some (Value.slice A n c)); have c1 := (Kf.cell_row kb0.out 1).trans (rfl : _ = some (Value.slice B m d))))
      with_reducible refine (hag.out _ bb0.out).mono ?_
      rw [h3]
      rintro e2 w2 ⟨rfl, hb2⟩
      have hB2 := Aside0.mk (bb0.out.trans (hb2.mono bb0.out.size))
      replace c0 := pw_cell_below hb2 c0
      replace c1 := pw_cell_below hb2 c1
      clear hb2 kb0
      go_wp2_with fail
      go_ret
      exact hck.out _ _ hcd.out.symm hB2.out
    have h3' : gs.any oddG = false := by simpa using h3
    by_cases h4 : us.any oddT = true
    · rw [if_pos (by rw [h4]; simp)] at hcd
      replace hcd := Aside0.mk hcd
      go_enter Tryz.func19, Tryz.ntmps19
      go_wp2_with (first
        | (((with_reducible refine gate_dst (N := 1) rfl ?_); refine box_event ?hg (N := 1) ?hd (cs := #[.slice A n c, .slice B m d]) (t := 25) ?hr ?_; (case hd => rfl); (case hg => rfl); (case hr => first | (go_simp; done) | (go_simp; rfl)); intro b0 hb0 w1 kb0 bb0; replace hb0 := Aside0.mk hb0; replace kb0 := Aside0.mk kb0; replace bb0 := Aside0.mk bb0); have c0 := (Kf.cell_row kb0.out 0).trans (rfl : _ = some (Value.slice A n c)); have c1 := (Kf.cell_row kb0.out 1).trans (rfl : _ = some (Value.slice B m d))))
      with_reducible refine (hag.out _ bb0.out).mono ?_
      rw [h3']
      rintro e2 w2 ⟨rfl, hb2⟩
      have hB2 := Aside0.mk (bb0.out.trans (hb2.mono bb0.out.size))
      replace c0 := pw_cell_below hb2 c0
      replace c1 := pw_cell_below hb2 c1
      clear hb2 kb0
      go_wp2_with fail
      with_reducible refine (hat.out _ hB2.out).mono ?_
      rw [h4]
      rintro e3 w3 ⟨rfl, hb3⟩
      have hB3 := Aside0.mk (hB2.out.trans (hb3.mono hB2.out.size))
      replace c0 := pw_cell_below hb3 c0
      replace c1 := pw_cell_below hb3 c1
      clear hb3
      go_wp2_with fail
      go_ret
      exact hck.out _ _ hcd.out.symm hB3.out
    have h4' : us.any oddT = false := by simpa using h4
    rw [if_neg (by rw [h3', h4']; simp)] at hcd
    have hnm := fun W (hW : Below w.heap.size w W) => names_calls A n c xs B m d ts W (Kd.C_below HG.out hW) hc.out (Kd.C_below HT.out hW) hd.out (by omega) (by omega) (by omega)
    rw [hgs.out, hus.out] at hnm
    obtain ⟨nm, hnme⟩ : ∃ nm, namesOf gs us = nm := ⟨_, rfl⟩
    rw [hnme] at hcd
    have hnm' : ∀ W, Below w.heap.size w W → Calls Tryz.prog 43 #[.agg #[.slice A n c, .slice B m d]] W fun e w' => e = .returned (.int .i64 nm) ∧ Below W.heap.size W w' := fun W hW => by rw [← hnme]; exact hnm W hW
    clear hnm
    replace hcd := Aside0.mk hcd; replace hnm' := Aside0.mk hnm'; replace hnme := Aside0.mk hnme
    go_enter Tryz.func19, Tryz.ntmps19
    go_wp2_with (first
      | (((with_reducible refine gate_dst (N := 1) rfl ?_); refine box_event ?hg (N := 1) ?hd (cs := #[.slice A n c, .slice B m d]) (t := 25) ?hr ?_; (case hd => rfl); (case hg => rfl); (case hr => first | (go_simp; done) | (go_simp; rfl)); intro b0 hb0 w1 kb0 bb0; replace hb0 := Aside0.mk hb0; replace kb0 := Aside0.mk kb0; replace bb0 := Aside0.mk bb0); have c0 := (Kf.cell_row kb0.out 0).trans (rfl : _ = some (Value.slice A n c)); have c1 := (Kf.cell_row kb0.out 1).trans (rfl : _ = some (Value.slice B m d))))
    with_reducible refine (hag.out _ bb0.out).mono ?_
    rw [h3']
    rintro e2 w2 ⟨rfl, hb2⟩
    have hB2 := Aside0.mk (bb0.out.trans (hb2.mono bb0.out.size))
    replace c0 := pw_cell_below hb2 c0
    replace c1 := pw_cell_below hb2 c1
    clear hb2 kb0
    go_wp2_with fail
    with_reducible refine (hat.out _ hB2.out).mono ?_
    rw [h4']
    rintro e3 w3 ⟨rfl, hb3⟩
    have hB3 := Aside0.mk (hB2.out.trans (hb3.mono hB2.out.size))
    replace c0 := pw_cell_below hb3 c0
    replace c1 := pw_cell_below hb3 c1
    clear hb3
    go_wp2_with (first
      | ((with_reducible refine gate_op (.load 25 (.tmp 1)) rfl ?_); refine wpList_load_midB rfl _ _ rfl ⟨b0, 0, none⟩ rfl [.slice A n c, .slice B m d] _ (two_cells c0 c1) Tryz.underlying25 rfl info_S ?_))
    with_reducible refine (hnm'.out _ hB3.out).mono ?_
    rintro e4 w4 ⟨rfl, hb4⟩
    have hB4 := Aside0.mk (hB3.out.trans (hb4.mono hB3.out.size))
    replace c0 := pw_cell_below hb4 c0
    replace c1 := pw_cell_below hb4 c1
    clear hb4
    by_cases h5 : nm = 0
    · subst h5
      have hcd2 := hcd.out
      rw [if_neg (fun h => h rfl)] at hcd2
      have hB4d : Below w.heap.size w w4.drew := hB4.out.drew
      have hwc := whole_calls A n c xs B m d w4.drew (Kd.C_below HG.out hB4d) hc.out (by omega)
      rw [hgs.out] at hwc
      obtain ⟨wh, hwh⟩ : ∃ wh, wholeOf gs = wh := ⟨_, rfl⟩
      have hwc' : Calls Tryz.prog 44 #[.agg #[.slice A n c, .slice B m d]] w4.drew fun e w' => e = .returned (.bool wh) ∧ Below w4.drew.heap.size w4.drew w' := by rw [← hwh]; exact hwc
      clear hwc
      cases wh with
      | false =>
        rw [if_pos (.inl hwh)] at hcd2
        replace hcd2 := Aside0.mk hcd2; replace hwc' := Aside0.mk hwc'; replace hB4d := Aside0.mk hB4d; replace hwh := Aside0.mk hwh
        go_wp2_with fail
        go_region_with (first
          | (go_at_call 44; refine hwc'.out.mono ?_; rintro e w5 ⟨rfl, hb5⟩; have s5 := pw_cell_below hb5 c0; have s6 := pw_cell_below hb5 c1; replace hb5 := Aside0.mk hb5)
          | ((with_reducible refine gate_op (.load 25 (.tmp 1)) rfl ?_); refine wpList_load_midB rfl _ _ rfl ⟨b0, 0, none⟩ rfl [.slice A n c, .slice B m d] _ (two_cells c0 c1) Tryz.underlying25 rfl info_S ?_))
        all_goals go_wp2_with fail
        all_goals go_ret
        all_goals exact hck.out _ _ hcd2.out.symm (hB4d.out.trans (hb5.out.mono hB4d.out.size))
      | true =>
        have hnd := names_zero hnme.out
        have hgn : (gids gs).Nodup := (List.nodup_append.1 hnd).1
        have htn : (ts.map (·.f0)).Nodup := by
          have := (List.nodup_append.1 hnd).2.1
          rw [← hus.out, List.map_map] at this
          exact this
        have hY : Tree (xs.map gOf) := by rw [hgs.out]; exact tree_of hgn h3' hwh
        have hwx : wholeOf (xs.map gOf) = true := by rw [hgs.out]; exact hwh
        have hoc := fun W (hW : Below w.heap.size w W) => Order_calls A n c xs B m d ts W (Kd.C_below HG.out hW) hc.out (by omega) (Kd.C_below HT.out hW) (by omega) hB.out hY hwx htn
        obtain ⟨eq, heq⟩ : ∃ eq, decide (orderOf gs us = (gs, us)) = eq := ⟨_, rfl⟩
        have hso : ∀ (gs' : List SG) (ts' : List ST), gs'.map gOf = underOf (xs.map gOf) → ts'.map tOf = sortT (ts.map tOf) → decide (gs' = xs ∧ ts' = ts) = eq := fun gs' ts' h1 h2 => by
          rw [same_order hwx h1 h2, hgs.out, hus.out]; exact heq
        have hsm : ∀ (gs' : List SG) (ts' : List ST) (A' : Option Addr) (c' : Nat) (B' : Option Addr) (d' : Nat) (W : World), gs'.map gOf = underOf (xs.map gOf) → ts'.map tOf = sortT (ts.map tOf) → gs'.length ≤ c' → ts'.length ≤ d' → kG.C W A' gs'.length gs' → kT.C W B' ts'.length ts' → Below w.heap.size w W →
            Calls Tryz.prog 45 #[.agg #[.slice A' gs'.length c', .slice B' ts'.length d'], .agg #[.slice A n c, .slice B m d]] W fun e w' => e = .returned (.bool eq) ∧ Below W.heap.size W w' := by
          intro gs' ts' A' c' B' d' W h1 h2 h6 h7 h8 h9 hW
          have hk := same_c A' gs'.length c' gs' B' ts'.length d' ts' A n c xs B m d ts W h8 h9 (Kd.C_below HG.out hW) (Kd.C_below HT.out hW)
          rw [hso gs' ts' h1 h2] at hk
          exact hk
        replace hnd := Aside0.mk hnd; replace hgn := Aside0.mk hgn; replace htn := Aside0.mk htn; replace hY := Aside0.mk hY; replace hwx := Aside0.mk hwx; replace hoc := Aside0.mk hoc; replace hso := Aside0.mk hso; replace hsm := Aside0.mk hsm; replace hcd2 := Aside0.mk hcd2; replace hwc' := Aside0.mk hwc'; replace hB4d := Aside0.mk hB4d; replace hwh := Aside0.mk hwh; replace heq := Aside0.mk heq
        cases eq with
        | true =>
          have htl := fun W (hW : Below w.heap.size w W) => Tall_calls A n c xs B m d W (Kd.C_below HG.out hW) (by omega)
          rw [hgs.out] at htl
          obtain ⟨tl, htle⟩ : ∃ tl, tallOf gs = tl := ⟨_, rfl⟩
          have htl : ∀ W, Below w.heap.size w W → Calls Tryz.prog 47 #[.agg #[.slice A n c, .slice B m d]] W fun e w' => e = .returned (.int .i64 tl) ∧ Below W.heap.size W w' := fun W hW => by rw [← htle]; exact htl W hW
          have hcd3 : ck = if 16 ≤ tl then 10 else 0 := by
            have h9 := hcd2.out
            rw [if_neg (by rintro (h | h); (rw [hwh.out] at h; cases h); exact h (of_decide_eq_true heq.out)), htle] at h9
            exact h9
          replace htl := Aside0.mk htl; replace hcd3 := Aside0.mk hcd3; replace htle := Aside0.mk htle
          go_wp2_with fail
          go_region_with (first
            | (go_at_call 44; refine hwc'.out.mono ?_; rintro e w5 ⟨rfl, hb5⟩; have s5 := pw_cell_below hb5 c0; have s6 := pw_cell_below hb5 c1; have hB5 := Aside0.mk (hB4d.out.trans (hb5.mono hB4d.out.size)); clear hb5)
            | (go_at_call 46; refine (hoc.out w5 hB5.out).mono ?_; rintro e w6 ⟨A6, c6, B6, d6, gs6, ts6, rfl, y1, y2, y3, y4, y5, y6, -, hb6⟩; have s7 := pw_cell_below hb6 s5; have s8 := pw_cell_below hb6 s6; have hB6 := Aside0.mk (hB5.out.trans (hb6.mono hB5.out.size)); have hsm6 := Aside0.mk (hsm.out gs6 ts6 A6 c6 B6 d6 w6 y5 y6 y1 y2 y3 y4 hB6.out); clear hb6 y1 y2 y3 y4 y5 y6)
            | (go_at_call 45; refine hsm6.out.mono ?_; rintro e w7 ⟨rfl, hb7⟩; have s9 := pw_cell_below hb7 s7; have s10 := pw_cell_below hb7 s8; have hB7 := Aside0.mk (hB6.out.trans (hb7.mono hB6.out.size)); clear hb7)
            | ((with_reducible refine gate_op (.load 25 (.tmp 1)) rfl ?_); refine wpList_load_midB rfl _ _ rfl ⟨b0, 0, none⟩ rfl [.slice A n c, .slice B m d] _ (two_cells s7 s8) Tryz.underlying25 rfl info_S ?_)
            | ((with_reducible refine gate_op (.load 25 (.tmp 1)) rfl ?_); refine wpList_load_midB rfl _ _ rfl ⟨b0, 0, none⟩ rfl [.slice A n c, .slice B m d] _ (two_cells s5 s6) Tryz.underlying25 rfl info_S ?_)
            | ((with_reducible refine gate_op (.load 25 (.tmp 1)) rfl ?_); refine wpList_load_midB rfl _ _ rfl ⟨b0, 0, none⟩ rfl [.slice A n c, .slice B m d] _ (two_cells c0 c1) Tryz.underlying25 rfl info_S ?_))
          all_goals clear c0 c1 s5 s6 s7 s8
          all_goals go_wp2_with (first
            | ((with_reducible refine gate_op (.load 25 (.tmp 1)) rfl ?_); refine wpList_load_midB rfl _ _ rfl ⟨b0, 0, none⟩ rfl [.slice A n c, .slice B m d] _ (two_cells s9 s10) Tryz.underlying25 rfl info_S ?_))
          all_goals with_reducible refine (htl.out w7 hB7.out).mono ?_
          all_goals rintro e8 w8 ⟨rfl, hb8⟩
          all_goals have hB8 := Aside0.mk (hB7.out.trans (hb8.mono hB7.out.size))
          all_goals clear hb8
          all_goals by_cases h16 : (16 : Int) ≤ tl
          all_goals go_wp2_with fail
          all_goals go_ret
          all_goals first
            | exact hck.out _ _ (by rw [hcd3.out, if_pos h16]) hB8.out
            | exact hck.out _ _ (by rw [hcd3.out, if_neg (by omega)]) hB8.out
        | false =>
          have hcd3 : ck = 5 := by
            have h9 := hcd2.out
            rw [if_pos (.inr (of_decide_eq_false heq.out))] at h9
            exact h9
          replace hcd3 := Aside0.mk hcd3
          go_wp2_with fail
          go_region_with (first
            | (go_at_call 44; refine hwc'.out.mono ?_; rintro e w5 ⟨rfl, hb5⟩; have s5 := pw_cell_below hb5 c0; have s6 := pw_cell_below hb5 c1; have hB5 := Aside0.mk (hB4d.out.trans (hb5.mono hB4d.out.size)); clear hb5)
            | (go_at_call 46; refine (hoc.out w5 hB5.out).mono ?_; rintro e w6 ⟨A6, c6, B6, d6, gs6, ts6, rfl, y1, y2, y3, y4, y5, y6, -, hb6⟩; have s7 := pw_cell_below hb6 s5; have s8 := pw_cell_below hb6 s6; have hB6 := Aside0.mk (hB5.out.trans (hb6.mono hB5.out.size)); have hsm6 := Aside0.mk (hsm.out gs6 ts6 A6 c6 B6 d6 w6 y5 y6 y1 y2 y3 y4 hB6.out); clear hb6 y1 y2 y3 y4 y5 y6)
            | (go_at_call 45; refine hsm6.out.mono ?_; rintro e w7 ⟨rfl, hb7⟩; have s9 := pw_cell_below hb7 s7; have s10 := pw_cell_below hb7 s8; have hB7 := Aside0.mk (hB6.out.trans (hb7.mono hB6.out.size)); clear hb7)
            | ((with_reducible refine gate_op (.load 25 (.tmp 1)) rfl ?_); refine wpList_load_midB rfl _ _ rfl ⟨b0, 0, none⟩ rfl [.slice A n c, .slice B m d] _ (two_cells s7 s8) Tryz.underlying25 rfl info_S ?_)
            | ((with_reducible refine gate_op (.load 25 (.tmp 1)) rfl ?_); refine wpList_load_midB rfl _ _ rfl ⟨b0, 0, none⟩ rfl [.slice A n c, .slice B m d] _ (two_cells s5 s6) Tryz.underlying25 rfl info_S ?_)
            | ((with_reducible refine gate_op (.load 25 (.tmp 1)) rfl ?_); refine wpList_load_midB rfl _ _ rfl ⟨b0, 0, none⟩ rfl [.slice A n c, .slice B m d] _ (two_cells c0 c1) Tryz.underlying25 rfl info_S ?_))
          all_goals go_wp2_with fail
          all_goals go_ret
          all_goals exact hck.out _ _ hcd3.out.symm hB7.out
    · have h5' : (nm != 0) = true := by simpa using h5
      have hcd2 := hcd.out
      rw [if_pos h5] at hcd2
      replace hcd2 := Aside0.mk hcd2
      go_wp2_with fail
      go_ret
      exact hck.out _ _ hcd2.out.symm hB4.out
end Go.Proofs.YtpnjhffnlafabaaGreatDoor.Sn
