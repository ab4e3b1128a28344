/- shuffled of law 13: a scene whose groups, but the first one, and tasks stand from some place on. -/
import Derived.Test.YtpnjhffnlafabaaSc6
import Derived.Deep.AppendLies
namespace Go.Proofs.Ytpnjhffnlafabaa.Sn
set_option linter.unusedVariables false
set_option linter.unusedSimpArgs false
open Go.RowKit Go.Sort Go.Shelf Go.Lib Go.Proofs.Bk Go.Proofs.Bm Go.Proofs.Op Go.Proofs.Sc Go.Proofs.Kf Go.Proofs.YtpnjhffnlafabaaW.PrintWords Go.Proofs.Ytpnjhffnlafabaa.PSceneOrders Go.Proofs.Ytpnjhffnlafabaa.St

def rot {α : Type} (l : List α) (b : Nat) : List α := l.drop (b % l.length) ++ l.take (b % l.length)
theorem rot_perm {α : Type} (l : List α) (b : Nat) : l.Perm (rot l b) := by
  unfold rot
  exact (List.perm_append_comm.trans (by rw [List.take_append_drop])).symm
theorem rot_len {α : Type} (l : List α) (b : Nat) : (rot l b).length = l.length := (rot_perm l b).length_eq.symm
theorem rot_get {α : Type} (l : List α) (b k : Nat) (hk : k < l.length) : (rot l b)[k]? = l[(k + b) % l.length]? := by
  have hr : b % l.length < l.length := Nat.mod_lt _ (by omega)
  have e : (k + b) % l.length = (k + b % l.length) % l.length := by rw [Nat.add_mod_mod]
  unfold rot
  generalize b % l.length = r at hr e
  rw [e]
  by_cases h : k < l.length - r
  · rw [List.getElem?_append_left (by rw [List.length_drop]; omega), List.getElem?_drop, Nat.mod_eq_of_lt (by omega), Nat.add_comm]
  · rw [List.getElem?_append_right (by rw [List.length_drop]; omega), List.length_drop, List.getElem?_take_of_lt (by omega), Nat.mod_eq_sub_mod (by omega), Nat.mod_eq_of_lt (by omega)]
    congr 1; omega
def rotG {α : Type} (l : List α) (b : Nat) : List α := match l with | [] => [] | x :: l => x :: rot l b
def idxG (n b i : Nat) : Nat := if i = 0 then 0 else 1 + (i - 1 + b) % (n - 1)
theorem rotG_len {α : Type} (l : List α) (b : Nat) : (rotG l b).length = l.length := by cases l <;> simp [rotG, rot_len]
theorem rotG_get {α : Type} (l : List α) (b k : Nat) (hk : k < l.length) : (rotG l b)[k]? = l[idxG l.length b k]? := by
  cases l with
  | nil => simp at hk
  | cons x l =>
    unfold rotG idxG
    cases k with
    | zero => simp
    | succ k =>
      simp at hk
      rw [if_neg (by omega), List.getElem?_cons_succ, rot_get l b k hk, Nat.add_comm 1, List.getElem?_cons_succ]
      simp
theorem idxG_lt {n b i : Nat} (h : i < n) : idxG n b i < n := by
  unfold idxG
  split
  · omega
  · have := Nat.mod_lt (i - 1 + b) (show n - 1 > 0 by omega); omega
theorem map_rot {α β : Type} (f : α → β) (l : List α) (b : Nat) : (rot l b).map f = rot (l.map f) b := by
  unfold rot; rw [List.map_append, List.map_drop, List.map_take, List.length_map]
theorem map_rotG {α β : Type} (f : α → β) (l : List α) (b : Nat) : (rotG l b).map f = rotG (l.map f) b := by
  cases l with
  | nil => rfl
  | cons x l => show f x :: (rot l b).map f = _; rw [map_rot]; rfl
theorem take_snoc {α : Type} {l : List α} {k : Nat} {x : α} (h : l[k]? = some x) : l.take (k + 1) = l.take k ++ [x] := by rw [List.take_add_one, h]; rfl

/-- another block has been written, of another element type -/
theorem R_keep {α : Type} {κ : Kd α} {e base g t : Nat} {ok : Nat → Prop} {v : Value} {xs : List α} {cs : Array Value} {w w1 : World} (h : κ.R e w base ok v xs) (hk : KeepF (fun i => i = g) w w1) (hr : w.heap[g]? = some (.cells cs t (0, 0))) (hE : κ.E = []) (hne : e ≠ t) :
    κ.R e w1 base ok v xs := by
  refine Kd.R_mono (Kd.R_move (Kd.R_bound h) (fun q hq => hk.block q hq.2.2.1 (fun e9 => ?_))) (fun k hk => hk.1)
  obtain ⟨ty, hty, cells, hcs⟩ := hq.2.2.2
  rw [hE] at hty
  simp at hty
  subst hty
  rw [e9, hr] at hcs
  injection hcs with hcs
  injection hcs with _ hcs _
  exact hne hcs.symm
def ShufPost (xs : List SG) (ts : List ST) (b : Nat) (w : World) (e : Ending) (w' : World) : Prop :=
  ∃ A c B d, e = .returned (.agg #[.slice A (rotG xs b).length c, .slice B (rot ts b).length d]) ∧ (rotG xs b).length ≤ c ∧ (rot ts b).length ≤ d ∧ kG.C w' A (rotG xs b).length (rotG xs b) ∧ kT.C w' B (rot ts b).length (rot ts b) ∧ (∀ ad, B = some ad → ad.spot = none) ∧ Below w.heap.size w w'
set_option maxHeartbeats 8000000 in
set_option maxRecDepth 100000 in
theorem shuffled_calls (w : World) (A : Option Addr) (n c : Nat) (xs : List SG) (B : Option Addr) (m d : Nat) (ts : List ST) (hG : kG.C w A n xs) (hT : kT.C w B m ts) (hn : n ≤ 30) (hm : m ≤ 30) (by_ : Nat) (hby : by_ ≤ 255) :
    Calls Try.prog 18 #[.agg #[.slice A n c, .slice B m d], .int .u8 by_] w (ShufPost xs ts by_ w) := by
  have hln := hG.1
  have hlm := hT.1
  have HG := Aside0.mk hG
  have HT := Aside0.mk hT
  clear hG hT
  replace hln := Aside0.mk hln; replace hlm := Aside0.mk hlm
  go_enter Try.func18, Try.ntmps18
  go_wp2_with (first
    | (((with_reducible refine gate_dst (N := 2) rfl ?_); refine box_event ?hg (N := 2) ?hd (cs := #[.slice A n c, .slice B m d]) (t := 25) ?hr ?_; (case hd => rfl); (case hg => rfl); (case hr => first | (go_simp; done) | (go_simp; rfl)); intro b2 hb2 w1 kb2 bb2; replace hb2 := Aside0.mk hb2; replace kb2 := Aside0.mk kb2; replace bb2 := Aside0.mk bb2))
    | (((with_reducible refine gate_dst (N := 4) rfl ?_); refine box_event ?hg (N := 4) ?hd (cs := #[.slice none 0 0, .slice none 0 0]) (t := 25) ?hr ?_; (case hd => rfl); (case hg => rfl); (case hr => first | (go_simp; done) | (go_simp; rfl)); intro b4 hb4 w2 kb4 bb4; replace hb4 := Aside0.mk hb4; replace kb4 := Aside0.mk kb4; replace bb4 := Aside0.mk bb4); have k2 := Aside0.mk (row_below bb4.out kb2.out))
    | (((with_reducible refine gate_dst (N := 5) rfl ?_); refine box_event ?hg (N := 5) ?hd (cs := #[.slice none 0 0, .slice none 0 0]) (t := 25) ?hr ?_; (case hd => rfl); (case hg => rfl); (case hr => first | (go_simp; done) | (go_simp; rfl)); intro b5 hb5 w3 kb5 bb5; replace hb5 := Aside0.mk hb5; replace kb5 := Aside0.mk kb5; replace bb5 := Aside0.mk bb5); have k23 := Aside0.mk (row_below bb5.out k2.out); have k43 := Aside0.mk (row_below bb5.out kb4.out); have hS := Aside0.mk (Bld.start ((bb2.out.trans (bb4.out.mono bb2.out.size)).trans (bb5.out.mono (Nat.le_trans bb2.out.size bb4.out.size))) (by have := hb5.out; have := bb2.out.size; have := bb4.out.size; omega) kb5.out)))
  have h25 : Aside0 (b2 ≠ b5) := ⟨by have := hb5.out; have := lt_row k2.out; omega⟩
  have h45 : Aside0 (b4 ≠ b5) := ⟨by have := hb5.out; have := lt_row kb4.out; omega⟩
  have h4w : Aside0 (w.heap.size ≤ b4) := ⟨by have := hb4.out; have := bb2.out.size; omega⟩
  have h24 : Aside0 (b2 ≠ b4) := ⟨by have := hb4.out; have := lt_row kb2.out; omega⟩
  clear kb2 bb2 kb4 bb4 k2 kb5 bb5 hb2 hb4 hb5
  go_loopw [6, 7] (fun iv kv wr => ∃ (k : Nat) (A1 : Option Addr) (c1 : Nat) (gs : List SG), iv = .int .i64 k ∧ k ≤ n ∧ Aside0 (gs = (rotG xs by_).take k) ∧ Aside0 (Bld w.heap.size w b5 A1 c1 gs none 0 [] wr) ∧ Aside0 (wr.heap[b2]? = some (.cells #[.slice A n c, .slice B m d] 25 (0, 0))) ∧ Aside0 (wr.heap[b4]? = some (.cells #[.slice none 0 0, .slice none 0 0] 25 (0, 0)))) (fun iv _ _ => n - (intOf iv).toNat)
  case atStart => exact ⟨0, none, 0, [], rfl, Nat.zero_le _, ⟨by simp⟩, hS, k23, k43⟩
  case round =>
    obtain ⟨k, A1, c1, gs, rfl, hk, hgs, hSr, k2r, k4r⟩ := hrel
    have e0 := (Kf.cell_row k2r.out 0).trans (rfl : _ = some (Value.slice A n c))
    have e1 := (Kf.cell_row k2r.out 1).trans (rfl : _ = some (Value.slice B m d))
    by_cases hlt : k < n
    · have p1 : 0 ≤ (k : Int) := by omega
      have q1 : (k : Int) < (n : Int) := by omega
      obtain ⟨j, hj⟩ : ∃ j, idxG n by_ k = j := ⟨_, rfl⟩
      have hjn : j < n := by rw [← hj]; exact idxG_lt hlt
      have pj : 0 ≤ (j : Int) := by omega
      have qj : (j : Int) < (n : Int) := by omega
      have HGr := Kd.C_below HG.out hSr.out.below
      obtain ⟨bG, oG, x1, eA, hbG, hx1, t0, t1, t2, t3, t4, t5⟩ := G_one HGr hjn
      subst eA
      have htk : (rotG xs by_).take (k + 1) = (rotG xs by_).take k ++ [x1] := take_snoc (by rw [rotG_get _ _ _ (by rw [hln.out]; exact hlt), hln.out, hj, hx1])
      have d0r := (cell_row hSr.out.row 0).trans (rfl : _ = some (Value.slice A1 gs.length c1))
      obtain ⟨n1, hn1⟩ : ∃ n1, gs.length = n1 := ⟨_, rfl⟩
      have hl8 : (gs.length + 1) * 48 ≤ 140737488355328 := by
        rw [hgs.out]
        have h2 := List.length_take_le k (rotG xs by_)
        omega
      rw [hn1] at d0r
      obtain ⟨n2, hn2⟩ : ∃ n2, (gs ++ [x1]).length = n2 := ⟨_, rfl⟩
      have hSd := Aside0.mk hSr.out.drew
      have hRd : kG.R 41 wr.drew w.heap.size (fun _ => True) (.slice A1 n1 c1) gs := by rw [← hn1]; exact hSd.out.rg
      have d0a : (wr.alloc (.cells #[.int .i64 x1.f0, .int .i64 x1.f1, .int .i64 x1.f2, .int .i64 x1.f3.f0, .int .i64 x1.f3.f1, .int .i64 x1.f3.f2] 41)).cell? ⟨b5, 0, none⟩ = some (.slice A1 n1 c1) := pw_cell_below (below_alloc (Below.refl _ wr) _) d0r
      have hgs' : gs ++ [x1] = (rotG xs by_).take (k + 1) := by rw [htk, hgs.out]
      replace HGr := Aside0.mk HGr; replace hx1 := Aside0.mk hx1; replace htk := Aside0.mk htk; replace hn1 := Aside0.mk hn1; replace hl8 := Aside0.mk hl8; replace hn2 := Aside0.mk hn2; replace hRd := Aside0.mk hRd; replace hgs' := Aside0.mk hgs'; replace hj := Aside0.mk hj; replace hjn := Aside0.mk hjn
      have hz : Aside0 (¬ k = 0 → wrap64 (1 + ((k : Int) - 1 + (by_ : Int)) % ((n : Int) - 1)) = (j : Int)) := ⟨fun hk0 => by
        have h1 := hj.out
        unfold idxG at h1
        rw [if_neg hk0] at h1
        have h2 : ((k : Int) - 1 + (by_ : Int)) % ((n : Int) - 1) = (((k - 1 + by_) % (n - 1) : Nat) : Int) := by
          rw [show (k : Int) - 1 + (by_ : Int) = ((k - 1 + by_ : Nat) : Int) by omega, show (n : Int) - 1 = ((n - 1 : Nat) : Int) by omega]
          rfl
        rw [h2]
        unfold wrap64
        have := hjn.out
        omega⟩
      by_cases hk0 : k = 0
      · have hj0 : j = 0 := by rw [← hj.out]; unfold idxG; rw [if_pos hk0]
        have z1 : ¬ (0 : Int) < (k : Int) := by omega
        subst hj0
        rw [show oG + 0 * 6 = oG by omega] at t0 t1 t2 t3 t4 t5
        subst hk0
        go_wp2_with fail
        go_region_law (first
              | (refine Kd.R_append_step kG (w0 := w) w.heap.size (by rfl) _ _ 22 41 (.agg zG.toArray) 48 (by rfl) Try.underlying22 infoG3 rfl (by decide) (by omega) (.slice A1 n1 c1) gs x1 ([.int .i64 x1.f0, .int .i64 x1.f1, .int .i64 x1.f2, .int .i64 x1.f3.f0, .int .i64 x1.f3.f1, .int .i64 x1.f3.f2] : List Value) (fun _ => True) (fun _ => False) (by rfl) (by rfl) ?aP (fun _ hk => hk.elim) (fun _ _ => trivial) hRd.out hSd.out.below hSd.out.size hl8.out ?_; (case aP => exact k41_mkM _ _ _ _); intro v2 w10 hR10 hb10 hg10 hat10; obtain ⟨A2, c2, ev2, hd2, _⟩ := Kd.R_reads hR10; rw [hn2.out] at ev2; subst ev2; rw [← hn2.out] at hR10; rw [← hn1.out] at hg10; have hr10 := (hg10.block b5 (lt_row hSd.out.row) (fun e => Kd.R_ne hSd.out.rg hSd.out.row (by decide) e)).trans hSd.out.row; have s10 := (cell_row hr10 0).trans (rfl : _ = some (Value.slice A1 gs.length c1)); have s11 : w10.frozen? ⟨b5, 0, none⟩ = false := frozen_row hr10 0; replace hR10 := Aside0.mk hR10; replace hb10 := Aside0.mk hb10; replace hg10 := Aside0.mk hg10; replace hat10 := Aside0.mk hat10; replace hr10 := Aside0.mk hr10))
        all_goals go_wp2_with fail
        all_goals go_roundw
        all_goals try (case measure => show n - (((0 : Nat) : Int) + 1).toNat < n - ((0 : Nat) : Int).toNat; omega)
        all_goals
          refine ⟨0 + 1, A2, c2, gs ++ [x1], by simp, by omega, hgs', ⟨?_⟩, ⟨?_⟩, ⟨?_⟩⟩
          · rw [← hn2.out]; exact hSd.out.pushG hR10.out hb10.out hg10.out
          · exact hSd.out.keepG hg10.out k2r.out h25.out
          · exact hSd.out.keepG hg10.out k4r.out h45.out
      · have z1 : (0 : Int) < (k : Int) := by omega
        go_wp2_with fail
        rw [hz.out hk0]
        go_region_law (first
              | (refine Kd.R_append_step kG (w0 := w) w.heap.size (by rfl) _ _ 22 41 (.agg zG.toArray) 48 (by rfl) Try.underlying22 infoG3 rfl (by decide) (by omega) (.slice A1 n1 c1) gs x1 ([.int .i64 x1.f0, .int .i64 x1.f1, .int .i64 x1.f2, .int .i64 x1.f3.f0, .int .i64 x1.f3.f1, .int .i64 x1.f3.f2] : List Value) (fun _ => True) (fun _ => False) (by rfl) (by rfl) ?aP (fun _ hk => hk.elim) (fun _ _ => trivial) hRd.out hSd.out.below hSd.out.size hl8.out ?_; (case aP => exact k41_mkM _ _ _ _); intro v2 w10 hR10 hb10 hg10 hat10; obtain ⟨A2, c2, ev2, hd2, _⟩ := Kd.R_reads hR10; rw [hn2.out] at ev2; subst ev2; rw [← hn2.out] at hR10; rw [← hn1.out] at hg10; have hr10 := (hg10.block b5 (lt_row hSd.out.row) (fun e => Kd.R_ne hSd.out.rg hSd.out.row (by decide) e)).trans hSd.out.row; have s10 := (cell_row hr10 0).trans (rfl : _ = some (Value.slice A1 gs.length c1)); have s11 : w10.frozen? ⟨b5, 0, none⟩ = false := frozen_row hr10 0; replace hR10 := Aside0.mk hR10; replace hb10 := Aside0.mk hb10; replace hg10 := Aside0.mk hg10; replace hat10 := Aside0.mk hat10; replace hr10 := Aside0.mk hr10))
        all_goals go_wp2_with fail
        all_goals go_roundw
        all_goals try (case measure => show n - ((k : Int) + 1).toNat < n - (k : Int).toNat; omega)
        all_goals
          refine ⟨k + 1, A2, c2, gs ++ [x1], by simp, by omega, hgs', ⟨?_⟩, ⟨?_⟩, ⟨?_⟩⟩
          · rw [← hn2.out]; exact hSd.out.pushG hR10.out hb10.out hg10.out
          · exact hSd.out.keepG hg10.out k2r.out h25.out
          · exact hSd.out.keepG hg10.out k4r.out h45.out
    · obtain rfl : n = k := by omega
      have hgsA : Aside0 (gs = rotG xs by_) := ⟨by rw [hgs.out, List.take_of_length_le (by rw [rotG_len, hln.out]; exact Nat.le_refl _)]⟩
      clear hgs
      go_wp2_with fail
      go_loopw [8] (fun iv wt => ∃ (k : Nat) (B1 : Option Addr) (d1 : Nat) (us : List ST), iv = .int .i64 k ∧ k ≤ m ∧ Aside0 (us = (rot ts by_).take k) ∧ Aside0 (Bld w.heap.size w b5 A1 c1 gs B1 d1 us wt) ∧ Aside0 (wt.heap[b2]? = some (.cells #[.slice A n c, .slice B m d] 25 (0, 0))) ∧ Aside0 (wt.heap[b4]? = some (.cells #[.slice none 0 0, .slice none 0 0] 25 (0, 0)))) (fun iv _ => m - (intOf iv).toNat)
      case atStart => exact ⟨0, none, 0, [], rfl, Nat.zero_le _, ⟨by simp⟩, hSr, k2r, k4r⟩
      case round =>
        clear hSr k2r k4r e0 e1
        obtain ⟨k, B1, d1, us, rfl, hk, hus, hSr, k2r, k4r⟩ := hrel
        have e1 := (Kf.cell_row k2r.out 1).trans (rfl : _ = some (Value.slice B m d))
        by_cases hlt : k < m
        · have p1 : 0 ≤ (k : Int) := by omega
          have q1 : (k : Int) < (m : Int) := by omega
          obtain ⟨j, hj⟩ : ∃ j, (k + by_) % m = j := ⟨_, rfl⟩
          have hjm : j < m := by rw [← hj]; exact Nat.mod_lt _ (by omega)
          have pj : 0 ≤ (j : Int) := by omega
          have qj : (j : Int) < (m : Int) := by omega
          have HTr := Kd.C_below HT.out hSr.out.below
          obtain ⟨bT, oT, x1, eB, hbT, hx1, t0, t1, t2, t3, t4, t5, t6, t7⟩ := T_one HTr hjm
          subst eB
          have htk : (rot ts by_).take (k + 1) = (rot ts by_).take k ++ [x1] := take_snoc (by rw [rot_get _ _ _ (by rw [hlm.out]; exact hlt), hlm.out, hj, hx1])
          have hus' : us ++ [x1] = (rot ts by_).take (k + 1) := by rw [htk, hus.out]
          have d1r := (cell_row hSr.out.row 1).trans (rfl : _ = some (Value.slice B1 us.length d1))
          obtain ⟨n1, hn1⟩ : ∃ n1, us.length = n1 := ⟨_, rfl⟩
          have hl8 : (us.length + 1) * 64 ≤ 140737488355328 := by
            rw [hus.out]
            have h2 := List.length_take_le k (rot ts by_)
            omega
          rw [hn1] at d1r
          obtain ⟨n2, hn2⟩ : ∃ n2, (us ++ [x1]).length = n2 := ⟨_, rfl⟩
          have hSd := Aside0.mk hSr.out.drew
          have hRd : kT.R 46 wr.drew w.heap.size (fun _ => True) (.slice B1 n1 d1) us := by rw [← hn1]; exact hSd.out.rt
          have d1a : (wr.alloc (.cells #[.int .i64 x1.f0, .int .i64 x1.f1, .int .i64 x1.f2, .int .u64 x1.f3, .bool x1.f4, .int .i64 x1.f5, .int .i64 x1.f6.f0, .int .i64 x1.f6.f1] 46)).cell? ⟨b5, 1, none⟩ = some (.slice B1 n1 d1) := pw_cell_below (below_alloc (Below.refl _ wr) _) d1r
          have z1 : IntKind.i64.wrap ((k : Int) + (by_ : Int)) = ((k + by_ : Nat) : Int) := by rw [IntKind.wrap_i64]; omega
          have z2 : Int.tmod ((k + by_ : Nat) : Int) (m : Int) = (j : Int) := by rw [← hj]; rfl
          have z3 : IntKind.i64.wrap (by_ : Int) = (by_ : Int) := by rw [IntKind.wrap_i64]; omega
          have z4 : ¬ m = 0 := by omega
          have z5 : Int.tmod ((k : Int) + (by_ : Int)) (m : Int) = (j : Int) := by rw [← hj]; rfl
          replace HTr := Aside0.mk HTr; replace hx1 := Aside0.mk hx1; replace htk := Aside0.mk htk; replace hn1 := Aside0.mk hn1; replace hl8 := Aside0.mk hl8; replace hn2 := Aside0.mk hn2; replace hRd := Aside0.mk hRd; replace hus' := Aside0.mk hus'; replace hj := Aside0.mk hj; replace hjm := Aside0.mk hjm
          go_wp2_with fail
          go_region_law (first
              | (refine Kd.R_append_step kT (w0 := w) w.heap.size (by rfl) _ _ 23 46 (.agg #[.int .i64 0, .int .i64 0, .int .i64 0, .int .u64 0, .bool false, .int .i64 0, .int .i64 0, .int .i64 0]) 64 (by rfl) Try.underlying23 infoT rfl (by decide) (by omega) (.slice B1 n1 d1) us x1 ([.int .i64 x1.f0, .int .i64 x1.f1, .int .i64 x1.f2, .int .u64 x1.f3, .bool x1.f4, .int .i64 x1.f5, .int .i64 x1.f6.f0, .int .i64 x1.f6.f1] : List Value) (fun _ => True) (fun _ => False) (by rfl) (by rfl) ?aP (fun _ hk => hk.elim) (fun _ _ => trivial) hRd.out hSd.out.below hSd.out.size hl8.out ?_; (case aP => exact k46_mkM _ _ _ _); intro v2 w10 hR10 hb10 hg10 hat10; obtain ⟨B2, d2, ev2, hd2, _⟩ := Kd.R_reads hR10; rw [hn2.out] at ev2; subst ev2; rw [← hn2.out] at hR10; rw [← hn1.out] at hg10; have hr10 := (hg10.block b5 (lt_row hSd.out.row) (fun e => Kd.R_ne hSd.out.rt hSd.out.row (by decide) e)).trans hSd.out.row; have s10 := (cell_row hr10 1).trans (rfl : _ = some (Value.slice B1 us.length d1)); have s11 : w10.frozen? ⟨b5, 1, none⟩ = false := frozen_row hr10 1; replace hR10 := Aside0.mk hR10; replace hb10 := Aside0.mk hb10; replace hg10 := Aside0.mk hg10; replace hat10 := Aside0.mk hat10; replace hr10 := Aside0.mk hr10))
          all_goals go_wp2_with fail
          all_goals go_roundw
          all_goals try (case measure => show m - ((k : Int) + 1).toNat < m - (k : Int).toNat; omega)
          all_goals
            refine ⟨k + 1, B2, d2, us ++ [x1], by simp, by omega, hus', ⟨?_⟩, ⟨?_⟩, ⟨?_⟩⟩
            · rw [← hn2.out]; exact hSd.out.pushT hR10.out hb10.out hg10.out
            · exact hSd.out.keepT hg10.out k2r.out h25.out
            · exact hSd.out.keepT hg10.out k4r.out h45.out
        · obtain rfl : m = k := by omega
          have husA : Aside0 (us = rot ts by_) := ⟨by rw [hus.out, List.take_of_length_le (by rw [rot_len, hlm.out]; exact Nat.le_refl _)]⟩
          have d0r := (cell_row hSr.out.row 0).trans (rfl : _ = some (Value.slice A1 gs.length c1))
          have d1r := (cell_row hSr.out.row 1).trans (rfl : _ = some (Value.slice B1 us.length d1))
          clear hus
          go_wp2_with (first
            | ((with_reducible refine gate_op (.load 25 (.tmp 5)) rfl ?_); refine wpList_load_midB rfl _ _ rfl ⟨b5, 0, none⟩ rfl [.slice A1 gs.length c1, .slice B1 us.length d1] _ (two_cells d0r d1r) Try.underlying25 rfl info_S ?_)
            | ((with_reducible refine gate_op (.store 25 (.tmp 4) (.tmp 64)) rfl ?_); refine wpList_store_midB rfl _ _ _ rfl b4 0 [.slice A1 gs.length c1, .slice B1 us.length d1] rfl rfl 25 [.slice none 0 0, .slice none 0 0] k4r.out info_S (Nat.le_refl _) one2 ?_; have k7 := KeepF.setRow wr b4 (splice [Value.slice none 0 0, .slice none 0 0] 0 [.slice A1 gs.length c1, .slice B1 us.length d1]).toArray; have h7 := setRow_heap wr b4 _ (splice [Value.slice none 0 0, .slice none 0 0] 0 [.slice A1 gs.length c1, .slice B1 us.length d1]).toArray 25 _ k4r.out; rw [splice_all _ _ (by rfl)] at k7 h7; revert k7 h7; rw [splice_all _ _ (by rfl)]; generalize wr.setRow b4 _ = w7; intro k7 h7; replace k7 := Aside0.mk k7; replace h7 := Aside0.mk h7))
          obtain ⟨r1, r2, r3, r4, r5, r6⟩ := hSr.out.reads
          have hsz := hSr.out.size
          refine bodyPost_ret (results_cell_row rfl _ _ b4 _ _ _ _ rfl h7.out Try.underlying25 rfl ?hi) rfl ?_
          case hi => exact info_S
          have b7 : Below w.heap.size w w7 := hSr.out.below.trans (k7.out.to_below hsz (fun i hi => by rw [hi]; exact h4w.out))
          have g7 : kG.C w7 A1 gs.length gs := by
            have h9 : kG.R 41 w7 w.heap.size (fun _ => True) (.slice A1 gs.length c1) gs := R_keep hSr.out.rg k7.out k4r.out rfl (by decide)
            exact (Kd.R_reads' h9).2.2
          have g8 : kT.C w7 B1 us.length us := by
            have h9 : kT.R 46 w7 w.heap.size (fun _ => True) (.slice B1 us.length d1) us := R_keep hSr.out.rt k7.out k4r.out rfl (by decide)
            exact (Kd.R_reads' h9).2.2
          refine ⟨A1, c1, B1, d1, ?_, ?_, ?_, ?_, ?_, r6, b7⟩
          · rw [← hgsA.out, ← husA.out]
          · rw [← hgsA.out]; exact r2
          · rw [← husA.out]; exact r4
          · rw [← hgsA.out]; exact g7
          · rw [← husA.out]; exact g8
end Go.Proofs.Ytpnjhffnlafabaa.Sn
