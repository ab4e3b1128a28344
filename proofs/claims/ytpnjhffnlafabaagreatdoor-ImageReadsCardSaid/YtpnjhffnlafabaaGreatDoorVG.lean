/- The reference of law 13: where a group stands, its steps to the top, whether all come there, how tall it is: walked by hand. The reference of layer 12: a tree in memory, Has, Kids: walked by hand. The reference of law 13, plain: its steps, its whole and its tall are the program's where names are right. The reference of law 13, plain: the kids of a group, by ascending number. The reference of law 13, plain: the groups below one another, in the program's order; the tasks by choice, in the program's order. What is wrong with a scene, plain: as the reference asks it, one thing behind the other. The reference of law 13: its tree (of layer 12) of a scene's groups: walked by hand. The reference of layer 12: a group and all below it: walked by hand. -/
import Derived.Test.YtpnjhffnlafabaaGreatDoorVPr
import Derived.Test.YtpnjhffnlafabaaGreatDoorVHt
import Derived.Deep.AppendLies
namespace Go.Proofs.YtpnjhffnlafabaaGreatDoor.Sn
set_option linter.unusedVariables false
set_option linter.unusedSimpArgs false
open Go.RowKit Go.Sort Go.Shelf Go.Lib Go.Proofs.Bk Go.Proofs.Bm Go.Proofs.Op Go.Proofs.Sc Go.Proofs.Kf Go.Proofs.YtpnjhffnlafabaaGreatDoorW.PrintWords Go.Proofs.YtpnjhffnlafabaaGreatDoor.PImageBack
def gidx : List SG → Int → Option Nat
  | [], _ => none
  | x :: xs, id => if x.f0 = id then some 0 else (gidx xs id).map (· + 1)
def gint (xs : List SG) (id : Int) : Int := match gidx xs id with | some k => k | none => -1
theorem gidx_some : ∀ (xs : List SG) (id : Int) (k : Nat) (x : SG), xs[k]? = some x → x.f0 = id → (∀ y ∈ xs.take k, y.f0 ≠ id) → gidx xs id = some k
  | [], id, k, x, h, _, _ => by simp at h
  | z :: xs, id, 0, x, h, hx, _ => by
    simp at h; subst h
    unfold gidx; rw [if_pos hx]
  | z :: xs, id, k + 1, x, h, hx, hn => by
    unfold gidx
    rw [if_neg (hn z (by simp)), gidx_some xs id k x (by simpa using h) hx (fun y hy => hn y (by simp [hy]))]
    rfl
theorem gidx_none : ∀ (xs : List SG) (id : Int), (∀ y ∈ xs, y.f0 ≠ id) → gidx xs id = none
  | [], _, _ => rfl
  | z :: xs, id, h => by
    unfold gidx
    rw [if_neg (h z (by simp)), gidx_none xs id (fun y hy => h y (by simp [hy]))]
    rfl
theorem gidx_at : ∀ (xs : List SG) (id : Int) (k : Nat), gidx xs id = some k → ∃ x, xs[k]? = some x ∧ x.f0 = id
  | [], id, k, h => by cases h
  | z :: xs, id, k, h => by
    unfold gidx at h
    by_cases hz : z.f0 = id
    · rw [if_pos hz] at h; cases h; exact ⟨z, rfl, hz⟩
    · rw [if_neg hz] at h
      cases h1 : gidx xs id with
      | none => rw [h1] at h; cases h
      | some j =>
        rw [h1] at h; cases h
        obtain ⟨x, h2, h3⟩ := gidx_at xs id j h1
        exact ⟨x, by simpa using h2, h3⟩
def IntPost (r : Int) (w : World) (e : Ending) (w' : World) : Prop := e = .returned (.int .i64 r) ∧ Below w.heap.size w w'
set_option maxHeartbeats 4000000 in
set_option maxRecDepth 100000 in
theorem group_calls (A : Option Addr) (n c : Nat) (xs : List SG) (S2 : Value) (id : Int) (w : World) (hG : kG.C w A n xs) :
    Calls Tryz.prog 50 #[.agg #[.slice A n c, S2], .int .i64 id] w (IntPost (gint xs id) w) := by
  have hln := hG.1
  have hn63 := hG.2.1
  have HG := Aside0.mk hG
  clear hG
  replace hln := Aside0.mk hln
  go_enter Tryz.func50, Tryz.ntmps50
  go_wp2_with (((with_reducible refine gate_dst (N := 2) rfl ?_); refine box_event ?hg (N := 2) ?hd (cs := #[.slice A n c, S2]) (t := 25) ?hr ?_; (case hd => rfl); (case hg => rfl); (case hr => first | (go_simp; done) | (go_simp; rfl)); intro b1 hb1 w1 kb1 bb1; replace hb1 := Aside0.mk hb1; replace kb1 := Aside0.mk kb1; replace bb1 := Aside0.mk bb1); have hB1 := bb1; have c0 := (cell_row kb1.out 0).trans (rfl : _ = some (Value.slice A n c)))
  have HG1 := Aside0.mk (Kd.C_below HG.out hB1.out)
  go_loop [5] (fun iv => ∃ k : Nat, iv = .int .i64 k ∧ k ≤ n ∧ Aside0 (∀ y ∈ xs.take k, y.f0 ≠ id)) (fun iv => n - (intOf iv).toNat)
  case atStart => exact ⟨0, rfl, Nat.zero_le _, ⟨by simp⟩⟩
  case round =>
    obtain ⟨k, rfl, hk, hR⟩ := hrel
    by_cases hlt : k < n
    · have p1 : 0 ≤ (k : Int) := by omega
      have q1 : (k : Int) < (n : Int) := by omega
      obtain ⟨b, o, x, rfl, -, hx, t0, t1, t2, t3, t4, t5⟩ := G_one HG1.out hlt
      clear t1 t2 t3 t4 t5
      have hz : (x.f0 == id) = decide (x.f0 = id) := rfl
      replace hx := Aside0.mk hx
      by_cases h1 : x.f0 = id
      · have e0 : gint xs id = (k : Int) := by unfold gint; rw [gidx_some xs id k x hx.out h1 hR.out]
        rw [decide_eq_true h1] at hz
        replace h1 := Aside0.mk h1; replace e0 := Aside0.mk e0
        go_wp2_with fail
        go_ret
        exact ⟨by rw [e0.out]; rfl, hB1.out⟩
      · have e1 : ∀ y ∈ xs.take (k + 1), y.f0 ≠ id := by
          intro y hy
          rw [List.take_add_one, hx.out, List.mem_append] at hy
          rcases hy with hy | hy
          · exact hR.out y hy
          · simp at hy; subst hy; exact h1
        rw [decide_eq_false h1] at hz
        replace h1 := Aside0.mk h1; replace e1 := Aside0.mk e1
        go_wp2_with fail
        go_round
        case rel => exact ⟨k + 1, by simp, by omega, e1⟩
        case measure => show n - ((k : Int) + 1).toNat < n - (k : Int).toNat; omega
    · obtain rfl : n = k := by omega
      have e0 : gint xs id = -1 := by
        unfold gint
        rw [gidx_none xs id (by have := hR.out; rw [List.take_of_length_le (by rw [hln.out]; exact Nat.le_refl _)] at this; exact this)]
      replace e0 := Aside0.mk e0
      go_wp2_with fail
      go_ret
      exact ⟨by rw [e0.out]; rfl, hB1.out⟩
def rsteps (xs : List SG) : Nat → Nat → Nat → Int
  | 0, _, _ => -1
  | f + 1, k, j => match xs[j]? with
    | none => -1
    | some g => if g.f1 = 0 then (if j = 0 then (k : Int) else -1) else match gidx xs g.f1 with
      | none => -1
      | some j' => if xs.length < k + 1 then -1 else rsteps xs f (k + 1) j'
theorem gidx_lt {xs : List SG} {id : Int} {k : Nat} (h : gidx xs id = some k) : k < xs.length := by
  obtain ⟨x, hx, _⟩ := gidx_at xs id k h
  exact (List.getElem?_eq_some_iff.1 hx).1
set_option maxHeartbeats 4000000 in
set_option maxRecDepth 100000 in
theorem Steps_calls (A : Option Addr) (n c : Nat) (xs : List SG) (B : Option Addr) (m d : Nat) (i : Nat) (w : World) (hG : kG.C w A n xs) (hi : i < n) (hn : n < 17592186044416) :
    Calls Tryz.prog 87 #[.agg #[.slice A n c, .slice B m d], .int .i64 i] w (IntPost (rsteps xs (n + 1) 0 i) w) := by
  have hln := hG.1
  have hn63 := hG.2.1
  have HG := Aside0.mk hG
  clear hG
  obtain ⟨r, hr⟩ : ∃ r, rsteps xs (n + 1) 0 i = r := ⟨_, rfl⟩
  rw [hr]
  replace hln := Aside0.mk hln; replace hr := Aside0.mk hr
  go_enter Tryz.func87, Tryz.ntmps87
  go_wp2_with (((with_reducible refine gate_dst (N := 2) rfl ?_); refine box_event ?hg (N := 2) ?hd (cs := #[.slice A n c, .slice B m d]) (t := 25) ?hr ?_; (case hd => rfl); (case hg => rfl); (case hr => first | (go_simp; done) | (go_simp; rfl)); intro b1 hb1 w1 kb1 bb1; replace hb1 := Aside0.mk hb1; replace kb1 := Aside0.mk kb1; replace bb1 := Aside0.mk bb1); have hB1 := bb1; have c0 := (cell_row kb1.out 0).trans (rfl : _ = some (Value.slice A n c)); have c1 := (cell_row kb1.out 1).trans (rfl : _ = some (Value.slice B m d)); replace c0 := Aside0.mk c0; replace c1 := Aside0.mk c1)
  go_loopw [1, 5] (fun jv kv wr => ∃ j k : Nat, jv = .int .i64 j ∧ kv = .int .i64 k ∧ j < n ∧ k ≤ n ∧ Aside0 (rsteps xs (n + 1 - k) k j = r) ∧ Aside0 (Below w.heap.size w wr) ∧ Aside0 (wr.cell? ⟨b1, 0, none⟩ = some (Value.slice A n c)) ∧ Aside0 (wr.cell? ⟨b1, 1, none⟩ = some (Value.slice B m d))) (fun _ kv _ => n + 1 - (intOf kv).toNat)
  case atStart => exact ⟨i, 0, rfl, rfl, hi, Nat.zero_le _, ⟨hr.out⟩, hB1, c0, c1⟩
  case round =>
    obtain ⟨j, k, rfl, rfl, hj, hk, hR, hb, c0, c1⟩ := hrel
    have p1 : 0 ≤ (j : Int) := by omega
    have q1 : (j : Int) < (n : Int) := by omega
    have HG1 := Aside0.mk (Kd.C_below HG.out hb.out)
    obtain ⟨b, o, x, rfl, -, hx, t0, t1, t2, t3, t4, t5⟩ := G_one HG1.out hj
    clear t0 t2 t3 t4 t5
    replace c0 := c0.out
    replace c1 := c1.out
    have hz : (x.f1 != 0) = !decide (x.f1 = 0) := rfl
    have hR2 := hR.out
    rw [show n + 1 - k = (n - k) + 1 by omega] at hR2
    unfold rsteps at hR2
    rw [hx] at hR2
    simp only [] at hR2
    rw [hln.out] at hR2
    have kg := fun W (hW : Below w.heap.size w W) => group_calls _ n c xs (.slice B m d) x.f1 W (Kd.C_below HG.out hW)
    have hgi : ∀ q, gidx xs x.f1 = q → (gint xs x.f1 = match q with | some k => (k : Int) | none => -1) := fun q h => by unfold gint; rw [h]
    replace hx := Aside0.mk hx; replace hR := Aside0.mk hR
    by_cases h1 : x.f1 = 0
    · rw [decide_eq_true h1] at hz
      rw [if_pos h1] at hR2
      clear kg hgi
      replace h1 := Aside0.mk h1
      by_cases h2 : j = 0
      · rw [if_pos h2] at hR2
        subst h2
        replace hR2 := Aside0.mk hR2
        go_wp2_with fail
        go_ret
        exact ⟨by rw [← hR2.out]; rfl, hb.out⟩
      · rw [if_neg h2] at hR2
        replace hR2 := Aside0.mk hR2
        have h3 : (((j : Nat) : Int) != 0) = true := by simpa using h2
        go_wp2_with fail
        go_ret
        exact ⟨by rw [← hR2.out]; rfl, hb.out⟩
    · rw [decide_eq_false h1] at hz
      rw [if_neg h1] at hR2
      replace h1 := Aside0.mk h1
      have hbd := Aside0.mk hb.out.drew
      cases hg : gidx xs x.f1 with
      | none =>
        rw [hg] at hR2
        rw [hgi none hg] at kg
        clear hgi
        replace hR2 := Aside0.mk hR2; replace kg := Aside0.mk kg; replace hg := Aside0.mk hg
        go_wp2_with fail
        go_region_with (first
          | (go_at_call 50; (with_reducible refine (kg.out _ hbd.out).mono ?_); rintro e w4 ⟨rfl, hb4⟩; have hB4 := Aside0.mk (hbd.out.trans (hb4.mono hbd.out.size)); have s0 := pw_cell_below hb4 c0; have s1 := pw_cell_below hb4 c1; clear hb4)
          | ((with_reducible refine gate_op (.load 25 (.tmp 1)) rfl ?_); refine wpList_load_midB rfl _ _ rfl ⟨b1, 0, none⟩ rfl [.slice (some ⟨b, o, none⟩) n c, .slice B m d] _ (two_cells c0 c1) Tryz.underlying25 rfl info_S ?_))
        all_goals clear c0 c1
        all_goals go_wp2_with fail
        all_goals go_ret
        all_goals exact ⟨by rw [← hR2.out]; rfl, hB4.out⟩
      | some j' =>
        have hj' : j' < n := by have := gidx_lt hg; have := hln.out; omega
        rw [hg] at hR2
        rw [hgi (some j') hg] at kg
        simp only [] at kg hR2
        clear hgi
        have p2 : 0 ≤ (j' : Int) := by omega
        have q2 : (j' : Int) < (n : Int) := by omega
        by_cases h3 : n < k + 1
        · have h4 : (n : Int) < (k : Int) + 1 := by omega
          rw [if_pos h3] at hR2
          replace hR2 := Aside0.mk hR2; replace kg := Aside0.mk kg; replace hg := Aside0.mk hg
          clear h3
          go_wp2_with fail
          go_region_with (first
            | (go_at_call 50; (with_reducible refine (kg.out _ hbd.out).mono ?_); rintro e w4 ⟨rfl, hb4⟩; have hB4 := Aside0.mk (hbd.out.trans (hb4.mono hbd.out.size)); have s0 := pw_cell_below hb4 c0; have s1 := pw_cell_below hb4 c1; clear hb4)
            | ((with_reducible refine gate_op (.load 25 (.tmp 1)) rfl ?_); refine wpList_load_midB rfl _ _ rfl ⟨b1, 0, none⟩ rfl [.slice (some ⟨b, o, none⟩) n c, .slice B m d] _ (two_cells c0 c1) Tryz.underlying25 rfl info_S ?_))
          all_goals clear c0 c1
          all_goals go_wp2_with fail
          all_goals go_ret
          all_goals exact ⟨by rw [← hR2.out]; rfl, hB4.out⟩
        · have h4 : (k : Int) + 1 ≤ (n : Int) := by omega
          rw [if_neg h3] at hR2
          replace hR2 := Aside0.mk hR2; replace kg := Aside0.mk kg; replace hg := Aside0.mk hg
          go_wp2_with fail
          go_region_with (first
            | (go_at_call 50; (with_reducible refine (kg.out _ hbd.out).mono ?_); rintro e w4 ⟨rfl, hb4⟩; have hB4 := Aside0.mk (hbd.out.trans (hb4.mono hbd.out.size)); have s0 := pw_cell_below hb4 c0; have s1 := pw_cell_below hb4 c1; clear hb4)
            | ((with_reducible refine gate_op (.load 25 (.tmp 1)) rfl ?_); refine wpList_load_midB rfl _ _ rfl ⟨b1, 0, none⟩ rfl [.slice (some ⟨b, o, none⟩) n c, .slice B m d] _ (two_cells c0 c1) Tryz.underlying25 rfl info_S ?_))
          all_goals clear c0 c1
          all_goals go_wp2_with fail
          all_goals go_roundw
          all_goals first
            | (case rel => exact ⟨j', k + 1, rfl, by simp, hj', by omega, ⟨by rw [show n + 1 - (k + 1) = n - k by omega]; exact hR2.out⟩, hB4, ⟨s0⟩, ⟨s1⟩⟩)
            | (case measure => show n + 1 - ((k : Int) + 1).toNat < n + 1 - (k : Int).toNat; omega)
def rwhole (xs : List SG) : Bool := (List.range xs.length).all fun i => decide (0 ≤ rsteps xs (xs.length + 1) 0 i)
def rtall (xs : List SG) : Int := (List.range xs.length).foldl (fun t i => max t (rsteps xs (xs.length + 1) 0 i)) 0
set_option maxHeartbeats 4000000 in
set_option maxRecDepth 100000 in
theorem Whole_calls (A : Option Addr) (n c : Nat) (xs : List SG) (B : Option Addr) (m d : Nat) (w : World) (hG : kG.C w A n xs) (hn : n < 17592186044416) :
    Calls Tryz.prog 51 #[.agg #[.slice A n c, .slice B m d]] w (AnyPost (rwhole xs) w) := by
  have hln := hG.1
  have HG := Aside0.mk hG
  clear hG
  obtain ⟨r, hr⟩ : ∃ r, rwhole xs = r := ⟨_, rfl⟩
  rw [hr]
  unfold rwhole at hr
  rw [hln] at hr
  replace hln := Aside0.mk hln; replace hr := Aside0.mk hr
  go_enter Tryz.func51, Tryz.ntmps51
  go_wp2_with (((with_reducible refine gate_dst (N := 1) rfl ?_); refine box_event ?hg (N := 1) ?hd (cs := #[.slice A n c, .slice B m d]) (t := 25) ?hr ?_; (case hd => rfl); (case hg => rfl); (case hr => first | (go_simp; done) | (go_simp; rfl)); intro b1 hb1 w1 kb1 bb1; replace hb1 := Aside0.mk hb1; replace kb1 := Aside0.mk kb1; replace bb1 := Aside0.mk bb1); have hB1 := bb1; have c0 := (cell_row kb1.out 0).trans (rfl : _ = some (Value.slice A n c)); have c1 := (cell_row kb1.out 1).trans (rfl : _ = some (Value.slice B m d)); replace c0 := Aside0.mk c0; replace c1 := Aside0.mk c1)
  go_loopw [3] (fun iv wr => ∃ k : Nat, iv = .int .i64 k ∧ k ≤ n ∧ Aside0 ((List.range k).all (fun i => decide (0 ≤ rsteps xs (n + 1) 0 i)) = true) ∧ Aside0 (Below w.heap.size w wr) ∧ Aside0 (wr.cell? ⟨b1, 0, none⟩ = some (Value.slice A n c)) ∧ Aside0 (wr.cell? ⟨b1, 1, none⟩ = some (Value.slice B m d))) (fun iv _ => n - (intOf iv).toNat)
  case atStart => exact ⟨0, rfl, Nat.zero_le _, ⟨rfl⟩, hB1, c0, c1⟩
  case round =>
    obtain ⟨k, rfl, hk, hR, hb, c0, c1⟩ := hrel
    replace c0 := c0.out
    replace c1 := c1.out
    by_cases hlt : k < n
    · have kg := fun W (hW : Below w.heap.size w W) => Steps_calls A n c xs B m d k W (Kd.C_below HG.out hW) hlt hn
      have hbd := hb
      by_cases h0 : 0 ≤ rsteps xs (n + 1) 0 k
      · have e1 : (List.range (k + 1)).all (fun i => decide (0 ≤ rsteps xs (n + 1) 0 i)) = true := by
          rw [List.range_succ, List.all_append, hR.out]; simp [h0]
        generalize rsteps xs (n + 1) 0 k = st at kg h0
        replace e1 := Aside0.mk e1; replace kg := Aside0.mk kg
        go_wp2_with (first
          | (go_at_call 87; (with_reducible refine (kg.out _ hbd.out).mono ?_); rintro e w4 ⟨rfl, hb4⟩; have hB4 := Aside0.mk (hbd.out.trans (hb4.mono hbd.out.size)); have s0 := pw_cell_below hb4 c0; have s1 := pw_cell_below hb4 c1; clear hb4 c0 c1)
          | ((with_reducible refine gate_op (.load 25 (.tmp 1)) rfl ?_); refine wpList_load_midB rfl _ _ rfl ⟨b1, 0, none⟩ rfl [.slice A n c, .slice B m d] _ (two_cells c0 c1) Tryz.underlying25 rfl info_S ?_))
        go_roundw
        case rel => exact ⟨k + 1, by simp, by omega, e1, hB4, ⟨s0⟩, ⟨s1⟩⟩
        case measure => show n - ((k : Int) + 1).toNat < n - (k : Int).toNat; omega
      · have e1 : r = false := by
          rw [← hr.out]
          rw [← Bool.not_eq_true, List.all_eq_true]
          intro h
          exact h0 (of_decide_eq_true (h k (List.mem_range.2 hlt)))
        rw [e1]
        generalize rsteps xs (n + 1) 0 k = st at kg h0
        replace e1 := Aside0.mk e1; replace kg := Aside0.mk kg
        go_wp2_with (first
          | (go_at_call 87; (with_reducible refine (kg.out _ hbd.out).mono ?_); rintro e w4 ⟨rfl, hb4⟩; have hB4 := Aside0.mk (hbd.out.trans (hb4.mono hbd.out.size)); have s0 := pw_cell_below hb4 c0; have s1 := pw_cell_below hb4 c1; clear hb4 c0 c1)
          | ((with_reducible refine gate_op (.load 25 (.tmp 1)) rfl ?_); refine wpList_load_midB rfl _ _ rfl ⟨b1, 0, none⟩ rfl [.slice A n c, .slice B m d] _ (two_cells c0 c1) Tryz.underlying25 rfl info_S ?_))
        go_ret
        exact ⟨rfl, hB4.out⟩
    · obtain rfl : n = k := by omega
      have e1 : r = true := by rw [← hr.out]; exact hR.out
      replace e1 := Aside0.mk e1
      go_wp2_with fail
      go_ret
      exact ⟨by rw [e1.out]; rfl, hb.out⟩
set_option maxHeartbeats 4000000 in
set_option maxRecDepth 100000 in
theorem rTall_calls (A : Option Addr) (n c : Nat) (xs : List SG) (B : Option Addr) (m d : Nat) (w : World) (hG : kG.C w A n xs) (hn : n < 17592186044416) :
    Calls Tryz.prog 53 #[.agg #[.slice A n c, .slice B m d]] w (IntPost (rtall xs) w) := by
  have hln := hG.1
  have HG := Aside0.mk hG
  clear hG
  obtain ⟨r, hr⟩ : ∃ r, rtall xs = r := ⟨_, rfl⟩
  rw [hr]
  unfold rtall at hr
  rw [hln] at hr
  replace hln := Aside0.mk hln; replace hr := Aside0.mk hr
  go_enter Tryz.func53, Tryz.ntmps53
  go_wp2_with (((with_reducible refine gate_dst (N := 1) rfl ?_); refine box_event ?hg (N := 1) ?hd (cs := #[.slice A n c, .slice B m d]) (t := 25) ?hr ?_; (case hd => rfl); (case hg => rfl); (case hr => first | (go_simp; done) | (go_simp; rfl)); intro b1 hb1 w1 kb1 bb1; replace hb1 := Aside0.mk hb1; replace kb1 := Aside0.mk kb1; replace bb1 := Aside0.mk bb1); have hB1 := bb1; have c0 := (cell_row kb1.out 0).trans (rfl : _ = some (Value.slice A n c)); have c1 := (cell_row kb1.out 1).trans (rfl : _ = some (Value.slice B m d)); replace c0 := Aside0.mk c0; replace c1 := Aside0.mk c1)
  go_loopw [3, 4] (fun tv iv wr => ∃ (t : Int) (k : Nat), tv = .int .i64 t ∧ iv = .int .i64 k ∧ k ≤ n ∧ Aside0 ((List.range k).foldl (fun t i => max t (rsteps xs (n + 1) 0 i)) 0 = t) ∧ Aside0 (Below w.heap.size w wr) ∧ Aside0 (wr.cell? ⟨b1, 0, none⟩ = some (Value.slice A n c)) ∧ Aside0 (wr.cell? ⟨b1, 1, none⟩ = some (Value.slice B m d))) (fun _ iv _ => n - (intOf iv).toNat)
  case atStart => exact ⟨0, 0, rfl, rfl, Nat.zero_le _, ⟨rfl⟩, hB1, c0, c1⟩
  case round =>
    obtain ⟨t, k, rfl, rfl, hk, hR, hb, c0, c1⟩ := hrel
    replace c0 := c0.out
    replace c1 := c1.out
    by_cases hlt : k < n
    · have kg := fun W (hW : Below w.heap.size w W) => Steps_calls A n c xs B m d k W (Kd.C_below HG.out hW) hlt hn
      have hbd := hb
      have e1 : (List.range (k + 1)).foldl (fun t i => max t (rsteps xs (n + 1) 0 i)) 0 = max t (rsteps xs (n + 1) 0 k) := by
        rw [List.range_succ, List.foldl_append, hR.out]; rfl
      generalize rsteps xs (n + 1) 0 k = st at kg e1
      replace e1 := Aside0.mk e1; replace kg := Aside0.mk kg
      by_cases h0 : t < st
      all_goals go_wp2_with (first
        | (go_at_call 87; (with_reducible refine (kg.out _ hbd.out).mono ?_); rintro e w4 ⟨rfl, hb4⟩; have hB4 := Aside0.mk (hbd.out.trans (hb4.mono hbd.out.size)); have s0 := pw_cell_below hb4 c0; have s1 := pw_cell_below hb4 c1; clear hb4 c0 c1)
        | ((with_reducible refine gate_op (.load 25 (.tmp 1)) rfl ?_); refine wpList_load_midB rfl _ _ rfl ⟨b1, 0, none⟩ rfl [.slice A n c, .slice B m d] _ (two_cells c0 c1) Tryz.underlying25 rfl info_S ?_))
      all_goals go_roundw
      all_goals first
        | (case rel => exact ⟨_, k + 1, rfl, by simp, by omega, ⟨e1.out.trans (by omega)⟩, hB4, ⟨s0⟩, ⟨s1⟩⟩)
        | (case measure => show n - ((k : Int) + 1).toNat < n - (k : Int).toNat; omega)
    · obtain rfl : n = k := by omega
      have e1 : t = r := by rw [← hr.out]; exact hR.out.symm
      replace e1 := Aside0.mk e1
      go_wp2_with fail
      go_ret
      exact ⟨by rw [← e1.out]; rfl, hb.out⟩
set_option maxHeartbeats 4000000 in
set_option maxRecDepth 100000 in
theorem rIds_calls (A : Option Addr) (n c : Nat) (xs : List SG) (B : Option Addr) (m d : Nat) (ts : List ST) (w : World) (hG : kG.C w A n xs) (hc : n ≤ c) (hT : kT.C w B m ts) (hd : m ≤ d) (hn : n + m < 17592186044416) :
    Calls Tryz.prog 49 #[.agg #[.slice A n c, .slice B m d]] w (IdsPost (idsS xs ts) w) := by
  have hln := hG.1
  have hlm := hT.1
  have HG := Aside0.mk hG
  have HT := Aside0.mk hT
  clear hG hT
  replace hln := Aside0.mk hln; replace hlm := Aside0.mk hlm; replace hc := Aside0.mk hc; replace hd := Aside0.mk hd
  go_enter Tryz.func49, Tryz.ntmps49
  go_wp2_with (((with_reducible refine gate_dst (N := 1) rfl ?_); refine box_event ?hg (N := 1) ?hd (cs := #[.slice A n c, .slice B m d]) (t := 25) ?hr ?_; (case hd => rfl); (case hg => rfl); (case hr => first | (go_simp; done) | (go_simp; rfl)); intro b1 hb1 w1 kb1 bb1; replace hb1 := Aside0.mk hb1; replace kb1 := Aside0.mk kb1; replace bb1 := Aside0.mk bb1); have k1 := kb1; have hB1 := bb1)
  go_loopw [3, 4] (fun v3 iv wr => ∃ k : Nat, iv = .int .i64 k ∧ k ≤ n ∧ Aside0 ((Kd.int .i64).R 3 wr w.heap.size (fun _ => True) v3 ((xs.take k).map (·.f0))) ∧ Aside0 (Below w.heap.size w wr) ∧ Aside0 (wr.heap[b1]? = some (.cells #[.slice A n c, .slice B m d] 25 (0, 0)))) (fun _ iv _ => n - (intOf iv).toNat)
  case atStart => exact ⟨0, rfl, Nat.zero_le _, ⟨Kd.R_nil _ _ _ _ _⟩, hB1, k1⟩
  case round =>
    obtain ⟨k, rfl, hk, hR, hb, k1⟩ := hrel
    have c0 := (cell_row k1.out 0).trans (rfl : _ = some (Value.slice A n c))
    have c1 := (cell_row k1.out 1).trans (rfl : _ = some (Value.slice B m d))
    by_cases hlt : k < n
    · have p1 : 0 ≤ (k : Int) := by omega
      have q1 : (k : Int) < (n : Int) := by omega
      obtain ⟨b, o, x, rfl, -, hx, t0, t1, t2, t3, t4, t5⟩ := G_one (Kd.C_below HG.out hb.out) hlt
      have hl8 : (((xs.take k).map (·.f0)).length + 1) * 8 ≤ 140737488355328 := by
        have h1 := List.length_take_le k xs
        have := hln.out
        simp only [List.length_map, List.length_append]
        omega
      have hacc : (xs.take (k + 1)).map (·.f0) = (xs.take k).map (·.f0) ++ [x.f0] := by rw [List.take_add_one, hx]; simp
      replace hx := Aside0.mk hx; replace hl8 := Aside0.mk hl8; replace hacc := Aside0.mk hacc
      go_wp2_with (((with_reducible refine gate_builtin (b := .append) (xs := #[.tmp 13, .tmp 20]) rfl ?_); at_builtin; refine Kd.R_append (Kd.int .i64) (w0 := w) w.heap.size rfl (.tmp 13) (.tmp 20) 85 3 (.int .i64 0) 8 rfl Tryz.underlying85 info_intR rfl (by decide) (by omega) u3 ((xs.take k).map (·.f0)) x.f0 [.int .i64 x.f0] (fun _ => True) (fun _ => False) rfl rfl ?aP (fun _ hk => hk.elim) (fun _ _ => trivial) hR.out hb.out hb.out.size hl8.out ?_; (case aP => exact rfl); intro v4 w4 hR4 hb4 hg4 hat4; have k14 := (hg4.block b1 (lt_row k1.out) (fun e => Kd.R_ne hR.out k1.out (by decide) e)).trans k1.out; clear hat4; replace hR4 := Aside0.mk hR4; replace hb4 := Aside0.mk hb4; replace hg4 := Aside0.mk hg4; replace k14 := Aside0.mk k14))
      go_roundw
      case rel => exact ⟨k + 1, by simp, by omega, ⟨by rw [hacc.out]; exact hR4.out⟩, hb4, k14⟩
      case measure => show n - ((k : Int) + 1).toNat < n - (k : Int).toNat; omega
    · obtain rfl : n = k := by omega
      have e0 : (xs.take n).map (·.f0) = xs.map (·.f0) := by rw [List.take_of_length_le (by rw [hln.out]; exact Nat.le_refl _)]
      rw [e0] at hR
      go_wp2_with fail
      go_loopw [3, 5] (fun v3 iv wr => ∃ k : Nat, iv = .int .i64 k ∧ k ≤ m ∧ Aside0 ((Kd.int .i64).R 3 wr w.heap.size (fun _ => True) v3 (xs.map (·.f0) ++ (ts.take k).map (·.f0))) ∧ Aside0 (Below w.heap.size w wr) ∧ Aside0 (wr.heap[b1]? = some (.cells #[.slice A n c, .slice B m d] 25 (0, 0)))) (fun _ iv _ => m - (intOf iv).toNat)
      case atStart => exact ⟨0, rfl, Nat.zero_le _, ⟨by simpa using hR.out⟩, hb, k1⟩
      case round =>
        obtain ⟨k, rfl, hk, hR, hb, k1⟩ := hrel
        have c1 := (cell_row k1.out 1).trans (rfl : _ = some (Value.slice B m d))
        by_cases hlt : k < m
        · have p1 : 0 ≤ (k : Int) := by omega
          have q1 : (k : Int) < (m : Int) := by omega
          obtain ⟨b, o, x, rfl, -, hx, t0, t1, t2, t3, t4, t5, t6, t7⟩ := T_one (Kd.C_below HT.out hb.out) hlt
          have hl8 : ((xs.map (·.f0) ++ (ts.take k).map (·.f0)).length + 1) * 8 ≤ 140737488355328 := by
            have h1 := List.length_take_le k ts
            have := hln.out
            simp only [List.length_map, List.length_append]
            omega
          have hacc : xs.map (·.f0) ++ (ts.take (k + 1)).map (·.f0) = xs.map (·.f0) ++ (ts.take k).map (·.f0) ++ [x.f0] := by rw [List.take_add_one, hx]; simp
          replace hx := Aside0.mk hx; replace hl8 := Aside0.mk hl8; replace hacc := Aside0.mk hacc
          go_wp2_with (((with_reducible refine gate_builtin (b := .append) (xs := #[.tmp 29, .tmp 36]) rfl ?_); at_builtin; refine Kd.R_append (Kd.int .i64) (w0 := w) w.heap.size rfl (.tmp 29) (.tmp 36) 85 3 (.int .i64 0) 8 rfl Tryz.underlying85 info_intR rfl (by decide) (by omega) u3 (xs.map (·.f0) ++ (ts.take k).map (·.f0)) x.f0 [.int .i64 x.f0] (fun _ => True) (fun _ => False) rfl rfl ?aP (fun _ hk => hk.elim) (fun _ _ => trivial) hR.out hb.out hb.out.size hl8.out ?_; (case aP => exact rfl); intro v4 w4 hR4 hb4 hg4 hat4; have k14 := (hg4.block b1 (lt_row k1.out) (fun e => Kd.R_ne hR.out k1.out (by decide) e)).trans k1.out; clear hat4; replace hR4 := Aside0.mk hR4; replace hb4 := Aside0.mk hb4; replace hg4 := Aside0.mk hg4; replace k14 := Aside0.mk k14))
          go_roundw
          case rel => exact ⟨k + 1, by simp, by omega, ⟨by rw [hacc.out]; exact hR4.out⟩, hb4, k14⟩
          case measure => show m - ((k : Int) + 1).toNat < m - (k : Int).toNat; omega
        · obtain rfl : m = k := by omega
          have e1 : xs.map (·.f0) ++ (ts.take m).map (·.f0) = idsS xs ts := by unfold idsS; rw [List.take_of_length_le (by rw [hlm.out]; exact Nat.le_refl _)]
          have hR' := Aside0.mk (e1 ▸ hR.out)
          go_wp2_with fail
          go_ret
          exact ⟨_, rfl, hR'.out, hb.out⟩
end Go.Proofs.YtpnjhffnlafabaaGreatDoor.Sn
namespace Go.Proofs.YtpnjhffnlafabaaGreatDoor.Sn
set_option linter.unusedVariables false
set_option linter.unusedSimpArgs false
open Go.RowKit Go.Sort Go.Shelf Go.Lib Go.Proofs.Bk Go.Proofs.Bm Go.Proofs.Op Go.Proofs.Sc Go.Proofs.Kf Go.Proofs.YtpnjhffnlafabaaGreatDoorW.PrintWords Go.Proofs.YtpnjhffnlafabaaGreatDoor.PImageBack
abbrev SP := S139
abbrev kP : Kd SP := k139
instance : Inhabited SP := ⟨z139⟩
theorem P_one {A : Option Addr} {n : Nat} {ts : List SP} {w : World} (h : kP.C w A n ts) {k : Nat} (hk : k < n) :
    ∃ b o x, A = some ⟨b, o, none⟩ ∧ b < w.heap.size ∧ ts[k]? = some x ∧ w.cell? ⟨b, o + k * 2, none⟩ = some (.int .i64 x.f0) ∧ w.cell? ⟨b, o + k * 2 + 1, none⟩ = some (.int .i64 x.f1) := by
  obtain ⟨b, o, h1, h2, h3⟩ := C_at h (by omega) (by decide)
  have hl : k < ts.length := by have := h.1; omega
  have hx := List.getElem?_eq_getElem hl
  obtain ⟨c, _, q2, q3⟩ := h3 k _ hx
  obtain rfl := k139_open q2
  exact ⟨b, o, ts[k], h1, h2, hx, q3 0 _ rfl, q3 1 _ rfl⟩
structure IsTree (w : World) (g : Nat) (P : Option Addr) (c : Nat) (ps : List SP) : Prop where
  cell : w.cell? ⟨g, 0, none⟩ = some (.slice P ps.length c)
  row : kP.C w P ps.length ps
theorem IsTree.below {w w' : World} {g c : Nat} {P : Option Addr} {ps : List SP} (h : IsTree w g P c ps) {b : Nat} (hb : Below b w w') (hs : w.heap.size ≤ b) : IsTree w' g P c ps :=
  ⟨pw_cell_below (hb.mono hs) h.cell, Kd.C_below h.row (hb.mono hs)⟩
def rhas (ps : List SP) (id : Int) : Bool := ps.any (fun p => decide (p.f0 = id)) || decide (id = 0)
set_option maxHeartbeats 4000000 in
set_option maxRecDepth 100000 in
theorem Has_calls (g : Nat) (P : Option Addr) (c : Nat) (ps : List SP) (id : Int) (w : World) (hT : IsTree w g P c ps) :
    Calls Tryz.prog 103 #[.pointer (some ⟨g, 0, none⟩), .int .i64 id] w (PurePost (.bool (rhas ps id)) w) := by
  obtain ⟨n, hn⟩ : ∃ n, ps.length = n := ⟨_, rfl⟩
  have c0 := hT.cell
  have HP := hT.row
  rw [hn] at c0 HP
  have hn63 := HP.2.1
  clear hT
  replace HP := Aside0.mk HP; replace hn := Aside0.mk hn
  go_enter Tryz.func103, Tryz.ntmps103
  go_wp2_with fail
  go_loop [5] (fun iv => ∃ k : Nat, iv = .int .i64 k ∧ k ≤ n ∧ Aside0 ((ps.take k).any (fun p => decide (p.f0 = id)) = false)) (fun iv => n - (intOf iv).toNat)
  case atStart => exact ⟨0, rfl, Nat.zero_le _, ⟨rfl⟩⟩
  case round =>
    obtain ⟨k, rfl, hk, hR⟩ := hrel
    by_cases hlt : k < n
    · have p1 : 0 ≤ (k : Int) := by omega
      have q1 : (k : Int) < (n : Int) := by omega
      obtain ⟨b, o, x, rfl, -, hx, t0, t1⟩ := P_one HP.out hlt
      clear t1
      have hz : (x.f0 == id) = decide (x.f0 = id) := rfl
      replace hx := Aside0.mk hx
      by_cases h1 : x.f0 = id
      · have e0 : rhas ps id = true := by unfold rhas; rw [List.any_eq_true.2 ⟨x, List.mem_of_getElem? hx.out, decide_eq_true h1⟩]; rfl
        rw [decide_eq_true h1] at hz
        replace h1 := Aside0.mk h1; replace e0 := Aside0.mk e0
        go_wp2_with fail
        go_ret
        exact ⟨by rw [e0.out]; rfl, rfl⟩
      · have e1 : (ps.take (k + 1)).any (fun p => decide (p.f0 = id)) = false := by
          rw [List.take_add_one, hx.out, List.any_append, hR.out]; simp [h1]
        rw [decide_eq_false h1] at hz
        replace h1 := Aside0.mk h1; replace e1 := Aside0.mk e1
        go_wp2_with fail
        go_round
        case rel => exact ⟨k + 1, by simp, by omega, e1⟩
        case measure => show n - ((k : Int) + 1).toNat < n - (k : Int).toNat; omega
    · obtain rfl : n = k := by omega
      have e0 : rhas ps id = (id == 0) := by
        unfold rhas
        have := hR.out
        rw [List.take_of_length_le (by rw [hn.out]; exact Nat.le_refl _)] at this
        rw [this]; rfl
      replace e0 := Aside0.mk e0
      go_wp2_with fail
      go_ret
      exact ⟨by rw [e0.out]; rfl, rfl⟩
def rnextF (id last nx : Int) (p : SP) : Int := if p.f1 = id ∧ last < p.f0 ∧ (nx = 0 ∨ p.f0 < nx) then p.f0 else nx
def rnext (ps : List SP) (id last : Int) : Int := ps.foldl (rnextF id last) 0
def rkids (ps : List SP) (id : Int) : Nat → Int → List Int
  | 0, _ => []
  | f + 1, last => if rnext ps id last = 0 ∨ rhas ps id = false then [] else rnext ps id last :: rkids ps id f (rnext ps id last)
def above (ps : List SP) (last : Int) : Nat := (ps.filter fun p => decide (last < p.f0)).length
theorem rnext_fold (id last : Int) : ∀ (ps : List SP) (nx : Int), ps.foldl (rnextF id last) nx = nx ∨ ∃ p ∈ ps, last < p.f0 ∧ ps.foldl (rnextF id last) nx = p.f0
  | [], nx => .inl rfl
  | p :: ps, nx => by
    rw [List.foldl_cons]
    rcases rnext_fold id last ps (rnextF id last nx p) with h | ⟨q, hq, h1, h2⟩
    · rw [h]
      unfold rnextF
      split
      · rename_i hc; exact .inr ⟨p, by simp, hc.2.1, rfl⟩
      · exact .inl rfl
    · exact .inr ⟨q, by simp [hq], h1, h2⟩
theorem rnext_mem {ps : List SP} {id last : Int} (h : rnext ps id last ≠ 0) : ∃ p ∈ ps, last < p.f0 ∧ rnext ps id last = p.f0 := by
  rcases rnext_fold id last ps 0 with h1 | h1
  · exact absurd h1 h
  · exact h1
theorem above_le (ps : List SP) (last : Int) : above ps last ≤ ps.length := List.length_filter_le _ _
theorem above_lt {ps : List SP} {last : Int} {p : SP} (hp : p ∈ ps) (h : last < p.f0) : above ps p.f0 < above ps last := by
  unfold above
  induction ps with
  | nil => cases hp
  | cons q qs ih =>
    rw [List.filter_cons, List.filter_cons]
    have hle : (qs.filter fun x => decide (p.f0 < x.f0)).length ≤ (qs.filter fun x => decide (last < x.f0)).length := by
      clear ih hp
      induction qs with
      | nil => exact Nat.le_refl _
      | cons z zs ih =>
        rw [List.filter_cons, List.filter_cons]
        by_cases h1 : p.f0 < z.f0
        · rw [if_pos (by simpa using h1), if_pos (by simp; omega)]; simp; exact ih
        · rw [if_neg (by simpa using h1)]
          split
          · simp; omega
          · exact ih
    rcases List.mem_cons.1 hp with rfl | hq
    · rw [if_neg (by simp), if_pos (by simpa using h)]
      simp; omega
    · have := ih hq
      by_cases h1 : p.f0 < q.f0
      · rw [if_pos (by simpa using h1), if_pos (by simp; omega)]; simp; exact this
      · rw [if_neg (by simpa using h1)]
        split
        · simp; omega
        · exact this
theorem szP2 : (Tryz.prog.info? 139).map (·.size) = some 2 := by kernel_rfl
theorem oneP2 {a b : Int} : ∀ v ∈ ([.int .i64 a, .int .i64 b] : List Value), v.oneCell' = true := by
  intro v hv; simp at hv; rcases hv with rfl | rfl <;> rfl
set_option maxHeartbeats 4000000 in
set_option maxRecDepth 100000 in
theorem Kids_calls (g : Nat) (P : Option Addr) (c : Nat) (ps : List SP) (id : Int) (w : World) (hT : IsTree w g P c ps) (hlen : ps.length < 17592186044416) :
    Calls Tryz.prog 104 #[.pointer (some ⟨g, 0, none⟩), .int .i64 id] w (IdsPost (rkids ps id (ps.length + 1) 0) w) := by
  obtain ⟨n, hn⟩ : ∃ n, ps.length = n := ⟨_, rfl⟩
  have c0 := hT.cell
  have HP := hT.row
  have HT := Aside0.mk hT
  have hgw : g < w.heap.size := (spot_none c0).2
  rw [hn] at c0 HP hlen
  clear hT
  obtain ⟨L, hL⟩ : ∃ L, rkids ps id (ps.length + 1) 0 = L := ⟨_, rfl⟩
  rw [hL]
  have hcW : ∀ W, Below w.heap.size w W → W.cell? ⟨g, 0, none⟩ = some (.slice P n c) := fun W hW => pw_cell_below hW c0
  clear c0
  replace HP := Aside0.mk HP; replace hn := Aside0.mk hn; replace hL := Aside0.mk hL; replace hgw := Aside0.mk hgw; replace hcW := Aside0.mk hcW
  go_enter Tryz.func104, Tryz.ntmps104
  go_wp2_with fail
  go_loopw [5, 6] (fun v5 lv wr => ∃ (L0 : List Int) (last : Int) (f : Nat), lv = .int .i64 last ∧ Aside0 (above ps last < f) ∧ Aside0 (L0 ++ rkids ps id f last = L) ∧ Aside0 (L0.length + above ps last ≤ n) ∧ Aside0 ((Kd.int .i64).R 3 wr w.heap.size (fun _ => True) v5 L0) ∧ Aside0 (Below w.heap.size w wr)) (fun _ lv _ => above ps (intOf lv))
  case atStart => exact ⟨[], 0, n + 1, rfl, ⟨by have := above_le ps 0; have := hn.out; omega⟩, ⟨by rw [List.nil_append, ← hL.out, hn.out]⟩, ⟨by have := above_le ps 0; have := hn.out; simp; omega⟩, ⟨Kd.R_nil _ _ _ _ _⟩, ⟨Below.refl _ _⟩⟩
  case round =>
    obtain ⟨L0, last, f, rfl, hf, hLf, hL0, hR, hb⟩ := hrel
    go_wp2_with fail
    go_loopw [7, 8] (fun nv iv wt => ∃ (nx : Int) (k : Nat), nv = .int .i64 nx ∧ iv = .int .i64 k ∧ k ≤ n ∧ Aside0 ((ps.take k).foldl (rnextF id last) 0 = nx) ∧ Aside0 ((Kd.int .i64).R 3 wt w.heap.size (fun _ => True) u5 L0) ∧ Aside0 (Below w.heap.size w wt)) (fun _ iv _ => n - (intOf iv).toNat)
    case atStart => exact ⟨0, 0, rfl, rfl, Nat.zero_le _, ⟨rfl⟩, hR, hb⟩
    case round =>
      obtain ⟨nx, k, rfl, rfl, hk, hnx, hR1, hb1⟩ := hrel
      have c0 := hcW.out _ hb1.out
      by_cases hlt : k < n
      · have p1 : 0 ≤ (k : Int) := by omega
        have q1 : (k : Int) < (n : Int) := by omega
        obtain ⟨b, o, x, rfl, -, hx, t0, t1⟩ := P_one (Kd.C_below HP.out hb1.out) hlt
        have e1 : (ps.take (k + 1)).foldl (rnextF id last) 0 = rnextF id last nx x := by
          rw [List.take_add_one, hx, List.foldl_append, hnx.out]; rfl
        have hz1 : (x.f1 == id) = decide (x.f1 = id) := rfl
        have hz2 : (nx == 0) = decide (nx = 0) := rfl
        have ht : ∀ r : Int, rnextF id last nx x = r → (ps.take (k + 1)).foldl (rnextF id last) 0 = r := fun r h => e1.trans h
        clear e1
        replace hx := Aside0.mk hx; replace ht := Aside0.mk ht
        by_cases h1 : x.f1 = id
        case' neg => rw [decide_eq_false h1] at hz1
        case' pos =>
          rw [decide_eq_true h1] at hz1
          by_cases h2 : last < x.f0
          case' pos =>
            by_cases h3 : nx = 0
            case' pos => rw [decide_eq_true h3] at hz2
            case' neg =>
              rw [decide_eq_false h3] at hz2
              by_cases h4 : x.f0 < nx
        all_goals first
          | (have e2 : rnextF id last nx x = x.f0 := by unfold rnextF; rw [if_pos (by omega)]
             replace e2 := Aside0.mk (ht.out _ e2))
          | (have e2 : rnextF id last nx x = nx := by unfold rnextF; rw [if_neg (by omega)]
             replace e2 := Aside0.mk (ht.out _ e2))
        all_goals try replace h1 := Aside0.mk h1
        all_goals try replace h3 := Aside0.mk h3
        all_goals go_wp2_with (first
          | (((with_reducible refine gate_dst (N := 9) rfl ?_); refine box_event ?hg (N := 9) ?hd (cs := #[.int .i64 0, .int .i64 0]) (t := 139) ?hr ?_; (case hd => rfl); (case hg => rfl); (case hr => first | (go_simp; done) | (go_simp; rfl)); intro gb hgb w2 kgb bgb; replace hgb := Aside0.mk hgb; replace kgb := Aside0.mk kgb; replace bgb := Aside0.mk bgb))
          | (((with_reducible refine gate_op (.store 139 (.tmp 9) (.tmp 25)) rfl ?_); refine wpList_store_midB rfl _ _ _ rfl gb 0 [.int .i64 x.f0, .int .i64 x.f1] rfl rfl 139 [.int .i64 0, .int .i64 0] kgb.out szP2 (Nat.le_refl _) oneP2 ?_; obtain ⟨kk, bb⟩ := boxed (cs := [.int .i64 0, .int .i64 0]) (cs2 := [.int .i64 x.f0, .int .i64 x.f1]) hgb.out kgb.out bgb.out rfl; revert kk bb; generalize World.setRow _ gb (splice [.int .i64 0, .int .i64 0] 0 [.int .i64 x.f0, .int .i64 x.f1]).toArray = w3; clear kgb bgb; intro kgb bgb; replace kgb := Aside0.mk kgb; replace bgb := Aside0.mk bgb); have hR3 := Aside0.mk (Kd.R_below hR1.out bgb.out); have hb3 := Aside0.mk (hb1.out.trans (bgb.out.mono hb1.out.size)); have g0 := (cell_row kgb.out 0).trans (rfl : _ = some (Value.int .i64 x.f0)); have g1 := (cell_row kgb.out 1).trans (rfl : _ = some (Value.int .i64 x.f1))))
        all_goals go_roundw
        all_goals first
          | (case rel => exact ⟨_, k + 1, rfl, by simp, by omega, e2, hR3, hb3⟩)
          | (case measure => show n - ((k : Int) + 1).toNat < n - (k : Int).toNat; omega)
      · obtain rfl : n = k := by omega
        have hnx2 : rnext ps id last = nx := by
          have := hnx.out
          rw [List.take_of_length_le (by rw [hn.out]; exact Nat.le_refl _)] at this
          exact this
        clear hnx hR hb
        obtain ⟨f', rfl⟩ : ∃ f', f = f' + 1 := ⟨f - 1, by have := hf.out; omega⟩
        have hstep : rkids ps id (f' + 1) last = if nx = 0 ∨ rhas ps id = false then [] else nx :: rkids ps id f' nx := by rw [← hnx2]; rfl
        have hz2 : (nx == 0) = decide (nx = 0) := rfl
        have hTt := HT.out.below hb1.out (Nat.le_refl _)
        have kh := Has_calls g P c ps id _ hTt
        clear hTt
        by_cases h0 : nx = 0
        · have hend : L0 = L := by
            have := hLf.out
            rw [hstep, if_pos (.inl h0), List.append_nil] at this
            exact this
          rw [decide_eq_true h0] at hz2
          clear hstep kh hnx2
          replace h0 := Aside0.mk h0
          replace hend := Aside0.mk hend
          go_wp2_with fail
          go_ret
          exact ⟨_, rfl, by rw [← hend.out]; exact hR1.out, hb1.out⟩
        · rw [decide_eq_false h0] at hz2
          have hab : above ps nx < above ps last := by
            obtain ⟨p, hp, h1, h2⟩ := rnext_mem (ps := ps) (id := id) (last := last) (by rw [hnx2]; exact h0)
            rw [hnx2] at h2
            rw [h2]
            exact above_lt hp h1
          obtain ⟨bh, hbh⟩ : ∃ bh, rhas ps id = bh := ⟨_, rfl⟩
          rw [hbh] at hstep kh
          have hl8 : (L0.length + 1) * 8 ≤ 140737488355328 := by have := hL0.out; omega
          cases bh
          · have hend : L0 = L := by
              have := hLf.out
              rw [hstep, if_pos (.inr rfl), List.append_nil] at this
              exact this
            clear hstep hnx2
            replace h0 := Aside0.mk h0; replace hend := Aside0.mk hend; replace kh := Aside0.mk kh; replace hab := Aside0.mk hab; replace hbh := Aside0.mk hbh; replace hl8 := Aside0.mk hl8
            go_wp2_with (go_at_call 103; (with_reducible refine kh.out.mono ?_); rintro e w' ⟨rfl, rfl⟩)
            go_ret
            exact ⟨_, rfl, by rw [← hend.out]; exact hR1.out, hb1.out⟩
          · have hrest : (L0 ++ [nx]) ++ rkids ps id f' nx = L := by
              have := hLf.out
              rw [hstep, if_neg (by simp [h0])] at this
              rw [List.append_assoc]; exact this
            clear hstep hnx2
            replace h0 := Aside0.mk h0; replace hrest := Aside0.mk hrest; replace kh := Aside0.mk kh; replace hab := Aside0.mk hab; replace hbh := Aside0.mk hbh; replace hl8 := Aside0.mk hl8
            go_wp2_with (first
              | (go_at_call 103; (with_reducible refine kh.out.mono ?_); rintro e w' ⟨rfl, rfl⟩)
              | ((with_reducible refine gate_builtin (b := .append) (xs := #[.tmp 57, .tmp 59]) rfl ?_); at_builtin; refine Kd.R_append (Kd.int .i64) (w0 := w) w.heap.size rfl (.tmp 57) (.tmp 59) 85 3 (.int .i64 0) 8 rfl Tryz.underlying85 info_intR rfl (by decide) (by omega) u5 L0 nx [.int .i64 nx] (fun _ => True) (fun _ => False) rfl rfl ?aP (fun _ hk => hk.elim) (fun _ _ => trivial) hR1.out hb1.out hb1.out.size hl8.out ?_; (case aP => exact rfl); intro v4 w4 hR4 hb4 hg4 hat4; clear hat4 hg4; replace hR4 := Aside0.mk hR4; replace hb4 := Aside0.mk hb4))
            go_roundw
            case rel => exact ⟨L0 ++ [nx], nx, f', rfl, ⟨by have := hf.out; have := hab.out; omega⟩, hrest, ⟨by have := hL0.out; have := hab.out; simp; omega⟩, hR4, hb4⟩
            case measure => exact hab.out
end Go.Proofs.YtpnjhffnlafabaaGreatDoor.Sn
namespace Go.Proofs.YtpnjhffnlafabaaGreatDoor.Sn
set_option linter.unusedVariables false
set_option linter.unusedSimpArgs false
open Go.RowKit Go.Proofs.Bm Go.Proofs.Sc Go.Proofs.YtpnjhffnlafabaaGreatDoor.PImageBack
structure Named (xs : List SG) : Prop where
  nd : (gids (xs.map gOf)).Nodup
  ne : ∀ x ∈ xs, x.f0 ≠ 0
  par : ∀ x ∈ xs, x.f1 ≠ 0 → x.f1 ∈ gids (xs.map gOf)
theorem gids_map (xs : List SG) : gids (xs.map gOf) = xs.map (·.f0) := by unfold gids; rw [List.map_map]; rfl
theorem gidx_is {xs : List SG} {id : Int} (h : id ∈ gids (xs.map gOf)) : ∃ j, gidx xs id = some j := by
  rw [gids_map] at h
  cases h1 : gidx xs id with
  | some j => exact ⟨j, rfl⟩
  | none =>
    exfalso
    induction xs with
    | nil => cases h
    | cons z zs ih =>
      unfold gidx at h1
      by_cases hz : z.f0 = id
      · rw [if_pos hz] at h1; cases h1
      · rw [if_neg hz] at h1
        rcases List.mem_cons.1 h with h | h
        · exact hz h.symm
        · cases h2 : gidx zs id with
          | none => exact ih h h2
          | some j => rw [h2] at h1; cases h1
theorem gidx_not {xs : List SG} {id : Int} (h : id ∉ gids (xs.map gOf)) : gidx xs id = none :=
  gidx_none xs id fun y hy e => h (by rw [gids_map]; exact List.mem_map.2 ⟨y, hy, e⟩)
theorem Named.upE {xs : List SG} (h : Named xs) {x : SG} (hx : x ∈ xs) : up (xs.map gOf) x.f0 = x.f1 :=
  up_mem h.nd (g := gOf x) (List.mem_map.2 ⟨x, hx, rfl⟩)
theorem Named.inj {xs : List SG} (h : Named xs) {i j : Nat} {x y : SG} (hi : xs[i]? = some x) (hj : xs[j]? = some y) (e : x.f0 = y.f0) : i = j := by
  have hn := h.nd
  rw [gids_map] at hn
  have h1 : (xs.map (·.f0))[i]? = some x.f0 := by rw [List.getElem?_map, hi]; rfl
  have h2 : (xs.map (·.f0))[j]? = some x.f0 := by rw [List.getElem?_map, hj, e]; rfl
  obtain ⟨q1, r1⟩ := List.getElem?_eq_some_iff.1 h1
  obtain ⟨q2, r2⟩ := List.getElem?_eq_some_iff.1 h2
  exact (List.getElem_inj hn).1 (r1.trans r2.symm)
theorem Named.rstepsE {xs : List SG} (h : Named xs) : ∀ (f k j : Nat) (x : SG), xs[j]? = some x → k + f = xs.length + 1 → 0 < f →
    rsteps xs f k j = if (xs.length < k + (climb (up (xs.map gOf)) f x.f0).1) ∨ (climb (up (xs.map gOf)) f x.f0).2 ≠ headId (xs.map gOf) then -1 else ((k + (climb (up (xs.map gOf)) f x.f0).1 : Nat) : Int)
  | 0, _, _, _, _, _, hf => absurd hf (Nat.lt_irrefl 0)
  | f + 1, k, j, x, hx, hk, _ => by
    have hm := List.mem_of_getElem? hx
    have hu := h.upE hm
    unfold rsteps climb
    rw [hx, hu]
    simp only []
    by_cases h1 : x.f1 = 0
    · rw [if_pos h1, if_pos h1]
      simp only []
      have hh : x.f0 = headId (xs.map gOf) ↔ j = 0 := by
        cases xs with
        | nil => cases hm
        | cons z zs =>
          show x.f0 = z.f0 ↔ j = 0
          constructor
          · intro e; exact h.inj hx (show (z :: zs)[0]? = some z from rfl) e
          · intro e; subst e; simp at hx; rw [hx]
      by_cases hj : j = 0
      · rw [if_pos hj, if_neg]
        · rfl
        · rintro (h2 | h2)
          · omega
          · exact h2 (hh.2 hj)
      · rw [if_neg hj, if_pos (.inr (fun e => hj (hh.1 e)))]
    · rw [if_neg h1, if_neg h1]
      simp only []
      obtain ⟨j', hj'⟩ := gidx_is (h.par x hm h1)
      obtain ⟨y, hy, hy0⟩ := gidx_at xs _ _ hj'
      rw [hj']
      simp only []
      by_cases hlt : xs.length < k + 1
      · rw [if_pos hlt, if_pos (.inl (by omega))]
      · rw [if_neg hlt, h.rstepsE f (k + 1) j' y hy (by omega) (by omega), hy0]
        rw [show k + 1 + (climb (up (xs.map gOf)) f x.f1).1 = k + ((climb (up (xs.map gOf)) f x.f1).1 + 1) by omega]
theorem Named.stepsE {xs : List SG} (h : Named xs) {j : Nat} {x : SG} (hx : xs[j]? = some x) : rsteps xs (xs.length + 1) 0 j = stepsOf (xs.map gOf) x.f0 := by
  rw [h.rstepsE _ 0 j x hx (by omega) (by omega)]
  unfold stepsOf
  have hl : 0 < xs.length := by have := (List.getElem?_eq_some_iff.1 hx).1; omega
  rw [List.length_map]
  simp only [Nat.zero_add]
  by_cases hc : (xs.length < (climb (up (xs.map gOf)) (xs.length + 1) x.f0).1) ∨ (climb (up (xs.map gOf)) (xs.length + 1) x.f0).2 ≠ headId (xs.map gOf)
  · rw [if_pos hc, if_pos (hc.imp id fun h => ⟨hl, h⟩)]
  · rw [if_neg hc, if_neg (fun h' => hc (h'.imp id fun h => h.2))]
theorem Named.all {xs : List SG} (h : Named xs) : rwhole xs = (xs.map gOf).all fun g => decide (0 ≤ stepsOf (xs.map gOf) g.id) := by
  unfold rwhole
  rw [Bool.eq_iff_iff, List.all_eq_true, List.all_eq_true]
  constructor
  · intro h1 g hg
    obtain ⟨x, hx, rfl⟩ := List.mem_map.1 hg
    obtain ⟨j, hj⟩ := List.mem_iff_getElem?.1 hx
    have := h1 j (List.mem_range.2 (List.getElem?_eq_some_iff.1 hj).1)
    rw [h.stepsE hj] at this
    exact this
  · intro h1 j hj
    have hl := List.mem_range.1 hj
    have hx := List.getElem?_eq_getElem hl
    rw [h.stepsE hx]
    exact h1 (gOf xs[j]) (List.mem_map.2 ⟨_, List.getElem_mem hl, rfl⟩)
theorem Named.wholeE {xs : List SG} (h : Named xs) : rwhole xs = wholeOf (xs.map gOf) := by
  unfold wholeOf
  rw [← h.all, tailPlain_eq h.nd]
  cases hw : rwhole xs with
  | false => simp
  | true =>
    rw [Bool.and_true]
    symm
    rw [List.all_eq_true]
    intro g hg
    unfold rwhole at hw
    rw [List.all_eq_true] at hw
    obtain ⟨j, hj⟩ := List.mem_iff_getElem?.1 hg
    rw [List.getElem?_tail, List.getElem?_map] at hj
    cases hx : xs[j + 1]? with
    | none => rw [hx] at hj; cases hj
    | some x =>
      rw [hx] at hj
      cases hj
      have h1 := of_decide_eq_true (hw (j + 1) (List.mem_range.2 (List.getElem?_eq_some_iff.1 hx).1))
      unfold rsteps at h1
      rw [hx] at h1
      simp only [] at h1
      simp only [Bool.not_eq_true', decide_eq_false_iff_not]
      intro h2
      rw [if_pos (show x.f1 = 0 from h2), if_neg (by omega)] at h1
      omega
theorem Named.tallE {xs : List SG} (h : Named xs) : rtall xs = tallOf (xs.map gOf) := by
  unfold rtall tallOf
  rw [List.foldl_map, List.foldl_map]
  have key : ∀ (l : List SG) (o : Nat) (t : Int), (∀ i x, l[i]? = some x → xs[o + i]? = some x) →
      (List.range' o l.length).foldl (fun t i => max t (rsteps xs (xs.length + 1) 0 i)) t = l.foldl (fun t x => max t (stepsOf (xs.map gOf) (gOf x).id)) t := by
    intro l
    induction l with
    | nil => intro o t _; rfl
    | cons z zs ih =>
      intro o t hl
      rw [List.length_cons, List.range'_succ, List.foldl_cons, List.foldl_cons, show rsteps xs (xs.length + 1) 0 o = stepsOf (xs.map gOf) (gOf z).id from h.stepsE (show xs[o]? = some z from hl 0 z rfl)]
      exact ih (o + 1) _ fun i x hx => by rw [show o + 1 + i = o + (i + 1) by omega]; exact hl (i + 1) x (by simpa using hx)
  rw [List.range_eq_range']
  exact key xs 0 0 fun i x hx => by rw [Nat.zero_add]; exact hx
end Go.Proofs.YtpnjhffnlafabaaGreatDoor.Sn
namespace Go.Proofs.YtpnjhffnlafabaaGreatDoor.Sn
set_option linter.unusedVariables false
set_option linter.unusedSimpArgs false
open Go.RowKit Go.Proofs.Bm Go.Proofs.Sc Go.Proofs.YtpnjhffnlafabaaGreatDoor.PImageBack
theorem rnext_spec (id last : Int) : ∀ (ps : List SP) (nx : Int), (∀ p ∈ ps, 0 < p.f0) → 0 ≤ nx →
    (0 ≤ ps.foldl (rnextF id last) nx) ∧ (nx ≠ 0 → ps.foldl (rnextF id last) nx ≠ 0 ∧ ps.foldl (rnextF id last) nx ≤ nx) ∧
    (∀ q ∈ ps, q.f1 = id → last < q.f0 → ps.foldl (rnextF id last) nx ≠ 0 ∧ ps.foldl (rnextF id last) nx ≤ q.f0) ∧
    (ps.foldl (rnextF id last) nx = nx ∨ ∃ q ∈ ps, q.f1 = id ∧ last < q.f0 ∧ ps.foldl (rnextF id last) nx = q.f0)
  | [], nx, _, h0 => ⟨h0, fun h => ⟨h, Int.le_refl _⟩, (fun q hq => by cases hq), .inl rfl⟩
  | p :: ps, nx, hp, h0 => by
    rw [List.foldl_cons]
    have hp0 := hp p (by simp)
    have hf : rnextF id last nx p = if p.f1 = id ∧ last < p.f0 ∧ (nx = 0 ∨ p.f0 < nx) then p.f0 else nx := rfl
    have h1 : 0 ≤ rnextF id last nx p := by rw [hf]; split <;> omega
    obtain ⟨a, b, c, d⟩ := rnext_spec id last ps (rnextF id last nx p) (fun q hq => hp q (by simp [hq])) h1
    generalize ps.foldl (rnextF id last) (rnextF id last nx p) = r at a b c d ⊢
    refine ⟨a, ?_, ?_, ?_⟩
    · intro hn
      rw [hf] at b
      split at b
      · rename_i hc
        have := b (by omega)
        omega
      · exact b hn
    · intro q hq hq1 hq2
      rcases List.mem_cons.1 hq with rfl | hq
      · rw [hf] at b
        split at b
        · exact b (by omega)
        · rename_i hc
          have h3 : ¬ (nx = 0 ∨ q.f0 < nx) := fun h => hc ⟨hq1, hq2, h⟩
          have := b (by omega)
          omega
      · exact c q hq hq1 hq2
    · rcases d with d | ⟨q, hq, d⟩
      · rw [hf] at d
        split at d
        · rename_i hc; exact .inr ⟨p, by simp, hc.1, hc.2.1, d⟩
        · exact .inl d
      · exact .inr ⟨q, by simp [hq], d⟩
theorem rkids_sorted {ps : List SP} {id : Int} {l : List Int} (hpos : ∀ p ∈ ps, 0 < p.f0) (hh : rhas ps id = true) (hs : l.Pairwise (· < ·))
    (hm : ∀ k : Int, k ∈ l ↔ ∃ p ∈ ps, p.f1 = id ∧ p.f0 = k) : ∀ (f : Nat) (last : Int), (l.filter fun k => decide (last < k)).length < f → rkids ps id f last = l.filter fun k => decide (last < k)
  | 0, last, h => by omega
  | f + 1, last, h => by
    obtain ⟨a, _, c, d⟩ := rnext_spec id last ps 0 hpos (Int.le_refl _)
    unfold rkids
    have hr : rnext ps id last = ps.foldl (rnextF id last) 0 := rfl
    rw [← hr] at a c d
    generalize rnext ps id last = r at a c d ⊢
    rw [hh]
    by_cases h0 : r = 0
    · rw [if_pos (.inl h0)]
      symm
      rw [List.filter_eq_nil_iff]
      intro k hk
      obtain ⟨p, hp, h1, h2⟩ := (hm k).1 hk
      intro h3
      exact (c p hp h1 (by rw [h2]; exact of_decide_eq_true h3)).1 h0
    · rw [if_neg (by simp [h0])]
      obtain ⟨q, hq, q1, q2, q3⟩ := d.resolve_left h0
      have hrl : r ∈ l := (hm r).2 ⟨q, hq, q1, q3.symm⟩
      have hmin : ∀ k ∈ l, last < k → r ≤ k := fun k hk hlk => by
        obtain ⟨p, hp, h1, h2⟩ := (hm k).1 hk
        have := (c p hp h1 (by rw [h2]; exact hlk)).2
        omega
      have hsplit : (l.filter fun k => decide (last < k)) = r :: (l.filter fun k => decide (r < k)) := by
        clear hm
        induction l with
        | nil => cases hrl
        | cons z zs ih =>
          rw [List.pairwise_cons] at hs
          rcases List.mem_cons.1 hrl with rfl | hz
          · rw [List.filter_cons, if_pos (by simp; omega), List.filter_cons, if_neg (by simp)]
            congr 1
            apply List.filter_congr
            intro k hk
            have := hs.1 k hk
            rw [decide_eq_decide]; omega
          · have hzr := hs.1 r hz
            have hnl : ¬ last < z := fun h => by have := hmin z (by simp) h; omega
            rw [List.filter_cons, if_neg (by simpa using hnl), List.filter_cons, if_neg (by simp; omega)]
            refine ih hs.2 ?_ hz (fun k hk hlk => hmin k (by simp [hk]) hlk)
            rw [List.filter_cons, if_neg (by simpa using hnl)] at h
            exact h
      rw [hsplit]
      congr 1
      refine rkids_sorted hpos hh hs hm f r ?_
      rw [hsplit] at h
      simp at h
      exact h
end Go.Proofs.YtpnjhffnlafabaaGreatDoor.Sn
namespace Go.Proofs.YtpnjhffnlafabaaGreatDoor.Sn
set_option linter.unusedVariables false
set_option linter.unusedSimpArgs false
open Go.RowKit Go.Proofs.Bm Go.Proofs.Sc Go.Proofs.YtpnjhffnlafabaaGreatDoor.PImageBack
def pairs (xs : List SG) : List SP := xs.map fun x => ⟨x.f0, x.f1⟩
def runder (ps : List SP) : Nat → Int → List Int
  | 0, id => [id]
  | f + 1, id => id :: ((rkids ps id (ps.length + 1) 0).map (runder ps f)).flatten
def Rok (ps : List SP) : Nat → Int → Prop
  | 0, _ => False
  | f + 1, id => rhas ps id = true ∧ ∀ k ∈ rkids ps id (ps.length + 1) 0, Rok ps f k
theorem has_pair {xs : List SG} {x : SG} (hx : x ∈ xs) : rhas (pairs xs) (gOf x).id = true := by
  unfold rhas pairs
  rw [Bool.or_eq_true, List.any_eq_true]
  exact .inl ⟨⟨x.f0, x.f1⟩, List.mem_map.2 ⟨x, hx, rfl⟩, by simp [gOf]⟩
theorem kids_eq {xs : List SG} (Y : Tree (xs.map gOf)) {g : G} (hg : g ∈ xs.map gOf) : rkids (pairs xs) g.id ((pairs xs).length + 1) 0 = (kidsS (xs.map gOf) g.id).map (·.id) := by
  have hl : (((kidsS (xs.map gOf) g.id).map (·.id)).filter fun k => decide ((0 : Int) < k)) = (kidsS (xs.map gOf) g.id).map (·.id) := by
    rw [List.filter_eq_self]
    intro k hk
    obtain ⟨c, hc, rfl⟩ := List.mem_map.1 hk
    have := Y.ne c (mem_kids.1 hc).1
    simp; omega
  have hlen : (kidsS (xs.map gOf) g.id).length ≤ xs.length := by
    unfold kidsS kidsOf
    rw [List.length_mergeSort]
    exact Nat.le_trans (List.length_filter_le _ _) (by simp)
  rw [rkids_sorted (l := (kidsS (xs.map gOf) g.id).map (·.id)) ?_ ?_ ?_ ?_ _ 0 ?_, hl]
  · intro p hp
    obtain ⟨x, hx, rfl⟩ := List.mem_map.1 hp
    have := Y.ne (gOf x) (List.mem_map.2 ⟨x, hx, rfl⟩)
    have h2 : (gOf x).id = x.f0 := rfl
    show 0 < x.f0
    omega
  · obtain ⟨x, hx, rfl⟩ := List.mem_map.1 hg
    exact has_pair hx
  · have h1 := sorted_id (kidsOf (xs.map gOf) g.id)
    have h2 : (gids (kidsS (xs.map gOf) g.id)).Nodup := ((List.mergeSort_perm (kidsOf (xs.map gOf) g.id) _).map G.id).nodup_iff.2 (kidsOf_nodup Y.nd g.id)
    have h3 : (gids (kidsS (xs.map gOf) g.id)).Pairwise (· ≤ ·) := List.pairwise_map.2 h1
    exact (List.pairwise_and_iff.2 ⟨h3, h2⟩).imp fun {a b} h => by omega
  · intro k
    constructor
    · intro hk
      obtain ⟨c, hc, rfl⟩ := List.mem_map.1 hk
      obtain ⟨h1, h2⟩ := mem_kids.1 hc
      obtain ⟨x, hx, rfl⟩ := List.mem_map.1 h1
      exact ⟨⟨x.f0, x.f1⟩, List.mem_map.2 ⟨x, hx, rfl⟩, h2, rfl⟩
    · rintro ⟨p, hp, h1, h2⟩
      obtain ⟨x, hx, rfl⟩ := List.mem_map.1 hp
      exact List.mem_map.2 ⟨gOf x, mem_kids.2 ⟨List.mem_map.2 ⟨x, hx, rfl⟩, h1⟩, h2⟩
  · rw [hl, List.length_map]
    unfold pairs
    rw [List.length_map]
    omega
theorem walk_ids {xs : List SG} (Y : Tree (xs.map gOf)) : ∀ (n : Nat) (g : G), g ∈ xs.map gOf → runder (pairs xs) n g.id = (walk (xs.map gOf) n g).map (·.id)
  | 0, g, _ => rfl
  | n + 1, g, hg => by
    unfold runder walk
    rw [kids_eq Y hg, List.map_cons, List.map_flatten, List.map_map, List.map_map]
    congr 2
    apply List.map_congr_left
    intro c hc
    exact walk_ids Y n c (mem_kids.1 hc).1
theorem rok {xs : List SG} (Y : Tree (xs.map gOf)) : ∀ (n : Nat) (g : G), g ∈ xs.map gOf → (xs.map gOf).length < stepsOf (xs.map gOf) g.id + n → Rok (pairs xs) n g.id
  | 0, g, hg, h => by have := Y.le hg; omega
  | n + 1, g, hg, h => by
    unfold Rok
    refine ⟨?_, ?_⟩
    · obtain ⟨x, hx, rfl⟩ := List.mem_map.1 hg
      exact has_pair hx
    · rw [kids_eq Y hg]
      intro k hk
      obtain ⟨c, hc, rfl⟩ := List.mem_map.1 hk
      obtain ⟨h1, h2⟩ := mem_kids.1 hc
      have := Y.kid hg h1 h2
      exact rok Y n c h1 (by omega)
/- the choice of the tasks -/
def tid (ts : List ST) (i : Int) : Int := ((ts[i.toNat]?).map (·.f0)).getD 0
def rbestF (us : List Bool) (ts : List ST) (b : Int) (i : Nat) : Int := if us[i]? = some false ∧ (b < 0 ∨ tid ts i < tid ts b) then i else b
theorem rbest_spec (us : List Bool) (ts : List ST) : ∀ k : Nat,
    let b := (List.range k).foldl (rbestF us ts) (-1)
    (b = -1 ∧ ∀ i < k, us[i]? ≠ some false) ∨ ∃ j < k, b = (j : Int) ∧ us[j]? = some false ∧ ∀ i < k, us[i]? = some false → tid ts j ≤ tid ts i
  | 0 => .inl ⟨rfl, fun i hi => absurd hi (Nat.not_lt_zero _)⟩
  | k + 1 => by
    have ih := rbest_spec us ts k
    simp only [] at ih ⊢
    rw [List.range_succ, List.foldl_append, List.foldl_cons, List.foldl_nil]
    generalize (List.range k).foldl (rbestF us ts) (-1) = b at ih ⊢
    unfold rbestF
    by_cases h1 : us[k]? = some false
    · rcases ih with ⟨rfl, h2⟩ | ⟨j, hj, rfl, h3, h4⟩
      · rw [if_pos ⟨h1, .inl (by omega)⟩]
        refine .inr ⟨k, by omega, rfl, h1, fun i hi h5 => ?_⟩
        by_cases hik : i = k
        · subst hik; exact Int.le_refl _
        · exact absurd h5 (h2 i (by omega))
      · by_cases h5 : tid ts k < tid ts j
        · rw [if_pos ⟨h1, .inr h5⟩]
          refine .inr ⟨k, by omega, rfl, h1, fun i hi h6 => ?_⟩
          by_cases hik : i = k
          · subst hik; exact Int.le_refl _
          · have := h4 i (by omega) h6; omega
        · rw [if_neg (by rintro ⟨_, h | h⟩ <;> omega)]
          refine .inr ⟨j, by omega, rfl, h3, fun i hi h6 => ?_⟩
          by_cases hik : i = k
          · subst hik; omega
          · exact h4 i (by omega) h6
    · rw [if_neg (fun h => h1 h.1)]
      rcases ih with ⟨rfl, h2⟩ | ⟨j, hj, rfl, h3, h4⟩
      · refine .inl ⟨rfl, fun i hi => ?_⟩
        by_cases hik : i = k
        · subst hik; exact h1
        · exact h2 i (by omega)
      · refine .inr ⟨j, by omega, rfl, h3, fun i hi h6 => ?_⟩
        by_cases hik : i = k
        · subst hik; exact absurd h6 h1
        · exact h4 i (by omega) h6
def sortS (ts : List ST) : List ST := ts.mergeSort fun a b => decide (a.f0 ≤ b.f0)
theorem sortS_perm (ts : List ST) : (sortS ts).Perm ts := List.mergeSort_perm _ _
theorem sortS_sorted (ts : List ST) : (sortS ts).Pairwise fun a b => a.f0 ≤ b.f0 := by
  have := List.pairwise_mergeSort (le := fun a b : ST => decide (a.f0 ≤ b.f0)) (fun a b c h1 h2 => by simp at *; omega) (fun a b => by simp; omega) ts
  exact this.imp fun h => by simpa using h
theorem sortS_T {ts : List ST} (h : (ts.map (·.f0)).Nodup) : (sortS ts).map tOf = sortT (ts.map tOf) := by
  have h1 : ((ts.map tOf).map (·.id)).Nodup := by rw [List.map_map]; exact h
  rw [← sortT_perm ((sortS_perm ts).symm.map tOf) h1, sortT_id]
  rw [List.pairwise_map]
  exact sortS_sorted ts
structure Sel (ts : List ST) (us : List Bool) (j : Nat) : Prop where
  len : us.length = ts.length
  iff : ∀ (i : Nat) (x : ST), ts[i]? = some x → (us[i]? = some true ↔ x ∈ (sortS ts).take j)
theorem Sel.start (ts : List ST) : Sel ts (List.replicate ts.length false) 0 := by
  refine ⟨by simp, fun i x hx => ?_⟩
  have := (List.getElem?_eq_some_iff.1 hx).1
  rw [List.getElem?_replicate, if_pos this]
  simp
theorem nodup_inj {ts : List ST} (h : (ts.map (·.f0)).Nodup) {i k : Nat} {x y : ST} (hx : ts[i]? = some x) (hy : ts[k]? = some y) (e : x.f0 = y.f0) : i = k := by
  have h1 : (ts.map (·.f0))[i]? = some x.f0 := by rw [List.getElem?_map, hx]; rfl
  have h2 : (ts.map (·.f0))[k]? = some x.f0 := by rw [List.getElem?_map, hy, e]; rfl
  obtain ⟨q1, r1⟩ := List.getElem?_eq_some_iff.1 h1
  obtain ⟨q2, r2⟩ := List.getElem?_eq_some_iff.1 h2
  exact (List.getElem_inj h).1 (r1.trans r2.symm)
theorem Sel.next {ts : List ST} {us : List Bool} {j : Nat} (S : Sel ts us j) (h : (ts.map (·.f0)).Nodup) (hj : j < ts.length) :
    ∃ (b : Nat) (x : ST), (List.range ts.length).foldl (rbestF us ts) (-1) = (b : Int) ∧ ts[b]? = some x ∧ (sortS ts)[j]? = some x ∧ us[b]? = some false ∧ Sel ts (us.set b true) (j + 1) := by
  have hls : (sortS ts).length = ts.length := (sortS_perm ts).length_eq
  have hns : ((sortS ts).map (·.f0)).Nodup := ((sortS_perm ts).map (·.f0)).nodup_iff.2 h
  obtain ⟨y, hy⟩ : ∃ y, (sortS ts)[j]? = some y := ⟨_, List.getElem?_eq_getElem (by omega)⟩
  have hmy : y ∈ ts := (sortS_perm ts).mem_iff.1 (List.mem_of_getElem? hy)
  obtain ⟨iy, hiy⟩ := List.mem_iff_getElem?.1 hmy
  have hnot : ∀ (z : ST) (k : Nat), (sortS ts)[k]? = some z → j ≤ k → z ∉ (sortS ts).take j := by
    intro z k hk hjk hz
    obtain ⟨q, hq⟩ := List.mem_iff_getElem?.1 hz
    have hq2 : q < j := by
      have := (List.getElem?_eq_some_iff.1 hq).1
      rw [List.length_take] at this
      omega
    rw [List.getElem?_take_of_lt hq2] at hq
    have := nodup_inj hns hk hq rfl
    omega
  have hub : ∀ (i : Nat) (x : ST), ts[i]? = some x → x ∉ (sortS ts).take j → us[i]? = some false := by
    intro i x hx hn
    have hlt : i < us.length := by have := (List.getElem?_eq_some_iff.1 hx).1; have := S.len; omega
    have := S.iff i x hx
    rw [List.getElem?_eq_getElem hlt] at this ⊢
    cases hb : us[i] with
    | false => rfl
    | true => rw [hb] at this; exact absurd (this.1 rfl) hn
  have huy := hub iy y hiy (hnot y j hy (Nat.le_refl _))
  have hlty : iy < ts.length := (List.getElem?_eq_some_iff.1 hiy).1
  rcases rbest_spec us ts ts.length with ⟨_, h2⟩ | ⟨b, hb, h3, h4, h5⟩
  · exact absurd huy (h2 iy hlty)
  · obtain ⟨x, hx⟩ : ∃ x, ts[b]? = some x := ⟨_, List.getElem?_eq_getElem hb⟩
    have htid : ∀ (i : Nat) (z : ST), ts[i]? = some z → tid ts (i : Int) = z.f0 := by
      intro i z hz
      unfold tid
      rw [Int.toNat_natCast, hz]; rfl
    have h6 := h5 iy hlty huy
    rw [htid b x hx, htid iy y hiy] at h6
    have hxn : x ∉ (sortS ts).take j := by
      intro hm
      have := (S.iff b x hx).2 hm
      rw [h4] at this; cases this
    have hxs : x ∈ sortS ts := (sortS_perm ts).mem_iff.2 (List.mem_of_getElem? hx)
    obtain ⟨q, hq⟩ := List.mem_iff_getElem?.1 hxs
    have hjq : j ≤ q := by
      rcases Nat.lt_or_ge q j with hlt | hge
      · exact absurd (List.mem_iff_getElem?.2 ⟨q, by rw [List.getElem?_take_of_lt hlt]; exact hq⟩) hxn
      · exact hge
    have h7 : y.f0 ≤ x.f0 := by
      rcases Nat.eq_or_lt_of_le hjq with e | hlt
      · subst e; rw [hy] at hq; cases hq; exact Int.le_refl _
      · have hp := List.pairwise_iff_getElem.1 (sortS_sorted ts) j q (by omega) (List.getElem?_eq_some_iff.1 hq).1 hlt
        rw [(List.getElem?_eq_some_iff.1 hy).2, (List.getElem?_eq_some_iff.1 hq).2] at hp
        exact hp
    have hqj : q = j := nodup_inj hns hq hy (by omega)
    subst hqj
    refine ⟨b, x, h3, hx, hq, h4, by rw [List.length_set]; exact S.len, fun i z hz => ?_⟩
    have htk : (sortS ts).take (q + 1) = (sortS ts).take q ++ [x] := by rw [List.take_add_one, hq]; rfl
    rw [htk, List.mem_append, ← S.iff i z hz, List.mem_singleton]
    by_cases hib : b = i
    · subst hib
      rw [hx] at hz; cases hz
      rw [List.getElem?_set, if_pos rfl, if_pos (by have := S.len; omega)]
      simp
    · rw [List.getElem?_set_ne hib]
      constructor
      · exact .inl
      · rintro (h8 | h8)
        · exact h8
        · subst h8
          exact absurd (nodup_inj h hx hz rfl) hib
theorem Sel.mono {ts : List ST} {us : List Bool} {j : Nat} (S : Sel ts us j) {b : Nat} {x : ST} (hx : (sortS ts)[j]? = some x) : (sortS ts).take (j + 1) = (sortS ts).take j ++ [x] := by rw [List.take_add_one, hx]; rfl
theorem rows_of {xs : List SG} : ∀ (l : List G), (∀ g ∈ l, g ∈ xs.map gOf) → ∃ ys : List SG, ys.map gOf = l ∧ ∀ y ∈ ys, y ∈ xs
  | [], _ => ⟨[], rfl, fun y hy => by cases hy⟩
  | g :: l, h => by
    obtain ⟨ys, h1, h2⟩ := rows_of l fun g hg => h g (by simp [hg])
    obtain ⟨x, hx, rfl⟩ := List.mem_map.1 (h g (by simp))
    exact ⟨x :: ys, by rw [List.map_cons, h1], fun y hy => (List.mem_cons.1 hy).elim (fun e => by rw [e]; exact hx) (fun hy => h2 y hy)⟩
theorem under_rows {xs : List SG} (Y : Tree (xs.map gOf)) (hne : xs ≠ []) : ∃ (ys : List SG) (id : Int), ((xs[0]?).map (·.f0)) = some id ∧ ys.map gOf = underOf (xs.map gOf) ∧ (∀ y ∈ ys, y ∈ xs) ∧
    runder (pairs xs) (xs.length + 1) id = ys.map (·.f0) ∧ ys.length ≤ (xs.length + 2) * xs.length ∧ Rok (pairs xs) (xs.length + 1) id := by
  obtain ⟨z, zs, rfl⟩ := List.exists_cons_of_ne_nil hne
  obtain ⟨gs, hgs⟩ : ∃ gs, (z :: zs).map gOf = gs := ⟨_, rfl⟩
  have hl : gs.length = (z :: zs).length := by rw [← hgs, List.length_map]
  have hz : gOf z ∈ gs := by rw [← hgs]; simp
  have hu : underOf gs = walk gs (gs.length + 1) (gOf z) := by rw [← hgs]; rfl
  have h0 : 0 ≤ stepsOf gs (gOf z).id := by rw [← hgs] at hz ⊢; exact Y.st _ hz
  have hin : ∀ y ∈ underOf gs, y ∈ (z :: zs).map gOf := by
    intro y hy
    rw [hu] at hy
    rw [hgs] at Y ⊢
    exact (Y.inside (gs.length + 1) (gOf z) hz (by omega) y hy).1
  obtain ⟨ys, h1, h2⟩ := rows_of (xs := z :: zs) (underOf gs) hin
  refine ⟨ys, z.f0, rfl, by rw [hgs]; exact h1, h2, ?_, ?_, ?_⟩
  · have h3 := walk_ids Y ((z :: zs).length + 1) (gOf z) (by rw [hgs]; exact hz)
    rw [show runder (pairs (z :: zs)) ((z :: zs).length + 1) z.f0 = _ from h3, hgs, ← hl, ← hu, ← h1, List.map_map]
    rfl
  · have h3 := congrArg List.length h1
    rw [List.length_map] at h3
    rw [h3, hu, ← hl]
    rw [hgs] at Y
    have h4 := Sn.walk_len Y.nd (gs.length + 1) hz
    exact h4
  · rw [hgs] at Y
    refine rok (xs := z :: zs) (by rw [hgs]; exact Y) _ (gOf z) (by rw [hgs]; exact hz) ?_
    rw [hgs, hl]; omega
end Go.Proofs.YtpnjhffnlafabaaGreatDoor.Sn
namespace Go.Proofs.YtpnjhffnlafabaaGreatDoor.Sn
set_option linter.unusedVariables false
set_option linter.unusedSimpArgs false
open Go.RowKit Go.Proofs.Bm Go.Proofs.Sc Go.Proofs.YtpnjhffnlafabaaGreatDoor.PImageBack
def Bad (gs : List G) (us : List T) : Prop := headPar gs ≠ 0 ∨ (∃ g ∈ gs, g.parent ≠ 0 ∧ g.parent ∉ gids gs) ∨ (∃ t ∈ us, t.group ∉ gids gs)
structure Asked (gs : List G) (us : List T) (ck : Int) : Prop where
  twice : ¬ (idsOf gs us).Nodup → ck = 9
  none_ : (idsOf gs us).Nodup → Bad gs us → ck = 8
  form : (idsOf gs us).Nodup → ¬ Bad gs us → (wholeOf gs = false ∨ orderOf gs us ≠ (gs, us)) → ck = 5
  deep : (idsOf gs us).Nodup → ¬ Bad gs us → wholeOf gs = true → orderOf gs us = (gs, us) → ck = if 16 ≤ tallOf gs then 10 else 0
theorem asked {gs : List G} {us : List T} (h0 : gs.length ≠ 0) (h1 : gs.length ≤ 4096) (h2 : us.length ≤ 4096) (ho : gs.any oddG = false) (ht : us.any oddT = false) : Asked gs us (checkOf gs us) := by
  have hd : checkOf gs us = if namesOf gs us ≠ 0 then namesOf gs us else if wholeOf gs = false ∨ orderOf gs us ≠ (gs, us) then 5 else if 16 ≤ tallOf gs then 10 else 0 := by
    unfold checkOf
    rw [if_neg h0, if_neg (by omega), if_neg (by rw [ho, ht]; simp)]
  have n9 : ¬ (idsOf gs us).Nodup → namesOf gs us = 9 := fun h => by unfold namesOf; rw [if_pos h]
  have n8 : (idsOf gs us).Nodup → Bad gs us → namesOf gs us = 8 := fun h hb => by unfold namesOf; rw [if_neg (fun h' => h' h)]; exact if_pos hb
  have n0 : (idsOf gs us).Nodup → ¬ Bad gs us → namesOf gs us = 0 := fun h hb => by unfold namesOf; rw [if_neg (fun h' => h' h)]; exact if_neg hb
  refine ⟨fun h => ?_, fun h hb => ?_, fun h hb hf => ?_, fun h hb hw hf => ?_⟩
  · rw [hd, n9 h]; rfl
  · rw [hd, n8 h hb]; rfl
  · rw [hd, n0 h hb, if_neg (fun h' => h' rfl), if_pos hf]
  · rw [hd, n0 h hb, if_neg (fun h' => h' rfl), if_neg]
    rintro (h' | h')
    · rw [hw] at h'; cases h'
    · exact h' hf
theorem nodup_take {l : List Int} {i : Nat} {z : Int} (h : (l.take i).Nodup) (hz : l[i]? = some z) (hq : ∀ q < i, l[q]? ≠ some z) : (l.take (i + 1)).Nodup := by
  rw [List.take_add_one, hz]
  show (l.take i ++ [z]).Nodup
  rw [List.nodup_append]
  refine ⟨h, by simp, fun a ha b hb => ?_⟩
  rw [List.mem_singleton] at hb
  subst hb
  rintro rfl
  obtain ⟨q, hq1⟩ := List.mem_iff_getElem?.1 ha
  have hlt : q < i := by
    have := (List.getElem?_eq_some_iff.1 hq1).1
    rw [List.length_take] at this; omega
  rw [List.getElem?_take_of_lt hlt] at hq1
  exact hq q hlt hq1
theorem not_nodup {l : List Int} {i k : Nat} {z : Int} (hk : l[k]? = some z) (hi : l[i]? = some z) (hne : k ≠ i) : ¬ l.Nodup := by
  intro h
  obtain ⟨q1, r1⟩ := List.getElem?_eq_some_iff.1 hk
  obtain ⟨q2, r2⟩ := List.getElem?_eq_some_iff.1 hi
  exact hne ((List.getElem_inj h).1 (r1.trans r2.symm))
theorem gint_neg {xs : List SG} {id : Int} (h : gint xs id < 0) : id ∉ gids (xs.map gOf) := by
  intro hm
  obtain ⟨j, hj⟩ := gidx_is hm
  unfold gint at h
  rw [hj] at h
  simp only [] at h
  omega
theorem gint_pos {xs : List SG} {id : Int} (h : ¬ gint xs id < 0) : id ∈ gids (xs.map gOf) := by
  apply Decidable.byContradiction
  intro hm
  unfold gint at h
  rw [gidx_not hm] at h
  simp at h
theorem okids {xs : List SG} {ts : List ST} (ho : (xs.map gOf).any oddG = false) (hnd : (idsS xs ts).Nodup) (hp : ∀ x ∈ xs, x.f1 ≠ 0 → x.f1 ∈ gids (xs.map gOf)) : Named xs := by
  refine ⟨by rw [gids_map]; exact (List.nodup_append.1 hnd).1, fun x hx => ?_, hp⟩
  have h1 : oddG (gOf x) = false := by
    have := List.any_eq_false.1 ho (gOf x) (List.mem_map.2 ⟨x, hx, rfl⟩)
    simpa using this
  have := (within1_iff.1 (oddG_id h1)).1
  have h2 : (gOf x).id = x.f0 := rfl
  omega
end Go.Proofs.YtpnjhffnlafabaaGreatDoor.Sn
namespace Go.Proofs.YtpnjhffnlafabaaGreatDoor.Sn
set_option linter.unusedVariables false
set_option linter.unusedSimpArgs false
open Go.Proofs Go.RowKit Go.Sort Go.Shelf Go.Lib Go.Proofs.Bk Go.Proofs.Bm Go.Proofs.Op Go.Proofs.Sc Go.Proofs.Kf Go.Proofs.YtpnjhffnlafabaaGreatDoorW.PrintWords Go.Proofs.YtpnjhffnlafabaaGreatDoor.PImageBack
structure Trb (base : Nat) (w0 : World) (b : Nat) (A : Option Addr) (c : Nat) (ps : List SP) (w : World) : Prop where
  below : Below base w0 w
  lo : base ≤ b
  row : w.heap[b]? = some (.cells #[.slice A ps.length c] 137 (0, 0))
  rp : kP.R 139 w base (fun _ => True) (.slice A ps.length c) ps
section
variable {base : Nat} {w0 w w1 : World} {b : Nat} {A : Option Addr} {c : Nat} {ps : List SP}
theorem Trb.size (h : Trb base w0 b A c ps w) : base ≤ w.heap.size := Nat.le_of_lt (Nat.lt_of_le_of_lt h.lo (lt_row h.row))
theorem Trb.start (hb : Below base w0 w) (hl : base ≤ b) (hr : w.heap[b]? = some (.cells #[.slice none 0 0] 137 (0, 0))) : Trb base w0 b none 0 [] w :=
  ⟨hb, hl, hr, Kd.R_nil _ _ _ _ _⟩
theorem Trb.grow (h : Trb base w0 b A c ps w) (hb : Below w.heap.size w w1) : Trb base w0 b A c ps w1 :=
  ⟨h.below.trans (hb.mono h.size), h.lo, row_below hb h.row, Kd.R_below h.rp hb⟩
theorem Trb.drew (h : Trb base w0 b A c ps w) : Trb base w0 b A c ps w.drew := h.grow (Below.refl _ _).drew
theorem Trb.push (h : Trb base w0 b A c ps w) {A1 : Option Addr} {c1 : Nat} {ps1 : List SP} (hR : kP.R 139 w1 base (fun _ => True) (.slice A1 ps1.length c1) ps1) (hb : Below base w0 w1) (hg : w.grownBy w1 (Value.slice A ps.length c).ownBlock) :
    Trb base w0 b A1 c1 ps1 (w1.setCell ⟨b, 0, none⟩ (.slice A1 ps1.length c1)) := by
  have hr : w1.heap[b]? = some (.cells #[.slice A ps.length c] 137 (0, 0)) := (hg.block b (lt_row h.row) (fun e => Kd.R_ne h.rp h.row (by decide) e)).trans h.row
  refine ⟨hb.trans ((KeepF.setCell w1 _ _).to_below (Nat.le_of_lt (Nat.lt_of_le_of_lt h.lo (lt_row hr))) (fun i hi => by rw [hi]; exact h.lo)), h.lo, ?_, R_cell hR hr rfl (by decide)⟩
  rw [setCell_row hr]; rfl
theorem Trb.keep (h : Trb base w0 b A c ps w) (hg : w.grownBy w1 (Value.slice A ps.length c).ownBlock) {k : Nat} {cs : Array Value} {v : Value} (hk : w.heap[k]? = some (.cells cs 25 (0, 0))) (hne : k ≠ b) : (w1.setCell ⟨b, 0, none⟩ v).heap[k]? = some (.cells cs 25 (0, 0)) :=
  (Below.heap_setCell w1 _ v k hne).trans ((hg.block k (lt_row hk) (fun e => Kd.R_ne h.rp hk (by decide) e)).trans hk)
end
theorem infoP3 : (Tryz.prog.info? 139).map (fun i => (i.zero, i.size, i.bytes)) = some (some (.agg #[.int .i64 0, .int .i64 0]), 2, 16) := by kernel_rfl
def TreePost (ps : List SP) (w : World) (e : Ending) (w' : World) : Prop := ∃ g P c, e = .returned (.pointer (some ⟨g, 0, none⟩)) ∧ IsTree w' g P c ps ∧ Below w.heap.size w w'
set_option maxHeartbeats 4000000 in
set_option maxRecDepth 100000 in
theorem tree_calls (A : Option Addr) (n c : Nat) (xs : List SG) (B : Option Addr) (m d : Nat) (w : World) (hG : kG.C w A n xs) (hn : n < 17592186044) :
    Calls Tryz.prog 88 #[.agg #[.slice A n c, .slice B m d]] w (TreePost (pairs xs) w) := by
  have hln := hG.1
  have HG := Aside0.mk hG
  clear hG
  replace hln := Aside0.mk hln
  go_enter Tryz.func88, Tryz.ntmps88
  go_wp2_with (first
    | (((with_reducible refine gate_dst (N := 1) rfl ?_); refine box_event ?hg (N := 1) ?hd (cs := #[.slice A n c, .slice B m d]) (t := 25) ?hr ?_; (case hd => rfl); (case hg => rfl); (case hr => first | (go_simp; done) | (go_simp; rfl)); intro b1 hb1 w1 kb1 bb1; replace hb1 := Aside0.mk hb1; replace kb1 := Aside0.mk kb1; replace bb1 := Aside0.mk bb1))
    | (((with_reducible refine gate_dst (N := 6) rfl ?_); refine box_event ?hg (N := 6) ?hd (cs := #[.slice none 0 0]) (t := 137) ?hr ?_; (case hd => rfl); (case hg => rfl); (case hr => first | (go_simp; done) | (go_simp; rfl)); intro b5 hb5 w3 kb5 bb5; replace hb5 := Aside0.mk hb5; replace kb5 := Aside0.mk kb5; replace bb5 := Aside0.mk bb5); have k23 := Aside0.mk (row_below bb5.out kb1.out); have hS := Aside0.mk (Trb.start (bb1.out.trans (bb5.out.mono bb1.out.size)) (by have := hb5.out; have := bb1.out.size; omega) kb5.out)))
  have h15 : Aside0 (b1 ≠ b5) := ⟨by have := hb5.out; have := lt_row kb1.out; omega⟩
  clear kb1 bb1 kb5 bb5 hb1 hb5
  go_loopw [4] (fun iv wr => ∃ (k : Nat) (A1 : Option Addr) (c1 : Nat) (ps : List SP), iv = .int .i64 k ∧ k ≤ n ∧ Aside0 (ps = pairs (xs.take k)) ∧ Aside0 (Trb w.heap.size w b5 A1 c1 ps wr) ∧ Aside0 (wr.heap[b1]? = some (.cells #[.slice A n c, .slice B m d] 25 (0, 0)))) (fun iv _ => n - (intOf iv).toNat)
  case atStart => exact ⟨0, none, 0, [], rfl, Nat.zero_le _, ⟨rfl⟩, hS, k23⟩
  case round =>
    obtain ⟨k, A1, c1, ps, rfl, hk, hps, hSr, k2r⟩ := hrel
    have e0 := (Kf.cell_row k2r.out 0).trans (rfl : _ = some (Value.slice A n c))
    by_cases hlt : k < n
    · have p1 : 0 ≤ (k : Int) := by omega
      have q1 : (k : Int) < (n : Int) := by omega
      have HGr := Kd.C_below HG.out hSr.out.below
      obtain ⟨bG, oG, x1, eA, hbG, hx1, t0, t1, t2, t3, t4, t5⟩ := G_one HGr hlt
      subst eA
      clear t2 t3 t4 t5
      have d0r := (cell_row hSr.out.row 0).trans (rfl : _ = some (Value.slice A1 ps.length c1))
      obtain ⟨n1, hn1⟩ : ∃ n1, ps.length = n1 := ⟨_, rfl⟩
      have hl8 : (ps.length + 1) * 16 ≤ 140737488355328 := by
        rw [hps.out]
        unfold pairs
        rw [List.length_map]
        have h2 := List.length_take_le k xs
        omega
      rw [hn1] at d0r
      obtain ⟨p1', hp1⟩ : ∃ p : SP, p = ⟨x1.f0, x1.f1⟩ := ⟨_, rfl⟩
      obtain ⟨n2, hn2⟩ : ∃ n2, (ps ++ [p1']).length = n2 := ⟨_, rfl⟩
      have hSd := Aside0.mk hSr.out.drew
      have hRd : kP.R 139 wr.drew w.heap.size (fun _ => True) (.slice A1 n1 c1) ps := by rw [← hn1]; exact hSd.out.rp
      have d0a : (wr.drew.alloc (.cells #[.int .i64 x1.f0, .int .i64 x1.f1] 139)).cell? ⟨b5, 0, none⟩ = some (.slice A1 n1 c1) := pw_cell_below (below_alloc (Below.refl _ wr.drew) _) d0r
      have hps' : ps ++ [p1'] = pairs (xs.take (k + 1)) := by rw [List.take_add_one, hx1, hps.out, hp1]; simp [pairs]
      have sOf : ∀ W, Below w.heap.size w W → W.heap[b1]? = some (.cells #[.slice (some ⟨bG, oG, none⟩) n c, .slice B m d] 25 (0, 0)) → (W.cell? ⟨b1, 0, none⟩ = some (.slice (some ⟨bG, oG, none⟩) n c) ∧ W.cell? ⟨bG, oG + k * 6, none⟩ = some (.int .i64 x1.f0) ∧ W.cell? ⟨bG, oG + k * 6 + 1, none⟩ = some (.int .i64 x1.f1)) := fun W h1 h2 => by
        obtain ⟨b', o', x', e, -, hx', u0, u1, -, -, -, -⟩ := G_one (Kd.C_below HG.out h1) hlt
        cases e
        rw [hx1] at hx'
        cases hx'
        exact ⟨(Kf.cell_row h2 0).trans rfl, u0, u1⟩
      have s0 := sOf wr.drew hSd.out.below k2r.out
      have ba := below_alloc (Below.refl wr.drew.heap.size wr.drew) (.cells #[.int .i64 x1.f0, .int .i64 x1.f1] 139)
      have s1 := (⟨d0a, sOf _ (hSd.out.grow ba).below (row_below ba (show wr.drew.heap[b1]? = _ from k2r.out))⟩ : _ ∧ _)
      have d0d : wr.drew.cell? ⟨b5, 0, none⟩ = some (.slice A1 n1 c1) := d0r
      replace sOf := Aside0.mk sOf
      clear ba
      replace HGr := Aside0.mk HGr; replace hx1 := Aside0.mk hx1; replace hn1 := Aside0.mk hn1; replace hl8 := Aside0.mk hl8; replace hn2 := Aside0.mk hn2; replace hRd := Aside0.mk hRd; replace hps' := Aside0.mk hps'
      go_wp2_with fail
      (refine Ht.begin2 20 (fun w' => w'.cell? ⟨b5, 0, none⟩ = some (.slice A1 n1 c1) ∧ w'.cell? ⟨b1, 0, none⟩ = some (.slice (some ⟨bG, oG, none⟩) n c) ∧ w'.cell? ⟨bG, oG + k * 6, none⟩ = some (.int .i64 x1.f0) ∧ w'.cell? ⟨bG, oG + k * 6 + 1, none⟩ = some (.int .i64 x1.f1)) (by kernel_rfl) (by kernel_rfl) ⟨d0d, s0⟩ ?_; intro hSnow; (try dsimp only at hSnow); simp only [List.take_succ_cons, List.take_zero, List.drop_succ_cons, List.drop_zero]; repeat (refine Ht.Hx.take (v := ?_) (by kernel_rfl) (by kernel_rfl) (fun _ _ _ h => h) (by with_reducible exact hSnow) (Or.inl ⟨by rfl, fun w hSw => ?_⟩) ?_; rotate_left; focus ((try dsimp only at hSw); go_simp; (try with_reducible rfl); done)); (try simp only [Act.put, List.setIfInBounds_toArray, List.set_cons_zero, List.set_cons_succ]))
      (refine Ht.Hx.effect (by kernel_rfl) ?_; go_wp2_with (fail); refine ⟨s1, ?_⟩; clear hSnow; (have hSnow := s1); repeat (refine Ht.Hx.take (v := ?_) (by kernel_rfl) (by kernel_rfl) (fun _ _ _ h => h) (by with_reducible exact hSnow) (Or.inl ⟨by rfl, fun w hSw => ?_⟩) ?_; rotate_left; focus ((try dsimp only at hSw); go_simp; (try with_reducible rfl); done)); (try simp only [Act.put, List.setIfInBounds_toArray, List.set_cons_zero, List.set_cons_succ]))
      (refine Ht.Hx.effect (by kernel_rfl) ?_; go_wp2_with (((with_reducible refine gate_builtin (b := .append) (xs := #[.tmp 18, .tmp 32]) rfl ?_); at_builtin; refine Kd.R_append kP (w0 := w) w.heap.size rfl (.tmp 18) (.tmp 32) 135 139 (.agg #[.int .i64 0, .int .i64 0]) 16 rfl Tryz.underlying135 infoP3 rfl (by decide) (by omega) (.slice A1 n1 c1) ps p1' [.int .i64 x1.f0, .int .i64 x1.f1] (fun _ => True) (fun _ => False) rfl rfl ?aP (fun _ hk => hk.elim) (fun _ _ => trivial) hRd.out hSd.out.below hSd.out.size hl8.out ?_; (case aP => rw [hp1]; exact k139_mkM _ _ _ _); intro v2 w10 hR10 hb10 hg10 hat10; obtain ⟨A2, c2, ev2, hd2, _⟩ := Kd.R_reads hR10; rw [hn2.out] at ev2; subst ev2; rw [← hn2.out] at hR10; rw [← hn1.out] at hg10; have hr10 := (hg10.block b5 (lt_row hSd.out.row) (fun e => Kd.R_ne hSd.out.rp hSd.out.row (by decide) e)).trans hSd.out.row; have s10 := (cell_row hr10 0).trans (rfl : _ = some (Value.slice A1 ps.length c1)); have s11 : w10.frozen? ⟨b5, 0, none⟩ = false := frozen_row hr10 0; have k110 := (hg10.block b1 (lt_row k2r.out) (fun e => Kd.R_ne hSd.out.rp (show wr.drew.heap[b1]? = _ from k2r.out) (by decide) e)).trans k2r.out; rw [hn1.out] at s10; have q10 := (⟨s10, sOf.out w10 hb10 k110⟩ : _ ∧ _); clear s10; replace hR10 := Aside0.mk hR10; replace hb10 := Aside0.mk hb10; replace hg10 := Aside0.mk hg10; replace hat10 := Aside0.mk hat10; replace hr10 := Aside0.mk hr10)); refine ⟨q10, ?_⟩; clear hSnow; (have hSnow := q10); repeat (refine Ht.Hx.take (v := ?_) (by kernel_rfl) (by kernel_rfl) (fun _ _ _ h => h) (by with_reducible exact hSnow) (Or.inl ⟨by rfl, fun w hSw => ?_⟩) ?_; rotate_left; focus ((try dsimp only at hSw); go_simp; (try with_reducible rfl); done)); (try simp only [Act.put, List.setIfInBounds_toArray, List.set_cons_zero, List.set_cons_succ]))
      (refine Ht.Hx.done (by kernel_rfl) ?_; clear hSnow)
      all_goals go_wp2_with fail
      all_goals go_roundw
      all_goals try (case measure => show n - ((k : Int) + 1).toNat < n - (k : Int).toNat; omega)
      all_goals
        refine ⟨k + 1, A2, c2, ps ++ [p1'], by simp, by omega, hps', ⟨?_⟩, ⟨?_⟩⟩
        · rw [← hn2.out]; exact hSd.out.push hR10.out hb10.out hg10.out
        · exact hSd.out.keep hg10.out k2r.out h15.out
    · obtain rfl : n = k := by omega
      have hps2 : Aside0 (ps = pairs xs) := ⟨by rw [hps.out, List.take_of_length_le (by rw [hln.out]; exact Nat.le_refl _)]⟩
      clear hps
      go_wp2_with fail
      go_ret
      refine ⟨b5, A1, c1, rfl, ?_, hSr.out.below⟩
      rw [← hps2.out]
      obtain ⟨A', c', e, _, hC⟩ := Kd.R_reads hSr.out.rp
      cases e
      exact ⟨(cell_row hSr.out.row 0).trans rfl, hC⟩
end Go.Proofs.YtpnjhffnlafabaaGreatDoor.Sn
namespace Go.Proofs.YtpnjhffnlafabaaGreatDoor.Sn
set_option linter.unusedVariables false
set_option linter.unusedSimpArgs false
open Go.RowKit Go.Sort Go.Shelf Go.Lib Go.Proofs.Bk Go.Proofs.Bm Go.Proofs.Op Go.Proofs.Sc Go.Proofs.Kf Go.Proofs.YtpnjhffnlafabaaGreatDoorW.PrintWords Go.Proofs.YtpnjhffnlafabaaGreatDoor.PImageBack
theorem len_of_mem {α : Type} {f : Int → List α} : ∀ {K : List Int} {k : Int}, k ∈ K → (f k).length ≤ ((K.map f).flatten).length
  | a :: K, k, h => by
    rw [List.map_cons, List.flatten_cons, List.length_append]
    rcases List.mem_cons.1 h with rfl | h
    · omega
    · have := len_of_mem (f := f) h; omega
theorem flatK_take {α : Type} {f : Int → List α} {K : List Int} {k : Nat} {x : Int} (h : K[k]? = some x) : ((K.take (k + 1)).map f).flatten = ((K.take k).map f).flatten ++ f x := by
  rw [List.take_add_one, h]; simp
theorem flatK_len {α : Type} {f : Int → List α} (K : List Int) (k : Nat) : (((K.take k).map f).flatten).length ≤ ((K.map f).flatten).length := by
  have h : (K.map f).flatten = ((K.take k).map f).flatten ++ ((K.drop k).map f).flatten := by rw [← List.flatten_append, ← List.map_append, List.take_append_drop]
  rw [h, List.length_append]; omega
set_option maxHeartbeats 4000000 in
set_option maxRecDepth 100000 in
theorem Under_calls (g : Nat) (P : Option Addr) (c : Nat) (ps : List SP) (hlen : ps.length < 17592186044416) : ∀ (f : Nat) (id : Int) (w : World), IsTree w g P c ps → Rok ps f id → (runder ps f id).length < 17592186044 →
    Calls Tryz.prog 89 #[.pointer (some ⟨g, 0, none⟩), .int .i64 id] w (IdsPost (runder ps f id) w)
  | 0, id, w, _, h, _ => h.elim
  | f + 1, id, w, hT, hok, hl => by
    obtain ⟨hh, hk⟩ := hok
    obtain ⟨K, hK⟩ : ∃ K, rkids ps id (ps.length + 1) 0 = K := ⟨_, rfl⟩
    rw [hK] at hk
    have hrun : runder ps (f + 1) id = id :: (K.map (runder ps f)).flatten := by rw [← hK]; rfl
    rw [hrun] at hl ⊢
    rw [List.length_cons] at hl
    have ih := fun (k : Int) (hm : k ∈ K) (W : World) (hW : Below w.heap.size w W) => Under_calls g P c ps hlen f k W (hT.below hW (Nat.le_refl _)) (hk k hm) (by have := len_of_mem (f := runder ps f) hm; omega)
    have kh := Has_calls g P c ps id w hT
    have kk := fun (W : World) (hW : Below w.heap.size w W) => Kids_calls g P c ps id W (hT.below hW (Nat.le_refl _)) hlen
    rw [hh] at kh
    rw [hK] at kk
    clear hT hk hK hh hrun
    replace ih := Aside0.mk ih; replace kh := Aside0.mk kh; replace kk := Aside0.mk kk; replace hl := Aside0.mk hl
    go_enter Tryz.func89, Tryz.ntmps89
    go_wp2_with (first
      | (go_at_call 103; (with_reducible refine kh.out.mono ?_); rintro e w' ⟨rfl, hw'⟩; replace hw' := hw'.symm; subst hw'))
    change Calls _ _ _ (w.alloc (.cells #[.int .i64 id] 3)) _
    have hR1 : (Kd.int .i64).R 3 (w.alloc (.cells #[.int .i64 id] 3)) w.heap.size (fun _ => True) (.slice (some ⟨w.heap.size, 0, none⟩) 1 1) [id] := Kd.R_of_own (own_lit w w.heap.size 3 .i64 [id] (Nat.le_refl _) (by simp)) (fun _ _ => trivial)
    have hb1 := below_alloc (Below.refl w.heap.size w) (.cells #[.int .i64 id] 3)
    have hs1 : (w.alloc (.cells #[.int .i64 id] 3)).heap.size = w.heap.size + 1 := by simp
    generalize w.alloc (.cells #[.int .i64 id] 3) = w1 at hR1 hb1 hs1 ⊢
    with_reducible refine (kk.out w1 hb1).mono ?_
    rintro e w2 ⟨v6, rfl, hR6, hb2⟩
    obtain ⟨A6, c6, rfl, h6l, hC6⟩ := Kd.R_reads hR6
    obtain ⟨nk, hnk⟩ : ∃ nk, K.length = nk := ⟨_, rfl⟩
    have hnk63 : nk ≤ 9223372036854775807 := by rw [← hnk]; exact hC6.2.1
    clear hC6
    have hs2 := hb2.size
    have hR6' := Kd.R_mono (Kd.R_bound hR6) (ok' := fun k => w1.heap.size ≤ k ∧ k < w2.heap.size) (fun k hk => ⟨hk.2.1, hk.2.2.1⟩)
    have hR2 := Kd.R_below hR1 hb2
    have hB2 := hb1.trans (hb2.mono hb1.size)
    rw [hnk] at hR6' h6l ⊢
    clear hR6 hb2 hb1 hR1
    replace hR6' := Aside0.mk hR6'; replace hR2 := Aside0.mk hR2; replace hB2 := Aside0.mk hB2; replace hs1 := Aside0.mk hs1; replace hs2 := Aside0.mk hs2; replace hnk := Aside0.mk hnk; replace h6l := Aside0.mk h6l
    go_wp2_with fail
    go_loopw [5, 7] (fun v5 iv wr => ∃ k : Nat, iv = .int .i64 k ∧ k ≤ nk ∧ Aside0 ((Kd.int .i64).R 3 wr w.heap.size (fun _ => True) v5 (id :: ((K.take k).map (runder ps f)).flatten)) ∧ Aside0 (Below w.heap.size w wr) ∧ Aside0 (∀ q, v5.ownBlock = some q → q < w1.heap.size ∨ w2.heap.size ≤ q) ∧ Aside0 ((Kd.int .i64).R 3 wr w1.heap.size (fun k => w1.heap.size ≤ k ∧ k < w2.heap.size) (.slice A6 nk c6) K) ∧ Aside0 (w2.heap.size ≤ wr.heap.size)) (fun _ iv _ => nk - (intOf iv).toNat)
    case atStart => exact ⟨0, rfl, Nat.zero_le _, ⟨by simpa using hR2.out⟩, hB2, ⟨fun q hq => by (have h0 : w.heap.size = q := by simpa [Value.ownBlock] using hq); (have := hs1.out); omega⟩, hR6', ⟨Nat.le_refl _⟩⟩
    case round =>
      obtain ⟨k, rfl, hk, hR, hb, hq, hKr, hsz⟩ := hrel
      by_cases hlt : k < nk
      · have p1 : 0 ≤ (k : Int) := by omega
        have q1 : (k : Int) < (nk : Int) := by omega
        obtain ⟨x, hx⟩ : ∃ x, K[k]? = some x := ⟨_, List.getElem?_eq_getElem (by rw [hnk.out]; exact hlt)⟩
        obtain ⟨hn9, hc9, hC9⟩ := Kd.R_reads' hKr.out
        rw [hnk.out] at hC9
        obtain ⟨ad, rfl, y1⟩ := Kd.at_int hC9 (k : Int) p1 q1
        rw [Int.toNat_natCast, show Go.Proofs.YtpnjhffnlafabaaGreatDoorW.PrintWords.rd K k = x from by unfold Go.Proofs.YtpnjhffnlafabaaGreatDoorW.PrintWords.rd; rw [Int.toNat_natCast, List.getD_eq_getElem?_getD, hx]; rfl] at y1
        have hmx : x ∈ K := List.mem_of_getElem? hx
        have kx := ih.out x hmx wr hb.out
        have hxl : (runder ps f x).length ≤ ((K.map (runder ps f)).flatten).length := len_of_mem hmx
        have hfl := flatK_len (f := runder ps f) K k
        have hft := flatK_take (f := runder ps f) hx
        have hll := hl.out
        clear hn9 hc9 hC9
        obtain ⟨L, hL⟩ : ∃ L, runder ps f x = L := ⟨_, rfl⟩
        rw [hL] at kx hxl hft
        obtain ⟨M, hM⟩ : ∃ M, ((K.take k).map (runder ps f)).flatten = M := ⟨_, rfl⟩
        rw [hM] at hR hfl hft
        have hl8 : ((id :: M).length + L.length) * 8 ≤ 140737488355328 := by rw [List.length_cons]; omega
        clear hfl hxl hll hM hL hmx
        replace hx := Aside0.mk hx; replace kx := Aside0.mk kx; replace hft := Aside0.mk hft; replace hl8 := Aside0.mk hl8
        go_wp2_with (first
          | (go_at_call 89; (with_reducible refine kx.out.mono ?_); rintro e w4 ⟨v9, rfl, hR9, hb9⟩; obtain ⟨A9, c9, rfl, hc9, hC9⟩ := Kd.R_reads hR9; have hRx := Aside0.mk (Kd.R_below hR.out hb9); have hbx := Aside0.mk (hb.out.trans (hb9.mono hb.out.size)); have hKx := Aside0.mk (Kd.R_below hKr.out hb9); have hs9 := Aside0.mk hb9.size; clear hb9 hR9; replace hc9 := Aside0.mk hc9; replace hC9 := Aside0.mk hC9)
          | ((with_reducible refine gate_builtin (b := .append) (xs := #[.tmp 23, .tmp 29]) rfl ?_); at_builtin; refine Kd.R_append_rows (Kd.int .i64) (w0 := w) w.heap.size rfl (.tmp 23) (.tmp 29) 85 3 (.int .i64 0) 8 rfl Tryz.underlying85 info_intR rfl (by decide) (by omega) u5 (id :: M) L A9 L.length c9 (fun _ => True) (fun _ => False) rfl rfl hRx.out hC9.out (fun _ _ h => h) (fun _ hk => hk.elim) (fun _ _ => trivial) hbx.out hbx.out.size hl8.out ?_; intro v10 w10 hR10 hb10 hg10 hat10; have hK10 := Aside0.mk (Kd.R_grown hKx.out hg10 (fun j hj e => by rcases hq.out j e.symm with h | h <;> omega)); have hs10 := Aside0.mk hg10.size; replace hR10 := Aside0.mk hR10; replace hb10 := Aside0.mk hb10; replace hg10 := Aside0.mk hg10; replace hat10 := Aside0.mk hat10))
        go_roundw
        case measure => show nk - ((k : Int) + 1).toNat < nk - (k : Int).toNat; omega
        case rel =>
          refine ⟨k + 1, by simp, by omega, ⟨by rw [hft.out]; exact hR10.out⟩, hb10, ⟨fun q h => ?_⟩, hK10, ⟨by have := hsz.out; have := hs9.out; have := hs10.out; omega⟩⟩
          rcases hat10.out with h1 | ⟨b, h1, h2⟩
          · exact hq.out q (by rw [← h1]; exact h)
          · rw [h1] at h; cases h
            have := hsz.out; have := hs9.out; omega
      · obtain rfl : nk = k := by omega
        have e0 : ((K.take nk).map (runder ps f)).flatten = (K.map (runder ps f)).flatten := by rw [List.take_of_length_le (by rw [hnk.out]; exact Nat.le_refl _)]
        rw [e0] at hR
        go_wp2_with fail
        go_ret
        exact ⟨_, rfl, hR.out, hb.out⟩
end Go.Proofs.YtpnjhffnlafabaaGreatDoor.Sn
