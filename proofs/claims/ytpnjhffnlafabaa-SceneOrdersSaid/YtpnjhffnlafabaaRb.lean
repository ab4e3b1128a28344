/- The reference of law 13: where a group stands, its steps to the top, whether all come there, how tall it is: walked by hand. The reference of layer 12: a tree in memory, Has, Kids: walked by hand. -/
import Derived.Test.YtpnjhffnlafabaaSc6
namespace Go.Proofs.Ytpnjhffnlafabaa.Sn
set_option linter.unusedVariables false
set_option linter.unusedSimpArgs false
open Go.RowKit Go.Sort Go.Shelf Go.Lib Go.Proofs.Bk Go.Proofs.Bm Go.Proofs.Op Go.Proofs.Sc Go.Proofs.Kf Go.Proofs.YtpnjhffnlafabaaW.PrintWords Go.Proofs.Ytpnjhffnlafabaa.PSceneOrders

/-- where the first group of a number stands -/
def gidx : List SG → Int → Option Nat
  | [], _ => none
  | x :: xs, id => if x.f0 = id then some 0 else (gidx xs id).map (· + 1)
def gint (xs : List SG) (id : Int) : Int := match gidx xs id with | some k => k | none => -1
theorem gidx_some : ∀ (xs : List SG) (id : Int) (k : Nat) (x : SG), xs[k]? = some x → x.f0 = id → (∀ y ∈ xs.take k, y.f0 ≠ id) → gidx xs id = some k
  | [], id, k, x, h, _, _ => by simp at h
  | z :: xs, id, 0, x, h, hx, _ => by
    simp at h; subst h
    unfold gidx; rw [if_pos hx]
  | z :: xs, id, k + 1, x, h, hx, hn => by
    unfold gidx
    rw [if_neg (hn z (by simp)), gidx_some xs id k x (by simpa using h) hx (fun y hy => hn y (by simp [hy]))]
    rfl
theorem gidx_none : ∀ (xs : List SG) (id : Int), (∀ y ∈ xs, y.f0 ≠ id) → gidx xs id = none
  | [], _, _ => rfl
  | z :: xs, id, h => by
    unfold gidx
    rw [if_neg (h z (by simp)), gidx_none xs id (fun y hy => h y (by simp [hy]))]
    rfl
theorem gidx_at : ∀ (xs : List SG) (id : Int) (k : Nat), gidx xs id = some k → ∃ x, xs[k]? = some x ∧ x.f0 = id
  | [], id, k, h => by cases h
  | z :: xs, id, k, h => by
    unfold gidx at h
    by_cases hz : z.f0 = id
    · rw [if_pos hz] at h; cases h; exact ⟨z, rfl, hz⟩
    · rw [if_neg hz] at h
      cases h1 : gidx xs id with
      | none => rw [h1] at h; cases h
      | some j =>
        rw [h1] at h; cases h
        obtain ⟨x, h2, h3⟩ := gidx_at xs id j h1
        exact ⟨x, by simpa using h2, h3⟩
def IntPost (r : Int) (w : World) (e : Ending) (w' : World) : Prop := e = .returned (.int .i64 r) ∧ Below w.heap.size w w'
set_option maxHeartbeats 4000000 in
set_option maxRecDepth 100000 in
theorem group_calls (A : Option Addr) (n c : Nat) (xs : List SG) (S2 : Value) (id : Int) (w : World) (hG : kG.C w A n xs) :
    Calls Try.prog 26 #[.agg #[.slice A n c, S2], .int .i64 id] w (IntPost (gint xs id) w) := by
  have hln := hG.1
  have hn63 := hG.2.1
  have HG := Aside0.mk hG
  clear hG
  replace hln := Aside0.mk hln
  go_enter Try.func26, Try.ntmps26
  go_wp2_with (((with_reducible refine gate_dst (N := 2) rfl ?_); refine box_event ?hg (N := 2) ?hd (cs := #[.slice A n c, S2]) (t := 25) ?hr ?_; (case hd => rfl); (case hg => rfl); (case hr => first | (go_simp; done) | (go_simp; rfl)); intro b1 hb1 w1 kb1 bb1; replace hb1 := Aside0.mk hb1; replace kb1 := Aside0.mk kb1; replace bb1 := Aside0.mk bb1); have hB1 := bb1; have c0 := (cell_row kb1.out 0).trans (rfl : _ = some (Value.slice A n c)))
  have HG1 := Aside0.mk (Kd.C_below HG.out hB1.out)
  go_loop [5] (fun iv => ∃ k : Nat, iv = .int .i64 k ∧ k ≤ n ∧ Aside0 (∀ y ∈ xs.take k, y.f0 ≠ id)) (fun iv => n - (intOf iv).toNat)
  case atStart => exact ⟨0, rfl, Nat.zero_le _, ⟨by simp⟩⟩
  case round =>
    obtain ⟨k, rfl, hk, hR⟩ := hrel
    by_cases hlt : k < n
    · have p1 : 0 ≤ (k : Int) := by omega
      have q1 : (k : Int) < (n : Int) := by omega
      obtain ⟨b, o, x, rfl, -, hx, t0, t1, t2, t3, t4, t5⟩ := G_one HG1.out hlt
      clear t1 t2 t3 t4 t5
      have hz : (x.f0 == id) = decide (x.f0 = id) := rfl
      replace hx := Aside0.mk hx
      by_cases h1 : x.f0 = id
      · have e0 : gint xs id = (k : Int) := by unfold gint; rw [gidx_some xs id k x hx.out h1 hR.out]
        rw [decide_eq_true h1] at hz
        replace h1 := Aside0.mk h1; replace e0 := Aside0.mk e0
        go_wp2_with fail
        go_ret
        exact ⟨by rw [e0.out]; rfl, hB1.out⟩
      · have e1 : ∀ y ∈ xs.take (k + 1), y.f0 ≠ id := by
          intro y hy
          rw [List.take_add_one, hx.out, List.mem_append] at hy
          rcases hy with hy | hy
          · exact hR.out y hy
          · simp at hy; subst hy; exact h1
        rw [decide_eq_false h1] at hz
        replace h1 := Aside0.mk h1; replace e1 := Aside0.mk e1
        go_wp2_with fail
        go_round
        case rel => exact ⟨k + 1, by simp, by omega, e1⟩
        case measure => show n - ((k : Int) + 1).toNat < n - (k : Int).toNat; omega
    · obtain rfl : n = k := by omega
      have e0 : gint xs id = -1 := by
        unfold gint
        rw [gidx_none xs id (by have := hR.out; rw [List.take_of_length_le (by rw [hln.out]; exact Nat.le_refl _)] at this; exact this)]
      replace e0 := Aside0.mk e0
      go_wp2_with fail
      go_ret
      exact ⟨by rw [e0.out]; rfl, hB1.out⟩
/-- the steps of a group to the first one, as the reference reckons them -/
def rsteps (xs : List SG) : Nat → Nat → Nat → Int
  | 0, _, _ => -1
  | f + 1, k, j => match xs[j]? with
    | none => -1
    | some g => if g.f1 = 0 then (if j = 0 then (k : Int) else -1) else match gidx xs g.f1 with
      | none => -1
      | some j' => if xs.length < k + 1 then -1 else rsteps xs f (k + 1) j'
theorem gidx_lt {xs : List SG} {id : Int} {k : Nat} (h : gidx xs id = some k) : k < xs.length := by
  obtain ⟨x, hx, _⟩ := gidx_at xs id k h
  exact (List.getElem?_eq_some_iff.1 hx).1
set_option maxHeartbeats 4000000 in
set_option maxRecDepth 100000 in
theorem Steps_calls (A : Option Addr) (n c : Nat) (xs : List SG) (B : Option Addr) (m d : Nat) (i : Nat) (w : World) (hG : kG.C w A n xs) (hi : i < n) (hn : n < 17592186044416) :
    Calls Try.prog 35 #[.agg #[.slice A n c, .slice B m d], .int .i64 i] w (IntPost (rsteps xs (n + 1) 0 i) w) := by
  have hln := hG.1
  have hn63 := hG.2.1
  have HG := Aside0.mk hG
  clear hG
  obtain ⟨r, hr⟩ : ∃ r, rsteps xs (n + 1) 0 i = r := ⟨_, rfl⟩
  rw [hr]
  replace hln := Aside0.mk hln; replace hr := Aside0.mk hr
  go_enter Try.func35, Try.ntmps35
  go_wp2_with (((with_reducible refine gate_dst (N := 2) rfl ?_); refine box_event ?hg (N := 2) ?hd (cs := #[.slice A n c, .slice B m d]) (t := 25) ?hr ?_; (case hd => rfl); (case hg => rfl); (case hr => first | (go_simp; done) | (go_simp; rfl)); intro b1 hb1 w1 kb1 bb1; replace hb1 := Aside0.mk hb1; replace kb1 := Aside0.mk kb1; replace bb1 := Aside0.mk bb1); have hB1 := bb1; have c0 := (cell_row kb1.out 0).trans (rfl : _ = some (Value.slice A n c)); have c1 := (cell_row kb1.out 1).trans (rfl : _ = some (Value.slice B m d)); replace c0 := Aside0.mk c0; replace c1 := Aside0.mk c1)
  go_loopw [1, 5] (fun jv kv wr => ∃ j k : Nat, jv = .int .i64 j ∧ kv = .int .i64 k ∧ j < n ∧ k ≤ n ∧ Aside0 (rsteps xs (n + 1 - k) k j = r) ∧ Aside0 (Below w.heap.size w wr) ∧ Aside0 (wr.cell? ⟨b1, 0, none⟩ = some (Value.slice A n c)) ∧ Aside0 (wr.cell? ⟨b1, 1, none⟩ = some (Value.slice B m d))) (fun _ kv _ => n + 1 - (intOf kv).toNat)
  case atStart => exact ⟨i, 0, rfl, rfl, hi, Nat.zero_le _, ⟨hr.out⟩, hB1, c0, c1⟩
  case round =>
    obtain ⟨j, k, rfl, rfl, hj, hk, hR, hb, c0, c1⟩ := hrel
    have p1 : 0 ≤ (j : Int) := by omega
    have q1 : (j : Int) < (n : Int) := by omega
    have HG1 := Aside0.mk (Kd.C_below HG.out hb.out)
    obtain ⟨b, o, x, rfl, -, hx, t0, t1, t2, t3, t4, t5⟩ := G_one HG1.out hj
    clear t0 t2 t3 t4 t5
    replace c0 := c0.out
    replace c1 := c1.out
    have hz : (x.f1 != 0) = !decide (x.f1 = 0) := rfl
    have hR2 := hR.out
    rw [show n + 1 - k = (n - k) + 1 by omega] at hR2
    unfold rsteps at hR2
    rw [hx] at hR2
    simp only [] at hR2
    rw [hln.out] at hR2
    have kg := fun W (hW : Below w.heap.size w W) => group_calls _ n c xs (.slice B m d) x.f1 W (Kd.C_below HG.out hW)
    have hgi : ∀ q, gidx xs x.f1 = q → (gint xs x.f1 = match q with | some k => (k : Int) | none => -1) := fun q h => by unfold gint; rw [h]
    replace hx := Aside0.mk hx; replace hR := Aside0.mk hR
    by_cases h1 : x.f1 = 0
    · rw [decide_eq_true h1] at hz
      rw [if_pos h1] at hR2
      clear kg hgi
      replace h1 := Aside0.mk h1
      by_cases h2 : j = 0
      · rw [if_pos h2] at hR2
        subst h2
        replace hR2 := Aside0.mk hR2
        go_wp2_with fail
        go_ret
        exact ⟨by rw [← hR2.out]; rfl, hb.out⟩
      · rw [if_neg h2] at hR2
        replace hR2 := Aside0.mk hR2
        have h3 : (((j : Nat) : Int) != 0) = true := by simpa using h2
        go_wp2_with fail
        go_ret
        exact ⟨by rw [← hR2.out]; rfl, hb.out⟩
    · rw [decide_eq_false h1] at hz
      rw [if_neg h1] at hR2
      replace h1 := Aside0.mk h1
      have hbd := Aside0.mk hb.out.drew
      cases hg : gidx xs x.f1 with
      | none =>
        rw [hg] at hR2
        rw [hgi none hg] at kg
        clear hgi
        replace hR2 := Aside0.mk hR2; replace kg := Aside0.mk kg; replace hg := Aside0.mk hg
        go_wp2_with fail
        go_region_with (first
          | (go_at_call 26; (with_reducible refine (kg.out _ hbd.out).mono ?_); rintro e w4 ⟨rfl, hb4⟩; have hB4 := Aside0.mk (hbd.out.trans (hb4.mono hbd.out.size)); have s0 := pw_cell_below hb4 c0; have s1 := pw_cell_below hb4 c1; clear hb4)
          | ((with_reducible refine gate_op (.load 25 (.tmp 1)) rfl ?_); refine wpList_load_midB rfl _ _ rfl ⟨b1, 0, none⟩ rfl [.slice (some ⟨b, o, none⟩) n c, .slice B m d] _ (two_cells c0 c1) Try.underlying25 rfl info_S ?_))
        all_goals clear c0 c1
        all_goals go_wp2_with fail
        all_goals go_ret
        all_goals exact ⟨by rw [← hR2.out]; rfl, hB4.out⟩
      | some j' =>
        have hj' : j' < n := by have := gidx_lt hg; have := hln.out; omega
        rw [hg] at hR2
        rw [hgi (some j') hg] at kg
        simp only [] at kg hR2
        clear hgi
        have p2 : 0 ≤ (j' : Int) := by omega
        have q2 : (j' : Int) < (n : Int) := by omega
        by_cases h3 : n < k + 1
        · have h4 : (n : Int) < (k : Int) + 1 := by omega
          rw [if_pos h3] at hR2
          replace hR2 := Aside0.mk hR2; replace kg := Aside0.mk kg; replace hg := Aside0.mk hg
          clear h3
          go_wp2_with fail
          go_region_with (first
            | (go_at_call 26; (with_reducible refine (kg.out _ hbd.out).mono ?_); rintro e w4 ⟨rfl, hb4⟩; have hB4 := Aside0.mk (hbd.out.trans (hb4.mono hbd.out.size)); have s0 := pw_cell_below hb4 c0; have s1 := pw_cell_below hb4 c1; clear hb4)
            | ((with_reducible refine gate_op (.load 25 (.tmp 1)) rfl ?_); refine wpList_load_midB rfl _ _ rfl ⟨b1, 0, none⟩ rfl [.slice (some ⟨b, o, none⟩) n c, .slice B m d] _ (two_cells c0 c1) Try.underlying25 rfl info_S ?_))
          all_goals clear c0 c1
          all_goals go_wp2_with fail
          all_goals go_ret
          all_goals exact ⟨by rw [← hR2.out]; rfl, hB4.out⟩
        · have h4 : (k : Int) + 1 ≤ (n : Int) := by omega
          rw [if_neg h3] at hR2
          replace hR2 := Aside0.mk hR2; replace kg := Aside0.mk kg; replace hg := Aside0.mk hg
          go_wp2_with fail
          go_region_with (first
            | (go_at_call 26; (with_reducible refine (kg.out _ hbd.out).mono ?_); rintro e w4 ⟨rfl, hb4⟩; have hB4 := Aside0.mk (hbd.out.trans (hb4.mono hbd.out.size)); have s0 := pw_cell_below hb4 c0; have s1 := pw_cell_below hb4 c1; clear hb4)
            | ((with_reducible refine gate_op (.load 25 (.tmp 1)) rfl ?_); refine wpList_load_midB rfl _ _ rfl ⟨b1, 0, none⟩ rfl [.slice (some ⟨b, o, none⟩) n c, .slice B m d] _ (two_cells c0 c1) Try.underlying25 rfl info_S ?_))
          all_goals clear c0 c1
          all_goals go_wp2_with fail
          all_goals go_roundw
          all_goals first
            | (case rel => exact ⟨j', k + 1, rfl, by simp, hj', by omega, ⟨by rw [show n + 1 - (k + 1) = n - k by omega]; exact hR2.out⟩, hB4, ⟨s0⟩, ⟨s1⟩⟩)
            | (case measure => show n + 1 - ((k : Int) + 1).toNat < n + 1 - (k : Int).toNat; omega)
/-- do all come to the first one? -/
def rwhole (xs : List SG) : Bool := (List.range xs.length).all fun i => decide (0 ≤ rsteps xs (xs.length + 1) 0 i)
def rtall (xs : List SG) : Int := (List.range xs.length).foldl (fun t i => max t (rsteps xs (xs.length + 1) 0 i)) 0
set_option maxHeartbeats 4000000 in
set_option maxRecDepth 100000 in
theorem Whole_calls (A : Option Addr) (n c : Nat) (xs : List SG) (B : Option Addr) (m d : Nat) (w : World) (hG : kG.C w A n xs) (hn : n < 17592186044416) :
    Calls Try.prog 23 #[.agg #[.slice A n c, .slice B m d]] w (AnyPost (rwhole xs) w) := by
  have hln := hG.1
  have HG := Aside0.mk hG
  clear hG
  obtain ⟨r, hr⟩ : ∃ r, rwhole xs = r := ⟨_, rfl⟩
  rw [hr]
  unfold rwhole at hr
  rw [hln] at hr
  replace hln := Aside0.mk hln; replace hr := Aside0.mk hr
  go_enter Try.func23, Try.ntmps23
  go_wp2_with (((with_reducible refine gate_dst (N := 1) rfl ?_); refine box_event ?hg (N := 1) ?hd (cs := #[.slice A n c, .slice B m d]) (t := 25) ?hr ?_; (case hd => rfl); (case hg => rfl); (case hr => first | (go_simp; done) | (go_simp; rfl)); intro b1 hb1 w1 kb1 bb1; replace hb1 := Aside0.mk hb1; replace kb1 := Aside0.mk kb1; replace bb1 := Aside0.mk bb1); have hB1 := bb1; have c0 := (cell_row kb1.out 0).trans (rfl : _ = some (Value.slice A n c)); have c1 := (cell_row kb1.out 1).trans (rfl : _ = some (Value.slice B m d)); replace c0 := Aside0.mk c0; replace c1 := Aside0.mk c1)
  go_loopw [3] (fun iv wr => ∃ k : Nat, iv = .int .i64 k ∧ k ≤ n ∧ Aside0 ((List.range k).all (fun i => decide (0 ≤ rsteps xs (n + 1) 0 i)) = true) ∧ Aside0 (Below w.heap.size w wr) ∧ Aside0 (wr.cell? ⟨b1, 0, none⟩ = some (Value.slice A n c)) ∧ Aside0 (wr.cell? ⟨b1, 1, none⟩ = some (Value.slice B m d))) (fun iv _ => n - (intOf iv).toNat)
  case atStart => exact ⟨0, rfl, Nat.zero_le _, ⟨rfl⟩, hB1, c0, c1⟩
  case round =>
    obtain ⟨k, rfl, hk, hR, hb, c0, c1⟩ := hrel
    replace c0 := c0.out
    replace c1 := c1.out
    by_cases hlt : k < n
    · have kg := fun W (hW : Below w.heap.size w W) => Steps_calls A n c xs B m d k W (Kd.C_below HG.out hW) hlt hn
      have hbd := hb
      by_cases h0 : 0 ≤ rsteps xs (n + 1) 0 k
      · have e1 : (List.range (k + 1)).all (fun i => decide (0 ≤ rsteps xs (n + 1) 0 i)) = true := by
          rw [List.range_succ, List.all_append, hR.out]; simp [h0]
        generalize rsteps xs (n + 1) 0 k = st at kg h0
        replace e1 := Aside0.mk e1; replace kg := Aside0.mk kg
        go_wp2_with (first
          | (go_at_call 35; (with_reducible refine (kg.out _ hbd.out).mono ?_); rintro e w4 ⟨rfl, hb4⟩; have hB4 := Aside0.mk (hbd.out.trans (hb4.mono hbd.out.size)); have s0 := pw_cell_below hb4 c0; have s1 := pw_cell_below hb4 c1; clear hb4 c0 c1)
          | ((with_reducible refine gate_op (.load 25 (.tmp 1)) rfl ?_); refine wpList_load_midB rfl _ _ rfl ⟨b1, 0, none⟩ rfl [.slice A n c, .slice B m d] _ (two_cells c0 c1) Try.underlying25 rfl info_S ?_))
        go_roundw
        case rel => exact ⟨k + 1, by simp, by omega, e1, hB4, ⟨s0⟩, ⟨s1⟩⟩
        case measure => show n - ((k : Int) + 1).toNat < n - (k : Int).toNat; omega
      · have e1 : r = false := by
          rw [← hr.out]
          rw [← Bool.not_eq_true, List.all_eq_true]
          intro h
          exact h0 (of_decide_eq_true (h k (List.mem_range.2 hlt)))
        rw [e1]
        generalize rsteps xs (n + 1) 0 k = st at kg h0
        replace e1 := Aside0.mk e1; replace kg := Aside0.mk kg
        go_wp2_with (first
          | (go_at_call 35; (with_reducible refine (kg.out _ hbd.out).mono ?_); rintro e w4 ⟨rfl, hb4⟩; have hB4 := Aside0.mk (hbd.out.trans (hb4.mono hbd.out.size)); have s0 := pw_cell_below hb4 c0; have s1 := pw_cell_below hb4 c1; clear hb4 c0 c1)
          | ((with_reducible refine gate_op (.load 25 (.tmp 1)) rfl ?_); refine wpList_load_midB rfl _ _ rfl ⟨b1, 0, none⟩ rfl [.slice A n c, .slice B m d] _ (two_cells c0 c1) Try.underlying25 rfl info_S ?_))
        go_ret
        exact ⟨rfl, hB4.out⟩
    · obtain rfl : n = k := by omega
      have e1 : r = true := by rw [← hr.out]; exact hR.out
      replace e1 := Aside0.mk e1
      go_wp2_with fail
      go_ret
      exact ⟨by rw [e1.out]; rfl, hb.out⟩
set_option maxHeartbeats 4000000 in
set_option maxRecDepth 100000 in
theorem rTall_calls (A : Option Addr) (n c : Nat) (xs : List SG) (B : Option Addr) (m d : Nat) (w : World) (hG : kG.C w A n xs) (hn : n < 17592186044416) :
    Calls Try.prog 17 #[.agg #[.slice A n c, .slice B m d]] w (IntPost (rtall xs) w) := by
  have hln := hG.1
  have HG := Aside0.mk hG
  clear hG
  obtain ⟨r, hr⟩ : ∃ r, rtall xs = r := ⟨_, rfl⟩
  rw [hr]
  unfold rtall at hr
  rw [hln] at hr
  replace hln := Aside0.mk hln; replace hr := Aside0.mk hr
  go_enter Try.func17, Try.ntmps17
  go_wp2_with (((with_reducible refine gate_dst (N := 1) rfl ?_); refine box_event ?hg (N := 1) ?hd (cs := #[.slice A n c, .slice B m d]) (t := 25) ?hr ?_; (case hd => rfl); (case hg => rfl); (case hr => first | (go_simp; done) | (go_simp; rfl)); intro b1 hb1 w1 kb1 bb1; replace hb1 := Aside0.mk hb1; replace kb1 := Aside0.mk kb1; replace bb1 := Aside0.mk bb1); have hB1 := bb1; have c0 := (cell_row kb1.out 0).trans (rfl : _ = some (Value.slice A n c)); have c1 := (cell_row kb1.out 1).trans (rfl : _ = some (Value.slice B m d)); replace c0 := Aside0.mk c0; replace c1 := Aside0.mk c1)
  go_loopw [3, 4] (fun tv iv wr => ∃ (t : Int) (k : Nat), tv = .int .i64 t ∧ iv = .int .i64 k ∧ k ≤ n ∧ Aside0 ((List.range k).foldl (fun t i => max t (rsteps xs (n + 1) 0 i)) 0 = t) ∧ Aside0 (Below w.heap.size w wr) ∧ Aside0 (wr.cell? ⟨b1, 0, none⟩ = some (Value.slice A n c)) ∧ Aside0 (wr.cell? ⟨b1, 1, none⟩ = some (Value.slice B m d))) (fun _ iv _ => n - (intOf iv).toNat)
  case atStart => exact ⟨0, 0, rfl, rfl, Nat.zero_le _, ⟨rfl⟩, hB1, c0, c1⟩
  case round =>
    obtain ⟨t, k, rfl, rfl, hk, hR, hb, c0, c1⟩ := hrel
    replace c0 := c0.out
    replace c1 := c1.out
    by_cases hlt : k < n
    · have kg := fun W (hW : Below w.heap.size w W) => Steps_calls A n c xs B m d k W (Kd.C_below HG.out hW) hlt hn
      have hbd := hb
      have e1 : (List.range (k + 1)).foldl (fun t i => max t (rsteps xs (n + 1) 0 i)) 0 = max t (rsteps xs (n + 1) 0 k) := by
        rw [List.range_succ, List.foldl_append, hR.out]; rfl
      generalize rsteps xs (n + 1) 0 k = st at kg e1
      replace e1 := Aside0.mk e1; replace kg := Aside0.mk kg
      by_cases h0 : t < st
      all_goals go_wp2_with (first
        | (go_at_call 35; (with_reducible refine (kg.out _ hbd.out).mono ?_); rintro e w4 ⟨rfl, hb4⟩; have hB4 := Aside0.mk (hbd.out.trans (hb4.mono hbd.out.size)); have s0 := pw_cell_below hb4 c0; have s1 := pw_cell_below hb4 c1; clear hb4 c0 c1)
        | ((with_reducible refine gate_op (.load 25 (.tmp 1)) rfl ?_); refine wpList_load_midB rfl _ _ rfl ⟨b1, 0, none⟩ rfl [.slice A n c, .slice B m d] _ (two_cells c0 c1) Try.underlying25 rfl info_S ?_))
      all_goals go_roundw
      all_goals first
        | (case rel => exact ⟨_, k + 1, rfl, by simp, by omega, ⟨e1.out.trans (by omega)⟩, hB4, ⟨s0⟩, ⟨s1⟩⟩)
        | (case measure => show n - ((k : Int) + 1).toNat < n - (k : Int).toNat; omega)
    · obtain rfl : n = k := by omega
      have e1 : t = r := by rw [← hr.out]; exact hR.out.symm
      replace e1 := Aside0.mk e1
      go_wp2_with fail
      go_ret
      exact ⟨by rw [← e1.out]; rfl, hb.out⟩
set_option maxHeartbeats 4000000 in
set_option maxRecDepth 100000 in
theorem rIds_calls (A : Option Addr) (n c : Nat) (xs : List SG) (B : Option Addr) (m d : Nat) (ts : List ST) (w : World) (hG : kG.C w A n xs) (hc : n ≤ c) (hT : kT.C w B m ts) (hd : m ≤ d) (hn : n + m < 17592186044416) :
    Calls Try.prog 15 #[.agg #[.slice A n c, .slice B m d]] w (IdsPost (idsS xs ts) w) := by
  have hln := hG.1
  have hlm := hT.1
  have HG := Aside0.mk hG
  have HT := Aside0.mk hT
  clear hG hT
  replace hln := Aside0.mk hln; replace hlm := Aside0.mk hlm; replace hc := Aside0.mk hc; replace hd := Aside0.mk hd
  go_enter Try.func15, Try.ntmps15
  go_wp2_with (((with_reducible refine gate_dst (N := 1) rfl ?_); refine box_event ?hg (N := 1) ?hd (cs := #[.slice A n c, .slice B m d]) (t := 25) ?hr ?_; (case hd => rfl); (case hg => rfl); (case hr => first | (go_simp; done) | (go_simp; rfl)); intro b1 hb1 w1 kb1 bb1; replace hb1 := Aside0.mk hb1; replace kb1 := Aside0.mk kb1; replace bb1 := Aside0.mk bb1); have k1 := kb1; have hB1 := bb1)
  go_loopw [3, 4] (fun v3 iv wr => ∃ k : Nat, iv = .int .i64 k ∧ k ≤ n ∧ Aside0 ((Kd.int .i64).R 3 wr w.heap.size (fun _ => True) v3 ((xs.take k).map (·.f0))) ∧ Aside0 (Below w.heap.size w wr) ∧ Aside0 (wr.heap[b1]? = some (.cells #[.slice A n c, .slice B m d] 25 (0, 0)))) (fun _ iv _ => n - (intOf iv).toNat)
  case atStart => exact ⟨0, rfl, Nat.zero_le _, ⟨Kd.R_nil _ _ _ _ _⟩, hB1, k1⟩
  case round =>
    obtain ⟨k, rfl, hk, hR, hb, k1⟩ := hrel
    have c0 := (cell_row k1.out 0).trans (rfl : _ = some (Value.slice A n c))
    have c1 := (cell_row k1.out 1).trans (rfl : _ = some (Value.slice B m d))
    by_cases hlt : k < n
    · have p1 : 0 ≤ (k : Int) := by omega
      have q1 : (k : Int) < (n : Int) := by omega
      obtain ⟨b, o, x, rfl, -, hx, t0, t1, t2, t3, t4, t5⟩ := G_one (Kd.C_below HG.out hb.out) hlt
      have hl8 : (((xs.take k).map (·.f0)).length + 1) * 8 ≤ 140737488355328 := by
        have h1 := List.length_take_le k xs
        have := hln.out
        simp only [List.length_map, List.length_append]
        omega
      have hacc : (xs.take (k + 1)).map (·.f0) = (xs.take k).map (·.f0) ++ [x.f0] := by rw [List.take_add_one, hx]; simp
      replace hx := Aside0.mk hx; replace hl8 := Aside0.mk hl8; replace hacc := Aside0.mk hacc
      go_wp2_with (((with_reducible refine gate_builtin (b := .append) (xs := #[.tmp 13, .tmp 20]) rfl ?_); at_builtin; refine Kd.R_append (Kd.int .i64) (w0 := w) w.heap.size rfl (.tmp 13) (.tmp 20) 31 3 (.int .i64 0) 8 rfl Try.underlying31 info_intR rfl (by decide) (by omega) u3 ((xs.take k).map (·.f0)) x.f0 [.int .i64 x.f0] (fun _ => True) (fun _ => False) rfl rfl ?aP (fun _ hk => hk.elim) (fun _ _ => trivial) hR.out hb.out hb.out.size hl8.out ?_; (case aP => exact rfl); intro v4 w4 hR4 hb4 hg4 hat4; have k14 := (hg4.block b1 (lt_row k1.out) (fun e => Kd.R_ne hR.out k1.out (by decide) e)).trans k1.out; clear hat4; replace hR4 := Aside0.mk hR4; replace hb4 := Aside0.mk hb4; replace hg4 := Aside0.mk hg4; replace k14 := Aside0.mk k14))
      go_roundw
      case rel => exact ⟨k + 1, by simp, by omega, ⟨by rw [hacc.out]; exact hR4.out⟩, hb4, k14⟩
      case measure => show n - ((k : Int) + 1).toNat < n - (k : Int).toNat; omega
    · obtain rfl : n = k := by omega
      have e0 : (xs.take n).map (·.f0) = xs.map (·.f0) := by rw [List.take_of_length_le (by rw [hln.out]; exact Nat.le_refl _)]
      rw [e0] at hR
      go_wp2_with fail
      go_loopw [3, 5] (fun v3 iv wr => ∃ k : Nat, iv = .int .i64 k ∧ k ≤ m ∧ Aside0 ((Kd.int .i64).R 3 wr w.heap.size (fun _ => True) v3 (xs.map (·.f0) ++ (ts.take k).map (·.f0))) ∧ Aside0 (Below w.heap.size w wr) ∧ Aside0 (wr.heap[b1]? = some (.cells #[.slice A n c, .slice B m d] 25 (0, 0)))) (fun _ iv _ => m - (intOf iv).toNat)
      case atStart => exact ⟨0, rfl, Nat.zero_le _, ⟨by simpa using hR.out⟩, hb, k1⟩
      case round =>
        obtain ⟨k, rfl, hk, hR, hb, k1⟩ := hrel
        have c1 := (cell_row k1.out 1).trans (rfl : _ = some (Value.slice B m d))
        by_cases hlt : k < m
        · have p1 : 0 ≤ (k : Int) := by omega
          have q1 : (k : Int) < (m : Int) := by omega
          obtain ⟨b, o, x, rfl, -, hx, t0, t1, t2, t3, t4, t5, t6, t7⟩ := T_one (Kd.C_below HT.out hb.out) hlt
          have hl8 : ((xs.map (·.f0) ++ (ts.take k).map (·.f0)).length + 1) * 8 ≤ 140737488355328 := by
            have h1 := List.length_take_le k ts
            have := hln.out
            simp only [List.length_map, List.length_append]
            omega
          have hacc : xs.map (·.f0) ++ (ts.take (k + 1)).map (·.f0) = xs.map (·.f0) ++ (ts.take k).map (·.f0) ++ [x.f0] := by rw [List.take_add_one, hx]; simp
          replace hx := Aside0.mk hx; replace hl8 := Aside0.mk hl8; replace hacc := Aside0.mk hacc
          go_wp2_with (((with_reducible refine gate_builtin (b := .append) (xs := #[.tmp 29, .tmp 36]) rfl ?_); at_builtin; refine Kd.R_append (Kd.int .i64) (w0 := w) w.heap.size rfl (.tmp 29) (.tmp 36) 31 3 (.int .i64 0) 8 rfl Try.underlying31 info_intR rfl (by decide) (by omega) u3 (xs.map (·.f0) ++ (ts.take k).map (·.f0)) x.f0 [.int .i64 x.f0] (fun _ => True) (fun _ => False) rfl rfl ?aP (fun _ hk => hk.elim) (fun _ _ => trivial) hR.out hb.out hb.out.size hl8.out ?_; (case aP => exact rfl); intro v4 w4 hR4 hb4 hg4 hat4; have k14 := (hg4.block b1 (lt_row k1.out) (fun e => Kd.R_ne hR.out k1.out (by decide) e)).trans k1.out; clear hat4; replace hR4 := Aside0.mk hR4; replace hb4 := Aside0.mk hb4; replace hg4 := Aside0.mk hg4; replace k14 := Aside0.mk k14))
          go_roundw
          case rel => exact ⟨k + 1, by simp, by omega, ⟨by rw [hacc.out]; exact hR4.out⟩, hb4, k14⟩
          case measure => show m - ((k : Int) + 1).toNat < m - (k : Int).toNat; omega
        · obtain rfl : m = k := by omega
          have e1 : xs.map (·.f0) ++ (ts.take m).map (·.f0) = idsS xs ts := by unfold idsS; rw [List.take_of_length_le (by rw [hlm.out]; exact Nat.le_refl _)]
          have hR' := Aside0.mk (e1 ▸ hR.out)
          go_wp2_with fail
          go_ret
          exact ⟨_, rfl, hR'.out, hb.out⟩

end Go.Proofs.Ytpnjhffnlafabaa.Sn
namespace Go.Proofs.Ytpnjhffnlafabaa.Sn
set_option linter.unusedVariables false
set_option linter.unusedSimpArgs false
open Go.RowKit Go.Sort Go.Shelf Go.Lib Go.Proofs.Bk Go.Proofs.Bm Go.Proofs.Op Go.Proofs.Sc Go.Proofs.Kf Go.Proofs.YtpnjhffnlafabaaW.PrintWords Go.Proofs.Ytpnjhffnlafabaa.PSceneOrders

abbrev SP := S92
abbrev kP : Kd SP := k92
instance : Inhabited SP := ⟨z92⟩
/-- a pair of a row, its cells read at the place that a walk reckons -/
theorem P_one {A : Option Addr} {n : Nat} {ts : List SP} {w : World} (h : kP.C w A n ts) {k : Nat} (hk : k < n) :
    ∃ b o x, A = some ⟨b, o, none⟩ ∧ b < w.heap.size ∧ ts[k]? = some x ∧ w.cell? ⟨b, o + k * 2, none⟩ = some (.int .i64 x.f0) ∧ w.cell? ⟨b, o + k * 2 + 1, none⟩ = some (.int .i64 x.f1) := by
  obtain ⟨b, o, h1, h2, h3⟩ := C_at h (by omega) (by decide)
  have hl : k < ts.length := by have := h.1; omega
  have hx := List.getElem?_eq_getElem hl
  obtain ⟨c, _, q2, q3⟩ := h3 k _ hx
  obtain rfl := k92_open q2
  exact ⟨b, o, ts[k], h1, h2, hx, q3 0 _ rfl, q3 1 _ rfl⟩
/-- a tree in memory: its block, and its row of pairs -/
structure IsTree (w : World) (g : Nat) (P : Option Addr) (c : Nat) (ps : List SP) : Prop where
  cell : w.cell? ⟨g, 0, none⟩ = some (.slice P ps.length c)
  row : kP.C w P ps.length ps
theorem IsTree.below {w w' : World} {g c : Nat} {P : Option Addr} {ps : List SP} (h : IsTree w g P c ps) {b : Nat} (hb : Below b w w') (hs : w.heap.size ≤ b) : IsTree w' g P c ps :=
  ⟨pw_cell_below (hb.mono hs) h.cell, Kd.C_below h.row (hb.mono hs)⟩
def rhas (ps : List SP) (id : Int) : Bool := ps.any (fun p => decide (p.f0 = id)) || decide (id = 0)
set_option maxHeartbeats 4000000 in
set_option maxRecDepth 100000 in
theorem Has_calls (g : Nat) (P : Option Addr) (c : Nat) (ps : List SP) (id : Int) (w : World) (hT : IsTree w g P c ps) :
    Calls Try.prog 63 #[.pointer (some ⟨g, 0, none⟩), .int .i64 id] w (PurePost (.bool (rhas ps id)) w) := by
  obtain ⟨n, hn⟩ : ∃ n, ps.length = n := ⟨_, rfl⟩
  have c0 := hT.cell
  have HP := hT.row
  rw [hn] at c0 HP
  have hn63 := HP.2.1
  clear hT
  replace HP := Aside0.mk HP; replace hn := Aside0.mk hn
  go_enter Try.func63, Try.ntmps63
  go_wp2_with fail
  go_loop [5] (fun iv => ∃ k : Nat, iv = .int .i64 k ∧ k ≤ n ∧ Aside0 ((ps.take k).any (fun p => decide (p.f0 = id)) = false)) (fun iv => n - (intOf iv).toNat)
  case atStart => exact ⟨0, rfl, Nat.zero_le _, ⟨rfl⟩⟩
  case round =>
    obtain ⟨k, rfl, hk, hR⟩ := hrel
    by_cases hlt : k < n
    · have p1 : 0 ≤ (k : Int) := by omega
      have q1 : (k : Int) < (n : Int) := by omega
      obtain ⟨b, o, x, rfl, -, hx, t0, t1⟩ := P_one HP.out hlt
      clear t1
      have hz : (x.f0 == id) = decide (x.f0 = id) := rfl
      replace hx := Aside0.mk hx
      by_cases h1 : x.f0 = id
      · have e0 : rhas ps id = true := by unfold rhas; rw [List.any_eq_true.2 ⟨x, List.mem_of_getElem? hx.out, decide_eq_true h1⟩]; rfl
        rw [decide_eq_true h1] at hz
        replace h1 := Aside0.mk h1; replace e0 := Aside0.mk e0
        go_wp2_with fail
        go_ret
        exact ⟨by rw [e0.out]; rfl, rfl⟩
      · have e1 : (ps.take (k + 1)).any (fun p => decide (p.f0 = id)) = false := by
          rw [List.take_add_one, hx.out, List.any_append, hR.out]; simp [h1]
        rw [decide_eq_false h1] at hz
        replace h1 := Aside0.mk h1; replace e1 := Aside0.mk e1
        go_wp2_with fail
        go_round
        case rel => exact ⟨k + 1, by simp, by omega, e1⟩
        case measure => show n - ((k : Int) + 1).toNat < n - (k : Int).toNat; omega
    · obtain rfl : n = k := by omega
      have e0 : rhas ps id = (id == 0) := by
        unfold rhas
        have := hR.out
        rw [List.take_of_length_le (by rw [hn.out]; exact Nat.le_refl _)] at this
        rw [this]; rfl
      replace e0 := Aside0.mk e0
      go_wp2_with fail
      go_ret
      exact ⟨by rw [e0.out]; rfl, rfl⟩
/-- the least one above the last one -/
def rnextF (id last nx : Int) (p : SP) : Int := if p.f1 = id ∧ last < p.f0 ∧ (nx = 0 ∨ p.f0 < nx) then p.f0 else nx
def rnext (ps : List SP) (id last : Int) : Int := ps.foldl (rnextF id last) 0
def rkids (ps : List SP) (id : Int) : Nat → Int → List Int
  | 0, _ => []
  | f + 1, last => if rnext ps id last = 0 ∨ rhas ps id = false then [] else rnext ps id last :: rkids ps id f (rnext ps id last)
def above (ps : List SP) (last : Int) : Nat := (ps.filter fun p => decide (last < p.f0)).length
theorem rnext_fold (id last : Int) : ∀ (ps : List SP) (nx : Int), ps.foldl (rnextF id last) nx = nx ∨ ∃ p ∈ ps, last < p.f0 ∧ ps.foldl (rnextF id last) nx = p.f0
  | [], nx => .inl rfl
  | p :: ps, nx => by
    rw [List.foldl_cons]
    rcases rnext_fold id last ps (rnextF id last nx p) with h | ⟨q, hq, h1, h2⟩
    · rw [h]
      unfold rnextF
      split
      · rename_i hc; exact .inr ⟨p, by simp, hc.2.1, rfl⟩
      · exact .inl rfl
    · exact .inr ⟨q, by simp [hq], h1, h2⟩
theorem rnext_mem {ps : List SP} {id last : Int} (h : rnext ps id last ≠ 0) : ∃ p ∈ ps, last < p.f0 ∧ rnext ps id last = p.f0 := by
  rcases rnext_fold id last ps 0 with h1 | h1
  · exact absurd h1 h
  · exact h1
theorem above_le (ps : List SP) (last : Int) : above ps last ≤ ps.length := List.length_filter_le _ _
theorem above_lt {ps : List SP} {last : Int} {p : SP} (hp : p ∈ ps) (h : last < p.f0) : above ps p.f0 < above ps last := by
  unfold above
  induction ps with
  | nil => cases hp
  | cons q qs ih =>
    rw [List.filter_cons, List.filter_cons]
    have hle : (qs.filter fun x => decide (p.f0 < x.f0)).length ≤ (qs.filter fun x => decide (last < x.f0)).length := by
      clear ih hp
      induction qs with
      | nil => exact Nat.le_refl _
      | cons z zs ih =>
        rw [List.filter_cons, List.filter_cons]
        by_cases h1 : p.f0 < z.f0
        · rw [if_pos (by simpa using h1), if_pos (by simp; omega)]; simp; exact ih
        · rw [if_neg (by simpa using h1)]
          split
          · simp; omega
          · exact ih
    rcases List.mem_cons.1 hp with rfl | hq
    · rw [if_neg (by simp), if_pos (by simpa using h)]
      simp; omega
    · have := ih hq
      by_cases h1 : p.f0 < q.f0
      · rw [if_pos (by simpa using h1), if_pos (by simp; omega)]; simp; exact this
      · rw [if_neg (by simpa using h1)]
        split
        · simp; omega
        · exact this
theorem szP2 : (Try.prog.info? 92).map (·.size) = some 2 := by kernel_rfl
theorem oneP2 {a b : Int} : ∀ v ∈ ([.int .i64 a, .int .i64 b] : List Value), v.oneCell' = true := by
  intro v hv; simp at hv; rcases hv with rfl | rfl <;> rfl
set_option maxHeartbeats 4000000 in
set_option maxRecDepth 100000 in
theorem Kids_calls (g : Nat) (P : Option Addr) (c : Nat) (ps : List SP) (id : Int) (w : World) (hT : IsTree w g P c ps) (hlen : ps.length < 17592186044416) :
    Calls Try.prog 64 #[.pointer (some ⟨g, 0, none⟩), .int .i64 id] w (IdsPost (rkids ps id (ps.length + 1) 0) w) := by
  obtain ⟨n, hn⟩ : ∃ n, ps.length = n := ⟨_, rfl⟩
  have c0 := hT.cell
  have HP := hT.row
  have HT := Aside0.mk hT
  have hgw : g < w.heap.size := (spot_none c0).2
  rw [hn] at c0 HP hlen
  clear hT
  obtain ⟨L, hL⟩ : ∃ L, rkids ps id (ps.length + 1) 0 = L := ⟨_, rfl⟩
  rw [hL]
  have hcW : ∀ W, Below w.heap.size w W → W.cell? ⟨g, 0, none⟩ = some (.slice P n c) := fun W hW => pw_cell_below hW c0
  clear c0
  replace HP := Aside0.mk HP; replace hn := Aside0.mk hn; replace hL := Aside0.mk hL; replace hgw := Aside0.mk hgw; replace hcW := Aside0.mk hcW
  go_enter Try.func64, Try.ntmps64
  go_wp2_with fail
  go_loopw [5, 6] (fun v5 lv wr => ∃ (L0 : List Int) (last : Int) (f : Nat), lv = .int .i64 last ∧ Aside0 (above ps last < f) ∧ Aside0 (L0 ++ rkids ps id f last = L) ∧ Aside0 (L0.length + above ps last ≤ n) ∧ Aside0 ((Kd.int .i64).R 3 wr w.heap.size (fun _ => True) v5 L0) ∧ Aside0 (Below w.heap.size w wr)) (fun _ lv _ => above ps (intOf lv))
  case atStart => exact ⟨[], 0, n + 1, rfl, ⟨by have := above_le ps 0; have := hn.out; omega⟩, ⟨by rw [List.nil_append, ← hL.out, hn.out]⟩, ⟨by have := above_le ps 0; have := hn.out; simp; omega⟩, ⟨Kd.R_nil _ _ _ _ _⟩, ⟨Below.refl _ _⟩⟩
  case round =>
    obtain ⟨L0, last, f, rfl, hf, hLf, hL0, hR, hb⟩ := hrel
    go_wp2_with fail
    go_loopw [7, 8] (fun nv iv wt => ∃ (nx : Int) (k : Nat), nv = .int .i64 nx ∧ iv = .int .i64 k ∧ k ≤ n ∧ Aside0 ((ps.take k).foldl (rnextF id last) 0 = nx) ∧ Aside0 ((Kd.int .i64).R 3 wt w.heap.size (fun _ => True) u5 L0) ∧ Aside0 (Below w.heap.size w wt)) (fun _ iv _ => n - (intOf iv).toNat)
    case atStart => exact ⟨0, 0, rfl, rfl, Nat.zero_le _, ⟨rfl⟩, hR, hb⟩
    case round =>
      obtain ⟨nx, k, rfl, rfl, hk, hnx, hR1, hb1⟩ := hrel
      have c0 := hcW.out _ hb1.out
      by_cases hlt : k < n
      · have p1 : 0 ≤ (k : Int) := by omega
        have q1 : (k : Int) < (n : Int) := by omega
        obtain ⟨b, o, x, rfl, -, hx, t0, t1⟩ := P_one (Kd.C_below HP.out hb1.out) hlt
        have e1 : (ps.take (k + 1)).foldl (rnextF id last) 0 = rnextF id last nx x := by
          rw [List.take_add_one, hx, List.foldl_append, hnx.out]; rfl
        have hz1 : (x.f1 == id) = decide (x.f1 = id) := rfl
        have hz2 : (nx == 0) = decide (nx = 0) := rfl
        have ht : ∀ r : Int, rnextF id last nx x = r → (ps.take (k + 1)).foldl (rnextF id last) 0 = r := fun r h => e1.trans h
        clear e1
        replace hx := Aside0.mk hx; replace ht := Aside0.mk ht
        by_cases h1 : x.f1 = id
        case' neg => rw [decide_eq_false h1] at hz1
        case' pos =>
          rw [decide_eq_true h1] at hz1
          by_cases h2 : last < x.f0
          case' pos =>
            by_cases h3 : nx = 0
            case' pos => rw [decide_eq_true h3] at hz2
            case' neg =>
              rw [decide_eq_false h3] at hz2
              by_cases h4 : x.f0 < nx
        all_goals first
          | (have e2 : rnextF id last nx x = x.f0 := by unfold rnextF; rw [if_pos (by omega)]
             replace e2 := Aside0.mk (ht.out _ e2))
          | (have e2 : rnextF id last nx x = nx := by unfold rnextF; rw [if_neg (by omega)]
             replace e2 := Aside0.mk (ht.out _ e2))
        all_goals try replace h1 := Aside0.mk h1
        all_goals try replace h3 := Aside0.mk h3
        all_goals go_wp2_with (first
          | (((with_reducible refine gate_dst (N := 9) rfl ?_); refine box_event ?hg (N := 9) ?hd (cs := #[.int .i64 0, .int .i64 0]) (t := 92) ?hr ?_; (case hd => rfl); (case hg => rfl); (case hr => first | (go_simp; done) | (go_simp; rfl)); intro gb hgb w2 kgb bgb; replace hgb := Aside0.mk hgb; replace kgb := Aside0.mk kgb; replace bgb := Aside0.mk bgb))
          | (((with_reducible refine gate_op (.store 92 (.tmp 9) (.tmp 25)) rfl ?_); refine wpList_store_midB rfl _ _ _ rfl gb 0 [.int .i64 x.f0, .int .i64 x.f1] rfl rfl 92 [.int .i64 0, .int .i64 0] kgb.out szP2 (Nat.le_refl _) oneP2 ?_; obtain ⟨kk, bb⟩ := boxed (cs := [.int .i64 0, .int .i64 0]) (cs2 := [.int .i64 x.f0, .int .i64 x.f1]) hgb.out kgb.out bgb.out rfl; revert kk bb; generalize World.setRow _ gb (splice [.int .i64 0, .int .i64 0] 0 [.int .i64 x.f0, .int .i64 x.f1]).toArray = w3; clear kgb bgb; intro kgb bgb; replace kgb := Aside0.mk kgb; replace bgb := Aside0.mk bgb); have hR3 := Aside0.mk (Kd.R_below hR1.out bgb.out); have hb3 := Aside0.mk (hb1.out.trans (bgb.out.mono hb1.out.size)); have g0 := (cell_row kgb.out 0).trans (rfl : _ = some (Value.int .i64 x.f0)); have g1 := (cell_row kgb.out 1).trans (rfl : _ = some (Value.int .i64 x.f1))))
        all_goals go_roundw
        all_goals first
          | (case rel => exact ⟨_, k + 1, rfl, by simp, by omega, e2, hR3, hb3⟩)
          | (case measure => show n - ((k : Int) + 1).toNat < n - (k : Int).toNat; omega)
      · obtain rfl : n = k := by omega
        have hnx2 : rnext ps id last = nx := by
          have := hnx.out
          rw [List.take_of_length_le (by rw [hn.out]; exact Nat.le_refl _)] at this
          exact this
        clear hnx hR hb
        obtain ⟨f', rfl⟩ : ∃ f', f = f' + 1 := ⟨f - 1, by have := hf.out; omega⟩
        have hstep : rkids ps id (f' + 1) last = if nx = 0 ∨ rhas ps id = false then [] else nx :: rkids ps id f' nx := by rw [← hnx2]; rfl
        have hz2 : (nx == 0) = decide (nx = 0) := rfl
        have hTt := HT.out.below hb1.out (Nat.le_refl _)
        have kh := Has_calls g P c ps id _ hTt
        clear hTt
        by_cases h0 : nx = 0
        · have hend : L0 = L := by
            have := hLf.out
            rw [hstep, if_pos (.inl h0), List.append_nil] at this
            exact this
          rw [decide_eq_true h0] at hz2
          clear hstep kh hnx2
          replace h0 := Aside0.mk h0
          replace hend := Aside0.mk hend
          go_wp2_with fail
          go_ret
          exact ⟨_, rfl, by rw [← hend.out]; exact hR1.out, hb1.out⟩
        · rw [decide_eq_false h0] at hz2
          have hab : above ps nx < above ps last := by
            obtain ⟨p, hp, h1, h2⟩ := rnext_mem (ps := ps) (id := id) (last := last) (by rw [hnx2]; exact h0)
            rw [hnx2] at h2
            rw [h2]
            exact above_lt hp h1
          obtain ⟨bh, hbh⟩ : ∃ bh, rhas ps id = bh := ⟨_, rfl⟩
          rw [hbh] at hstep kh
          have hl8 : (L0.length + 1) * 8 ≤ 140737488355328 := by have := hL0.out; omega
          cases bh
          · have hend : L0 = L := by
              have := hLf.out
              rw [hstep, if_pos (.inr rfl), List.append_nil] at this
              exact this
            clear hstep hnx2
            replace h0 := Aside0.mk h0; replace hend := Aside0.mk hend; replace kh := Aside0.mk kh; replace hab := Aside0.mk hab; replace hbh := Aside0.mk hbh; replace hl8 := Aside0.mk hl8
            go_wp2_with (go_at_call 63; (with_reducible refine kh.out.mono ?_); rintro e w' ⟨rfl, rfl⟩)
            go_ret
            exact ⟨_, rfl, by rw [← hend.out]; exact hR1.out, hb1.out⟩
          · have hrest : (L0 ++ [nx]) ++ rkids ps id f' nx = L := by
              have := hLf.out
              rw [hstep, if_neg (by simp [h0])] at this
              rw [List.append_assoc]; exact this
            clear hstep hnx2
            replace h0 := Aside0.mk h0; replace hrest := Aside0.mk hrest; replace kh := Aside0.mk kh; replace hab := Aside0.mk hab; replace hbh := Aside0.mk hbh; replace hl8 := Aside0.mk hl8
            go_wp2_with (first
              | (go_at_call 63; (with_reducible refine kh.out.mono ?_); rintro e w' ⟨rfl, rfl⟩)
              | ((with_reducible refine gate_builtin (b := .append) (xs := #[.tmp 57, .tmp 59]) rfl ?_); at_builtin; refine Kd.R_append (Kd.int .i64) (w0 := w) w.heap.size rfl (.tmp 57) (.tmp 59) 31 3 (.int .i64 0) 8 rfl Try.underlying31 info_intR rfl (by decide) (by omega) u5 L0 nx [.int .i64 nx] (fun _ => True) (fun _ => False) rfl rfl ?aP (fun _ hk => hk.elim) (fun _ _ => trivial) hR1.out hb1.out hb1.out.size hl8.out ?_; (case aP => exact rfl); intro v4 w4 hR4 hb4 hg4 hat4; clear hat4 hg4; replace hR4 := Aside0.mk hR4; replace hb4 := Aside0.mk hb4))
            go_roundw
            case rel => exact ⟨L0 ++ [nx], nx, f', rfl, ⟨by have := hf.out; have := hab.out; omega⟩, hrest, ⟨by have := hL0.out; have := hab.out; simp; omega⟩, hR4, hb4⟩
            case measure => exact hab.out
end Go.Proofs.Ytpnjhffnlafabaa.Sn
