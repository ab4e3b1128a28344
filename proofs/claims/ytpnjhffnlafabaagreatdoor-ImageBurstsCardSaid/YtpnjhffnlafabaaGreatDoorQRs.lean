/- The reference of law 13: what cannot be, with the references of layers 4 and 8: walked by hand. Same of the reference of law 13: are two scenes one: walked by hand. -/
import Derived.Test.YtpnjhffnlafabaaGreatDoorQSd6
import Derived.Test.YtpnjhffnlafabaaGreatDoorQHt
namespace Go.Proofs.YtpnjhffnlafabaaGreatDoor.Sn
set_option linter.unusedVariables false
set_option linter.unusedSimpArgs false
open Go.RowKit Go.Sort Go.Shelf Go.Lib Go.Proofs.Bk Go.Proofs.Bm Go.Proofs.Op Go.Proofs.Sc Go.Proofs.Kf Go.Proofs.YtpnjhffnlafabaaGreatDoorW.PrintWords Go.Proofs.YtpnjhffnlafabaaGreatDoor.PImageBack
end Go.Proofs.YtpnjhffnlafabaaGreatDoor.Sn
namespace Go.Proofs.YtpnjhffnlafabaaGreatDoor.Sn
set_option linter.unusedVariables false
set_option linter.unusedSimpArgs false
open Go.Proofs Go.RowKit Go.Sort Go.Shelf Go.Lib Go.Proofs.Bk Go.Proofs.Bm Go.Proofs.Op Go.Proofs.Sc Go.Proofs.Kf Go.Proofs.YtpnjhffnlafabaaGreatDoorW.PrintWords Go.Proofs.YtpnjhffnlafabaaGreatDoor.PImageBack
set_option maxHeartbeats 8000000 in
set_option maxRecDepth 100000 in
theorem same_calls (A : Option Addr) (n c : Nat) (xs : List SG) (B : Option Addr) (m d : Nat) (ts : List ST) (A' : Option Addr) (n' c' : Nat) (xs' : List SG) (B' : Option Addr) (m' d' : Nat) (ts' : List ST) (w : World)
    (hG : kG.C w A n xs) (hc : n ≤ c) (hT : kT.C w B m ts) (hd : m ≤ d) (hG' : kG.C w A' n' xs') (hc' : n' ≤ c') (hT' : kT.C w B' m' ts') (hd' : m' ≤ d') (hn : n < 4611686018427387904) (hm : m < 4611686018427387904) :
    Calls Tryz.prog 17 #[.agg #[.slice A n c, .slice B m d], .agg #[.slice A' n' c', .slice B' m' d']] w (AnyPost (decide (xs = xs' ∧ ts = ts')) w) := by
  have hl := hG.1
  have hl' := hG'.1
  have hk := hT.1
  have hk' := hT'.1
  by_cases hnn : n = n'
  case neg =>
    have e0 : decide (xs = xs' ∧ ts = ts') = false := decide_eq_false (fun e => hnn (by rw [← hl, ← hl', e.1]))
    have h1 : ((n : Int) != (n' : Int)) = true := by simpa using fun h => hnn (by omega)
    rw [e0]
    clear hG hT hG' hT' hl hl' hk hk' e0
    go_enter Tryz.func17, Tryz.ntmps17
    go_wp2_with (first
      | (((with_reducible refine gate_dst (N := 2) rfl ?_); refine box_event ?hg (N := 2) ?hd (cs := #[.slice A n c, .slice B m d]) (t := 25) ?hr ?_; (case hd => rfl); (case hg => rfl); (case hr => first | (go_simp; done) | (go_simp; rfl)); intro b2 hb2 w1 kb2 bb2; replace hb2 := Aside0.mk hb2; replace kb2 := Aside0.mk kb2; replace bb2 := Aside0.mk bb2); have c0 := (Kf.cell_row kb2.out 0).trans (rfl : _ = some (Value.slice A n c)))
      | (((with_reducible refine gate_dst (N := 3) rfl ?_); refine box_event ?hg (N := 3) ?hd (cs := #[.slice A' n' c', .slice B' m' d']) (t := 25) ?hr ?_; (case hd => rfl); (case hg => rfl); (case hr => first | (go_simp; done) | (go_simp; rfl)); intro b3 hb3 w2 kb3 bb3; replace hb3 := Aside0.mk hb3; replace kb3 := Aside0.mk kb3; replace bb3 := Aside0.mk bb3); replace c0 := pw_cell_below bb3.out c0; have d0 := (Kf.cell_row kb3.out 0).trans (rfl : _ = some (Value.slice A' n' c'))))
    go_ret
    exact ⟨rfl, bb2.out.trans (bb3.out.mono bb2.out.size)⟩
  case pos =>
  subst hnn
  have h1 : ((n : Int) != (n : Int)) = false := by simp
  by_cases hmm : m = m'
  case neg =>
    have e0 : decide (xs = xs' ∧ ts = ts') = false := decide_eq_false (fun e => hmm (by rw [← hk, ← hk', e.2]))
    have h2 : ((m : Int) != (m' : Int)) = true := by simpa using fun h => hmm (by omega)
    rw [e0]
    clear hG hT hG' hT' hl hl' hk hk' e0
    go_enter Tryz.func17, Tryz.ntmps17
    go_wp2_with (first
      | (((with_reducible refine gate_dst (N := 2) rfl ?_); refine box_event ?hg (N := 2) ?hd (cs := #[.slice A n c, .slice B m d]) (t := 25) ?hr ?_; (case hd => rfl); (case hg => rfl); (case hr => first | (go_simp; done) | (go_simp; rfl)); intro b2 hb2 w1 kb2 bb2; replace hb2 := Aside0.mk hb2; replace kb2 := Aside0.mk kb2; replace bb2 := Aside0.mk bb2); have c0 := (Kf.cell_row kb2.out 0).trans (rfl : _ = some (Value.slice A n c)); have c1 := (Kf.cell_row kb2.out 1).trans (rfl : _ = some (Value.slice B m d)))
      | (((with_reducible refine gate_dst (N := 3) rfl ?_); refine box_event ?hg (N := 3) ?hd (cs := #[.slice A' n c', .slice B' m' d']) (t := 25) ?hr ?_; (case hd => rfl); (case hg => rfl); (case hr => first | (go_simp; done) | (go_simp; rfl)); intro b3 hb3 w2 kb3 bb3; replace hb3 := Aside0.mk hb3; replace kb3 := Aside0.mk kb3; replace bb3 := Aside0.mk bb3); replace c0 := pw_cell_below bb3.out c0; replace c1 := pw_cell_below bb3.out c1; have d0 := (Kf.cell_row kb3.out 0).trans (rfl : _ = some (Value.slice A' n c')); have d1 := (Kf.cell_row kb3.out 1).trans (rfl : _ = some (Value.slice B' m' d'))))
    go_ret
    exact ⟨rfl, bb2.out.trans (bb3.out.mono bb2.out.size)⟩
  case pos =>
  subst hmm
  have h2 : ((m : Int) != (m : Int)) = false := by simp
  have HG := Aside0.mk hG
  have HG' := Aside0.mk hG'
  have HT := Aside0.mk hT
  have HT' := Aside0.mk hT'
  obtain ⟨r, hr⟩ : ∃ r, decide (xs = xs' ∧ ts = ts') = r := ⟨_, rfl⟩
  rw [hr]
  clear hG hT hG' hT'
  replace hl := Aside0.mk hl; replace hl' := Aside0.mk hl'; replace hk := Aside0.mk hk; replace hk' := Aside0.mk hk'; replace hr := Aside0.mk hr; replace hc := Aside0.mk hc; replace hc' := Aside0.mk hc'; replace hd := Aside0.mk hd; replace hd' := Aside0.mk hd'
  go_enter Tryz.func17, Tryz.ntmps17
  go_wp2_with (first
    | (((with_reducible refine gate_dst (N := 2) rfl ?_); refine box_event ?hg (N := 2) ?hd (cs := #[.slice A n c, .slice B m d]) (t := 25) ?hr ?_; (case hd => rfl); (case hg => rfl); (case hr => first | (go_simp; done) | (go_simp; rfl)); intro b2 hb2 w1 kb2 bb2; replace hb2 := Aside0.mk hb2; replace kb2 := Aside0.mk kb2; replace bb2 := Aside0.mk bb2); have c0 := (Kf.cell_row kb2.out 0).trans (rfl : _ = some (Value.slice A n c)); have c1 := (Kf.cell_row kb2.out 1).trans (rfl : _ = some (Value.slice B m d)))
    | (((with_reducible refine gate_dst (N := 3) rfl ?_); refine box_event ?hg (N := 3) ?hd (cs := #[.slice A' n c', .slice B' m d']) (t := 25) ?hr ?_; (case hd => rfl); (case hg => rfl); (case hr => first | (go_simp; done) | (go_simp; rfl)); intro b3 hb3 w2 kb3 bb3; replace hb3 := Aside0.mk hb3; replace kb3 := Aside0.mk kb3; replace bb3 := Aside0.mk bb3); replace c0 := pw_cell_below bb3.out c0; replace c1 := pw_cell_below bb3.out c1; have d0 := (Kf.cell_row kb3.out 0).trans (rfl : _ = some (Value.slice A' n c')); have d1 := (Kf.cell_row kb3.out 1).trans (rfl : _ = some (Value.slice B' m d'))))
  have hB2 := Aside0.mk (bb2.out.trans (bb3.out.mono bb2.out.size))
  have hcW : ∀ W, Below w2.heap.size w2 W → W.cell? ⟨b2, 0, none⟩ = some (.slice A n c) ∧ W.cell? ⟨b2, 1, none⟩ = some (.slice B m d) ∧ W.cell? ⟨b3, 0, none⟩ = some (.slice A' n c') ∧ W.cell? ⟨b3, 1, none⟩ = some (.slice B' m d') := fun W hW => ⟨pw_cell_below hW c0, pw_cell_below hW c1, pw_cell_below hW d0, pw_cell_below hW d1⟩
  have hBW : ∀ W, Below w2.heap.size w2 W → Below w.heap.size w W := fun W hW => hB2.out.trans (hW.mono hB2.out.size)
  replace hcW := Aside0.mk hcW
  replace hBW := Aside0.mk hBW
  clear kb2 bb2 kb3 bb3 hb2 hb3 c0 c1 d0 d1
  go_loopw [5] (fun iv wr => ∃ k : Nat, iv = .int .i64 k ∧ k ≤ n ∧ Aside0 (xs.take k = xs'.take k) ∧ Aside0 (Below w2.heap.size w2 wr)) (fun iv _ => n - (intOf iv).toNat)
  case atStart => exact ⟨0, rfl, Nat.zero_le _, ⟨by simp⟩, ⟨Below.refl _ _⟩⟩
  case round =>
    obtain ⟨k, rfl, hkn, htk, hb⟩ := hrel
    obtain ⟨c0, c1, d0, d1⟩ := hcW.out _ hb.out
    by_cases hlt : k < n
    · have p1 : 0 ≤ (k : Int) := by omega
      have q1 : (k : Int) < (n : Int) := by omega
      obtain ⟨b, o, x, rfl, -, hx, t0, t1, t2, t3, t4, t5⟩ := G_one (Kd.C_below HG.out (hBW.out _ hb.out)) hlt
      obtain ⟨b', o', y, rfl, -, hy, s0, s1, s2, s3, s4, s5⟩ := G_one (Kd.C_below HG'.out (hBW.out _ hb.out)) hlt
      replace hx := Aside0.mk hx; replace hy := Aside0.mk hy
      by_cases hxy : x = y
      · subst hxy
        have htk' : xs.take (k + 1) = xs'.take (k + 1) := by rw [List.take_add_one, List.take_add_one, hx.out, hy.out, htk.out]
        replace htk' := Aside0.mk htk'
        go_wp2_with fail
        (refine Ht.begin2 10 (fun w' => w'.cell? ⟨b2, 0, none⟩ = some (.slice (some ⟨b, o, none⟩) n c) ∧ w'.cell? ⟨b3, 0, none⟩ = some (.slice (some ⟨b', o', none⟩) n c') ∧ w'.cell? ⟨b, o + k * 6, none⟩ = some (.int .i64 x.f0) ∧ w'.cell? ⟨b, o + k * 6 + 1, none⟩ = some (.int .i64 x.f1) ∧ w'.cell? ⟨b, o + k * 6 + 2, none⟩ = some (.int .i64 x.f2) ∧ w'.cell? ⟨b, o + k * 6 + 3, none⟩ = some (.int .i64 x.f3.f0) ∧ w'.cell? ⟨b, o + k * 6 + 4, none⟩ = some (.int .i64 x.f3.f1) ∧ w'.cell? ⟨b, o + k * 6 + 5, none⟩ = some (.int .i64 x.f3.f2) ∧ w'.cell? ⟨b', o' + k * 6, none⟩ = some (.int .i64 x.f0) ∧ w'.cell? ⟨b', o' + k * 6 + 1, none⟩ = some (.int .i64 x.f1) ∧ w'.cell? ⟨b', o' + k * 6 + 2, none⟩ = some (.int .i64 x.f2) ∧ w'.cell? ⟨b', o' + k * 6 + 3, none⟩ = some (.int .i64 x.f3.f0) ∧ w'.cell? ⟨b', o' + k * 6 + 4, none⟩ = some (.int .i64 x.f3.f1) ∧ w'.cell? ⟨b', o' + k * 6 + 5, none⟩ = some (.int .i64 x.f3.f2)) (by kernel_rfl) (by kernel_rfl) ⟨c0, d0, t0, t1, t2, t3, t4, t5, s0, s1, s2, s3, s4, s5⟩ ?_; intro hSnow; (try dsimp only at hSnow); simp only [List.take_succ_cons, List.take_zero, List.drop_succ_cons, List.drop_zero]; repeat (refine Ht.Hx.take (v := ?_) (by kernel_rfl) (by kernel_rfl) (fun _ _ _ h => h) (by with_reducible exact hSnow) (Or.inl ⟨by rfl, fun w hSw => ?_⟩) ?_; rotate_left; focus ((try dsimp only at hSw); go_simp; (try with_reducible rfl); done)); (try simp only [Act.put, List.setIfInBounds_toArray, List.set_cons_zero, List.set_cons_succ]))
        (refine Ht.Hx.done (by kernel_rfl) ?_; clear hSnow)
        go_wp2_with fail
        go_roundw
        case rel => exact ⟨k + 1, by simp, by omega, htk', ⟨hb.out.drew⟩⟩
        case measure => show n - ((k : Int) + 1).toNat < n - (k : Int).toNat; omega
      · have e0 : r = false := by rw [← hr.out]; exact decide_eq_false (fun e => hxy (Option.some.inj (by rw [← hx.out, ← hy.out, e.1])))
        replace hxy := Aside0.mk hxy; replace e0 := Aside0.mk e0
        go_wp2_with fail
        (refine Ht.begin2 10 (fun w' => w'.cell? ⟨b2, 0, none⟩ = some (.slice (some ⟨b, o, none⟩) n c) ∧ w'.cell? ⟨b3, 0, none⟩ = some (.slice (some ⟨b', o', none⟩) n c') ∧ w'.cell? ⟨b, o + k * 6, none⟩ = some (.int .i64 x.f0) ∧ w'.cell? ⟨b, o + k * 6 + 1, none⟩ = some (.int .i64 x.f1) ∧ w'.cell? ⟨b, o + k * 6 + 2, none⟩ = some (.int .i64 x.f2) ∧ w'.cell? ⟨b, o + k * 6 + 3, none⟩ = some (.int .i64 x.f3.f0) ∧ w'.cell? ⟨b, o + k * 6 + 4, none⟩ = some (.int .i64 x.f3.f1) ∧ w'.cell? ⟨b, o + k * 6 + 5, none⟩ = some (.int .i64 x.f3.f2) ∧ w'.cell? ⟨b', o' + k * 6, none⟩ = some (.int .i64 y.f0) ∧ w'.cell? ⟨b', o' + k * 6 + 1, none⟩ = some (.int .i64 y.f1) ∧ w'.cell? ⟨b', o' + k * 6 + 2, none⟩ = some (.int .i64 y.f2) ∧ w'.cell? ⟨b', o' + k * 6 + 3, none⟩ = some (.int .i64 y.f3.f0) ∧ w'.cell? ⟨b', o' + k * 6 + 4, none⟩ = some (.int .i64 y.f3.f1) ∧ w'.cell? ⟨b', o' + k * 6 + 5, none⟩ = some (.int .i64 y.f3.f2)) (by kernel_rfl) (by kernel_rfl) ⟨c0, d0, t0, t1, t2, t3, t4, t5, s0, s1, s2, s3, s4, s5⟩ ?_; intro hSnow; (try dsimp only at hSnow); simp only [List.take_succ_cons, List.take_zero, List.drop_succ_cons, List.drop_zero]; repeat (refine Ht.Hx.take (v := ?_) (by kernel_rfl) (by kernel_rfl) (fun _ _ _ h => h) (by with_reducible exact hSnow) (Or.inl ⟨by rfl, fun w hSw => ?_⟩) ?_; rotate_left; focus ((try dsimp only at hSw); go_simp; (try with_reducible rfl); done)); (try simp only [Act.put, List.setIfInBounds_toArray, List.set_cons_zero, List.set_cons_succ]))
        (refine Ht.Hx.done (by kernel_rfl) ?_; clear hSnow)
        go_wp2_with fail
        all_goals first
          | (go_ret; exact ⟨by rw [e0.out]; rfl, hBW.out _ (hb.out.drew)⟩)
          | (exfalso; exact hxy.out (gOf_inj.1 (by simp only [gOf]; congr 1)))
    · obtain rfl : n = k := by omega
      have eG : Aside0 (xs = xs') := ⟨by
        have := htk.out
        rw [List.take_of_length_le (by rw [hl.out]; exact Nat.le_refl _), List.take_of_length_le (by rw [hl'.out]; exact Nat.le_refl _)] at this
        exact this⟩
      clear htk
      go_wp2_with fail
      go_loopw [6] (fun iv wt => ∃ k : Nat, iv = .int .i64 k ∧ k ≤ m ∧ Aside0 (ts.take k = ts'.take k) ∧ Aside0 (Below w2.heap.size w2 wt)) (fun iv _ => m - (intOf iv).toNat)
      case atStart => exact ⟨0, rfl, Nat.zero_le _, ⟨by simp⟩, hb⟩
      case round =>
        clear hb c0 c1 d0 d1
        obtain ⟨k, rfl, hkn, htk, hb⟩ := hrel
        obtain ⟨c0, c1, d0, d1⟩ := hcW.out _ hb.out
        by_cases hlt : k < m
        · have p1 : 0 ≤ (k : Int) := by omega
          have q1 : (k : Int) < (m : Int) := by omega
          obtain ⟨b, o, x, rfl, -, hx, t0, t1, t2, t3, t4, t5, t6, t7⟩ := T_one (Kd.C_below HT.out (hBW.out _ hb.out)) hlt
          obtain ⟨b', o', y, rfl, -, hy, s0, s1, s2, s3, s4, s5, s6, s7⟩ := T_one (Kd.C_below HT'.out (hBW.out _ hb.out)) hlt
          replace hx := Aside0.mk hx; replace hy := Aside0.mk hy
          by_cases hxy : x = y
          · subst hxy
            have htk' : ts.take (k + 1) = ts'.take (k + 1) := by rw [List.take_add_one, List.take_add_one, hx.out, hy.out, htk.out]
            replace htk' := Aside0.mk htk'
            go_wp2_with fail
            (refine Ht.begin2 10 (fun w' => w'.cell? ⟨b2, 1, none⟩ = some (.slice (some ⟨b, o, none⟩) m d) ∧ w'.cell? ⟨b3, 1, none⟩ = some (.slice (some ⟨b', o', none⟩) m d') ∧ w'.cell? ⟨b, o + k * 8, none⟩ = some (.int .i64 x.f0) ∧ w'.cell? ⟨b, o + k * 8 + 1, none⟩ = some (.int .i64 x.f1) ∧ w'.cell? ⟨b, o + k * 8 + 2, none⟩ = some (.int .i64 x.f2) ∧ w'.cell? ⟨b, o + k * 8 + 3, none⟩ = some (.int .u64 x.f3) ∧ w'.cell? ⟨b, o + k * 8 + 4, none⟩ = some (.bool x.f4) ∧ w'.cell? ⟨b, o + k * 8 + 5, none⟩ = some (.int .i64 x.f5) ∧ w'.cell? ⟨b, o + k * 8 + 6, none⟩ = some (.int .i64 x.f6.f0) ∧ w'.cell? ⟨b, o + k * 8 + 7, none⟩ = some (.int .i64 x.f6.f1) ∧ w'.cell? ⟨b', o' + k * 8, none⟩ = some (.int .i64 x.f0) ∧ w'.cell? ⟨b', o' + k * 8 + 1, none⟩ = some (.int .i64 x.f1) ∧ w'.cell? ⟨b', o' + k * 8 + 2, none⟩ = some (.int .i64 x.f2) ∧ w'.cell? ⟨b', o' + k * 8 + 3, none⟩ = some (.int .u64 x.f3) ∧ w'.cell? ⟨b', o' + k * 8 + 4, none⟩ = some (.bool x.f4) ∧ w'.cell? ⟨b', o' + k * 8 + 5, none⟩ = some (.int .i64 x.f5) ∧ w'.cell? ⟨b', o' + k * 8 + 6, none⟩ = some (.int .i64 x.f6.f0) ∧ w'.cell? ⟨b', o' + k * 8 + 7, none⟩ = some (.int .i64 x.f6.f1)) (by kernel_rfl) (by kernel_rfl) ⟨c1, d1, t0, t1, t2, t3, t4, t5, t6, t7, s0, s1, s2, s3, s4, s5, s6, s7⟩ ?_; intro hSnow; (try dsimp only at hSnow); simp only [List.take_succ_cons, List.take_zero, List.drop_succ_cons, List.drop_zero]; repeat (refine Ht.Hx.take (v := ?_) (by kernel_rfl) (by kernel_rfl) (fun _ _ _ h => h) (by with_reducible exact hSnow) (Or.inl ⟨by rfl, fun w hSw => ?_⟩) ?_; rotate_left; focus ((try dsimp only at hSw); go_simp; (try with_reducible rfl); done)); (try simp only [Act.put, List.setIfInBounds_toArray, List.set_cons_zero, List.set_cons_succ]))
            (refine Ht.Hx.done (by kernel_rfl) ?_; clear hSnow)
            go_wp2_with fail
            go_roundw
            case rel => exact ⟨k + 1, by simp, by omega, htk', ⟨hb.out.drew⟩⟩
            case measure => show m - ((k : Int) + 1).toNat < m - (k : Int).toNat; omega
          · have e0 : r = false := by rw [← hr.out]; exact decide_eq_false (fun e => hxy (Option.some.inj (by rw [← hx.out, ← hy.out, e.2])))
            replace hxy := Aside0.mk hxy; replace e0 := Aside0.mk e0
            go_wp2_with fail
            (refine Ht.begin2 10 (fun w' => w'.cell? ⟨b2, 1, none⟩ = some (.slice (some ⟨b, o, none⟩) m d) ∧ w'.cell? ⟨b3, 1, none⟩ = some (.slice (some ⟨b', o', none⟩) m d') ∧ w'.cell? ⟨b, o + k * 8, none⟩ = some (.int .i64 x.f0) ∧ w'.cell? ⟨b, o + k * 8 + 1, none⟩ = some (.int .i64 x.f1) ∧ w'.cell? ⟨b, o + k * 8 + 2, none⟩ = some (.int .i64 x.f2) ∧ w'.cell? ⟨b, o + k * 8 + 3, none⟩ = some (.int .u64 x.f3) ∧ w'.cell? ⟨b, o + k * 8 + 4, none⟩ = some (.bool x.f4) ∧ w'.cell? ⟨b, o + k * 8 + 5, none⟩ = some (.int .i64 x.f5) ∧ w'.cell? ⟨b, o + k * 8 + 6, none⟩ = some (.int .i64 x.f6.f0) ∧ w'.cell? ⟨b, o + k * 8 + 7, none⟩ = some (.int .i64 x.f6.f1) ∧ w'.cell? ⟨b', o' + k * 8, none⟩ = some (.int .i64 y.f0) ∧ w'.cell? ⟨b', o' + k * 8 + 1, none⟩ = some (.int .i64 y.f1) ∧ w'.cell? ⟨b', o' + k * 8 + 2, none⟩ = some (.int .i64 y.f2) ∧ w'.cell? ⟨b', o' + k * 8 + 3, none⟩ = some (.int .u64 y.f3) ∧ w'.cell? ⟨b', o' + k * 8 + 4, none⟩ = some (.bool y.f4) ∧ w'.cell? ⟨b', o' + k * 8 + 5, none⟩ = some (.int .i64 y.f5) ∧ w'.cell? ⟨b', o' + k * 8 + 6, none⟩ = some (.int .i64 y.f6.f0) ∧ w'.cell? ⟨b', o' + k * 8 + 7, none⟩ = some (.int .i64 y.f6.f1)) (by kernel_rfl) (by kernel_rfl) ⟨c1, d1, t0, t1, t2, t3, t4, t5, t6, t7, s0, s1, s2, s3, s4, s5, s6, s7⟩ ?_; intro hSnow; (try dsimp only at hSnow); simp only [List.take_succ_cons, List.take_zero, List.drop_succ_cons, List.drop_zero]; repeat (refine Ht.Hx.take (v := ?_) (by kernel_rfl) (by kernel_rfl) (fun _ _ _ h => h) (by with_reducible exact hSnow) (Or.inl ⟨by rfl, fun w hSw => ?_⟩) ?_; rotate_left; focus ((try dsimp only at hSw); go_simp; (try with_reducible rfl); done)); (try simp only [Act.put, List.setIfInBounds_toArray, List.set_cons_zero, List.set_cons_succ]))
            (refine Ht.Hx.done (by kernel_rfl) ?_; clear hSnow)
            go_wp2_with fail
            all_goals first
              | (go_ret; exact ⟨by rw [e0.out]; rfl, hBW.out _ (hb.out.drew)⟩)
              | (exfalso; exact hxy.out (tOf_inj.1 (by simp only [tOf]; congr 1)))
        · obtain rfl : m = k := by omega
          have e0 : r = true := by
            rw [← hr.out]
            have := htk.out
            rw [List.take_of_length_le (by rw [hk.out]; exact Nat.le_refl _), List.take_of_length_le (by rw [hk'.out]; exact Nat.le_refl _)] at this
            exact decide_eq_true ⟨eG.out, this⟩
          clear htk
          replace e0 := Aside0.mk e0
          go_wp2_with fail
          go_ret
          exact ⟨by rw [e0.out]; rfl, hBW.out _ hb.out⟩
end Go.Proofs.YtpnjhffnlafabaaGreatDoor.Sn
