/- slices.Equal at groups and at tasks, same of package scene: walked by hand (in the place of the printed text x13). -/
import Derived.Test.YtpnjhffnlafabaaGreatDoorVSc2
import Derived.Test.YtpnjhffnlafabaaGreatDoorVP
import Derived.StillTailTactics
namespace Go.Proofs.YtpnjhffnlafabaaGreatDoor.Sn
set_option linter.unusedVariables false
set_option linter.unusedSimpArgs false
open Go.RowKit Go.Sort Go.Shelf Go.Lib Go.Proofs.Bk Go.Proofs.Bm Go.Proofs.Op Go.Proofs.Sc Go.Proofs.Kf Go.Proofs.YtpnjhffnlafabaaGreatDoorW.PrintWords Go.Proofs.YtpnjhffnlafabaaGreatDoor.PImageBack
attribute [local go_sem high] eqA50 eqA59
theorem neG (x y : SG) : ((!((x.f0) == (y.f0)) || (!((x.f1) == (y.f1)) || (!((x.f2) == (y.f2)) || ((!((x.f3.f0) == (y.f3.f0)) || (!((x.f3.f1) == (y.f3.f1)) || (!((x.f3.f2) == (y.f3.f2))))))))) = true) ↔ x ≠ y := by
  rw [Ne, ← gOf_inj]
  simp [gOf]
  constructor
  · rintro h a b c d e f
    rcases h with h | h | h | h | h | h <;> contradiction
  · intro h
    by_cases h0 : x.f0 = y.f0
    · by_cases h1 : x.f1 = y.f1
      · by_cases h2 : x.f2 = y.f2
        · by_cases h3 : x.f3.f0 = y.f3.f0
          · by_cases h4 : x.f3.f1 = y.f3.f1
            · exact .inr (.inr (.inr (.inr (.inr (h h0 h1 h2 h3 h4)))))
            · exact .inr (.inr (.inr (.inr (.inl h4))))
          · exact .inr (.inr (.inr (.inl h3)))
        · exact .inr (.inr (.inl h2))
      · exact .inr (.inl h1)
    · exact .inl h0
theorem neT (x y : ST) : ((!((x.f0) == (y.f0)) || (!((x.f1) == (y.f1)) || (!((x.f2) == (y.f2)) || (!((x.f3) == (y.f3)) || (!((x.f4) == (y.f4)) || (!((x.f5) == (y.f5)) || ((!((x.f6.f0) == (y.f6.f0)) || (!((x.f6.f1) == (y.f6.f1))))))))))) = true) ↔ x ≠ y := by
  rw [Ne, ← tOf_inj]
  by_cases h : tOf x = tOf y
  · have h' := h
    simp [tOf] at h'
    simp [h', h]
  · simp only [h, not_false_eq_true, iff_true]
    by_cases h0 : x.f0 = y.f0
    · by_cases h1 : x.f1 = y.f1
      · by_cases h2 : x.f2 = y.f2
        · by_cases h3 : x.f3 = y.f3
          · by_cases h4 : x.f4 = y.f4
            · by_cases h5 : x.f5 = y.f5
              · by_cases h6 : x.f6.f0 = y.f6.f0
                · by_cases h7 : x.f6.f1 = y.f6.f1
                  · exact absurd (by simp [tOf, h0, h1, h2, h3, h4, h5, h6, h7]) h
                  · simp [h7]
                · simp [h6]
              · simp [h5]
            · simp [h4]
          · simp [h3]
        · simp [h2]
      · simp [h1]
    · simp [h0]
instance : DecidableEq SG := fun x y => decidable_of_iff (gOf x = gOf y) gOf_inj
instance : DecidableEq ST := fun x y => decidable_of_iff (tOf x = tOf y) tOf_inj
set_option maxHeartbeats 4000000 in
set_option maxRecDepth 100000 in
theorem eqG_c (A : Option Addr) (n c : Nat) (xs : List SG) (A' : Option Addr) (n' c' : Nat) (ys : List SG) (w : World) (hG : kG.C w A n xs) (hG' : kG.C w A' n' ys) :
    Calls Tryz.prog 78 #[.slice A n c, .slice A' n' c'] w (BelowPost (.bool (decide (xs = ys))) w) := by
  have hl := hG.1
  have hl' := hG'.1
  have hn63 := hG.2.1
  by_cases hn : n = n'
  case neg =>
    have e0 : decide (xs = ys) = false := decide_eq_false (fun e => hn (by rw [← hl, ← hl', e]))
    have h1 : ((n : Int) != (n' : Int)) = true := by simpa using fun h => hn (by omega)
    rw [e0]
    go_enter Tryz.func78, Tryz.ntmps78
    go_wp2_with fail
    go_ret
    exact ⟨rfl, Below.refl _ _⟩
  case pos =>
    subst hn
    have h1 : ((n : Int) != (n : Int)) = false := by simp
    have HG := Aside0.mk hG
    have HG' := Aside0.mk hG'
    clear hG hG'
    replace hl := Aside0.mk hl
    replace hl' := Aside0.mk hl'
    go_enter Tryz.func78, Tryz.ntmps78
    go_wp2_with fail
    go_loopw [5, 13] (fun v5 iv wr => ∃ k : Nat, iv = .int .i64 k ∧ k ≤ n ∧ Aside0 (xs.take k = ys.take k) ∧ Aside0 (Below w.heap.size w wr)) (fun _ iv _ => n - (intOf iv).toNat)
    case atStart => exact ⟨0, rfl, Nat.zero_le _, ⟨by simp⟩, ⟨Below.refl _ _⟩⟩
    case round =>
      obtain ⟨k, rfl, hk, htk, hb⟩ := hrel
      by_cases hlt : k < n
      · have p1 : 0 ≤ (k : Int) := by omega
        have q1 : (k : Int) < (n : Int) := by omega
        obtain ⟨b, o, x, rfl, -, hx, t0, t1, t2, t3, t4, t5⟩ := G_one (Kd.C_below HG.out hb.out) hlt
        obtain ⟨b', o', y, rfl, -, hy, s0, s1, s2, s3, s4, s5⟩ := G_one (Kd.C_below HG'.out hb.out) hlt
        have hne : (!((x.f0) == (y.f0)) || (!((x.f1) == (y.f1)) || (!((x.f2) == (y.f2)) || ((!((x.f3.f0) == (y.f3.f0)) || (!((x.f3.f1) == (y.f3.f1)) || (!((x.f3.f2) == (y.f3.f2))))))))) = decide (x ≠ y) := by
          by_cases hxy : x = y
          · rw [decide_eq_false (fun h => h hxy)]
            cases hv : (!((x.f0) == (y.f0)) || (!((x.f1) == (y.f1)) || (!((x.f2) == (y.f2)) || ((!((x.f3.f0) == (y.f3.f0)) || (!((x.f3.f1) == (y.f3.f1)) || (!((x.f3.f2) == (y.f3.f2))))))))) with
            | false => rfl
            | true => exact absurd hxy ((neG x y).1 hv)
          · rw [decide_eq_true hxy]; exact (neG x y).2 hxy
        replace hx := Aside0.mk hx; replace hy := Aside0.mk hy
        by_cases hxy : x = y
        · rw [decide_eq_false (fun h => h hxy)] at hne
          have htk' : xs.take (k + 1) = ys.take (k + 1) := by rw [List.take_add_one, List.take_add_one, hx.out, hy.out, htk.out, hxy]
          replace hxy := Aside0.mk hxy; replace htk' := Aside0.mk htk'
          go_wp2_with fail
          go_quiet (fail)
          go_wp2_with fail
          go_roundw
          case rel => exact ⟨k + 1, by simp, by omega, htk', ⟨pw_below_drewN hb.out nq⟩⟩
          case measure => show n - ((k : Int) + 1).toNat < n - (k : Int).toNat; omega
        · rw [decide_eq_true hxy] at hne
          have e0 : decide (xs = ys) = false := decide_eq_false (fun e => hxy (Option.some.inj (by rw [← hx.out, ← hy.out, e])))
          rw [e0]
          replace hxy := Aside0.mk hxy; replace e0 := Aside0.mk e0
          go_wp2_with fail
          go_quiet (fail)
          go_wp2_with fail
          go_ret
          exact ⟨rfl, pw_below_drewN hb.out nq⟩
      · obtain rfl : n = k := by omega
        have e0 : decide (xs = ys) = true := decide_eq_true (by
          have := htk.out
          rw [List.take_of_length_le (by rw [hl.out]; exact Nat.le_refl _), List.take_of_length_le (by rw [hl'.out]; exact Nat.le_refl _)] at this
          exact this)
        replace e0 := Aside0.mk e0
        go_wp2_with fail
        go_ret
        exact ⟨by rw [e0.out]; rfl, hb.out⟩
set_option maxHeartbeats 4000000 in
set_option maxRecDepth 100000 in
theorem eqT_c (A : Option Addr) (n c : Nat) (xs : List ST) (A' : Option Addr) (n' c' : Nat) (ys : List ST) (w : World) (hG : kT.C w A n xs) (hG' : kT.C w A' n' ys) :
    Calls Tryz.prog 79 #[.slice A n c, .slice A' n' c'] w (BelowPost (.bool (decide (xs = ys))) w) := by
  have hl := hG.1
  have hl' := hG'.1
  have hn63 := hG.2.1
  by_cases hn : n = n'
  case neg =>
    have e0 : decide (xs = ys) = false := decide_eq_false (fun e => hn (by rw [← hl, ← hl', e]))
    have h1 : ((n : Int) != (n' : Int)) = true := by simpa using fun h => hn (by omega)
    rw [e0]
    go_enter Tryz.func79, Tryz.ntmps79
    go_wp2_with fail
    go_ret
    exact ⟨rfl, Below.refl _ _⟩
  case pos =>
    subst hn
    have h1 : ((n : Int) != (n : Int)) = false := by simp
    have HG := Aside0.mk hG
    have HG' := Aside0.mk hG'
    clear hG hG'
    replace hl := Aside0.mk hl
    replace hl' := Aside0.mk hl'
    go_enter Tryz.func79, Tryz.ntmps79
    go_wp2_with fail
    go_loopw [5, 13] (fun v5 iv wr => ∃ k : Nat, iv = .int .i64 k ∧ k ≤ n ∧ Aside0 (xs.take k = ys.take k) ∧ Aside0 (Below w.heap.size w wr)) (fun _ iv _ => n - (intOf iv).toNat)
    case atStart => exact ⟨0, rfl, Nat.zero_le _, ⟨by simp⟩, ⟨Below.refl _ _⟩⟩
    case round =>
      obtain ⟨k, rfl, hk, htk, hb⟩ := hrel
      by_cases hlt : k < n
      · have p1 : 0 ≤ (k : Int) := by omega
        have q1 : (k : Int) < (n : Int) := by omega
        obtain ⟨b, o, x, rfl, -, hx, t0, t1, t2, t3, t4, t5, t6, t7⟩ := T_one (Kd.C_below HG.out hb.out) hlt
        obtain ⟨b', o', y, rfl, -, hy, s0, s1, s2, s3, s4, s5, s6, s7⟩ := T_one (Kd.C_below HG'.out hb.out) hlt
        have hne : (!((x.f0) == (y.f0)) || (!((x.f1) == (y.f1)) || (!((x.f2) == (y.f2)) || (!((x.f3) == (y.f3)) || (!((x.f4) == (y.f4)) || (!((x.f5) == (y.f5)) || ((!((x.f6.f0) == (y.f6.f0)) || (!((x.f6.f1) == (y.f6.f1))))))))))) = decide (x ≠ y) := by
          by_cases hxy : x = y
          · rw [decide_eq_false (fun h => h hxy)]
            cases hv : (!((x.f0) == (y.f0)) || (!((x.f1) == (y.f1)) || (!((x.f2) == (y.f2)) || (!((x.f3) == (y.f3)) || (!((x.f4) == (y.f4)) || (!((x.f5) == (y.f5)) || ((!((x.f6.f0) == (y.f6.f0)) || (!((x.f6.f1) == (y.f6.f1))))))))))) with
            | false => rfl
            | true => exact absurd hxy ((neT x y).1 hv)
          · rw [decide_eq_true hxy]; exact (neT x y).2 hxy
        replace hx := Aside0.mk hx; replace hy := Aside0.mk hy
        by_cases hxy : x = y
        · rw [decide_eq_false (fun h => h hxy)] at hne
          have htk' : xs.take (k + 1) = ys.take (k + 1) := by rw [List.take_add_one, List.take_add_one, hx.out, hy.out, htk.out, hxy]
          replace hxy := Aside0.mk hxy; replace htk' := Aside0.mk htk'
          go_wp2_with fail
          go_quiet (fail)
          go_wp2_with fail
          go_roundw
          case rel => exact ⟨k + 1, by simp, by omega, htk', ⟨pw_below_drewN hb.out nq⟩⟩
          case measure => show n - ((k : Int) + 1).toNat < n - (k : Int).toNat; omega
        · rw [decide_eq_true hxy] at hne
          have e0 : decide (xs = ys) = false := decide_eq_false (fun e => hxy (Option.some.inj (by rw [← hx.out, ← hy.out, e])))
          rw [e0]
          replace hxy := Aside0.mk hxy; replace e0 := Aside0.mk e0
          go_wp2_with fail
          go_quiet (fail)
          go_wp2_with fail
          go_ret
          exact ⟨rfl, pw_below_drewN hb.out nq⟩
      · obtain rfl : n = k := by omega
        have e0 : decide (xs = ys) = true := decide_eq_true (by
          have := htk.out
          rw [List.take_of_length_le (by rw [hl.out]; exact Nat.le_refl _), List.take_of_length_le (by rw [hl'.out]; exact Nat.le_refl _)] at this
          exact this)
        replace e0 := Aside0.mk e0
        go_wp2_with fail
        go_ret
        exact ⟨by rw [e0.out]; rfl, hb.out⟩
theorem info_S : (Tryz.prog.info? 25).map (·.size) = some 2 := by kernel_rfl
set_option maxHeartbeats 4000000 in
set_option maxRecDepth 100000 in
theorem same_c (A : Option Addr) (n c : Nat) (xs : List SG) (B : Option Addr) (m d : Nat) (ts : List ST) (A' : Option Addr) (n' c' : Nat) (xs' : List SG) (B' : Option Addr) (m' d' : Nat) (ts' : List ST) (w : World)
    (hG : kG.C w A n xs) (hT : kT.C w B m ts) (hG' : kG.C w A' n' xs') (hT' : kT.C w B' m' ts') :
    Calls Tryz.prog 45 #[.agg #[.slice A n c, .slice B m d], .agg #[.slice A' n' c', .slice B' m' d']] w (BelowPost (.bool (decide (xs = xs' ∧ ts = ts'))) w) := by
  have k1 := fun W (hW : Below w.heap.size w W) => eqG_c A n c xs A' n' c' xs' W (Kd.C_below hG hW) (Kd.C_below hG' hW)
  have k2 := fun W (hW : Below w.heap.size w W) => eqT_c B m d ts B' m' d' ts' W (Kd.C_below hT hW) (Kd.C_below hT' hW)
  have e : decide (xs = xs' ∧ ts = ts') = (decide (xs = xs') && decide (ts = ts')) := by by_cases h1 : xs = xs' <;> by_cases h2 : ts = ts' <;> simp [h1, h2]
  rw [e]
  generalize decide (xs = xs') = b1 at k1 ⊢
  generalize decide (ts = ts') = b2 at k2 ⊢
  replace k1 := Aside0.mk k1
  replace k2 := Aside0.mk k2
  clear hG hT hG' hT' e
  cases b1
  all_goals go_enter Tryz.func45, Tryz.ntmps45
  all_goals go_wp2_with (first
    | (((with_reducible refine gate_dst (N := 2) rfl ?_); refine box_event ?hg (N := 2) ?hd (cs := #[.slice A n c, .slice B m d]) (t := 25) ?hr ?_; (case hd => rfl); (case hg => rfl); (case hr => first | (go_simp; done) | (go_simp; rfl)); intro g2 hg2 w1 kg2 bg2; replace hg2 := Aside0.mk hg2; replace kg2 := Aside0.mk kg2; replace bg2 := Aside0.mk bg2))
    | (((with_reducible refine gate_dst (N := 3) rfl ?_); refine box_event ?hg (N := 3) ?hd (cs := #[.slice A' n' c', .slice B' m' d']) (t := 25) ?hr ?_; (case hd => rfl); (case hg => rfl); (case hr => first | (go_simp; done) | (go_simp; rfl)); intro g3 hg3 w2 kg3 bg3; replace hg3 := Aside0.mk hg3; replace kg3 := Aside0.mk kg3; replace bg3 := Aside0.mk bg3); have k22 := row_below bg3.out kg2.out; have c0 := (cell_row k22 0).trans (rfl : _ = some (Value.slice A n c)); have c1 := (cell_row k22 1).trans (rfl : _ = some (Value.slice B m d)); have d0 := (cell_row kg3.out 0).trans (rfl : _ = some (Value.slice A' n' c')); have d1 := (cell_row kg3.out 1).trans (rfl : _ = some (Value.slice B' m' d')); have hB2 := Aside0.mk (bg2.out.trans (bg3.out.mono bg2.out.size)); replace k22 := Aside0.mk k22))
  all_goals with_reducible refine (k1.out w2 hB2.out).mono ?_
  all_goals rintro e w3 ⟨rfl, hb3⟩
  all_goals have hB3 := Aside0.mk (hB2.out.trans (hb3.mono hB2.out.size))
  all_goals replace c1 := pw_cell_below hb3 c1
  all_goals replace d1 := pw_cell_below hb3 d1
  all_goals clear hb3
  · go_wp2_with fail
    go_ret
    exact ⟨rfl, hB3.out⟩
  · go_wp2_with fail
    with_reducible refine (k2.out w3 hB3.out).mono ?_
    rintro e w4 ⟨rfl, hb4⟩
    have hB4 := Aside0.mk (hB3.out.trans (hb4.mono hB3.out.size))
    clear hb4
    go_wp2_with fail
    go_ret
    exact ⟨by simp, hB4.out⟩
end Go.Proofs.YtpnjhffnlafabaaGreatDoor.Sn
