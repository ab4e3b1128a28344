/- The reference of law 13: what cannot be, with the references of layers 4 and 8: walked by hand. Same of the reference of law 13: are two scenes one: walked by hand. -/
import Derived.Test.YtpnjhffnlafabaaGreatDoorVSd6
import Derived.Test.YtpnjhffnlafabaaGreatDoorVHt
namespace Go.Proofs.YtpnjhffnlafabaaGreatDoor.Sn
set_option linter.unusedVariables false
set_option linter.unusedSimpArgs false
open Go.RowKit Go.Sort Go.Shelf Go.Lib Go.Proofs.Bk Go.Proofs.Bm Go.Proofs.Op Go.Proofs.Sc Go.Proofs.Kf Go.Proofs.YtpnjhffnlafabaaGreatDoorW.PrintWords Go.Proofs.YtpnjhffnlafabaaGreatDoor.PImageBack
def rband (p q u : Int) : Bool := decide (0 ≤ p ∧ p ≤ 1048576 ∧ 0 ≤ q ∧ q ≤ 1048576 ∧ 0 ≤ u ∧ u ≤ 1099511627776 ∧ (0 < p ∨ q = 0) ∧ (0 < q ∨ u = 0))
theorem rband_eq (g : G) : rband g.period g.quota g.used = bandRight g := by
  unfold rband bandRight within0 within1
  rw [Bool.eq_iff_iff]
  split <;> simp <;> omega
set_option maxHeartbeats 4000000 in
set_option maxRecDepth 100000 in
theorem rband_c (p q u : Int) (w : World) : Calls Tryz.prog 85 #[.agg #[.int .i64 p, .int .i64 q, .int .i64 u]] w (BelowPost (.bool (rband p q u)) w) := by
  have hb := Aside0.mk (below_alloc (Below.refl w.heap.size w) (.cells #[.int .i64 p, .int .i64 q, .int .i64 u] 48))
  have ff : (0 ≤ p ∧ p ≤ 1048576 ∧ 0 ≤ q ∧ q ≤ 1048576 ∧ 0 ≤ u ∧ u ≤ 1099511627776 ∧ (0 < p ∨ q = 0) ∧ (0 < q ∨ u = 0)) → BelowPost (.bool (rband p q u)) w (.returned (.bool true)) (w.alloc (.cells #[.int .i64 p, .int .i64 q, .int .i64 u] 48)) := fun h => ⟨by unfold rband; rw [decide_eq_true h], hb.out⟩
  have fn : ¬ (0 ≤ p ∧ p ≤ 1048576 ∧ 0 ≤ q ∧ q ≤ 1048576 ∧ 0 ≤ u ∧ u ≤ 1099511627776 ∧ (0 < p ∨ q = 0) ∧ (0 < q ∨ u = 0)) → BelowPost (.bool (rband p q u)) w (.returned (.bool false)) (w.alloc (.cells #[.int .i64 p, .int .i64 q, .int .i64 u] 48)) := fun h => ⟨by unfold rband; rw [decide_eq_false h], hb.out⟩
  replace ff := Aside0.mk ff
  replace fn := Aside0.mk fn
  have hq : (q == 0) = decide (q = 0) := rfl
  have hu : (u == 0) = decide (u = 0) := rfl
  clear hb
  by_cases h1 : p < 0
  case' neg =>
    by_cases h2 : 1048576 < p
    case' neg =>
      by_cases h3 : q < 0
      case' neg =>
        by_cases h4 : 1048576 < q
        case' neg =>
          by_cases h5 : u < 0
          case' neg =>
            by_cases h6 : 1099511627776 < u
            case' neg =>
              by_cases h7 : 0 < p
              all_goals by_cases h8 : q = 0
              all_goals (first | rw [decide_eq_true h8] at hq | rw [decide_eq_false h8] at hq)
              all_goals by_cases h9 : 0 < q
              all_goals by_cases h10 : u = 0
              all_goals (first | rw [decide_eq_true h10] at hu | rw [decide_eq_false h10] at hu)
  all_goals try (exfalso; omega)
  all_goals try replace h8 := Aside0.mk h8
  all_goals try replace h10 := Aside0.mk h10
  all_goals go_enter Tryz.func85, Tryz.ntmps85
  all_goals go_wp2_with fail
  all_goals go_ret
  all_goals try replace h8 := h8.out
  all_goals try replace h10 := h10.out
  all_goals first | exact ff.out (by omega) | exact fn.out (by omega)
theorem rweight_c (n : Int) (w : World) : Calls Tryz.prog 102 #[.int .i64 n] w (PurePost (.int .i64 (weighs n)) w) := by
  unfold weighs
  by_cases h1 : n < 1
  · go_enter Tryz.func102, Tryz.ntmps102
    go_wp2_with fail
    go_ret
    exact ⟨by rw [show max 1 (min n 1048576) = 1 by omega]; rfl, rfl⟩
  · by_cases h2 : 1048576 < n
    · go_enter Tryz.func102, Tryz.ntmps102
      go_wp2_with fail
      go_ret
      exact ⟨by rw [show max 1 (min n 1048576) = 1048576 by omega]; rfl, rfl⟩
    · go_enter Tryz.func102, Tryz.ntmps102
      go_wp2_with fail
      go_ret
      exact ⟨by rw [show max 1 (min n 1048576) = n by omega]; rfl, rfl⟩
set_option maxHeartbeats 4000000 in
set_option maxRecDepth 100000 in
theorem rpace_c (v r n : Int) (w : World) : Calls Tryz.prog 86 #[.agg #[.int .i64 v, .int .i64 r], .int .i64 n] w (BelowPost (.bool (paceRight v r n)) w) := by
  have hb := Aside0.mk (below_alloc (Below.refl w.heap.size w) (.cells #[.int .i64 v, .int .i64 r] 57))
  have k := fun W => rweight_c n W
  unfold paceRight
  generalize weighs n = wt at k ⊢
  replace k := Aside0.mk k
  by_cases h1 : 0 ≤ v
  case' pos =>
    by_cases h2 : v ≤ 2305843009213693952
    case' pos =>
      by_cases h3 : 0 ≤ r
      case' pos => by_cases h4 : r < wt
  all_goals go_enter Tryz.func86, Tryz.ntmps86
  all_goals go_wp2_with (go_at_call 102; (with_reducible refine (k.out _).mono ?_); rintro e w' ⟨rfl, rfl⟩)
  all_goals go_ret
  all_goals exact ⟨by simp [*] <;> omega, hb.out⟩
def roddG (x : SG) : Bool := decide (x.f0 < 1 ∨ 1048576 < x.f0 ∨ x.f2 < 1 ∨ 1048576 < x.f2 ∨ rband x.f3.f0 x.f3.f1 x.f3.f2 = false)
def roddT (x : ST) : Bool := decide (x.f0 < 1 ∨ 1048576 < x.f0 ∨ x.f2 < 1 ∨ 1048576 < x.f2 ∨ x.f3 = 0 ∨ x.f5 < 0 ∨ 1099511627776 < x.f5 ∨ paceRight x.f6.f0 x.f6.f1 x.f2 = false)
theorem roddG_eq (x : SG) : roddG x = oddG (gOf x) := by
  have h := rband_eq (gOf x)
  have h' : rband (gOf x).period (gOf x).quota (gOf x).used = rband x.f3.f0 x.f3.f1 x.f3.f2 := rfl
  rw [h'] at h
  unfold roddG oddG within1
  rw [← h]
  show _ = (!(decide (1 ≤ x.f0) && decide (x.f0 ≤ 1048576)) || !(decide (1 ≤ x.f2) && decide (x.f2 ≤ 1048576)) || !rband x.f3.f0 x.f3.f1 x.f3.f2)
  generalize rband x.f3.f0 x.f3.f1 x.f3.f2 = b
  rw [Bool.eq_iff_iff]
  cases b
  · simp
  · simp only [decide_eq_true_eq, Bool.or_eq_true, Bool.not_eq_true', Bool.and_eq_false_iff, decide_eq_false_iff_not, Bool.not_true, Bool.true_eq_false, Bool.false_eq_true, or_false, reduceCtorEq]; omega
theorem roddT_eq (x : ST) : roddT x = oddT (tOf x) := by
  unfold roddT oddT within1
  show _ = (!(decide (1 ≤ x.f0) && decide (x.f0 ≤ 1048576)) || !(decide (1 ≤ x.f2) && decide (x.f2 ≤ 1048576)) || decide (x.f3 = 0) || decide (x.f5 < 0) || decide (1099511627776 < x.f5) || !paceRight x.f6.f0 x.f6.f1 x.f2)
  generalize paceRight x.f6.f0 x.f6.f1 x.f2 = b
  rw [Bool.eq_iff_iff]
  cases b
  · simp
  · simp; omega
set_option maxHeartbeats 8000000 in
set_option maxRecDepth 100000 in
theorem odd_calls (A : Option Addr) (n c : Nat) (xs : List SG) (B : Option Addr) (m d : Nat) (ts : List ST) (w : World) (hG : kG.C w A n xs) (hc : n ≤ c) (hT : kT.C w B m ts) (hd : m ≤ d) :
    Calls Tryz.prog 48 #[.agg #[.slice A n c, .slice B m d]] w (AnyPost (xs.any roddG || ts.any roddT) w) := by
  have hln := hG.1
  have hlm := hT.1
  have hn63 := hG.2.1
  have hm63 := hT.2.1
  have HG := Aside0.mk hG
  have HT := Aside0.mk hT
  clear hG hT
  replace hln := Aside0.mk hln; replace hlm := Aside0.mk hlm; replace hc := Aside0.mk hc; replace hd := Aside0.mk hd
  go_enter Tryz.func48, Tryz.ntmps48
  go_wp2_with (((with_reducible refine gate_dst (N := 1) rfl ?_); refine box_event ?hg (N := 1) ?hd (cs := #[.slice A n c, .slice B m d]) (t := 25) ?hr ?_; (case hd => rfl); (case hg => rfl); (case hr => first | (go_simp; done) | (go_simp; rfl)); intro b1 hb1 w1 kb1 bb1; replace hb1 := Aside0.mk hb1; replace kb1 := Aside0.mk kb1; replace bb1 := Aside0.mk bb1); have k1 := kb1; have hB1 := bb1)
  go_loopw [3] (fun iv wr => ∃ k : Nat, iv = .int .i64 k ∧ k ≤ n ∧ Aside0 ((xs.take k).any roddG = false) ∧ Aside0 (Below w.heap.size w wr) ∧ Aside0 (wr.heap[b1]? = some (.cells #[.slice A n c, .slice B m d] 25 (0, 0)))) (fun iv _ => n - (intOf iv).toNat)
  case atStart => exact ⟨0, rfl, Nat.zero_le _, ⟨rfl⟩, hB1, k1⟩
  case round =>
    obtain ⟨k, rfl, hk, hR, hb, k1⟩ := hrel
    have c0 := (cell_row k1.out 0).trans (rfl : _ = some (Value.slice A n c))
    have c1 := (cell_row k1.out 1).trans (rfl : _ = some (Value.slice B m d))
    by_cases hlt : k < n
    · have p1 : 0 ≤ (k : Int) := by omega
      have q1 : (k : Int) < (n : Int) := by omega
      obtain ⟨b, o, x, rfl, -, hx, t0, t1, t2, t3, t4, t5⟩ := G_one (Kd.C_below HG.out hb.out) hlt
      have kr := fun W => rband_c x.f3.f0 x.f3.f1 x.f3.f2 W
      have hacc : (xs.take (k + 1)).any roddG = roddG x := by rw [List.take_add_one, hx, List.any_append, hR.out]; simp
      have hall : roddG x = true → (xs.any roddG || ts.any roddT) = true := fun h => by
        rw [List.any_eq_true.2 ⟨x, List.mem_of_getElem? hx, h⟩]; rfl
      have hdef : roddG x = decide (x.f0 < 1 ∨ 1048576 < x.f0 ∨ x.f2 < 1 ∨ 1048576 < x.f2 ∨ rband x.f3.f0 x.f3.f1 x.f3.f2 = false) := rfl
      generalize rband x.f3.f0 x.f3.f1 x.f3.f2 = rb at kr hdef
      replace hx := Aside0.mk hx; replace hacc := Aside0.mk hacc; replace hall := Aside0.mk hall; replace hdef := Aside0.mk hdef; replace kr := Aside0.mk kr
      by_cases h1 : x.f0 < 1
      case' neg =>
        by_cases h2 : 1048576 < x.f0
        case' neg =>
          by_cases h3 : x.f2 < 1
          case' neg =>
            by_cases h4 : 1048576 < x.f2
            case' neg => cases rb
      all_goals first
        | (have e1 : roddG x = false := by rw [hdef.out]; first | (simp; omega) | fail
           replace e1 := Aside0.mk e1)
        | (have e1 : roddG x = true := by rw [hdef.out]; first | (simp; done) | (simp; omega) | fail
           rw [hall.out e1])
      all_goals go_wp2_with (first
        | (((with_reducible refine gate_dst (N := 4) rfl ?_); refine box_event ?hg (N := 4) ?hd (cs := #[.int .i64 0, .int .i64 0, .int .i64 0, .int .i64 0, .int .i64 0, .int .i64 0]) (t := 50) ?hr ?_; (case hd => rfl); (case hg => rfl); (case hr => first | (go_simp; done) | (go_simp; rfl)); intro gb hgb w2 kgb bgb; replace hgb := Aside0.mk hgb; replace kgb := Aside0.mk kgb; replace bgb := Aside0.mk bgb))
        | (((with_reducible refine gate_op (.store 50 (.tmp 4) (.tmp 20)) rfl ?_); refine wpList_store_midB rfl _ _ _ rfl gb 0 [.int .i64 x.f0, .int .i64 x.f1, .int .i64 x.f2, .int .i64 x.f3.f0, .int .i64 x.f3.f1, .int .i64 x.f3.f2] rfl rfl 50 [.int .i64 0, .int .i64 0, .int .i64 0, .int .i64 0, .int .i64 0, .int .i64 0] kgb.out szG6 (Nat.le_refl _) oneG6 ?_; obtain ⟨kk, bb⟩ := boxed (cs := [.int .i64 0, .int .i64 0, .int .i64 0, .int .i64 0, .int .i64 0, .int .i64 0]) (cs2 := [.int .i64 x.f0, .int .i64 x.f1, .int .i64 x.f2, .int .i64 x.f3.f0, .int .i64 x.f3.f1, .int .i64 x.f3.f2]) hgb.out kgb.out bgb.out rfl; revert kk bb; generalize World.setRow _ gb (splice [.int .i64 0, .int .i64 0, .int .i64 0, .int .i64 0, .int .i64 0, .int .i64 0] 0 [.int .i64 x.f0, .int .i64 x.f1, .int .i64 x.f2, .int .i64 x.f3.f0, .int .i64 x.f3.f1, .int .i64 x.f3.f2]).toArray = w3; clear kgb bgb; intro kgb bgb; replace kgb := Aside0.mk kgb; replace bgb := Aside0.mk bgb); have hb3 := Aside0.mk (hb.out.trans (bgb.out.mono hb.out.size)); have g0 := (cell_row kgb.out 0).trans (rfl : _ = some (Value.int .i64 x.f0)); have g2 := (cell_row kgb.out 2).trans (rfl : _ = some (Value.int .i64 x.f2)); have g3 := (cell_row kgb.out 3).trans (rfl : _ = some (Value.int .i64 x.f3.f0)); have g4 := (cell_row kgb.out 4).trans (rfl : _ = some (Value.int .i64 x.f3.f1)); have g5 := (cell_row kgb.out 5).trans (rfl : _ = some (Value.int .i64 x.f3.f2)); have k13 := Aside0.mk (row_below bgb.out k1.out))
        | (go_at_call 85; (with_reducible refine (kr.out _).mono ?_); rintro e w4 ⟨rfl, hb4⟩; replace g0 := pw_cell_below hb4 g0; replace g2 := pw_cell_below hb4 g2; have k14 := Aside0.mk (row_below hb4 k13.out); have hB4 := Aside0.mk (hb3.out.trans (hb4.mono hb3.out.size)); clear hb4 g3 g4 g5))
      all_goals first
        | (go_roundw
           case rel => exact ⟨k + 1, by simp, by omega, ⟨by rw [hacc.out]; exact e1.out⟩, hB4, k14⟩
           case measure => show n - ((k : Int) + 1).toNat < n - (k : Int).toNat; omega)
        | (go_ret
           exact ⟨rfl, hB4.out⟩)
    · obtain rfl : n = k := by omega
      have e0 : xs.any roddG = false := by have := hR.out; rw [List.take_of_length_le (by rw [hln.out]; exact Nat.le_refl _)] at this; exact this
      rw [e0]
      rw [Bool.false_or]
      replace e0 := Aside0.mk e0
      clear hR
      go_wp2_with fail
      go_loopw [6] (fun iv wr => ∃ k : Nat, iv = .int .i64 k ∧ k ≤ m ∧ Aside0 ((ts.take k).any roddT = false) ∧ Aside0 (Below w.heap.size w wr) ∧ Aside0 (wr.heap[b1]? = some (.cells #[.slice A n c, .slice B m d] 25 (0, 0)))) (fun iv _ => m - (intOf iv).toNat)
      case atStart => exact ⟨0, rfl, Nat.zero_le _, ⟨rfl⟩, hb, k1⟩
      case round =>
        obtain ⟨k, rfl, hk, hR, hb, k1⟩ := hrel
        have c1 := (cell_row k1.out 1).trans (rfl : _ = some (Value.slice B m d))
        by_cases hlt : k < m
        · have p1 : 0 ≤ (k : Int) := by omega
          have q1 : (k : Int) < (m : Int) := by omega
          obtain ⟨b, o, x, rfl, -, hx, t0, t1, t2, t3, t4, t5, t6, t7⟩ := T_one (Kd.C_below HT.out hb.out) hlt
          have kr := fun W => rpace_c x.f6.f0 x.f6.f1 x.f2 W
          have hacc : (ts.take (k + 1)).any roddT = roddT x := by rw [List.take_add_one, hx, List.any_append, hR.out]; simp
          have hall : roddT x = true → ts.any roddT = true := fun h => List.any_eq_true.2 ⟨x, List.mem_of_getElem? hx, h⟩
          have hdef : roddT x = decide (x.f0 < 1 ∨ 1048576 < x.f0 ∨ x.f2 < 1 ∨ 1048576 < x.f2 ∨ x.f3 = 0 ∨ x.f5 < 0 ∨ 1099511627776 < x.f5 ∨ paceRight x.f6.f0 x.f6.f1 x.f2 = false) := rfl
          generalize paceRight x.f6.f0 x.f6.f1 x.f2 = rb at kr hdef
          replace hx := Aside0.mk hx; replace hacc := Aside0.mk hacc; replace hall := Aside0.mk hall; replace hdef := Aside0.mk hdef; replace kr := Aside0.mk kr
          have hz : (x.f3 == 0) = decide (x.f3 = 0) := rfl
          by_cases h1 : x.f0 < 1
          case' neg =>
            by_cases h2 : 1048576 < x.f0
            case' neg =>
              by_cases h3 : x.f2 < 1
              case' neg =>
                by_cases h4 : 1048576 < x.f2
                case' neg =>
                  by_cases h5 : x.f3 = 0
                  case' pos => rw [decide_eq_true h5] at hz
                  case' neg =>
                    rw [decide_eq_false h5] at hz
                    by_cases h6 : x.f5 < 0
                    case' neg =>
                      by_cases h7 : 1099511627776 < x.f5
                      case' neg => cases rb
          all_goals first
            | (have e1 : roddT x = false := by rw [hdef.out]; first | (simp; omega) | fail
               replace e1 := Aside0.mk e1)
            | (have e1 : roddT x = true := by rw [hdef.out]; first | (simp; done) | (simp; omega) | fail
               rw [hall.out e1])
          all_goals try clear h5
          all_goals go_wp2_with (first
            | (((with_reducible refine gate_dst (N := 7) rfl ?_); refine box_event ?hg (N := 7) ?hd (cs := #[.int .i64 0, .int .i64 0, .int .i64 0, .int .u64 0, .bool false, .int .i64 0, .int .i64 0, .int .i64 0]) (t := 59) ?hr ?_; (case hd => rfl); (case hg => rfl); (case hr => first | (go_simp; done) | (go_simp; rfl)); intro gb hgb w2 kgb bgb; replace hgb := Aside0.mk hgb; replace kgb := Aside0.mk kgb; replace bgb := Aside0.mk bgb))
            | (((with_reducible refine gate_op (.store 59 (.tmp 7) (.tmp 57)) rfl ?_); refine wpList_store_midB rfl _ _ _ rfl gb 0 [.int .i64 x.f0, .int .i64 x.f1, .int .i64 x.f2, .int .u64 x.f3, .bool x.f4, .int .i64 x.f5, .int .i64 x.f6.f0, .int .i64 x.f6.f1] rfl rfl 59 [.int .i64 0, .int .i64 0, .int .i64 0, .int .u64 0, .bool false, .int .i64 0, .int .i64 0, .int .i64 0] kgb.out szT8 (Nat.le_refl _) oneT8 ?_; obtain ⟨kk, bb⟩ := boxed (cs := [.int .i64 0, .int .i64 0, .int .i64 0, .int .u64 0, .bool false, .int .i64 0, .int .i64 0, .int .i64 0]) (cs2 := [.int .i64 x.f0, .int .i64 x.f1, .int .i64 x.f2, .int .u64 x.f3, .bool x.f4, .int .i64 x.f5, .int .i64 x.f6.f0, .int .i64 x.f6.f1]) hgb.out kgb.out bgb.out rfl; revert kk bb; generalize World.setRow _ gb (splice [.int .i64 0, .int .i64 0, .int .i64 0, .int .u64 0, .bool false, .int .i64 0, .int .i64 0, .int .i64 0] 0 [.int .i64 x.f0, .int .i64 x.f1, .int .i64 x.f2, .int .u64 x.f3, .bool x.f4, .int .i64 x.f5, .int .i64 x.f6.f0, .int .i64 x.f6.f1]).toArray = w3; clear kgb bgb; intro kgb bgb; replace kgb := Aside0.mk kgb; replace bgb := Aside0.mk bgb); have hb3 := Aside0.mk (hb.out.trans (bgb.out.mono hb.out.size)); have g0 := (cell_row kgb.out 0).trans (rfl : _ = some (Value.int .i64 x.f0)); have g2 := (cell_row kgb.out 2).trans (rfl : _ = some (Value.int .i64 x.f2)); have g3 := (cell_row kgb.out 3).trans (rfl : _ = some (Value.int .u64 x.f3)); have g5 := (cell_row kgb.out 5).trans (rfl : _ = some (Value.int .i64 x.f5)); have g6 := (cell_row kgb.out 6).trans (rfl : _ = some (Value.int .i64 x.f6.f0)); have g7 := (cell_row kgb.out 7).trans (rfl : _ = some (Value.int .i64 x.f6.f1)); have k13 := Aside0.mk (row_below bgb.out k1.out))
            | (go_at_call 86; (with_reducible refine (kr.out _).mono ?_); rintro e w4 ⟨rfl, hb4⟩; replace g0 := pw_cell_below hb4 g0; replace g2 := pw_cell_below hb4 g2; replace g3 := pw_cell_below hb4 g3; replace g5 := pw_cell_below hb4 g5; have k14 := Aside0.mk (row_below hb4 k13.out); have hB4 := Aside0.mk (hb3.out.trans (hb4.mono hb3.out.size)); clear hb4 g6 g7))
          all_goals first
            | (go_roundw
               case rel => exact ⟨k + 1, by simp, by omega, ⟨by rw [hacc.out]; exact e1.out⟩, hB4, k14⟩
               case measure => show m - ((k : Int) + 1).toNat < m - (k : Int).toNat; omega)
            | (go_ret
               exact ⟨by rw [e0.out]; rfl, hB4.out⟩)
        · obtain rfl : m = k := by omega
          have e1 : ts.any roddT = false := by have := hR.out; rw [List.take_of_length_le (by rw [hlm.out]; exact Nat.le_refl _)] at this; exact this
          rw [e1]
          replace e1 := Aside0.mk e1
          go_wp2_with fail
          go_ret
          exact ⟨by rw [e0.out, e1.out]; rfl, hb.out⟩
end Go.Proofs.YtpnjhffnlafabaaGreatDoor.Sn
namespace Go.Proofs.YtpnjhffnlafabaaGreatDoor.Sn
set_option linter.unusedVariables false
set_option linter.unusedSimpArgs false
open Go.Proofs Go.RowKit Go.Sort Go.Shelf Go.Lib Go.Proofs.Bk Go.Proofs.Bm Go.Proofs.Op Go.Proofs.Sc Go.Proofs.Kf Go.Proofs.YtpnjhffnlafabaaGreatDoorW.PrintWords Go.Proofs.YtpnjhffnlafabaaGreatDoor.PImageBack
set_option maxHeartbeats 8000000 in
set_option maxRecDepth 100000 in
theorem same_calls (A : Option Addr) (n c : Nat) (xs : List SG) (B : Option Addr) (m d : Nat) (ts : List ST) (A' : Option Addr) (n' c' : Nat) (xs' : List SG) (B' : Option Addr) (m' d' : Nat) (ts' : List ST) (w : World)
    (hG : kG.C w A n xs) (hc : n ≤ c) (hT : kT.C w B m ts) (hd : m ≤ d) (hG' : kG.C w A' n' xs') (hc' : n' ≤ c') (hT' : kT.C w B' m' ts') (hd' : m' ≤ d') (hn : n < 4611686018427387904) (hm : m < 4611686018427387904) :
    Calls Tryz.prog 17 #[.agg #[.slice A n c, .slice B m d], .agg #[.slice A' n' c', .slice B' m' d']] w (AnyPost (decide (xs = xs' ∧ ts = ts')) w) := by
  have hl := hG.1
  have hl' := hG'.1
  have hk := hT.1
  have hk' := hT'.1
  by_cases hnn : n = n'
  case neg =>
    have e0 : decide (xs = xs' ∧ ts = ts') = false := decide_eq_false (fun e => hnn (by rw [← hl, ← hl', e.1]))
    have h1 : ((n : Int) != (n' : Int)) = true := by simpa using fun h => hnn (by omega)
    rw [e0]
    clear hG hT hG' hT' hl hl' hk hk' e0
    go_enter Tryz.func17, Tryz.ntmps17
    go_wp2_with (first
      | (((with_reducible refine gate_dst (N := 2) rfl ?_); refine box_event ?hg (N := 2) ?hd (cs := #[.slice A n c, .slice B m d]) (t := 25) ?hr ?_; (case hd => rfl); (case hg => rfl); (case hr => first | (go_simp; done) | (go_simp; rfl)); intro b2 hb2 w1 kb2 bb2; replace hb2 := Aside0.mk hb2; replace kb2 := Aside0.mk kb2; replace bb2 := Aside0.mk bb2); have c0 := (Kf.cell_row kb2.out 0).trans (rfl : _ = some (Value.slice A n c)))
      | (((with_reducible refine gate_dst (N := 3) rfl ?_); refine box_event ?hg (N := 3) ?hd (cs := #[.slice A' n' c', .slice B' m' d']) (t := 25) ?hr ?_; (case hd => rfl); (case hg => rfl); (case hr => first | (go_simp; done) | (go_simp; rfl)); intro b3 hb3 w2 kb3 bb3; replace hb3 := Aside0.mk hb3; replace kb3 := Aside0.mk kb3; replace bb3 := Aside0.mk bb3); replace c0 := pw_cell_below bb3.out c0; have d0 := (Kf.cell_row kb3.out 0).trans (rfl : _ = some (Value.slice A' n' c'))))
    go_ret
    exact ⟨rfl, bb2.out.trans (bb3.out.mono bb2.out.size)⟩
  case pos =>
  subst hnn
  have h1 : ((n : Int) != (n : Int)) = false := by simp
  by_cases hmm : m = m'
  case neg =>
    have e0 : decide (xs = xs' ∧ ts = ts') = false := decide_eq_false (fun e => hmm (by rw [← hk, ← hk', e.2]))
    have h2 : ((m : Int) != (m' : Int)) = true := by simpa using fun h => hmm (by omega)
    rw [e0]
    clear hG hT hG' hT' hl hl' hk hk' e0
    go_enter Tryz.func17, Tryz.ntmps17
    go_wp2_with (first
      | (((with_reducible refine gate_dst (N := 2) rfl ?_); refine box_event ?hg (N := 2) ?hd (cs := #[.slice A n c, .slice B m d]) (t := 25) ?hr ?_; (case hd => rfl); (case hg => rfl); (case hr => first | (go_simp; done) | (go_simp; rfl)); intro b2 hb2 w1 kb2 bb2; replace hb2 := Aside0.mk hb2; replace kb2 := Aside0.mk kb2; replace bb2 := Aside0.mk bb2); have c0 := (Kf.cell_row kb2.out 0).trans (rfl : _ = some (Value.slice A n c)); have c1 := (Kf.cell_row kb2.out 1).trans (rfl : _ = some (Value.slice B m d)))
      | (((with_reducible refine gate_dst (N := 3) rfl ?_); refine box_event ?hg (N := 3) ?hd (cs := #[.slice A' n c', .slice B' m' d']) (t := 25) ?hr ?_; (case hd => rfl); (case hg => rfl); (case hr => first | (go_simp; done) | (go_simp; rfl)); intro b3 hb3 w2 kb3 bb3; replace hb3 := Aside0.mk hb3; replace kb3 := Aside0.mk kb3; replace bb3 := Aside0.mk bb3); replace c0 := pw_cell_below bb3.out c0; replace c1 := pw_cell_below bb3.out c1; have d0 := (Kf.cell_row kb3.out 0).trans (rfl : _ = some (Value.slice A' n c')); have d1 := (Kf.cell_row kb3.out 1).trans (rfl : _ = some (Value.slice B' m' d'))))
    go_ret
    exact ⟨rfl, bb2.out.trans (bb3.out.mono bb2.out.size)⟩
  case pos =>
  subst hmm
  have h2 : ((m : Int) != (m : Int)) = false := by simp
  have HG := Aside0.mk hG
  have HG' := Aside0.mk hG'
  have HT := Aside0.mk hT
  have HT' := Aside0.mk hT'
  obtain ⟨r, hr⟩ : ∃ r, decide (xs = xs' ∧ ts = ts') = r := ⟨_, rfl⟩
  rw [hr]
  clear hG hT hG' hT'
  replace hl := Aside0.mk hl; replace hl' := Aside0.mk hl'; replace hk := Aside0.mk hk; replace hk' := Aside0.mk hk'; replace hr := Aside0.mk hr; replace hc := Aside0.mk hc; replace hc' := Aside0.mk hc'; replace hd := Aside0.mk hd; replace hd' := Aside0.mk hd'
  go_enter Tryz.func17, Tryz.ntmps17
  go_wp2_with (first
    | (((with_reducible refine gate_dst (N := 2) rfl ?_); refine box_event ?hg (N := 2) ?hd (cs := #[.slice A n c, .slice B m d]) (t := 25) ?hr ?_; (case hd => rfl); (case hg => rfl); (case hr => first | (go_simp; done) | (go_simp; rfl)); intro b2 hb2 w1 kb2 bb2; replace hb2 := Aside0.mk hb2; replace kb2 := Aside0.mk kb2; replace bb2 := Aside0.mk bb2); have c0 := (Kf.cell_row kb2.out 0).trans (rfl : _ = some (Value.slice A n c)); have c1 := (Kf.cell_row kb2.out 1).trans (rfl : _ = some (Value.slice B m d)))
    | (((with_reducible refine gate_dst (N := 3) rfl ?_); refine box_event ?hg (N := 3) ?hd (cs := #[.slice A' n c', .slice B' m d']) (t := 25) ?hr ?_; (case hd => rfl); (case hg => rfl); (case hr => first | (go_simp; done) | (go_simp; rfl)); intro b3 hb3 w2 kb3 bb3; replace hb3 := Aside0.mk hb3; replace kb3 := Aside0.mk kb3; replace bb3 := Aside0.mk bb3); replace c0 := pw_cell_below bb3.out c0; replace c1 := pw_cell_below bb3.out c1; have d0 := (Kf.cell_row kb3.out 0).trans (rfl : _ = some (Value.slice A' n c')); have d1 := (Kf.cell_row kb3.out 1).trans (rfl : _ = some (Value.slice B' m d'))))
  have hB2 := Aside0.mk (bb2.out.trans (bb3.out.mono bb2.out.size))
  have hcW : ∀ W, Below w2.heap.size w2 W → W.cell? ⟨b2, 0, none⟩ = some (.slice A n c) ∧ W.cell? ⟨b2, 1, none⟩ = some (.slice B m d) ∧ W.cell? ⟨b3, 0, none⟩ = some (.slice A' n c') ∧ W.cell? ⟨b3, 1, none⟩ = some (.slice B' m d') := fun W hW => ⟨pw_cell_below hW c0, pw_cell_below hW c1, pw_cell_below hW d0, pw_cell_below hW d1⟩
  have hBW : ∀ W, Below w2.heap.size w2 W → Below w.heap.size w W := fun W hW => hB2.out.trans (hW.mono hB2.out.size)
  replace hcW := Aside0.mk hcW
  replace hBW := Aside0.mk hBW
  clear kb2 bb2 kb3 bb3 hb2 hb3 c0 c1 d0 d1
  go_loopw [5] (fun iv wr => ∃ k : Nat, iv = .int .i64 k ∧ k ≤ n ∧ Aside0 (xs.take k = xs'.take k) ∧ Aside0 (Below w2.heap.size w2 wr)) (fun iv _ => n - (intOf iv).toNat)
  case atStart => exact ⟨0, rfl, Nat.zero_le _, ⟨by simp⟩, ⟨Below.refl _ _⟩⟩
  case round =>
    obtain ⟨k, rfl, hkn, htk, hb⟩ := hrel
    obtain ⟨c0, c1, d0, d1⟩ := hcW.out _ hb.out
    by_cases hlt : k < n
    · have p1 : 0 ≤ (k : Int) := by omega
      have q1 : (k : Int) < (n : Int) := by omega
      obtain ⟨b, o, x, rfl, -, hx, t0, t1, t2, t3, t4, t5⟩ := G_one (Kd.C_below HG.out (hBW.out _ hb.out)) hlt
      obtain ⟨b', o', y, rfl, -, hy, s0, s1, s2, s3, s4, s5⟩ := G_one (Kd.C_below HG'.out (hBW.out _ hb.out)) hlt
      replace hx := Aside0.mk hx; replace hy := Aside0.mk hy
      by_cases hxy : x = y
      · subst hxy
        have htk' : xs.take (k + 1) = xs'.take (k + 1) := by rw [List.take_add_one, List.take_add_one, hx.out, hy.out, htk.out]
        replace htk' := Aside0.mk htk'
        go_wp2_with fail
        (refine Ht.begin2 10 (fun w' => w'.cell? ⟨b2, 0, none⟩ = some (.slice (some ⟨b, o, none⟩) n c) ∧ w'.cell? ⟨b3, 0, none⟩ = some (.slice (some ⟨b', o', none⟩) n c') ∧ w'.cell? ⟨b, o + k * 6, none⟩ = some (.int .i64 x.f0) ∧ w'.cell? ⟨b, o + k * 6 + 1, none⟩ = some (.int .i64 x.f1) ∧ w'.cell? ⟨b, o + k * 6 + 2, none⟩ = some (.int .i64 x.f2) ∧ w'.cell? ⟨b, o + k * 6 + 3, none⟩ = some (.int .i64 x.f3.f0) ∧ w'.cell? ⟨b, o + k * 6 + 4, none⟩ = some (.int .i64 x.f3.f1) ∧ w'.cell? ⟨b, o + k * 6 + 5, none⟩ = some (.int .i64 x.f3.f2) ∧ w'.cell? ⟨b', o' + k * 6, none⟩ = some (.int .i64 x.f0) ∧ w'.cell? ⟨b', o' + k * 6 + 1, none⟩ = some (.int .i64 x.f1) ∧ w'.cell? ⟨b', o' + k * 6 + 2, none⟩ = some (.int .i64 x.f2) ∧ w'.cell? ⟨b', o' + k * 6 + 3, none⟩ = some (.int .i64 x.f3.f0) ∧ w'.cell? ⟨b', o' + k * 6 + 4, none⟩ = some (.int .i64 x.f3.f1) ∧ w'.cell? ⟨b', o' + k * 6 + 5, none⟩ = some (.int .i64 x.f3.f2)) (by kernel_rfl) (by kernel_rfl) ⟨c0, d0, t0, t1, t2, t3, t4, t5, s0, s1, s2, s3, s4, s5⟩ ?_; intro hSnow; (try dsimp only at hSnow); simp only [List.take_succ_cons, List.take_zero, List.drop_succ_cons, List.drop_zero]; repeat (refine Ht.Hx.take (v := ?_) (by kernel_rfl) (by kernel_rfl) (fun _ _ _ h => h) (by with_reducible exact hSnow) (Or.inl ⟨by rfl, fun w hSw => ?_⟩) ?_; rotate_left; focus ((try dsimp only at hSw); go_simp; (try with_reducible rfl); done)); (try simp only [Act.put, List.setIfInBounds_toArray, List.set_cons_zero, List.set_cons_succ]))
        (refine Ht.Hx.done (by kernel_rfl) ?_; clear hSnow)
        go_wp2_with fail
        go_roundw
        case rel => exact ⟨k + 1, by simp, by omega, htk', ⟨hb.out.drew⟩⟩
        case measure => show n - ((k : Int) + 1).toNat < n - (k : Int).toNat; omega
      · have e0 : r = false := by rw [← hr.out]; exact decide_eq_false (fun e => hxy (Option.some.inj (by rw [← hx.out, ← hy.out, e.1])))
        replace hxy := Aside0.mk hxy; replace e0 := Aside0.mk e0
        go_wp2_with fail
        (refine Ht.begin2 10 (fun w' => w'.cell? ⟨b2, 0, none⟩ = some (.slice (some ⟨b, o, none⟩) n c) ∧ w'.cell? ⟨b3, 0, none⟩ = some (.slice (some ⟨b', o', none⟩) n c') ∧ w'.cell? ⟨b, o + k * 6, none⟩ = some (.int .i64 x.f0) ∧ w'.cell? ⟨b, o + k * 6 + 1, none⟩ = some (.int .i64 x.f1) ∧ w'.cell? ⟨b, o + k * 6 + 2, none⟩ = some (.int .i64 x.f2) ∧ w'.cell? ⟨b, o + k * 6 + 3, none⟩ = some (.int .i64 x.f3.f0) ∧ w'.cell? ⟨b, o + k * 6 + 4, none⟩ = some (.int .i64 x.f3.f1) ∧ w'.cell? ⟨b, o + k * 6 + 5, none⟩ = some (.int .i64 x.f3.f2) ∧ w'.cell? ⟨b', o' + k * 6, none⟩ = some (.int .i64 y.f0) ∧ w'.cell? ⟨b', o' + k * 6 + 1, none⟩ = some (.int .i64 y.f1) ∧ w'.cell? ⟨b', o' + k * 6 + 2, none⟩ = some (.int .i64 y.f2) ∧ w'.cell? ⟨b', o' + k * 6 + 3, none⟩ = some (.int .i64 y.f3.f0) ∧ w'.cell? ⟨b', o' + k * 6 + 4, none⟩ = some (.int .i64 y.f3.f1) ∧ w'.cell? ⟨b', o' + k * 6 + 5, none⟩ = some (.int .i64 y.f3.f2)) (by kernel_rfl) (by kernel_rfl) ⟨c0, d0, t0, t1, t2, t3, t4, t5, s0, s1, s2, s3, s4, s5⟩ ?_; intro hSnow; (try dsimp only at hSnow); simp only [List.take_succ_cons, List.take_zero, List.drop_succ_cons, List.drop_zero]; repeat (refine Ht.Hx.take (v := ?_) (by kernel_rfl) (by kernel_rfl) (fun _ _ _ h => h) (by with_reducible exact hSnow) (Or.inl ⟨by rfl, fun w hSw => ?_⟩) ?_; rotate_left; focus ((try dsimp only at hSw); go_simp; (try with_reducible rfl); done)); (try simp only [Act.put, List.setIfInBounds_toArray, List.set_cons_zero, List.set_cons_succ]))
        (refine Ht.Hx.done (by kernel_rfl) ?_; clear hSnow)
        go_wp2_with fail
        all_goals first
          | (go_ret; exact ⟨by rw [e0.out]; rfl, hBW.out _ (hb.out.drew)⟩)
          | (exfalso; exact hxy.out (gOf_inj.1 (by simp only [gOf]; congr 1)))
    · obtain rfl : n = k := by omega
      have eG : Aside0 (xs = xs') := ⟨by
        have := htk.out
        rw [List.take_of_length_le (by rw [hl.out]; exact Nat.le_refl _), List.take_of_length_le (by rw [hl'.out]; exact Nat.le_refl _)] at this
        exact this⟩
      clear htk
      go_wp2_with fail
      go_loopw [6] (fun iv wt => ∃ k : Nat, iv = .int .i64 k ∧ k ≤ m ∧ Aside0 (ts.take k = ts'.take k) ∧ Aside0 (Below w2.heap.size w2 wt)) (fun iv _ => m - (intOf iv).toNat)
      case atStart => exact ⟨0, rfl, Nat.zero_le _, ⟨by simp⟩, hb⟩
      case round =>
        clear hb c0 c1 d0 d1
        obtain ⟨k, rfl, hkn, htk, hb⟩ := hrel
        obtain ⟨c0, c1, d0, d1⟩ := hcW.out _ hb.out
        by_cases hlt : k < m
        · have p1 : 0 ≤ (k : Int) := by omega
          have q1 : (k : Int) < (m : Int) := by omega
          obtain ⟨b, o, x, rfl, -, hx, t0, t1, t2, t3, t4, t5, t6, t7⟩ := T_one (Kd.C_below HT.out (hBW.out _ hb.out)) hlt
          obtain ⟨b', o', y, rfl, -, hy, s0, s1, s2, s3, s4, s5, s6, s7⟩ := T_one (Kd.C_below HT'.out (hBW.out _ hb.out)) hlt
          replace hx := Aside0.mk hx; replace hy := Aside0.mk hy
          by_cases hxy : x = y
          · subst hxy
            have htk' : ts.take (k + 1) = ts'.take (k + 1) := by rw [List.take_add_one, List.take_add_one, hx.out, hy.out, htk.out]
            replace htk' := Aside0.mk htk'
            go_wp2_with fail
            (refine Ht.begin2 10 (fun w' => w'.cell? ⟨b2, 1, none⟩ = some (.slice (some ⟨b, o, none⟩) m d) ∧ w'.cell? ⟨b3, 1, none⟩ = some (.slice (some ⟨b', o', none⟩) m d') ∧ w'.cell? ⟨b, o + k * 8, none⟩ = some (.int .i64 x.f0) ∧ w'.cell? ⟨b, o + k * 8 + 1, none⟩ = some (.int .i64 x.f1) ∧ w'.cell? ⟨b, o + k * 8 + 2, none⟩ = some (.int .i64 x.f2) ∧ w'.cell? ⟨b, o + k * 8 + 3, none⟩ = some (.int .u64 x.f3) ∧ w'.cell? ⟨b, o + k * 8 + 4, none⟩ = some (.bool x.f4) ∧ w'.cell? ⟨b, o + k * 8 + 5, none⟩ = some (.int .i64 x.f5) ∧ w'.cell? ⟨b, o + k * 8 + 6, none⟩ = some (.int .i64 x.f6.f0) ∧ w'.cell? ⟨b, o + k * 8 + 7, none⟩ = some (.int .i64 x.f6.f1) ∧ w'.cell? ⟨b', o' + k * 8, none⟩ = some (.int .i64 x.f0) ∧ w'.cell? ⟨b', o' + k * 8 + 1, none⟩ = some (.int .i64 x.f1) ∧ w'.cell? ⟨b', o' + k * 8 + 2, none⟩ = some (.int .i64 x.f2) ∧ w'.cell? ⟨b', o' + k * 8 + 3, none⟩ = some (.int .u64 x.f3) ∧ w'.cell? ⟨b', o' + k * 8 + 4, none⟩ = some (.bool x.f4) ∧ w'.cell? ⟨b', o' + k * 8 + 5, none⟩ = some (.int .i64 x.f5) ∧ w'.cell? ⟨b', o' + k * 8 + 6, none⟩ = some (.int .i64 x.f6.f0) ∧ w'.cell? ⟨b', o' + k * 8 + 7, none⟩ = some (.int .i64 x.f6.f1)) (by kernel_rfl) (by kernel_rfl) ⟨c1, d1, t0, t1, t2, t3, t4, t5, t6, t7, s0, s1, s2, s3, s4, s5, s6, s7⟩ ?_; intro hSnow; (try dsimp only at hSnow); simp only [List.take_succ_cons, List.take_zero, List.drop_succ_cons, List.drop_zero]; repeat (refine Ht.Hx.take (v := ?_) (by kernel_rfl) (by kernel_rfl) (fun _ _ _ h => h) (by with_reducible exact hSnow) (Or.inl ⟨by rfl, fun w hSw => ?_⟩) ?_; rotate_left; focus ((try dsimp only at hSw); go_simp; (try with_reducible rfl); done)); (try simp only [Act.put, List.setIfInBounds_toArray, List.set_cons_zero, List.set_cons_succ]))
            (refine Ht.Hx.done (by kernel_rfl) ?_; clear hSnow)
            go_wp2_with fail
            go_roundw
            case rel => exact ⟨k + 1, by simp, by omega, htk', ⟨hb.out.drew⟩⟩
            case measure => show m - ((k : Int) + 1).toNat < m - (k : Int).toNat; omega
          · have e0 : r = false := by rw [← hr.out]; exact decide_eq_false (fun e => hxy (Option.some.inj (by rw [← hx.out, ← hy.out, e.2])))
            replace hxy := Aside0.mk hxy; replace e0 := Aside0.mk e0
            go_wp2_with fail
            (refine Ht.begin2 10 (fun w' => w'.cell? ⟨b2, 1, none⟩ = some (.slice (some ⟨b, o, none⟩) m d) ∧ w'.cell? ⟨b3, 1, none⟩ = some (.slice (some ⟨b', o', none⟩) m d') ∧ w'.cell? ⟨b, o + k * 8, none⟩ = some (.int .i64 x.f0) ∧ w'.cell? ⟨b, o + k * 8 + 1, none⟩ = some (.int .i64 x.f1) ∧ w'.cell? ⟨b, o + k * 8 + 2, none⟩ = some (.int .i64 x.f2) ∧ w'.cell? ⟨b, o + k * 8 + 3, none⟩ = some (.int .u64 x.f3) ∧ w'.cell? ⟨b, o + k * 8 + 4, none⟩ = some (.bool x.f4) ∧ w'.cell? ⟨b, o + k * 8 + 5, none⟩ = some (.int .i64 x.f5) ∧ w'.cell? ⟨b, o + k * 8 + 6, none⟩ = some (.int .i64 x.f6.f0) ∧ w'.cell? ⟨b, o + k * 8 + 7, none⟩ = some (.int .i64 x.f6.f1) ∧ w'.cell? ⟨b', o' + k * 8, none⟩ = some (.int .i64 y.f0) ∧ w'.cell? ⟨b', o' + k * 8 + 1, none⟩ = some (.int .i64 y.f1) ∧ w'.cell? ⟨b', o' + k * 8 + 2, none⟩ = some (.int .i64 y.f2) ∧ w'.cell? ⟨b', o' + k * 8 + 3, none⟩ = some (.int .u64 y.f3) ∧ w'.cell? ⟨b', o' + k * 8 + 4, none⟩ = some (.bool y.f4) ∧ w'.cell? ⟨b', o' + k * 8 + 5, none⟩ = some (.int .i64 y.f5) ∧ w'.cell? ⟨b', o' + k * 8 + 6, none⟩ = some (.int .i64 y.f6.f0) ∧ w'.cell? ⟨b', o' + k * 8 + 7, none⟩ = some (.int .i64 y.f6.f1)) (by kernel_rfl) (by kernel_rfl) ⟨c1, d1, t0, t1, t2, t3, t4, t5, t6, t7, s0, s1, s2, s3, s4, s5, s6, s7⟩ ?_; intro hSnow; (try dsimp only at hSnow); simp only [List.take_succ_cons, List.take_zero, List.drop_succ_cons, List.drop_zero]; repeat (refine Ht.Hx.take (v := ?_) (by kernel_rfl) (by kernel_rfl) (fun _ _ _ h => h) (by with_reducible exact hSnow) (Or.inl ⟨by rfl, fun w hSw => ?_⟩) ?_; rotate_left; focus ((try dsimp only at hSw); go_simp; (try with_reducible rfl); done)); (try simp only [Act.put, List.setIfInBounds_toArray, List.set_cons_zero, List.set_cons_succ]))
            (refine Ht.Hx.done (by kernel_rfl) ?_; clear hSnow)
            go_wp2_with fail
            all_goals first
              | (go_ret; exact ⟨by rw [e0.out]; rfl, hBW.out _ (hb.out.drew)⟩)
              | (exfalso; exact hxy.out (tOf_inj.1 (by simp only [tOf]; congr 1)))
        · obtain rfl : m = k := by omega
          have e0 : r = true := by
            rw [← hr.out]
            have := htk.out
            rw [List.take_of_length_le (by rw [hk.out]; exact Nat.le_refl _), List.take_of_length_le (by rw [hk'.out]; exact Nat.le_refl _)] at this
            exact decide_eq_true ⟨eG.out, this⟩
          clear htk
          replace e0 := Aside0.mk e0
          go_wp2_with fail
          go_ret
          exact ⟨by rw [e0.out]; rfl, hBW.out _ hb.out⟩
end Go.Proofs.YtpnjhffnlafabaaGreatDoor.Sn
