-- PRINTED BY print.sh 35421559b90ae4d0a3588c463048766b98c2df88dd9212a6774a882060cdf62d: not written by this session
import Derived.Test.YtpnjhffnlafabaaPSceneOrdersx0
import Derived.Test.YtpnjhffnlafabaaPSceneOrdersx2
import Derived.Test.YtpnjhffnlafabaaPSceneOrdersx3
namespace Go.Proofs.Ytpnjhffnlafabaa.PSceneOrders
open Go.RowKit Go.Proofs.YtpnjhffnlafabaaW.PrintWords Go.Proofs.YtpnjhffnlafabaaW.PrintLast Go.Proofs.YtpnjhffnlafabaaW.PrintMore
attribute [local go_sem] max2_int min2_int max_two min_two max_three min_three max_four min_four   -- for this text's walks alone
set_option linter.unusedVariables false
set_option linter.unusedSimpArgs false

attribute [local go_sem high] eqA41 eqA46
-- NOT PRINTED: function 82 (slices_partitionOrdered_int)

-- NOT PRINTED: function 68 (slices_pdqsortOrdered_int)

-- NOT PRINTED: function 52 (slices_Sort_int_int)

-- NOT PRINTED: function 53 (slices_Compact_int_int)

-- NOT PRINTED: function 31 (scene_names)

/-! ### api_GroupSnap_56: function 56 -/
def api_GroupSnap_56.l0 : Nat → List (S41) → List (S41) → Int → Int → Option (Bool)
  | 0, _, _, _, _ => none
  | k + 1, x0, x1, x12, x13 => if x13 < x12 then (if 0 ≤ x13 then (if x13 < (x0.length : Int) then (if x13 < (x1.length : Int) then (if (!(((rd_T41 x0 x13).f0) == ((rd_T41 x1 x13).f0)) || (!(((rd_T41 x0 x13).f1) == ((rd_T41 x1 x13).f1)) || (!(((rd_T41 x0 x13).f2) == ((rd_T41 x1 x13).f2)) || ((!(((rd_T41 x0 x13).f3.f0) == ((rd_T41 x1 x13).f3.f0)) || (!(((rd_T41 x0 x13).f3.f1) == ((rd_T41 x1 x13).f3.f1)) || (!(((rd_T41 x0 x13).f3.f2) == ((rd_T41 x1 x13).f3.f2))))))))) = true then (some false) else (api_GroupSnap_56.l0 k x0 x1 x12 (wrap64 (x13 + 1)))) else (none)) else (none)) else (none)) else (some true)
def api_GroupSnap_56.f (k : Nat) (l0 : List (S41)) (l1 : List (S41)) : Option (Bool) := if (l0.length : Int) = (l1.length : Int) then (api_GroupSnap_56.l0 k l0 l1 (l0.length : Int) 0) else (some false)
theorem api_GroupSnap_56.mono_l : ∀ k, (∀ y0 y1 y2 y3, LeO (api_GroupSnap_56.l0 k y0 y1 y2 y3) (api_GroupSnap_56.l0 (k + 1) y0 y1 y2 y3))
  | 0 => fun _ _ _ _ r h => by simp [api_GroupSnap_56.l0] at h
  | k + 1 => by
    have ih0 := api_GroupSnap_56.mono_l k
    · intro y0 y1 y2 y3
      unfold api_GroupSnap_56.l0
      repeat' first
      | (with_reducible exact ih0 _ _ _ _)
      | (with_reducible exact LeO.refl _)
      | (with_reducible exact LeO.none _)
      | (with_reducible refine LeO.ite ?_ ?_)
      | (with_reducible refine LeO.bind ?_ (fun _ => ?_))
      | exact ih0 _ _ _ _
      | exact LeO.none _
      | refine LeO.ite ?_ ?_
      | refine LeO.bind ?_ (fun _ => ?_)
theorem api_GroupSnap_56.mono : ∀ a0 a1 k, LeO (api_GroupSnap_56.f k a0 a1) (api_GroupSnap_56.f (k + 1) a0 a1) := by
  intro a0 a1 k
  have ih0 := api_GroupSnap_56.mono_l k
  unfold api_GroupSnap_56.f
  repeat' first
      | (with_reducible exact ih0 _ _ _ _)
      | (with_reducible exact LeO.refl _)
      | (with_reducible exact LeO.none _)
      | (with_reducible refine LeO.ite ?_ ?_)
      | (with_reducible refine LeO.bind ?_ (fun _ => ?_))
      | exact ih0 _ _ _ _
      | exact LeO.none _
      | refine LeO.ite ?_ ?_
      | refine LeO.bind ?_ (fun _ => ?_)
set_option maxHeartbeats 8000000 in
set_option maxRecDepth 100000 in
theorem api_GroupSnap_56.calls (k : Nat) (A0 : Option Addr) (c0 : Nat) (l0 : List (S41)) (A1 : Option Addr) (c1 : Nat) (l1 : List (S41)) (r : Bool) (w : World) (hr0 : Kd.C k41 w A0 l0.length l0) (hc0 : l0.length ≤ c0) (hr1 : Kd.C k41 w A1 l1.length l1) (hc1 : l1.length ≤ c1) (h : api_GroupSnap_56.f k l0 l1 = some r) :
    Calls Try.prog 56 #[.slice A0 l0.length c0, .slice A1 l1.length c1] w fun e w' => e = .returned (.bool r) ∧ Drawn0 w w' := by
  have hu41 := Try.underlying41
  have HR0 := Aside0.mk hr0
  have HC0 := Aside0.mk hc0
  clear hr0 hc0
  have HR1 := Aside0.mk hr1
  have HC1 := Aside0.mk hc1
  clear hr1 hc1
  have H : (if (l0.length : Int) = (l1.length : Int) then (api_GroupSnap_56.l0 k l0 l1 (l0.length : Int) 0) else (some false)) = some r := h
  clear h
  by_cases c3 : (l0.length : Int) = (l1.length : Int)
  · rw [if_pos c3] at H
    have c3b0 : ((l0.length : Int) == (l1.length : Int)) = true := beq_iff_eq.mpr c3
    have c3b1 : ((l0.length : Int) != (l1.length : Int)) = false := bne_eq_false_iff_eq.mpr c3
    have c3b2 : (l0.length == l1.length) = true := by first | simpa using c3 | (simp at c3 ⊢; omega)
    clear c3
    have H' := Aside0.mk H
    clear H
    go_enter Try.func56, Try.ntmps56
    go_wp2
    repeat (go_quiet (fail); try go_wp2)
    go_loopg [13] k (fun kq v13 w' => ∃ (x13_1 : Int), v13 = .int .i64 x13_1 ∧ Aside0 (api_GroupSnap_56.l0 kq l0 l1 (l0.length : Int) x13_1 = some r) ∧ Aside0 (kq ≤ k) ∧ Drawn0 w w')
    case atStart => exact ⟨(0), (by first | rfl | (simp; done) | (simp [*]; done)), H', ⟨Nat.le_refl _⟩, by repeat (first | exact Drawn0.refl _ | apply Drawn0.step)⟩
    case round =>
      clear H'
      try clear c1
      try clear p2
      try clear c3
      try clear c3b0
      try clear c3b1
      try clear c3b2
      obtain ⟨x13_1, rfl, HA, HK1, ⟨m1, rfl⟩⟩ := hrel
      cases gk with
      | zero => exact absurd HA.out (by simp [api_GroupSnap_56.l0])
      | succ k1 =>
        have H := HA.out
        clear HA
        simp only [api_GroupSnap_56.l0] at H
        by_cases c4 : x13_1 < (l0.length : Int)
        · rw [if_pos c4] at H
          have c4b0 : decide (x13_1 < (l0.length : Int)) = true := decide_eq_true c4
          clear c4
          by_cases c5 : 0 ≤ x13_1
          · rw [if_pos c5] at H
            have c5b0 : decide (0 ≤ x13_1) = true := decide_eq_true c5
            clear c5
            by_cases c6 : x13_1 < (l0.length : Int)
            · rw [if_pos c6] at H
              have c6b0 : decide (x13_1 < (l0.length : Int)) = true := decide_eq_true c6
              clear c6
              by_cases c7 : x13_1 < (l1.length : Int)
              · rw [if_pos c7] at H
                have c7b0 : decide (x13_1 < (l1.length : Int)) = true := decide_eq_true c7
                clear c7
                by_cases c8 : (!(((rd_T41 l0 x13_1).f0) == ((rd_T41 l1 x13_1).f0)) || (!(((rd_T41 l0 x13_1).f1) == ((rd_T41 l1 x13_1).f1)) || (!(((rd_T41 l0 x13_1).f2) == ((rd_T41 l1 x13_1).f2)) || ((!(((rd_T41 l0 x13_1).f3.f0) == ((rd_T41 l1 x13_1).f3.f0)) || (!(((rd_T41 l0 x13_1).f3.f1) == ((rd_T41 l1 x13_1).f3.f1)) || (!(((rd_T41 l0 x13_1).f3.f2) == ((rd_T41 l1 x13_1).f3.f2))))))))) = true
                · rw [if_pos c8] at H
                  have c8b0 : (!(((rd_T41 l0 x13_1).f0) == ((rd_T41 l1 x13_1).f0)) || (!(((rd_T41 l0 x13_1).f1) == ((rd_T41 l1 x13_1).f1)) || (!(((rd_T41 l0 x13_1).f2) == ((rd_T41 l1 x13_1).f2)) || ((!(((rd_T41 l0 x13_1).f3.f0) == ((rd_T41 l1 x13_1).f3.f0)) || (!(((rd_T41 l0 x13_1).f3.f1) == ((rd_T41 l1 x13_1).f3.f1)) || (!(((rd_T41 l0 x13_1).f3.f2) == ((rd_T41 l1 x13_1).f3.f2))))))))) = true := c8
                  clear c8
                  obtain rfl := Option.some.inj H
                  have p273 : 0 ≤ (x13_1 : Int) := of_decide_eq_true (by first | (with_reducible assumption) | assumption)
                  have q273 : x13_1 < (l0.length : Int) := of_decide_eq_true (by first | (with_reducible assumption) | assumption)
                  obtain ⟨ad273, e273, hx273_0, hx273_1, hx273_2, hx273_3, hx273_4, hx273_5⟩ := at_T41 HR0.out x13_1 p273 q273
                  cases e273
                  replace p273 := eq_true p273
                  replace q273 := eq_true q273
                  have p274 : 0 ≤ (x13_1 : Int) := of_decide_eq_true (by first | (with_reducible assumption) | assumption)
                  have q274 : x13_1 < (l1.length : Int) := of_decide_eq_true (by first | (with_reducible assumption) | assumption)
                  obtain ⟨ad274, e274, hx274_0, hx274_1, hx274_2, hx274_3, hx274_4, hx274_5⟩ := at_T41 HR1.out x13_1 p274 q274
                  cases e274
                  replace p274 := eq_true p274
                  replace q274 := eq_true q274
                  go_wp2
                  repeat (go_quiet (fail); try go_wp2)
                  go_ret
                  exact ⟨by first | rfl | (simp; done) | (simp [*]; done), by repeat (first | exact Drawn0.refl _ | apply Drawn0.step)⟩
                · rw [if_neg c8] at H
                  have c8b0 : (!(((rd_T41 l0 x13_1).f0) == ((rd_T41 l1 x13_1).f0)) || (!(((rd_T41 l0 x13_1).f1) == ((rd_T41 l1 x13_1).f1)) || (!(((rd_T41 l0 x13_1).f2) == ((rd_T41 l1 x13_1).f2)) || ((!(((rd_T41 l0 x13_1).f3.f0) == ((rd_T41 l1 x13_1).f3.f0)) || (!(((rd_T41 l0 x13_1).f3.f1) == ((rd_T41 l1 x13_1).f3.f1)) || (!(((rd_T41 l0 x13_1).f3.f2) == ((rd_T41 l1 x13_1).f3.f2))))))))) = false := by simpa using c8
                  clear c8
                  have H' := Aside0.mk H
                  clear H
                  have p273 : 0 ≤ (x13_1 : Int) := of_decide_eq_true (by first | (with_reducible assumption) | assumption)
                  have q273 : x13_1 < (l0.length : Int) := of_decide_eq_true (by first | (with_reducible assumption) | assumption)
                  obtain ⟨ad273, e273, hx273_0, hx273_1, hx273_2, hx273_3, hx273_4, hx273_5⟩ := at_T41 HR0.out x13_1 p273 q273
                  cases e273
                  replace p273 := eq_true p273
                  replace q273 := eq_true q273
                  have p274 : 0 ≤ (x13_1 : Int) := of_decide_eq_true (by first | (with_reducible assumption) | assumption)
                  have q274 : x13_1 < (l1.length : Int) := of_decide_eq_true (by first | (with_reducible assumption) | assumption)
                  obtain ⟨ad274, e274, hx274_0, hx274_1, hx274_2, hx274_3, hx274_4, hx274_5⟩ := at_T41 HR1.out x13_1 p274 q274
                  cases e274
                  replace p274 := eq_true p274
                  replace q274 := eq_true q274
                  go_wp2
                  repeat (go_quiet (fail); try go_wp2)
                  go_roundg k1
                  case measure => have := HK1.out; omega
                  case rel => exact ⟨(wrap64 (x13_1 + 1)), (by first | rfl | (simp; done) | (simp [*]; done)), H', ⟨by have := HK1.out; omega⟩, by repeat (first | exact Drawn0.refl _ | apply Drawn0.step)⟩
              · rw [if_neg c7] at H
                exact absurd H (by simp)
            · rw [if_neg c6] at H
              exact absurd H (by simp)
          · rw [if_neg c5] at H
            exact absurd H (by simp)
        · rw [if_neg c4] at H
          have c4b0 : decide (x13_1 < (l0.length : Int)) = false := decide_eq_false c4
          clear c4
          obtain rfl := Option.some.inj H
          go_wp2
          repeat (go_quiet (fail); try go_wp2)
          go_ret
          exact ⟨by first | rfl | (simp; done) | (simp [*]; done), by repeat (first | exact Drawn0.refl _ | apply Drawn0.step)⟩
  · rw [if_neg c3] at H
    have c3b0 : ((l0.length : Int) == (l1.length : Int)) = false := beq_eq_false_iff_ne.mpr c3
    have c3b1 : ((l0.length : Int) != (l1.length : Int)) = true := bne_iff_ne.mpr c3
    have c3b2 : (l0.length == l1.length) = false := by first | simpa using c3 | (simp at c3 ⊢; omega)
    obtain rfl := Option.some.inj H
    go_enter Try.func56, Try.ntmps56
    go_wp2
    repeat (go_quiet (fail); try go_wp2)
    go_ret
    exact ⟨by first | rfl | (simp; done) | (simp [*]; done), by repeat (first | exact Drawn0.refl _ | apply Drawn0.step)⟩

/-! ### api_TaskSnap_57: function 57 -/
def api_TaskSnap_57.l0 : Nat → List (S46) → List (S46) → Int → Int → Option (Bool)
  | 0, _, _, _, _ => none
  | k + 1, x0, x1, x12, x13 => if x13 < x12 then (if 0 ≤ x13 then (if x13 < (x0.length : Int) then (if x13 < (x1.length : Int) then (if (!(((rd_T46 x0 x13).f0) == ((rd_T46 x1 x13).f0)) || (!(((rd_T46 x0 x13).f1) == ((rd_T46 x1 x13).f1)) || (!(((rd_T46 x0 x13).f2) == ((rd_T46 x1 x13).f2)) || (!(((rd_T46 x0 x13).f3) == ((rd_T46 x1 x13).f3)) || (!(((rd_T46 x0 x13).f4) == ((rd_T46 x1 x13).f4)) || (!(((rd_T46 x0 x13).f5) == ((rd_T46 x1 x13).f5)) || ((!(((rd_T46 x0 x13).f6.f0) == ((rd_T46 x1 x13).f6.f0)) || (!(((rd_T46 x0 x13).f6.f1) == ((rd_T46 x1 x13).f6.f1))))))))))) = true then (some false) else (api_TaskSnap_57.l0 k x0 x1 x12 (wrap64 (x13 + 1)))) else (none)) else (none)) else (none)) else (some true)
def api_TaskSnap_57.f (k : Nat) (l0 : List (S46)) (l1 : List (S46)) : Option (Bool) := if (l0.length : Int) = (l1.length : Int) then (api_TaskSnap_57.l0 k l0 l1 (l0.length : Int) 0) else (some false)
theorem api_TaskSnap_57.mono_l : ∀ k, (∀ y0 y1 y2 y3, LeO (api_TaskSnap_57.l0 k y0 y1 y2 y3) (api_TaskSnap_57.l0 (k + 1) y0 y1 y2 y3))
  | 0 => fun _ _ _ _ r h => by simp [api_TaskSnap_57.l0] at h
  | k + 1 => by
    have ih0 := api_TaskSnap_57.mono_l k
    · intro y0 y1 y2 y3
      unfold api_TaskSnap_57.l0
      repeat' first
      | (with_reducible exact ih0 _ _ _ _)
      | (with_reducible exact LeO.refl _)
      | (with_reducible exact LeO.none _)
      | (with_reducible refine LeO.ite ?_ ?_)
      | (with_reducible refine LeO.bind ?_ (fun _ => ?_))
      | exact ih0 _ _ _ _
      | exact LeO.none _
      | refine LeO.ite ?_ ?_
      | refine LeO.bind ?_ (fun _ => ?_)
theorem api_TaskSnap_57.mono : ∀ a0 a1 k, LeO (api_TaskSnap_57.f k a0 a1) (api_TaskSnap_57.f (k + 1) a0 a1) := by
  intro a0 a1 k
  have ih0 := api_TaskSnap_57.mono_l k
  unfold api_TaskSnap_57.f
  repeat' first
      | (with_reducible exact ih0 _ _ _ _)
      | (with_reducible exact LeO.refl _)
      | (with_reducible exact LeO.none _)
      | (with_reducible refine LeO.ite ?_ ?_)
      | (with_reducible refine LeO.bind ?_ (fun _ => ?_))
      | exact ih0 _ _ _ _
      | exact LeO.none _
      | refine LeO.ite ?_ ?_
      | refine LeO.bind ?_ (fun _ => ?_)
set_option maxHeartbeats 8000000 in
set_option maxRecDepth 100000 in
theorem api_TaskSnap_57.calls (k : Nat) (A0 : Option Addr) (c0 : Nat) (l0 : List (S46)) (A1 : Option Addr) (c1 : Nat) (l1 : List (S46)) (r : Bool) (w : World) (hr0 : Kd.C k46 w A0 l0.length l0) (hc0 : l0.length ≤ c0) (hr1 : Kd.C k46 w A1 l1.length l1) (hc1 : l1.length ≤ c1) (h : api_TaskSnap_57.f k l0 l1 = some r) :
    Calls Try.prog 57 #[.slice A0 l0.length c0, .slice A1 l1.length c1] w fun e w' => e = .returned (.bool r) ∧ Drawn0 w w' := by
  have hu46 := Try.underlying46
  have HR0 := Aside0.mk hr0
  have HC0 := Aside0.mk hc0
  clear hr0 hc0
  have HR1 := Aside0.mk hr1
  have HC1 := Aside0.mk hc1
  clear hr1 hc1
  have H : (if (l0.length : Int) = (l1.length : Int) then (api_TaskSnap_57.l0 k l0 l1 (l0.length : Int) 0) else (some false)) = some r := h
  clear h
  by_cases c3 : (l0.length : Int) = (l1.length : Int)
  · rw [if_pos c3] at H
    have c3b0 : ((l0.length : Int) == (l1.length : Int)) = true := beq_iff_eq.mpr c3
    have c3b1 : ((l0.length : Int) != (l1.length : Int)) = false := bne_eq_false_iff_eq.mpr c3
    have c3b2 : (l0.length == l1.length) = true := by first | simpa using c3 | (simp at c3 ⊢; omega)
    clear c3
    have H' := Aside0.mk H
    clear H
    go_enter Try.func57, Try.ntmps57
    go_wp2
    repeat (go_quiet (fail); try go_wp2)
    go_loopg [13] k (fun kq v13 w' => ∃ (x13_1 : Int), v13 = .int .i64 x13_1 ∧ Aside0 (api_TaskSnap_57.l0 kq l0 l1 (l0.length : Int) x13_1 = some r) ∧ Aside0 (kq ≤ k) ∧ Drawn0 w w')
    case atStart => exact ⟨(0), (by first | rfl | (simp; done) | (simp [*]; done)), H', ⟨Nat.le_refl _⟩, by repeat (first | exact Drawn0.refl _ | apply Drawn0.step)⟩
    case round =>
      clear H'
      try clear c1
      try clear p2
      try clear c3
      try clear c3b0
      try clear c3b1
      try clear c3b2
      obtain ⟨x13_1, rfl, HA, HK1, ⟨m1, rfl⟩⟩ := hrel
      cases gk with
      | zero => exact absurd HA.out (by simp [api_TaskSnap_57.l0])
      | succ k1 =>
        have H := HA.out
        clear HA
        simp only [api_TaskSnap_57.l0] at H
        by_cases c4 : x13_1 < (l0.length : Int)
        · rw [if_pos c4] at H
          have c4b0 : decide (x13_1 < (l0.length : Int)) = true := decide_eq_true c4
          clear c4
          by_cases c5 : 0 ≤ x13_1
          · rw [if_pos c5] at H
            have c5b0 : decide (0 ≤ x13_1) = true := decide_eq_true c5
            clear c5
            by_cases c6 : x13_1 < (l0.length : Int)
            · rw [if_pos c6] at H
              have c6b0 : decide (x13_1 < (l0.length : Int)) = true := decide_eq_true c6
              clear c6
              by_cases c7 : x13_1 < (l1.length : Int)
              · rw [if_pos c7] at H
                have c7b0 : decide (x13_1 < (l1.length : Int)) = true := decide_eq_true c7
                clear c7
                by_cases c8 : (!(((rd_T46 l0 x13_1).f0) == ((rd_T46 l1 x13_1).f0)) || (!(((rd_T46 l0 x13_1).f1) == ((rd_T46 l1 x13_1).f1)) || (!(((rd_T46 l0 x13_1).f2) == ((rd_T46 l1 x13_1).f2)) || (!(((rd_T46 l0 x13_1).f3) == ((rd_T46 l1 x13_1).f3)) || (!(((rd_T46 l0 x13_1).f4) == ((rd_T46 l1 x13_1).f4)) || (!(((rd_T46 l0 x13_1).f5) == ((rd_T46 l1 x13_1).f5)) || ((!(((rd_T46 l0 x13_1).f6.f0) == ((rd_T46 l1 x13_1).f6.f0)) || (!(((rd_T46 l0 x13_1).f6.f1) == ((rd_T46 l1 x13_1).f6.f1))))))))))) = true
                · rw [if_pos c8] at H
                  have c8b0 : (!(((rd_T46 l0 x13_1).f0) == ((rd_T46 l1 x13_1).f0)) || (!(((rd_T46 l0 x13_1).f1) == ((rd_T46 l1 x13_1).f1)) || (!(((rd_T46 l0 x13_1).f2) == ((rd_T46 l1 x13_1).f2)) || (!(((rd_T46 l0 x13_1).f3) == ((rd_T46 l1 x13_1).f3)) || (!(((rd_T46 l0 x13_1).f4) == ((rd_T46 l1 x13_1).f4)) || (!(((rd_T46 l0 x13_1).f5) == ((rd_T46 l1 x13_1).f5)) || ((!(((rd_T46 l0 x13_1).f6.f0) == ((rd_T46 l1 x13_1).f6.f0)) || (!(((rd_T46 l0 x13_1).f6.f1) == ((rd_T46 l1 x13_1).f6.f1))))))))))) = true := c8
                  clear c8
                  obtain rfl := Option.some.inj H
                  have p275 : 0 ≤ (x13_1 : Int) := of_decide_eq_true (by first | (with_reducible assumption) | assumption)
                  have q275 : x13_1 < (l0.length : Int) := of_decide_eq_true (by first | (with_reducible assumption) | assumption)
                  obtain ⟨ad275, e275, hx275_0, hx275_1, hx275_2, hx275_3, hx275_4, hx275_5, hx275_6, hx275_7⟩ := at_T46 HR0.out x13_1 p275 q275
                  cases e275
                  replace p275 := eq_true p275
                  replace q275 := eq_true q275
                  have p276 : 0 ≤ (x13_1 : Int) := of_decide_eq_true (by first | (with_reducible assumption) | assumption)
                  have q276 : x13_1 < (l1.length : Int) := of_decide_eq_true (by first | (with_reducible assumption) | assumption)
                  obtain ⟨ad276, e276, hx276_0, hx276_1, hx276_2, hx276_3, hx276_4, hx276_5, hx276_6, hx276_7⟩ := at_T46 HR1.out x13_1 p276 q276
                  cases e276
                  replace p276 := eq_true p276
                  replace q276 := eq_true q276
                  go_wp2
                  repeat (go_quiet (fail); try go_wp2)
                  go_ret
                  exact ⟨by first | rfl | (simp; done) | (simp [*]; done), by repeat (first | exact Drawn0.refl _ | apply Drawn0.step)⟩
                · rw [if_neg c8] at H
                  have c8b0 : (!(((rd_T46 l0 x13_1).f0) == ((rd_T46 l1 x13_1).f0)) || (!(((rd_T46 l0 x13_1).f1) == ((rd_T46 l1 x13_1).f1)) || (!(((rd_T46 l0 x13_1).f2) == ((rd_T46 l1 x13_1).f2)) || (!(((rd_T46 l0 x13_1).f3) == ((rd_T46 l1 x13_1).f3)) || (!(((rd_T46 l0 x13_1).f4) == ((rd_T46 l1 x13_1).f4)) || (!(((rd_T46 l0 x13_1).f5) == ((rd_T46 l1 x13_1).f5)) || ((!(((rd_T46 l0 x13_1).f6.f0) == ((rd_T46 l1 x13_1).f6.f0)) || (!(((rd_T46 l0 x13_1).f6.f1) == ((rd_T46 l1 x13_1).f6.f1))))))))))) = false := by simpa using c8
                  clear c8
                  have H' := Aside0.mk H
                  clear H
                  have p275 : 0 ≤ (x13_1 : Int) := of_decide_eq_true (by first | (with_reducible assumption) | assumption)
                  have q275 : x13_1 < (l0.length : Int) := of_decide_eq_true (by first | (with_reducible assumption) | assumption)
                  obtain ⟨ad275, e275, hx275_0, hx275_1, hx275_2, hx275_3, hx275_4, hx275_5, hx275_6, hx275_7⟩ := at_T46 HR0.out x13_1 p275 q275
                  cases e275
                  replace p275 := eq_true p275
                  replace q275 := eq_true q275
                  have p276 : 0 ≤ (x13_1 : Int) := of_decide_eq_true (by first | (with_reducible assumption) | assumption)
                  have q276 : x13_1 < (l1.length : Int) := of_decide_eq_true (by first | (with_reducible assumption) | assumption)
                  obtain ⟨ad276, e276, hx276_0, hx276_1, hx276_2, hx276_3, hx276_4, hx276_5, hx276_6, hx276_7⟩ := at_T46 HR1.out x13_1 p276 q276
                  cases e276
                  replace p276 := eq_true p276
                  replace q276 := eq_true q276
                  go_wp2
                  repeat (go_quiet (fail); try go_wp2)
                  go_roundg k1
                  case measure => have := HK1.out; omega
                  case rel => exact ⟨(wrap64 (x13_1 + 1)), (by first | rfl | (simp; done) | (simp [*]; done)), H', ⟨by have := HK1.out; omega⟩, by repeat (first | exact Drawn0.refl _ | apply Drawn0.step)⟩
              · rw [if_neg c7] at H
                exact absurd H (by simp)
            · rw [if_neg c6] at H
              exact absurd H (by simp)
          · rw [if_neg c5] at H
            exact absurd H (by simp)
        · rw [if_neg c4] at H
          have c4b0 : decide (x13_1 < (l0.length : Int)) = false := decide_eq_false c4
          clear c4
          obtain rfl := Option.some.inj H
          go_wp2
          repeat (go_quiet (fail); try go_wp2)
          go_ret
          exact ⟨by first | rfl | (simp; done) | (simp [*]; done), by repeat (first | exact Drawn0.refl _ | apply Drawn0.step)⟩
  · rw [if_neg c3] at H
    have c3b0 : ((l0.length : Int) == (l1.length : Int)) = false := beq_eq_false_iff_ne.mpr c3
    have c3b1 : ((l0.length : Int) != (l1.length : Int)) = true := bne_iff_ne.mpr c3
    have c3b2 : (l0.length == l1.length) = false := by first | simpa using c3 | (simp at c3 ⊢; omega)
    obtain rfl := Option.some.inj H
    go_enter Try.func57, Try.ntmps57
    go_wp2
    repeat (go_quiet (fail); try go_wp2)
    go_ret
    exact ⟨by first | rfl | (simp; done) | (simp [*]; done), by repeat (first | exact Drawn0.refl _ | apply Drawn0.step)⟩

/-! ### scene_same: function 33 -/
def scene_same.f (k : Nat) (l0_0 : List (S41)) (l0_1 : List (S46)) (l1_0 : List (S41)) (l1_1 : List (S46)) : Option (Bool) := (api_GroupSnap_56.f k l0_0 l1_0).bind fun t279 => (if t279 = true then ((api_TaskSnap_57.f k l0_1 l1_1).bind fun t280 => (some t280)) else (some false))
theorem scene_same.mono : ∀ a0 a1 a2 a3 k, LeO (scene_same.f k a0 a1 a2 a3) (scene_same.f (k + 1) a0 a1 a2 a3) := by
  intro a0 a1 a2 a3 k
  unfold scene_same.f
  repeat' first
      | (with_reducible exact api_GroupSnap_56.mono _ _ _)
      | (with_reducible exact api_TaskSnap_57.mono _ _ _)
      | (with_reducible exact LeO.refl _)
      | (with_reducible exact LeO.none _)
      | (with_reducible refine LeO.ite ?_ ?_)
      | (with_reducible refine LeO.bind ?_ (fun _ => ?_))
      | exact api_GroupSnap_56.mono _ _ _
      | exact api_TaskSnap_57.mono _ _ _
      | exact LeO.none _
      | refine LeO.ite ?_ ?_
      | refine LeO.bind ?_ (fun _ => ?_)
set_option maxHeartbeats 8000000 in
set_option maxRecDepth 100000 in
theorem scene_same.calls (k : Nat) (A0_0 : Option Addr) (c0_0 : Nat) (l0_0 : List (S41)) (A0_1 : Option Addr) (c0_1 : Nat) (l0_1 : List (S46)) (A1_0 : Option Addr) (c1_0 : Nat) (l1_0 : List (S41)) (A1_1 : Option Addr) (c1_1 : Nat) (l1_1 : List (S46)) (r : Bool) (w : World) (hr0_0 : Kd.C k41 w A0_0 l0_0.length l0_0) (hc0_0 : l0_0.length ≤ c0_0) (hr0_1 : Kd.C k46 w A0_1 l0_1.length l0_1) (hc0_1 : l0_1.length ≤ c0_1) (hr1_0 : Kd.C k41 w A1_0 l1_0.length l1_0) (hc1_0 : l1_0.length ≤ c1_0) (hr1_1 : Kd.C k46 w A1_1 l1_1.length l1_1) (hc1_1 : l1_1.length ≤ c1_1) (h : scene_same.f k l0_0 l0_1 l1_0 l1_1 = some r) :
    Calls Try.prog 33 #[.agg #[.slice A0_0 l0_0.length c0_0, .slice A0_1 l0_1.length c0_1], .agg #[.slice A1_0 l1_0.length c1_0, .slice A1_1 l1_1.length c1_1]] w fun e w' => e = .returned (.bool r) ∧ Below w.heap.size w w' := by
  have hu25 := Try.underlying25
  have HR0_0 := Aside0.mk hr0_0
  have HC0_0 := Aside0.mk hc0_0
  clear hr0_0 hc0_0
  have HR0_1 := Aside0.mk hr0_1
  have HC0_1 := Aside0.mk hc0_1
  clear hr0_1 hc0_1
  have HR1_0 := Aside0.mk hr1_0
  have HC1_0 := Aside0.mk hc1_0
  clear hr1_0 hc1_0
  have HR1_1 := Aside0.mk hr1_1
  have HC1_1 := Aside0.mk hc1_1
  clear hr1_1 hc1_1
  have HB := Aside0.mk (Below.refl w.heap.size w)
  have H : ((api_GroupSnap_56.f k l0_0 l1_0).bind fun t279 => (if t279 = true then ((api_TaskSnap_57.f k l0_1 l1_1).bind fun t280 => (some t280)) else (some false))) = some r := h
  clear h
  replace H := Option.bind_eq_some_iff.mp H
  obtain ⟨t279, A30, H⟩ := H
  replace H : (if t279 = true then ((api_TaskSnap_57.f k l0_1 l1_1).bind fun t280 => (some t280)) else (some false)) = some r := H
  have A3 := Aside0.mk A30
  clear A30
  by_cases c4 : t279 = true
  · subst c4
    have H1 : ((api_TaskSnap_57.f k l0_1 l1_1).bind fun t280 => (some t280)) = some r := by rw [if_pos rfl] at H; exact H
    clear H
    have H := H1
    clear H1
    replace H := Option.bind_eq_some_iff.mp H
    obtain ⟨t280, A50, H⟩ := H
    replace H : (some t280) = some r := H
    have A5 := Aside0.mk A50
    clear A50
    obtain rfl := Option.some.inj H
    go_enter Try.func33, Try.ntmps33
    go_wp2_with (first | ((with_reducible refine gate_dst (N := 2) rfl ?_); refine box_event ?hg (N := 2) ?hd (cs := #[.slice A0_0 l0_0.length c0_0, .slice A0_1 l0_1.length c0_1]) (t := 25) ?hr ?_; (case hd => rfl); (case hg => rfl); (case hr => first | (go_simp; done) | (go_simp; rfl)); intro gb277 hg w6 hbox hb; have n0_ := Aside0.mk (below_step (by repeat (first | (with_reducible first | exact HB.out | apply below_alloc | apply pw_below_drewN | apply below_drew1) | exact HB.out)) hb); have n1_ := Aside0.mk (hbox); have n2_ := Aside0.mk ((by rw [hg]; exact (below_size (by repeat (first | (with_reducible first | exact HB.out | apply below_alloc | apply pw_below_drewN | apply below_drew1) | exact HB.out))) : w.heap.size ≤ gb277)); have n3_ := Aside0.mk ((by rw [hg]; exact (below_size (by repeat (first | (with_reducible first | exact HB.out | apply below_alloc | apply pw_below_drewN | apply below_drew1) | exact HB.out))) : w.heap.size ≤ gb277)); clear HB; have HB := n0_; have BK277 := n1_; have GW277 := n2_; have GE277 := n3_; clear n0_ n1_ n2_ n3_; clear hb hbox hg) | ((with_reducible refine gate_dst (N := 3) rfl ?_); refine box_event ?hg (N := 3) ?hd (cs := #[.slice A1_0 l1_0.length c1_0, .slice A1_1 l1_1.length c1_1]) (t := 25) ?hr ?_; (case hd => rfl); (case hg => rfl); (case hr => first | (go_simp; done) | (go_simp; rfl)); intro gb278 hg w7 hbox hb; have n0_ := Aside0.mk (blk_below (g := gb277) (o := .cells #[.slice A0_0 l0_0.length c0_0, .slice A0_1 l0_1.length c0_1] 25 (0, 0)) (by (with_reducible repeat (first | refine blk_drewN ?_ _ | refine blk_drew ?_ | refine blk_alloc ?_ _)); exact BK277.out) hb); have n1_ := Aside0.mk (below_step (by repeat (first | (with_reducible first | exact HB.out | apply below_alloc | apply pw_below_drewN | apply below_drew1 | refine below_set ?_ GE277.out) | exact HB.out)) hb); have n2_ := Aside0.mk (hbox); have n3_ := Aside0.mk ((by rw [hg]; exact (below_size (by repeat (first | (with_reducible first | exact HB.out | apply below_alloc | apply pw_below_drewN | apply below_drew1 | refine below_set ?_ GE277.out) | exact HB.out))) : w.heap.size ≤ gb278)); have n4_ := Aside0.mk ((by rw [hg]; exact (below_size (by repeat (first | (with_reducible first | exact HB.out | apply below_alloc | apply pw_below_drewN | apply below_drew1 | refine below_set ?_ GE277.out) | exact HB.out))) : w.heap.size ≤ gb278)); have n5_ := Aside0.mk ((by rw [hg]; exact Nat.ne_of_lt (blk_lt (g := gb277) (o := .cells #[.slice A0_0 l0_0.length c0_0, .slice A0_1 l0_1.length c0_1] 25 (0, 0)) (by (with_reducible repeat (first | refine blk_drewN ?_ _ | refine blk_drew ?_ | refine blk_alloc ?_ _)); exact BK277.out)) : gb277 ≠ gb278)); have n6_ := Aside0.mk ((by rw [hg]; exact Nat.ne_of_gt (blk_lt (g := gb277) (o := .cells #[.slice A0_0 l0_0.length c0_0, .slice A0_1 l0_1.length c0_1] 25 (0, 0)) (by (with_reducible repeat (first | refine blk_drewN ?_ _ | refine blk_drew ?_ | refine blk_alloc ?_ _)); exact BK277.out)) : gb278 ≠ gb277)); clear BK277; clear HB; have BK277 := n0_; have HB := n1_; have BK278 := n2_; have GW278 := n3_; have GE278 := n4_; have NB277_278 := n5_; have NB278_277 := n6_; clear n0_ n1_ n2_ n3_ n4_ n5_ n6_; clear hb hbox hg; have hnb8 := NB277_278.out; have hnc8 := NB278_277.out; have hcz9_0 : w7.cell? ⟨gb277, 0, none⟩ = some (.slice A0_0 l0_0.length c0_0) := (blk_cell BK277.out 0).trans rfl; have hcz9_1 : w7.cell? ⟨gb277, 1, none⟩ = some (.slice A0_1 l0_1.length c0_1) := (blk_cell BK277.out 1).trans rfl; have hfz9_0 := blk_frozen BK277.out 0; have hfz9_1 := blk_frozen BK277.out 1; have hcz10_0 : w7.cell? ⟨gb278, 0, none⟩ = some (.slice A1_0 l1_0.length c1_0) := (blk_cell BK278.out 0).trans rfl; have hcz10_1 : w7.cell? ⟨gb278, 1, none⟩ = some (.slice A1_1 l1_1.length c1_1) := (blk_cell BK278.out 1).trans rfl; have hfz10_0 := blk_frozen BK278.out 0; have hfz10_1 := blk_frozen BK278.out 1) | ((with_reducible refine gate_callee (f := 56) rfl ?_); refine goesL_ (some 9) rfl rfl Try.func56 (by kernel_rfl) rfl #[.slice A0_0 l0_0.length c0_0, .slice A1_0 l1_0.length c1_0] rfl (by (try simp only [List.map_toArray, List.map_cons, List.map_nil]); first | done | rfl | (simp only [List.length_drop, List.length_take]; rfl)) ?_; (with_reducible refine (api_GroupSnap_56.calls k _ _ l0_0 _ _ l1_0 true _ ?side1 ?side2 ?side3 ?side4 A3.out).mono ?_); (case side1 => repeat (first | exact (Kd.C_below HR0_0.out HB.out) | (with_reducible refine Kd.C_alloc ?_ _) | (with_reducible refine Kd.C_drewN ?_ _) | (with_reducible refine Kd.C_drew ?_))); (case side2 => exact HC0_0.out); (case side3 => repeat (first | exact (Kd.C_below HR1_0.out HB.out) | (with_reducible refine Kd.C_alloc ?_ _) | (with_reducible refine Kd.C_drewN ?_ _) | (with_reducible refine Kd.C_drew ?_))); (case side4 => exact HC1_0.out); rintro e w' ⟨rfl, ⟨nd, rfl⟩⟩; refine ⟨_, rfl, ?_⟩) | (go_at_call 57; (with_reducible refine (api_TaskSnap_57.calls k _ _ l0_1 _ _ l1_1 t280 _ ?side1 ?side2 ?side3 ?side4 A5.out).mono ?_); (case side1 => repeat (first | exact (Kd.C_below HR0_1.out (by repeat (first | (with_reducible first | exact HB.out | apply below_alloc | apply pw_below_drewN | apply below_drew1 | refine below_set ?_ GE277.out | refine below_set ?_ GE278.out) | exact HB.out))) | (with_reducible refine Kd.C_alloc ?_ _) | (with_reducible refine Kd.C_drewN ?_ _) | (with_reducible refine Kd.C_drew ?_))); (case side2 => exact HC0_1.out); (case side3 => repeat (first | exact (Kd.C_below HR1_1.out (by repeat (first | (with_reducible first | exact HB.out | apply below_alloc | apply pw_below_drewN | apply below_drew1 | refine below_set ?_ GE277.out | refine below_set ?_ GE278.out) | exact HB.out))) | (with_reducible refine Kd.C_alloc ?_ _) | (with_reducible refine Kd.C_drewN ?_ _) | (with_reducible refine Kd.C_drew ?_))); (case side4 => exact HC1_1.out); rintro e w' ⟨rfl, ⟨nd, rfl⟩⟩))
    go_ret
    exact ⟨by first | rfl | (simp [errW_none, errW_some] <;> rfl) | (simp [*, errW_none, errW_some] <;> rfl), by repeat (first | (with_reducible first | exact HB.out | apply below_alloc | apply pw_below_drewN | apply below_drew1 | refine below_set ?_ GE277.out | refine below_set ?_ GE278.out) | exact HB.out)⟩
  · replace c4 := Bool.eq_false_iff.mpr c4
    subst c4
    have H1 : (some false) = some r := by rw [if_neg (show ¬ (false = true) by decide)] at H; exact H
    clear H
    have H := H1
    clear H1
    obtain rfl := Option.some.inj H
    go_enter Try.func33, Try.ntmps33
    go_wp2_with (first | ((with_reducible refine gate_dst (N := 2) rfl ?_); refine box_event ?hg (N := 2) ?hd (cs := #[.slice A0_0 l0_0.length c0_0, .slice A0_1 l0_1.length c0_1]) (t := 25) ?hr ?_; (case hd => rfl); (case hg => rfl); (case hr => first | (go_simp; done) | (go_simp; rfl)); intro gb277 hg w11 hbox hb; have n0_ := Aside0.mk (below_step (by repeat (first | (with_reducible first | exact HB.out | apply below_alloc | apply pw_below_drewN | apply below_drew1) | exact HB.out)) hb); have n1_ := Aside0.mk (hbox); have n2_ := Aside0.mk ((by rw [hg]; exact (below_size (by repeat (first | (with_reducible first | exact HB.out | apply below_alloc | apply pw_below_drewN | apply below_drew1) | exact HB.out))) : w.heap.size ≤ gb277)); have n3_ := Aside0.mk ((by rw [hg]; exact (below_size (by repeat (first | (with_reducible first | exact HB.out | apply below_alloc | apply pw_below_drewN | apply below_drew1) | exact HB.out))) : w.heap.size ≤ gb277)); clear HB; have HB := n0_; have BK277 := n1_; have GW277 := n2_; have GE277 := n3_; clear n0_ n1_ n2_ n3_; clear hb hbox hg) | ((with_reducible refine gate_dst (N := 3) rfl ?_); refine box_event ?hg (N := 3) ?hd (cs := #[.slice A1_0 l1_0.length c1_0, .slice A1_1 l1_1.length c1_1]) (t := 25) ?hr ?_; (case hd => rfl); (case hg => rfl); (case hr => first | (go_simp; done) | (go_simp; rfl)); intro gb278 hg w12 hbox hb; have n0_ := Aside0.mk (blk_below (g := gb277) (o := .cells #[.slice A0_0 l0_0.length c0_0, .slice A0_1 l0_1.length c0_1] 25 (0, 0)) (by (with_reducible repeat (first | refine blk_drewN ?_ _ | refine blk_drew ?_ | refine blk_alloc ?_ _)); exact BK277.out) hb); have n1_ := Aside0.mk (below_step (by repeat (first | (with_reducible first | exact HB.out | apply below_alloc | apply pw_below_drewN | apply below_drew1 | refine below_set ?_ GE277.out) | exact HB.out)) hb); have n2_ := Aside0.mk (hbox); have n3_ := Aside0.mk ((by rw [hg]; exact (below_size (by repeat (first | (with_reducible first | exact HB.out | apply below_alloc | apply pw_below_drewN | apply below_drew1 | refine below_set ?_ GE277.out) | exact HB.out))) : w.heap.size ≤ gb278)); have n4_ := Aside0.mk ((by rw [hg]; exact (below_size (by repeat (first | (with_reducible first | exact HB.out | apply below_alloc | apply pw_below_drewN | apply below_drew1 | refine below_set ?_ GE277.out) | exact HB.out))) : w.heap.size ≤ gb278)); have n5_ := Aside0.mk ((by rw [hg]; exact Nat.ne_of_lt (blk_lt (g := gb277) (o := .cells #[.slice A0_0 l0_0.length c0_0, .slice A0_1 l0_1.length c0_1] 25 (0, 0)) (by (with_reducible repeat (first | refine blk_drewN ?_ _ | refine blk_drew ?_ | refine blk_alloc ?_ _)); exact BK277.out)) : gb277 ≠ gb278)); have n6_ := Aside0.mk ((by rw [hg]; exact Nat.ne_of_gt (blk_lt (g := gb277) (o := .cells #[.slice A0_0 l0_0.length c0_0, .slice A0_1 l0_1.length c0_1] 25 (0, 0)) (by (with_reducible repeat (first | refine blk_drewN ?_ _ | refine blk_drew ?_ | refine blk_alloc ?_ _)); exact BK277.out)) : gb278 ≠ gb277)); clear BK277; clear HB; have BK277 := n0_; have HB := n1_; have BK278 := n2_; have GW278 := n3_; have GE278 := n4_; have NB277_278 := n5_; have NB278_277 := n6_; clear n0_ n1_ n2_ n3_ n4_ n5_ n6_; clear hb hbox hg; have hnb13 := NB277_278.out; have hnc13 := NB278_277.out; have hcz14_0 : w12.cell? ⟨gb277, 0, none⟩ = some (.slice A0_0 l0_0.length c0_0) := (blk_cell BK277.out 0).trans rfl; have hcz14_1 : w12.cell? ⟨gb277, 1, none⟩ = some (.slice A0_1 l0_1.length c0_1) := (blk_cell BK277.out 1).trans rfl; have hfz14_0 := blk_frozen BK277.out 0; have hfz14_1 := blk_frozen BK277.out 1; have hcz15_0 : w12.cell? ⟨gb278, 0, none⟩ = some (.slice A1_0 l1_0.length c1_0) := (blk_cell BK278.out 0).trans rfl; have hcz15_1 : w12.cell? ⟨gb278, 1, none⟩ = some (.slice A1_1 l1_1.length c1_1) := (blk_cell BK278.out 1).trans rfl; have hfz15_0 := blk_frozen BK278.out 0; have hfz15_1 := blk_frozen BK278.out 1) | ((with_reducible refine gate_callee (f := 56) rfl ?_); refine goesL_ (some 9) rfl rfl Try.func56 (by kernel_rfl) rfl #[.slice A0_0 l0_0.length c0_0, .slice A1_0 l1_0.length c1_0] rfl (by (try simp only [List.map_toArray, List.map_cons, List.map_nil]); first | done | rfl | (simp only [List.length_drop, List.length_take]; rfl)) ?_; (with_reducible refine (api_GroupSnap_56.calls k _ _ l0_0 _ _ l1_0 false _ ?side1 ?side2 ?side3 ?side4 A3.out).mono ?_); (case side1 => repeat (first | exact (Kd.C_below HR0_0.out HB.out) | (with_reducible refine Kd.C_alloc ?_ _) | (with_reducible refine Kd.C_drewN ?_ _) | (with_reducible refine Kd.C_drew ?_))); (case side2 => exact HC0_0.out); (case side3 => repeat (first | exact (Kd.C_below HR1_0.out HB.out) | (with_reducible refine Kd.C_alloc ?_ _) | (with_reducible refine Kd.C_drewN ?_ _) | (with_reducible refine Kd.C_drew ?_))); (case side4 => exact HC1_0.out); rintro e w' ⟨rfl, ⟨nd, rfl⟩⟩; refine ⟨_, rfl, ?_⟩))
    go_ret
    exact ⟨by first | rfl | (simp [errW_none, errW_some] <;> rfl) | (simp [*, errW_none, errW_some] <;> rfl), by repeat (first | (with_reducible first | exact HB.out | apply below_alloc | apply pw_below_drewN | apply below_drew1 | refine below_set ?_ GE277.out | refine below_set ?_ GE278.out) | exact HB.out)⟩

-- NOT PRINTED: function 12 (scene_Check)

-- NOT PRINTED: function 9 (diapauselaw13_awake)

/-! ### diapauseref13_Few: function 10 -/
def diapauseref13_Few.f (l0_0 : List (S41)) (l0_1 : List (S46)) : Option (Bool) := if (l0_0.length : Int) ≤ 30 then (some (decide ((l0_1.length : Int) ≤ 30))) else (some false)
set_option maxHeartbeats 8000000 in
set_option maxRecDepth 100000 in
theorem diapauseref13_Few.calls (A0_0 : Option Addr) (c0_0 : Nat) (l0_0 : List (S41)) (A0_1 : Option Addr) (c0_1 : Nat) (l0_1 : List (S46)) (r : Bool) (w : World) (hr0_0 : Kd.C k41 w A0_0 l0_0.length l0_0) (hc0_0 : l0_0.length ≤ c0_0) (hr0_1 : Kd.C k46 w A0_1 l0_1.length l0_1) (hc0_1 : l0_1.length ≤ c0_1) (h : diapauseref13_Few.f l0_0 l0_1 = some r) :
    Calls Try.prog 10 #[.agg #[.slice A0_0 l0_0.length c0_0, .slice A0_1 l0_1.length c0_1]] w fun e w' => e = .returned (.bool r) ∧ Below w.heap.size w w' := by
  have hu25 := Try.underlying25
  have HR0_0 := Aside0.mk hr0_0
  have HC0_0 := Aside0.mk hc0_0
  clear hr0_0 hc0_0
  have HR0_1 := Aside0.mk hr0_1
  have HC0_1 := Aside0.mk hc0_1
  clear hr0_1 hc0_1
  have HB := Aside0.mk (Below.refl w.heap.size w)
  have H : (if (l0_0.length : Int) ≤ 30 then (some (decide ((l0_1.length : Int) ≤ 30))) else (some false)) = some r := h
  clear h
  by_cases c2 : (l0_0.length : Int) ≤ 30
  · rw [if_pos c2] at H
    have c2b0 : decide ((l0_0.length : Int) ≤ 30) = true := decide_eq_true c2
    have c2b1 : decide (l0_0.length ≤ 30) = true := decide_eq_true (by omega)
    clear c2
    obtain rfl := Option.some.inj H
    go_enter Try.func10, Try.ntmps10
    go_wp2_with (first | ((with_reducible refine gate_dst (N := 1) rfl ?_); (try (refine gate_guard (by rfl) ?_; dsimp only)); refine box_event ?hg (N := 1) ?hd (cs := #[.slice A0_0 l0_0.length c0_0, .slice A0_1 l0_1.length c0_1]) (t := 25) ?hr ?_; (case hd => rfl); (case hg => rfl); (case hr => first | (go_simp; done) | (go_simp; rfl)); intro gb286 hg w3 hbox hb; have n0_ := Aside0.mk (below_step (by repeat (first | (with_reducible first | exact HB.out | apply below_alloc | apply pw_below_drewN | apply below_drew1) | exact HB.out)) hb); have n1_ := Aside0.mk (hbox); have n2_ := Aside0.mk ((by rw [hg]; exact (below_size (by repeat (first | (with_reducible first | exact HB.out | apply below_alloc | apply pw_below_drewN | apply below_drew1) | exact HB.out))) : w.heap.size ≤ gb286)); have n3_ := Aside0.mk ((by rw [hg]; exact (below_size (by repeat (first | (with_reducible first | exact HB.out | apply below_alloc | apply pw_below_drewN | apply below_drew1) | exact HB.out))) : w.heap.size ≤ gb286)); clear HB; have HB := n0_; have BK286 := n1_; have GW286 := n2_; have GE286 := n3_; clear n0_ n1_ n2_ n3_; clear hb hbox hg; have hcz4_0 : w3.cell? ⟨gb286, 0, none⟩ = some (.slice A0_0 l0_0.length c0_0) := (blk_cell BK286.out 0).trans rfl; have hcz4_1 : w3.cell? ⟨gb286, 1, none⟩ = some (.slice A0_1 l0_1.length c0_1) := (blk_cell BK286.out 1).trans rfl; have hfz4_0 := blk_frozen BK286.out 0; have hfz4_1 := blk_frozen BK286.out 1))
    go_ret
    exact ⟨by first | rfl | (simp [errW_none, errW_some] <;> rfl) | (simp [*, errW_none, errW_some] <;> rfl), by repeat (first | (with_reducible first | exact HB.out | apply below_alloc | apply pw_below_drewN | apply below_drew1 | refine below_set ?_ GE286.out) | exact HB.out)⟩
  · rw [if_neg c2] at H
    have c2b0 : decide ((l0_0.length : Int) ≤ 30) = false := decide_eq_false c2
    have c2b1 : decide (l0_0.length ≤ 30) = false := decide_eq_false (by omega)
    clear c2
    obtain rfl := Option.some.inj H
    go_enter Try.func10, Try.ntmps10
    go_wp2_with (first | ((with_reducible refine gate_dst (N := 1) rfl ?_); (try (refine gate_guard (by rfl) ?_; dsimp only)); refine box_event ?hg (N := 1) ?hd (cs := #[.slice A0_0 l0_0.length c0_0, .slice A0_1 l0_1.length c0_1]) (t := 25) ?hr ?_; (case hd => rfl); (case hg => rfl); (case hr => first | (go_simp; done) | (go_simp; rfl)); intro gb286 hg w5 hbox hb; have n0_ := Aside0.mk (below_step (by repeat (first | (with_reducible first | exact HB.out | apply below_alloc | apply pw_below_drewN | apply below_drew1) | exact HB.out)) hb); have n1_ := Aside0.mk (hbox); have n2_ := Aside0.mk ((by rw [hg]; exact (below_size (by repeat (first | (with_reducible first | exact HB.out | apply below_alloc | apply pw_below_drewN | apply below_drew1) | exact HB.out))) : w.heap.size ≤ gb286)); have n3_ := Aside0.mk ((by rw [hg]; exact (below_size (by repeat (first | (with_reducible first | exact HB.out | apply below_alloc | apply pw_below_drewN | apply below_drew1) | exact HB.out))) : w.heap.size ≤ gb286)); clear HB; have HB := n0_; have BK286 := n1_; have GW286 := n2_; have GE286 := n3_; clear n0_ n1_ n2_ n3_; clear hb hbox hg; have hcz6_0 : w5.cell? ⟨gb286, 0, none⟩ = some (.slice A0_0 l0_0.length c0_0) := (blk_cell BK286.out 0).trans rfl; have hcz6_1 : w5.cell? ⟨gb286, 1, none⟩ = some (.slice A0_1 l0_1.length c0_1) := (blk_cell BK286.out 1).trans rfl; have hfz6_0 := blk_frozen BK286.out 0; have hfz6_1 := blk_frozen BK286.out 1))
    go_ret
    exact ⟨by first | rfl | (simp [errW_none, errW_some] <;> rfl) | (simp [*, errW_none, errW_some] <;> rfl), by repeat (first | (with_reducible first | exact HB.out | apply below_alloc | apply pw_below_drewN | apply below_drew1 | refine below_set ?_ GE286.out) | exact HB.out)⟩

/-! ### diapauseref13_Ids: function 15 -/
mutual
def diapauseref13_Ids.l0 : Nat → List Int → Int → List (S41) → List (S46) → Option (List Int)
  | 0, _, _, _, _ => none
  | k + 1, x3, x4, x288000, x288001 => if x4 < (x288000.length : Int) then (if 0 ≤ x4 then (if x3.length < 17592186044416 then (diapauseref13_Ids.l0 k (x3 ++ [(rd_T41 x288000 x4).f0]) (wrap64 (x4 + 1)) x288000 x288001) else (none)) else (none)) else (diapauseref13_Ids.l1 k x3 0 x288000 x288001)
def diapauseref13_Ids.l1 : Nat → List Int → Int → List (S41) → List (S46) → Option (List Int)
  | 0, _, _, _, _ => none
  | k + 1, x3, x5, x288000, x288001 => if x5 < (x288001.length : Int) then (if 0 ≤ x5 then (if x3.length < 17592186044416 then (diapauseref13_Ids.l1 k (x3 ++ [(rd_T46 x288001 x5).f0]) (wrap64 (x5 + 1)) x288000 x288001) else (none)) else (none)) else (some x3)
end
def diapauseref13_Ids.f (k : Nat) (l0_0 : List (S41)) (l0_1 : List (S46)) : Option (List Int) := diapauseref13_Ids.l0 k ([] : List Int) 0 l0_0 l0_1
theorem diapauseref13_Ids.mono_l : ∀ k, (∀ y0 y1 y2 y3, LeO (diapauseref13_Ids.l0 k y0 y1 y2 y3) (diapauseref13_Ids.l0 (k + 1) y0 y1 y2 y3)) ∧ (∀ y0 y1 y2 y3, LeO (diapauseref13_Ids.l1 k y0 y1 y2 y3) (diapauseref13_Ids.l1 (k + 1) y0 y1 y2 y3))
  | 0 => ⟨fun _ _ _ _ r h => by simp [diapauseref13_Ids.l0] at h, fun _ _ _ _ r h => by simp [diapauseref13_Ids.l1] at h⟩
  | k + 1 => by
    obtain ⟨ih0, ih1⟩ := diapauseref13_Ids.mono_l k
    refine ⟨?_, ?_⟩
    · intro y0 y1 y2 y3
      unfold diapauseref13_Ids.l0
      repeat' first
      | (with_reducible exact ih0 _ _ _ _)
      | (with_reducible exact ih1 _ _ _ _)
      | (with_reducible exact LeO.refl _)
      | (with_reducible exact LeO.none _)
      | (with_reducible refine LeO.ite ?_ ?_)
      | (with_reducible refine LeO.bind ?_ (fun _ => ?_))
      | exact ih0 _ _ _ _
      | exact ih1 _ _ _ _
      | exact LeO.none _
      | refine LeO.ite ?_ ?_
      | refine LeO.bind ?_ (fun _ => ?_)
    · intro y0 y1 y2 y3
      unfold diapauseref13_Ids.l1
      repeat' first
      | (with_reducible exact ih0 _ _ _ _)
      | (with_reducible exact ih1 _ _ _ _)
      | (with_reducible exact LeO.refl _)
      | (with_reducible exact LeO.none _)
      | (with_reducible refine LeO.ite ?_ ?_)
      | (with_reducible refine LeO.bind ?_ (fun _ => ?_))
      | exact ih0 _ _ _ _
      | exact ih1 _ _ _ _
      | exact LeO.none _
      | refine LeO.ite ?_ ?_
      | refine LeO.bind ?_ (fun _ => ?_)
theorem diapauseref13_Ids.mono : ∀ a0 a1 k, LeO (diapauseref13_Ids.f k a0 a1) (diapauseref13_Ids.f (k + 1) a0 a1) := by
  intro a0 a1 k
  obtain ⟨ih0, ih1⟩ := diapauseref13_Ids.mono_l k
  unfold diapauseref13_Ids.f
  repeat' first
      | (with_reducible exact ih0 _ _ _ _)
      | (with_reducible exact ih1 _ _ _ _)
      | (with_reducible exact LeO.refl _)
      | (with_reducible exact LeO.none _)
      | (with_reducible refine LeO.ite ?_ ?_)
      | (with_reducible refine LeO.bind ?_ (fun _ => ?_))
      | exact ih0 _ _ _ _
      | exact ih1 _ _ _ _
      | exact LeO.none _
      | refine LeO.ite ?_ ?_
      | refine LeO.bind ?_ (fun _ => ?_)
set_option maxHeartbeats 8000000 in
set_option maxRecDepth 100000 in
theorem diapauseref13_Ids.calls (k : Nat) (A0_0 : Option Addr) (c0_0 : Nat) (l0_0 : List (S41)) (A0_1 : Option Addr) (c0_1 : Nat) (l0_1 : List (S46)) (r : List Int) (w : World) (hr0_0 : Kd.C k41 w A0_0 l0_0.length l0_0) (hc0_0 : l0_0.length ≤ c0_0) (hr0_1 : Kd.C k46 w A0_1 l0_1.length l0_1) (hc0_1 : l0_1.length ≤ c0_1) (h : diapauseref13_Ids.f k l0_0 l0_1 = some r) :
    Calls Try.prog 15 #[.agg #[.slice A0_0 l0_0.length c0_0, .slice A0_1 l0_1.length c0_1]] w fun e w' => ∃ v0_ : Value, e = .returned (v0_) ∧ Kd.R (Kd.int .i64) 3 w' w.heap.size (fun _ => True) v0_ r ∧ Below w.heap.size w w' := by
  have hu25 := Try.underlying25
  have HR0_0 := Aside0.mk hr0_0
  have HC0_0 := Aside0.mk hc0_0
  clear hr0_0 hc0_0
  have HR0_1 := Aside0.mk hr0_1
  have HC0_1 := Aside0.mk hc0_1
  clear hr0_1 hc0_1
  have HB := Aside0.mk (Below.refl w.heap.size w)
  have H : (diapauseref13_Ids.l0 k ([] : List Int) 0 l0_0 l0_1) = some r := h
  clear h
  have H' := Aside0.mk H
  clear H
  go_enter Try.func15, Try.ntmps15
  go_wp2_with (first | ((with_reducible refine gate_dst (N := 1) rfl ?_); refine box_event ?hg (N := 1) ?hd (cs := #[.slice A0_0 l0_0.length c0_0, .slice A0_1 l0_1.length c0_1]) (t := 25) ?hr ?_; (case hd => rfl); (case hg => rfl); (case hr => first | (go_simp; done) | (go_simp; rfl)); intro gb287 hg w2 hbox hb; have n0_ := Aside0.mk (below_step (by repeat (first | (with_reducible first | exact HB.out | apply below_alloc | apply pw_below_drewN | apply below_drew1) | exact HB.out)) hb); have n1_ := Aside0.mk (hbox); have n2_ := Aside0.mk ((by rw [hg]; exact (below_size (by repeat (first | (with_reducible first | exact HB.out | apply below_alloc | apply pw_below_drewN | apply below_drew1) | exact HB.out))) : w.heap.size ≤ gb287)); have n3_ := Aside0.mk ((by rw [hg]; exact (below_size (by repeat (first | (with_reducible first | exact HB.out | apply below_alloc | apply pw_below_drewN | apply below_drew1) | exact HB.out))) : w.heap.size ≤ gb287)); clear HB; have HB := n0_; have BK287 := n1_; have GW287 := n2_; have GE287 := n3_; clear n0_ n1_ n2_ n3_; clear hb hbox hg))
  go_loopg [3, 4] k (fun kq v3 v4 w' => ∃ (x3_1 : List Int) (x4_1 : Int), v4 = .int .i64 x4_1 ∧ Aside0 (diapauseref13_Ids.l0 kq x3_1 x4_1 l0_0 l0_1 = some r) ∧ Aside0 (kq ≤ k) ∧ Aside0 (Kd.R (Kd.int .i64) 3 w' w.heap.size (fun _ => True) v3 x3_1) ∧ Aside0 (w'.heap[gb287]? = some (.cells #[(.slice A0_0 l0_0.length c0_0), (.slice A0_1 l0_1.length c0_1)] 25 (0, 0))) ∧ Aside0 (Below w.heap.size w w'))
  case atStart => exact ⟨(([] : List Int)), (0), (by first | rfl | (simp; done) | (simp [*]; done)), H', ⟨Nat.le_refl _⟩, ⟨by first | exact Kd.R_nil _ _ _ _ _ | exact Kd.N_nil _ _ _ _ _ | exact Kd.V_nil _ _ _ _ _ | exact Kd.Q_nil _ _ _ _ _ | exact Kd.S_nil _ _ _ _ _⟩, ⟨by (with_reducible repeat (first | refine blk_drewN ?_ _ | refine blk_drew ?_ | refine blk_alloc ?_ _)); exact BK287.out⟩, ⟨by repeat (first | (with_reducible first | exact HB.out | apply below_alloc | apply pw_below_drewN | apply below_drew1 | refine below_set ?_ GE287.out) | exact HB.out)⟩⟩
  case round =>
    clear H'
    try clear c1
    try clear p2
    obtain ⟨x3_1, x4_1, rfl, HA, HK1, HO_3, BK287, HB⟩ := hrel
    cases gk with
    | zero => exact absurd HA.out (by simp [diapauseref13_Ids.l0])
    | succ k1 =>
      have H := HA.out
      clear HA
      simp only [diapauseref13_Ids.l0] at H
      by_cases c3 : x4_1 < (l0_0.length : Int)
      · rw [if_pos c3] at H
        have c3b0 : decide (x4_1 < (l0_0.length : Int)) = true := decide_eq_true c3
        clear c3
        by_cases c4 : 0 ≤ x4_1
        · rw [if_pos c4] at H
          have c4b0 : decide (0 ≤ x4_1) = true := decide_eq_true c4
          clear c4
          by_cases c5 : x3_1.length < 17592186044416
          · rw [if_pos c5] at H
            have LMc5 := Aside0.mk c5
            clear c5
            obtain ⟨y289, hy289⟩ : ∃ y_ : List Int, y_ = (x3_1 ++ [(rd_T41 l0_0 x4_1).f0]) := ⟨_, rfl⟩
            replace H : (diapauseref13_Ids.l0 k1 y289 (wrap64 (x4_1 + 1)) l0_0 l0_1) = some r := by first | (rw [hy289]; with_reducible exact H) | (have H2_ := (Option.bind_some _ _).symm.trans H; rw [hy289]; with_reducible exact H2_) | (have H2_ := (Option.bind_some _ _).symm.trans H; with_reducible exact H2_) | with_reducible exact H | (rw [hy289]; exact H) | exact H
            have Ny289 := Aside0.mk hy289
            clear hy289
            have H' := Aside0.mk H
            clear H
            have hcz6_0 : wr.cell? ⟨gb287, 0, none⟩ = some (.slice A0_0 l0_0.length c0_0) := (blk_cell BK287.out 0).trans rfl
            have hcz6_1 : wr.cell? ⟨gb287, 1, none⟩ = some (.slice A0_1 l0_1.length c0_1) := (blk_cell BK287.out 1).trans rfl
            have hfz6_0 := blk_frozen BK287.out 0
            have hfz6_1 := blk_frozen BK287.out 1
            have p288 : 0 ≤ (x4_1 : Int) := of_decide_eq_true (by first | (with_reducible assumption) | assumption)
            have q288 : x4_1 < (l0_0.length : Int) := of_decide_eq_true (by first | (with_reducible assumption) | assumption)
            obtain ⟨ad288, e288, hx288_0, hx288_1, hx288_2, hx288_3, hx288_4, hx288_5⟩ := at_T41 HR0_0.out x4_1 p288 q288
            cases e288
            replace hx288_0 := (HB.out.cell (World.block_lt_of_cell? w _ hx288_0)).trans hx288_0
            replace hx288_1 := (HB.out.cell (World.block_lt_of_cell? w _ hx288_1)).trans hx288_1
            replace hx288_2 := (HB.out.cell (World.block_lt_of_cell? w _ hx288_2)).trans hx288_2
            replace hx288_3 := (HB.out.cell (World.block_lt_of_cell? w _ hx288_3)).trans hx288_3
            replace hx288_4 := (HB.out.cell (World.block_lt_of_cell? w _ hx288_4)).trans hx288_4
            replace hx288_5 := (HB.out.cell (World.block_lt_of_cell? w _ hx288_5)).trans hx288_5
            replace p288 := eq_true p288
            replace q288 := eq_true q288
            go_wp2_with (first | ((with_reducible refine gate_builtin (b := .append) (xs := #[.tmp 13, .tmp 20]) rfl ?_); at_builtin; refine Kd.R_append (Kd.int .i64) (w0 := w) w.heap.size rfl (.tmp 13) (.tmp 20) 31 3 (.int .i64 0) 8 rfl Try.underlying31 info3 rfl (by decide) (by omega) u3 x3_1 ((rd_T41 l0_0 x4_1).f0) [.int .i64 ((rd_T41 l0_0 x4_1).f0)] (fun _ => True) (fun _ => False) rfl rfl ?aP (fun _ hk => hk.elim) ?aF ?aO ?aB ?aS ?aL ?_; (case aP => exact rfl); (case aB => exact (by repeat (first | (with_reducible first | exact HB.out | apply below_alloc | apply pw_below_drewN | apply below_drew1 | refine below_set ?_ GE287.out) | exact HB.out))); (case aF => exact (fun _ _ => trivial)); (case aO => exact (by (with_reducible repeat (first | apply Kd.R_alloc | apply Kd.R_drewN | apply Kd.R_drew)); exact HO_3.out)); (case aS => exact (below_size (by repeat (first | (with_reducible first | exact HB.out | apply below_alloc | apply pw_below_drewN | apply below_drew1 | refine below_set ?_ GE287.out) | exact HB.out)))); (case aL => have := LMc5.out; omega); intro v290 w7 ho hb hg hat; rw [← Ny289.out] at ho; have n0_ := Aside0.mk (blk_grown (g := gb287) (o := .cells #[.slice (some ad288) l0_0.length c0_0, .slice A0_1 l0_1.length c0_1] 25 (0, 0)) (by (with_reducible repeat (first | refine blk_drewN ?_ _ | refine blk_drew ?_ | refine blk_alloc ?_ _)); exact BK287.out) hg (Kd.R_ne HO_3.out BK287.out (by decide))); have n1_ := Aside0.mk (hb); have n2_ := Aside0.mk (ho); clear BK287; clear HB; clear HO_3; have BK287 := n0_; have HB := n1_; have HO291 := n2_; clear n0_ n1_ n2_; clear ho hb hg hat))
            go_roundg k1
            case measure => have := HK1.out; omega
            case rel => exact ⟨(y289), (wrap64 (x4_1 + 1)), (by first | rfl | (simp; done) | (simp [*]; done)), H', ⟨by have := HK1.out; omega⟩, ⟨by (with_reducible repeat (first | apply Kd.R_alloc | apply Kd.R_drewN | apply Kd.R_drew)); exact HO291.out⟩, ⟨by (with_reducible repeat (first | refine blk_drewN ?_ _ | refine blk_drew ?_ | refine blk_alloc ?_ _)); exact BK287.out⟩, ⟨by repeat (first | (with_reducible first | exact HB.out | apply below_alloc | apply pw_below_drewN | apply below_drew1 | refine below_set ?_ GE287.out) | exact HB.out)⟩⟩
          · rw [if_neg c5] at H
            exact absurd H (by simp)
        · rw [if_neg c4] at H
          exact absurd H (by simp)
      · rw [if_neg c3] at H
        have c3b0 : decide (x4_1 < (l0_0.length : Int)) = false := decide_eq_false c3
        clear c3
        have H' := Aside0.mk H
        clear H
        have hcz8_0 : wr.cell? ⟨gb287, 0, none⟩ = some (.slice A0_0 l0_0.length c0_0) := (blk_cell BK287.out 0).trans rfl
        have hcz8_1 : wr.cell? ⟨gb287, 1, none⟩ = some (.slice A0_1 l0_1.length c0_1) := (blk_cell BK287.out 1).trans rfl
        have hfz8_0 := blk_frozen BK287.out 0
        have hfz8_1 := blk_frozen BK287.out 1
        go_wp2
        go_loopg [3, 5] k1 (fun kq v3 v5 w' => ∃ (x3_2 : List Int) (x5_2 : Int), v5 = .int .i64 x5_2 ∧ Aside0 (diapauseref13_Ids.l1 kq x3_2 x5_2 l0_0 l0_1 = some r) ∧ Aside0 (kq ≤ k1) ∧ Aside0 (Kd.R (Kd.int .i64) 3 w' w.heap.size (fun _ => True) v3 x3_2) ∧ Aside0 (w'.heap[gb287]? = some (.cells #[(.slice A0_0 l0_0.length c0_0), (.slice A0_1 l0_1.length c0_1)] 25 (0, 0))) ∧ Aside0 (Below w.heap.size w w'))
        case atStart => exact ⟨(x3_1), (0), (by first | rfl | (simp; done) | (simp [*]; done)), H', ⟨Nat.le_refl _⟩, ⟨by (with_reducible repeat (first | apply Kd.R_alloc | apply Kd.R_drewN | apply Kd.R_drew)); exact HO_3.out⟩, ⟨by (with_reducible repeat (first | refine blk_drewN ?_ _ | refine blk_drew ?_ | refine blk_alloc ?_ _)); exact BK287.out⟩, ⟨by repeat (first | (with_reducible first | exact HB.out | apply below_alloc | apply pw_below_drewN | apply below_drew1 | refine below_set ?_ GE287.out) | exact HB.out)⟩⟩
        case round =>
          clear H'
          try clear c1
          try clear p2
          try clear q2
          try clear hx2
          try clear c3
          try clear c3b0
          try clear c4
          try clear c4b0
          try clear c5
          try clear p6
          try clear hcz6_0
          try clear hcz6_1
          try clear hcz8_0
          try clear hcz8_1
          try clear hfz6_0
          try clear hfz6_1
          try clear hfz8_0
          try clear hfz8_1
          try clear hx288_0
          try clear hx288_1
          try clear hx288_2
          try clear hx288_3
          try clear hx288_4
          try clear hx288_5
          try clear p2
          try clear p288
          try clear q288
          obtain ⟨x3_2, x5_2, rfl, HA, HK2, HO_3, BK287, HB⟩ := hrel
          cases gk with
          | zero => exact absurd HA.out (by simp [diapauseref13_Ids.l1])
          | succ k2 =>
            have H := HA.out
            clear HA
            simp only [diapauseref13_Ids.l1] at H
            by_cases c9 : x5_2 < (l0_1.length : Int)
            · rw [if_pos c9] at H
              have c9b0 : decide (x5_2 < (l0_1.length : Int)) = true := decide_eq_true c9
              clear c9
              by_cases c10 : 0 ≤ x5_2
              · rw [if_pos c10] at H
                have c10b0 : decide (0 ≤ x5_2) = true := decide_eq_true c10
                clear c10
                by_cases c11 : x3_2.length < 17592186044416
                · rw [if_pos c11] at H
                  have LMc11 := Aside0.mk c11
                  clear c11
                  obtain ⟨y293, hy293⟩ : ∃ y_ : List Int, y_ = (x3_2 ++ [(rd_T46 l0_1 x5_2).f0]) := ⟨_, rfl⟩
                  replace H : (diapauseref13_Ids.l1 k2 y293 (wrap64 (x5_2 + 1)) l0_0 l0_1) = some r := by first | (rw [hy293]; with_reducible exact H) | (have H2_ := (Option.bind_some _ _).symm.trans H; rw [hy293]; with_reducible exact H2_) | (have H2_ := (Option.bind_some _ _).symm.trans H; with_reducible exact H2_) | with_reducible exact H | (rw [hy293]; exact H) | exact H
                  have Ny293 := Aside0.mk hy293
                  clear hy293
                  have H' := Aside0.mk H
                  clear H
                  have hcz12_0 : wr.cell? ⟨gb287, 0, none⟩ = some (.slice A0_0 l0_0.length c0_0) := (blk_cell BK287.out 0).trans rfl
                  have hcz12_1 : wr.cell? ⟨gb287, 1, none⟩ = some (.slice A0_1 l0_1.length c0_1) := (blk_cell BK287.out 1).trans rfl
                  have hfz12_0 := blk_frozen BK287.out 0
                  have hfz12_1 := blk_frozen BK287.out 1
                  have p292 : 0 ≤ (x5_2 : Int) := of_decide_eq_true (by first | (with_reducible assumption) | assumption)
                  have q292 : x5_2 < (l0_1.length : Int) := of_decide_eq_true (by first | (with_reducible assumption) | assumption)
                  obtain ⟨ad292, e292, hx292_0, hx292_1, hx292_2, hx292_3, hx292_4, hx292_5, hx292_6, hx292_7⟩ := at_T46 HR0_1.out x5_2 p292 q292
                  cases e292
                  replace hx292_0 := (HB.out.cell (World.block_lt_of_cell? w _ hx292_0)).trans hx292_0
                  replace hx292_1 := (HB.out.cell (World.block_lt_of_cell? w _ hx292_1)).trans hx292_1
                  replace hx292_2 := (HB.out.cell (World.block_lt_of_cell? w _ hx292_2)).trans hx292_2
                  replace hx292_3 := (HB.out.cell (World.block_lt_of_cell? w _ hx292_3)).trans hx292_3
                  replace hx292_4 := (HB.out.cell (World.block_lt_of_cell? w _ hx292_4)).trans hx292_4
                  replace hx292_5 := (HB.out.cell (World.block_lt_of_cell? w _ hx292_5)).trans hx292_5
                  replace hx292_6 := (HB.out.cell (World.block_lt_of_cell? w _ hx292_6)).trans hx292_6
                  replace hx292_7 := (HB.out.cell (World.block_lt_of_cell? w _ hx292_7)).trans hx292_7
                  replace p292 := eq_true p292
                  replace q292 := eq_true q292
                  go_wp2_with (first | ((with_reducible refine gate_builtin (b := .append) (xs := #[.tmp 29, .tmp 36]) rfl ?_); at_builtin; refine Kd.R_append (Kd.int .i64) (w0 := w) w.heap.size rfl (.tmp 29) (.tmp 36) 31 3 (.int .i64 0) 8 rfl Try.underlying31 info3 rfl (by decide) (by omega) u3 x3_2 ((rd_T46 l0_1 x5_2).f0) [.int .i64 ((rd_T46 l0_1 x5_2).f0)] (fun _ => True) (fun _ => False) rfl rfl ?aP (fun _ hk => hk.elim) ?aF ?aO ?aB ?aS ?aL ?_; (case aP => exact rfl); (case aB => exact (by repeat (first | (with_reducible first | exact HB.out | apply below_alloc | apply pw_below_drewN | apply below_drew1 | refine below_set ?_ GE287.out) | exact HB.out))); (case aF => exact (fun _ _ => trivial)); (case aO => exact (by (with_reducible repeat (first | apply Kd.R_alloc | apply Kd.R_drewN | apply Kd.R_drew)); exact HO_3.out)); (case aS => exact (below_size (by repeat (first | (with_reducible first | exact HB.out | apply below_alloc | apply pw_below_drewN | apply below_drew1 | refine below_set ?_ GE287.out) | exact HB.out)))); (case aL => have := LMc11.out; omega); intro v294 w13 ho hb hg hat; rw [← Ny293.out] at ho; have n0_ := Aside0.mk (blk_grown (g := gb287) (o := .cells #[.slice A0_0 l0_0.length c0_0, .slice (some ad292) l0_1.length c0_1] 25 (0, 0)) (by (with_reducible repeat (first | refine blk_drewN ?_ _ | refine blk_drew ?_ | refine blk_alloc ?_ _)); exact BK287.out) hg (Kd.R_ne HO_3.out BK287.out (by decide))); have n1_ := Aside0.mk (hb); have n2_ := Aside0.mk (ho); clear BK287; clear HB; clear HO_3; have BK287 := n0_; have HB := n1_; have HO295 := n2_; clear n0_ n1_ n2_; clear ho hb hg hat))
                  go_roundg k2
                  case measure => have := HK1.out; have := HK2.out; omega
                  case rel => exact ⟨(y293), (wrap64 (x5_2 + 1)), (by first | rfl | (simp; done) | (simp [*]; done)), H', ⟨by have := HK1.out; have := HK2.out; omega⟩, ⟨by (with_reducible repeat (first | apply Kd.R_alloc | apply Kd.R_drewN | apply Kd.R_drew)); exact HO295.out⟩, ⟨by (with_reducible repeat (first | refine blk_drewN ?_ _ | refine blk_drew ?_ | refine blk_alloc ?_ _)); exact BK287.out⟩, ⟨by repeat (first | (with_reducible first | exact HB.out | apply below_alloc | apply pw_below_drewN | apply below_drew1 | refine below_set ?_ GE287.out) | exact HB.out)⟩⟩
                · rw [if_neg c11] at H
                  exact absurd H (by simp)
              · rw [if_neg c10] at H
                exact absurd H (by simp)
            · rw [if_neg c9] at H
              have c9b0 : decide (x5_2 < (l0_1.length : Int)) = false := decide_eq_false c9
              clear c9
              obtain rfl := Option.some.inj H
              have hcz14_0 : wr.cell? ⟨gb287, 0, none⟩ = some (.slice A0_0 l0_0.length c0_0) := (blk_cell BK287.out 0).trans rfl
              have hcz14_1 : wr.cell? ⟨gb287, 1, none⟩ = some (.slice A0_1 l0_1.length c0_1) := (blk_cell BK287.out 1).trans rfl
              have hfz14_0 := blk_frozen BK287.out 0
              have hfz14_1 := blk_frozen BK287.out 1
              go_wp2
              go_ret
              exact ⟨_, by first | rfl | (simp [errW_none, errW_some] <;> rfl) | (simp [*, errW_none, errW_some] <;> rfl), by (with_reducible repeat (first | apply Kd.R_alloc | apply Kd.R_drewN | apply Kd.R_drew)); exact HO_3.out, by repeat (first | (with_reducible first | exact HB.out | apply below_alloc | apply pw_below_drewN | apply below_drew1 | refine below_set ?_ GE287.out) | exact HB.out)⟩

/-! ### diapauseref13_group: function 26 -/
def diapauseref13_group.l0 : Nat → Int → Int → List (S41) → List (S46) → Option (Int)
  | 0, _, _, _, _ => none
  | k + 1, x1, x5, x297000, x297001 => if x5 < (x297000.length : Int) then (if 0 ≤ x5 then (if ((rd_T41 x297000 x5).f0) = x1 then (some x5) else (diapauseref13_group.l0 k x1 (wrap64 (x5 + 1)) x297000 x297001)) else (none)) else (some (-1))
def diapauseref13_group.f (k : Nat) (l0_0 : List (S41)) (l0_1 : List (S46)) (a1 : Int) : Option (Int) := diapauseref13_group.l0 k a1 0 l0_0 l0_1
theorem diapauseref13_group.mono_l : ∀ k, (∀ y0 y1 y2 y3, LeO (diapauseref13_group.l0 k y0 y1 y2 y3) (diapauseref13_group.l0 (k + 1) y0 y1 y2 y3))
  | 0 => fun _ _ _ _ r h => by simp [diapauseref13_group.l0] at h
  | k + 1 => by
    have ih0 := diapauseref13_group.mono_l k
    · intro y0 y1 y2 y3
      unfold diapauseref13_group.l0
      repeat' first
      | (with_reducible exact ih0 _ _ _ _)
      | (with_reducible exact LeO.refl _)
      | (with_reducible exact LeO.none _)
      | (with_reducible refine LeO.ite ?_ ?_)
      | (with_reducible refine LeO.bind ?_ (fun _ => ?_))
      | exact ih0 _ _ _ _
      | exact LeO.none _
      | refine LeO.ite ?_ ?_
      | refine LeO.bind ?_ (fun _ => ?_)
theorem diapauseref13_group.mono : ∀ a0 a1 a2 k, LeO (diapauseref13_group.f k a0 a1 a2) (diapauseref13_group.f (k + 1) a0 a1 a2) := by
  intro a0 a1 a2 k
  have ih0 := diapauseref13_group.mono_l k
  unfold diapauseref13_group.f
  repeat' first
      | (with_reducible exact ih0 _ _ _ _)
      | (with_reducible exact LeO.refl _)
      | (with_reducible exact LeO.none _)
      | (with_reducible refine LeO.ite ?_ ?_)
      | (with_reducible refine LeO.bind ?_ (fun _ => ?_))
      | exact ih0 _ _ _ _
      | exact LeO.none _
      | refine LeO.ite ?_ ?_
      | refine LeO.bind ?_ (fun _ => ?_)
set_option maxHeartbeats 8000000 in
set_option maxRecDepth 100000 in
theorem diapauseref13_group.calls (k : Nat) (A0_0 : Option Addr) (c0_0 : Nat) (l0_0 : List (S41)) (A0_1 : Option Addr) (c0_1 : Nat) (l0_1 : List (S46)) (a1 : Int) (r : Int) (w : World) (hr0_0 : Kd.C k41 w A0_0 l0_0.length l0_0) (hc0_0 : l0_0.length ≤ c0_0) (hr0_1 : Kd.C k46 w A0_1 l0_1.length l0_1) (hc0_1 : l0_1.length ≤ c0_1) (h : diapauseref13_group.f k l0_0 l0_1 a1 = some r) :
    Calls Try.prog 26 #[.agg #[.slice A0_0 l0_0.length c0_0, .slice A0_1 l0_1.length c0_1], .int .i64 a1] w fun e w' => e = .returned (.int .i64 r) ∧ Below w.heap.size w w' := by
  have hu25 := Try.underlying25
  have HR0_0 := Aside0.mk hr0_0
  have HC0_0 := Aside0.mk hc0_0
  clear hr0_0 hc0_0
  have HR0_1 := Aside0.mk hr0_1
  have HC0_1 := Aside0.mk hc0_1
  clear hr0_1 hc0_1
  have HB := Aside0.mk (Below.refl w.heap.size w)
  have H : (diapauseref13_group.l0 k a1 0 l0_0 l0_1) = some r := h
  clear h
  have H' := Aside0.mk H
  clear H
  go_enter Try.func26, Try.ntmps26
  go_wp2_with (first | ((with_reducible refine gate_dst (N := 2) rfl ?_); refine box_event ?hg (N := 2) ?hd (cs := #[.slice A0_0 l0_0.length c0_0, .slice A0_1 l0_1.length c0_1]) (t := 25) ?hr ?_; (case hd => rfl); (case hg => rfl); (case hr => first | (go_simp; done) | (go_simp; rfl)); intro gb296 hg w3 hbox hb; have n0_ := Aside0.mk (below_step (by repeat (first | (with_reducible first | exact HB.out | apply below_alloc | apply pw_below_drewN | apply below_drew1) | exact HB.out)) hb); have n1_ := Aside0.mk (hbox); have n2_ := Aside0.mk ((by rw [hg]; exact (below_size (by repeat (first | (with_reducible first | exact HB.out | apply below_alloc | apply pw_below_drewN | apply below_drew1) | exact HB.out))) : w.heap.size ≤ gb296)); have n3_ := Aside0.mk ((by rw [hg]; exact (below_size (by repeat (first | (with_reducible first | exact HB.out | apply below_alloc | apply pw_below_drewN | apply below_drew1) | exact HB.out))) : w.heap.size ≤ gb296)); clear HB; have HB := n0_; have BK296 := n1_; have GW296 := n2_; have GE296 := n3_; clear n0_ n1_ n2_ n3_; clear hb hbox hg))
  go_loopg [5] k (fun kq v5 w' => ∃ (x5_1 : Int), v5 = .int .i64 x5_1 ∧ Aside0 (diapauseref13_group.l0 kq a1 x5_1 l0_0 l0_1 = some r) ∧ Aside0 (kq ≤ k) ∧ Aside0 (w'.heap[gb296]? = some (.cells #[(.slice A0_0 l0_0.length c0_0), (.slice A0_1 l0_1.length c0_1)] 25 (0, 0))) ∧ Aside0 (Below w.heap.size w w'))
  case atStart => exact ⟨(0), (by first | rfl | (simp; done) | (simp [*]; done)), H', ⟨Nat.le_refl _⟩, ⟨by (with_reducible repeat (first | refine blk_drewN ?_ _ | refine blk_drew ?_ | refine blk_alloc ?_ _)); exact BK296.out⟩, ⟨by repeat (first | (with_reducible first | exact HB.out | apply below_alloc | apply pw_below_drewN | apply below_drew1 | refine below_set ?_ GE296.out) | exact HB.out)⟩⟩
  case round =>
    clear H'
    try clear c2
    try clear p2
    obtain ⟨x5_1, rfl, HA, HK1, BK296, HB⟩ := hrel
    cases gk with
    | zero => exact absurd HA.out (by simp [diapauseref13_group.l0])
    | succ k1 =>
      have H := HA.out
      clear HA
      simp only [diapauseref13_group.l0] at H
      by_cases c4 : x5_1 < (l0_0.length : Int)
      · rw [if_pos c4] at H
        have c4b0 : decide (x5_1 < (l0_0.length : Int)) = true := decide_eq_true c4
        clear c4
        by_cases c5 : 0 ≤ x5_1
        · rw [if_pos c5] at H
          have c5b0 : decide (0 ≤ x5_1) = true := decide_eq_true c5
          clear c5
          by_cases c6 : ((rd_T41 l0_0 x5_1).f0) = a1
          · rw [if_pos c6] at H
            have c6b0 : (((rd_T41 l0_0 x5_1).f0) == a1) = true := beq_iff_eq.mpr c6
            have c6b1 : (((rd_T41 l0_0 x5_1).f0) != a1) = false := bne_eq_false_iff_eq.mpr c6
            clear c6
            obtain rfl := Option.some.inj H
            have hcz7_0 : wr.cell? ⟨gb296, 0, none⟩ = some (.slice A0_0 l0_0.length c0_0) := (blk_cell BK296.out 0).trans rfl
            have hcz7_1 : wr.cell? ⟨gb296, 1, none⟩ = some (.slice A0_1 l0_1.length c0_1) := (blk_cell BK296.out 1).trans rfl
            have hfz7_0 := blk_frozen BK296.out 0
            have hfz7_1 := blk_frozen BK296.out 1
            have p297 : 0 ≤ (x5_1 : Int) := of_decide_eq_true (by first | (with_reducible assumption) | assumption)
            have q297 : x5_1 < (l0_0.length : Int) := of_decide_eq_true (by first | (with_reducible assumption) | assumption)
            obtain ⟨ad297, e297, hx297_0, hx297_1, hx297_2, hx297_3, hx297_4, hx297_5⟩ := at_T41 HR0_0.out x5_1 p297 q297
            cases e297
            replace hx297_0 := (HB.out.cell (World.block_lt_of_cell? w _ hx297_0)).trans hx297_0
            replace hx297_1 := (HB.out.cell (World.block_lt_of_cell? w _ hx297_1)).trans hx297_1
            replace hx297_2 := (HB.out.cell (World.block_lt_of_cell? w _ hx297_2)).trans hx297_2
            replace hx297_3 := (HB.out.cell (World.block_lt_of_cell? w _ hx297_3)).trans hx297_3
            replace hx297_4 := (HB.out.cell (World.block_lt_of_cell? w _ hx297_4)).trans hx297_4
            replace hx297_5 := (HB.out.cell (World.block_lt_of_cell? w _ hx297_5)).trans hx297_5
            replace p297 := eq_true p297
            replace q297 := eq_true q297
            go_wp2
            go_ret
            exact ⟨by first | rfl | (simp [errW_none, errW_some] <;> rfl) | (simp [*, errW_none, errW_some] <;> rfl), by repeat (first | (with_reducible first | exact HB.out | apply below_alloc | apply pw_below_drewN | apply below_drew1 | refine below_set ?_ GE296.out) | exact HB.out)⟩
          · rw [if_neg c6] at H
            have c6b0 : (((rd_T41 l0_0 x5_1).f0) == a1) = false := beq_eq_false_iff_ne.mpr c6
            have c6b1 : (((rd_T41 l0_0 x5_1).f0) != a1) = true := bne_iff_ne.mpr c6
            have H' := Aside0.mk H
            clear H
            have hcz8_0 : wr.cell? ⟨gb296, 0, none⟩ = some (.slice A0_0 l0_0.length c0_0) := (blk_cell BK296.out 0).trans rfl
            have hcz8_1 : wr.cell? ⟨gb296, 1, none⟩ = some (.slice A0_1 l0_1.length c0_1) := (blk_cell BK296.out 1).trans rfl
            have hfz8_0 := blk_frozen BK296.out 0
            have hfz8_1 := blk_frozen BK296.out 1
            have p297 : 0 ≤ (x5_1 : Int) := of_decide_eq_true (by first | (with_reducible assumption) | assumption)
            have q297 : x5_1 < (l0_0.length : Int) := of_decide_eq_true (by first | (with_reducible assumption) | assumption)
            obtain ⟨ad297, e297, hx297_0, hx297_1, hx297_2, hx297_3, hx297_4, hx297_5⟩ := at_T41 HR0_0.out x5_1 p297 q297
            cases e297
            replace hx297_0 := (HB.out.cell (World.block_lt_of_cell? w _ hx297_0)).trans hx297_0
            replace hx297_1 := (HB.out.cell (World.block_lt_of_cell? w _ hx297_1)).trans hx297_1
            replace hx297_2 := (HB.out.cell (World.block_lt_of_cell? w _ hx297_2)).trans hx297_2
            replace hx297_3 := (HB.out.cell (World.block_lt_of_cell? w _ hx297_3)).trans hx297_3
            replace hx297_4 := (HB.out.cell (World.block_lt_of_cell? w _ hx297_4)).trans hx297_4
            replace hx297_5 := (HB.out.cell (World.block_lt_of_cell? w _ hx297_5)).trans hx297_5
            replace p297 := eq_true p297
            replace q297 := eq_true q297
            go_wp2
            go_roundg k1
            case measure => have := HK1.out; omega
            case rel => exact ⟨(wrap64 (x5_1 + 1)), (by first | rfl | (simp; done) | (simp [*]; done)), H', ⟨by have := HK1.out; omega⟩, ⟨by (with_reducible repeat (first | refine blk_drewN ?_ _ | refine blk_drew ?_ | refine blk_alloc ?_ _)); exact BK296.out⟩, ⟨by repeat (first | (with_reducible first | exact HB.out | apply below_alloc | apply pw_below_drewN | apply below_drew1 | refine below_set ?_ GE296.out) | exact HB.out)⟩⟩
        · rw [if_neg c5] at H
          exact absurd H (by simp)
      · rw [if_neg c4] at H
        have c4b0 : decide (x5_1 < (l0_0.length : Int)) = false := decide_eq_false c4
        clear c4
        obtain rfl := Option.some.inj H
        have hcz9_0 : wr.cell? ⟨gb296, 0, none⟩ = some (.slice A0_0 l0_0.length c0_0) := (blk_cell BK296.out 0).trans rfl
        have hcz9_1 : wr.cell? ⟨gb296, 1, none⟩ = some (.slice A0_1 l0_1.length c0_1) := (blk_cell BK296.out 1).trans rfl
        have hfz9_0 := blk_frozen BK296.out 0
        have hfz9_1 := blk_frozen BK296.out 1
        go_wp2
        go_ret
        exact ⟨by first | rfl | (simp [errW_none, errW_some] <;> rfl) | (simp [*, errW_none, errW_some] <;> rfl), by repeat (first | (with_reducible first | exact HB.out | apply below_alloc | apply pw_below_drewN | apply below_drew1 | refine below_set ?_ GE296.out) | exact HB.out)⟩

end Go.Proofs.Ytpnjhffnlafabaa.PSceneOrders
