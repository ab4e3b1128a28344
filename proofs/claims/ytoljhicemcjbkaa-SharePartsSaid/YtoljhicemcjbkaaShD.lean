/- ShareParts answers true: the walk, and the plain law. -/
import Derived.Test.YtoljhicemcjbkaaShC
namespace Go.Proofs.Ytoljhicemcjbkaa.Sh
set_option linter.unusedVariables false
set_option linter.unusedSimpArgs false
open Go.RowKit Go.Proofs.YtoljhicemcjbkaaW.PrintWords Go.Proofs.YtoljhicemcjbkaaW.PrintLast Go.Proofs.YtoljhicemcjbkaaW.PrintMore PShareTells

theorem counts_length (xs ids : List Int) : (counts xs ids).length = ids.length := by unfold counts; simp
theorem rd_counts (xs ids : List Int) (i : Nat) (h : i < ids.length) : rd (counts xs ids) i = (xs.count (rd ids i) : Int) := by
  unfold rd counts; simp [List.getD_eq_getElem?_getD, h]
theorem counts_add (a b ids : List Int) (i : Nat) (h : i < ids.length) : rd (counts (a ++ b) ids) i = rd (counts a ids) i + rd (counts b ids) i := by
  rw [rd_counts _ _ _ h, rd_counts _ _ _ h, rd_counts _ _ _ h, List.count_append]; omega

theorem R_empty {α : Type} (d : Kd α) (e base : Nat) (w : World) (ok : Nat → Prop) (hb : base ≤ w.heap.size) (hok : ok w.heap.size) : Kd.R d e (w.alloc (.cells #[] e)) base ok (.slice (some ⟨w.heap.size, 0, none⟩) 0 0) [] := by
  refine ⟨fun k hk => ?_, [], ?_, Reps.none _ _⟩
  · have : w.heap.size = k := by simpa [Value.ownBlock] using hk
    subst this; exact hok
  · have h2 := World.ownsRow_lit (base := base) (e := e) (size := d.sz) w #[] 0 hb (by simp [maxLen]) (by simp)
    simpa using h2

def PartsPure (a b ids ws : List Int) : Prop :=
  worst a ids ws ≤ worst (a ++ b) ids ws ∧ ahead (counts (a ++ b) ids) ws ≤ worst (a ++ b) ids ws ∧ worst (a ++ b) ids ws ≤ ((a ++ b).length : Int)

theorem mx_le {a b c : Int} (h1 : a ≤ c) (h2 : b ≤ c) : mx a b ≤ c := by unfold mx; split <;> omega
theorem le_mx_l (a b : Int) : a ≤ mx a b := by unfold mx; split <;> omega
theorem le_mx_r (a b : Int) : b ≤ mx a b := by unfold mx; split <;> omega
theorem wfrom_le {xs ids ws : List Int} {B : Int} : ∀ (d n : Nat) (m : Int), m ≤ B → (∀ j, n ≤ j → j < n + d → ahead (counts (xs.take j) ids) ws ≤ B) → wfrom xs ids ws d n m ≤ B
  | 0, _, _, hm, _ => hm
  | d + 1, n, m, hm, h => by
    unfold wfrom
    exact wfrom_le d (n + 1) _ (mx_le hm (h n (Nat.le_refl _) (by omega))) (fun j h1 h2 => h j (by omega) (by omega))
theorem le_wfrom (xs ids ws : List Int) : ∀ (d n : Nat) (m : Int), m ≤ wfrom xs ids ws d n m
  | 0, _, _ => Int.le_refl _
  | d + 1, n, m => by unfold wfrom; exact Int.le_trans (le_mx_l _ _) (le_wfrom xs ids ws d (n + 1) _)
theorem at_wfrom (xs ids ws : List Int) : ∀ (d n : Nat) (m : Int) (j : Nat), n ≤ j → j < n + d → ahead (counts (xs.take j) ids) ws ≤ wfrom xs ids ws d n m
  | 0, _, _, _, h1, h2 => absurd h2 (by omega)
  | d + 1, n, m, j, h1, h2 => by
    unfold wfrom
    by_cases e : j = n
    · subst e; exact Int.le_trans (le_mx_r _ _) (le_wfrom xs ids ws d (j + 1) _)
    · exact at_wfrom xs ids ws d (n + 1) _ j (by omega) (by omega)
theorem step_le {cs ws : List Int} {i k : Nat} {m B : Int} (hm : m ≤ B) (hB : ct (rd cs i) ≤ B) : step cs ws i m k ≤ B := by
  unfold step
  split
  · refine mx_le hm (Int.le_trans ?_ hB)
    have hw := wt_bd ws k
    have h2 := mul_bd (wt_bd ws i) (ct_bd (rd cs k))
    refine Int.ediv_le_of_le_mul (by omega) ?_
    unfold gap; rw [Int.mul_comm (ct (rd cs i))]; omega
  · exact hm
theorem row_le {cs ws : List Int} {i : Nat} {B : Int} (hB : ct (rd cs i) ≤ B) : ∀ (d j : Nat) (m : Int), m ≤ B → row cs ws i d j m ≤ B
  | 0, _, _, hm => hm
  | d + 1, j, m, hm => by unfold row; exact row_le hB d (j + 1) _ (step_le hm hB)
theorem all_le {cs ws : List Int} {B : Int} (hB : ∀ i, ct (rd cs i) ≤ B) : ∀ (d i : Nat) (m : Int), m ≤ B → all cs ws d i m ≤ B
  | 0, _, _, hm => hm
  | d + 1, i, m, hm => by unfold all; exact all_le hB d (i + 1) _ (row_le (hB i) _ _ _ hm)
theorem ct_counts (xs ids : List Int) (i : Int) : ct (rd (counts xs ids) i) ≤ xs.length := by
  unfold rd counts
  rw [List.getD_eq_getElem?_getD, List.getElem?_map]
  cases ids[i.toNat]? with
  | none => simp [ct, mx, mn]
  | some v =>
    have h : xs.count v ≤ xs.length := List.count_le_length
    simp only [Option.map_some, Option.getD_some]; unfold ct mx mn; (repeat' split) <;> omega
theorem ahead_counts_le (xs ids ws : List Int) : ahead (counts xs ids) ws ≤ xs.length := all_le (fun i => ct_counts xs ids i) _ _ _ (by omega)
theorem parts_pure (a b ids ws : List Int) : PartsPure a b ids ws := by
  have h0 : 0 ≤ worst (a ++ b) ids ws := le_wfrom _ _ _ _ _ _
  refine ⟨wfrom_le _ _ _ h0 fun j _ hj => ?_, ?_, wfrom_le _ _ _ (by omega) fun j _ _ => ?_⟩
  · have : a.take j = (a ++ b).take j := by rw [List.take_append_of_le_length (by omega)]
    rw [this]
    exact at_wfrom (a ++ b) ids ws _ _ _ j (by omega) (by rw [List.length_append]; omega)
  · have := at_wfrom (a ++ b) ids ws ((a ++ b).length + 1) 0 0 (a ++ b).length (by omega) (by omega)
    rw [List.take_length] at this; exact this
  · have := ahead_counts_le ((a ++ b).take j) ids ws
    have h2 : ((a ++ b).take j).length ≤ (a ++ b).length := List.length_take_le' _ _
    omega

set_option maxHeartbeats 4000000 in
set_option maxRecDepth 100000 in
theorem Parts_calls (A0 : Option Addr) (n0 c0 : Nat) (l0 : List Int) (A1 : Option Addr) (n1 c1 : Nat) (l1 : List Int) (A2 : Option Addr) (n2 c2 : Nat) (l2 : List Int) (A3 : Option Addr) (n3 c3 : Nat) (l3 : List Int) (w : World) (hr0 : Kd.C (Kd.int .i64) w A0 n0 l0) (hc0 : n0 ≤ c0) (hr1 : Kd.C (Kd.int .i64) w A1 n1 l1) (hc1 : n1 ≤ c1) (hr2 : Kd.C (Kd.int .i64) w A2 n2 l2) (hc2 : n2 ≤ c2) (hr3 : Kd.C (Kd.int .i64) w A3 n3 l3) (hc3 : n3 ≤ c3)
    (hp : PartsPure l0 l1 l2 l3) :
    Calls Try.prog 3 #[.slice A0 n0 c0, .slice A1 n1 c1, .slice A2 n2 c2, .slice A3 n3 c3] w fun e w' => e = .returned (.bool true) ∧ Below w.heap.size w w' := by
  have hn0 := hr0.2.1
  have hn1 := hr1.2.1
  have hn2 := hr2.2.1
  have hn3 := hr3.2.1
  have HR0 := Aside0.mk hr0
  have HR1 := Aside0.mk hr1
  have HR2 := Aside0.mk hr2
  have HR3 := Aside0.mk hr3
  have HC0 := Aside0.mk hc0
  have HC1 := Aside0.mk hc1
  have HC2 := Aside0.mk hc2
  have HC3 := Aside0.mk hc3
  have HP := Aside0.mk hp
  clear hr0 hr1 hr2 hr3 hc0 hc1 hc2 hc3 hp
  have hlen : (l0 ++ l1).length = n0 + n1 := by rw [List.length_append, HR0.out.1, HR1.out.1]
  replace hlen := Aside0.mk hlen
  by_cases hs : n0 ≤ 30 ∧ n1 ≤ 30 ∧ n2 ≤ 10 ∧ n3 ≤ 10
  · obtain ⟨hs0, hs1, hs2, hs3⟩ := hs
    go_enter Try.func3, Try.ntmps3
    go_wp2_with (first
      | (go_at_call 6; refine (awake_calls _).mono ?_; rintro e w1 ⟨rfl, hb⟩; replace hb := Aside0.mk hb)
      | ((with_reducible refine gate_builtin (b := .append) (xs := #[.tmp 36, .tmp 37]) rfl ?_); at_builtin; refine Kd.R_append_rows (Kd.int .i64) (w0 := w) w.heap.size rfl (.tmp 36) (.tmp 37) 22 3 (.int .i64 0) 8 rfl Try.underlying22 PShareTells.info3 rfl (by decide) (by omega) _ [] l0 A0 n0 c0 (fun _ => True) (fun _ => False) rfl rfl ?aO ?aR (fun _ _ h => h) (fun _ hk => hk.elim) (fun _ _ => trivial) ?aB ?aS ?aL ?_; (case aO => exact R_empty _ _ _ _ _ hb.out.size trivial); (case aR => exact Kd.C_below HR0.out (below_alloc hb.out _)); (case aB => exact below_alloc hb.out _); (case aS => exact below_size (below_alloc hb.out _)); (case aL => simp; omega); intro v1 w2 ho hb2 hg2 hat2; replace ho := Aside0.mk ho; replace hb2 := Aside0.mk hb2; clear hg2 hat2)
      | ((with_reducible refine gate_builtin (b := .append) (xs := #[.tmp 38, .tmp 39]) rfl ?_); at_builtin; go_must (refine Kd.R_append_rows (Kd.int .i64) (w0 := w) w.heap.size rfl (.tmp 38) (.tmp 39) 22 3 (.int .i64 0) 8 rfl Try.underlying22 PShareTells.info3 rfl (by decide) (by omega) v1 l0 l1 A1 n1 c1 (fun _ => True) (fun _ => False) rfl rfl ?aO ?aR (fun _ _ h => h) (fun _ hk => hk.elim) (fun _ _ => trivial) ?aB ?aS ?aL ?_); (case aO => exact ho.out); (case aR => exact Kd.C_below HR1.out hb2.out); (case aB => exact hb2.out); (case aS => exact below_size hb2.out); (case aL => rw [HR0.out.1]; omega); intro v2 w3 ho3 hb3 hg3 hat3; obtain ⟨AB, cB, hv, hcB, hRB⟩ := Kd.R_reads ho3; rw [hlen.out] at hv hcB hRB; subst hv; replace hcB := Aside0.mk hcB; replace hRB := Aside0.mk hRB; replace hb3 := Aside0.mk hb3; clear hg3 hat3 ho3))
    have HB := hb3; clear hb3 hb2 hb ho
    with_reducible refine (Counts_calls A0 n0 c0 l0 A2 n2 c2 l2 _ (Kd.C_below HR0.out HB.out) HC0.out (Kd.C_below HR2.out HB.out) HC2.out (by omega)).mono ?_
    rintro e w4 ⟨AX, cX, rfl, hcX, hX, h4⟩
    replace hcX := Aside0.mk hcX; replace hX := Aside0.mk hX; replace hRB := Aside0.mk (Kd.C_below hRB.out h4); replace HB := Aside0.mk (below_then HB.out HB.out.size h4); clear h4
    go_wp2_with fail
    with_reducible refine (Counts_calls A1 n1 c1 l1 A2 n2 c2 l2 _ (Kd.C_below HR1.out HB.out) HC1.out (Kd.C_below HR2.out HB.out) HC2.out (by omega)).mono ?_
    rintro e w5 ⟨AY, cY, rfl, hcY, hY, h5⟩
    replace hcY := Aside0.mk hcY; replace hY := Aside0.mk hY; replace hRB := Aside0.mk (Kd.C_below hRB.out h5); replace hX := Aside0.mk (Kd.C_below hX.out h5); replace HB := Aside0.mk (below_then HB.out HB.out.size h5); clear h5
    go_wp2_with fail
    with_reducible refine (Counts_calls AB (n0 + n1) cB (l0 ++ l1) A2 n2 c2 l2 _ hRB.out hcB.out (Kd.C_below HR2.out HB.out) HC2.out (by omega)).mono ?_
    rintro e w6 ⟨AZ, cZ, rfl, hcZ, hZ, h6⟩
    replace hcZ := Aside0.mk hcZ; replace hZ := Aside0.mk hZ; replace hRB := Aside0.mk (Kd.C_below hRB.out h6); replace hX := Aside0.mk (Kd.C_below hX.out h6); replace hY := Aside0.mk (Kd.C_below hY.out h6); replace HB := Aside0.mk (below_then HB.out HB.out.size h6); clear h6
    go_wp2_with fail
    go_loopw [14] (fun i wr => ∃ (k : Nat), k ≤ n2 ∧ i = .int .i64 k ∧ Aside0 (Below w6.heap.size w6 wr)) (fun i _ => n2 - (intOf i).toNat)
    case atStart => exact ⟨0, Nat.zero_le _, rfl, ⟨Below.refl _ _⟩⟩
    case round =>
      obtain ⟨k, hk, rfl, HW⟩ := hrel
      by_cases hlt : k < n2
      · have p1 : 0 ≤ (k : Int) := by omega
        have q1 : (k : Int) < (n2 : Int) := by omega
        obtain ⟨a1, e1, x1⟩ := Kd.at_int (Kd.C_below hX.out HW.out) k p1 q1
        obtain ⟨a2, e2, x2⟩ := Kd.at_int (Kd.C_below hY.out HW.out) k p1 q1
        obtain ⟨a3, e3, x3⟩ := Kd.at_int (Kd.C_below hZ.out HW.out) k p1 q1
        cases e1; cases e2; cases e3
        rw [Int.toNat_natCast] at x1 x2 x3
        have htest : (rd (counts (l0 ++ l1) l2) k != wrap64 (rd (counts l0 l2) k + rd (counts l1 l2) k)) = false := by
          have hk2 : k < l2.length := by rw [HR2.out.1]; exact hlt
          have h1 := rd_counts l0 l2 k hk2
          have h2 := rd_counts l1 l2 k hk2
          have h3 : l0.count (rd l2 k) ≤ l0.length := List.count_le_length
          have h4 : l1.count (rd l2 k) ≤ l1.length := List.count_le_length
          rw [HR0.out.1] at h3; rw [HR1.out.1] at h4
          rw [counts_add _ _ _ _ hk2, wrap_all (by omega) (by omega)]; simp
        go_wp2_with fail
        go_quiet (fail)
        clear htest x1 x2 x3
        go_wp2_with fail
        go_roundw
        case rel => exact ⟨k + 1, by omega, by go_num, ⟨pw_below_drewN HW.out _⟩⟩
        case measure => simp [intOf]; omega
      · have hkl : k = n2 := by omega
        clear hlt
        subst hkl
        replace HB := Aside0.mk (below_then HB.out HB.out.size HW.out)
        replace hRB := Aside0.mk (Kd.C_below hRB.out HW.out)
        replace hZ := Aside0.mk (Kd.C_below hZ.out HW.out)
        have t1 : worst l0 l2 l3 ≤ worst (l0 ++ l1) l2 l3 := HP.out.1
        have t2 : ahead (counts (l0 ++ l1) l2) l3 ≤ worst (l0 ++ l1) l2 l3 := HP.out.2.1
        have t3 : worst (l0 ++ l1) l2 l3 ≤ ((n0 + n1 : Nat) : Int) := by rw [← hlen.out]; exact HP.out.2.2
        go_wp2_with fail
        with_reducible refine (Worst_calls AB (n0 + n1) cB (l0 ++ l1) A2 k c2 l2 A3 n3 c3 l3 _ hRB.out hcB.out (Kd.C_below HR2.out HB.out) HC2.out (Kd.C_below HR3.out HB.out) HC3.out (by omega) (by omega)).mono ?_
        rintro e w7 ⟨rfl, h7⟩
        replace hZ := Aside0.mk (Kd.C_below hZ.out h7); replace HB := Aside0.mk (below_then HB.out HB.out.size h7); clear h7
        go_wp2_with fail
        with_reducible refine (Worst_calls A0 n0 c0 l0 A2 k c2 l2 A3 n3 c3 l3 _ (Kd.C_below HR0.out HB.out) HC0.out (Kd.C_below HR2.out HB.out) HC2.out (Kd.C_below HR3.out HB.out) HC3.out (by omega) (by omega)).mono ?_
        rintro e w8 ⟨rfl, h8⟩
        replace hZ := Aside0.mk (Kd.C_below hZ.out h8); replace HB := Aside0.mk (below_then HB.out HB.out.size h8); clear h8
        go_wp2_with fail
        with_reducible refine (Ahead_calls AZ k cZ _ A3 n3 c3 l3 _ hZ.out hcZ.out (Kd.C_below HR3.out HB.out) HC3.out).mono ?_
        rintro e w9 ⟨rfl, h9⟩
        replace HB := Aside0.mk (below_then HB.out HB.out.size h9); clear h9
        go_wp2_with fail
        go_ret
        have t4 : worst (l0 ++ l1) l2 l3 ≤ (n0 : Int) + (n1 : Int) := by omega
        exact ⟨by simp [t4], HB.out⟩
  · have hs' : ¬ (n0 : Int) ≤ 30 ∨ ¬ (n1 : Int) ≤ 30 ∨ ¬ (n2 : Int) ≤ 10 ∨ ¬ (n3 : Int) ≤ 10 := by omega
    clear hs
    replace hs' := Aside0.mk hs'
    go_enter Try.func3, Try.ntmps3
    go_wp2_with (go_at_call 6; refine (awake_calls _).mono ?_; rintro e w1 ⟨rfl, hb⟩; replace hb := Aside0.mk hb)
    all_goals first
      | (go_ret; exact ⟨rfl, hb.out⟩)
      | (exfalso; have := hs'.out; omega)
theorem Parts_main (w : World) (A0 : Option Addr) (n0 c0 : Nat) (l0 : List Int) (hr0 : Kd.C (Kd.int .i64) w A0 n0 l0) (hc0 : n0 ≤ c0) (_ : ∀ x ∈ l0, (Lit.int .i64 x).wf = true) (A1 : Option Addr) (n1 c1 : Nat) (l1 : List Int) (hr1 : Kd.C (Kd.int .i64) w A1 n1 l1) (hc1 : n1 ≤ c1) (_ : ∀ x ∈ l1, (Lit.int .i64 x).wf = true)
    (A2 : Option Addr) (n2 c2 : Nat) (l2 : List Int) (hr2 : Kd.C (Kd.int .i64) w A2 n2 l2) (hc2 : n2 ≤ c2) (_ : ∀ x ∈ l2, (Lit.int .i64 x).wf = true) (A3 : Option Addr) (n3 c3 : Nat) (l3 : List Int) (hr3 : Kd.C (Kd.int .i64) w A3 n3 l3) (hc3 : n3 ≤ c3) (_ : ∀ x ∈ l3, (Lit.int .i64 x).wf = true) :
    Calls Try.prog 3 #[.slice A0 n0 c0, .slice A1 n1 c1, .slice A2 n2 c2, .slice A3 n3 c3] w fun e w' => e = .returned (.bool true) ∧ Below w.heap.size w w' :=
  Parts_calls A0 n0 c0 l0 A1 n1 c1 l1 A2 n2 c2 l2 A3 n3 c3 l3 w hr0 hc0 hr1 hc1 hr2 hc2 hr3 hc3 (parts_pure _ _ _ _)
end Go.Proofs.Ytoljhicemcjbkaa.Sh
