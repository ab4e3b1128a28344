/- The reference's Fold tells the same. -/
import Derived.Test.YtoljhicemcjbkaaShF
namespace Go.Proofs.Ytoljhicemcjbkaa.Sh
set_option linter.unusedVariables false
set_option linter.unusedSimpArgs false
open Go.RowKit Go.Proofs.Op Go.Proofs.YtoljhicemcjbkaaW.PrintWords Go.Proofs.YtoljhicemcjbkaaW.PrintLast Go.Proofs.YtoljhicemcjbkaaW.PrintMore PShareTells

def rf (l : List (Int × Int)) (id : Int) : Int := l.foldr (fun p acc => if p.1 = id then p.2 else acc) 0
theorem rf_drop {l : List (Int × Int)} {j : Nat} (id : Int) (h : j < l.length) : rf (l.drop j) id = if (l.getD j (0, 0)).1 = id then (l.getD j (0, 0)).2 else rf (l.drop (j + 1)) id := by
  unfold rf
  conv => lhs; rw [List.drop_eq_getElem_cons h, List.foldr_cons]
  simp only [List.getD_eq_getElem?_getD, List.getElem?_eq_getElem h, Option.getD_some]
theorem rf_fidx (id : Int) : ∀ (l : List (Int × Int)) (k : Nat), (fidx id l k = -1 ∧ rf l id = 0) ∨ (∃ j, j < l.length ∧ fidx id l k = (k : Int) + j ∧ rf l id = (l.getD j (0, 0)).2)
  | [], _ => .inl ⟨rfl, rfl⟩
  | p :: l, k => by
    by_cases h : p.1 = id
    · right; exact ⟨0, by simp, by simp [fidx, h], by simp [rf, h]⟩
    · have e1 : fidx id (p :: l) k = fidx id l (k + 1) := by simp [fidx, h]
      have e2 : rf (p :: l) id = rf l id := by simp [rf, h]
      rw [e1, e2]
      rcases rf_fidx id l (k + 1) with h1 | ⟨j, hj, h2, h3⟩
      · exact .inl h1
      · exact .inr ⟨j + 1, by simp; omega, by rw [h2]; omega, by rw [h3]; simp⟩
theorem rf_fold1 (l : List (Int × Int)) (id : Int) : rf l id = fold1 l id := by
  unfold fold1
  rcases rf_fidx id l 0 with ⟨h1, h2⟩ | ⟨j, hj, h2, h3⟩
  · rw [h1, h2, if_neg (by omega)]
  · rw [h2, h3, if_pos (by omega)]; simp

set_option maxHeartbeats 4000000 in
set_option maxRecDepth 100000 in
theorem RFold_calls (A0 : Option Addr) (n0 c0 : Nat) (l0 : List Int) (A1 : Option Addr) (n1 c1 : Nat) (l1 : List (Int × Int)) (w : World) (hr0 : Kd.C (Kd.int .i64) w A0 n0 l0) (hr1 : Kd.C kP2 w A1 n1 l1) (hl0 : n0 ≤ 17592186044416) :
    Calls Try.prog 15 #[.slice A0 n0 c0, .slice A1 n1 c1] w fun e w' => ∃ A c, e = .returned (.slice A n0 c) ∧ n0 ≤ c ∧ Kd.C (Kd.int .i64) w' A n0 (l0.map (fold1 l1)) ∧ Below w.heap.size w w' := by
  have hn0 := hr0.2.1
  have hn1 := hr1.2.1
  have HR0 := Aside0.mk hr0
  have HR1 := Aside0.mk hr1
  clear hr0 hr1
  go_enter Try.func15, Try.ntmps15
  go_wp2
  go_loopw [5, 6] (fun v i wr => ∃ (k : Nat), k ≤ n0 ∧ i = .int .i64 k ∧ Aside0 (Kd.R (Kd.int .i64) 3 wr w.heap.size (fun _ => True) v ((l0.take k).map (fold1 l1))) ∧ Aside0 (Below w.heap.size w wr)) (fun _ i _ => n0 - (intOf i).toNat)
  case atStart => exact ⟨0, by omega, rfl, ⟨Kd.R_nil _ _ _ _ _⟩, ⟨Below.refl _ _⟩⟩
  case round =>
    obtain ⟨k, hk, rfl, HO, HB⟩ := hrel
    by_cases hlt : k < n0
    · have q1 : (k : Int) < (n0 : Int) := by omega
      have hkl : k < l0.length := by rw [HR0.out.1]; exact hlt
      obtain ⟨ad, e1, x0⟩ := Kd.at_int HR0.out k (by omega) q1
      cases e1
      rw [Int.toNat_natCast] at x0
      obtain ⟨id, hid⟩ : ∃ id, rd l0 k = id := ⟨_, rfl⟩
      have ht8 : Aside0 ((l0.take (k + 1)).map (fold1 l1) = (l0.take k).map (fold1 l1) ++ [fold1 l1 id]) := ⟨by rw [take_snoc hkl, List.map_append, hid]; rfl⟩
      rw [hid] at x0
      clear hid
      replace x0 := Aside0.mk x0
      obtain ⟨wo, rfl⟩ : ∃ wo : World, wo = wr := ⟨_, rfl⟩
      go_wp2_with fail
      go_loopw [7, 8] (fun v i wi => ∃ (j : Nat) (x : Int), j ≤ n1 ∧ Aside0 (x = (j : Int) - 1) ∧ i = .int .i64 x ∧ v = .int .i64 (rf (l1.drop j) id) ∧ Aside0 (Below wo.heap.size wo wi)) (fun _ i _ => (intOf i + 1).toNat)
      case atStart => exact ⟨n1, _, Nat.le_refl _, ⟨rfl⟩, rfl, by rw [List.drop_of_length_le (by rw [HR1.out.1]; exact Nat.le_refl _)]; rfl, ⟨Below.refl _ _⟩⟩
      case round =>
        obtain ⟨j, x, hj, hxj, rfl, rfl, HW⟩ := hrel
        by_cases hpos : 0 ≤ x
        · obtain ⟨m, rfl⟩ : ∃ m : Nat, x = m := ⟨x.toNat, by omega⟩
          have hjm : j = m + 1 := by have := hxj.out; omega
          subst hjm
          clear hxj
          have q2 : (m : Int) < (n1 : Int) := by omega
          have hm2 : m < l1.length := by rw [HR1.out.1]; omega
          obtain ⟨a2, e2, y1, y2⟩ := at_P2 HR1.out m (by omega)
          cases e2
          obtain ⟨pa, pb, hpab⟩ : ∃ pa pb, l1.getD m (0, 0) = (pa, pb) := ⟨_, _, rfl⟩
          have hrf := Aside0.mk (rf_drop id hm2)
          rw [hpab] at y1 y2 hrf
          clear hpab
          have HBW := Aside0.mk (below_then HB.out HB.out.size HW.out)
          replace y1 := (HBW.out.cell (World.block_lt_of_cell? w _ y1)).trans y1
          replace y2 := (HBW.out.cell (World.block_lt_of_cell? w _ y2)).trans y2
          have x1 := (HBW.out.cell (World.block_lt_of_cell? w _ x0.out)).trans x0.out
          have y3 : wr.cell? ⟨(a2.add (m * 2)).block, (a2.add (m * 2)).off + 1, none⟩ = some (.int .i64 pb) := by
            have := Addr.add_add a2 (m * 2) 1
            rw [← this] at y2; exact y2
          clear y2
          by_cases hid2 : pa = id
          · have ht : (pa == id) = true := by simpa using hid2
            replace hrf : Aside0 (rf (l1.drop m) id = pb) := ⟨by rw [hrf.out, if_pos hid2]⟩
            replace hid2 := Aside0.mk hid2
            go_wp2_with fail
            go_quiet (fail)
            go_wp2_with fail
            go_roundw
            case rel => exact ⟨m, _, by omega, ⟨rfl⟩, rfl, by rw [hrf.out], ⟨pw_below_drewN HW.out _⟩⟩
            case measure => first | (simp [intOf]; done) | (simp [intOf]; omega)
          · have ht : (pa == id) = false := by simpa using hid2
            replace hrf : Aside0 (rf (l1.drop m) id = rf (l1.drop (m + 1)) id) := ⟨by rw [hrf.out, if_neg hid2]⟩
            replace hid2 := Aside0.mk hid2
            go_wp2_with fail
            go_quiet (fail)
            go_wp2_with fail
            go_roundw
            case rel => exact ⟨m, _, by omega, ⟨rfl⟩, rfl, by rw [hrf.out], ⟨pw_below_drewN HW.out _⟩⟩
            case measure => first | (simp [intOf]; done) | (simp [intOf]; omega)
        · have hj0 : j = 0 := by have := hxj.out; omega
          subst hj0
          rw [List.drop_zero, rf_fold1]
          replace HB := Aside0.mk (below_then HB.out HB.out.size HW.out)
          replace HO := Aside0.mk (Kd.R_below HO.out HW.out)
          obtain ⟨tv, hto⟩ : ∃ tv, fold1 l1 id = tv := ⟨_, rfl⟩
          rw [hto] at ht8 ⊢
          clear hto hxj HW
          go_wp2_with (first
            | ((with_reducible refine gate_builtin (b := .append) (xs := #[.tmp 37, .tmp 39]) rfl ?_); at_builtin; refine Kd.R_append (Kd.int .i64) (w0 := w) w.heap.size rfl (.tmp 37) (.tmp 39) 22 3 (.int .i64 0) 8 rfl Try.underlying22 info3 rfl (by decide) (by omega) _ ((l0.take k).map (fold1 l1)) tv [.int .i64 tv] (fun _ => True) (fun _ => False) rfl rfl ?aP (fun _ hk => hk.elim) ?aF ?aO ?aB ?aS ?aL ?_; (case aP => exact rfl); (case aB => exact HB.out); (case aF => (exact fun _ _ => trivial)); (case aO => exact HO.out); (case aS => exact below_size (HB.out)); (case aL => (have := List.length_take_le k l0; rw [List.length_map]; omega)); intro v1 wb ho hb1 hg hat; replace hb1 := Aside0.mk hb1; replace ho := Aside0.mk ho; clear hg hat))
          go_roundw
          case rel => exact ⟨k + 1, by omega, by go_num, ⟨by rw [ht8.out]; exact ho.out⟩, hb1⟩
          case measure => simp [intOf]; omega
    · have hkl : k = n0 := by omega
      clear hlt
      subst hkl
      rw [List.take_of_length_le (by rw [HR0.out.1]; exact Nat.le_refl _)] at HO
      obtain ⟨A, c, hv, hc, hC⟩ := Kd.R_reads HO.out
      rw [List.length_map, HR0.out.1] at hv hc hC
      subst hv
      replace hc := Aside0.mk hc; replace hC := Aside0.mk hC
      clear HO
      go_wp2
      go_ret
      exact ⟨A, c, rfl, hc.out, hC.out, HB.out⟩
end Go.Proofs.Ytoljhicemcjbkaa.Sh
