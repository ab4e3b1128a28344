/- share.Counts, called, tells how often each number is in the trace. -/
import Derived.Test.YtoljhicemcjbkaaPShareTellsx
import Derived.Test.YtoljhicemcjbkaaBm
import Derived.WalkSpells
namespace Go.Proofs.Ytoljhicemcjbkaa.Sh
set_option linter.unusedVariables false
set_option linter.unusedSimpArgs false
open Go.RowKit Go.Proofs.Bm Go.Proofs.YtoljhicemcjbkaaW.PrintWords Go.Proofs.YtoljhicemcjbkaaW.PrintLast Go.Proofs.YtoljhicemcjbkaaW.PrintMore

theorem zero3 (w : World) : (zeroValue 3).run Try.prog w = .ok (.int .i64 0) w := by kernel_rfl

/-- the map of counts -/
def CntMap (m : List (Int × Int)) (xs : List Int) : Prop := ∀ k : Int, (aget m k).getD 0 = (xs.count k : Int)
theorem CntMap.nil : CntMap [] [] := fun _ => rfl
theorem wrap_id {x : Int} (h0 : 0 ≤ x) (h1 : x ≤ 9223372036854775807) : wrap64 x = x := by unfold wrap64; omega
theorem CntMap.put {m : List (Int × Int)} {xs : List Int} (h : CntMap m xs) (x : Int) (hb : (xs.length : Int) < 9223372036854775807) :
    CntMap (aset m x (wrap64 ((aget m x).getD 0 + 1))) (xs ++ [x]) := by
  intro k
  have hc : xs.count x ≤ xs.length := List.count_le_length
  rw [aget_aset, h x, List.count_append, List.count_singleton]
  by_cases e : k = x
  · subst e; rw [if_pos rfl, Option.getD_some, wrap_id (by omega) (by omega)]; simp
  · rw [if_neg e, h k, if_neg (by simpa using fun h => e h.symm)]; rfl
theorem getD_map (o : Option Int) : (o.map (Value.int .i64)).getD (.int .i64 0) = .int .i64 (o.getD 0) := by cases o <;> rfl

def share_Counts.f (l0 l1 : List Int) : Option (List Int) := if l1.length ≤ 17592186044416 then some (l1.map fun id => (l0.count id : Int)) else none

theorem take_snoc {xs : List Int} {k : Nat} (h : k < xs.length) : xs.take (k + 1) = xs.take k ++ [rd xs k] := by
  rw [List.take_succ_eq_append_getElem h]; simp [rd, List.getD_eq_getElem?_getD, h]

set_option maxHeartbeats 2000000 in
set_option maxRecDepth 100000 in
theorem share_Counts.calls (A0 : Option Addr) (c0 : Nat) (l0 : List Int) (A1 : Option Addr) (c1 : Nat) (l1 : List Int) (r : List Int) (w : World) (hr0 : Kd.C (Kd.int .i64) w A0 l0.length l0) (hc0 : l0.length ≤ c0) (hr1 : Kd.C (Kd.int .i64) w A1 l1.length l1) (hc1 : l1.length ≤ c1) (h : share_Counts.f l0 l1 = some r) :
    Calls Try.prog 7 #[.slice A0 l0.length c0, .slice A1 l1.length c1] w fun e w' => ∃ v0_ : Value, e = .returned (v0_) ∧ Kd.R (Kd.int .i64) 3 w' w.heap.size (fun _ => True) v0_ r ∧ Below w.heap.size w w' := by
  have HR0 := Aside0.mk hr0
  have HR1 := Aside0.mk hr1
  clear hr0 hr1 hc0 hc1
  have HL : l1.length ≤ 17592186044416 ∧ r = l1.map fun id => (l0.count id : Int) := by
    unfold share_Counts.f at h; split at h
    · exact ⟨‹_›, (Option.some.inj h).symm⟩
    · cases h
  replace HL := Aside0.mk HL
  clear h
  have hlen := HR0.out.2.1
  have hlen1 := HR1.out.2.1
  have hmm := @run_makeMap Try.prog
  go_enter Try.func7, Try.ntmps7
  go_wp2
  go_loopw [14] (fun i wr => ∃ (k : Nat) (m : List (Int × Int)), k ≤ l0.length ∧ i = .int .i64 k ∧ Aside0 (IMap .i64 (Value.int .i64) wr w.heap.size m) ∧ Aside0 (CntMap m (l0.take k)) ∧ Aside0 (Below w.heap.size w wr))
    (fun i _ => l0.length - (intOf i).toNat)
  case atStart => exact ⟨0, _, Nat.zero_le _, rfl, ⟨IMap.made _ _ _⟩, ⟨CntMap.nil⟩, ⟨(Below.refl _ _).alloc (Nat.le_refl _) _⟩⟩
  case round =>
    obtain ⟨k, m, hk, rfl, HM, HC, HB⟩ := hrel
    by_cases hlt : k < l0.length
    · have p1 : 0 ≤ (k : Int) := by omega
      have q1 : (k : Int) < (l0.length : Int) := by omega
      obtain ⟨ad, e1, hx⟩ := Kd.at_int HR0.out k p1 q1
      cases e1
      replace hx := (HB.out.cell (World.block_lt_of_cell? w _ hx)).trans hx
      rw [Int.toNat_natCast] at hx
      go_wp2_with (first
        | (at_lookup; refine wpList_lookup_imap (enc := Value.int .i64) rfl _ _ 35 rfl Try.underlying35 Try.underlying3 (zero3 _) w.heap.size m _ rfl rfl HM.out ?_; rw [getD_map])
        | (at_mapUpdate; refine wpList_mapUpdate_imap (enc := Value.int .i64) rfl _ _ _ 35 rfl Try.underlying35 Try.underlying3 w.heap.size m _ _ rfl rfl rfl HM.out ?_; intro ob hob))
      go_roundw
      case rel => exact ⟨k + 1, _, by omega, by go_num, ⟨hob⟩, ⟨by rw [take_snoc hlt]; exact HC.out.put _ (by rw [List.length_take]; omega)⟩, ⟨HB.out.grown (bset_grown _ _ _) HB.out.size (fun j hj => by cases hj; exact Nat.le_refl _)⟩⟩
      case measure => simp [intOf]; omega
    · have hkl : k = l0.length := by omega
      subst hkl
      rw [List.take_length] at HC
      go_wp2
      go_loopw [8, 25] (fun v i wr => ∃ (j : Nat), j ≤ l1.length ∧ i = .int .i64 j ∧ Aside0 (IMap .i64 (Value.int .i64) wr w.heap.size m) ∧ Aside0 (Kd.R (Kd.int .i64) 3 wr w.heap.size (fun g => g ≠ w.heap.size) v ((l1.take j).map fun id => (l0.count id : Int))) ∧ Aside0 (Below w.heap.size w wr))
        (fun _ i _ => l1.length - (intOf i).toNat)
      case atStart => exact ⟨0, Nat.zero_le _, rfl, HM, ⟨Kd.R_nil _ _ _ _ _⟩, HB⟩
      case round =>
        clear HM HB
        obtain ⟨j, hj, rfl, HM, HO, HB⟩ := hrel
        by_cases hlt2 : j < l1.length
        · have p2 : 0 ≤ (j : Int) := by omega
          have q2 : (j : Int) < (l1.length : Int) := by omega
          obtain ⟨ad2, e2, hx2⟩ := Kd.at_int HR1.out j p2 q2
          cases e2
          replace hx2 := (HB.out.cell (World.block_lt_of_cell? w _ hx2)).trans hx2
          rw [Int.toNat_natCast] at hx2
          have HW : Aside0 (w.heap.size < wr.heap.size) := ⟨HM.out.lt⟩
          go_wp2_with (first
            | (at_lookup; refine wpList_lookup_imap (enc := Value.int .i64) rfl _ _ 35 rfl Try.underlying35 Try.underlying3 (zero3 _) w.heap.size m _ rfl rfl HM.out ?_; rw [getD_map, HC.out])
            | (at_builtin; go_must (refine Kd.R_append (Kd.int .i64) (w0 := w) w.heap.size rfl (.tmp 29) (.tmp 33) 22 3 (.int .i64 0) 8 rfl Try.underlying22 PShareTells.info3 rfl (by decide) (by omega) _ ((l1.take j).map fun id => (l0.count id : Int)) (l0.count (rd l1 j) : Int) [.int .i64 (l0.count (rd l1 j) : Int)] (fun g => g ≠ w.heap.size) (fun _ => False) rfl rfl ?aP (fun _ hk => hk.elim) ?aF ?aO ?aB ?aS ?aL ?_); (case aP => exact rfl); (case aB => exact HB.out); (case aF => intro k hk; have := HW.out; show k ≠ _; omega); (case aO => exact HO.out); (case aS => exact below_size HB.out); (case aL => have := HL.out.1; rw [List.length_map, List.length_take]; omega); intro v1 w7 ho hb hg hat))
          go_roundw
          case rel => exact ⟨j + 1, by omega, by go_num, ⟨HM.out.of_block (hg.block _ HM.out.lt (fun e => HO.out.1 _ e.symm rfl))⟩, ⟨by rw [take_snoc hlt2, List.map_append]; exact ho⟩, ⟨hb⟩⟩
          case measure => simp [intOf]; omega
        · have hkl : j = l1.length := by omega
          subst hkl
          rw [List.take_length] at HO
          go_wp2
          go_ret
          exact ⟨_, rfl, by rw [HL.out.2]; exact Kd.R_mono HO.out (fun _ _ => trivial), HB.out⟩
end Go.Proofs.Ytoljhicemcjbkaa.Sh
