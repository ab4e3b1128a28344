/- Waits of package disk: the numbers of the sectors that wait, in order. -/
import Derived.Test.YtiibfboendnifaaDoorDkE
import Derived.Test.YtiibfboendnifaaDoorShelf
import Derived.Shelf.SlIterI.Nil
import Derived.OwnWalkIn
namespace Go.Proofs.YtiibfboendnifaaDoor.Dk
set_option linter.unusedVariables false
set_option linter.unusedSimpArgs false
open Go.RowKit Go.Maps Go.Sort Go.Shelf Go.Proofs.Bk Go.Proofs.Bm Go.Proofs.YtiibfboendnifaaDoorW.PrintWords

theorem nodup_le : ∀ (n : Nat) (l : List Int), l.Nodup → (∀ x ∈ l, 0 ≤ x ∧ x < (n : Int)) → l.length ≤ n
  | 0, l, _, h => by
    cases l with
    | nil => simp
    | cons a l => have := h a (by simp); omega
  | n + 1, l, hn, h => by
    have h1 := nodup_le n (l.erase (n : Int)) (hn.erase _) (fun x hx => by
      rw [hn.mem_erase_iff] at hx
      have := h x hx.2
      have := hx.1
      omega)
    rw [List.length_erase] at h1
    split at h1 <;> omega
theorem IsDisk.waits_len {w : World} {B K M : Nat} {D : Dsk} (h : IsDisk w B K M D) : D.waits.length ≤ 512 := by
  have := nodup_le D.kept.length (D.waits.map (·.1)) h.mp.nodup (fun x hx => by
    obtain ⟨p, hp, rfl⟩ := List.mem_map.1 hx
    exact (h.wsec p hp).2)
  rw [List.length_map] at this
  have := h.few
  omega
def srt (l : List Int) : List Int := l.mergeSort (fun x y => decide (x ≤ y))
def Dsk.wts (D : Dsk) : List Int := srt (D.waits.map (·.1))
theorem Dsk.wts_length (D : Dsk) : D.wts.length = D.waits.length := by unfold Dsk.wts srt; rw [List.length_mergeSort, List.length_map]

theorem wf_small (x : Int) (h0 : 0 ≤ x) (h1 : x ≤ 1048576) : (Lit.int .i64 x).wf = true := by
  simp [Lit.wf, IntKind.min, IntKind.max, IntKind.signed, IntKind.bits]
  omega
/-- a slice of ints that a call has made -/
def IntsAt (w : World) (b : Nat) (v : Value) (n : Nat) (xs : List Int) : Prop :=
  ∃ A c, v = .slice A n c ∧ Kd.C (Kd.int .i64) w A n xs ∧ (∀ ad, A = some ad → b ≤ ad.block)
theorem IntsAt.of_row {w : World} {b : Nat} {v : Value} {xs : List Int} (h : w.ownsRow b 3 1 v xs.length (xs.map (Value.int .i64))) : IntsAt w b v xs.length xs := by
  obtain ⟨_, h | h⟩ := h
  · obtain ⟨rfl, h0⟩ := h
    have : xs = [] := List.eq_nil_of_length_eq_zero h0
    subst this
    exact ⟨none, 0, rfl, Kd.C_nil _ _, fun ad e => by cases e⟩
  · obtain ⟨g, cap, cur, rfl, hb, hg, hn, hm, hs, ht⟩ := h
    refine ⟨some ⟨g, 0, none⟩, cap, rfl, ⟨rfl, (by have hml : maxLen ≤ 9223372036854775807 := (by decide); omega), fun hp => ⟨_, rfl, fun j x hj => ⟨[.int .i64 x], rfl, rfl, fun i u hu => ?_⟩⟩⟩, fun ad e => by injection e with e; rw [← e]; exact hb⟩
    have hi : i = 0 := by cases i with | zero => rfl | succ i => simp at hu
    subst hi
    simp at hu; subst hu
    show w.cell? ((⟨g, 0, none⟩ : Addr).add (j * 1 + 0)) = _
    rw [addAt, cell_row hg]
    have hj' : j < xs.length := (List.getElem?_eq_some_iff.1 hj).1
    have := congrArg (fun l => l[j]?) ht
    simp only [Nat.mul_one, List.getElem?_take_of_lt hj', List.getElem?_map, hj, Option.map_some, Array.getElem?_toList] at this
    rw [← this]; congr 1; omega

def WaitsPost (D : Dsk) (w : World) (e : Ending) (w' : World) : Prop :=
  ∃ v, e = .returned v ∧ IntsAt w' w.heap.size v D.waits.length D.wts ∧ Below w.heap.size w w'

theorem sortsA (m : Nat) : AnyZI.SortsIn Tryd.prog Tryd.sortedA_ren Fence.wide m :=
  ⟨fun blk off cap ss W hH hblk hsz => callsIn_wide.2 (Tryd.slices_Sort_int blk off cap ss W hH hblk hsz),
   fun p cap W => callsIn_wide.2 (Tryd.slices_Sort_int_none p cap W)⟩

set_option maxHeartbeats 2000000 in
theorem Waits_calls (B K M : Nat) (D : Dsk) (w : World) (h : IsDisk w B K M D) : Calls Tryd.prog 20 #[.pointer (some ⟨B, 0, none⟩)] w (WaitsPost D w) := by
  refine (callsIn_wide (n := 7)).1 ?_
  have c1 := h.c1
  obtain ⟨D0, hown, hsize, hperm⟩ := h.mp.owns (P := Tryd.prog) (H := Unit) Tryd.underlying3 (fun p hp => by
    have := (h.wsec p hp).2
    have := h.few
    exact wf_small _ (by omega) (by omega)) (by have := h.waits_len; exact Nat.le_trans this (by decide))
  have hmax : Maps.size D0 ≤ maxLen := Nat.le_trans hsize (Nat.le_trans h.waits_len (by decide))
  have hbytes : Maps.size D0 * 8 ≤ 140737488355328 := by have := h.waits_len; omega
  have hbl := hown.lt
  have hseq : SeqGives Fence.wide 3 Tryd.prog 65 #[.pointer (some ⟨w.heap.size, 0, none⟩)] encZ (fun ss => ss.Perm (intKeys D0)) (Maps.size D0) (w.alloc (.cells #[.map (some M)] 68)) :=
    AnyZI.keys_gives (ρ := Tryd.keysA_ren) { Tryd.keysA with } Fence.wide _ trivial rfl (by omega) w.heap.size M _ D0 _ (by simp) (by simp) (by
      obtain ⟨es, clock, hb, Ft, hs, hD⟩ := hown
      exact ⟨es, clock, (Below.heap_alloc _ _ M hbl).trans hb, Ft, hs, hD⟩)
  have cK : ∀ mb W, CallsIn Fence.wide 6 Tryd.prog 45 #[.map mb] W fun e w' => e = .returned (.func (.func 65) #[] #[.pointer (some ⟨W.heap.size, 0, none⟩)]) ∧ w' = W.alloc (.cells #[.map mb] 68) := fun mb W => AnyZI.keys_in Tryd.keysA Fence.wide 6 trivial rfl mb W
  have cS := AnyZI.sorted_in Tryd.sortedA Fence.wide 6 trivial trivial trivial trivial rfl (by omega) (sortsA _) (enters_of Tryd.func64 (by kernel_rfl) rfl) 65 #[.pointer (some ⟨w.heap.size, 0, none⟩)] trivial (enters_of Tryd.func65 (by kernel_rfl) rfl) _ _ hmax hbytes _ hseq
  change CallsIn _ _ Tryd.prog 44 _ _ _ at cS
  have fin : ∀ (v : Value) (ss : List Int) (w' : World), ss.Perm (intKeys D0) → w'.ownsRow w.heap.size 3 1 v ss.length ((ss.mergeSort (fun x y => decide (x ≤ y))).map encZ) → Below w.heap.size w w' → WaitsPost D w (.returned v) w' := by
    intro v ss w' hp hr hb
    refine ⟨v, rfl, ?_, hb⟩
    have he : ss.mergeSort (fun x y => decide (x ≤ y)) = D.wts := mergeSort_of_perm_i (hp.trans hperm)
    rw [he] at hr
    have hl : ss.length = D.wts.length := by rw [← he, List.length_mergeSort]
    rw [hl] at hr
    have := IntsAt.of_row hr
    rw [D.wts_length] at this
    exact this
  replace fin := Aside0.mk fin
  have hfK : Fence.wide.fn 45 := trivial
  have hfS : Fence.wide.fn 44 := trivial
  replace h := Aside0.mk h; replace hown := Aside0.mk hown; replace hperm := Aside0.mk hperm; replace hsize := Aside0.mk hsize; replace hseq := Aside0.mk hseq; replace hmax := Aside0.mk hmax; replace hbytes := Aside0.mk hbytes
  refine callsIn_of_wp Tryd.func20 rfl trivial ?_ rfl
  simp only [Tryd.ntmps20, List.size_toArray, List.length_cons, List.length_nil, Nat.reduceAdd, Nat.reduceSub, Array.replicate_succ, Array.replicate_zero, List.push_toArray, List.append_toArray, List.nil_append, List.cons_append]
  gi_wp2_with (first
    | (gi_at_call 45; refine (cK _ _).mono ?_; rintro e w' ⟨rfl, rfl⟩)
    | (gi_at_call 44; refine cS.mono ?_; rintro e w' ⟨v, ss, rfl, hS, hrow, hnil, hb⟩))
  go_ret
  exact fin.out v ss _ hS (ownsRow_base_a hrow (by simp)) (((Below.refl _ w).alloc (Nat.le_refl _) _).trans (hb.mono (by simp)))
end Go.Proofs.YtiibfboendnifaaDoor.Dk
