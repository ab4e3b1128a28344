/- The chapter's examples hold: awake answers true. -/
import Derived.Test.YtoljhicemcjbkaaShB
namespace Go.Proofs.Ytoljhicemcjbkaa.Sh
set_option linter.unusedVariables false
set_option linter.unusedSimpArgs false
open Go.RowKit Go.Proofs.YtoljhicemcjbkaaW.PrintWords Go.Proofs.YtoljhicemcjbkaaW.PrintLast Go.Proofs.YtoljhicemcjbkaaW.PrintMore PShareTells

theorem C_cells {k : IntKind} {w : World} {b : Nat} {cs : Array Value} {e : TypeId} {fr : Nat × Nat} (xs : List Int) (hb : w.heap[b]? = some (.cells cs e fr)) (hx : cs.toList = xs.map (Value.int k)) (hl : (xs.length : Int) ≤ 9223372036854775807) : Kd.C (Kd.int k) w (some ⟨b, 0, none⟩) xs.length xs := by
  refine ⟨rfl, by omega, fun _ => ⟨_, rfl, fun j p hj => ⟨[.int k p], rfl, rfl, fun i u hu => ?_⟩⟩⟩
  have hi : i = 0 := by
    cases i with
    | zero => rfl
    | succ i => simp at hu
  subst hi
  simp at hu; subst hu
  have e1 : j * (Kd.int k).sz + 0 = j := by show j * 1 + 0 = j; omega
  rw [e1, add_plain]
  unfold World.cell?
  rw [hb]
  simp only [Option.isSome_none, Bool.false_eq_true, if_false]
  rw [← Array.getElem?_toList, hx, List.getElem?_map, hj]; rfl

theorem heap_get (w : World) (o : Obj) (i : Nat) : (w.alloc o).heap[i]? = if i = w.heap.size then some o else w.heap[i]? := by
  show (w.heap.push o)[i]? = _
  rw [Array.getElem?_push]
theorem hn0 (w : World) (o : Obj) : (w.alloc o).heap[w.heap.size]? = some o := by rw [heap_get, if_pos rfl]
theorem hn1 (w : World) (o o' : Obj) : ((w.alloc o).alloc o').heap[w.heap.size]? = some o := by rw [heap_get, if_neg (by simp), hn0]
theorem hn01 (w : World) (o o' : Obj) : ((w.alloc o).alloc o').heap[w.heap.size + 1]? = some o' := by rw [heap_get, if_pos (by simp)]
theorem C_nil (w : World) (k : IntKind) : Kd.C (Kd.int k) w none 0 [] := Kd.C_nil _ _

set_option maxHeartbeats 2000000 in
set_option maxRecDepth 100000 in
theorem awake_calls (w : World) : Calls Try.prog 6 #[] w fun e w' => e = .returned (.bool true) ∧ Below w.heap.size w w' := by
  have e1 : Aside0 (ahead [5, 1] [1, 1] = 4) := ⟨by decide +kernel⟩
  have e2 : Aside0 (ahead [5, 1] [5, 1] = 0) := ⟨by decide +kernel⟩
  have e3 : Aside0 (worst [7, 7, 8] [7, 8] [] = 2) := ⟨by decide +kernel⟩
  go_enter Try.func6, Try.ntmps6
  go_wp2_with fail
  refine (Ahead_calls _ 2 2 [5, 1] _ 2 2 [1, 1] _ ?h0 (by omega) ?h1 (by omega)).mono ?_
  case h0 => exact C_cells [5, 1] (by first | exact hn1 _ _ _ | exact hn01 _ _ _ | exact hn0 _ _) rfl (by decide)
  case h1 => exact C_cells [1, 1] (by first | exact hn1 _ _ _ | exact hn01 _ _ _ | exact hn0 _ _) rfl (by decide)
  rintro e w1 ⟨rfl, hb1⟩
  rw [e1.out]
  replace hb1 := Aside0.mk (below_then (below_alloc (below_alloc (Below.refl _ w) _) _) (by simp; omega) hb1)
  go_wp2_with fail
  refine (Ahead_calls _ 2 2 [5, 1] _ 2 2 [5, 1] _ ?h0 (by omega) ?h1 (by omega)).mono ?_
  case h0 => exact C_cells [5, 1] (by first | exact hn1 _ _ _ | exact hn01 _ _ _ | exact hn0 _ _) rfl (by decide)
  case h1 => exact C_cells [5, 1] (by first | exact hn1 _ _ _ | exact hn01 _ _ _ | exact hn0 _ _) rfl (by decide)
  rintro e w2 ⟨rfl, hb2⟩
  rw [e2.out]
  replace hb2 := Aside0.mk (below_then (below_alloc (below_alloc hb1.out _) _) (by simp; have := hb1.out.size; omega) hb2)
  go_wp2_with fail
  refine (Worst_calls _ 3 3 [7, 7, 8] _ 2 2 [7, 8] _ 0 0 [] _ ?h0 (by omega) ?h1 (by omega) ?h2 (by omega) (by omega) (by decide)).mono ?_
  case h0 => exact C_cells [7, 7, 8] (by first | exact hn1 _ _ _ | exact hn01 _ _ _ | exact hn0 _ _) rfl (by decide)
  case h1 => exact C_cells [7, 8] (by first | exact hn1 _ _ _ | exact hn01 _ _ _ | exact hn0 _ _) rfl (by decide)
  case h2 => exact C_nil _ _
  rintro e w3 ⟨rfl, hb3⟩
  rw [e3.out]
  replace hb3 := Aside0.mk (below_then (below_alloc (below_alloc hb2.out _) _) (by simp; have := hb2.out.size; omega) hb3)
  go_wp2
  go_ret
  exact ⟨rfl, hb3.out⟩
end Go.Proofs.Ytoljhicemcjbkaa.Sh
