/- A store of package slots in memory; its small calls. -/
import Derived.Test.YtiibfboendnifaaDoorSlD
import Derived.Test.YtiibfboendnifaaDoorDkH
import Derived.Deep.RegionHeld3
import Derived.Deep.DrawnRows
namespace Go.Proofs.YtiibfboendnifaaDoor.Sl
set_option linter.unusedVariables false
set_option linter.unusedSimpArgs false
open Go.RowKit Go.Proofs.Bk Go.Proofs.Bm Go.Proofs.YtiibfboendnifaaDoor.Dk Go.Proofs.YtiibfboendnifaaDoorW.PrintWords

/-- the blocks that a store's calls write -/
def FS (S B K M : Nat) : Nat → Prop := fun k => FD B K M k ∨ k = S
structure Sto (w : World) (S B K M : Nat) (D : Dsk) (h : Hd) : Prop where
  dk : IsDisk w B K M D
  st : ∃ A c, w.heap[S]? = some (.cells #[.int .i64 h.age, .bool h.has, .slice A h.img.length c, .pointer (some ⟨B, 0, none⟩)] 74 (0, 0)) ∧ h.img.length ≤ c ∧ (Kd.int .u8).C w A h.img.length h.img ∧ (∀ ad, A = some ad → ¬ FS S B K M ad.block)
  sf : ¬ FD B K M S
  ok : h.Ok
  nz : ¬ FS S B K M 0
theorem Sto.keep {w w' : World} {S B K M : Nat} {D D' : Dsk} {h : Hd} (s : Sto w S B K M D h) (hk : KeepF (FD B K M) w w') (hd : IsDisk w' B K M D') : Sto w' S B K M D' h := by
  obtain ⟨A, c, h1, h2, h3, h4⟩ := s.st
  exact ⟨hd, ⟨A, c, (hk.block S (Array.getElem?_eq_some_iff.1 h1).1 s.sf).trans h1, h2, Kd_C_keep h3 (fun ad e _ hf => h4 ad e (.inl hf)) hk, h4⟩, s.sf, s.ok, s.nz⟩
theorem Sto.below {w w' : World} {S B K M : Nat} {D : Dsk} {h : Hd} (s : Sto w S B K M D h) (hb : Below w.heap.size w w') : Sto w' S B K M D h :=
  s.keep (KeepF.of_below hb) (s.dk.below hb)

/-- half of what the heads leave -/
def halfOf (D : Dsk) : Nat := (D.kept.length - 2) / 2
set_option maxHeartbeats 1000000 in
theorem Len_calls (B K M : Nat) (D : Dsk) (w : World) (h : IsDisk w B K M D) : Calls Tryd.prog 34 #[.pointer (some ⟨B, 0, none⟩)] w fun e w' => e = .returned (.int .i64 D.kept.length) ∧ w = w' := by
  have c0 := h.c0
  obtain ⟨n, hn⟩ : ∃ n, D.kept.length = n := ⟨_, rfl⟩
  rw [hn] at c0 ⊢
  clear hn h
  go_enter Tryd.func34, Tryd.ntmps34
  go_wp2
  go_ret
  exact ⟨rfl, rfl⟩
set_option maxHeartbeats 1000000 in
theorem half_calls (B K M : Nat) (D : Dsk) (w : World) (h : IsDisk w B K M D) (h2 : 2 ≤ D.kept.length) : Calls Tryd.prog 43 #[.pointer (some ⟨B, 0, none⟩)] w fun e w' => e = .returned (.int .i64 (halfOf D)) ∧ w = w' := by
  have H := Aside0.mk h
  have hf := h.few
  have hh : Aside0 (((halfOf D : Nat) : Int) = ((D.kept.length : Int) - 2) / 2) := ⟨by unfold halfOf; omega⟩
  obtain ⟨n, hn⟩ : ∃ n, D.kept.length = n := ⟨_, rfl⟩
  rw [hn] at hf hh h2
  have hn2 : (2 : Int) ≤ n := by omega
  clear h
  go_enter Tryd.func43, Tryd.ntmps43
  go_wp2_with fail
  refine (Len_calls B K M D w H.out).mono ?_
  rintro e w' ⟨rfl, rfl⟩
  rw [hn]
  replace hn := Aside0.mk hn
  go_wp2_with fail
  go_ret
  exact ⟨by rw [hh.out]; rfl, rfl⟩
theorem half_le {w : World} {B K M : Nat} {D : Dsk} (h : IsDisk w B K M D) : halfOf D ≤ 255 := by have := h.few; unfold halfOf; omega

set_option maxHeartbeats 1000000 in
theorem from_calls (B K M : Nat) (D : Dsk) (slot : Nat) (w : World) (h : IsDisk w B K M D) (h2 : 2 ≤ D.kept.length) (hs : slot ≤ 1) :
    Calls Tryd.prog 37 #[.pointer (some ⟨B, 0, none⟩), .int .i64 slot] w fun e w' => e = .returned (.int .i64 ((2 + slot * halfOf D : Nat) : Int)) ∧ w = w' := by
  have H := Aside0.mk h
  have hl := half_le h
  have hv : ((2 + slot * halfOf D : Nat) : Int) = 2 + (slot : Int) * (halfOf D : Int) := by rw [Int.natCast_add, Int.natCast_mul]; rfl
  rw [hv]
  have hm : 0 ≤ (slot : Int) * (halfOf D : Int) ∧ (slot : Int) * (halfOf D : Int) ≤ 255 := by
    rcases (by omega : slot = 0 ∨ slot = 1) with rfl | rfl
    · rw [show ((0 : Nat) : Int) = 0 from rfl, Int.zero_mul]; omega
    · rw [show ((1 : Nat) : Int) = 1 from rfl, Int.one_mul]; omega
  clear h hv
  go_enter Tryd.func37, Tryd.ntmps37
  go_wp2_with fail
  refine (half_calls B K M D w H.out h2).mono ?_
  rintro e w' ⟨rfl, rfl⟩
  obtain ⟨q, hq⟩ : ∃ q, (slot : Int) * (halfOf D : Int) = q := ⟨_, rfl⟩
  rw [hq] at hm
  obtain ⟨hm0, hm1⟩ := hm
  have hqw : IntKind.i64.wrap ((slot : Int) * (halfOf D : Int)) = q := by rw [hq, IntKind.wrap_i64]; omega
  go_wp2_with fail
  go_ret
  exact ⟨by rw [hq]; rfl, rfl⟩

theorem Sto.cells {w : World} {S B K M : Nat} {D : Dsk} {h : Hd} (s : Sto w S B K M D h) : ∃ A c, w.cell? ⟨S, 0, none⟩ = some (.int .i64 h.age) ∧ w.cell? ⟨S, 1, none⟩ = some (.bool h.has) ∧ w.cell? ⟨S, 2, none⟩ = some (.slice A h.img.length c) ∧ w.cell? ⟨S, 3, none⟩ = some (.pointer (some ⟨B, 0, none⟩)) ∧
    h.img.length ≤ c ∧ (Kd.int .u8).C w A h.img.length h.img ∧ (∀ ad, A = some ad → ¬ FS S B K M ad.block) := by
  obtain ⟨A, c, h1, h2, h3, h4⟩ := s.st
  exact ⟨A, c, (cell_row h1 0).trans rfl, (cell_row h1 1).trans rfl, (cell_row h1 2).trans rfl, (cell_row h1 3).trans rfl, h2, h3, h4⟩

set_option maxHeartbeats 1000000 in
theorem Age_calls (S B K M : Nat) (D : Dsk) (h : Hd) (w : World) (s : Sto w S B K M D h) : Calls Tryd.prog 13 #[.pointer (some ⟨S, 0, none⟩)] w fun e w' => e = .returned (.int .i64 h.age) ∧ w = w' := by
  obtain ⟨A, c, c0, _⟩ := s.cells
  clear s
  obtain ⟨a, ha⟩ : ∃ a, h.age = a := ⟨_, rfl⟩
  rw [ha] at c0 ⊢
  clear ha
  go_enter Tryd.func13, Tryd.ntmps13
  go_wp2
  go_ret
  exact ⟨rfl, rfl⟩
set_option maxHeartbeats 1000000 in
theorem Room_calls (S B K M : Nat) (D : Dsk) (h : Hd) (w : World) (s : Sto w S B K M D h) (h2 : 2 ≤ D.kept.length) : Calls Tryd.prog 19 #[.pointer (some ⟨S, 0, none⟩)] w fun e w' => e = .returned (.int .i64 ((64 * halfOf D : Nat) : Int)) ∧ w = w' := by
  obtain ⟨A, c, _, _, _, c3, _⟩ := s.cells
  have hl := half_le s.dk
  have H := Aside0.mk s.dk
  clear s
  rw [show ((64 * halfOf D : Nat) : Int) = 64 * (halfOf D : Int) by omega]
  go_enter Tryd.func19, Tryd.ntmps19
  go_wp2_with fail
  refine (half_calls B K M D w H.out h2).mono ?_
  rintro e w' ⟨rfl, rfl⟩
  go_wp2_with fail
  go_ret
  exact ⟨rfl, rfl⟩

def ImagePost (h : Hd) (w : World) (e : Ending) (w' : World) : Prop :=
  ∃ v, e = .returned (.tuple #[v, .bool h.has]) ∧ w'.ownsRow w.heap.size 5 1 v h.img.length (byt h.img) ∧ Below w.heap.size w w'
set_option maxHeartbeats 4000000 in
theorem Image_calls (S B K M : Nat) (D : Dsk) (h : Hd) (w : World) (s : Sto w S B K M D h) : Calls Tryd.prog 17 #[.pointer (some ⟨S, 0, none⟩)] w (ImagePost h w) := by
  obtain ⟨A, c, _, c1, c2, _, _, hC, _⟩ := s.cells
  have hn := s.ok.n
  clear s
  unfold ImagePost
  obtain ⟨a, ha⟩ : ∃ a, h.has = a := ⟨_, rfl⟩
  obtain ⟨img, him⟩ : ∃ img, h.img = img := ⟨_, rfl⟩
  rw [ha] at c1 ⊢
  rw [him] at c2 hC hn ⊢
  obtain ⟨n, hnl⟩ : ∃ n, img.length = n := ⟨_, rfl⟩
  rw [hnl] at c2 hC hn ⊢
  replace hC := Aside0.mk hC
  clear ha him hnl
  go_enter Tryd.func17, Tryd.ntmps17
  go_wp2_with fail
  go_region_held3 (fun w' => w'.cell? ⟨S, 1, none⟩ = some (.bool a) ∧ w'.cell? ⟨S, 2, none⟩ = some (.slice A n c)) (first | go_keep | exact ⟨pw_cell_below hb c1, pw_cell_below hb c2⟩)
    ((go_at_call 36; refine (Clone_calls A n c img w.drew hC.out (by omega)).mono ?_; rintro e w1 ⟨v, rfl, ho, _, hb⟩))
  all_goals (
    go_wp2_with fail
    go_ret2
    exact ⟨v, rfl, ho, ⟨hb.os, hb.tape, hb.output, hb.size, hb.block⟩⟩)
end Go.Proofs.YtiibfboendnifaaDoor.Sl
