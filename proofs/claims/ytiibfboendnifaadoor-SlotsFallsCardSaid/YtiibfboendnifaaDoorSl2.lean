/- A store of package slots in memory; its small calls. seal of package slots: a head is written, kept, and the store's. Commit and Delete of package slots. read of package slots: the first bytes of a slot. told of package slots: what a head's sector tells. Open of package slots. -/
import Derived.Test.YtiibfboendnifaaDoorSl1
import Derived.Test.YtiibfboendnifaaDoorDkW
import Derived.Test.YtiibfboendnifaaDoorDk1
import Derived.Deep.RegionHeld3
import Derived.Deep.DrawnRows
import Derived.Laws.ResultCell
import Derived.Test.YtiibfboendnifaaDoorAz
namespace Go.Proofs.YtiibfboendnifaaDoor.Sl
set_option linter.unusedVariables false
set_option linter.unusedSimpArgs false
open Go.RowKit Go.Proofs.Bk Go.Proofs.Bm Go.Proofs.YtiibfboendnifaaDoor.Dk Go.Proofs.YtiibfboendnifaaDoorW.PrintWords

/-- the blocks that a store's calls write -/
def FS (S B K M : Nat) : Nat → Prop := fun k => FD B K M k ∨ k = S
structure Sto (w : World) (S B K M : Nat) (D : Dsk) (h : Hd) : Prop where
  dk : IsDisk w B K M D
  st : ∃ A c, w.heap[S]? = some (.cells #[.int .i64 h.age, .bool h.has, .slice A h.img.length c, .pointer (some ⟨B, 0, none⟩)] 74 (0, 0)) ∧ h.img.length ≤ c ∧ (Kd.int .u8).C w A h.img.length h.img ∧ (∀ ad, A = some ad → ¬ FS S B K M ad.block)
  sf : ¬ FD B K M S
  ok : h.Ok
  nz : ¬ FS S B K M 0
theorem Sto.keep {w w' : World} {S B K M : Nat} {D D' : Dsk} {h : Hd} (s : Sto w S B K M D h) (hk : KeepF (FD B K M) w w') (hd : IsDisk w' B K M D') : Sto w' S B K M D' h := by
  obtain ⟨A, c, h1, h2, h3, h4⟩ := s.st
  exact ⟨hd, ⟨A, c, (hk.block S (Array.getElem?_eq_some_iff.1 h1).1 s.sf).trans h1, h2, Kd_C_keep h3 (fun ad e _ hf => h4 ad e (.inl hf)) hk, h4⟩, s.sf, s.ok, s.nz⟩
theorem Sto.below {w w' : World} {S B K M : Nat} {D : Dsk} {h : Hd} (s : Sto w S B K M D h) (hb : Below w.heap.size w w') : Sto w' S B K M D h :=
  s.keep (KeepF.of_below hb) (s.dk.below hb)

/-- half of what the heads leave -/
def halfOf (D : Dsk) : Nat := (D.kept.length - 2) / 2
set_option maxHeartbeats 1000000 in
theorem Len_calls (B K M : Nat) (D : Dsk) (w : World) (h : IsDisk w B K M D) : Calls Tryd.prog 34 #[.pointer (some ⟨B, 0, none⟩)] w fun e w' => e = .returned (.int .i64 D.kept.length) ∧ w = w' := by
  have c0 := h.c0
  obtain ⟨n, hn⟩ : ∃ n, D.kept.length = n := ⟨_, rfl⟩
  rw [hn] at c0 ⊢
  clear hn h
  go_enter Tryd.func34, Tryd.ntmps34
  go_wp2
  go_ret
  exact ⟨rfl, rfl⟩
set_option maxHeartbeats 1000000 in
theorem half_calls (B K M : Nat) (D : Dsk) (w : World) (h : IsDisk w B K M D) (h2 : 2 ≤ D.kept.length) : Calls Tryd.prog 43 #[.pointer (some ⟨B, 0, none⟩)] w fun e w' => e = .returned (.int .i64 (halfOf D)) ∧ w = w' := by
  have H := Aside0.mk h
  have hf := h.few
  have hh : Aside0 (((halfOf D : Nat) : Int) = ((D.kept.length : Int) - 2) / 2) := ⟨by unfold halfOf; omega⟩
  obtain ⟨n, hn⟩ : ∃ n, D.kept.length = n := ⟨_, rfl⟩
  rw [hn] at hf hh h2
  have hn2 : (2 : Int) ≤ n := by omega
  clear h
  go_enter Tryd.func43, Tryd.ntmps43
  go_wp2_with fail
  refine (Len_calls B K M D w H.out).mono ?_
  rintro e w' ⟨rfl, rfl⟩
  rw [hn]
  replace hn := Aside0.mk hn
  go_wp2_with fail
  go_ret
  exact ⟨by rw [hh.out]; rfl, rfl⟩
theorem half_le {w : World} {B K M : Nat} {D : Dsk} (h : IsDisk w B K M D) : halfOf D ≤ 255 := by have := h.few; unfold halfOf; omega

set_option maxHeartbeats 1000000 in
theorem from_calls (B K M : Nat) (D : Dsk) (slot : Nat) (w : World) (h : IsDisk w B K M D) (h2 : 2 ≤ D.kept.length) (hs : slot ≤ 1) :
    Calls Tryd.prog 37 #[.pointer (some ⟨B, 0, none⟩), .int .i64 slot] w fun e w' => e = .returned (.int .i64 ((2 + slot * halfOf D : Nat) : Int)) ∧ w = w' := by
  have H := Aside0.mk h
  have hl := half_le h
  have hv : ((2 + slot * halfOf D : Nat) : Int) = 2 + (slot : Int) * (halfOf D : Int) := by rw [Int.natCast_add, Int.natCast_mul]; rfl
  rw [hv]
  have hm : 0 ≤ (slot : Int) * (halfOf D : Int) ∧ (slot : Int) * (halfOf D : Int) ≤ 255 := by
    rcases (by omega : slot = 0 ∨ slot = 1) with rfl | rfl
    · rw [show ((0 : Nat) : Int) = 0 from rfl, Int.zero_mul]; omega
    · rw [show ((1 : Nat) : Int) = 1 from rfl, Int.one_mul]; omega
  clear h hv
  go_enter Tryd.func37, Tryd.ntmps37
  go_wp2_with fail
  refine (half_calls B K M D w H.out h2).mono ?_
  rintro e w' ⟨rfl, rfl⟩
  obtain ⟨q, hq⟩ : ∃ q, (slot : Int) * (halfOf D : Int) = q := ⟨_, rfl⟩
  rw [hq] at hm
  obtain ⟨hm0, hm1⟩ := hm
  have hqw : IntKind.i64.wrap ((slot : Int) * (halfOf D : Int)) = q := by rw [hq, IntKind.wrap_i64]; omega
  go_wp2_with fail
  go_ret
  exact ⟨by rw [hq]; rfl, rfl⟩

theorem Sto.cells {w : World} {S B K M : Nat} {D : Dsk} {h : Hd} (s : Sto w S B K M D h) : ∃ A c, w.cell? ⟨S, 0, none⟩ = some (.int .i64 h.age) ∧ w.cell? ⟨S, 1, none⟩ = some (.bool h.has) ∧ w.cell? ⟨S, 2, none⟩ = some (.slice A h.img.length c) ∧ w.cell? ⟨S, 3, none⟩ = some (.pointer (some ⟨B, 0, none⟩)) ∧
    h.img.length ≤ c ∧ (Kd.int .u8).C w A h.img.length h.img ∧ (∀ ad, A = some ad → ¬ FS S B K M ad.block) := by
  obtain ⟨A, c, h1, h2, h3, h4⟩ := s.st
  exact ⟨A, c, (cell_row h1 0).trans rfl, (cell_row h1 1).trans rfl, (cell_row h1 2).trans rfl, (cell_row h1 3).trans rfl, h2, h3, h4⟩

set_option maxHeartbeats 1000000 in
theorem Age_calls (S B K M : Nat) (D : Dsk) (h : Hd) (w : World) (s : Sto w S B K M D h) : Calls Tryd.prog 13 #[.pointer (some ⟨S, 0, none⟩)] w fun e w' => e = .returned (.int .i64 h.age) ∧ w = w' := by
  obtain ⟨A, c, c0, _⟩ := s.cells
  clear s
  obtain ⟨a, ha⟩ : ∃ a, h.age = a := ⟨_, rfl⟩
  rw [ha] at c0 ⊢
  clear ha
  go_enter Tryd.func13, Tryd.ntmps13
  go_wp2
  go_ret
  exact ⟨rfl, rfl⟩
set_option maxHeartbeats 1000000 in
theorem Room_calls (S B K M : Nat) (D : Dsk) (h : Hd) (w : World) (s : Sto w S B K M D h) (h2 : 2 ≤ D.kept.length) : Calls Tryd.prog 19 #[.pointer (some ⟨S, 0, none⟩)] w fun e w' => e = .returned (.int .i64 ((64 * halfOf D : Nat) : Int)) ∧ w = w' := by
  obtain ⟨A, c, _, _, _, c3, _⟩ := s.cells
  have hl := half_le s.dk
  have H := Aside0.mk s.dk
  clear s
  rw [show ((64 * halfOf D : Nat) : Int) = 64 * (halfOf D : Int) by omega]
  go_enter Tryd.func19, Tryd.ntmps19
  go_wp2_with fail
  refine (half_calls B K M D w H.out h2).mono ?_
  rintro e w' ⟨rfl, rfl⟩
  go_wp2_with fail
  go_ret
  exact ⟨rfl, rfl⟩

def ImagePost (h : Hd) (w : World) (e : Ending) (w' : World) : Prop :=
  ∃ v, e = .returned (.tuple #[v, .bool h.has]) ∧ w'.ownsRow w.heap.size 5 1 v h.img.length (byt h.img) ∧ Below w.heap.size w w'
set_option maxHeartbeats 4000000 in
theorem Image_calls (S B K M : Nat) (D : Dsk) (h : Hd) (w : World) (s : Sto w S B K M D h) : Calls Tryd.prog 17 #[.pointer (some ⟨S, 0, none⟩)] w (ImagePost h w) := by
  obtain ⟨A, c, _, c1, c2, _, _, hC, _⟩ := s.cells
  have hn := s.ok.n
  clear s
  unfold ImagePost
  obtain ⟨a, ha⟩ : ∃ a, h.has = a := ⟨_, rfl⟩
  obtain ⟨img, him⟩ : ∃ img, h.img = img := ⟨_, rfl⟩
  rw [ha] at c1 ⊢
  rw [him] at c2 hC hn ⊢
  obtain ⟨n, hnl⟩ : ∃ n, img.length = n := ⟨_, rfl⟩
  rw [hnl] at c2 hC hn ⊢
  replace hC := Aside0.mk hC
  clear ha him hnl
  go_enter Tryd.func17, Tryd.ntmps17
  go_wp2_with fail
  go_region_held3 (fun w' => w'.cell? ⟨S, 1, none⟩ = some (.bool a) ∧ w'.cell? ⟨S, 2, none⟩ = some (.slice A n c)) (first | go_keep | exact ⟨pw_cell_below hb c1, pw_cell_below hb c2⟩)
    ((go_at_call 36; refine (Clone_calls A n c img w.drew hC.out (by omega)).mono ?_; rintro e w1 ⟨v, rfl, ho, _, hb⟩))
  all_goals (
    go_wp2_with fail
    go_ret2
    exact ⟨v, rfl, ho, ⟨hb.os, hb.tape, hb.output, hb.size, hb.block⟩⟩)
end Go.Proofs.YtiibfboendnifaaDoor.Sl
namespace Go.Proofs.YtiibfboendnifaaDoor.Sl
set_option linter.unusedVariables false
set_option linter.unusedSimpArgs false
open Go.RowKit Go.Proofs.Bk Go.Proofs.Bm Go.Proofs.YtiibfboendnifaaDoor.Dk Go.Proofs.YtiibfboendnifaaDoorW.PrintWords

def sealOf (D : Dsk) (h0 h : Hd) : Int × Dsk × Hd :=
  if D.wrErr (h.age % 2) h.put ≠ 0 then (D.wrErr (h.age % 2) h.put, D.wrt (h.age % 2) h.put, h0)
  else if (D.wrt (h.age % 2) h.put).flErr ≠ 0 then ((D.wrt (h.age % 2) h.put).flErr, (D.wrt (h.age % 2) h.put).fl, h0)
  else (0, (D.wrt (h.age % 2) h.put).fl, h)
def SealPost (S B K M : Nat) (D : Dsk) (h0 h : Hd) (w : World) (e : Ending) (w' : World) : Prop :=
  e = .returned (.int .i64 (sealOf D h0 h).1) ∧ Sto w' S B K M (sealOf D h0 h).2.1 (sealOf D h0 h).2.2 ∧ KeepF (FS S B K M) w w'
theorem keepF_fs {w w' : World} {S B K M : Nat} (h : KeepF (FD B K M) w w') : KeepF (FS S B K M) w w' := h.mono (fun _ hi => .inl hi)
theorem own_cf {w : World} {base n : Nat} {v : Value} {xs : List Int} {F : Nat → Prop} (h : w.ownsRow base 5 1 v n (byt xs)) (hn : xs.length = n) (hF : ∀ k, base ≤ k → ¬ F k) : ∃ A c, v = .slice A n c ∧ CF F .u8 w A n xs := by
  obtain ⟨A, c, rfl, hC⟩ := bytes_of_row h hn
  exact ⟨A, c, rfl, hC, fun ad e _ => hF _ (own_base h _ (by rw [e]; rfl))⟩
theorem Sto.fresh {w : World} {S B K M : Nat} {D : Dsk} {h : Hd} (s : Sto w S B K M D h) : ∀ k, w.heap.size ≤ k → ¬ FS S B K M k := by
  intro k hk hf
  have := s.dk.lts
  obtain ⟨A, c, h1, _⟩ := s.st
  have := (Array.getElem?_eq_some_iff.1 h1).1
  rcases hf with hf | hf
  · unfold FD at hf; omega
  · omega

theorem keepF_cell {F : Nat → Prop} {w w' : World} (h : KeepF F w w') {a : Addr} {v : Value} (hc : w.cell? a = some v) (hn : ¬ F a.block) : w'.cell? a = some v :=
  (World.cell?_of_block (w := w) (h.block _ (World.block_lt_of_cell? w _ hc) hn)).trans hc
theorem below_undrew {w w' : World} (h : Below w.drew.heap.size w.drew w') : Below w.heap.size w w' := ⟨h.os, h.tape, h.output, h.size, h.block⟩
/-- the store's head is another one -/
theorem Sto.setHead {w : World} {S B K M : Nat} {D : Dsk} {h0 : Hd} (s : Sto w S B K M D h0) (h : Hd) (A : Option Addr) (c : Nat) (ho : h.Ok) (hc : h.img.length ≤ c) (hC : (Kd.int .u8).C w A h.img.length h.img) (hf : ∀ ad, A = some ad → ¬ FS S B K M ad.block) :
    ∃ cur : List Value, w.heap[S]? = some (.cells cur.toArray 74 (0, 0)) ∧ cur.length = 4 ∧ Sto (w.setRow S (splice cur 0 (hdV h A c).toList).toArray) S B K M D h ∧ KeepF (fun i => i = S) w (w.setRow S (splice cur 0 (hdV h A c).toList).toArray) := by
  obtain ⟨A0, c0, h1, h2, h3, h4⟩ := s.st
  refine ⟨[.int .i64 h0.age, .bool h0.has, .slice A0 h0.img.length c0, .pointer (some ⟨B, 0, none⟩)], h1, rfl, ?_, KeepF.setRow _ _ _⟩
  have hk := KeepF.setRow w S (splice [.int .i64 h0.age, .bool h0.has, .slice A0 h0.img.length c0, .pointer (some ⟨B, 0, none⟩)] 0 (hdV h A c).toList).toArray
  refine ⟨s.dk.of_keep hk (fun e => s.sf (.inl e.symm)) (fun e => s.sf (.inr (.inl e.symm))) (fun e => s.sf (.inr (.inr e.symm))), ⟨A, c, setRow_heap _ _ _ _ _ _ h1, hc, Kd_C_keep hC (fun ad e _ he => hf ad e (.inr he)) hk, hf⟩, s.sf, ho, s.nz⟩

set_option maxHeartbeats 8000000 in
set_option maxRecDepth 100000 in
theorem seal_calls (S B K M : Nat) (D : Dsk) (h0 h : Hd) (A : Option Addr) (c : Nat) (w : World) (hT : Tab w) (s : Sto w S B K M D h0) (ho : h.Ok) (hc : h.img.length ≤ c) (hC : (Kd.int .u8).C w A h.img.length h.img) (hf : ∀ ad, A = some ad → ¬ FS S B K M ad.block) :
    Calls Tryd.prog 40 #[.pointer (some ⟨S, 0, none⟩), .agg (hdV h A c)] w (SealPost S B K M D h0 h w) := by
  have hbA := below_alloc (Below.refl w.heap.size w) (.cells (hdV h A c) 72)
  have s1 := s.below hbA
  have hT1 := hT.step hbA
  have hC1 := Kd.C_below hC hbA
  have a0 := ho.a0
  obtain ⟨_, _, _, _, _, c3, _⟩ := s1.cells
  have x0 : (w.alloc (.cells (hdV h A c) 72)).cell? ⟨w.heap.size, 0, none⟩ = some (.int .i64 h.age) := by rw [cell_row (heap_alloc_same w _)]; rfl
  have x1 : (w.alloc (.cells (hdV h A c) 72)).cell? ⟨w.heap.size, 1, none⟩ = some (.bool h.has) := by rw [cell_row (heap_alloc_same w _)]; rfl
  have x2 : (w.alloc (.cells (hdV h A c) 72)).cell? ⟨w.heap.size, 2, none⟩ = some (.slice A h.img.length c) := by rw [cell_row (heap_alloc_same w _)]; rfl
  obtain ⟨WA, hWA⟩ : ∃ WA, WA = w.alloc (.cells (hdV h A c) 72) := ⟨_, rfl⟩
  rw [← hWA] at hbA s1 hT1 hC1 c3 x0 x1 x2
  have hw0 : w.heap.size < WA.heap.size := by rw [hWA]; simp
  have hV : hdV h A c = #[.int .i64 h.age, .bool h.has, .slice A h.img.length c] := rfl
  obtain ⟨age, hage⟩ : ∃ age, h.age = age := ⟨_, rfl⟩
  obtain ⟨has, hhas⟩ : ∃ has, h.has = has := ⟨_, rfl⟩
  obtain ⟨n, hnl⟩ : ∃ n, h.img.length = n := ⟨_, rfl⟩
  rw [hage] at x0 a0 hV
  rw [hhas] at x1 hV
  rw [hnl] at x2 hV
  have hput := fun W (hTW : Tab W) (hCW : (Kd.int .u8).C W A h.img.length h.img) => put_calls h A c W hTW ho hCW
  rw [hV] at hWA ⊢
  simp only [hV] at hput
  replace hWA := hWA.symm
  replace hput := Aside0.mk hput; replace hbA := Aside0.mk hbA; replace s1 := Aside0.mk s1; replace hT1 := Aside0.mk hT1; replace hC1 := Aside0.mk hC1; replace hC := Aside0.mk hC; replace s := Aside0.mk s; replace hT := Aside0.mk hT; replace ho := Aside0.mk ho; replace hc := Aside0.mk hc; replace hf := Aside0.mk hf; replace hage := Aside0.mk hage; replace hhas := Aside0.mk hhas; replace hnl := Aside0.mk hnl; replace hV := Aside0.mk hV
  go_enter Tryd.func40, Tryd.ntmps40
  go_wp2_with fail
  try rw [hWA]
  replace hWA := Aside0.mk hWA
  have nS := s1.out.sf
  have nH : ¬ FD B K M w.heap.size := fun hF => s.out.fresh _ (Nat.le_refl _) (.inl hF)
  have nN : ∀ k, WA.drew.heap.size ≤ k → ¬ FD B K M k := fun k hk hF => s1.out.fresh k hk (.inl hF)
  have htm := Int.tmod_eq_emod_of_nonneg (b := 2) a0
  replace nS := Aside0.mk nS; replace nH := Aside0.mk nH; replace nN := Aside0.mk nN; replace htm := Aside0.mk htm
  go_region_held3 (fun w' => w'.cell? ⟨S, 3, none⟩ = some (.pointer (some ⟨B, 0, none⟩)) ∧ w'.cell? ⟨w.heap.size, 0, none⟩ = some (.int .i64 age) ∧ w'.cell? ⟨w.heap.size, 1, none⟩ = some (.bool has) ∧ w'.cell? ⟨w.heap.size, 2, none⟩ = some (.slice A n c))
    (first | go_keep | exact ⟨pw_cell_below hb c3, pw_cell_below hb x0, pw_cell_below hb x1, pw_cell_below hb x2⟩ | exact ⟨keepF_cell hk2.out (pw_cell_below hb.out c3) nS.out, keepF_cell hk2.out (pw_cell_below hb.out x0) nH.out, keepF_cell hk2.out (pw_cell_below hb.out x1) nH.out, keepF_cell hk2.out (pw_cell_below hb.out x2) nH.out⟩)
    (first
      | (go_at_call 60; refine (hput.out WA.drew hT1.out hC1.out).mono ?_; rintro e w1 ⟨v, rfl, hv, hb⟩; replace hb := below_undrew hb; obtain ⟨A5, c5, rfl, hcf⟩ := own_cf (F := FD B K M) hv (Hd.put_length h) nN.out)
      | (go_at_call 38; rw [htm.out]; refine (Write_calls B K M D (age % 2) A5 25 c5 h.put w1 (s1.out.dk.below hb) hcf (Hd.put_range h)).mono ?_; rintro e w2 ⟨rfl, hd2, hk2⟩; replace hd2 := Aside0.mk hd2; replace hk2 := Aside0.mk hk2; replace hb := Aside0.mk hb))
  have s2 := (s1.out.below hb.out).keep hk2.out hd2.out
  have k2 : KeepF (FS S B K M) w w2 := (KeepF.of_below (F := FS S B K M) (below_step hbA.out hb.out)).trans hk2.out (fun _ _ h => .inl h)
  have y3 := keepF_cell hk2.out (pw_cell_below hb.out c3) nS.out
  have y0 := keepF_cell hk2.out (pw_cell_below hb.out x0) nH.out
  have y1 := keepF_cell hk2.out (pw_cell_below hb.out x1) nH.out
  have y2 := keepF_cell hk2.out (pw_cell_below hb.out x2) nH.out
  have hC2 := Kd_C_keep (Kd.C_below hC1.out hb.out) (fun ad e _ hF => hf.out ad e (.inl hF)) hk2.out
  have hso : sealOf D h0 h = if D.wrErr (age % 2) h.put ≠ 0 then (D.wrErr (age % 2) h.put, D.wrt (age % 2) h.put, h0) else if (D.wrt (age % 2) h.put).flErr ≠ 0 then ((D.wrt (age % 2) h.put).flErr, (D.wrt (age % 2) h.put).fl, h0) else (0, (D.wrt (age % 2) h.put).fl, h) := by unfold sealOf; rw [hage.out]
  obtain ⟨q, hq⟩ : ∃ q, D.wrErr (age % 2) h.put = q := ⟨_, rfl⟩
  obtain ⟨D1, hD1⟩ : ∃ D1, D.wrt (age % 2) h.put = D1 := ⟨_, rfl⟩
  rw [hq, hD1] at hso
  rw [hD1] at hd2 s2
  rw [hq]
  clear hq hD1 c3 x0 x1 x2 hk2 hb hC1 hcf hv
  by_cases hq0 : q = 0
  · subst hq0
    rw [if_neg (by simp)] at hso
    replace s2 := Aside0.mk s2; replace k2 := Aside0.mk k2; replace hC2 := Aside0.mk hC2; replace hso := Aside0.mk hso
    go_wp2_with fail
    refine (Flush_calls B K M D1 _ hd2.out).mono ?_
    rintro e w3 ⟨rfl, hd3, hk3⟩
    have s3 := s2.out.keep hk3 hd3
    have k3 := k2.out.trans hk3 (fun _ _ h => .inl h)
    have z0 := keepF_cell hk3 y0 nH.out
    have z1 := keepF_cell hk3 y1 nH.out
    have z2 := keepF_cell hk3 y2 nH.out
    have hC3 := Kd_C_keep hC2.out (fun ad e _ hF => hf.out ad e (.inl hF)) hk3
    obtain ⟨p, hp⟩ : ∃ p, D1.flErr = p := ⟨_, rfl⟩
    replace hso := hso.out
    rw [hp] at hso ⊢
    clear y0 y1 y2 y3 hp
    by_cases hp0 : p = 0
    · subst hp0
      rw [if_neg (by simp)] at hso
      obtain ⟨cur, hcu, hcl, s4, k4⟩ := s3.setHead h A c ho.out hc.out hC3 hf.out
      rw [hV.out] at s4 k4
      have k5 := k3.trans k4 (fun _ _ h => .inr h)
      replace hcu := Aside0.mk hcu; replace hcl := Aside0.mk hcl; replace s3 := Aside0.mk s3; replace k3 := Aside0.mk k3; replace hC3 := Aside0.mk hC3; replace s4 := Aside0.mk s4; replace k4 := Aside0.mk k4; replace k5 := Aside0.mk k5; replace hso := Aside0.mk hso; replace hd3 := Aside0.mk hd3; replace hk3 := Aside0.mk hk3
      have hq1 : (Tryd.prog.info? 72).map (·.size) = some ([Value.int .i64 age, Value.bool has, Value.slice A n c] : List Value).length := by kernel_rfl
      have hq3 : ∀ v ∈ ([Value.int .i64 age, Value.bool has, Value.slice A n c] : List Value), v.oneCell' = true := by intro v hv; simp at hv; rcases hv with e | e | e <;> rw [e] <;> rfl
      have hq2 : 0 + ([Value.int .i64 age, Value.bool has, Value.slice A n c] : List Value).length ≤ cur.length := by rw [hcl.out]; show 0 + 3 ≤ 4; omega
      replace hq1 := Aside0.mk hq1; replace hq2 := Aside0.mk hq2; replace hq3 := Aside0.mk hq3
      go_wp2_with ((with_reducible refine gate_op (.store 72 (.tmp 31) (.tmp 29)) rfl ?_); refine wpList_store_midB rfl _ _ _ rfl S 0 [.int .i64 age, .bool has, .slice A n c] rfl rfl 74 cur hcu.out hq1.out hq2.out hq3.out ?_)
      go_ret
      unfold SealPost
      rw [hso.out]
      exact ⟨rfl, s4.out, k5.out⟩
    · rw [if_pos (by simpa using hp0)] at hso
      have hp0' : (p != 0) = true := by simpa using hp0
      clear hp0
      replace s3 := Aside0.mk s3; replace k3 := Aside0.mk k3; replace hC3 := Aside0.mk hC3; replace hso := Aside0.mk hso; replace hd3 := Aside0.mk hd3; replace hk3 := Aside0.mk hk3
      go_wp2_with fail
      go_ret
      unfold SealPost
      rw [hso.out]
      exact ⟨rfl, s3.out, k3.out⟩
  · rw [if_pos (by simpa using hq0)] at hso
    have hq0' : (q != 0) = true := by simpa using hq0
    clear hq0
    replace s2 := Aside0.mk s2; replace k2 := Aside0.mk k2; replace hC2 := Aside0.mk hC2; replace hso := Aside0.mk hso
    go_wp2_with fail
    go_ret
    unfold SealPost
    rw [hso.out]
    exact ⟨rfl, s2.out, k2.out⟩
end Go.Proofs.YtiibfboendnifaaDoor.Sl
namespace Go.Proofs.YtiibfboendnifaaDoor.Sl
set_option linter.unusedVariables false
set_option linter.unusedSimpArgs false
attribute [local go_sem] Go.Proofs.YtiibfboendnifaaDoorW.PrintMore.max2_int Go.Proofs.YtiibfboendnifaaDoorW.PrintMore.min2_int Go.Proofs.YtiibfboendnifaaDoorW.PrintMore.max_two Go.Proofs.YtiibfboendnifaaDoorW.PrintMore.min_two
open Go.RowKit Go.Proofs.Bk Go.Proofs.Bm Go.Proofs.YtiibfboendnifaaDoor.Dk Go.Proofs.YtiibfboendnifaaDoorW.PrintWords

/-- an image's sectors are written, one behind another -/
def wrs : Nat → Dsk → Int → List Int → Int × Dsk
  | 0, D, _, _ => (0, D)
  | k + 1, D, i, rest => if rest = [] then (0, D) else if D.wrErr i (rest.take 64) ≠ 0 then (D.wrErr i (rest.take 64), D.wrt i (rest.take 64)) else wrs k (D.wrt i (rest.take 64)) (i + 1) (rest.drop 64)
def fromOf (D : Dsk) (slot : Nat) : Nat := 2 + slot * halfOf D
def commitOf (D : Dsk) (h0 : Hd) (img : List Int) : Int × Dsk × Hd :=
  if img.length > 64 * halfOf D then (22, D, h0)
  else if h0.age = 1099511627776 then (6, D, h0)
  else
    let r := wrs img.length D (fromOf D ((h0.age + 1) % 2).toNat) img
    if r.1 ≠ 0 then (r.1, r.2, h0)
    else if r.2.flErr ≠ 0 then (r.2.flErr, r.2.fl, h0)
    else sealOf r.2.fl h0 ⟨h0.age + 1, true, img⟩
def CommitPost (S B K M : Nat) (D : Dsk) (h0 : Hd) (img : List Int) (w : World) (e : Ending) (w' : World) : Prop :=
  e = .returned (.int .i64 (commitOf D h0 img).1) ∧ Sto w' S B K M (commitOf D h0 img).2.1 (commitOf D h0 img).2.2 ∧ KeepF (FS S B K M) w w'
def deleteOf (D : Dsk) (h0 : Hd) : Int × Dsk × Hd :=
  if h0.has = false then (8, D, h0) else if h0.age = 1099511627776 then (6, D, h0) else sealOf D h0 ⟨h0.age + 1, false, []⟩
def DeletePost (S B K M : Nat) (D : Dsk) (h0 : Hd) (w : World) (e : Ending) (w' : World) : Prop :=
  e = .returned (.int .i64 (deleteOf D h0).1) ∧ Sto w' S B K M (deleteOf D h0).2.1 (deleteOf D h0).2.2 ∧ KeepF (FS S B K M) w w'

set_option maxHeartbeats 8000000 in
set_option maxRecDepth 100000 in
theorem Delete_calls (S B K M : Nat) (D : Dsk) (h0 : Hd) (w : World) (hT : Tab w) (s : Sto w S B K M D h0) :
    Calls Tryd.prog 15 #[.pointer (some ⟨S, 0, none⟩)] w (DeletePost S B K M D h0 w) := by
  obtain ⟨A, c, c0, c1, c2, c3, _⟩ := s.cells
  have ha := s.ok.a0
  have ha1 := s.ok.a1
  have hd : deleteOf D h0 = if h0.has = false then (8, D, h0) else if h0.age = 1099511627776 then (6, D, h0) else sealOf D h0 ⟨h0.age + 1, false, []⟩ := rfl
  have hT := Aside0.mk hT
  have hok : h0.age ≠ 1099511627776 → Hd.Ok ⟨h0.age + 1, false, []⟩ := fun hne => ⟨by show 0 ≤ h0.age + 1; omega, by show h0.age + 1 ≤ 1099511627776; omega, by simp, by simp⟩
  have fin : ∀ q, deleteOf D h0 = (q, D, h0) → DeletePost S B K M D h0 w (.returned (.int .i64 q)) w := fun q he => by unfold DeletePost; rw [he]; exact ⟨rfl, s, KeepF.refl _ _⟩
  obtain ⟨has, hhas⟩ : ∃ x, h0.has = x := ⟨_, rfl⟩
  obtain ⟨age, hage⟩ : ∃ x, h0.age = x := ⟨_, rfl⟩
  rw [hhas] at c1 hd
  rw [hage] at c0 hd hok ha ha1
  cases has with
  | false =>
    rw [if_pos rfl] at hd
    replace fin := fin _ hd
    replace fin := Aside0.mk fin; replace hok := Aside0.mk hok; replace hd := Aside0.mk hd; replace s := Aside0.mk s; replace hhas := Aside0.mk hhas; replace hage := Aside0.mk hage
    go_enter Tryd.func15, Tryd.ntmps15
    go_wp2_with fail
    go_ret
    exact fin.out
  | true =>
    rw [if_neg (by decide)] at hd
    by_cases he : age = 1099511627776
    · rw [if_pos he] at hd
      replace fin := fin _ hd
      subst he
      replace fin := Aside0.mk fin; replace hok := Aside0.mk hok; replace hd := Aside0.mk hd; replace s := Aside0.mk s; replace hhas := Aside0.mk hhas; replace hage := Aside0.mk hage
      go_enter Tryd.func15, Tryd.ntmps15
      go_wp2_with fail
      go_ret
      exact fin.out
    · rw [if_neg he] at hd
      have he' : (age == 1099511627776) = false := by simpa using he
      replace hok := hok he
      replace fin := Aside0.mk fin; replace hok := Aside0.mk hok; replace hd := Aside0.mk hd; replace s := Aside0.mk s; replace hhas := Aside0.mk hhas; replace hage := Aside0.mk hage
      go_enter Tryd.func15, Tryd.ntmps15
      go_wp2_with fail
      refine (seal_calls S B K M D h0 ⟨age + 1, false, []⟩ none 0 w hT.out s.out hok.out (Nat.le_refl _) (Kd.C_nil _ _) (fun ad e => by cases e)).mono ?_
      rintro e w' ⟨rfl, h1, h2⟩
      replace h1 := Aside0.mk h1; replace h2 := Aside0.mk h2
      go_wp2_with fail
      go_ret
      unfold DeletePost
      rw [hd.out]
      exact ⟨rfl, h1.out, h2.out⟩

def slLen : Value → Nat | .slice _ n _ => n | _ => 0
theorem cf_take0 {F : Nat → Prop} {k : IntKind} {w : World} {A : Option Addr} {n : Nat} {xs : List Int} (h : CF F k w A n xs) (m : Nat) (hm : m ≤ n) : CF F k w A m (xs.take m) :=
  ⟨C_take0 h.c m hm, fun ad e hp => h.far ad e (by omega)⟩
theorem cf_drop0 {F : Nat → Prop} {k : IntKind} {w : World} {A : Option Addr} {n : Nat} {xs : List Int} (h : CF F k w A n xs) (m : Nat) (hm : m ≤ n) : CF F k w (A.map fun x => x.add m) (n - m) (xs.drop m) :=
  ⟨C_drop0 h.c m hm, fun ad e hp => by
    obtain ⟨a, ha, rfl⟩ := Option.map_eq_some_iff.1 e
    rw [add_blk]; exact h.far a ha (by omega)⟩
theorem cf_mono {F G : Nat → Prop} {k : IntKind} {w : World} {A : Option Addr} {n : Nat} {xs : List Int} (h : CF F k w A n xs) (hG : ∀ i, G i → F i) : CF G k w A n xs := ⟨h.c, fun ad e hp hg => h.far ad e hp (hG _ hg)⟩
theorem cf_none0 {F : Nat → Prop} {k : IntKind} {w : World} (A : Option Addr) : CF F k w A 0 [] := ⟨⟨rfl, by omega, fun h => absurd h (Nat.lt_irrefl _)⟩, fun ad e hp => absurd hp (Nat.lt_irrefl _)⟩
structure Boxed (w W : World) (g : Nat) (h : Hd) (A : Option Addr) (c : Nat) : Prop where
  bel : Below w.heap.size w W
  gl : w.heap.size ≤ g
  row : W.heap[g]? = some (.cells (hdV h A c) 72 (0, 0))
  hc : h.img.length ≤ c
  hC : (Kd.int .u8).C W A h.img.length h.img
  far : ∀ ad, A = some ad → w.heap.size ≤ ad.block ∧ ad.block ≠ g
theorem row_cap {w : World} {b n c : Nat} {A : Option Addr} {xs : List Value} (h : w.ownsRow b 5 1 (.slice A n c) n xs) : n ≤ c := by
  rcases h.2 with ⟨e, h0⟩ | ⟨g, cap, cur, e, _, _, h1, _⟩
  · omega
  · injection e with _ _ e3; omega
theorem Boxed.made {w w1 : World} {h : Hd} {A : Option Addr} {c b : Nat} (hb : Below w.heap.size w w1) (hbb : w.heap.size ≤ b) (ho : w1.ownsRow b 5 1 (.slice A h.img.length c) h.img.length (byt h.img)) :
    Boxed w (w1.alloc (.cells (hdV h A c) 72)) w1.heap.size h A c := by
  have hbA := below_alloc (Below.refl w1.heap.size w1) (.cells (hdV h A c) 72)
  obtain ⟨A', c', e, hC⟩ := bytes_of_row ho rfl
  injection e with e1 e2 e3
  subst e1
  exact ⟨below_step hb hbA, hb.size, heap_alloc_same _ _, row_cap ho, Kd.C_below hC hbA, fun ad e => by
    subst e
    have h1 := own_base ho ad.block rfl
    have h2 := own_lt ho ad.block rfl
    exact ⟨by omega, by omega⟩⟩
theorem Boxed.stored {w w1 : World} {h : Hd} {A : Option Addr} {c b : Nat} (hb : Below w.heap.size w w1) (hbb : w.heap.size < b) (ho : w1.ownsRow b 5 1 (.slice A h.img.length c) h.img.length (byt h.img)) {v0 v1 v2 : Value} (hr : w1.heap[w.heap.size]? = some (.cells #[v0, v1, v2] 72 (0, 0))) :
    Boxed w (((w1.setCell ⟨w.heap.size, 0, none⟩ (.int .i64 h.age)).setCell ⟨w.heap.size, 1, none⟩ (.bool h.has)).setCell ⟨w.heap.size, 2, none⟩ (.slice A h.img.length c)) w.heap.size h A c := by
  obtain ⟨A', c', e, hC⟩ := bytes_of_row ho rfl
  injection e with e1 e2 e3
  subst e1
  have k : KeepF (fun i => i = w.heap.size) w1 (((w1.setCell ⟨w.heap.size, 0, none⟩ (.int .i64 h.age)).setCell ⟨w.heap.size, 1, none⟩ (.bool h.has)).setCell ⟨w.heap.size, 2, none⟩ (.slice A h.img.length c)) :=
    ((KeepF.setCell w1 ⟨w.heap.size, 0, none⟩ _).trans (KeepF.setCell _ ⟨w.heap.size, 1, none⟩ _) (fun _ _ h => h)).trans (KeepF.setCell _ ⟨w.heap.size, 2, none⟩ _) (fun _ _ h => h)
  have hfar : ∀ ad, A = some ad → w.heap.size ≤ ad.block ∧ ad.block ≠ w.heap.size := fun ad e => by
    subst e
    have h1 := own_base ho ad.block rfl
    exact ⟨by omega, by omega⟩
  refine ⟨hb.trans (k.to_below hb.size (fun i hi => by omega)), Nat.le_refl _, ?_, row_cap ho, Kd_C_keep hC (fun ad e _ hF => (hfar ad e).2 hF) k, hfar⟩
  rw [heap_set_same (heap_set_same (heap_set_same hr 0 _) 1 _) 2 _]
  rfl
theorem cell_set3 {w : World} {g : Nat} {i j k : Nat} {u v z x : Value} {a : Addr} (h : a.block ≠ g) (hc : w.cell? a = some x) : (((w.setCell ⟨g, i, none⟩ u).setCell ⟨g, j, none⟩ v).setCell ⟨g, k, none⟩ z).cell? a = some x :=
  (World.cell?_of_block (w := w) ((Below.heap_setCell _ _ _ _ h).trans ((Below.heap_setCell _ _ _ _ h).trans (Below.heap_setCell _ _ _ _ h)))).trans hc
set_option maxHeartbeats 8000000 in
set_option maxRecDepth 100000 in
theorem Commit_calls (S B K M : Nat) (D : Dsk) (h0 : Hd) (A : Option Addr) (n c : Nat) (img : List Int) (w : World) (hT : Tab w) (s : Sto w S B K M D h0) (h4 : 4 ≤ D.kept.length) (hC : (Kd.int .u8).C w A n img) (hb : ∀ x ∈ img, 0 ≤ x ∧ x ≤ 255) :
    Calls Tryd.prog 14 #[.pointer (some ⟨S, 0, none⟩), .slice A n c] w (CommitPost S B K M D h0 img w) := by
  obtain ⟨A0, c0', x0, x1, x2, x3, _⟩ := s.cells
  have ha := s.ok.a0
  have ha1 := s.ok.a1
  have hl := half_le s.dk
  have hnl : img.length = n := hC.1
  have hd : commitOf D h0 img = if img.length > 64 * halfOf D then (22, D, h0) else if h0.age = 1099511627776 then (6, D, h0) else
    if (wrs img.length D (fromOf D ((h0.age + 1) % 2).toNat) img).1 ≠ 0 then ((wrs img.length D (fromOf D ((h0.age + 1) % 2).toNat) img).1, (wrs img.length D (fromOf D ((h0.age + 1) % 2).toNat) img).2, h0)
    else if (wrs img.length D (fromOf D ((h0.age + 1) % 2).toNat) img).2.flErr ≠ 0 then ((wrs img.length D (fromOf D ((h0.age + 1) % 2).toNat) img).2.flErr, (wrs img.length D (fromOf D ((h0.age + 1) % 2).toNat) img).2.fl, h0)
    else sealOf (wrs img.length D (fromOf D ((h0.age + 1) % 2).toNat) img).2.fl h0 ⟨h0.age + 1, true, img⟩ := rfl
  have fin : ∀ q, commitOf D h0 img = (q, D, h0) → CommitPost S B K M D h0 img w (.returned (.int .i64 q)) w := fun q he => by unfold CommitPost; rw [he]; exact ⟨rfl, s, KeepF.refl _ _⟩
  replace hT := Aside0.mk hT
  obtain ⟨age, hage⟩ : ∃ x, h0.age = x := ⟨_, rfl⟩
  rw [hage] at x0 hd ha ha1
  rw [hnl] at hd
  have h2 : 2 ≤ D.kept.length := by omega
  replace hage := Aside0.mk hage
  replace s := Aside0.mk s
  by_cases hlong : n > 64 * halfOf D
  · rw [if_pos hlong] at hd
    replace fin := fin _ hd
    have hz : ((64 * halfOf D : Nat) : Int) < (n : Int) := by omega
    replace fin := Aside0.mk fin; replace hd := Aside0.mk hd; replace h2 := Aside0.mk h2
    clear hlong
    go_enter Tryd.func14, Tryd.ntmps14
    go_wp2_with fail
    refine (Room_calls S B K M D h0 w s.out h2.out).mono ?_
    rintro e w' ⟨rfl, rfl⟩
    obtain ⟨z, hz2⟩ : ∃ z, 64 * halfOf D = z := ⟨_, rfl⟩
    rw [hz2] at hz ⊢
    go_wp2_with fail
    go_ret
    exact fin.out
  · rw [if_neg hlong] at hd
    have hz : ¬ ((64 * halfOf D : Nat) : Int) < (n : Int) := by omega
    by_cases he : age = 1099511627776
    · rw [if_pos he] at hd
      replace fin := fin _ hd
      subst he
      replace fin := Aside0.mk fin; replace hd := Aside0.mk hd; replace h2 := Aside0.mk h2
      clear hlong
      go_enter Tryd.func14, Tryd.ntmps14
      go_wp2_with fail
      refine (Room_calls S B K M D h0 w s.out h2.out).mono ?_
      rintro e w' ⟨rfl, rfl⟩
      obtain ⟨z, hz2⟩ : ∃ z, 64 * halfOf D = z := ⟨_, rfl⟩
      rw [hz2] at hz ⊢
      go_wp2_with fail
      go_ret
      exact fin.out
    · rw [if_neg he] at hd
      have he' : (age == 1099511627776) = false := by simpa using he
      have hn16 : n ≤ 16320 := by omega
      have hok : Hd.Ok ⟨age + 1, true, img⟩ := ⟨by show 0 ≤ age + 1; omega, by show age + 1 ≤ 1099511627776; omega, hb, by show img.length ≤ _; omega⟩
      replace hC := Aside0.mk hC
      replace fin := Aside0.mk fin; replace hd := Aside0.mk hd; replace h2 := Aside0.mk h2; replace hlong := Aside0.mk hlong; replace hok := Aside0.mk hok; replace hb := Aside0.mk hb; replace hnl := Aside0.mk hnl
      clear he
      go_enter Tryd.func14, Tryd.ntmps14
      go_wp2_with fail
      refine (Room_calls S B K M D h0 w s.out h2.out).mono ?_
      rintro e w' ⟨rfl, rfl⟩
      obtain ⟨z, hz2⟩ : ∃ z, 64 * halfOf D = z := ⟨_, rfl⟩
      rw [hz2] at hz ⊢
      replace hz2 := Aside0.mk hz2
      have hSl : (⟨S, 0, none⟩ : Addr).block ≠ w.heap.size := by have := World.block_lt_of_cell? w _ x0; omega
      have hwr : IntKind.i64.wrap (age + 1) = age + 1 := by rw [IntKind.wrap_i64]; omega
      go_wp2_with fail
      go_region_held3 (fun w' => w'.cell? ⟨S, 0, none⟩ = some (.int .i64 age)) (first | (with_reducible exact pw_cell_below hb1 x0) | (with_reducible exact pw_cell_below (below_step hb1 (below_alloc (Below.refl _ _) _)) x0) | (with_reducible exact pw_cell_below (below_alloc (Below.refl _ _) _) x0) | (with_reducible exact cell_set3 hSl (pw_cell_below hb1 x0)) | go_keep)
        (first
          | (go_at_call 36; refine (Clone_calls A n c img w.drew hC.out (by omega)).mono ?_; rintro e w1 ⟨v, rfl, hv, _, hb1⟩; replace hb1 := below_undrew hb1; obtain ⟨A1, c1, rfl, hC1⟩ := bytes_of_row hv hnl.out)
          | (go_at_call 36; refine (Clone_calls A n c img (w.alloc (.cells #[.int .i64 0, .bool false, .slice none 0 0] 72)).drew (Kd.C_below hC.out (below_drew (below_alloc (Below.refl _ _) _))) (by omega)).mono ?_; rintro e w1 ⟨v, rfl, hv, _, hb1⟩; have hbZ := (below_undrew hb1).block w.heap.size (by simp); rw [heap_alloc_same w _] at hbZ; have zc0 := cell_row hbZ 0; have zc1 := cell_row hbZ 1; have zc2 := cell_row hbZ 2; have zf0 := frozen_row hbZ 0; have zf1 := frozen_row hbZ 1; have zf2 := frozen_row hbZ 2; replace hb1 := below_step (below_alloc (Below.refl _ _) _) (below_undrew hb1); obtain ⟨A1, c1, rfl, hC1⟩ := bytes_of_row hv hnl.out))
      case' refine_2.refine_3.refine_3.refine_3.refine_3.refine_3.refine_3.refine_3.refine_1.refine_2.refine_3.refine_1.refine_2.refine_1.refine_2 =>
        have F : Boxed w (w1.alloc (.cells (hdV ⟨age + 1, true, img⟩ A1 c1) 72)) w1.heap.size ⟨age + 1, true, img⟩ A1 c1 := Boxed.made hb1 (Nat.le_refl _) (by show w1.ownsRow _ _ _ (.slice A1 img.length c1) img.length _; rw [hnl.out]; exact hv)
        unfold hdV at F
        dsimp only at F
        rw [hnl.out] at F
        obtain ⟨g, hg⟩ : ∃ g, w1.heap.size = g := ⟨_, rfl⟩
        obtain ⟨W, hW⟩ : ∃ W, w1.alloc (.cells #[.int .i64 (age + 1), .bool true, .slice A1 n c1] 72) = W := ⟨_, rfl⟩
        rw [hg, hW] at F ⊢
      case' refine_2.refine_3.refine_3.refine_3.refine_3.refine_3.refine_3.refine_3.refine_2.refine_1.refine_2.refine_1.refine_2.refine_3.refine_1.refine_2 =>
        have F := Boxed.stored (h := ⟨age + 1, true, img⟩) (A := A1) (c := c1) (b := w.heap.size + 1) hb1 (Nat.lt_succ_self _) (by show w1.ownsRow _ _ _ (.slice A1 img.length c1) img.length _; rw [hnl.out]; exact own_weaken hv (by simp)) hbZ
        dsimp only at F
        rw [hnl.out] at F
        obtain ⟨g, hg⟩ : ∃ g, w.heap.size = g := ⟨_, rfl⟩
        obtain ⟨W, hW⟩ : ∃ W, (((w1.setCell ⟨w.heap.size, 0, none⟩ (.int .i64 (age + 1))).setCell ⟨w.heap.size, 1, none⟩ (.bool true)).setCell ⟨w.heap.size, 2, none⟩ (.slice A1 n c1)) = W := ⟨_, rfl⟩
        rw [hW] at F ⊢
        rw [hg] at F ⊢
      all_goals (
        clear hW hg
        have sW := s.out.below F.bel
        have hTW := hT.out.step F.bel
        obtain ⟨_, _, _, _, _, y3, _⟩ := sW.cells
        have g0 : W.cell? ⟨g, 0, none⟩ = some (.int .i64 (age + 1)) := (cell_row F.row 0).trans rfl
        have g2 : W.cell? ⟨g, 2, none⟩ = some (.slice A1 n c1) := by rw [cell_row F.row 2, ← hnl.out]; rfl
        obtain ⟨slot, hslot⟩ : ∃ slot : Nat, slot = ((age + 1) % 2).toNat := ⟨_, rfl⟩
        have hsl1 : slot ≤ 1 := by omega
        have htm : (age + 1).tmod 2 = (slot : Int) := by rw [Int.tmod_eq_emod_of_nonneg (by omega)]; omega
        have hfl : fromOf D slot ≤ 300 := by unfold fromOf; rcases (by omega : slot = 0 ∨ slot = 1) with h | h <;> rw [h] <;> omega
        replace hd := hd.out
        rw [← hslot] at hd
        have nS := sW.sf
        have nG : ¬ FS S B K M g := s.out.fresh g F.gl
        have hn1 := F.hc
        rw [show (⟨age + 1, true, img⟩ : Hd).img.length = n from hnl.out] at hn1
        clear hslot x0 x1 x2 x3 hb1 hv
        replace F := Aside0.mk F; replace sW := Aside0.mk sW; replace hTW := Aside0.mk hTW; replace htm := Aside0.mk htm; replace hd := Aside0.mk hd; replace nS := Aside0.mk nS; replace nG := Aside0.mk nG
        go_wp2_with fail
        go_region_held3 (fun w' => w'.cell? ⟨S, 3, none⟩ = some (.pointer (some ⟨B, 0, none⟩)) ∧ w'.cell? ⟨g, 0, none⟩ = some (.int .i64 (age + 1))) (go_keep)
          ((go_at_call 37; rw [htm.out]; refine (from_calls B K M D slot W.drew (sW.out.dk.drewN 1) h2.out hsl1).mono ?_; rintro e w' ⟨rfl, rfl⟩))
        obtain ⟨i0, hi0⟩ : ∃ i0 : Int, 2 + (slot : Int) * (halfOf D : Int) = i0 := ⟨_, rfl⟩
        have hi1 : ((fromOf D slot : Nat) : Int) = i0 := by rw [← hi0]; unfold fromOf; rw [Int.natCast_add, Int.natCast_mul]; rfl
        have hi2 : 0 ≤ i0 ∧ i0 ≤ 300 := by rw [← hi1]; omega
        rw [hi0]
        have hBV : Below W.heap.size W W.drew := below_drew (Below.refl _ _)
        obtain ⟨V, hV⟩ : ∃ V, W.drew = V := ⟨_, rfl⟩
        rw [hV] at hBV ⊢
        have sV := sW.out.below hBV
        have hTV := hTW.out.step hBV
        have FV : Boxed w V g ⟨age + 1, true, img⟩ A1 c1 := ⟨below_step F.out.bel hBV, F.out.gl, (hBV.block g (Array.getElem?_eq_some_iff.1 F.out.row).1).trans F.out.row, F.out.hc, Kd.C_below F.out.hC hBV, F.out.far⟩
        have hcr : CF (FS S B K M) .u8 V A1 n img := ⟨by have := FV.hC; rw [show (⟨age + 1, true, img⟩ : Hd).img.length = n from hnl.out] at this; exact this, fun ad e _ => s.out.fresh _ (FV.far ad e).1⟩
        replace hd := hd.out
        rw [hi1] at hd
        replace hd := Aside0.mk hd
        clear hV hi0 hi1 g0 g2 y3
        replace sV := Aside0.mk sV; replace hTV := Aside0.mk hTV; replace FV := Aside0.mk FV; replace hBV := Aside0.mk hBV; replace hcr := Aside0.mk hcr
        go_wp2_with fail
        go_loopw [6, 7] (fun r i wr => ∃ (A2 : Option Addr) (m c2 k : Nat) (j : Int) (rest : List Int) (Dn : Dsk), r = .slice A2 m c2 ∧ i = .int .i64 j ∧ m ≤ c2 ∧ m ≤ k ∧ 0 ≤ j ∧ j + m ≤ 20000 ∧ Aside0 (CF (FS S B K M) .u8 wr A2 m rest) ∧ Aside0 (∀ x ∈ rest, 0 ≤ x ∧ x ≤ 255) ∧ Aside0 (IsDisk wr B K M Dn) ∧ Aside0 (KeepF (FD B K M) V wr) ∧ Aside0 (wrs k Dn j rest = wrs n D i0 img))
          (fun r _ _ => slLen r)
        case atStart => exact ⟨A1, n, c1, n, i0, img, D, rfl, rfl, hn1, Nat.le_refl _, hi2.1, by omega, hcr, hb, ⟨sV.out.dk⟩, ⟨KeepF.refl _ _⟩, ⟨rfl⟩⟩
        case round =>
          obtain ⟨A2, m, c2, k, j, rest, Dn, rfl, rfl, hmc, hmk, hj0, hjm, hR, hRb, hDn, hK, hE⟩ := hrel
          have sr := sV.out.keep hK.out hDn.out
          have e3 := keepF_cell hK.out (((sV.out.cells).choose_spec.choose_spec).2.2.2.1) nS.out
          have hKw : KeepF (FS S B K M) w wr := (KeepF.of_below (F := FS S B K M) FV.out.bel).trans hK.out (fun _ _ h => .inl h)
          have nG2 : ¬ FD B K M g := fun h => nG.out (.inl h)
          have r0 : wr.cell? ⟨g, 0, none⟩ = some (.int .i64 (age + 1)) := keepF_cell hK.out ((cell_row FV.out.row 0).trans rfl) nG2
          have r1 : wr.cell? ⟨g, 1, none⟩ = some (.bool true) := keepF_cell hK.out ((cell_row FV.out.row 1).trans rfl) nG2
          have r2 : wr.cell? ⟨g, 2, none⟩ = some (.slice A1 n c1) := keepF_cell hK.out (by rw [cell_row FV.out.row 2, ← hnl.out]; rfl) nG2
          have hCr : CF (FS S B K M) .u8 wr A1 n img := hcr.out.keep hK.out (fun _ h => .inl h)
          have hrl : rest.length = m := hR.out.c.1
          by_cases hm0 : m = 0
          · have hrest : rest = [] := List.eq_nil_of_length_eq_zero (by omega)
            have hwr0 : wrs k Dn j rest = (0, Dn) := by rw [hrest]; cases k <;> simp [wrs]
            rw [hwr0] at hE
            replace hd := hd.out
            rw [← hE.out] at hd
            simp only [ne_eq, not_true_eq_false, if_false] at hd
            subst hm0
            replace hd := Aside0.mk hd; replace sr := Aside0.mk sr; replace hKw := Aside0.mk hKw; replace hCr := Aside0.mk hCr; replace nG2 := Aside0.mk nG2
            go_wp2_with fail
            refine (Flush_calls B K M Dn _ hDn.out).mono ?_
            rintro e w3 ⟨rfl, hd3, hk3⟩
            have s3 := sr.out.keep hk3 hd3
            have k3 := hKw.out.trans hk3 (fun _ _ h => .inl h)
            replace r0 := keepF_cell hk3 r0 nG2.out
            replace r1 := keepF_cell hk3 r1 nG2.out
            replace r2 := keepF_cell hk3 r2 nG2.out
            have hC3 := hCr.out.keep hk3 (fun _ h => .inl h)
            have hT3 : Tab w3 := fun jj hjj => keepF_cell k3 (hT.out jj hjj) s.out.nz
            replace hd := hd.out
            obtain ⟨p, hp⟩ : ∃ p, Dn.flErr = p := ⟨_, rfl⟩
            rw [hp] at hd ⊢
            by_cases hp0 : p = 0
            · subst hp0
              simp only [ne_eq, not_true_eq_false, if_false] at hd
              have hck : hdV ⟨age + 1, true, img⟩ A1 c1 = #[.int .i64 (age + 1), .bool true, .slice A1 n c1] := by unfold hdV; rw [show (⟨age + 1, true, img⟩ : Hd).img.length = n from hnl.out]
              have hC4 : (Kd.int .u8).C w3 A1 (⟨age + 1, true, img⟩ : Hd).img.length (⟨age + 1, true, img⟩ : Hd).img := by rw [show (⟨age + 1, true, img⟩ : Hd).img.length = n from hnl.out]; exact hC3.c
              have hse := seal_calls S B K M Dn.fl h0 ⟨age + 1, true, img⟩ A1 c1 w3 hT3 s3 hok.out (FV.out.hc) hC4 (fun ad e => s.out.fresh _ (FV.out.far ad e).1)
              rw [hck] at hse
              replace hd := Aside0.mk hd; replace s3 := Aside0.mk s3; replace k3 := Aside0.mk k3; replace hC3 := Aside0.mk hC3; replace hT3 := Aside0.mk hT3; replace hC4 := Aside0.mk hC4; replace hse := Aside0.mk hse; replace hp := Aside0.mk hp; replace hd3 := Aside0.mk hd3; replace hk3 := Aside0.mk hk3
              go_wp2_with fail
              refine hse.out.mono ?_
              rintro e w4 ⟨rfl, s4, k4⟩
              have k5 := k3.out.trans k4 (fun _ _ h => h)
              replace s4 := Aside0.mk s4; replace k4 := Aside0.mk k4; replace k5 := Aside0.mk k5
              go_wp2_with fail
              go_ret
              unfold CommitPost
              rw [hd.out]
              exact ⟨rfl, s4.out, k5.out⟩
            · rw [if_pos (by simpa using hp0)] at hd
              have hp0' : (p != 0) = true := by simpa using hp0
              clear hp0
              replace hd := Aside0.mk hd; replace s3 := Aside0.mk s3; replace k3 := Aside0.mk k3; replace hC3 := Aside0.mk hC3; replace hT3 := Aside0.mk hT3; replace hp := Aside0.mk hp; replace hd3 := Aside0.mk hd3; replace hk3 := Aside0.mk hk3
              go_wp2_with fail
              go_ret
              unfold CommitPost
              rw [hd.out]
              exact ⟨rfl, s3.out, k3.out⟩
          · obtain ⟨k, rfl⟩ : ∃ k', k = k' + 1 := ⟨k - 1, by omega⟩
            have hm1 : (0 : Int) < (m : Int) := by omega
            have hne : rest ≠ [] := by intro e; rw [e] at hrl; simp at hrl; omega
            have hE2 := hE.out
            rw [wrs, if_neg hne] at hE2
            obtain ⟨n1, hn1e⟩ : ∃ n1 : Nat, n1 = min m 64 := ⟨_, rfl⟩
            have ht : rest.take 64 = rest.take n1 := by
              rcases Nat.le_total m 64 with h | h
              · rw [List.take_of_length_le (by omega), List.take_of_length_le (by omega)]
              · rw [show n1 = 64 by omega]
            have hdr : rest.drop 64 = rest.drop n1 := by
              rcases Nat.le_total m 64 with h | h
              · rw [List.drop_of_length_le (by omega), List.drop_of_length_le (by omega)]
              · rw [show n1 = 64 by omega]
            have hw1 : (CF (FS S B K M) .u8 wr A2 n1 (rest.take n1)) := cf_take0 hR.out n1 (by omega)
            rw [ht, hdr] at hE2
            obtain ⟨q, hq⟩ : ∃ q, Dn.wrErr j (rest.take n1) = q := ⟨_, rfl⟩
            rw [hq] at hE2
            have hb1 : ∀ x ∈ rest.take n1, 0 ≤ x ∧ x ≤ 255 := fun x hx => hRb.out x (List.mem_of_mem_take hx)
            have hb2 : ∀ x ∈ rest.drop n1, 0 ≤ x ∧ x ≤ 255 := fun x hx => hRb.out x (List.mem_of_mem_drop hx)
            have hup : ∀ (W' : World) A3 c3, CF (FS S B K M) .u8 W' A3 (m - n1) (rest.drop n1) → m - n1 ≤ c3 → True := fun _ _ _ _ _ => trivial
            have hcases : (64 < m ∧ n1 = 64 ∧ c2 ≠ 64) ∨ (m ≤ 64 ∧ n1 = m ∧ c2 ≠ m) ∨ (m ≤ 64 ∧ n1 = m ∧ c2 = m) := by omega
            have hn1m : n1 ≤ m := by omega
            have hn1p : 1 ≤ n1 := by omega
            have hR3 : ∀ w2, KeepF (FD B K M) wr w2 → CF (FS S B K M) .u8 w2 (A2.map fun x => x.add n1) (m - n1) (rest.drop n1) := fun w2 hk => cf_drop0 (hR.out.keep hk (fun _ h => .inl h)) n1 hn1m
            clear hup hn1e ht hdr hm0
            replace sr := Aside0.mk sr; replace hKw := Aside0.mk hKw; replace hCr := Aside0.mk hCr; replace hrl := Aside0.mk hrl; replace hne := Aside0.mk hne; replace hE2 := Aside0.mk hE2; replace hw1 := Aside0.mk hw1; replace hq := Aside0.mk hq; replace hb1 := Aside0.mk hb1; replace hb2 := Aside0.mk hb2; replace nG2 := Aside0.mk nG2; replace hR3 := Aside0.mk hR3
            have i1 : (0 : Int) ≤ (n1 : Int) := by omega
            have i2 : (n1 : Int) ≤ (m : Int) := by omega
            have i3 : (m : Int) ≤ (c2 : Int) := by omega
            have i4 : (n1 : Int) ≤ (c2 : Int) := by omega
            rcases hcases with ⟨h64, rfl, hcc⟩ | ⟨h64, rfl, hcc⟩ | ⟨h64, rfl, rfl⟩
            all_goals (
              try have i5 : (64 : Int) ≤ (c2 : Int) := by omega
              try have i6 : (64 : Int) ≤ (m : Int) := by omega
              go_wp2_with fail
              go_region_held3 (fun w' => w'.cell? ⟨S, 3, none⟩ = some (.pointer (some ⟨B, 0, none⟩))) (first | exact keepF_cell (w := wr.drew) hk2.out e3 nS.out | go_keep)
                ((go_at_call 38; refine (Write_calls B K M Dn j A2 _ c2 (rest.take _) wr.drew (hDn.out.drewN 1) ⟨hw1.out.c, fun ad e hp hF => hw1.out.far ad e hp (.inl hF)⟩ hb1.out).mono ?_; rintro e w2 ⟨rfl, hd2, hk2⟩; replace hd2 := Aside0.mk hd2; replace hk2 := Aside0.mk hk2; rw [hq.out]))
              have sr2 := (sV.out.keep (hK.out.trans (F' := FD B K M) ⟨hk2.out.os, hk2.out.tape, hk2.out.output, hk2.out.size, hk2.out.block⟩ (fun _ _ h => h)) hd2.out)
              have hkq : KeepF (FD B K M) wr w2 := ⟨hk2.out.os, hk2.out.tape, hk2.out.output, hk2.out.size, hk2.out.block⟩
              have hK2 := hK.out.trans hkq (fun _ _ h => h)
              have hKw2 := hKw.out.trans hkq (fun _ _ h => .inl h)
              replace hE2 := hE2.out
              by_cases hq0 : q = 0
              · rw [if_neg (by simpa using hq0)] at hE2
                subst hq0
                have hR4 := hR3.out w2 hkq
                replace sr2 := Aside0.mk sr2; replace hkq := Aside0.mk hkq; replace hK2 := Aside0.mk hK2; replace hKw2 := Aside0.mk hKw2; replace hE2 := Aside0.mk hE2; replace hR4 := Aside0.mk hR4
                go_wp2_with fail
                go_roundw
                case measure => show _ < _; simp only [slLen]; omega
                case rel =>
                  first
                    | exact ⟨_, _, _, k, _, _, _, rfl, rfl, by omega, by omega, by omega, by omega, hR4, hb2, hd2, hK2, hE2⟩
                    | exact ⟨_, _, _, k, _, _, _, rfl, rfl, by omega, by omega, by omega, by omega, ⟨by have := hR4.out; rw [Nat.sub_self] at this; exact this⟩, hb2, hd2, hK2, hE2⟩
                    | exact ⟨_, _, _, k, _, _, _, rfl, rfl, by omega, by omega, by omega, by omega, ⟨by have := hrl.out; rw [List.drop_of_length_le (by omega)]; exact cf_none0 _⟩, hb2, hd2, hK2, hE2⟩
              · rw [if_pos (by simpa using hq0)] at hE2
                have hq0' : (q != 0) = true := by simpa using hq0
                replace hd := hd.out
                rw [← hE2] at hd
                rw [if_pos (by simpa using hq0)] at hd
                replace sr2 := Aside0.mk sr2; replace hkq := Aside0.mk hkq; replace hK2 := Aside0.mk hK2; replace hKw2 := Aside0.mk hKw2; replace hE2 := Aside0.mk hE2; replace hd := Aside0.mk hd
                clear hq0
                go_wp2_with fail
                go_ret
                unfold CommitPost
                rw [hd.out]
                exact ⟨rfl, sr2.out, hKw2.out⟩))
end Go.Proofs.YtiibfboendnifaaDoor.Sl
namespace Go.Proofs.YtiibfboendnifaaDoor.Sl
set_option linter.unusedVariables false
set_option linter.unusedSimpArgs false
open Go.RowKit Go.Proofs.Bk Go.Proofs.Bm Go.Proofs.YtiibfboendnifaaDoor.Dk Go.Proofs.YtiibfboendnifaaDoorW.PrintWords

/-- so many sectors from sector i on, one behind another, as they read -/
def runOf (D : Dsk) (i : Nat) : Nat → List Int
  | 0 => []
  | k + 1 => runOf D i k ++ D.sec ((i + k : Nat) : Int)
theorem sec_Sec {w : World} {B K M : Nat} {D : Dsk} (h : IsDisk w B K M D) {i : Nat} (h1 : i < D.kept.length) : Sec (D.sec (i : Int)) := by
  unfold Dsk.sec
  cases e : aget D.waits (i : Int) with
  | none =>
    show Sec (D.kept.getD (i : Int).toNat [])
    rw [Int.toNat_natCast, List.getD_eq_getElem?_getD, List.getElem?_eq_getElem h1]; exact h.secs _ (List.getElem_mem _)
  | some v => exact (h.wsec _ ((aget_some_iff h.mp.nodup _ v).1 e)).1
theorem runOf_length {w : World} {B K M : Nat} {D : Dsk} (h : IsDisk w B K M D) (i : Nat) : ∀ k, i + k ≤ D.kept.length → (runOf D i k).length = 64 * k ∧ ∀ x ∈ runOf D i k, 0 ≤ x ∧ x ≤ 255
  | 0, _ => ⟨rfl, by simp [runOf]⟩
  | k + 1, hk => by
    have ih := runOf_length h i k (by omega)
    have hs := sec_Sec h (i := i + k) (by omega)
    unfold runOf
    refine ⟨by rw [List.length_append, ih.1, hs.1]; omega, fun x hx => ?_⟩
    rcases List.mem_append.1 hx with hx | hx
    · exact ih.2 x hx
    · exact hs.2 x hx
theorem runOf_take (D : Dsk) (i : Nat) {w : World} {B K M : Nat} (h : IsDisk w B K M D) : ∀ (d k m : Nat), i + (k + d) ≤ D.kept.length → m ≤ 64 * k → (runOf D i (k + d)).take m = (runOf D i k).take m
  | 0, k, m, _, _ => rfl
  | d + 1, k, m, hl, hm => by
    have := (runOf_length h i (k + d) (by omega)).1
    rw [← Nat.add_assoc, runOf, List.take_append_of_le_length (by omega)]
    exact runOf_take D i h d k m (by omega) hm

/-- append of a row that reads onto a row of the call's own -/
theorem own_append {w0 W : World} {base n : Nat} {v : Value} {xs : List Int} (ho : W.ownsRow base 5 1 v n (byt xs)) (hB : Below base w0 W) (hbase : base ≤ W.heap.size) {ad : Addr} {m : Nat} {ys : List Int} (hy : (Kd.int .u8).C W (some ad) m ys) (hn : n + m ≤ 2000000) (c : Nat) (ty : TypeId) (hm : 0 < m) :
    ∃ A1 c1 W1, (Builtin.append_ #[32, 32] ty #[v, .slice (some ad) m c]).run Tryd.prog W = .ok (.slice A1 (n + m) c1) W1 ∧ W1.ownsRow base 5 1 (.slice A1 (n + m) c1) (n + m) (byt (xs ++ ys)) ∧ Below base w0 W1 := by
  obtain ⟨ti, hti, hz⟩ := Option.map_eq_some_iff.1 info_u8
  simp only [Prod.mk.injEq] at hz
  obtain ⟨hz0, hz1, hz2⟩ := hz
  have hml : 2000000 ≤ maxLen := by unfold maxLen; omega
  have hyl : ys.length = m := hy.1
  have hc : ∀ j u, (byt ys)[j]? = some u → W.cell? (ad.add j) = some u := by
    intro j u hj
    obtain ⟨ad', e, hx⟩ := Kd.at_int hy (j : Int) (by omega) (by have := (List.getElem?_eq_some_iff.1 hj).1; rw [byt_length] at this; omega)
    obtain rfl := Option.some.inj e
    rw [Int.toNat_natCast] at hx
    rw [hx]
    rw [byt, List.getElem?_map] at hj
    obtain ⟨y, hy2, rfl⟩ := Option.map_eq_some_iff.1 hj
    unfold rd; rw [Int.toNat_natCast, List.getD_eq_getElem?_getD, hy2]; rfl
  obtain ⟨v1, W1, r1, r2, r3, r4⟩ := run_append_own (P := Tryd.prog) (w := W) base 32 ty 5 ti (.int .u8 0) 1 1 Tryd.underlying32 hti hz0 hz1 hz2 rfl (by decide) v n (byt xs) ho ad m c (byt ys) (by rw [byt_length]; omega) hc byt_one (by omega) (by omega) hbase
  have e2 : byt (xs ++ ys) = byt xs ++ byt ys := by simp [byt]
  obtain ⟨g, cap, rfl⟩ := Go.Joins.ownsRow_form r2 (by omega)
  exact ⟨some ⟨g, 0, none⟩, cap, W1, r1, by rw [e2]; exact r2, hB.grown r3 hbase (own_base ho)⟩
def ReadPost2 (D : Dsk) (i m : Nat) (w : World) (e : Ending) (w' : World) : Prop :=
  ∃ A c, e = .returned (.tuple #[.slice A m c, .int .i64 0]) ∧ m ≤ c ∧ (Kd.int .u8).C w' A m ((runOf D i (halfOf D)).take m) ∧ (∀ ad, A = some ad → w.heap.size ≤ ad.block) ∧ Below w.heap.size w w'

set_option maxHeartbeats 8000000 in
set_option maxRecDepth 100000 in
theorem read_calls (B K M : Nat) (D : Dsk) (slot m : Nat) (w : World) (h : IsDisk w B K M D) (h4 : 4 ≤ D.kept.length) (hl : D.left ≠ 0) (hs : slot ≤ 1) (hm : m ≤ 64 * halfOf D) :
    Calls Tryd.prog 59 #[.pointer (some ⟨B, 0, none⟩), .int .i64 slot, .int .i64 m] w (ReadPost2 D (fromOf D slot) m w) := by
  obtain ⟨ti, hti, hz⟩ := Option.map_eq_some_iff.1 info_u8
  simp only [Prod.mk.injEq] at hz
  obtain ⟨hz0, hz1, hz2⟩ := hz
  have hhl := half_le h
  have hin : fromOf D slot + halfOf D ≤ D.kept.length := by
    unfold fromOf halfOf
    rcases (by omega : slot = 0 ∨ slot = 1) with rfl | rfl <;> omega
  have h2 : 2 ≤ D.kept.length := by omega
  have hfl : fromOf D slot ≤ 600 := by have := h.few; omega
  have H := Aside0.mk h
  replace h4 := Aside0.mk h4; replace h2 := Aside0.mk h2; replace hz0 := Aside0.mk hz0; replace hz1 := Aside0.mk hz1; replace hz2 := Aside0.mk hz2; replace hti := Aside0.mk hti
  clear h
  go_enter Tryd.func59, Tryd.ntmps59
  go_wp2_with fail
  refine (from_calls B K M D slot w H.out h2.out hs).mono ?_
  rintro e w' ⟨rfl, rfl⟩
  rw [show (2 + slot * halfOf D : Nat) = fromOf D slot from rfl]
  obtain ⟨i0, hi0⟩ : ∃ i0, fromOf D slot = i0 := ⟨_, rfl⟩
  rw [hi0] at hin hfl ⊢
  replace hi0 := Aside0.mk hi0
  go_wp2_with fail
  go_loopw [8, 9] (fun o i wr => ∃ (k : Nat), i = .int .i64 ((i0 + k : Nat) : Int) ∧ k ≤ halfOf D ∧ slLen o = 64 * k ∧ (∃ A c, o = .slice A (64 * k) c) ∧ Aside0 (wr.ownsRow w.heap.size 5 1 o (64 * k) (byt (runOf D i0 k))) ∧ Aside0 (Below w.heap.size w wr))
    (fun o _ _ => 20000 - slLen o)
  case atStart => exact ⟨0, by simp, Nat.zero_le _, rfl, ⟨_, _, rfl⟩, ⟨own_nil _ _ _ _⟩, ⟨Below.refl _ _⟩⟩
  case round =>
    obtain ⟨k, rfl, hk, hsl, ⟨A, c, rfl⟩, hO, hB⟩ := hrel
    by_cases hlt : 64 * k < m
    · have hk1 : k < halfOf D := by omega
      have hlt' : ((64 * k : Nat) : Int) < (m : Int) := by omega
      obtain ⟨z, hz⟩ : ∃ z, 64 * k = z := ⟨_, rfl⟩
      rw [hz] at hO hlt' ⊢
      have hkk : i0 + k < D.kept.length := by omega
      have hS : Sec (D.sec ((i0 + k : Nat) : Int)) := sec_Sec H.out hkk
      have hrd : D.rdErr ((i0 + k : Nat) : Int) = 0 := by
        unfold Dsk.rdErr
        rw [if_pos (by unfold Dsk.has; simp; omega), if_neg hl]
      have hrun : runOf D i0 (k + 1) = runOf D i0 k ++ D.sec ((i0 + k : Nat) : Int) := rfl
      have Hr := H.out.below hB.out
      obtain ⟨ii, hii⟩ : ∃ ii : Int, ((i0 + k : Nat) : Int) = ii := ⟨_, rfl⟩
      have hi2 : 0 ≤ ii ∧ ii ≤ 2000 := by omega
      have hi3 : ii + 1 = ((i0 + (k + 1) : Nat) : Int) := by omega
      rw [hii] at hS hrd hrun ⊢
      obtain ⟨ys, hys⟩ : ∃ ys, D.sec ii = ys := ⟨_, rfl⟩
      rw [hys] at hS hrun
      obtain ⟨hi20, hi21⟩ := hi2
      replace hz := Aside0.mk hz; replace hkk := Aside0.mk hkk; replace hrd := Aside0.mk hrd; replace hrun := Aside0.mk hrun; replace Hr := Aside0.mk Hr; replace hii := Aside0.mk hii; replace hys := Aside0.mk hys; replace hS := Aside0.mk hS; replace hi3 := Aside0.mk hi3
      go_wp2_with fail
      refine (Read_calls B K M D ii wr Hr.out).mono ?_
      rintro e w2 ⟨v, rfl, hs2, _, hb2⟩
      rw [hrd.out] at hs2 ⊢
      obtain ⟨gg, hs2, hg1, hg2⟩ := hs2 rfl
      rw [hys.out] at hs2
      obtain ⟨off, cc, rfl, hcc, hx⟩ := hs2
      rw [hS.out.1]
      have hy : (Kd.int .u8).C w2 (some ⟨gg, off, none⟩) 64 ys := SlRow.c hx hS.out.1 (by omega)
      have ho2 := own_move hO.out (fun q hq => hb2.block q (own_lt hO.out q hq))
      have hB2 := below_step hB.out hb2
      obtain ⟨A1, c1, W1, q1, q2, q3⟩ := own_append ho2 hB2 hB2.size hy (by omega) cc 32 (by decide)
      rw [← hrun.out] at q2
      replace q2 := Aside0.mk q2; replace q3 := Aside0.mk q3; replace hy := Aside0.mk hy; replace ho2 := Aside0.mk ho2; replace hB2 := Aside0.mk hB2; replace hb2 := Aside0.mk hb2; replace hx := Aside0.mk hx
      go_wp2_with ((with_reducible refine gate_op (.call ⟨.builtin .append, #[.tmp 30, .tmp 31], #[32, 32]⟩) rfl ?_); refine Lib.wpList_append_run _ rfl (.tmp 30) (.tmp 31) 32 32 rfl _ _ rfl rfl _ W1 q1 ?_)
      go_roundw
      case measure => show _ < _; simp only [slLen]; omega
      case rel =>
        have ez : z + 64 = 64 * (k + 1) := by have := hz.out; omega
        have q2' := q2.out
        rw [ez] at q2' ⊢
        exact ⟨k + 1, by rw [hi3.out], by omega, rfl, ⟨_, _, rfl⟩, ⟨q2'⟩, q3⟩
    · have hlt' : ¬ ((64 * k : Nat) : Int) < (m : Int) := by omega
      have hmz : m ≤ 64 * k := by omega
      have htk : (runOf D i0 (halfOf D)).take m = (runOf D i0 k).take m := by
        have := runOf_take D i0 H.out (halfOf D - k) k m (by omega) hmz
        rw [show k + (halfOf D - k) = halfOf D by omega] at this
        exact this
      obtain ⟨z, hz⟩ : ∃ z, 64 * k = z := ⟨_, rfl⟩
      rw [hz] at hO hlt' hmz ⊢
      have hrl := (runOf_length H.out i0 k (by omega)).1
      have hcap := row_cap hO.out
      obtain ⟨A', c', e, hC⟩ := bytes_of_row hO.out (by omega)
      injection e with e1 e2 e3
      subst e1
      subst e3
      have fin : ReadPost2 D i0 m w (.returned (.tuple #[.slice A m c, .int .i64 0])) wr := ⟨A, c, rfl, by omega, by rw [htk]; exact C_take0 hC m hmz, fun ad e => own_base hO.out _ (by rw [e]; rfl), hB.out⟩
      rw [← hi0.out] at fin
      have i1 : (0 : Int) ≤ (m : Int) := by omega
      have i2 : (m : Int) ≤ (z : Int) := by omega
      have i3 : (m : Int) ≤ (c : Int) := by omega
      replace hO := Aside0.mk hO; replace hC := Aside0.mk hC; replace hz := Aside0.mk hz; replace htk := Aside0.mk htk; replace fin := Aside0.mk fin; replace hrl := Aside0.mk hrl
      clear hlt
      go_wp2_with fail
      go_ret2
      exact fin.out
end Go.Proofs.YtiibfboendnifaaDoor.Sl
namespace Go.Proofs.YtiibfboendnifaaDoor.Sl
set_option linter.unusedVariables false
set_option linter.unusedSimpArgs false
open Go.RowKit Go.Proofs.Bk Go.Proofs.Bm Go.Proofs.YtiibfboendnifaaDoor.Dk Go.Proofs.YtiibfboendnifaaDoorW.PrintWords

def hd0 : Hd := ⟨0, false, []⟩
/-- what stands in a head's sector: the age, whether there is an image, how many bytes it has -/
def rawAge (b : List Int) : Int := IntKind.i64.wrap (leNum (((b.take 21).drop 4).take 8))
def rawHas (b : List Int) : Bool := leNum ((((b.take 21).drop 4).drop 8).take 1) == 1
def rawMany (b : List Int) : Int := leNum (((((b.take 21).drop 4).drop 8).drop 1).take 4)
def rawHd (D : Dsk) (slot : Nat) : Hd := ⟨rawAge (D.sec slot), rawHas (D.sec slot), (runOf D (fromOf D slot) (halfOf D)).take (rawMany (D.sec slot)).toNat⟩
def Bad (D : Dsk) (slot : Nat) : Prop := rawAge (D.sec slot) < 1 ∨ 1099511627776 < rawAge (D.sec slot) ∨ rawAge (D.sec slot) % 2 ≠ slot ∨ 64 * (halfOf D : Int) < rawMany (D.sec slot) ∨ (0 < rawMany (D.sec slot) ∧ rawHas (D.sec slot) = false)
instance (D : Dsk) (slot : Nat) : Decidable (Bad D slot) := by unfold Bad; infer_instance
def toldOf (D : Dsk) (slot : Nat) : Hd := if Bad D slot then hd0 else if D.sec slot = pad (rawHd D slot).put then rawHd D slot else hd0

def ToldPost (D : Dsk) (slot : Nat) (w : World) (e : Ending) (w' : World) : Prop :=
  ∃ H A c, e = .returned (.tuple #[.agg (hdV H A c), .int .i64 (if D.left = 0 then 19 else 0)]) ∧ (D.left ≠ 0 → H = toldOf D slot) ∧ H.img.length ≤ c ∧ (Kd.int .u8).C w' A H.img.length H.img ∧ (∀ ad, A = some ad → w.heap.size ≤ ad.block) ∧ Below w.heap.size w w'

theorem part_ok (xs : List Int) (m : Nat) (h : m ≤ xs.length) : part xs 0 m = (xs.take m, xs.drop m, 0) := by
  unfold part; rw [if_neg (by simp), if_neg (by omega), if_neg (by omega), Int.toNat_natCast]
theorem take_ok (xs : List Int) (m : Nat) (h : m ≤ xs.length) : take xs 0 m = (leNum (xs.take m), xs.drop m, 0) := by
  unfold take; rw [part_ok xs m h]

theorem results_head {fn : Func} {p u : Tmp} {R : Nat} {cs : List Value} {tmps : Array Value} {w : World} (h : fn.results = #[.cell p 72, .tmp u]) (hp : tmps.getD p undef = .pointer (some ⟨R, 0, none⟩)) (hc : w.heap[R]? = some (.cells cs.toArray 72 (0, 0))) (hl : cs.length = 3) :
    (results fn tmps).run Tryd.prog w = .ok (.tuple #[.agg cs.toArray, tmps.getD u undef]) w := by
  rw [results_cell_tmp h, hp]
  have h1 : (asAddr (.pointer (some ⟨R, 0, none⟩))).run Tryd.prog w = .ok ⟨R, 0, none⟩ w := rfl
  have h2 : (Tryd.prog.info? 72).map (·.size) = some 3 := by kernel_rfl
  rw [h1]
  simp only [Result.andThen_ok]
  rw [Go.Proofs.Bk.run_loadVar_mid w ⟨R, 0, none⟩ 72 cs _ (cells_row hc) Tryd.underlying72 rfl (by rw [hl]; exact h2)]
  rfl
theorem size_head (cs : List Value) (h : cs.length = 3) : (Tryd.prog.info? 72).map (·.size) = some cs.length := by rw [h]; kernel_rfl
theorem head_one {a b c : Value} (ha : a.oneCell' = true := by rfl) (hb : b.oneCell' = true := by rfl) (hc : c.oneCell' = true := by rfl) : ∀ v ∈ [a, b, c], v.oneCell' = true := by
  intro v hv; simp at hv; rcases hv with e | e | e <;> rw [e] <;> assumption
theorem u8_ofNat_inj {a b : Int} (ha : 0 ≤ a ∧ a ≤ 255) (hb : 0 ≤ b ∧ b ≤ 255) (h : UInt8.ofNat a.toNat = UInt8.ofNat b.toNat) : a = b := by
  have := congrArg UInt8.toNat h
  simp only [UInt8.toNat_ofNat'] at this
  rw [Nat.mod_eq_of_lt (by omega), Nat.mod_eq_of_lt (by omega)] at this
  omega
theorem bytesOf_inj {x y : List Int} (hx : ∀ a ∈ x, 0 ≤ a ∧ a ≤ 255) (hy : ∀ a ∈ y, 0 ≤ a ∧ a ≤ 255) (h : Lib.bytesOf x = Lib.bytesOf y) : x = y := by
  induction x generalizing y with
  | nil => cases y with | nil => rfl | cons b y => simp [Lib.bytesOf] at h
  | cons a x ih =>
    cases y with
    | nil => simp [Lib.bytesOf] at h
    | cons b y =>
      simp only [Lib.bytesOf, List.map_cons, List.cons.injEq] at h
      have ha := hx a (by simp)
      have hb := hy b (by simp)
      rw [u8_ofNat_inj ha hb h.1, ih (fun c hc => hx c (by simp [hc])) (fun c hc => hy c (by simp [hc])) h.2]
theorem bytesIn_of {w : World} {A : Option Addr} {n : Nat} {xs : List Int} (h : (Kd.int .u8).C w A n xs) : Lib.BytesIn w A n xs := by
  intro hn
  obtain ⟨ad, rfl, _⟩ := h.2.2 hn
  refine Lib.BytesIn.of_cells (a := ad) (fun i hi => ?_) hn
  obtain ⟨ad', e, hx⟩ := Kd.at_int h (i : Int) (by omega) (by omega)
  obtain rfl := Option.some.inj e
  rw [Int.toNat_natCast] at hx
  rw [hx]; unfold rd; rw [Int.toNat_natCast]
theorem Equal_calls (A1 A2 : Option Addr) (n c m d : Nat) (xs ys : List Int) (w : World) (h1 : (Kd.int .u8).C w A1 n xs) (h2 : (Kd.int .u8).C w A2 m ys) (hx : ∀ a ∈ xs, 0 ≤ a ∧ a ≤ 255) (hy : ∀ a ∈ ys, 0 ≤ a ∧ a ≤ 255) :
    Calls Tryd.prog 61 #[.slice A1 n c, .slice A2 m d] w fun e w' => e = .returned (.bool (decide (xs = ys))) ∧ w = w' := by
  refine (Tryd.bytes_Equal_all A1 A2 n c m d xs ys w h1.1 h2.1 (bytesIn_of h1) (bytesIn_of h2)).mono ?_
  rintro e w' ⟨rfl, rfl⟩
  refine ⟨?_, rfl⟩
  have : (Lib.bytesOf xs == Lib.bytesOf ys) = decide (xs = ys) := by
    by_cases h : xs = ys
    · subst h; simp
    · rw [decide_eq_false h]
      exact beq_eq_false_iff_ne.2 (fun e => h (bytesOf_inj hx hy e))
  rw [this]
def zeroHd : Array Value := #[.int .i64 0, .bool false, .slice none 0 0]
theorem told_zero (D : Dsk) (slot : Nat) (w w' : World) (hb : Below w.heap.size w w') (h : D.left ≠ 0 → hd0 = toldOf D slot) : ToldPost D slot w (.returned (.tuple #[.agg zeroHd, .int .i64 (if D.left = 0 then 19 else 0)])) w' :=
  ⟨hd0, none, 0, rfl, h, Nat.le_refl _, Kd.C_nil _ _, (fun ad e => by cases e), hb⟩

theorem IsReader.keep {w w' : World} {r g : Nat} {xs : List Int} {f : Int} {F : Nat → Prop} (h : IsReader w r g xs f) (hk : KeepF F w w') (h1 : ¬ F r) (h2 : ¬ F g) : IsReader w' r g xs f := by
  obtain ⟨A, c, hr, hc, hC, hg, hrg⟩ := h
  exact ⟨A, c, (hk.block r (Array.getElem?_eq_some_iff.1 hr).1 h1).trans hr, hc, Kd_C_keep hC (fun ad e _ hf => h2 (by rw [← hg ad e]; exact hf)) hk, hg, hrg⟩
/-- a head's bytes with bytes 0 behind them -/
theorem put_zeros (w : World) (base : Nat) (v : Value) (h : Hd) (hv : w.ownsRow base 5 1 v 25 (byt h.put)) (hbase : base ≤ w.heap.size) (ty : TypeId) :
    ∃ A c W, (Builtin.append_ #[32, 3] ty #[v, .int .i64 64]).run Tryd.prog w = .ok (.slice A 89 c) W ∧ 89 ≤ c ∧ (Kd.int .u8).C W A 64 (pad h.put) ∧ Below base w W := by
  obtain ⟨ti, hti, hz⟩ := Option.map_eq_some_iff.1 info_u8
  simp only [Prod.mk.injEq] at hz
  obtain ⟨hz0, hz1, hz2⟩ := hz
  obtain ⟨g, cap, rfl⟩ := Go.Joins.ownsRow_form hv (by decide)
  obtain ⟨v2, W2, s1, s2, s3⟩ := run_append_zeros_own (P := Tryd.prog) w base 32 3 ty 5 ti (.int .u8 0) .i64 .i64 Tryd.underlying32 Tryd.underlying3 hti hz0 hz1 hz2 rfl rfl g 25 cap (byt h.put) hv 64 (by decide) hbase
  have e1 : byt h.put ++ List.replicate 64 (Value.int .u8 0) = byt (h.put ++ List.replicate 64 0) := by unfold byt; rw [List.map_append, List.map_replicate]
  rw [e1] at s2
  have hl : (h.put ++ List.replicate 64 0).length = 89 := by rw [List.length_append, h.put_length, List.length_replicate]
  obtain ⟨A, c, rfl, hC⟩ := bytes_of_row s2 hl
  have hp : pad h.put = (h.put ++ List.replicate 64 0).take 64 := by
    unfold pad
    rw [List.take_append, h.put_length, List.take_of_length_le (by rw [h.put_length]; decide), List.take_replicate]
    rfl
  refine ⟨A, c, W2, s1, row_cap s2, by rw [hp]; exact C_take0 hC 64 (by decide), (Below.refl base w).grown s3 hbase (own_base hv)⟩
/-- what stays while a head's sector is read -/
structure TS (w W : World) (n2 gg off B K M : Nat) (D : Dsk) (b : List Int) (z : Array Value) : Prop where
  bel : Below w.heap.size w W
  n1 : w.heap.size < n2
  n3 : n2 ≤ W.heap.size
  gl : gg < n2
  row : W.heap[w.heap.size]? = some (.cells z 72 (0, 0))
  cb : (Kd.int .u8).C W (some ⟨gg, off, none⟩) 64 b
  dk : IsDisk W B K M D
  bl : B < n2 ∧ K < n2 ∧ M < n2
  tab : Tab W
theorem TS.step {w W W' : World} {n2 gg off B K M : Nat} {D : Dsk} {b : List Int} {z : Array Value} {F : Nat → Prop} (h : TS w W n2 gg off B K M D b z) (hk : KeepF F W W') (hF : ∀ i, F i → n2 ≤ i) : TS w W' n2 gg off B K M D b z := by
  refine ⟨h.bel.trans (hk.to_below (Nat.le_trans (Nat.le_of_lt h.n1) h.n3) (fun i hi => by have := hF i hi; have := h.n1; omega)), h.n1, Nat.le_trans h.n3 hk.size, h.gl, (hk.block _ (Nat.lt_of_lt_of_le h.n1 h.n3) (fun hf => by have := hF _ hf; have := h.n1; omega)).trans h.row, Kd_C_keep h.cb (fun ad e _ hf => ?_) hk, h.dk.of_keep hk (fun hf => by have := hF _ hf; have := h.bl; omega) (fun hf => by have := hF _ hf; have := h.bl; omega) (fun hf => by have := hF _ hf; have := h.bl; omega), h.bl, fun j hj => keepF_cell hk (h.tab j hj) (fun hf => by have hh : n2 ≤ 0 := hF _ hf; have := h.n1; omega)⟩
  obtain rfl := Option.some.inj e
  have hh : n2 ≤ gg := hF _ hf
  have := h.gl
  omega

set_option maxHeartbeats 8000000 in
set_option maxRecDepth 100000 in
theorem told_calls (B K M : Nat) (D : Dsk) (slot : Nat) (w : World) (hT : Tab w) (h : IsDisk w B K M D) (h4 : 4 ≤ D.kept.length) (hs : slot ≤ 1) :
    Calls Tryd.prog 35 #[.pointer (some ⟨B, 0, none⟩), .int .i64 slot] w (ToldPost D slot w) := by
  have hbA := below_alloc (Below.refl w.heap.size w) (.cells zeroHd 72)
  have H1 := h.below hbA
  have hT1 := hT.step hbA
  have hrow : (w.alloc (.cells zeroHd 72)).heap[w.heap.size]? = some (.cells zeroHd 72 (0, 0)) := heap_alloc_same w _
  have hz := told_zero D slot w
  have hsec := sec_Sec h (i := slot) (by omega)
  have hrd : D.rdErr (slot : Int) = if D.left = 0 then 19 else 0 := by
    unfold Dsk.rdErr
    rw [if_pos (by unfold Dsk.has; simp; omega)]
  obtain ⟨w1, hw1⟩ : ∃ w1, w.alloc (.cells zeroHd 72) = w1 := ⟨_, rfl⟩
  rw [hw1] at hbA H1 hT1 hrow
  have hsz : w.heap.size < w1.heap.size := by rw [← hw1]; simp
  unfold zeroHd at hw1 hrow hz
  by_cases hl : D.left = 0
  · rw [if_pos hl] at hrd hz
    replace h := Aside0.mk h; replace h4 := Aside0.mk h4; replace hT := Aside0.mk hT; replace hbA := Aside0.mk hbA; replace H1 := Aside0.mk H1; replace hT1 := Aside0.mk hT1; replace hrow := Aside0.mk hrow; replace hz := Aside0.mk hz; replace hsec := Aside0.mk hsec; replace hl := Aside0.mk hl
    go_enter Tryd.func35, Tryd.ntmps35
    go_wp2_with fail
    refine (Read_calls B K M D slot w1 H1.out).mono ?_
    rintro e w2 ⟨v, rfl, _, hs2, hb2⟩
    rw [hrd] at hs2 ⊢
    rw [hs2 (by decide)]
    have hr2 := (hb2.block _ hsz).trans hrow.out
    have hB := below_step hbA.out hb2
    replace hb2 := Aside0.mk hb2; replace hr2 := Aside0.mk hr2; replace hB := Aside0.mk hB
    go_wp2_with ((with_reducible refine gate_op (.store 72 (.tmp 4) (.tmp 20)) rfl ?_); refine wpList_store_midB rfl _ _ _ rfl w.heap.size 0 [.int .i64 0, .bool false, .slice none 0 0] rfl rfl 72 [.int .i64 0, .bool false, .slice none 0 0] hr2.out (size_head _ rfl) (Nat.le_refl 3) head_one ?_)
    refine bodyPost_ret (results_head rfl rfl (setRow_heap _ _ _ _ _ _ hr2.out) rfl) rfl ?_
    exact hz.out _ (hB.out.trans ((KeepF.setRow w2 w.heap.size _).to_below hB.out.size (fun i e => by omega))) (fun h => absurd hl.out h)
  · rw [if_neg hl] at hrd hz
    obtain ⟨b, hbe⟩ : ∃ b, D.sec (slot : Int) = b := ⟨_, rfl⟩
    rw [hbe] at hsec
    have hb64 := hsec.1
    have e1 : (b.take 21).length = 21 := by rw [List.length_take]; omega
    have e2 : ((b.take 21).drop 4).length = 17 := by rw [List.length_drop]; omega
    have e3 : (((b.take 21).drop 4).drop 8).length = 9 := by rw [List.length_drop]; omega
    have e4 : ((((b.take 21).drop 4).drop 8).drop 1).length = 8 := by rw [List.length_drop]; omega
    have p1 : part (b.take 21) 0 4 = ((b.take 21).take 4, (b.take 21).drop 4, 0) := part_ok _ 4 (by omega)
    have p2 : take ((b.take 21).drop 4) 0 8 = (leNum (((b.take 21).drop 4).take 8), ((b.take 21).drop 4).drop 8, 0) := take_ok _ 8 (by omega)
    have p3 : take (((b.take 21).drop 4).drop 8) 0 1 = (leNum ((((b.take 21).drop 4).drop 8).take 1), (((b.take 21).drop 4).drop 8).drop 1, 0) := take_ok _ 1 (by omega)
    have p4 : take ((((b.take 21).drop 4).drop 8).drop 1) 0 4 = (leNum (((((b.take 21).drop 4).drop 8).drop 1).take 4), ((((b.take 21).drop 4).drop 8).drop 1).drop 4, 0) := take_ok _ 4 (by omega)
    have hr1 : ∀ x ∈ b.take 21, 0 ≤ x ∧ x ≤ 255 := fun x hx => hsec.2 x (List.mem_of_mem_take hx)
    have hr2 : ∀ x ∈ (b.take 21).drop 4, 0 ≤ x ∧ x ≤ 255 := fun x hx => hr1 x (List.mem_of_mem_drop hx)
    have hr3 : ∀ x ∈ ((b.take 21).drop 4).drop 8, 0 ≤ x ∧ x ≤ 255 := fun x hx => hr2 x (List.mem_of_mem_drop hx)
    have hr4 : ∀ x ∈ (((b.take 21).drop 4).drop 8).drop 1, 0 ≤ x ∧ x ≤ 255 := fun x hx => hr3 x (List.mem_of_mem_drop hx)
    have ea : rawAge b = IntKind.i64.wrap (leNum (((b.take 21).drop 4).take 8)) := rfl
    have eh : rawHas b = (leNum ((((b.take 21).drop 4).drop 8).take 1) == 1) := rfl
    have em : rawMany b = leNum (((((b.take 21).drop 4).drop 8).drop 1).take 4) := rfl
    have hm0 := leNum_range (((((b.take 21).drop 4).drop 8).drop 1).take 4) (fun x hx => hr4 x (List.mem_of_mem_take hx))
    have hm1 : 0 ≤ rawMany b ∧ rawMany b < 4294967296 := by
      rw [em]; refine ⟨hm0.1, ?_⟩
      have := hm0.2
      rw [List.length_take, e4] at this
      exact this
    clear hm0
    obtain ⟨age, hage⟩ : ∃ x, rawAge b = x := ⟨_, rfl⟩
    obtain ⟨has, hhas⟩ : ∃ x, rawHas b = x := ⟨_, rfl⟩
    obtain ⟨many, hmany⟩ : ∃ x, rawMany b = x := ⟨_, rfl⟩
    rw [hage] at ea; rw [hhas] at eh; rw [hmany] at em hm1
    obtain ⟨n8, hn8⟩ : ∃ x, leNum (((b.take 21).drop 4).take 8) = x := ⟨_, rfl⟩
    obtain ⟨n1, hn1⟩ : ∃ x, leNum ((((b.take 21).drop 4).drop 8).take 1) = x := ⟨_, rfl⟩
    rw [hn8] at ea p2; rw [hn1] at eh p3; rw [← em] at p4
    have hmw : IntKind.i64.wrap many = many := by rw [IntKind.wrap_i64]; omega
    replace ea := ea.symm
    replace eh := eh.symm
    have hbw : Aside0 (Below w.heap.size w w1) := ⟨hbA⟩
    replace h := Aside0.mk h; replace h4 := Aside0.mk h4; replace hT := Aside0.mk hT; replace hbA := Aside0.mk hbA; replace H1 := Aside0.mk H1; replace hT1 := Aside0.mk hT1; replace hrow := Aside0.mk hrow; replace hz := Aside0.mk hz; replace hsec := Aside0.mk hsec; replace hl := Aside0.mk hl; replace e1 := Aside0.mk e1; replace e2 := Aside0.mk e2; replace e3 := Aside0.mk e3; replace e4 := Aside0.mk e4; replace p1 := Aside0.mk p1; replace p2 := Aside0.mk p2; replace p3 := Aside0.mk p3; replace p4 := Aside0.mk p4; replace hr1 := Aside0.mk hr1; replace hr2 := Aside0.mk hr2; replace hr3 := Aside0.mk hr3; replace hr4 := Aside0.mk hr4; replace hm1 := Aside0.mk hm1; replace hage := Aside0.mk hage; replace hhas := Aside0.mk hhas; replace hmany := Aside0.mk hmany; replace hn8 := Aside0.mk hn8; replace hn1 := Aside0.mk hn1; replace em := Aside0.mk em; replace hbe := Aside0.mk hbe
    go_enter Tryd.func35, Tryd.ntmps35
    go_wp2_with fail
    refine (Read_calls B K M D slot w1 H1.out).mono ?_
    rintro e w2 ⟨v, rfl, hs2, _, hb2⟩
    rw [hrd] at hs2 ⊢
    obtain ⟨gg, hs2, hg1, hg2⟩ := hs2 rfl
    rw [hbe.out] at hs2
    obtain ⟨off, cc, rfl, hcc, hx⟩ := hs2
    rw [hb64]
    have hc64 : (64 : Int) ≤ (cc : Int) := by have := hcc.1; omega
    have hCb : (Kd.int .u8).C w2 (some ⟨gg, off, none⟩) 64 b := SlRow.c hx hb64 (by omega)
    have hq2 := (hb2.block _ hsz).trans hrow.out
    have hB2 := below_step hbA.out hb2
    have H2 := H1.out.below hb2
    have hlts := h.out.lts
    have T2 : TS w w2 w2.heap.size gg off B K M D b #[.int .i64 0, .bool false, .slice none 0 0] := ⟨hB2, by have := hb2.size; omega, Nat.le_refl _, hg2, hq2, hCb, H2, by have := hb2.size; omega, hT1.out.step hb2⟩
    obtain ⟨n2, hn2⟩ : ∃ n2, w2.heap.size = n2 := ⟨_, rfl⟩
    rw [hn2] at T2
    replace hb2 := Aside0.mk hb2; replace hq2 := Aside0.mk hq2; replace hB2 := Aside0.mk hB2; replace hCb := Aside0.mk hCb; replace hx := Aside0.mk hx; replace hcc := Aside0.mk hcc; replace H2 := Aside0.mk H2; replace T2 := Aside0.mk T2; replace hlts := Aside0.mk hlts
    go_wp2_with fail
    refine (NewR_calls _ 21 cc (b.take 21) w2 (C_take0 hCb.out 21 (by omega)) (by omega)).mono ?_
    rintro e w3 ⟨r, gr, rfl, hR3, hr3b, hb3, hgrl⟩
    replace hgrl := hgrl (by rw [e1.out]; decide)
    rw [hn2] at hr3b
    have T3 := T2.out.step (F := fun _ => False) (KeepF.of_below hb3) (fun i hi => hi.elim)
    replace hb3 := Aside0.mk hb3; replace hR3 := Aside0.mk hR3; replace T3 := Aside0.mk T3
    go_wp2_with fail
    refine (Part_calls r gr (b.take 21) 0 4 w3 hR3.out).mono ?_
    rintro e w4 ⟨A4, n4, c4, rfl, _, _, _, hR4, hk4⟩
    rw [p1.out] at hR4
    have T4 := T3.out.step hk4 (fun i e => by omega)
    have hrl : r < w4.heap.size := by obtain ⟨_, _, hh, _⟩ := hR4; exact (Array.getElem?_eq_some_iff.1 hh).1
    have hbh := below_alloc (Below.refl w4.heap.size w4) (.cells #[.int .i64 0, .bool false, .slice none 0 0] 72)
    have T5 := T4.step (F := fun _ => False) (KeepF.of_below hbh) (fun i hi => hi.elim)
    have hR5 := hR4.keep (F := fun _ => False) (KeepF.of_below hbh) (fun h => h) (fun h => h)
    have hh5 : (w4.alloc (.cells #[.int .i64 0, .bool false, .slice none 0 0] 72)).heap[w4.heap.size]? = some (.cells #[.int .i64 0, .bool false, .slice none 0 0] 72 (0, 0)) := heap_alloc_same _ _
    have hne : r ≠ w4.heap.size := by omega
    have hgn : gr ≠ w4.heap.size := by have := hk4.size; omega
    obtain ⟨w5, hw5⟩ : ∃ w5, w4.alloc (.cells #[.int .i64 0, .bool false, .slice none 0 0] 72) = w5 := ⟨_, rfl⟩
    rw [hw5] at T5 hR5 hh5
    obtain ⟨hb, hhb⟩ : ∃ hb, w4.heap.size = hb := ⟨_, rfl⟩
    rw [hhb] at hh5 hne hgn
    have hhn : n2 ≤ hb := by have := T4.n3; omega
    replace T4 := Aside0.mk T4; replace hR4 := Aside0.mk hR4; replace hk4 := Aside0.mk hk4; replace hbh := Aside0.mk hbh; replace T5 := Aside0.mk T5; replace hR5 := Aside0.mk hR5; replace hh5 := Aside0.mk hh5; replace hrl := Aside0.mk hrl; replace hne := Aside0.mk hne; replace hgn := Aside0.mk hgn; replace hhn := Aside0.mk hhn
    go_wp2_with fail
    refine (Take_calls r gr _ 0 8 8 w5 hR5.out hr2.out (by decide) (by decide)).mono ?_
    rintro e w6 ⟨rfl, hR6, hk6⟩
    rw [p2.out] at hR6 ⊢
    have T6 := T5.out.step hk6 (fun i e => by omega)
    have hh6 := (hk6.block hb (Array.getElem?_eq_some_iff.1 hh5.out).1 (fun e => hne.out e.symm)).trans hh5.out
    have z0 := cell_row hh6 0
    have f0 := frozen_row hh6 0
    replace hR6 := Aside0.mk hR6; replace hk6 := Aside0.mk hk6; replace T6 := Aside0.mk T6; replace hh6 := Aside0.mk hh6
    go_wp2_with fail
    have k7 := KeepF.setCell w6 ⟨hb, 0, none⟩ (.int .i64 age)
    have T7 := T6.out.step k7 (fun i e => by have : i = hb := e; have := hhn.out; omega)
    have hR7 := hR6.out.keep k7 (fun e => hne.out e) (fun e => hgn.out e)
    have hh7 := heap_set_same hh6.out 0 (.int .i64 age)
    obtain ⟨w7, hw7⟩ : ∃ w7, w6.setCell ⟨hb, 0, none⟩ (.int .i64 age) = w7 := ⟨_, rfl⟩
    rw [hw7] at T7 hR7 hh7 ⊢
    clear hw7 k7 z0 f0
    refine (Take_calls r gr _ 0 1 1 w7 hR7 hr3.out (by decide) (by decide)).mono ?_
    rintro e w8 ⟨rfl, hR8, hk8⟩
    rw [p3.out] at hR8 ⊢
    have T8 := T7.step hk8 (fun i e => by have hhr3b := hr3b; omega)
    have hh8 : w8.heap[hb]? = some (.cells #[.int .i64 age, .bool false, .slice none 0 0] 72 (0, 0)) := (hk8.block hb (Array.getElem?_eq_some_iff.1 hh7).1 (fun e => hne.out e.symm)).trans hh7
    have z1 := cell_row hh8 1
    have f1 := frozen_row hh8 1
    replace hR8 := Aside0.mk hR8; replace hk8 := Aside0.mk hk8; replace T7 := Aside0.mk T7; replace hR7 := Aside0.mk hR7; replace hh7 := Aside0.mk hh7; replace T8 := Aside0.mk T8; replace hh8 := Aside0.mk hh8
    go_wp2_with fail
    have k9 := KeepF.setCell w8 ⟨hb, 1, none⟩ (.bool has)
    have T9 := T8.out.step k9 (fun i e => by have : i = hb := e; have := hhn.out; omega)
    have hR9 := hR8.out.keep k9 (fun e => hne.out e) (fun e => hgn.out e)
    have hh9 := heap_set_same hh8.out 1 (.bool has)
    obtain ⟨w9, hw9⟩ : ∃ w9, w8.setCell ⟨hb, 1, none⟩ (.bool has) = w9 := ⟨_, rfl⟩
    rw [hw9] at T9 hR9 hh9 ⊢
    clear hw9 k9 z1 f1
    refine (Take_calls r gr _ 0 4 4 w9 hR9 hr4.out (by decide) (by decide)).mono ?_
    rintro e w10 ⟨rfl, hR10, hk10⟩
    rw [p4.out] at hR10 ⊢
    have T10 := T9.step hk10 (fun i e => by have hhr3b := hr3b; omega)
    have hh10 : w10.heap[hb]? = some (.cells #[.int .i64 age, .bool has, .slice none 0 0] 72 (0, 0)) := (hk10.block hb (Array.getElem?_eq_some_iff.1 hh9).1 (fun e => hne.out e.symm)).trans hh9
    have z0 : w10.cell? ⟨hb, 0, none⟩ = some (.int .i64 age) := (cell_row hh10 0).trans rfl
    have z1 : w10.cell? ⟨hb, 1, none⟩ = some (.bool has) := (cell_row hh10 1).trans rfl
    have hbad : Bad D slot ↔ (age < 1 ∨ 1099511627776 < age ∨ age % 2 ≠ slot ∨ 64 * (halfOf D : Int) < many ∨ (0 < many ∧ has = false)) := by
      unfold Bad; rw [hbe.out, hage.out, hhas.out, hmany.out]
    have htz : Bad D slot → Aside0 (hd0 = toldOf D slot) := fun h => ⟨by unfold toldOf; rw [if_pos h]⟩
    have hhl := half_le h.out
    replace hR10 := Aside0.mk hR10; replace hk10 := Aside0.mk hk10; replace T9 := Aside0.mk T9; replace hR9 := Aside0.mk hR9; replace hh9 := Aside0.mk hh9; replace T10 := Aside0.mk T10; replace hh10 := Aside0.mk hh10
    by_cases k1 : age < 1
    · replace htz := htz (hbad.2 (.inl k1))
      clear hbad
      go_wp2_with (first
        | ((with_reducible refine gate_op (.store 72 (.tmp 4) (.tmp 69)) rfl ?_); refine wpList_store_midB rfl _ _ _ rfl w.heap.size 0 [.int .i64 0, .bool false, .slice none 0 0] rfl rfl 72 [.int .i64 0, .bool false, .slice none 0 0] T10.out.row (size_head _ rfl) (Nat.le_refl 3) head_one ?_))
      refine bodyPost_ret (results_head rfl rfl (setRow_heap _ _ _ _ _ _ T10.out.row) rfl) rfl ?_
      exact hz.out _ (T10.out.bel.trans ((KeepF.setRow w10 w.heap.size _).to_below T10.out.bel.size (fun i e => by omega))) (fun _ => htz.out)
    · by_cases k2 : 1099511627776 < age
      · replace htz := htz (hbad.2 (.inr (.inl k2)))
        clear hbad
        go_wp2_with (first
          | ((with_reducible refine gate_op (.store 72 (.tmp 4) (.tmp 69)) rfl ?_); refine wpList_store_midB rfl _ _ _ rfl w.heap.size 0 [.int .i64 0, .bool false, .slice none 0 0] rfl rfl 72 [.int .i64 0, .bool false, .slice none 0 0] T10.out.row (size_head _ rfl) (Nat.le_refl 3) head_one ?_))
        refine bodyPost_ret (results_head rfl rfl (setRow_heap _ _ _ _ _ _ T10.out.row) rfl) rfl ?_
        exact hz.out _ (T10.out.bel.trans ((KeepF.setRow w10 w.heap.size _).to_below T10.out.bel.size (fun i e => by omega))) (fun _ => htz.out)
      · by_cases k3 : age % 2 = (slot : Int)
        · have k3' : (age % 2 != (slot : Int)) = false := by simpa using k3
          by_cases k4 : 64 * (halfOf D : Int) < many
          · replace htz := htz (hbad.2 (.inr (.inr (.inr (.inl k4)))))
            clear hbad k3
            go_wp2_with (first
              | (go_at_call 43; refine (half_calls B K M D w10 T10.out.dk (by have := h4.out; omega)).mono ?_; rintro e w' ⟨rfl, rfl⟩)
              | ((with_reducible refine gate_op (.store 72 (.tmp 4) (.tmp 69)) rfl ?_); refine wpList_store_midB rfl _ _ _ rfl w.heap.size 0 [.int .i64 0, .bool false, .slice none 0 0] rfl rfl 72 [.int .i64 0, .bool false, .slice none 0 0] T10.out.row (size_head _ rfl) (Nat.le_refl 3) head_one ?_))
            refine bodyPost_ret (results_head rfl rfl (setRow_heap _ _ _ _ _ _ T10.out.row) rfl) rfl ?_
            exact hz.out _ (T10.out.bel.trans ((KeepF.setRow w10 w.heap.size _).to_below T10.out.bel.size (fun i e => by omega))) (fun _ => htz.out)
          · by_cases k5 : 0 < many ∧ has = false
            · replace htz := htz (hbad.2 (.inr (.inr (.inr (.inr k5)))))
              obtain ⟨k5, rfl⟩ := k5
              clear hbad k3
              go_wp2_with (first
                | (go_at_call 43; refine (half_calls B K M D w10 T10.out.dk (by have := h4.out; omega)).mono ?_; rintro e w' ⟨rfl, rfl⟩)
                | ((with_reducible refine gate_op (.store 72 (.tmp 4) (.tmp 69)) rfl ?_); refine wpList_store_midB rfl _ _ _ rfl w.heap.size 0 [.int .i64 0, .bool false, .slice none 0 0] rfl rfl 72 [.int .i64 0, .bool false, .slice none 0 0] T10.out.row (size_head _ rfl) (Nat.le_refl 3) head_one ?_))
              refine bodyPost_ret (results_head rfl rfl (setRow_heap _ _ _ _ _ _ T10.out.row) rfl) rfl ?_
              exact hz.out _ (T10.out.bel.trans ((KeepF.setRow w10 w.heap.size _).to_below T10.out.bel.size (fun i e => by omega))) (fun _ => htz.out)
            · have hgood : ¬ Bad D slot := fun hh => by
                rcases hbad.1 hh with h | h | h | h | h
                · exact k1 h
                · exact k2 h
                · exact h k3
                · exact k4 h
                · exact k5 h
              replace hgood := Aside0.mk hgood
              clear hbad htz
              obtain ⟨m, rfl⟩ : ∃ m : Nat, many = m := ⟨many.toNat, by have := hm1.out; omega⟩
              have hmh : m ≤ 64 * halfOf D := by omega
              have hk6 : (m = 0) ∨ (0 < (m : Int) ∧ has = true) := by
                rcases Nat.eq_zero_or_pos m with h | h
                · exact .inl h
                · cases has
                  · exact absurd ⟨by omega, rfl⟩ k5
                  · exact .inr ⟨by omega, rfl⟩
              obtain ⟨hq, hqe⟩ : ∃ hq : Hd, hq = ⟨age, has, (runOf D (fromOf D slot) (halfOf D)).take m⟩ := ⟨_, rfl⟩
              have hrl := runOf_length h.out (fromOf D slot) (halfOf D) (by
                have := h4.out
                unfold fromOf halfOf
                rcases (by omega : slot = 0 ∨ slot = 1) with rfl | rfl <;> omega)
              have hqn : hq.img.length = m := by rw [hqe]; show ((runOf D (fromOf D slot) (halfOf D)).take m).length = m; rw [List.length_take]; omega
              have hqV : ∀ A c, hdV hq A c = #[.int .i64 age, .bool has, .slice A m c] := fun A c => by unfold hdV; rw [hqn, hqe]
              have hqi : hq.img = (runOf D (fromOf D slot) (halfOf D)).take m := by rw [hqe]
              have hqok : hq.Ok := by rw [hqe]; exact ⟨by show 0 ≤ age; omega, by show age ≤ _; omega, fun x hx => hrl.2 x (List.mem_of_mem_take hx), by show ((runOf D (fromOf D slot) (halfOf D)).take m).length ≤ _; rw [List.length_take]; omega⟩
              have hqr : rawHd D slot = hq := by unfold rawHd; rw [hbe.out, hage.out, hhas.out, hmany.out, Int.toNat_natCast, hqe]
              have htold : toldOf D slot = if b = pad hq.put then hq else hd0 := by
                unfold toldOf; rw [if_neg hgood.out, hqr, hbe.out]
              have hrdc := read_calls B K M D slot m w10 T10.out.dk h4.out hl.out hs hmh
              replace hmh := Aside0.mk hmh; replace hgood := Aside0.mk hgood; replace hrdc := Aside0.mk hrdc; replace hqe := Aside0.mk hqe; replace hrl := Aside0.mk hrl; replace hqn := Aside0.mk hqn; replace hqV := Aside0.mk hqV; replace hqi := Aside0.mk hqi; replace hqok := Aside0.mk hqok; replace hqr := Aside0.mk hqr; replace htold := Aside0.mk htold
              clear k5 k3
              rcases hk6 with rfl | ⟨hmp, rfl⟩
              all_goals (
                go_wp2_with (first
                  | (go_at_call 43; refine (half_calls B K M D w10 T10.out.dk (by have := h4.out; omega)).mono ?_; rintro e w' ⟨rfl, rfl⟩)
                  | (go_at_call 59; refine hrdc.out.mono ?_; rintro e w11 ⟨A, c, rfl, hmc, hC11, hfar, hb11⟩; have hh11 := (hb11.block hb (Array.getElem?_eq_some_iff.1 hh10.out).1).trans hh10.out; have zf := frozen_row hh11 2; have z2 := cell_row hh11 2; have T11 := T10.out.step (F := fun _ => False) (KeepF.of_below hb11) (fun i hi => hi.elim); replace hC11 := Aside0.mk hC11; replace hfar := Aside0.mk hfar; replace hb11 := Aside0.mk hb11; replace hh11 := Aside0.mk hh11; replace T11 := Aside0.mk T11)
                  | ((with_reducible refine gate_op (.load 72 (.tmp 9)) rfl ?_); refine wpList_load_midB rfl _ _ rfl ⟨hb, 0, none⟩ rfl [.int .i64 age, .bool _, .slice A _ c] _ (cells_row (heap_set_same hh11.out 2 _)) Tryd.underlying72 rfl (size_head _ rfl) ?_))
                obtain ⟨u, hu⟩ : ∃ u, u = Value.slice A hq.img.length c := ⟨_, rfl⟩
                have k12 := KeepF.setCell w11 ⟨hb, 2, none⟩ u
                have T12 := T11.out.step k12 (fun i e => by have : i = hb := e; have := hhn.out; omega)
                have hh12 := heap_set_same hh11.out 2 u
                have hC12 := Kd_C_keep hC11.out (fun ad e hp (he : ad.block = hb) => by
                  have h1 := hfar.out ad e
                  have h2 := (Array.getElem?_eq_some_iff.1 hh10.out).1
                  omega) k12
                obtain ⟨w12, hw12⟩ : ∃ w12, w11.setCell ⟨hb, 2, none⟩ u = w12 := ⟨_, rfl⟩
                rw [hw12] at T12 hh12 hC12
                rw [hqn.out] at hu
                rw [hu] at hw12 hh12
                rw [hw12]
                clear hw12 zf z2 z0 z1
                have hpc := put_calls hq A c w12 T12.tab hqok.out (by rw [hqn.out, hqi.out]; exact hC12)
                rw [hqV.out] at hpc
                replace k12 := Aside0.mk k12; replace T12 := Aside0.mk T12; replace hh12 := Aside0.mk hh12; replace hC12 := Aside0.mk hC12
                refine hpc.mono ?_
                rintro e w13 ⟨v, rfl, hv, hb13⟩
                have T13 := T12.out.step (F := fun _ => False) (KeepF.of_below hb13) (fun i hi => hi.elim)
                have hh13 := (hb13.block hb (Array.getElem?_eq_some_iff.1 hh12.out).1).trans hh12.out
                have hC13 := Kd.C_below hC12.out hb13
                obtain ⟨A2, c2, w14, q1, hc2, hC14, hb14⟩ := put_zeros w13 w12.heap.size v hq hv hb13.size 32
                have T14 := T13.step (F := fun i => w12.heap.size ≤ i) ⟨hb14.os, hb14.tape, hb14.output, hb14.size, fun i hi hn => hb14.block i (by omega)⟩ (fun i hi => Nat.le_trans T12.out.n3 hi)
                have hl12 := (Array.getElem?_eq_some_iff.1 hh12.out).1
                have hh14 := (hb14.block hb hl12).trans hh13
                have hCC : (Kd.int .u8).C w14 A hq.img.length hq.img := by
                  have := Kd.C_below hC12.out (⟨by rw [hb14.os, hb13.os], by rw [hb14.tape, hb13.tape], by rw [hb14.output, hb13.output], Nat.le_trans hb13.size hb14.size, fun i hi => (hb14.block i hi).trans (hb13.block i hi)⟩ : Below w12.heap.size w12 w14)
                  rw [hqn.out, hqi.out]; exact this
                have hc89 : (89 : Int) ≤ (c2 : Int) := by omega
                have hmc' := hmc
                replace hv := Aside0.mk hv; replace hb13 := Aside0.mk hb13; replace T13 := Aside0.mk T13; replace hh13 := Aside0.mk hh13; replace hC13 := Aside0.mk hC13; replace hC14 := Aside0.mk hC14; replace hb14 := Aside0.mk hb14; replace T14 := Aside0.mk T14; replace hh14 := Aside0.mk hh14; replace hCC := Aside0.mk hCC; replace hl12 := Aside0.mk hl12
                go_wp2_with ((with_reducible refine gate_op (.call ⟨.builtin .append, #[.tmp 83, .const (.int .i64 64)], #[32, 3]⟩) rfl ?_); refine Lib.wpList_append_run _ rfl (.tmp 83) (.const (.int .i64 64)) 32 3 rfl _ _ rfl rfl _ w14 q1 ?_)
                refine (Equal_calls (some ⟨gg, off, none⟩) A2 64 cc 64 c2 b (pad hq.put) w14 T14.out.cb hC14.out hsec.out.2 (pad_sec (by rw [Hd.put_length]; decide) (Hd.put_range hq)).2).mono ?_
                rintro e w' ⟨rfl, rfl⟩
                by_cases hbq : b = pad hq.put
                · have ht2 := htold.out
                  rw [if_pos hbq] at ht2
                  rw [decide_eq_true hbq]
                  replace hbq := Aside0.mk hbq; replace ht2 := Aside0.mk ht2
                  go_wp2_with (first
                    | ((with_reducible refine gate_op (.load 72 (.tmp 9)) rfl ?_); refine wpList_load_midB rfl _ _ rfl ⟨hb, 0, none⟩ rfl [.int .i64 age, .bool _, .slice A _ c] _ (cells_row hh14.out) Tryd.underlying72 rfl (size_head _ rfl) ?_)
                    | ((with_reducible refine gate_op (.store 72 (.tmp 4) (.tmp 91)) rfl ?_); refine wpList_store_midB rfl _ _ _ rfl w.heap.size 0 [.int .i64 age, .bool _, .slice A _ c] rfl rfl 72 [.int .i64 0, .bool false, .slice none 0 0] T14.out.row (size_head _ rfl) (Nat.le_refl 3) head_one ?_))
                  refine bodyPost_ret (results_head rfl rfl (setRow_heap _ _ _ _ _ _ T14.out.row) rfl) rfl ?_
                  have kR := fun cs => KeepF.setRow w14 w.heap.size cs
                  refine ⟨hq, A, c, ?_, fun _ => ht2.out.symm, by rw [hqn.out]; exact hmc', Kd_C_keep hCC.out (fun ad e _ (hE : ad.block = w.heap.size) => ?_) (kR _), fun ad e => ?_, ?_⟩
                  · rw [hqV.out, if_neg hl.out]; rfl
                  · have h1 := hfar.out ad e
                    have h2 := T10.out.n1
                    have h3 := T10.out.n3
                    omega
                  · have h1 := hfar.out ad e
                    have h2 := T10.out.n1
                    have h3 := T10.out.n3
                    omega
                  · exact T14.out.bel.trans ((kR _).to_below T14.out.bel.size (fun i e => by omega))
                · have ht2 := htold.out
                  rw [if_neg hbq] at ht2
                  rw [decide_eq_false hbq]
                  replace hbq := Aside0.mk hbq; replace ht2 := Aside0.mk ht2
                  go_wp2_with ((with_reducible refine gate_op (.store 72 (.tmp 4) (.tmp 90)) rfl ?_); refine wpList_store_midB rfl _ _ _ rfl w.heap.size 0 [.int .i64 0, .bool false, .slice none 0 0] rfl rfl 72 [.int .i64 0, .bool false, .slice none 0 0] T14.out.row (size_head _ rfl) (Nat.le_refl 3) head_one ?_)
                  refine bodyPost_ret (results_head rfl rfl (setRow_heap _ _ _ _ _ _ T14.out.row) rfl) rfl ?_
                  exact hz.out _ (T14.out.bel.trans ((KeepF.setRow w14 w.heap.size _).to_below T14.out.bel.size (fun i e => by omega))) (fun _ => ht2.out.symm))
        · have k3' : (age % 2 != (slot : Int)) = true := by simpa using k3
          replace htz := htz (hbad.2 (.inr (.inr (.inl k3))))
          clear hbad k3
          go_wp2_with (first
            | ((with_reducible refine gate_op (.store 72 (.tmp 4) (.tmp 69)) rfl ?_); refine wpList_store_midB rfl _ _ _ rfl w.heap.size 0 [.int .i64 0, .bool false, .slice none 0 0] rfl rfl 72 [.int .i64 0, .bool false, .slice none 0 0] T10.out.row (size_head _ rfl) (Nat.le_refl 3) head_one ?_))
          refine bodyPost_ret (results_head rfl rfl (setRow_heap _ _ _ _ _ _ T10.out.row) rfl) rfl ?_
          exact hz.out _ (T10.out.bel.trans ((KeepF.setRow w10 w.heap.size _).to_below T10.out.bel.size (fun i e => by omega))) (fun _ => htz.out)
end Go.Proofs.YtiibfboendnifaaDoor.Sl
namespace Go.Proofs.YtiibfboendnifaaDoor.Sl
set_option linter.unusedVariables false
set_option linter.unusedSimpArgs false
open Go.RowKit Go.Proofs.Bk Go.Proofs.Bm Go.Proofs.YtiibfboendnifaaDoor.Dk Go.Proofs.YtiibfboendnifaaDoorW.PrintWords

theorem hd0_ok : hd0.Ok := ⟨Int.le_refl _, by decide, (by intro x hx; cases hx), by decide⟩
theorem toldOf_ok {w : World} {B K M : Nat} {D : Dsk} (h : IsDisk w B K M D) (h4 : 4 ≤ D.kept.length) (slot : Nat) (hs : slot ≤ 1) : (toldOf D slot).Ok := by
  have hhl := half_le h
  have hrl := runOf_length h (fromOf D slot) (halfOf D) (by
    unfold fromOf halfOf
    rcases (by omega : slot = 0 ∨ slot = 1) with rfl | rfl <;> omega)
  unfold toldOf
  split
  · exact hd0_ok
  · rename_i hb
    split
    · have h1 : 1 ≤ rawAge (D.sec slot) := by
        apply Decidable.byContradiction; intro hc; exact hb (.inl (by omega))
      have h2 : rawAge (D.sec slot) ≤ 1099511627776 := by
        apply Decidable.byContradiction; intro hc; exact hb (.inr (.inl (by omega)))
      exact ⟨by show 0 ≤ rawAge _; omega, h2, fun x hx => hrl.2 x (List.mem_of_mem_take hx), by show ((runOf D _ _).take _).length ≤ _; rw [List.length_take]; omega⟩
    · exact hd0_ok
def newer (a b : Hd) : Hd := if a.age < b.age then b else a
def openK (D : Dsk) : Nat → Hd
  | 0 => hd0
  | k + 1 => newer (openK D k) (toldOf D k)
def openOf (D : Dsk) : Hd := openK D 2
def OpenPost (B K M : Nat) (D : Dsk) (w : World) (e : Ending) (w' : World) : Prop :=
  ∃ v, e = .returned (.tuple #[v, .int .i64 (if D.kept.length < 4 then 1 else if D.left = 0 then 19 else 0)]) ∧ Below w.heap.size w w' ∧
    ((D.kept.length < 4 ∨ D.left = 0) → v = .pointer none) ∧
    (¬ (D.kept.length < 4 ∨ D.left = 0) → ∃ S, v = .pointer (some ⟨S, 0, none⟩) ∧ w.heap.size ≤ S ∧ Sto w' S B K M D (openOf D))

set_option maxHeartbeats 8000000 in
set_option maxRecDepth 100000 in
theorem Open_calls (B K M : Nat) (D : Dsk) (w : World) (hT : Tab w) (h : IsDisk w B K M D) (hz : ¬ FD B K M 0) :
    Calls Tryd.prog 12 #[.pointer (some ⟨B, 0, none⟩)] w (OpenPost B K M D w) := by
  have H := Aside0.mk h
  by_cases h4 : D.kept.length < 4
  · have fin : OpenPost B K M D w (.returned (.tuple #[.pointer none, .int .i64 1])) w := ⟨_, by rw [if_pos h4], Below.refl _ _, fun _ => rfl, fun hn => absurd (.inl h4) hn⟩
    have hlt : (D.kept.length : Int) < 4 := by omega
    obtain ⟨n, hn⟩ : ∃ n, D.kept.length = n := ⟨_, rfl⟩
    rw [hn] at hlt
    replace fin := Aside0.mk fin; replace hn := Aside0.mk hn
    clear h h4 hT
    go_enter Tryd.func12, Tryd.ntmps12
    go_wp2_with (go_at_call 34; refine (Len_calls B K M D w H.out).mono ?_; rintro e w' ⟨rfl, rfl⟩; rw [hn.out])
    go_ret2
    exact fin.out
  · have h4' : 4 ≤ D.kept.length := by omega
    have hlt : ¬ (D.kept.length : Int) < 4 := by omega
    have h0s : 0 < w.heap.size := by
      have := World.block_lt_of_cell? w _ (hT 0 (by decide))
      exact this
    obtain ⟨n, hn⟩ : ∃ n, D.kept.length = n := ⟨_, rfl⟩
    rw [hn] at hlt
    replace hn := Aside0.mk hn
    have hbA := below_alloc (Below.refl w.heap.size w) (.cells #[.int .i64 0, .bool false, .slice none 0 0, .pointer (some ⟨B, 0, none⟩)] 74)
    have hfr : ¬ FD B K M w.heap.size := by have := h.lts; unfold FD; omega
    have s0 : Sto (w.alloc (.cells #[.int .i64 0, .bool false, .slice none 0 0, .pointer (some ⟨B, 0, none⟩)] 74)) w.heap.size B K M D hd0 :=
      ⟨h.below hbA, ⟨none, 0, heap_alloc_same _ _, Nat.le_refl _, Kd.C_nil _ _, (fun ad e => by cases e)⟩, hfr, hd0_ok, fun hf => by
        rcases hf with hf | hf
        · exact hz hf
        · omega⟩
    obtain ⟨w1, hw1⟩ : ∃ w1, w.alloc (.cells #[.int .i64 0, .bool false, .slice none 0 0, .pointer (some ⟨B, 0, none⟩)] 74) = w1 := ⟨_, rfl⟩
    rw [hw1] at hbA s0
    have hS1 : w.heap.size < w1.heap.size := by rw [← hw1]; simp
    have hT1 := hT.step hbA
    replace h := Aside0.mk h; replace h4 := Aside0.mk h4; replace h4' := Aside0.mk h4'; replace hT := Aside0.mk hT; replace hbA := Aside0.mk hbA; replace s0 := Aside0.mk s0; replace hT1 := Aside0.mk hT1; replace hfr := Aside0.mk hfr
    go_enter Tryd.func12, Tryd.ntmps12
    go_wp2_with (go_at_call 34; refine (Len_calls B K M D w H.out).mono ?_; rintro e w' ⟨rfl, rfl⟩; rw [hn.out])
    by_cases hl : D.left = 0
    · have fin : ∀ w', Below w.heap.size w w' → OpenPost B K M D w (.returned (.tuple #[.pointer none, .int .i64 19])) w' := fun w' hb => ⟨_, by rw [if_neg h4.out, if_pos hl], hb, fun _ => rfl, fun hn => absurd (.inr hl) hn⟩
      replace fin := Aside0.mk fin
      replace hw1 := Aside0.mk hw1
      go_loopw [14] (fun i wr => i = .int .i64 0 ∧ wr = w1) (fun _ _ => 0)
      case atStart => exact ⟨rfl, rfl⟩
      case round =>
        obtain ⟨rfl, rfl⟩ := hrel
        go_wp2_with (go_at_call 35; refine (told_calls B K M D 0 _ hT1.out s0.out.dk h4'.out (by omega)).mono ?_; rintro e w2 ⟨Hh, A, c, rfl, _, _, _, _, hb2⟩; rw [if_pos hl]; obtain ⟨n1, hn1⟩ : ∃ x, Hh.img.length = x := ⟨_, rfl⟩; have hV : hdV Hh A c = #[.int .i64 Hh.age, .bool Hh.has, .slice A n1 c] := (by unfold hdV; rw [hn1]); rw [hV]; replace hb2 := Aside0.mk hb2; replace hn1 := Aside0.mk hn1; replace hV := Aside0.mk hV)
        go_ret2
        exact fin.out _ (below_step hbA.out (below_alloc hb2.out _))
    · replace hw1 := Aside0.mk hw1
      go_loopw [14] (fun i wr => ∃ k : Nat, i = .int .i64 k ∧ k ≤ 2 ∧ Aside0 (Sto wr w.heap.size B K M D (openK D k)) ∧ Aside0 (Below w.heap.size w wr))
        (fun i _ => 2 - (intOf i).toNat)
      case atStart => exact ⟨0, rfl, by omega, s0, hbA⟩
      case round =>
        obtain ⟨k, rfl, hk, hs, hB⟩ := hrel
        by_cases hlt2 : k < 2
        · have hk2 : (k : Int) < 2 := by omega
          go_wp2_with (go_at_call 35; refine (told_calls B K M D k wr (hT.out.step hB.out) hs.out.dk h4'.out (by omega)).mono ?_; rintro e w2 ⟨Hh, A, c, rfl, hH, hc, hC, hf, hb2⟩; rw [if_neg hl]; replace hH := hH hl; have hok : Hh.Ok := (by rw [hH]; exact toldOf_ok hs.out.dk h4'.out k (by omega)); obtain ⟨a1, ha1⟩ : ∃ x, Hh.age = x := ⟨_, rfl⟩; obtain ⟨b1, hb1⟩ : ∃ x, Hh.has = x := ⟨_, rfl⟩; obtain ⟨n1, hn1⟩ : ∃ x, Hh.img.length = x := ⟨_, rfl⟩; have hV : hdV Hh A c = #[.int .i64 a1, .bool b1, .slice A n1 c] := (by unfold hdV; rw [ha1, hb1, hn1]); rw [hV]; replace hH := Aside0.mk hH; replace hc := Aside0.mk hc; replace hC := Aside0.mk hC; replace hf := Aside0.mk hf; replace hb2 := Aside0.mk hb2; replace hok := Aside0.mk hok; replace ha1 := Aside0.mk ha1; replace hb1 := Aside0.mk hb1; replace hn1 := Aside0.mk hn1; replace hV := Aside0.mk hV)
          have hbB := below_alloc (Below.refl w2.heap.size w2) (.cells #[.int .i64 a1, .bool b1, .slice A n1 c] 72)
          have s2 := (hs.out.below hb2.out).below hbB
          have hB2 := below_step (below_step hB.out hb2.out) hbB
          have hC2 := Kd.C_below hC.out hbB
          have hr0 : (w2.alloc (.cells #[.int .i64 a1, .bool b1, .slice A n1 c] 72)).heap[w2.heap.size]? = some (.cells #[.int .i64 a1, .bool b1, .slice A n1 c] 72 (0, 0)) := heap_alloc_same _ _
          have hlt3 := (s2.st).choose_spec.choose_spec.1
          obtain ⟨V, hV2⟩ : ∃ V, w2.alloc (.cells #[.int .i64 a1, .bool b1, .slice A n1 c] 72) = V := ⟨_, rfl⟩
          obtain ⟨g, hg⟩ : ∃ g, w2.heap.size = g := ⟨_, rfl⟩
          rw [hV2] at s2 hB2 hC2 hr0 hbB ⊢
          rw [hg] at hr0 ⊢
          obtain ⟨A0, c0, x0, x1, x2, x3, _⟩ := s2.cells
          obtain ⟨a0, ha0⟩ : ∃ x, (openK D k).age = x := ⟨_, rfl⟩
          rw [ha0] at x0
          have z0 : V.cell? ⟨g, 0, none⟩ = some (.int .i64 a1) := (cell_row hr0 0).trans rfl
          have z1 : V.cell? ⟨g, 1, none⟩ = some (.bool b1) := (cell_row hr0 1).trans rfl
          have z2 : V.cell? ⟨g, 2, none⟩ = some (.slice A n1 c) := (cell_row hr0 2).trans rfl
          clear x1 x2 x3 hlt3
          replace hbB := Aside0.mk hbB; replace s2 := Aside0.mk s2; replace hB2 := Aside0.mk hB2; replace hC2 := Aside0.mk hC2; replace hr0 := Aside0.mk hr0; replace hV2 := Aside0.mk hV2; replace hg := Aside0.mk hg; replace ha0 := Aside0.mk ha0
          have hkk : openK D (k + 1) = newer (openK D k) Hh := by rw [hH.out]; rfl
          have hk1 : (k : Int) + 1 = ((k + 1 : Nat) : Int) := by omega
          replace hk1 := Aside0.mk hk1
          by_cases hlt4 : a0 < a1
          · have hn4 : openK D (k + 1) = Hh := by rw [hkk]; unfold newer; rw [ha0.out, ha1.out, if_pos hlt4]
            replace hn4 := Aside0.mk hn4; replace hkk := Aside0.mk hkk
            go_wp2_with fail
            go_quiet (fail)
            have hbU : Below V.heap.size V (V.drewN nq) := pw_below_drewN (Below.refl _ _) nq
            obtain ⟨U, hU⟩ : ∃ U, V.drewN nq = U := ⟨_, rfl⟩
            rw [hU] at hbU ⊢
            have s3 := s2.out.below hbU
            have hB3 := below_step hB2.out hbU
            have hr3 := (hbU.block g (Array.getElem?_eq_some_iff.1 hr0.out).1).trans hr0.out
            have hC3 := Kd.C_below hC2.out hbU
            obtain ⟨cur, hcu, hcl, s4, k4⟩ := s3.setHead Hh A c hok.out hc.out hC3 (fun ad e => by have := hf.out ad e; exact hs.out.fresh _ this)
            rw [hV.out] at s4 k4
            have hB4 := hB3.trans (k4.to_below hB3.size (fun i hi => by omega))
            replace hcu := Aside0.mk hcu; replace hcl := Aside0.mk hcl; replace s4 := Aside0.mk s4; replace k4 := Aside0.mk k4; replace hB4 := Aside0.mk hB4; replace hbU := Aside0.mk hbU; replace s3 := Aside0.mk s3; replace hB3 := Aside0.mk hB3; replace hr3 := Aside0.mk hr3; replace hC3 := Aside0.mk hC3; replace hU := Aside0.mk hU
            go_wp2_with (first
              | ((with_reducible refine gate_op (.load 72 (.tmp 6)) rfl ?_); refine wpList_load_midB rfl _ _ rfl ⟨g, 0, none⟩ rfl [.int .i64 a1, .bool b1, .slice A n1 c] _ (cells_row hr3.out) Tryd.underlying72 rfl (size_head _ rfl) ?_)
              | ((with_reducible refine gate_op (.store 72 (.tmp 37) (.tmp 35)) rfl ?_); refine wpList_store_midB rfl _ _ _ rfl w.heap.size 0 [.int .i64 a1, .bool b1, .slice A n1 c] rfl rfl 74 cur hcu.out (size_head _ rfl) (by rw [hcl.out]; show 0 + 3 ≤ 4; omega) head_one ?_))
            go_roundw
            case measure => show 2 - ((k : Int) + 1).toNat < 2 - (k : Int).toNat; omega
            case rel => exact ⟨k + 1, by rw [hk1.out], by omega, ⟨by rw [hn4.out]; exact s4.out⟩, hB4⟩
          · have hn4 : openK D (k + 1) = openK D k := by rw [hkk]; unfold newer; rw [ha0.out, ha1.out, if_neg hlt4]
            replace hn4 := Aside0.mk hn4; replace hkk := Aside0.mk hkk
            go_wp2_with fail
            go_quiet (fail)
            have hbU : Below V.heap.size V (V.drewN nq) := pw_below_drewN (Below.refl _ _) nq
            obtain ⟨U, hU⟩ : ∃ U, V.drewN nq = U := ⟨_, rfl⟩
            rw [hU] at hbU ⊢
            have s3 := s2.out.below hbU
            have hB3 := below_step hB2.out hbU
            replace hbU := Aside0.mk hbU; replace s3 := Aside0.mk s3; replace hB3 := Aside0.mk hB3; replace hU := Aside0.mk hU
            go_wp2_with fail
            go_roundw
            case measure => show 2 - ((k : Int) + 1).toNat < 2 - (k : Int).toNat; omega
            case rel => exact ⟨k + 1, by rw [hk1.out], by omega, ⟨by rw [hn4.out]; exact s3.out⟩, hB3⟩
        · have hk2 : k = 2 := by omega
          subst hk2
          have hnl : ¬ (D.kept.length < 4 ∨ D.left = 0) := fun hh => hh.elim h4.out hl
          have fin : OpenPost B K M D w (.returned (.tuple #[.pointer (some ⟨w.heap.size, 0, none⟩), .int .i64 0])) wr :=
            ⟨_, by rw [if_neg h4.out, if_neg hl], hB.out, fun hn => absurd hn hnl, fun _ => ⟨w.heap.size, rfl, Nat.le_refl _, hs.out⟩⟩
          replace fin := Aside0.mk fin
          go_wp2_with fail
          go_ret2
          exact fin.out
end Go.Proofs.YtiibfboendnifaaDoor.Sl
