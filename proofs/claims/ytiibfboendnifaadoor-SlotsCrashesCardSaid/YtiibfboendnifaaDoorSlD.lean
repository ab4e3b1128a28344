/- A head's bytes: put of package slots. -/
import Derived.Test.YtiibfboendnifaaDoorSlC
import Derived.Lib.SmallJoins
namespace Go.Proofs.YtiibfboendnifaaDoor.Sl
set_option linter.unusedVariables false
set_option linter.unusedSimpArgs false
open Go.RowKit Go.Proofs.Bk Go.Proofs.Bm Go.Proofs.YtiibfboendnifaaDoor.Dk Go.Proofs.YtiibfboendnifaaDoorW.PrintWords

structure Hd where
  age : Int
  has : Bool
  img : List Int
def magic : List Int := [68, 80, 90, 83]
def Hd.chk (h : Hd) : Int := if h.has then crc h.img else 0
def Hd.b1 (h : Hd) : List Int := magic ++ digs h.age 8 ++ digs (if h.has then 1 else 0) 1
def Hd.b2 (h : Hd) : List Int := h.b1 ++ digs h.img.length 4 ++ digs h.chk 4
def Hd.put (h : Hd) : List Int := h.b2 ++ digs (crc h.b2) 4
structure Hd.Ok (h : Hd) : Prop where
  a0 : 0 ≤ h.age
  a1 : h.age ≤ 1099511627776
  b : ∀ x ∈ h.img, 0 ≤ x ∧ x ≤ 255
  n : h.img.length ≤ 1048576
theorem magic_range : ∀ x ∈ magic, 0 ≤ x ∧ x ≤ 255 := by decide
theorem Hd.b1_length (h : Hd) : h.b1.length = 13 := by simp [Hd.b1, magic, digs_length]
theorem Hd.b2_length (h : Hd) : h.b2.length = 21 := by simp [Hd.b2, h.b1_length, digs_length]
theorem Hd.put_length (h : Hd) : h.put.length = 25 := by simp [Hd.put, h.b2_length, digs_length]
theorem Hd.b1_range (h : Hd) : ∀ x ∈ h.b1, 0 ≤ x ∧ x ≤ 255 := by
  intro x hx
  simp only [Hd.b1, List.mem_append] at hx
  rcases hx with (hx | hx) | hx
  · exact magic_range x hx
  · exact digs_range _ _ x hx
  · exact digs_range _ _ x hx
theorem Hd.b2_range (h : Hd) : ∀ x ∈ h.b2, 0 ≤ x ∧ x ≤ 255 := by
  intro x hx
  simp only [Hd.b2, List.mem_append] at hx
  rcases hx with (hx | hx) | hx
  · exact h.b1_range x hx
  · exact digs_range _ _ x hx
  · exact digs_range _ _ x hx
theorem Hd.put_range (h : Hd) : ∀ x ∈ h.put, 0 ≤ x ∧ x ≤ 255 := by
  intro x hx
  simp only [Hd.put, List.mem_append] at hx
  rcases hx with hx | hx
  · exact h.b2_range x hx
  · exact digs_range _ _ x hx

theorem Tab.step {w w' : World} (h : Tab w) (hb : Below w.heap.size w w') : Tab w' := fun j hj => pw_cell_below hb (h j hj)
def PutHPost (h : Hd) (w : World) (e : Ending) (w' : World) : Prop :=
  ∃ v, e = .returned v ∧ w'.ownsRow w.heap.size 5 1 v 25 (byt h.put) ∧ Below w.heap.size w w'

def hdV (h : Hd) (A : Option Addr) (c : Nat) : Array Value := #[.int .i64 h.age, .bool h.has, .slice A h.img.length c]
theorem out_magic (w : World) (base : Nat) : Out (w.alloc (.cells #[.int .u8 68, .int .u8 80, .int .u8 90, .int .u8 83] 5 (4, 5))) base (.slice (some ⟨w.heap.size, 0, none⟩) 4 4) magic := by
  refine .inr ⟨_, rfl, fun j u hj => ?_⟩
  rw [addAt, cell_row (heap_alloc_same w _)]
  rcases j with _ | _ | _ | _ | j
  all_goals simp [byt, magic] at hj
  all_goals subst hj; rfl

set_option maxHeartbeats 8000000 in
set_option maxRecDepth 100000 in
theorem put_calls (h : Hd) (A : Option Addr) (c : Nat) (w : World) (hT : Tab w) (ho : h.Ok) (hC : (Kd.int .u8).C w A h.img.length h.img) :
    Calls Tryd.prog 60 #[.agg (hdV h A c)] w (PutHPost h w) := by
  have hcr := crc_range h.img ho.b
  have hcr2 := crc_range h.b2 h.b2_range
  have hck : h.chk = if h.has then crc h.img else 0 := rfl
  have e1 : h.b1 = magic ++ digs h.age 8 ++ digs (if h.has then 1 else 0) 1 := rfl
  have e2 : h.b2 = h.b1 ++ digs h.img.length 4 ++ digs h.chk 4 := rfl
  have e3 : h.put = h.b2 ++ digs (crc h.b2) 4 := rfl
  have l1 := h.b1_length
  have l2 := h.b2_length
  have l3 := h.put_length
  have r2 := h.b2_range
  obtain ⟨a0, a1, hb, hn⟩ := ho
  unfold hdV PutHPost
  generalize h.put = P at e3 l3 ⊢
  generalize h.b2 = B2 at e2 e3 l2 hcr2 r2
  generalize h.b1 = B1 at e1 e2 l1
  generalize h.chk = CK at hck e2
  obtain ⟨age, has, img⟩ := h
  dsimp only at a0 a1 hb hn hcr hck e1 e2 hC ⊢
  obtain ⟨n, hnl⟩ : ∃ n, img.length = n := ⟨_, rfl⟩
  rw [hnl] at hn hC e2 ⊢
  have hbA := below_alloc (Below.refl w.heap.size w) (.cells #[.int .i64 age, .bool has, .slice A n c] 72)
  have HT := Aside0.mk (hT.step hbA)
  have HC := Aside0.mk (Kd.C_below hC hbA)
  have HB := Aside0.mk hbA
  replace hcr := Aside0.mk hcr; replace hcr2 := Aside0.mk hcr2; replace e3 := Aside0.mk e3; replace l2 := Aside0.mk l2; replace l3 := Aside0.mk l3; replace r2 := Aside0.mk r2
  clear hT hC hbA
  have hage : IntKind.u64.wrap age = age := by rw [IntKind.wrap_u64]; omega
  have hlen : IntKind.u64.wrap (n : Int) = (n : Int) := by rw [IntKind.wrap_u64]; omega
  have hcv : ∀ (n1 c1 : Nat), _ := fun n1 c1 => Go.Joins.run_convert_bytes_const_at (P := Tryd.prog) (w.alloc (.cells #[.int .i64 age, .bool has, .slice A n c] 72)) 32 5 #[.int .u8 68, .int .u8 80, .int .u8 90, .int .u8 83] n1 c1 (w.heap.size + 1) (by simp) Tryd.underlying32 Tryd.underlying5
  change ∀ (n1 c1 : Nat), _ = Result.ok _ (World.alloc _ (.cells _ _ (4, 5))) at hcv
  obtain ⟨W2, hW2⟩ : ∃ W2, W2 = (w.alloc (.cells #[.int .i64 age, .bool has, .slice A n c] 72)).alloc (.cells #[.int .u8 68, .int .u8 80, .int .u8 90, .int .u8 83] 5 (4, 5)) := ⟨_, rfl⟩
  have hb2 := below_alloc (Below.refl (w.alloc (.cells #[.int .i64 age, .bool has, .slice A n c] 72)).heap.size (w.alloc (.cells #[.int .i64 age, .bool has, .slice A n c] 72))) (.cells #[.int .u8 68, .int .u8 80, .int .u8 90, .int .u8 83] 5 (4, 5))
  rw [← hW2] at hb2
  have hbM := below_step HB.out hb2
  have hT1 := HT.out.step hb2
  have hO1 := fun base => out_magic (w.alloc (.cells #[.int .i64 age, .bool has, .slice A n c] 72)) base
  rw [show (w.alloc (.cells #[.int .i64 age, .bool has, .slice A n c] 72)).heap.size = w.heap.size + 1 by simp, ← hW2] at hO1
  have x0 : W2.cell? ⟨w.heap.size, 0, none⟩ = some (.int .i64 age) := pw_cell_below hb2 (by rw [cell_row (heap_alloc_same w _)]; rfl)
  have x2 : W2.cell? ⟨w.heap.size, 2, none⟩ = some (.slice A n c) := pw_cell_below hb2 (by rw [cell_row (heap_alloc_same w _)]; rfl)
  clear hb2
  replace hbM := Aside0.mk hbM; replace hT1 := Aside0.mk hT1; replace hO1 := Aside0.mk hO1
  cases has
  case' true =>
    simp only [if_true] at hck e1
    subst hck
    replace hb := Aside0.mk hb; replace e1 := Aside0.mk e1; replace e2 := Aside0.mk e2; replace l1 := Aside0.mk l1
    go_enter Tryd.func60, Tryd.ntmps60
    go_wp2_with fail
    refine (Of_calls A n c img _ HT.out HC.out hb.out).mono ?_
    rintro e w' ⟨rfl, rfl⟩
    obtain ⟨hcr0, hcr1⟩ := hcr.out
    have hckw : IntKind.u64.wrap (crc img) = crc img := by rw [IntKind.wrap_u64]; omega
    obtain ⟨ck, hck⟩ : ∃ ck, crc img = ck := ⟨_, rfl⟩
    rw [hck] at hcr0 hcr1 hckw e2 ⊢
    go_wp2_with fail
  case' false =>
    simp only [Bool.false_eq_true, if_false] at hck e1
    subst hck
    replace hb := Aside0.mk hb; replace e1 := Aside0.mk e1; replace e2 := Aside0.mk e2; replace l1 := Aside0.mk l1
    go_enter Tryd.func60, Tryd.ntmps60
    go_wp2_with fail
  all_goals (
    rw [← hW2]
    clear hcv hW2
    refine (Put_calls W2.heap.size _ magic age 8 8 W2 (hO1.out _) (Nat.le_refl _) (by decide) a0 (by decide) (by decide)).mono ?_
    rintro e w3 ⟨v1, rfl, _, ho3, hb3⟩
    replace ho3 := ho3 (by decide)
    replace ho3 := Aside0.mk ho3; replace hb3 := Aside0.mk hb3
    go_wp2_with fail
    refine (Put_calls W2.heap.size _ (magic ++ digs age 8) _ 1 1 w3 (.inl ho3.out) hb3.out.size (by simp [magic, digs_length]) (by decide) (by decide) (by decide)).mono ?_
    rintro e w4 ⟨v2, rfl, _, ho4, hb4⟩
    replace ho4 := ho4 (by decide)
    rw [← e1.out] at ho4
    replace hb4 := hb3.out.trans hb4
    have y2 := pw_cell_below hb4 x2
    clear x2
    replace ho4 := Aside0.mk ho4; replace hb4 := Aside0.mk hb4
    go_wp2_with fail
    refine (Put_calls W2.heap.size _ B1 n 4 4 w4 (.inl ho4.out) hb4.out.size (by rw [l1.out]; decide) (by omega) (by decide) (by decide)).mono ?_
    rintro e w5 ⟨v3, rfl, _, ho5, hb5⟩
    replace ho5 := ho5 (by decide)
    replace hb5 := hb4.out.trans hb5
    replace ho5 := Aside0.mk ho5; replace hb5 := Aside0.mk hb5
    go_wp2_with fail
    refine (Put_calls W2.heap.size _ (B1 ++ digs n 4) _ 4 4 w5 (.inl ho5.out) hb5.out.size (by simp [l1.out, digs_length]) (by first | exact hcr0 | decide) (by decide) (by decide)).mono ?_
    rintro e w6 ⟨v4, rfl, _, ho6, hb6⟩
    replace ho6 := ho6 (by decide)
    replace hb6 := hb5.out.trans hb6
    rw [← e2.out, l2.out] at ho6
    obtain ⟨A4, c4, rfl, hC4⟩ := bytes_of_row ho6 l2.out
    have hT6 := hT1.out.step hb6
    replace ho6 := Aside0.mk ho6; replace hb6 := Aside0.mk hb6; replace hC4 := Aside0.mk hC4; replace hT6 := Aside0.mk hT6
    go_wp2_with fail
    refine (Of_calls A4 21 c4 B2 w6 hT6.out hC4.out r2.out).mono ?_
    rintro e w' ⟨rfl, rfl⟩
    obtain ⟨q0, q1⟩ := hcr2.out
    have hckw2 : IntKind.u64.wrap (crc B2) = crc B2 := by rw [IntKind.wrap_u64]; omega
    obtain ⟨ck2, hck2⟩ : ∃ ck, crc B2 = ck := ⟨_, rfl⟩
    rw [hck2] at q0 q1 hckw2 e3 ⊢
    go_wp2_with fail
    refine (Put_calls W2.heap.size _ B2 ck2 4 4 w6 (.inl (by rw [l2.out]; exact ho6.out)) hb6.out.size (by rw [l2.out]; decide) q0 (by decide) (by decide)).mono ?_
    rintro e w7 ⟨v5, rfl, _, ho7, hb7⟩
    replace ho7 := ho7 (by decide)
    replace hb7 := hb6.out.trans hb7
    rw [← e3.out, l3.out] at ho7
    replace ho7 := Aside0.mk ho7; replace hb7 := Aside0.mk hb7
    go_wp2_with fail
    go_ret
    exact ⟨v5, rfl, own_weaken ho7.out hbM.out.size, below_step hbM.out hb7.out⟩)
end Go.Proofs.YtiibfboendnifaaDoor.Sl
