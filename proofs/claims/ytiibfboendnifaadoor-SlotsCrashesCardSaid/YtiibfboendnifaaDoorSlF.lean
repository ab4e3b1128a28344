/- seal of package slots: a head is written, kept, and the store's. -/
import Derived.Test.YtiibfboendnifaaDoorSlE
namespace Go.Proofs.YtiibfboendnifaaDoor.Sl
set_option linter.unusedVariables false
set_option linter.unusedSimpArgs false
open Go.RowKit Go.Proofs.Bk Go.Proofs.Bm Go.Proofs.YtiibfboendnifaaDoor.Dk Go.Proofs.YtiibfboendnifaaDoorW.PrintWords

def sealOf (D : Dsk) (h0 h : Hd) : Int × Dsk × Hd :=
  if D.wrErr (h.age % 2) h.put ≠ 0 then (D.wrErr (h.age % 2) h.put, D.wrt (h.age % 2) h.put, h0)
  else if (D.wrt (h.age % 2) h.put).flErr ≠ 0 then ((D.wrt (h.age % 2) h.put).flErr, (D.wrt (h.age % 2) h.put).fl, h0)
  else (0, (D.wrt (h.age % 2) h.put).fl, h)
def SealPost (S B K M : Nat) (D : Dsk) (h0 h : Hd) (w : World) (e : Ending) (w' : World) : Prop :=
  e = .returned (.int .i64 (sealOf D h0 h).1) ∧ Sto w' S B K M (sealOf D h0 h).2.1 (sealOf D h0 h).2.2 ∧ KeepF (FS S B K M) w w'
theorem keepF_fs {w w' : World} {S B K M : Nat} (h : KeepF (FD B K M) w w') : KeepF (FS S B K M) w w' := h.mono (fun _ hi => .inl hi)
theorem own_cf {w : World} {base n : Nat} {v : Value} {xs : List Int} {F : Nat → Prop} (h : w.ownsRow base 5 1 v n (byt xs)) (hn : xs.length = n) (hF : ∀ k, base ≤ k → ¬ F k) : ∃ A c, v = .slice A n c ∧ CF F .u8 w A n xs := by
  obtain ⟨A, c, rfl, hC⟩ := bytes_of_row h hn
  exact ⟨A, c, rfl, hC, fun ad e _ => hF _ (own_base h _ (by rw [e]; rfl))⟩
theorem Sto.fresh {w : World} {S B K M : Nat} {D : Dsk} {h : Hd} (s : Sto w S B K M D h) : ∀ k, w.heap.size ≤ k → ¬ FS S B K M k := by
  intro k hk hf
  have := s.dk.lts
  obtain ⟨A, c, h1, _⟩ := s.st
  have := (Array.getElem?_eq_some_iff.1 h1).1
  rcases hf with hf | hf
  · unfold FD at hf; omega
  · omega

theorem keepF_cell {F : Nat → Prop} {w w' : World} (h : KeepF F w w') {a : Addr} {v : Value} (hc : w.cell? a = some v) (hn : ¬ F a.block) : w'.cell? a = some v :=
  (World.cell?_of_block (w := w) (h.block _ (World.block_lt_of_cell? w _ hc) hn)).trans hc
theorem below_undrew {w w' : World} (h : Below w.drew.heap.size w.drew w') : Below w.heap.size w w' := ⟨h.os, h.tape, h.output, h.size, h.block⟩
/-- the store's head is another one -/
theorem Sto.setHead {w : World} {S B K M : Nat} {D : Dsk} {h0 : Hd} (s : Sto w S B K M D h0) (h : Hd) (A : Option Addr) (c : Nat) (ho : h.Ok) (hc : h.img.length ≤ c) (hC : (Kd.int .u8).C w A h.img.length h.img) (hf : ∀ ad, A = some ad → ¬ FS S B K M ad.block) :
    ∃ cur : List Value, w.heap[S]? = some (.cells cur.toArray 74 (0, 0)) ∧ cur.length = 4 ∧ Sto (w.setRow S (splice cur 0 (hdV h A c).toList).toArray) S B K M D h ∧ KeepF (fun i => i = S) w (w.setRow S (splice cur 0 (hdV h A c).toList).toArray) := by
  obtain ⟨A0, c0, h1, h2, h3, h4⟩ := s.st
  refine ⟨[.int .i64 h0.age, .bool h0.has, .slice A0 h0.img.length c0, .pointer (some ⟨B, 0, none⟩)], h1, rfl, ?_, KeepF.setRow _ _ _⟩
  have hk := KeepF.setRow w S (splice [.int .i64 h0.age, .bool h0.has, .slice A0 h0.img.length c0, .pointer (some ⟨B, 0, none⟩)] 0 (hdV h A c).toList).toArray
  refine ⟨s.dk.of_keep hk (fun e => s.sf (.inl e.symm)) (fun e => s.sf (.inr (.inl e.symm))) (fun e => s.sf (.inr (.inr e.symm))), ⟨A, c, setRow_heap _ _ _ _ _ _ h1, hc, Kd_C_keep hC (fun ad e _ he => hf ad e (.inr he)) hk, hf⟩, s.sf, ho, s.nz⟩

set_option maxHeartbeats 8000000 in
set_option maxRecDepth 100000 in
theorem seal_calls (S B K M : Nat) (D : Dsk) (h0 h : Hd) (A : Option Addr) (c : Nat) (w : World) (hT : Tab w) (s : Sto w S B K M D h0) (ho : h.Ok) (hc : h.img.length ≤ c) (hC : (Kd.int .u8).C w A h.img.length h.img) (hf : ∀ ad, A = some ad → ¬ FS S B K M ad.block) :
    Calls Tryd.prog 40 #[.pointer (some ⟨S, 0, none⟩), .agg (hdV h A c)] w (SealPost S B K M D h0 h w) := by
  have hbA := below_alloc (Below.refl w.heap.size w) (.cells (hdV h A c) 72)
  have s1 := s.below hbA
  have hT1 := hT.step hbA
  have hC1 := Kd.C_below hC hbA
  have a0 := ho.a0
  obtain ⟨_, _, _, _, _, c3, _⟩ := s1.cells
  have x0 : (w.alloc (.cells (hdV h A c) 72)).cell? ⟨w.heap.size, 0, none⟩ = some (.int .i64 h.age) := by rw [cell_row (heap_alloc_same w _)]; rfl
  have x1 : (w.alloc (.cells (hdV h A c) 72)).cell? ⟨w.heap.size, 1, none⟩ = some (.bool h.has) := by rw [cell_row (heap_alloc_same w _)]; rfl
  have x2 : (w.alloc (.cells (hdV h A c) 72)).cell? ⟨w.heap.size, 2, none⟩ = some (.slice A h.img.length c) := by rw [cell_row (heap_alloc_same w _)]; rfl
  obtain ⟨WA, hWA⟩ : ∃ WA, WA = w.alloc (.cells (hdV h A c) 72) := ⟨_, rfl⟩
  rw [← hWA] at hbA s1 hT1 hC1 c3 x0 x1 x2
  have hw0 : w.heap.size < WA.heap.size := by rw [hWA]; simp
  have hV : hdV h A c = #[.int .i64 h.age, .bool h.has, .slice A h.img.length c] := rfl
  obtain ⟨age, hage⟩ : ∃ age, h.age = age := ⟨_, rfl⟩
  obtain ⟨has, hhas⟩ : ∃ has, h.has = has := ⟨_, rfl⟩
  obtain ⟨n, hnl⟩ : ∃ n, h.img.length = n := ⟨_, rfl⟩
  rw [hage] at x0 a0 hV
  rw [hhas] at x1 hV
  rw [hnl] at x2 hV
  have hput := fun W (hTW : Tab W) (hCW : (Kd.int .u8).C W A h.img.length h.img) => put_calls h A c W hTW ho hCW
  rw [hV] at hWA ⊢
  simp only [hV] at hput
  replace hWA := hWA.symm
  replace hput := Aside0.mk hput; replace hbA := Aside0.mk hbA; replace s1 := Aside0.mk s1; replace hT1 := Aside0.mk hT1; replace hC1 := Aside0.mk hC1; replace hC := Aside0.mk hC; replace s := Aside0.mk s; replace hT := Aside0.mk hT; replace ho := Aside0.mk ho; replace hc := Aside0.mk hc; replace hf := Aside0.mk hf; replace hage := Aside0.mk hage; replace hhas := Aside0.mk hhas; replace hnl := Aside0.mk hnl; replace hV := Aside0.mk hV
  go_enter Tryd.func40, Tryd.ntmps40
  go_wp2_with fail
  try rw [hWA]
  replace hWA := Aside0.mk hWA
  have nS := s1.out.sf
  have nH : ¬ FD B K M w.heap.size := fun hF => s.out.fresh _ (Nat.le_refl _) (.inl hF)
  have nN : ∀ k, WA.drew.heap.size ≤ k → ¬ FD B K M k := fun k hk hF => s1.out.fresh k hk (.inl hF)
  have htm := Int.tmod_eq_emod_of_nonneg (b := 2) a0
  replace nS := Aside0.mk nS; replace nH := Aside0.mk nH; replace nN := Aside0.mk nN; replace htm := Aside0.mk htm
  go_region_held3 (fun w' => w'.cell? ⟨S, 3, none⟩ = some (.pointer (some ⟨B, 0, none⟩)) ∧ w'.cell? ⟨w.heap.size, 0, none⟩ = some (.int .i64 age) ∧ w'.cell? ⟨w.heap.size, 1, none⟩ = some (.bool has) ∧ w'.cell? ⟨w.heap.size, 2, none⟩ = some (.slice A n c))
    (first | go_keep | exact ⟨pw_cell_below hb c3, pw_cell_below hb x0, pw_cell_below hb x1, pw_cell_below hb x2⟩ | exact ⟨keepF_cell hk2.out (pw_cell_below hb.out c3) nS.out, keepF_cell hk2.out (pw_cell_below hb.out x0) nH.out, keepF_cell hk2.out (pw_cell_below hb.out x1) nH.out, keepF_cell hk2.out (pw_cell_below hb.out x2) nH.out⟩)
    (first
      | (go_at_call 60; refine (hput.out WA.drew hT1.out hC1.out).mono ?_; rintro e w1 ⟨v, rfl, hv, hb⟩; replace hb := below_undrew hb; obtain ⟨A5, c5, rfl, hcf⟩ := own_cf (F := FD B K M) hv (Hd.put_length h) nN.out)
      | (go_at_call 38; rw [htm.out]; refine (Write_calls B K M D (age % 2) A5 25 c5 h.put w1 (s1.out.dk.below hb) hcf (Hd.put_range h)).mono ?_; rintro e w2 ⟨rfl, hd2, hk2⟩; replace hd2 := Aside0.mk hd2; replace hk2 := Aside0.mk hk2; replace hb := Aside0.mk hb))
  have s2 := (s1.out.below hb.out).keep hk2.out hd2.out
  have k2 : KeepF (FS S B K M) w w2 := (KeepF.of_below (F := FS S B K M) (below_step hbA.out hb.out)).trans hk2.out (fun _ _ h => .inl h)
  have y3 := keepF_cell hk2.out (pw_cell_below hb.out c3) nS.out
  have y0 := keepF_cell hk2.out (pw_cell_below hb.out x0) nH.out
  have y1 := keepF_cell hk2.out (pw_cell_below hb.out x1) nH.out
  have y2 := keepF_cell hk2.out (pw_cell_below hb.out x2) nH.out
  have hC2 := Kd_C_keep (Kd.C_below hC1.out hb.out) (fun ad e _ hF => hf.out ad e (.inl hF)) hk2.out
  have hso : sealOf D h0 h = if D.wrErr (age % 2) h.put ≠ 0 then (D.wrErr (age % 2) h.put, D.wrt (age % 2) h.put, h0) else if (D.wrt (age % 2) h.put).flErr ≠ 0 then ((D.wrt (age % 2) h.put).flErr, (D.wrt (age % 2) h.put).fl, h0) else (0, (D.wrt (age % 2) h.put).fl, h) := by unfold sealOf; rw [hage.out]
  obtain ⟨q, hq⟩ : ∃ q, D.wrErr (age % 2) h.put = q := ⟨_, rfl⟩
  obtain ⟨D1, hD1⟩ : ∃ D1, D.wrt (age % 2) h.put = D1 := ⟨_, rfl⟩
  rw [hq, hD1] at hso
  rw [hD1] at hd2 s2
  rw [hq]
  clear hq hD1 c3 x0 x1 x2 hk2 hb hC1 hcf hv
  by_cases hq0 : q = 0
  · subst hq0
    rw [if_neg (by simp)] at hso
    replace s2 := Aside0.mk s2; replace k2 := Aside0.mk k2; replace hC2 := Aside0.mk hC2; replace hso := Aside0.mk hso
    go_wp2_with fail
    refine (Flush_calls B K M D1 _ hd2.out).mono ?_
    rintro e w3 ⟨rfl, hd3, hk3⟩
    have s3 := s2.out.keep hk3 hd3
    have k3 := k2.out.trans hk3 (fun _ _ h => .inl h)
    have z0 := keepF_cell hk3 y0 nH.out
    have z1 := keepF_cell hk3 y1 nH.out
    have z2 := keepF_cell hk3 y2 nH.out
    have hC3 := Kd_C_keep hC2.out (fun ad e _ hF => hf.out ad e (.inl hF)) hk3
    obtain ⟨p, hp⟩ : ∃ p, D1.flErr = p := ⟨_, rfl⟩
    replace hso := hso.out
    rw [hp] at hso ⊢
    clear y0 y1 y2 y3 hp
    by_cases hp0 : p = 0
    · subst hp0
      rw [if_neg (by simp)] at hso
      obtain ⟨cur, hcu, hcl, s4, k4⟩ := s3.setHead h A c ho.out hc.out hC3 hf.out
      rw [hV.out] at s4 k4
      have k5 := k3.trans k4 (fun _ _ h => .inr h)
      replace hcu := Aside0.mk hcu; replace hcl := Aside0.mk hcl; replace s3 := Aside0.mk s3; replace k3 := Aside0.mk k3; replace hC3 := Aside0.mk hC3; replace s4 := Aside0.mk s4; replace k4 := Aside0.mk k4; replace k5 := Aside0.mk k5; replace hso := Aside0.mk hso; replace hd3 := Aside0.mk hd3; replace hk3 := Aside0.mk hk3
      have hq1 : (Tryd.prog.info? 72).map (·.size) = some ([Value.int .i64 age, Value.bool has, Value.slice A n c] : List Value).length := by kernel_rfl
      have hq3 : ∀ v ∈ ([Value.int .i64 age, Value.bool has, Value.slice A n c] : List Value), v.oneCell' = true := by intro v hv; simp at hv; rcases hv with e | e | e <;> rw [e] <;> rfl
      have hq2 : 0 + ([Value.int .i64 age, Value.bool has, Value.slice A n c] : List Value).length ≤ cur.length := by rw [hcl.out]; show 0 + 3 ≤ 4; omega
      replace hq1 := Aside0.mk hq1; replace hq2 := Aside0.mk hq2; replace hq3 := Aside0.mk hq3
      go_wp2_with ((with_reducible refine gate_op (.store 72 (.tmp 31) (.tmp 29)) rfl ?_); refine wpList_store_midB rfl _ _ _ rfl S 0 [.int .i64 age, .bool has, .slice A n c] rfl rfl 74 cur hcu.out hq1.out hq2.out hq3.out ?_)
      go_ret
      unfold SealPost
      rw [hso.out]
      exact ⟨rfl, s4.out, k5.out⟩
    · rw [if_pos (by simpa using hp0)] at hso
      have hp0' : (p != 0) = true := by simpa using hp0
      clear hp0
      replace s3 := Aside0.mk s3; replace k3 := Aside0.mk k3; replace hC3 := Aside0.mk hC3; replace hso := Aside0.mk hso; replace hd3 := Aside0.mk hd3; replace hk3 := Aside0.mk hk3
      go_wp2_with fail
      go_ret
      unfold SealPost
      rw [hso.out]
      exact ⟨rfl, s3.out, k3.out⟩
  · rw [if_pos (by simpa using hq0)] at hso
    have hq0' : (q != 0) = true := by simpa using hq0
    clear hq0
    replace s2 := Aside0.mk s2; replace k2 := Aside0.mk k2; replace hC2 := Aside0.mk hC2; replace hso := Aside0.mk hso
    go_wp2_with fail
    go_ret
    unfold SealPost
    rw [hso.out]
    exact ⟨rfl, s2.out, k2.out⟩
end Go.Proofs.YtiibfboendnifaaDoor.Sl
