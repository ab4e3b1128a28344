/- Commit and Delete once more: the block in which a store's image lies is told. Written by wip/tools/stog.py. -/
import Derived.Test.YtiibfboendnifaaDoorSl2
namespace Go.Proofs.YtiibfboendnifaaDoor.Sl
set_option linter.unusedVariables false
set_option linter.unusedSimpArgs false
attribute [local go_sem] Go.Proofs.YtiibfboendnifaaDoorW.PrintMore.max2_int Go.Proofs.YtiibfboendnifaaDoorW.PrintMore.min2_int Go.Proofs.YtiibfboendnifaaDoorW.PrintMore.max_two Go.Proofs.YtiibfboendnifaaDoorW.PrintMore.min_two
open Go.RowKit Go.Proofs.Bk Go.Proofs.Bm Go.Proofs.YtiibfboendnifaaDoor.Dk Go.Proofs.YtiibfboendnifaaDoorW.PrintWords

structure StoG (G : Nat → Prop) (w : World) (S B K M : Nat) (D : Dsk) (h : Hd) : Prop extends Sto w S B K M D h where
  g : ∃ A n c, w.cell? ⟨S, 2, none⟩ = some (.slice A n c) ∧ ∀ ad, A = some ad → 0 < n → G ad.block
theorem StoG.keep {G : Nat → Prop} {w w' : World} {S B K M : Nat} {D D' : Dsk} {h : Hd} (s : StoG G w S B K M D h) (hk : KeepF (FD B K M) w w') (hd : IsDisk w' B K M D') : StoG G w' S B K M D' h := by
  obtain ⟨A, n, c, h1, h2⟩ := s.g
  exact ⟨s.toSto.keep hk hd, A, n, c, keepF_cell hk h1 s.sf, h2⟩
theorem StoG.below {G : Nat → Prop} {w w' : World} {S B K M : Nat} {D : Dsk} {h : Hd} (s : StoG G w S B K M D h) (hb : Below w.heap.size w w') : StoG G w' S B K M D h :=
  s.keep (KeepF.of_below hb) (s.dk.below hb)
theorem StoG.setHead {G : Nat → Prop} {w : World} {S B K M : Nat} {D : Dsk} {h0 : Hd} (s : StoG G w S B K M D h0) (h : Hd) (A : Option Addr) (c : Nat) (ho : h.Ok) (hc : h.img.length ≤ c) (hC : (Kd.int .u8).C w A h.img.length h.img) (hf : ∀ ad, A = some ad → ¬ FS S B K M ad.block) (hG : ∀ ad, A = some ad → G ad.block) :
    ∃ cur : List Value, w.heap[S]? = some (.cells cur.toArray 74 (0, 0)) ∧ cur.length = 4 ∧ StoG G (w.setRow S (splice cur 0 (hdV h A c).toList).toArray) S B K M D h ∧ KeepF (fun i => i = S) w (w.setRow S (splice cur 0 (hdV h A c).toList).toArray) := by
  obtain ⟨cur, h1, h2, h3, h4⟩ := s.toSto.setHead h A c ho hc hC hf
  refine ⟨cur, h1, h2, ⟨h3, A, h.img.length, c, ?_, fun ad e _ => hG ad e⟩, h4⟩
  have e := cell_row (setRow_heap _ _ _ _ _ _ h1 : (w.setRow S (splice cur 0 (hdV h A c).toList).toArray).heap[S]? = _) 2
  rw [e]
  obtain ⟨v0, v1, v2, v3, rfl⟩ : ∃ v0 v1 v2 v3, cur = [v0, v1, v2, v3] := by
    match cur, h2 with
    | [v0, v1, v2, v3], _ => exact ⟨v0, v1, v2, v3, rfl⟩
  rfl

def SealPostG (G : Nat → Prop) (S B K M : Nat) (D : Dsk) (h0 h : Hd) (w : World) (e : Ending) (w' : World) : Prop :=
  e = .returned (.int .i64 (sealOf D h0 h).1) ∧ StoG G w' S B K M (sealOf D h0 h).2.1 (sealOf D h0 h).2.2 ∧ KeepF (FS S B K M) w w'
def CommitPostG (G : Nat → Prop) (S B K M : Nat) (D : Dsk) (h0 : Hd) (img : List Int) (w : World) (e : Ending) (w' : World) : Prop :=
  e = .returned (.int .i64 (commitOf D h0 img).1) ∧ StoG G w' S B K M (commitOf D h0 img).2.1 (commitOf D h0 img).2.2 ∧ KeepF (FS S B K M) w w'
def DeletePostG (G : Nat → Prop) (S B K M : Nat) (D : Dsk) (h0 : Hd) (w : World) (e : Ending) (w' : World) : Prop :=
  e = .returned (.int .i64 (deleteOf D h0).1) ∧ StoG G w' S B K M (deleteOf D h0).2.1 (deleteOf D h0).2.2 ∧ KeepF (FS S B K M) w w'

set_option maxHeartbeats 8000000 in
set_option maxRecDepth 100000 in
theorem seal_callsG (G : Nat → Prop) (S B K M : Nat) (D : Dsk) (h0 h : Hd) (A : Option Addr) (c : Nat) (w : World) (hT : Tab w) (s : StoG G w S B K M D h0) (ho : h.Ok) (hc : h.img.length ≤ c) (hC : (Kd.int .u8).C w A h.img.length h.img) (hf : ∀ ad, A = some ad → ¬ FS S B K M ad.block) (hG : ∀ ad, A = some ad → G ad.block) :
    Calls Tryd.prog 40 #[.pointer (some ⟨S, 0, none⟩), .agg (hdV h A c)] w (SealPostG G S B K M D h0 h w) := by
  have hbA := below_alloc (Below.refl w.heap.size w) (.cells (hdV h A c) 72)
  have s1 := s.below hbA
  have hT1 := hT.step hbA
  have hC1 := Kd.C_below hC hbA
  have a0 := ho.a0
  obtain ⟨_, _, _, _, _, c3, _⟩ := s1.cells
  have x0 : (w.alloc (.cells (hdV h A c) 72)).cell? ⟨w.heap.size, 0, none⟩ = some (.int .i64 h.age) := by rw [cell_row (heap_alloc_same w _)]; rfl
  have x1 : (w.alloc (.cells (hdV h A c) 72)).cell? ⟨w.heap.size, 1, none⟩ = some (.bool h.has) := by rw [cell_row (heap_alloc_same w _)]; rfl
  have x2 : (w.alloc (.cells (hdV h A c) 72)).cell? ⟨w.heap.size, 2, none⟩ = some (.slice A h.img.length c) := by rw [cell_row (heap_alloc_same w _)]; rfl
  obtain ⟨WA, hWA⟩ : ∃ WA, WA = w.alloc (.cells (hdV h A c) 72) := ⟨_, rfl⟩
  rw [← hWA] at hbA s1 hT1 hC1 c3 x0 x1 x2
  have hw0 : w.heap.size < WA.heap.size := by rw [hWA]; simp
  have hV : hdV h A c = #[.int .i64 h.age, .bool h.has, .slice A h.img.length c] := rfl
  obtain ⟨age, hage⟩ : ∃ age, h.age = age := ⟨_, rfl⟩
  obtain ⟨has, hhas⟩ : ∃ has, h.has = has := ⟨_, rfl⟩
  obtain ⟨n, hnl⟩ : ∃ n, h.img.length = n := ⟨_, rfl⟩
  rw [hage] at x0 a0 hV
  rw [hhas] at x1 hV
  rw [hnl] at x2 hV
  have hput := fun W (hTW : Tab W) (hCW : (Kd.int .u8).C W A h.img.length h.img) => put_calls h A c W hTW ho hCW
  rw [hV] at hWA ⊢
  simp only [hV] at hput
  replace hWA := hWA.symm
  replace hG := Aside0.mk hG; replace hput := Aside0.mk hput; replace hbA := Aside0.mk hbA; replace s1 := Aside0.mk s1; replace hT1 := Aside0.mk hT1; replace hC1 := Aside0.mk hC1; replace hC := Aside0.mk hC; replace s := Aside0.mk s; replace hT := Aside0.mk hT; replace ho := Aside0.mk ho; replace hc := Aside0.mk hc; replace hf := Aside0.mk hf; replace hage := Aside0.mk hage; replace hhas := Aside0.mk hhas; replace hnl := Aside0.mk hnl; replace hV := Aside0.mk hV
  go_enter Tryd.func40, Tryd.ntmps40
  go_wp2_with fail
  try rw [hWA]
  replace hWA := Aside0.mk hWA
  have nS := s1.out.sf
  have nH : ¬ FD B K M w.heap.size := fun hF => s.out.fresh _ (Nat.le_refl _) (.inl hF)
  have nN : ∀ k, WA.drew.heap.size ≤ k → ¬ FD B K M k := fun k hk hF => s1.out.fresh k hk (.inl hF)
  have htm := Int.tmod_eq_emod_of_nonneg (b := 2) a0
  replace nS := Aside0.mk nS; replace nH := Aside0.mk nH; replace nN := Aside0.mk nN; replace htm := Aside0.mk htm
  go_region_held3 (fun w' => w'.cell? ⟨S, 3, none⟩ = some (.pointer (some ⟨B, 0, none⟩)) ∧ w'.cell? ⟨w.heap.size, 0, none⟩ = some (.int .i64 age) ∧ w'.cell? ⟨w.heap.size, 1, none⟩ = some (.bool has) ∧ w'.cell? ⟨w.heap.size, 2, none⟩ = some (.slice A n c))
    (first | go_keep | exact ⟨pw_cell_below hb c3, pw_cell_below hb x0, pw_cell_below hb x1, pw_cell_below hb x2⟩ | exact ⟨keepF_cell hk2.out (pw_cell_below hb.out c3) nS.out, keepF_cell hk2.out (pw_cell_below hb.out x0) nH.out, keepF_cell hk2.out (pw_cell_below hb.out x1) nH.out, keepF_cell hk2.out (pw_cell_below hb.out x2) nH.out⟩)
    (first
      | (go_at_call 60; refine (hput.out WA.drew hT1.out hC1.out).mono ?_; rintro e w1 ⟨v, rfl, hv, hb⟩; replace hb := below_undrew hb; obtain ⟨A5, c5, rfl, hcf⟩ := own_cf (F := FD B K M) hv (Hd.put_length h) nN.out)
      | (go_at_call 38; rw [htm.out]; refine (Write_calls B K M D (age % 2) A5 25 c5 h.put w1 (s1.out.dk.below hb) hcf (Hd.put_range h)).mono ?_; rintro e w2 ⟨rfl, hd2, hk2⟩; replace hd2 := Aside0.mk hd2; replace hk2 := Aside0.mk hk2; replace hb := Aside0.mk hb))
  have s2 := (s1.out.below hb.out).keep hk2.out hd2.out
  have k2 : KeepF (FS S B K M) w w2 := (KeepF.of_below (F := FS S B K M) (below_step hbA.out hb.out)).trans hk2.out (fun _ _ h => .inl h)
  have y3 := keepF_cell hk2.out (pw_cell_below hb.out c3) nS.out
  have y0 := keepF_cell hk2.out (pw_cell_below hb.out x0) nH.out
  have y1 := keepF_cell hk2.out (pw_cell_below hb.out x1) nH.out
  have y2 := keepF_cell hk2.out (pw_cell_below hb.out x2) nH.out
  have hC2 := Kd_C_keep (Kd.C_below hC1.out hb.out) (fun ad e _ hF => hf.out ad e (.inl hF)) hk2.out
  have hso : sealOf D h0 h = if D.wrErr (age % 2) h.put ≠ 0 then (D.wrErr (age % 2) h.put, D.wrt (age % 2) h.put, h0) else if (D.wrt (age % 2) h.put).flErr ≠ 0 then ((D.wrt (age % 2) h.put).flErr, (D.wrt (age % 2) h.put).fl, h0) else (0, (D.wrt (age % 2) h.put).fl, h) := by unfold sealOf; rw [hage.out]
  obtain ⟨q, hq⟩ : ∃ q, D.wrErr (age % 2) h.put = q := ⟨_, rfl⟩
  obtain ⟨D1, hD1⟩ : ∃ D1, D.wrt (age % 2) h.put = D1 := ⟨_, rfl⟩
  rw [hq, hD1] at hso
  rw [hD1] at hd2 s2
  rw [hq]
  clear hq hD1 c3 x0 x1 x2 hk2 hb hC1 hcf hv
  by_cases hq0 : q = 0
  · subst hq0
    rw [if_neg (by simp)] at hso
    replace s2 := Aside0.mk s2; replace k2 := Aside0.mk k2; replace hC2 := Aside0.mk hC2; replace hso := Aside0.mk hso
    go_wp2_with fail
    refine (Flush_calls B K M D1 _ hd2.out).mono ?_
    rintro e w3 ⟨rfl, hd3, hk3⟩
    have s3 := s2.out.keep hk3 hd3
    have k3 := k2.out.trans hk3 (fun _ _ h => .inl h)
    have z0 := keepF_cell hk3 y0 nH.out
    have z1 := keepF_cell hk3 y1 nH.out
    have z2 := keepF_cell hk3 y2 nH.out
    have hC3 := Kd_C_keep hC2.out (fun ad e _ hF => hf.out ad e (.inl hF)) hk3
    obtain ⟨p, hp⟩ : ∃ p, D1.flErr = p := ⟨_, rfl⟩
    replace hso := hso.out
    rw [hp] at hso ⊢
    clear y0 y1 y2 y3 hp
    by_cases hp0 : p = 0
    · subst hp0
      rw [if_neg (by simp)] at hso
      obtain ⟨cur, hcu, hcl, s4, k4⟩ := s3.setHead h A c ho.out hc.out hC3 hf.out hG.out
      rw [hV.out] at s4 k4
      have k5 := k3.trans k4 (fun _ _ h => .inr h)
      replace hcu := Aside0.mk hcu; replace hcl := Aside0.mk hcl; replace s3 := Aside0.mk s3; replace k3 := Aside0.mk k3; replace hC3 := Aside0.mk hC3; replace s4 := Aside0.mk s4; replace k4 := Aside0.mk k4; replace k5 := Aside0.mk k5; replace hso := Aside0.mk hso; replace hd3 := Aside0.mk hd3; replace hk3 := Aside0.mk hk3
      have hq1 : (Tryd.prog.info? 72).map (·.size) = some ([Value.int .i64 age, Value.bool has, Value.slice A n c] : List Value).length := by kernel_rfl
      have hq3 : ∀ v ∈ ([Value.int .i64 age, Value.bool has, Value.slice A n c] : List Value), v.oneCell' = true := by intro v hv; simp at hv; rcases hv with e | e | e <;> rw [e] <;> rfl
      have hq2 : 0 + ([Value.int .i64 age, Value.bool has, Value.slice A n c] : List Value).length ≤ cur.length := by rw [hcl.out]; show 0 + 3 ≤ 4; omega
      replace hq1 := Aside0.mk hq1; replace hq2 := Aside0.mk hq2; replace hq3 := Aside0.mk hq3
      go_wp2_with ((with_reducible refine gate_op (.store 72 (.tmp 31) (.tmp 29)) rfl ?_); refine wpList_store_midB rfl _ _ _ rfl S 0 [.int .i64 age, .bool has, .slice A n c] rfl rfl 74 cur hcu.out hq1.out hq2.out hq3.out ?_)
      go_ret
      unfold SealPostG
      rw [hso.out]
      exact ⟨rfl, s4.out, k5.out⟩
    · rw [if_pos (by simpa using hp0)] at hso
      have hp0' : (p != 0) = true := by simpa using hp0
      clear hp0
      replace s3 := Aside0.mk s3; replace k3 := Aside0.mk k3; replace hC3 := Aside0.mk hC3; replace hso := Aside0.mk hso; replace hd3 := Aside0.mk hd3; replace hk3 := Aside0.mk hk3
      go_wp2_with fail
      go_ret
      unfold SealPostG
      rw [hso.out]
      exact ⟨rfl, s3.out, k3.out⟩
  · rw [if_pos (by simpa using hq0)] at hso
    have hq0' : (q != 0) = true := by simpa using hq0
    clear hq0
    replace s2 := Aside0.mk s2; replace k2 := Aside0.mk k2; replace hC2 := Aside0.mk hC2; replace hso := Aside0.mk hso
    go_wp2_with fail
    go_ret
    unfold SealPostG
    rw [hso.out]
    exact ⟨rfl, s2.out, k2.out⟩
set_option maxHeartbeats 8000000 in
set_option maxRecDepth 100000 in
theorem Delete_callsG (G : Nat → Prop) (S B K M : Nat) (D : Dsk) (h0 : Hd) (w : World) (hT : Tab w) (s : StoG G w S B K M D h0) :
    Calls Tryd.prog 15 #[.pointer (some ⟨S, 0, none⟩)] w (DeletePostG G S B K M D h0 w) := by
  obtain ⟨A, c, c0, c1, c2, c3, _⟩ := s.cells
  have ha := s.ok.a0
  have ha1 := s.ok.a1
  have hd : deleteOf D h0 = if h0.has = false then (8, D, h0) else if h0.age = 1099511627776 then (6, D, h0) else sealOf D h0 ⟨h0.age + 1, false, []⟩ := rfl
  have hT := Aside0.mk hT
  have hok : h0.age ≠ 1099511627776 → Hd.Ok ⟨h0.age + 1, false, []⟩ := fun hne => ⟨by show 0 ≤ h0.age + 1; omega, by show h0.age + 1 ≤ 1099511627776; omega, by simp, by simp⟩
  have fin : ∀ q, deleteOf D h0 = (q, D, h0) → DeletePostG G S B K M D h0 w (.returned (.int .i64 q)) w := fun q he => by unfold DeletePostG; rw [he]; exact ⟨rfl, s, KeepF.refl _ _⟩
  obtain ⟨has, hhas⟩ : ∃ x, h0.has = x := ⟨_, rfl⟩
  obtain ⟨age, hage⟩ : ∃ x, h0.age = x := ⟨_, rfl⟩
  rw [hhas] at c1 hd
  rw [hage] at c0 hd hok ha ha1
  cases has with
  | false =>
    rw [if_pos rfl] at hd
    replace fin := fin _ hd
    replace fin := Aside0.mk fin; replace hok := Aside0.mk hok; replace hd := Aside0.mk hd; replace s := Aside0.mk s; replace hhas := Aside0.mk hhas; replace hage := Aside0.mk hage
    go_enter Tryd.func15, Tryd.ntmps15
    go_wp2_with fail
    go_ret
    exact fin.out
  | true =>
    rw [if_neg (by decide)] at hd
    by_cases he : age = 1099511627776
    · rw [if_pos he] at hd
      replace fin := fin _ hd
      subst he
      replace fin := Aside0.mk fin; replace hok := Aside0.mk hok; replace hd := Aside0.mk hd; replace s := Aside0.mk s; replace hhas := Aside0.mk hhas; replace hage := Aside0.mk hage
      go_enter Tryd.func15, Tryd.ntmps15
      go_wp2_with fail
      go_ret
      exact fin.out
    · rw [if_neg he] at hd
      have he' : (age == 1099511627776) = false := by simpa using he
      replace hok := hok he
      replace fin := Aside0.mk fin; replace hok := Aside0.mk hok; replace hd := Aside0.mk hd; replace s := Aside0.mk s; replace hhas := Aside0.mk hhas; replace hage := Aside0.mk hage
      go_enter Tryd.func15, Tryd.ntmps15
      go_wp2_with fail
      refine (seal_callsG G S B K M D h0 ⟨age + 1, false, []⟩ none 0 w hT.out s.out hok.out (Nat.le_refl _) (Kd.C_nil _ _) (fun ad e => by cases e) (fun ad e => by cases e)).mono ?_
      rintro e w' ⟨rfl, h1, h2⟩
      replace h1 := Aside0.mk h1; replace h2 := Aside0.mk h2
      go_wp2_with fail
      go_ret
      unfold DeletePostG
      rw [hd.out]
      exact ⟨rfl, h1.out, h2.out⟩

set_option maxHeartbeats 8000000 in
set_option maxRecDepth 100000 in
theorem Commit_callsG (G : Nat → Prop) (S B K M : Nat) (D : Dsk) (h0 : Hd) (A : Option Addr) (n c : Nat) (img : List Int) (w : World) (hT : Tab w) (s : StoG G w S B K M D h0) (h4 : 4 ≤ D.kept.length) (hC : (Kd.int .u8).C w A n img) (hb : ∀ x ∈ img, 0 ≤ x ∧ x ≤ 255) (hGf0 : ∀ k, w.heap.size ≤ k → G k) :
    Calls Tryd.prog 14 #[.pointer (some ⟨S, 0, none⟩), .slice A n c] w (CommitPostG G S B K M D h0 img w) := by
  have hGf := Aside0.mk hGf0
  clear hGf0
  obtain ⟨A0, c0', x0, x1, x2, x3, _⟩ := s.cells
  have ha := s.ok.a0
  have ha1 := s.ok.a1
  have hl := half_le s.dk
  have hnl : img.length = n := hC.1
  have hd : commitOf D h0 img = if img.length > 64 * halfOf D then (22, D, h0) else if h0.age = 1099511627776 then (6, D, h0) else
    if (wrs img.length D (fromOf D ((h0.age + 1) % 2).toNat) img).1 ≠ 0 then ((wrs img.length D (fromOf D ((h0.age + 1) % 2).toNat) img).1, (wrs img.length D (fromOf D ((h0.age + 1) % 2).toNat) img).2, h0)
    else if (wrs img.length D (fromOf D ((h0.age + 1) % 2).toNat) img).2.flErr ≠ 0 then ((wrs img.length D (fromOf D ((h0.age + 1) % 2).toNat) img).2.flErr, (wrs img.length D (fromOf D ((h0.age + 1) % 2).toNat) img).2.fl, h0)
    else sealOf (wrs img.length D (fromOf D ((h0.age + 1) % 2).toNat) img).2.fl h0 ⟨h0.age + 1, true, img⟩ := rfl
  have fin : ∀ q, commitOf D h0 img = (q, D, h0) → CommitPostG G S B K M D h0 img w (.returned (.int .i64 q)) w := fun q he => by unfold CommitPostG; rw [he]; exact ⟨rfl, s, KeepF.refl _ _⟩
  replace hT := Aside0.mk hT
  obtain ⟨age, hage⟩ : ∃ x, h0.age = x := ⟨_, rfl⟩
  rw [hage] at x0 hd ha ha1
  rw [hnl] at hd
  have h2 : 2 ≤ D.kept.length := by omega
  replace hage := Aside0.mk hage
  replace s := Aside0.mk s
  by_cases hlong : n > 64 * halfOf D
  · rw [if_pos hlong] at hd
    replace fin := fin _ hd
    have hz : ((64 * halfOf D : Nat) : Int) < (n : Int) := by omega
    replace fin := Aside0.mk fin; replace hd := Aside0.mk hd; replace h2 := Aside0.mk h2
    clear hlong
    go_enter Tryd.func14, Tryd.ntmps14
    go_wp2_with fail
    refine (Room_calls S B K M D h0 w s.out.toSto h2.out).mono ?_
    rintro e w' ⟨rfl, rfl⟩
    obtain ⟨z, hz2⟩ : ∃ z, 64 * halfOf D = z := ⟨_, rfl⟩
    rw [hz2] at hz ⊢
    go_wp2_with fail
    go_ret
    exact fin.out
  · rw [if_neg hlong] at hd
    have hz : ¬ ((64 * halfOf D : Nat) : Int) < (n : Int) := by omega
    by_cases he : age = 1099511627776
    · rw [if_pos he] at hd
      replace fin := fin _ hd
      subst he
      replace fin := Aside0.mk fin; replace hd := Aside0.mk hd; replace h2 := Aside0.mk h2
      clear hlong
      go_enter Tryd.func14, Tryd.ntmps14
      go_wp2_with fail
      refine (Room_calls S B K M D h0 w s.out.toSto h2.out).mono ?_
      rintro e w' ⟨rfl, rfl⟩
      obtain ⟨z, hz2⟩ : ∃ z, 64 * halfOf D = z := ⟨_, rfl⟩
      rw [hz2] at hz ⊢
      go_wp2_with fail
      go_ret
      exact fin.out
    · rw [if_neg he] at hd
      have he' : (age == 1099511627776) = false := by simpa using he
      have hn16 : n ≤ 16320 := by omega
      have hok : Hd.Ok ⟨age + 1, true, img⟩ := ⟨by show 0 ≤ age + 1; omega, by show age + 1 ≤ 1099511627776; omega, hb, by show img.length ≤ _; omega⟩
      replace hC := Aside0.mk hC
      replace fin := Aside0.mk fin; replace hd := Aside0.mk hd; replace h2 := Aside0.mk h2; replace hlong := Aside0.mk hlong; replace hok := Aside0.mk hok; replace hb := Aside0.mk hb; replace hnl := Aside0.mk hnl
      clear he
      go_enter Tryd.func14, Tryd.ntmps14
      go_wp2_with fail
      refine (Room_calls S B K M D h0 w s.out.toSto h2.out).mono ?_
      rintro e w' ⟨rfl, rfl⟩
      obtain ⟨z, hz2⟩ : ∃ z, 64 * halfOf D = z := ⟨_, rfl⟩
      rw [hz2] at hz ⊢
      replace hz2 := Aside0.mk hz2
      have hSl : (⟨S, 0, none⟩ : Addr).block ≠ w.heap.size := by have := World.block_lt_of_cell? w _ x0; omega
      have hwr : IntKind.i64.wrap (age + 1) = age + 1 := by rw [IntKind.wrap_i64]; omega
      go_wp2_with fail
      go_region_held3 (fun w' => w'.cell? ⟨S, 0, none⟩ = some (.int .i64 age)) (first | (with_reducible exact pw_cell_below hb1 x0) | (with_reducible exact pw_cell_below (below_step hb1 (below_alloc (Below.refl _ _) _)) x0) | (with_reducible exact pw_cell_below (below_alloc (Below.refl _ _) _) x0) | (with_reducible exact cell_set3 hSl (pw_cell_below hb1 x0)) | go_keep)
        (first
          | (go_at_call 36; refine (Clone_calls A n c img w.drew hC.out (by omega)).mono ?_; rintro e w1 ⟨v, rfl, hv, _, hb1⟩; replace hb1 := below_undrew hb1; obtain ⟨A1, c1, rfl, hC1⟩ := bytes_of_row hv hnl.out)
          | (go_at_call 36; refine (Clone_calls A n c img (w.alloc (.cells #[.int .i64 0, .bool false, .slice none 0 0] 72)).drew (Kd.C_below hC.out (below_drew (below_alloc (Below.refl _ _) _))) (by omega)).mono ?_; rintro e w1 ⟨v, rfl, hv, _, hb1⟩; have hbZ := (below_undrew hb1).block w.heap.size (by simp); rw [heap_alloc_same w _] at hbZ; have zc0 := cell_row hbZ 0; have zc1 := cell_row hbZ 1; have zc2 := cell_row hbZ 2; have zf0 := frozen_row hbZ 0; have zf1 := frozen_row hbZ 1; have zf2 := frozen_row hbZ 2; replace hb1 := below_step (below_alloc (Below.refl _ _) _) (below_undrew hb1); obtain ⟨A1, c1, rfl, hC1⟩ := bytes_of_row hv hnl.out))
      case' refine_2.refine_3.refine_3.refine_3.refine_3.refine_3.refine_3.refine_3.refine_1.refine_2.refine_3.refine_1.refine_2.refine_1.refine_2 =>
        have F : Boxed w (w1.alloc (.cells (hdV ⟨age + 1, true, img⟩ A1 c1) 72)) w1.heap.size ⟨age + 1, true, img⟩ A1 c1 := Boxed.made hb1 (Nat.le_refl _) (by show w1.ownsRow _ _ _ (.slice A1 img.length c1) img.length _; rw [hnl.out]; exact hv)
        unfold hdV at F
        dsimp only at F
        rw [hnl.out] at F
        obtain ⟨g, hg⟩ : ∃ g, w1.heap.size = g := ⟨_, rfl⟩
        obtain ⟨W, hW⟩ : ∃ W, w1.alloc (.cells #[.int .i64 (age + 1), .bool true, .slice A1 n c1] 72) = W := ⟨_, rfl⟩
        rw [hg, hW] at F ⊢
      case' refine_2.refine_3.refine_3.refine_3.refine_3.refine_3.refine_3.refine_3.refine_2.refine_1.refine_2.refine_1.refine_2.refine_3.refine_1.refine_2 =>
        have F := Boxed.stored (h := ⟨age + 1, true, img⟩) (A := A1) (c := c1) (b := w.heap.size + 1) hb1 (Nat.lt_succ_self _) (by show w1.ownsRow _ _ _ (.slice A1 img.length c1) img.length _; rw [hnl.out]; exact own_weaken hv (by simp)) hbZ
        dsimp only at F
        rw [hnl.out] at F
        obtain ⟨g, hg⟩ : ∃ g, w.heap.size = g := ⟨_, rfl⟩
        obtain ⟨W, hW⟩ : ∃ W, (((w1.setCell ⟨w.heap.size, 0, none⟩ (.int .i64 (age + 1))).setCell ⟨w.heap.size, 1, none⟩ (.bool true)).setCell ⟨w.heap.size, 2, none⟩ (.slice A1 n c1)) = W := ⟨_, rfl⟩
        rw [hW] at F ⊢
        rw [hg] at F ⊢
      all_goals (
        clear hW hg
        have sW := s.out.below F.bel
        have hTW := hT.out.step F.bel
        obtain ⟨_, _, _, _, _, y3, _⟩ := sW.cells
        have g0 : W.cell? ⟨g, 0, none⟩ = some (.int .i64 (age + 1)) := (cell_row F.row 0).trans rfl
        have g2 : W.cell? ⟨g, 2, none⟩ = some (.slice A1 n c1) := by rw [cell_row F.row 2, ← hnl.out]; rfl
        obtain ⟨slot, hslot⟩ : ∃ slot : Nat, slot = ((age + 1) % 2).toNat := ⟨_, rfl⟩
        have hsl1 : slot ≤ 1 := by omega
        have htm : (age + 1).tmod 2 = (slot : Int) := by rw [Int.tmod_eq_emod_of_nonneg (by omega)]; omega
        have hfl : fromOf D slot ≤ 300 := by unfold fromOf; rcases (by omega : slot = 0 ∨ slot = 1) with h | h <;> rw [h] <;> omega
        replace hd := hd.out
        rw [← hslot] at hd
        have nS := sW.sf
        have nG : ¬ FS S B K M g := s.out.fresh g F.gl
        have hn1 := F.hc
        rw [show (⟨age + 1, true, img⟩ : Hd).img.length = n from hnl.out] at hn1
        clear hslot x0 x1 x2 x3 hb1 hv
        replace F := Aside0.mk F; replace sW := Aside0.mk sW; replace hTW := Aside0.mk hTW; replace htm := Aside0.mk htm; replace hd := Aside0.mk hd; replace nS := Aside0.mk nS; replace nG := Aside0.mk nG
        go_wp2_with fail
        go_region_held3 (fun w' => w'.cell? ⟨S, 3, none⟩ = some (.pointer (some ⟨B, 0, none⟩)) ∧ w'.cell? ⟨g, 0, none⟩ = some (.int .i64 (age + 1))) (go_keep)
          ((go_at_call 37; rw [htm.out]; refine (from_calls B K M D slot W.drew (sW.out.dk.drewN 1) h2.out hsl1).mono ?_; rintro e w' ⟨rfl, rfl⟩))
        obtain ⟨i0, hi0⟩ : ∃ i0 : Int, 2 + (slot : Int) * (halfOf D : Int) = i0 := ⟨_, rfl⟩
        have hi1 : ((fromOf D slot : Nat) : Int) = i0 := by rw [← hi0]; unfold fromOf; rw [Int.natCast_add, Int.natCast_mul]; rfl
        have hi2 : 0 ≤ i0 ∧ i0 ≤ 300 := by rw [← hi1]; omega
        rw [hi0]
        have hBV : Below W.heap.size W W.drew := below_drew (Below.refl _ _)
        obtain ⟨V, hV⟩ : ∃ V, W.drew = V := ⟨_, rfl⟩
        rw [hV] at hBV ⊢
        have sV := sW.out.below hBV
        have hTV := hTW.out.step hBV
        have FV : Boxed w V g ⟨age + 1, true, img⟩ A1 c1 := ⟨below_step F.out.bel hBV, F.out.gl, (hBV.block g (Array.getElem?_eq_some_iff.1 F.out.row).1).trans F.out.row, F.out.hc, Kd.C_below F.out.hC hBV, F.out.far⟩
        have hcr : CF (FS S B K M) .u8 V A1 n img := ⟨by have := FV.hC; rw [show (⟨age + 1, true, img⟩ : Hd).img.length = n from hnl.out] at this; exact this, fun ad e _ => s.out.fresh _ (FV.far ad e).1⟩
        replace hd := hd.out
        rw [hi1] at hd
        replace hd := Aside0.mk hd
        clear hV hi0 hi1 g0 g2 y3
        replace sV := Aside0.mk sV; replace hTV := Aside0.mk hTV; replace FV := Aside0.mk FV; replace hBV := Aside0.mk hBV; replace hcr := Aside0.mk hcr
        go_wp2_with fail
        go_loopw [6, 7] (fun r i wr => ∃ (A2 : Option Addr) (m c2 k : Nat) (j : Int) (rest : List Int) (Dn : Dsk), r = .slice A2 m c2 ∧ i = .int .i64 j ∧ m ≤ c2 ∧ m ≤ k ∧ 0 ≤ j ∧ j + m ≤ 20000 ∧ Aside0 (CF (FS S B K M) .u8 wr A2 m rest) ∧ Aside0 (∀ x ∈ rest, 0 ≤ x ∧ x ≤ 255) ∧ Aside0 (IsDisk wr B K M Dn) ∧ Aside0 (KeepF (FD B K M) V wr) ∧ Aside0 (wrs k Dn j rest = wrs n D i0 img))
          (fun r _ _ => slLen r)
        case atStart => exact ⟨A1, n, c1, n, i0, img, D, rfl, rfl, hn1, Nat.le_refl _, hi2.1, by omega, hcr, hb, ⟨sV.out.dk⟩, ⟨KeepF.refl _ _⟩, ⟨rfl⟩⟩
        case round =>
          obtain ⟨A2, m, c2, k, j, rest, Dn, rfl, rfl, hmc, hmk, hj0, hjm, hR, hRb, hDn, hK, hE⟩ := hrel
          have sr := sV.out.keep hK.out hDn.out
          have e3 := keepF_cell hK.out (((sV.out.cells).choose_spec.choose_spec).2.2.2.1) nS.out
          have hKw : KeepF (FS S B K M) w wr := (KeepF.of_below (F := FS S B K M) FV.out.bel).trans hK.out (fun _ _ h => .inl h)
          have nG2 : ¬ FD B K M g := fun h => nG.out (.inl h)
          have r0 : wr.cell? ⟨g, 0, none⟩ = some (.int .i64 (age + 1)) := keepF_cell hK.out ((cell_row FV.out.row 0).trans rfl) nG2
          have r1 : wr.cell? ⟨g, 1, none⟩ = some (.bool true) := keepF_cell hK.out ((cell_row FV.out.row 1).trans rfl) nG2
          have r2 : wr.cell? ⟨g, 2, none⟩ = some (.slice A1 n c1) := keepF_cell hK.out (by rw [cell_row FV.out.row 2, ← hnl.out]; rfl) nG2
          have hCr : CF (FS S B K M) .u8 wr A1 n img := hcr.out.keep hK.out (fun _ h => .inl h)
          have hrl : rest.length = m := hR.out.c.1
          by_cases hm0 : m = 0
          · have hrest : rest = [] := List.eq_nil_of_length_eq_zero (by omega)
            have hwr0 : wrs k Dn j rest = (0, Dn) := by rw [hrest]; cases k <;> simp [wrs]
            rw [hwr0] at hE
            replace hd := hd.out
            rw [← hE.out] at hd
            simp only [ne_eq, not_true_eq_false, if_false] at hd
            subst hm0
            replace hd := Aside0.mk hd; replace sr := Aside0.mk sr; replace hKw := Aside0.mk hKw; replace hCr := Aside0.mk hCr; replace nG2 := Aside0.mk nG2
            go_wp2_with fail
            refine (Flush_calls B K M Dn _ hDn.out).mono ?_
            rintro e w3 ⟨rfl, hd3, hk3⟩
            have s3 := sr.out.keep hk3 hd3
            have k3 := hKw.out.trans hk3 (fun _ _ h => .inl h)
            replace r0 := keepF_cell hk3 r0 nG2.out
            replace r1 := keepF_cell hk3 r1 nG2.out
            replace r2 := keepF_cell hk3 r2 nG2.out
            have hC3 := hCr.out.keep hk3 (fun _ h => .inl h)
            have hT3 : Tab w3 := fun jj hjj => keepF_cell k3 (hT.out jj hjj) s.out.nz
            replace hd := hd.out
            obtain ⟨p, hp⟩ : ∃ p, Dn.flErr = p := ⟨_, rfl⟩
            rw [hp] at hd ⊢
            by_cases hp0 : p = 0
            · subst hp0
              simp only [ne_eq, not_true_eq_false, if_false] at hd
              have hck : hdV ⟨age + 1, true, img⟩ A1 c1 = #[.int .i64 (age + 1), .bool true, .slice A1 n c1] := by unfold hdV; rw [show (⟨age + 1, true, img⟩ : Hd).img.length = n from hnl.out]
              have hC4 : (Kd.int .u8).C w3 A1 (⟨age + 1, true, img⟩ : Hd).img.length (⟨age + 1, true, img⟩ : Hd).img := by rw [show (⟨age + 1, true, img⟩ : Hd).img.length = n from hnl.out]; exact hC3.c
              have hse := seal_callsG G S B K M Dn.fl h0 ⟨age + 1, true, img⟩ A1 c1 w3 hT3 s3 hok.out (FV.out.hc) hC4 (fun ad e => s.out.fresh _ (FV.out.far ad e).1) (fun ad e => hGf.out _ (FV.out.far ad e).1)
              rw [hck] at hse
              replace hd := Aside0.mk hd; replace s3 := Aside0.mk s3; replace k3 := Aside0.mk k3; replace hC3 := Aside0.mk hC3; replace hT3 := Aside0.mk hT3; replace hC4 := Aside0.mk hC4; replace hse := Aside0.mk hse; replace hp := Aside0.mk hp; replace hd3 := Aside0.mk hd3; replace hk3 := Aside0.mk hk3
              go_wp2_with fail
              refine hse.out.mono ?_
              rintro e w4 ⟨rfl, s4, k4⟩
              have k5 := k3.out.trans k4 (fun _ _ h => h)
              replace s4 := Aside0.mk s4; replace k4 := Aside0.mk k4; replace k5 := Aside0.mk k5
              go_wp2_with fail
              go_ret
              unfold CommitPostG
              rw [hd.out]
              exact ⟨rfl, s4.out, k5.out⟩
            · rw [if_pos (by simpa using hp0)] at hd
              have hp0' : (p != 0) = true := by simpa using hp0
              clear hp0
              replace hd := Aside0.mk hd; replace s3 := Aside0.mk s3; replace k3 := Aside0.mk k3; replace hC3 := Aside0.mk hC3; replace hT3 := Aside0.mk hT3; replace hp := Aside0.mk hp; replace hd3 := Aside0.mk hd3; replace hk3 := Aside0.mk hk3
              go_wp2_with fail
              go_ret
              unfold CommitPostG
              rw [hd.out]
              exact ⟨rfl, s3.out, k3.out⟩
          · obtain ⟨k, rfl⟩ : ∃ k', k = k' + 1 := ⟨k - 1, by omega⟩
            have hm1 : (0 : Int) < (m : Int) := by omega
            have hne : rest ≠ [] := by intro e; rw [e] at hrl; simp at hrl; omega
            have hE2 := hE.out
            rw [wrs, if_neg hne] at hE2
            obtain ⟨n1, hn1e⟩ : ∃ n1 : Nat, n1 = min m 64 := ⟨_, rfl⟩
            have ht : rest.take 64 = rest.take n1 := by
              rcases Nat.le_total m 64 with h | h
              · rw [List.take_of_length_le (by omega), List.take_of_length_le (by omega)]
              · rw [show n1 = 64 by omega]
            have hdr : rest.drop 64 = rest.drop n1 := by
              rcases Nat.le_total m 64 with h | h
              · rw [List.drop_of_length_le (by omega), List.drop_of_length_le (by omega)]
              · rw [show n1 = 64 by omega]
            have hw1 : (CF (FS S B K M) .u8 wr A2 n1 (rest.take n1)) := cf_take0 hR.out n1 (by omega)
            rw [ht, hdr] at hE2
            obtain ⟨q, hq⟩ : ∃ q, Dn.wrErr j (rest.take n1) = q := ⟨_, rfl⟩
            rw [hq] at hE2
            have hb1 : ∀ x ∈ rest.take n1, 0 ≤ x ∧ x ≤ 255 := fun x hx => hRb.out x (List.mem_of_mem_take hx)
            have hb2 : ∀ x ∈ rest.drop n1, 0 ≤ x ∧ x ≤ 255 := fun x hx => hRb.out x (List.mem_of_mem_drop hx)
            have hup : ∀ (W' : World) A3 c3, CF (FS S B K M) .u8 W' A3 (m - n1) (rest.drop n1) → m - n1 ≤ c3 → True := fun _ _ _ _ _ => trivial
            have hcases : (64 < m ∧ n1 = 64 ∧ c2 ≠ 64) ∨ (m ≤ 64 ∧ n1 = m ∧ c2 ≠ m) ∨ (m ≤ 64 ∧ n1 = m ∧ c2 = m) := by omega
            have hn1m : n1 ≤ m := by omega
            have hn1p : 1 ≤ n1 := by omega
            have hR3 : ∀ w2, KeepF (FD B K M) wr w2 → CF (FS S B K M) .u8 w2 (A2.map fun x => x.add n1) (m - n1) (rest.drop n1) := fun w2 hk => cf_drop0 (hR.out.keep hk (fun _ h => .inl h)) n1 hn1m
            clear hup hn1e ht hdr hm0
            replace sr := Aside0.mk sr; replace hKw := Aside0.mk hKw; replace hCr := Aside0.mk hCr; replace hrl := Aside0.mk hrl; replace hne := Aside0.mk hne; replace hE2 := Aside0.mk hE2; replace hw1 := Aside0.mk hw1; replace hq := Aside0.mk hq; replace hb1 := Aside0.mk hb1; replace hb2 := Aside0.mk hb2; replace nG2 := Aside0.mk nG2; replace hR3 := Aside0.mk hR3
            have i1 : (0 : Int) ≤ (n1 : Int) := by omega
            have i2 : (n1 : Int) ≤ (m : Int) := by omega
            have i3 : (m : Int) ≤ (c2 : Int) := by omega
            have i4 : (n1 : Int) ≤ (c2 : Int) := by omega
            rcases hcases with ⟨h64, rfl, hcc⟩ | ⟨h64, rfl, hcc⟩ | ⟨h64, rfl, rfl⟩
            all_goals (
              try have i5 : (64 : Int) ≤ (c2 : Int) := by omega
              try have i6 : (64 : Int) ≤ (m : Int) := by omega
              go_wp2_with fail
              go_region_held3 (fun w' => w'.cell? ⟨S, 3, none⟩ = some (.pointer (some ⟨B, 0, none⟩))) (first | exact keepF_cell (w := wr.drew) hk2.out e3 nS.out | go_keep)
                ((go_at_call 38; refine (Write_calls B K M Dn j A2 _ c2 (rest.take _) wr.drew (hDn.out.drewN 1) ⟨hw1.out.c, fun ad e hp hF => hw1.out.far ad e hp (.inl hF)⟩ hb1.out).mono ?_; rintro e w2 ⟨rfl, hd2, hk2⟩; replace hd2 := Aside0.mk hd2; replace hk2 := Aside0.mk hk2; rw [hq.out]))
              have sr2 := (sV.out.keep (hK.out.trans (F' := FD B K M) ⟨hk2.out.os, hk2.out.tape, hk2.out.output, hk2.out.size, hk2.out.block⟩ (fun _ _ h => h)) hd2.out)
              have hkq : KeepF (FD B K M) wr w2 := ⟨hk2.out.os, hk2.out.tape, hk2.out.output, hk2.out.size, hk2.out.block⟩
              have hK2 := hK.out.trans hkq (fun _ _ h => h)
              have hKw2 := hKw.out.trans hkq (fun _ _ h => .inl h)
              replace hE2 := hE2.out
              by_cases hq0 : q = 0
              · rw [if_neg (by simpa using hq0)] at hE2
                subst hq0
                have hR4 := hR3.out w2 hkq
                replace sr2 := Aside0.mk sr2; replace hkq := Aside0.mk hkq; replace hK2 := Aside0.mk hK2; replace hKw2 := Aside0.mk hKw2; replace hE2 := Aside0.mk hE2; replace hR4 := Aside0.mk hR4
                go_wp2_with fail
                go_roundw
                case measure => show _ < _; simp only [slLen]; omega
                case rel =>
                  first
                    | exact ⟨_, _, _, k, _, _, _, rfl, rfl, by omega, by omega, by omega, by omega, hR4, hb2, hd2, hK2, hE2⟩
                    | exact ⟨_, _, _, k, _, _, _, rfl, rfl, by omega, by omega, by omega, by omega, ⟨by have := hR4.out; rw [Nat.sub_self] at this; exact this⟩, hb2, hd2, hK2, hE2⟩
                    | exact ⟨_, _, _, k, _, _, _, rfl, rfl, by omega, by omega, by omega, by omega, ⟨by have := hrl.out; rw [List.drop_of_length_le (by omega)]; exact cf_none0 _⟩, hb2, hd2, hK2, hE2⟩
              · rw [if_pos (by simpa using hq0)] at hE2
                have hq0' : (q != 0) = true := by simpa using hq0
                replace hd := hd.out
                rw [← hE2] at hd
                rw [if_pos (by simpa using hq0)] at hd
                replace sr2 := Aside0.mk sr2; replace hkq := Aside0.mk hkq; replace hK2 := Aside0.mk hK2; replace hKw2 := Aside0.mk hKw2; replace hE2 := Aside0.mk hE2; replace hd := Aside0.mk hd
                clear hq0
                go_wp2_with fail
                go_ret
                unfold CommitPostG
                rw [hd.out]
                exact ⟨rfl, sr2.out, hKw2.out⟩))
end Go.Proofs.YtiibfboendnifaaDoor.Sl
