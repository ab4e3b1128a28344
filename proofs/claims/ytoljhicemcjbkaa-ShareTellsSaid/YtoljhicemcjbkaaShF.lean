/- share.Fold, called, tells the plain function fold1 of each number. -/
import Derived.Test.YtoljhicemcjbkaaShE
import Derived.Test.YtoljhicemcjbkaaOp
namespace Go.Proofs.Ytoljhicemcjbkaa.Sh
set_option linter.unusedVariables false
set_option linter.unusedSimpArgs false
open Go.RowKit Go.Proofs.Op Go.Proofs.YtoljhicemcjbkaaW.PrintWords Go.Proofs.YtoljhicemcjbkaaW.PrintLast Go.Proofs.YtoljhicemcjbkaaW.PrintMore PShareTells

/-- pairs of numbers -/
def kP2 : Kd (Int × Int) := Kd.pair (Kd.int .i64) (Kd.int .i64)
theorem opens_P2 : Opens Try.prog 40 kP2 (fun _ => True) := by
  intro H enc w base sp held fuel cs x hx
  cases fuel with
  | zero => simp [DataW.trod] at hx
  | succ n =>
    rw [DataW.trod_step] at hx
    unfold DataW.trodStep at hx
    rw [Try.underlying40] at hx
    simp only at hx
    have hc2 : Try.prog.cellsOf 40 = 2 := by kernel_rfl
    have hc1 : Try.prog.cellsOf 3 = 1 := by kernel_rfl
    split at hx
    · rename_i hl
      obtain ⟨xs, hxs, _⟩ := Option.map_eq_some_iff.1 hx
      rw [hc1, show List.range 2 = [0, 1] from rfl] at hxs
      simp only [List.mapM_cons, List.mapM_nil, Option.bind_eq_bind, Option.pure_def] at hxs
      obtain ⟨y, hy, hxs⟩ := Option.bind_eq_some_iff.1 hxs
      obtain ⟨z, hz, _⟩ := Option.bind_eq_some_iff.1 hxs
      obtain ⟨z, hz, _⟩ := Option.bind_eq_some_iff.1 hz
      obtain ⟨a, ha, _⟩ := DataW.trod_int Try.underlying3 hy
      obtain ⟨b, hb, _⟩ := DataW.trod_int Try.underlying3 hz
      have hl2 : cs.length = 2 := by rw [hl, hc2]
      obtain ⟨u, v, rfl⟩ : ∃ u v, cs = [u, v] := by
        match cs, hl2 with
        | [u, v], _ => exact ⟨u, v, rfl⟩
      simp at ha hb
      subst ha; subst hb
      exact ⟨(a, b), ⟨[.int .i64 a], [.int .i64 b], rfl, rfl, rfl⟩, trivial⟩
    · cases hx

theorem at_P2 {w : World} {A : Option Addr} {n : Nat} {l : List (Int × Int)} (h : Kd.C kP2 w A n l) (k : Nat) (hk : k < n) :
    ∃ ad, A = some ad ∧ w.cell? (ad.add (k * 2)) = some (.int .i64 (l.getD k (0, 0)).1) ∧ w.cell? (ad.add (k * 2 + 1)) = some (.int .i64 (l.getD k (0, 0)).2) := by
  obtain ⟨ad, c, e, hl, ⟨c0, c1, rfl, h0, h1⟩, hc⟩ := ReadsRow.get_ h (0, 0) k (by omega) (by omega)
  rw [Int.toNat_natCast] at h0 h1 hc
  have e0 : c0 = [.int .i64 (l.getD k (0, 0)).1] := h0
  have e1 : c1 = [.int .i64 (l.getD k (0, 0)).2] := h1
  subst e0; subst e1
  exact ⟨ad, e, hc 0 _ rfl, hc 1 _ rfl⟩

set_option maxHeartbeats 1000000 in
theorem Lit_calls (a b id : Int) (B : Nat) (w : World) (hc : w.cell? ⟨B, 0, none⟩ = some (.int .i64 id)) :
    Calls Try.prog 21 #[.agg #[.int .i64 a, .int .i64 b], .pointer (some ⟨B, 0, none⟩)] w fun e w' => e = .returned (.bool (a == id)) ∧ Below w.heap.size w w' := by
  have hlt := World.block_lt_of_cell? w _ hc
  go_enter Try.func21, Try.ntmps21
  go_wp2
  go_ret
  exact ⟨rfl, below_alloc (Below.refl _ _) _⟩

theorem cell_new (w : World) (cs : Array Value) (e : TypeId) (fr : Nat × Nat) (j : Nat) : (w.alloc (.cells cs e fr)).cell? ⟨w.heap.size, j, none⟩ = cs[j]? := by
  unfold World.cell?; rw [Sh.hn0]; rfl
def fidx (id : Int) : List (Int × Int) → Nat → Int
  | [], _ => -1
  | p :: l, k => if p.1 = id then k else fidx id l (k + 1)
theorem fidx_drop {l : List (Int × Int)} {k : Nat} (id : Int) (h : k < l.length) : fidx id (l.drop k) k = if (l.getD k (0, 0)).1 = id then (k : Int) else fidx id (l.drop (k + 1)) (k + 1) := by
  rw [List.drop_eq_getElem_cons h]; simp [fidx, List.getD_eq_getElem?_getD, h]

set_option maxHeartbeats 2000000 in
set_option maxRecDepth 100000 in
theorem IndexFunc_calls (A0 : Option Addr) (n0 c0 : Nat) (l0 : List (Int × Int)) (id : Int) (B : Nat) (w : World) (hr0 : Kd.C kP2 w A0 n0 l0) (hc : w.cell? ⟨B, 0, none⟩ = some (.int .i64 id)) :
    Calls Try.prog 20 #[.slice A0 n0 c0, .func (.func 21) #[] #[.pointer (some ⟨B, 0, none⟩)]] w fun e w' => e = .returned (.int .i64 (fidx id l0 0)) ∧ Below w.heap.size w w' := by
  have hn0 := hr0.2.1
  have HR0 := Aside0.mk hr0
  have HC := Aside0.mk hc
  clear hr0 hc
  go_enter Try.func20, Try.ntmps20
  go_wp2
  go_loopw [8] (fun i wr => ∃ (k : Nat), k ≤ n0 ∧ i = .int .i64 k ∧ Aside0 (fidx id (l0.drop k) k = fidx id l0 0) ∧ Aside0 (Below w.heap.size w wr)) (fun i _ => n0 - (intOf i).toNat)
  case atStart => exact ⟨0, by omega, rfl, ⟨rfl⟩, ⟨Below.refl _ _⟩⟩
  case round =>
    obtain ⟨k, hk, rfl, HM, HB⟩ := hrel
    by_cases hlt : k < n0
    · have q1 : (k : Int) < (n0 : Int) := by omega
      obtain ⟨ad, e1, x1, x2⟩ := at_P2 HR0.out k hlt
      cases e1
      replace x1 := (HB.out.cell (World.block_lt_of_cell? w _ x1)).trans x1
      replace x2 := (HB.out.cell (World.block_lt_of_cell? w _ x2)).trans x2
      have hid := (HB.out.cell (World.block_lt_of_cell? w _ HC.out)).trans HC.out
      have hkl : k < l0.length := by rw [HR0.out.1]; exact hlt
      replace HM := Aside0.mk ((fidx_drop id hkl).symm.trans HM.out)
      obtain ⟨pa, pb, hpab⟩ : ∃ pa pb, l0.getD k (0, 0) = (pa, pb) := ⟨_, _, rfl⟩
      rw [hpab] at x1 x2 HM
      clear hpab
      have x3 : wr.cell? ⟨(ad.add (k * 2)).block, (ad.add (k * 2)).off + 1, none⟩ = some (.int .i64 pb) := by
        have := Addr.add_add ad (k * 2) 1
        rw [← this] at x2; exact x2
      by_cases hid2 : pa = id
      · have ht : (pa == id) = true := by simpa using hid2
        replace HM : Aside0 ((k : Int) = fidx id l0 0) := ⟨by rw [← HM.out, if_pos hid2]⟩
        replace hid2 := Aside0.mk hid2
        go_wp2_with fail
        with_reducible refine (Lit_calls pa pb id B _ hid).mono ?_
        rintro e w1 ⟨rfl, h1⟩
        rw [ht]
        replace HB := Aside0.mk (below_then HB.out HB.out.size h1); clear h1 ht hid x1 x2 x3
        go_wp2_with fail
        go_ret
        exact ⟨by rw [HM.out]; rfl, HB.out⟩
      · have ht : (pa == id) = false := by simpa using hid2
        replace HM : Aside0 (fidx id (l0.drop (k + 1)) (k + 1) = fidx id l0 0) := ⟨by rw [← HM.out, if_neg hid2]⟩
        replace hid2 := Aside0.mk hid2
        go_wp2_with fail
        with_reducible refine (Lit_calls pa pb id B _ hid).mono ?_
        rintro e w1 ⟨rfl, h1⟩
        rw [ht]
        replace HB := Aside0.mk (below_then HB.out HB.out.size h1); clear h1 ht hid x1 x2 x3
        go_wp2_with fail
        go_roundw
        case rel => exact ⟨k + 1, by omega, by go_num, HM, HB⟩
        case measure => simp [intOf]; omega
    · have hkl : k = n0 := by omega
      clear hlt
      subst hkl
      rw [List.drop_of_length_le (by rw [HR0.out.1]; exact Nat.le_refl _)] at HM
      go_wp2
      go_ret
      exact ⟨by rw [← HM.out]; rfl, HB.out⟩

theorem fidx_bd (id : Int) : ∀ (l : List (Int × Int)) (k : Nat), fidx id l k = -1 ∨ ((k : Int) ≤ fidx id l k ∧ fidx id l k < (k : Int) + l.length)
  | [], k => .inl rfl
  | p :: l, k => by
    unfold fidx
    split
    · right; simp; omega
    · rcases fidx_bd id l (k + 1) with h | h
      · exact .inl h
      · right; simp; omega
def fold1 (l : List (Int × Int)) (id : Int) : Int := if 0 ≤ fidx id l 0 then (l.getD (fidx id l 0).toNat (0, 0)).2 else 0

set_option maxHeartbeats 4000000 in
set_option maxRecDepth 100000 in
theorem Fold_calls (A0 : Option Addr) (n0 c0 : Nat) (l0 : List Int) (A1 : Option Addr) (n1 c1 : Nat) (l1 : List (Int × Int)) (w : World) (hr0 : Kd.C (Kd.int .i64) w A0 n0 l0) (hr1 : Kd.C kP2 w A1 n1 l1) (hl0 : n0 ≤ 17592186044416) :
    Calls Try.prog 14 #[.slice A0 n0 c0, .slice A1 n1 c1] w fun e w' => ∃ A c, e = .returned (.slice A n0 c) ∧ n0 ≤ c ∧ Kd.C (Kd.int .i64) w' A n0 (l0.map (fold1 l1)) ∧ Below w.heap.size w w' := by
  have hn0 := hr0.2.1
  have hn1 := hr1.2.1
  have HR0 := Aside0.mk hr0
  have HR1 := Aside0.mk hr1
  clear hr0 hr1
  go_enter Try.func14, Try.ntmps14
  go_wp2
  go_loopw [5, 12] (fun v i wr => ∃ (k : Nat), k ≤ n0 ∧ i = .int .i64 k ∧ Aside0 (Kd.R (Kd.int .i64) 3 wr w.heap.size (fun _ => True) v ((l0.take k).map (fold1 l1))) ∧ Aside0 (Below w.heap.size w wr)) (fun _ i _ => n0 - (intOf i).toNat)
  case atStart => exact ⟨0, by omega, rfl, ⟨Kd.R_nil _ _ _ _ _⟩, ⟨Below.refl _ _⟩⟩
  case round =>
    obtain ⟨k, hk, rfl, HO, HB⟩ := hrel
    by_cases hlt : k < n0
    · have q1 : (k : Int) < (n0 : Int) := by omega
      have hkl : k < l0.length := by rw [HR0.out.1]; exact hlt
      obtain ⟨ad, e1, x1⟩ := Kd.at_int HR0.out k (by omega) q1
      cases e1
      rw [Int.toNat_natCast] at x1
      replace x1 := (HB.out.cell (World.block_lt_of_cell? w _ x1)).trans x1
      obtain ⟨id, hid⟩ : ∃ id, rd l0 k = id := ⟨_, rfl⟩
      have ht8 : Aside0 ((l0.take (k + 1)).map (fold1 l1) = (l0.take k).map (fold1 l1) ++ [fold1 l1 id]) := ⟨by rw [take_snoc hkl, List.map_append, hid]; rfl⟩
      rw [hid] at x1
      clear hid
      obtain ⟨x, hx⟩ : ∃ x, fidx id l1 0 = x := ⟨_, rfl⟩
      have hbd := fidx_bd id l1 0
      have hf : fold1 l1 id = if 0 ≤ x then (l1.getD x.toNat (0, 0)).2 else 0 := by unfold fold1; rw [hx]
      rw [hx, HR1.out.1] at hbd
      replace hx := Aside0.mk hx
      replace hf := Aside0.mk hf
      have HN := Aside0.mk (below_alloc HB.out (.cells #[.int .i64 id] 3))
      have HO' := Aside0.mk (Kd.R_alloc HO.out (.cells #[.int .i64 id] 3))
      go_wp2_with fail
      with_reducible refine (IndexFunc_calls A1 n1 c1 l1 id _ _ ?hl ?hc).mono ?_
      case hl => exact Kd.C_below HR1.out HN.out
      case hc => exact cell_new _ _ _ _ 0
      rintro e w1 ⟨rfl, h1⟩
      rw [hx.out]
      replace HB := Aside0.mk (below_then HN.out HN.out.size h1)
      replace HO := Aside0.mk (Kd.R_below HO'.out h1)
      clear HN HO' h1 x1
      by_cases h0 : 0 ≤ x
      · obtain ⟨h2, h3⟩ : 0 ≤ x ∧ x < (n1 : Int) := by omega
        obtain ⟨a2, e2, y1, y2⟩ := at_P2 HR1.out x.toNat (by omega)
        cases e2
        have hf2 : Aside0 (fold1 l1 id = (l1.getD x.toNat (0, 0)).2) := ⟨by rw [hf.out, if_pos h0]⟩
        replace y2 := (HB.out.cell (World.block_lt_of_cell? w _ y2)).trans y2
        have y3 : w1.cell? ⟨(a2.add (x.toNat * 2)).block, (a2.add (x.toNat * 2)).off + 1, none⟩ = some (.int .i64 (l1.getD x.toNat (0, 0)).2) := by
          have := Addr.add_add a2 (x.toNat * 2) 1
          rw [← this] at y2; exact y2
        rw [← hf2.out] at y3
        clear y1 y2 hbd
        obtain ⟨tv, hto⟩ : ∃ tv, fold1 l1 id = tv := ⟨_, rfl⟩
        rw [hto] at y3 ht8
        clear hf hf2 hto
        go_wp2_with (first
          | ((with_reducible refine gate_builtin (b := .append) (xs := #[.tmp 26, .tmp 28]) rfl ?_); at_builtin; refine Kd.R_append (Kd.int .i64) (w0 := w) w.heap.size rfl (.tmp 26) (.tmp 28) 22 3 (.int .i64 0) 8 rfl Try.underlying22 info3 rfl (by decide) (by omega) _ ((l0.take k).map (fold1 l1)) tv [.int .i64 tv] (fun _ => True) (fun _ => False) rfl rfl ?aP (fun _ hk => hk.elim) ?aF ?aO ?aB ?aS ?aL ?_; (case aP => exact rfl); (case aB => exact HB.out); (case aF => (exact fun _ _ => trivial)); (case aO => exact HO.out); (case aS => exact below_size (HB.out)); (case aL => (have := List.length_take_le k l0; rw [List.length_map]; omega)); intro v1 wb ho hb1 hg hat; replace hb1 := Aside0.mk hb1; replace ho := Aside0.mk ho; clear hg hat))
        go_roundw
        case rel => exact ⟨k + 1, by omega, by go_num, ⟨by rw [ht8.out]; exact ho.out⟩, hb1⟩
        case measure => simp [intOf]; omega
      · have hto : fold1 l1 id = 0 := by rw [hf.out, if_neg h0]
        rw [hto] at ht8
        clear hf hto hbd
        have h0' : x < 0 := by omega
        go_wp2_with (first
          | ((with_reducible refine gate_builtin (b := .append) (xs := #[.tmp 26, .tmp 28]) rfl ?_); at_builtin; refine Kd.R_append (Kd.int .i64) (w0 := w) w.heap.size rfl (.tmp 26) (.tmp 28) 22 3 (.int .i64 0) 8 rfl Try.underlying22 info3 rfl (by decide) (by omega) _ ((l0.take k).map (fold1 l1)) 0 [.int .i64 0] (fun _ => True) (fun _ => False) rfl rfl ?aP (fun _ hk => hk.elim) ?aF ?aO ?aB ?aS ?aL ?_; (case aP => exact rfl); (case aB => exact HB.out); (case aF => (exact fun _ _ => trivial)); (case aO => exact HO.out); (case aS => exact below_size (HB.out)); (case aL => (have := List.length_take_le k l0; rw [List.length_map]; omega)); intro v1 wb ho hb1 hg hat; replace hb1 := Aside0.mk hb1; replace ho := Aside0.mk ho; clear hg hat))
        go_roundw
        case rel => exact ⟨k + 1, by omega, by go_num, ⟨by rw [ht8.out]; exact ho.out⟩, hb1⟩
        case measure => simp [intOf]; omega
    · have hkl : k = n0 := by omega
      clear hlt
      subst hkl
      rw [List.take_of_length_le (by rw [HR0.out.1]; exact Nat.le_refl _)] at HO
      obtain ⟨A, c, hv, hc, hC⟩ := Kd.R_reads HO.out
      rw [List.length_map, HR0.out.1] at hv hc hC
      subst hv
      replace hc := Aside0.mk hc; replace hC := Aside0.mk hC
      clear HO
      go_wp2
      go_ret
      exact ⟨A, c, rfl, hc.out, hC.out, HB.out⟩
end Go.Proofs.Ytoljhicemcjbkaa.Sh
