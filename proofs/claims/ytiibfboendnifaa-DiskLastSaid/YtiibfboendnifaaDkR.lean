/- DiskLast: what is written last is kept. -/
import Derived.Test.YtiibfboendnifaaDkP
import Derived.Test.YtiibfboendnifaaAz
namespace Go.Proofs.Ytiibfboendnifaa.Dk
set_option linter.unusedVariables false
set_option linter.unusedSimpArgs false
open Go.RowKit Go.Proofs.Bk Go.Proofs.Bm Go.Proofs.Op Go.Proofs.YtiibfboendnifaaW.PrintWords

theorem bytes_of_row {w : World} {b n : Nat} {v : Value} {xs : List Int} (h : w.ownsRow b 5 1 v n (byt xs)) (hn : xs.length = n) : ∃ A c, v = .slice A n c ∧ (Kd.int .u8).C w A n xs := by
  subst hn
  obtain ⟨_, h | h⟩ := h
  · obtain ⟨rfl, h0⟩ := h
    have : xs = [] := List.eq_nil_of_length_eq_zero h0
    subst this
    exact ⟨none, 0, rfl, Kd.C_nil _ _⟩
  · obtain ⟨g, cap, cur, rfl, hb, hg, hn, hm, hs, ht⟩ := h
    refine ⟨some ⟨g, 0, none⟩, cap, rfl, ⟨rfl, (by have hml : maxLen ≤ 9223372036854775807 := (by decide); omega), fun hp => ⟨_, rfl, fun j x hj => ⟨[.int .u8 x], rfl, rfl, fun i u hu => ?_⟩⟩⟩⟩
    have hi : i = 0 := by cases i with | zero => rfl | succ i => simp at hu
    subst hi
    simp at hu; subst hu
    show w.cell? ((⟨g, 0, none⟩ : Addr).add (j * 1 + 0)) = _
    rw [addAt, cell_row hg]
    have hj' : j < xs.length := (List.getElem?_eq_some_iff.1 hj).1
    have := congrArg (fun l => l[j]?) ht
    simp only [byt, Nat.mul_one, List.getElem?_take_of_lt hj', List.getElem?_map, hj, Option.map_some, Array.getElem?_toList] at this
    rw [← this]; congr 1; omega
theorem info_u8 : (Try.prog.info? 5).map (fun i => (i.zero, i.size, i.bytes)) = some (some (.int .u8 0), 1, 1) := by kernel_rfl
theorem int_row (t : TypeId) (i : Int) (W : World) : (Kd.int .i64).C (W.alloc (.cells #[.int .i64 i] t)) (some ⟨W.heap.size, 0, none⟩) 1 [i] := by
  refine ⟨rfl, by omega, fun _ => ⟨_, rfl, fun j p hj => ⟨[.int .i64 p], rfl, rfl, fun q u hu => ?_⟩⟩⟩
  have hi : q = 0 := by cases q with | zero => rfl | succ i => simp at hu
  subst hi
  simp at hu; subst hu
  show (W.alloc _).cell? ((⟨W.heap.size, 0, none⟩ : Addr).add (j * 1 + 0)) = _
  rw [addAt, cell_row (heap_alloc_same W _)]
  rcases j with _ | j
  · simp at hj; subst hj; rfl
  · simp at hj
theorem aset_one (i : Int) (v u : List Int) : aset [(i, v)] i u = [(i, u)] := by simp [aset]

theorem want_runs (W : World) (A3 : Option Addr) (n3 c3 : Nat) (l3 : List Int) (h : (Kd.int .u8).C W A3 n3 l3) (h64 : n3 ≤ 64) (ty1 ty2 : TypeId) :
    ∃ v1 W1 v2 W2, (Builtin.append_ #[23, 23] ty1 #[.slice (some ⟨W.heap.size, 0, none⟩) 0 0, .slice A3 n3 c3]).run Try.prog (W.alloc (.cells #[] 5)) = .ok v1 W1 ∧
      (Builtin.append_ #[23, 3] ty2 #[v1, .int .i64 (64 - (n3 : Int))]).run Try.prog W1 = .ok v2 W2 ∧ (∃ A c, v2 = .slice A 64 c ∧ (Kd.int .u8).C W2 A 64 (pad l3)) ∧ Below W.heap.size W W2 := by
  obtain ⟨ti, hti, hz⟩ := Option.map_eq_some_iff.1 info_u8
  simp only [Prod.mk.injEq] at hz
  obtain ⟨hz0, hz1, hz2⟩ := hz
  have hl : l3.length = n3 := h.1
  have hbel := below_alloc (Below.refl W.heap.size W) (.cells #[] 5)
  have hown : (W.alloc (.cells #[] 5)).ownsRow W.heap.size 5 1 (.slice (some ⟨W.heap.size, 0, none⟩) 0 0) 0 [] := ⟨rfl, .inr ⟨W.heap.size, 0, #[], rfl, Nat.le_refl _, heap_alloc_same W _, Nat.le_refl _, by decide, rfl, rfl⟩⟩
  have h1 : ∃ v1 W1, (Builtin.append_ #[23, 23] ty1 #[.slice (some ⟨W.heap.size, 0, none⟩) 0 0, .slice A3 n3 c3]).run Try.prog (W.alloc (.cells #[] 5)) = .ok v1 W1 ∧ W1.ownsRow W.heap.size 5 1 v1 n3 (byt l3) ∧ Below W.heap.size W W1 ∧ v1 ≠ .slice none 0 0 := by
    cases A3 with
    | none =>
      have hn0 : n3 = 0 := by
        apply Decidable.byContradiction; intro hc
        obtain ⟨ad, e, _⟩ := h.2.2 (by omega)
        cases e
      subst hn0
      have : l3 = [] := List.eq_nil_of_length_eq_zero hl
      subst this
      refine ⟨_, _, ?_, hown, hbel, by simp⟩
      simp [Builtin.append_, run_underlying Try.underlying23, run_underlying Try.underlying5, sizeOf, typeInfo, hti, hz1, Builtin.lenOf, Builtin.firstCells, storeCells]
    | some ad =>
      have hc : ∀ j u, (byt l3)[j]? = some u → (W.alloc (.cells #[] 5)).cell? (ad.add j) = some u := by
        intro j u hj
        have hjl : j < n3 := by rw [← hl]; have := (List.getElem?_eq_some_iff.1 hj).1; rw [byt_length] at this; exact this
        obtain ⟨ad', e, hx⟩ := Kd.at_int h (j : Int) (by omega) (by omega)
        injection e with e; subst e
        rw [Int.toNat_natCast] at hx
        have hu : u = .int .u8 (rd l3 j) := by
          rw [byt, List.getElem?_map] at hj
          obtain ⟨y, hy, rfl⟩ := Option.map_eq_some_iff.1 hj
          unfold rd; rw [Int.toNat_natCast, List.getD_eq_getElem?_getD, hy]; rfl
        rw [hu]
        exact (hbel.cell (World.block_lt_of_cell? W _ hx)).trans hx
      obtain ⟨v1, W1, r1, r2, r3, r4⟩ := run_append_own (P := Try.prog) (w := W.alloc (.cells #[] 5)) W.heap.size 23 ty1 5 ti (.int .u8 0) 1 1 Try.underlying23 hti hz0 hz1 hz2 rfl (by decide) _ 0 [] hown ad n3 c3 (byt l3) (by rw [byt_length, hl]; omega) hc byt_one (by have hml : 64 ≤ maxLen := (by decide); omega) (by omega) (by simp)
      refine ⟨v1, W1, r1, by rw [Nat.zero_add, List.nil_append] at r2; exact r2, hbel.grown r3 hbel.size (fun k e => by cases e; exact Nat.le_refl _), fun e => by have := r4.1 e; cases this.1⟩
  obtain ⟨v1, W1, r1, r2, r3, r4⟩ := h1
  have hv1 : ∃ g2 cap2, v1 = .slice (some ⟨g2, 0, none⟩) n3 cap2 ∧ W.heap.size ≤ g2 := by
    obtain ⟨_, hh | ⟨g, cap, cur, e, hb, _⟩⟩ := r2
    · exact (r4 hh.1).elim
    · exact ⟨g, cap, e, hb⟩
  obtain ⟨g2, cap2, rfl, hg2⟩ := hv1
  obtain ⟨k, hk⟩ : ∃ k : Nat, (64 : Int) - n3 = k := ⟨64 - n3, by omega⟩
  obtain ⟨v2, W2, s1, s2, s3⟩ := run_append_zeros_own (P := Try.prog) W1 W.heap.size 23 3 ty2 5 ti (.int .u8 0) .i64 .i64 Try.underlying23 Try.underlying3 hti hz0 hz1 hz2 rfl rfl g2 n3 cap2 (byt l3) r2 k (by omega) r3.size
  refine ⟨_, W1, v2, W2, r1, by rw [hk]; exact s1, ?_, r3.grown s3 r3.size (fun k e => by cases e; exact hg2)⟩
  have hp : byt l3 ++ List.replicate k (Value.int .u8 0) = byt (pad l3) := by
    unfold byt pad
    rw [List.map_append, List.map_replicate, hl, show 64 - n3 = k by omega]
  rw [hp, show n3 + k = 64 by omega] at s2
  exact bytes_of_row s2 (by unfold pad; simp; omega)

set_option maxHeartbeats 8000000 in
set_option maxRecDepth 100000 in
theorem DiskLast_calls (w : World) (A0 : Option Addr) (n0 c0 : Nat) (l0 : List OpM) (hr0 : kOp.C w A0 n0 l0) (hc0 : n0 ≤ c0) (ho0 : ∀ x ∈ l0, okOp x)
    (a1 : Int) (w1 : (Lit.int .u8 a1).wf = true)
    (A2 : Option Addr) (n2 c2 : Nat) (l2 : List Int) (hr2 : (Kd.int .u8).C w A2 n2 l2) (hc2 : n2 ≤ c2) (ho2 : ∀ x ∈ l2, (Lit.int .u8 x).wf = true)
    (A3 : Option Addr) (n3 c3 : Nat) (l3 : List Int) (hr3 : (Kd.int .u8).C w A3 n3 l3) (hc3 : n3 ≤ c3) (ho3 : ∀ x ∈ l3, (Lit.int .u8 x).wf = true) (b4 : Bool) :
    Calls Try.prog 4 #[.slice A0 n0 c0, .int .u8 a1, .slice A2 n2 c2, .slice A3 n3 c3, .bool b4] w (OkPost w) := by
  have hb0 : Aside0 (∀ o ∈ l0, ∀ x ∈ o.b, 0 ≤ x ∧ x ≤ 255) := ⟨fun o ho x hx => wf_u8 ((ho0 o ho).2.2.2.1 x hx)⟩
  have hb2 : Aside0 (∀ x ∈ l2, 0 ≤ x ∧ x ≤ 255) := ⟨fun x hx => wf_u8 (ho2 x hx)⟩
  have hb3 : Aside0 (∀ x ∈ l3, 0 ≤ x ∧ x ≤ 255) := ⟨fun x hx => wf_u8 (ho3 x hx)⟩
  have ha1 := wf_u8 w1
  have hn2 := hr2.2.1
  have hn3 := hr3.2.1
  have hl2 : Aside0 (l2.length = n2) := ⟨hr2.1⟩
  have hl3 : Aside0 (l3.length = n3) := ⟨hr3.1⟩
  have HR0 := Aside0.mk hr0
  have HR2 := Aside0.mk hr2
  have HR3 := Aside0.mk hr3
  clear hr0 hr2 hr3 hc0 hc2 hc3 ho0 ho2 ho3 w1
  go_enter Try.func4, Try.ntmps4
  go_wp2_with fail
  with_reducible refine (awake_calls w).mono ?_
  rintro e w1 ⟨rfl, hB1⟩
  replace hB1 := Aside0.mk hB1
  go_wp2_with fail
  with_reducible refine (few_calls A0 n0 c0 l0 _ (Kd.C_below HR0.out hB1.out)).mono ?_
  rintro e w' ⟨⟨b1, rfl⟩, rfl⟩
  by_cases hb : b1 = true ∧ n2 ≤ 64 ∧ n3 ≤ 64
  · obtain ⟨rfl, q2, q3⟩ := hb
    go_wp2_with fail
    with_reducible refine (walked_calls A0 n0 c0 l0 _ (Kd.C_below HR0.out hB1.out) hb0.out).mono ?_
    rintro e w4 ⟨B, K, M, D, rfl, hD, hF, hO⟩
    replace hO := hO.back hB1.out
    have hF1 := hF.fl
    have hw1 := fl_waits hF
    have hE0 := hF.flErr
    replace hD := Aside0.mk hD; replace hF := Aside0.mk hF; replace hO := Aside0.mk hO; replace hE0 := Aside0.mk hE0
    go_wp2_with fail
    obtain ⟨i, hi⟩ : ∃ i, a1 % 20 = i := ⟨_, rfl⟩
    rw [hi]
    have hi0 : 0 ≤ i := by omega
    have hi1 : i < 20 := by omega
    clear hi ha1
    with_reducible refine (Flush_calls B K M D _ hD.out).mono ?_
    rintro e w5 ⟨rfl, h5, hk5⟩
    have hO5 := hO.out.keep hk5
    rw [hE0.out]
    generalize D.fl = D1 at h5 hF1 hw1
    have hq2 : l2.length ≤ 64 := by rw [hl2.out]; exact q2
    have hq3 : l3.length ≤ 64 := by rw [hl3.out]; exact q3
    have hE1 := hF1.wrErr (n := 20) hi0 hi1 hq2
    have hW1 := hF1.wrt_eq (n := 20) hi0 hi1 hq2
    have hF2 := hF1.wrt i l2
    have hw2 : (D1.wrt i l2).waits = [(i, pad l2)] := by rw [hW1]; show aset D1.waits i (pad l2) = _; rw [hw1]; rfl
    have hE2 := hF2.wrErr (n := 20) hi0 hi1 hq3
    have hW2 := hF2.wrt_eq (n := 20) hi0 hi1 hq3
    have hf5 := hO5.cf HR2.out
    replace h5 := Aside0.mk h5; replace hk5 := Aside0.mk hk5; replace hO5 := Aside0.mk hO5; replace hF1 := Aside0.mk hF1; replace hw1 := Aside0.mk hw1; replace hE1 := Aside0.mk hE1; replace hW1 := Aside0.mk hW1; replace hF2 := Aside0.mk hF2; replace hw2 := Aside0.mk hw2; replace hE2 := Aside0.mk hE2; replace hW2 := Aside0.mk hW2; replace hf5 := Aside0.mk hf5; replace hq2 := Aside0.mk hq2; replace hq3 := Aside0.mk hq3
    go_wp2_with fail
    with_reducible refine (Write_calls B K M D1 i A2 n2 c2 l2 _ h5.out hf5.out hb2.out).mono ?_
    rintro e w6 ⟨rfl, h6, hk6⟩
    have hO6 := hO5.out.keep hk6
    rw [hE1.out]
    generalize D1.wrt i l2 = D2 at h6 hF2 hw2 hE2 hW2
    have hf6 := hO6.cf HR3.out
    have hF3 := hF2.out.wrt i l3
    have hw3 : (D2.wrt i l3).waits = [(i, pad l3)] := by rw [hW2.out]; show aset D2.waits i (pad l3) = _; rw [hw2.out]; exact aset_one _ _ _
    replace h6 := Aside0.mk h6; replace hk6 := Aside0.mk hk6; replace hO6 := Aside0.mk hO6; replace hf6 := Aside0.mk hf6; replace hF3 := Aside0.mk hF3; replace hw3 := Aside0.mk hw3
    go_wp2_with fail
    with_reducible refine (Write_calls B K M D2 i A3 n3 c3 l3 _ h6.out hf6.out hb3.out).mono ?_
    rintro e w7 ⟨rfl, h7, hk7⟩
    have hO7 := hO6.out.keep hk7
    rw [hE2.out]
    generalize D2.wrt i l3 = D3 at h7 hF3 hw3
    have hts : D3.wts = [i] := by unfold Dsk.wts srt; rw [hw3.out]; simp
    replace h7 := Aside0.mk h7; replace hk7 := Aside0.mk hk7; replace hO7 := Aside0.mk hO7; replace hts := Aside0.mk hts
    go_wp2_with fail
    with_reducible refine (Waits_calls B K M D3 _ h7.out).mono ?_
    rintro e w8 ⟨v, rfl, ⟨A7, c7, rfl, hc7, hf7⟩, hb8⟩
    rw [show D3.waits.length = 1 from by rw [hw3.out]; rfl] at hc7 ⊢
    rw [hts.out] at hc7
    have h8 := h7.out.below hb8
    have hO8 := hO7.out.below hb8
    have hbA := below_alloc (Below.refl w8.heap.size w8) (.cells #[.int .i64 i] 3)
    have hy1 := Kd.C_below hc7 hbA
    have hy2 := int_row 3 i w8
    have h9 := h8.below hbA
    have hO9 := hO8.below hbA
    replace hc7 := Aside0.mk hc7; replace hf7 := Aside0.mk hf7; replace hb8 := Aside0.mk hb8; replace h8 := Aside0.mk h8; replace hO8 := Aside0.mk hO8; replace hbA := Aside0.mk hbA; replace hy1 := Aside0.mk hy1; replace hy2 := Aside0.mk hy2; replace h9 := Aside0.mk h9; replace hO9 := Aside0.mk hO9
    go_wp2_with fail
    with_reducible refine (Same03_calls A7 1 c7 (some ⟨w8.heap.size, 0, none⟩) 1 [i] _ hy1.out hy2.out).mono ?_
    rintro e wS ⟨rfl, mS, rfl⟩
    have h10 : IsDisk ((w8.alloc (.cells #[.int .i64 i] 3)).drewN mS) B K M D3 := h9.out.drewN mS
    have hO10 : Old w ((w8.alloc (.cells #[.int .i64 i] 3)).drewN mS) B K M := hO9.out.keep (KeepF.drewN (KeepF.refl _ _) mS)
    obtain ⟨wz, hz⟩ : ∃ wz, (w8.alloc (.cells #[.int .i64 i] 3)).drewN mS = wz := ⟨_, rfl⟩
    rw [hz] at h10 hO10 ⊢
    clear hz
    have hpl : Aside0 ((pad l3).length = 64) := ⟨by unfold pad; rw [List.length_append, List.length_replicate]; have := hq3.out; omega⟩
    replace h10 := Aside0.mk h10; replace hO10 := Aside0.mk hO10
    cases b4 with
    | true =>
      have hF4 := hF3.out.fl
      have hE4 := hF3.out.flErr
      have hk4 := fl_kept (n := 20) hF3.out hi0 (v := pad l3) (by rw [hw3.out]; simp [aget_cons]) hi1
      have hw4 := fl_waits hF3.out
      replace hF4 := Aside0.mk hF4; replace hE4 := Aside0.mk hE4; replace hk4 := Aside0.mk hk4; replace hw4 := Aside0.mk hw4
      go_wp2_with fail
      with_reducible refine (Flush_calls B K M D3 _ h10.out).mono ?_
      rintro e w11 ⟨rfl, h11, hk11⟩
      have hO11 := hO10.out.keep hk11
      rw [hE4.out]
      generalize D3.fl = D4 at h11 hF4 hk4 hw4
      have hsec : Aside0 ((D4.crash [true]).sec i = pad l3) := ⟨by rw [crash_none hF4.out hw4.out]; exact sec_kept (by rw [hw4.out]; rfl) hk4.out⟩
      replace h11 := Aside0.mk h11; replace hk11 := Aside0.mk hk11; replace hO11 := Aside0.mk hO11
      have hbT := below_alloc (Below.refl w11.heap.size w11) (.cells #[.bool true] 4)
      have hT := tr_row 4 w11 (FD B K M) h11.out.fresh
      have hA := h11.out.below hbT
      have hOA := hO11.out.below hbT
      have hE9 := (hF4.out.crash [true]).rdErr (n := 20) hi0 hi1
      replace hT := Aside0.mk hT; replace hA := Aside0.mk hA; replace hOA := Aside0.mk hOA; replace hE9 := Aside0.mk hE9; replace hbT := Aside0.mk hbT
      go_wp2_with fail
      with_reducible refine (Crash_calls B K M D4 (some ⟨w11.heap.size, 0, none⟩) 1 1 [true] _ hA.out hT.out).mono ?_
      rintro e w12 ⟨rfl, h12, hk12⟩
      have hO12 := hOA.out.keep hk12
      replace h12 := Aside0.mk h12; replace hk12 := Aside0.mk hk12; replace hO12 := Aside0.mk hO12
      go_wp2_with fail
      with_reducible refine (Read_calls B K M _ i _ h12.out).mono ?_
      rintro e w13 ⟨v, rfl, hs, _, hb13⟩
      rw [hE9.out] at hs ⊢
      obtain ⟨g, hs, hg, hg'⟩ := hs rfl
      rw [hsec.out] at hs
      obtain ⟨f, d, rfl, hd, hx⟩ := hs
      change SlRow w13 g f (pad l3) at hx
      have hO13 := hO12.out.below hb13
      rw [hpl.out]
      have hr3 := Kd.C_below HR3.out hO13.bel
      obtain ⟨v1, W1, v2, W2, r1, r2, ⟨A9, c9, rfl, hc9⟩, hb9⟩ := want_runs w13 A3 n3 c3 l3 hr3 q3 23 23
      have y1 : (Kd.int .u8).C W2 (some ⟨g, f, none⟩) 64 (pad l3) := Kd.C_below (hx.c hpl.out (by omega)) hb9
      have hO9 := hO13.below hb9
      replace hd := Aside0.mk hd; replace hx := Aside0.mk hx; replace hO13 := Aside0.mk hO13; replace hb13 := Aside0.mk hb13; replace hg := Aside0.mk hg; replace hg' := Aside0.mk hg'; replace hr3 := Aside0.mk hr3; replace r1 := Aside0.mk r1; replace r2 := Aside0.mk r2; replace hc9 := Aside0.mk hc9; replace hb9 := Aside0.mk hb9; replace y1 := Aside0.mk y1; replace hO9 := Aside0.mk hO9
      go_wp2_with (first
        | ((with_reducible refine gate_op (.call ⟨.builtin .append, #[.tmp 87, .tmp 88], #[23, 23]⟩) rfl ?_); refine Lib.wpList_append_run _ rfl (.tmp 87) (.tmp 88) 23 23 rfl _ _ rfl rfl v1 W1 r1.out ?_)
        | ((with_reducible refine gate_op (.call ⟨.builtin .append, #[.tmp 89, .tmp 92], #[23, 3]⟩) rfl ?_); refine Lib.wpList_append_run _ rfl (.tmp 89) (.tmp 92) 23 3 rfl _ _ rfl rfl (.slice A9 64 c9) W2 r2.out ?_))
      with_reducible refine (Same01_calls (some ⟨g, f, none⟩) 64 d A9 c9 (pad l3) _ y1.out hc9.out).mono ?_
      rintro e wE ⟨rfl, mE, rfl⟩
      go_wp2_with fail
      go_ret
      exact ⟨rfl, ⟨hO9.out.bel.os, hO9.out.bel.tape, hO9.out.bel.output, hO9.out.bel.size, hO9.out.bel.block⟩⟩
    | false =>
      have hsec : Aside0 ((D3.crash [true]).sec i = pad l3) := ⟨by
        rw [crash_one hF3.out hw3.out]
        refine sec_kept rfl ?_
        show (D3.kept.set i.toNat (pad l3))[i.toNat]? = _
        rw [List.getElem?_set_self (by rw [hF3.out.len]; omega)]⟩
      have hbT := below_alloc (Below.refl wz.heap.size wz) (.cells #[.bool true] 4)
      have hT := tr_row 4 wz (FD B K M) h10.out.fresh
      have hA := h10.out.below hbT
      have hOA := hO10.out.below hbT
      have hE9 := (hF3.out.crash [true]).rdErr (n := 20) hi0 hi1
      replace hT := Aside0.mk hT; replace hA := Aside0.mk hA; replace hOA := Aside0.mk hOA; replace hE9 := Aside0.mk hE9; replace hbT := Aside0.mk hbT
      go_wp2_with fail
      with_reducible refine (Crash_calls B K M D3 (some ⟨wz.heap.size, 0, none⟩) 1 1 [true] _ hA.out hT.out).mono ?_
      rintro e w12 ⟨rfl, h12, hk12⟩
      have hO12 := hOA.out.keep hk12
      replace h12 := Aside0.mk h12; replace hk12 := Aside0.mk hk12; replace hO12 := Aside0.mk hO12
      go_wp2_with fail
      with_reducible refine (Read_calls B K M _ i _ h12.out).mono ?_
      rintro e w13 ⟨v, rfl, hs, _, hb13⟩
      rw [hE9.out] at hs ⊢
      obtain ⟨g, hs, hg, hg'⟩ := hs rfl
      rw [hsec.out] at hs
      obtain ⟨f, d, rfl, hd, hx⟩ := hs
      change SlRow w13 g f (pad l3) at hx
      have hO13 := hO12.out.below hb13
      rw [hpl.out]
      have hr3 := Kd.C_below HR3.out hO13.bel
      obtain ⟨v1, W1, v2, W2, r1, r2, ⟨A9, c9, rfl, hc9⟩, hb9⟩ := want_runs w13 A3 n3 c3 l3 hr3 q3 23 23
      have y1 : (Kd.int .u8).C W2 (some ⟨g, f, none⟩) 64 (pad l3) := Kd.C_below (hx.c hpl.out (by omega)) hb9
      have hO9 := hO13.below hb9
      replace hd := Aside0.mk hd; replace hx := Aside0.mk hx; replace hO13 := Aside0.mk hO13; replace hb13 := Aside0.mk hb13; replace hg := Aside0.mk hg; replace hg' := Aside0.mk hg'; replace hr3 := Aside0.mk hr3; replace r1 := Aside0.mk r1; replace r2 := Aside0.mk r2; replace hc9 := Aside0.mk hc9; replace hb9 := Aside0.mk hb9; replace y1 := Aside0.mk y1; replace hO9 := Aside0.mk hO9
      go_wp2_with (first
        | ((with_reducible refine gate_op (.call ⟨.builtin .append, #[.tmp 87, .tmp 88], #[23, 23]⟩) rfl ?_); refine Lib.wpList_append_run _ rfl (.tmp 87) (.tmp 88) 23 23 rfl _ _ rfl rfl v1 W1 r1.out ?_)
        | ((with_reducible refine gate_op (.call ⟨.builtin .append, #[.tmp 89, .tmp 92], #[23, 3]⟩) rfl ?_); refine Lib.wpList_append_run _ rfl (.tmp 89) (.tmp 92) 23 3 rfl _ _ rfl rfl (.slice A9 64 c9) W2 r2.out ?_))
      with_reducible refine (Same01_calls (some ⟨g, f, none⟩) 64 d A9 c9 (pad l3) _ y1.out hc9.out).mono ?_
      rintro e wE ⟨rfl, mE, rfl⟩
      go_wp2_with fail
      go_ret
      exact ⟨rfl, ⟨hO9.out.bel.os, hO9.out.bel.tape, hO9.out.bel.output, hO9.out.bel.size, hO9.out.bel.block⟩⟩
  · have fin := Aside0.mk (show OkPost w (.returned (.bool true)) w1 from ⟨rfl, hB1.out⟩)
    clear hB1
    cases b1 with
    | false => go_wp2; go_ret; exact fin.out
    | true =>
      by_cases q2 : n2 ≤ 64
      · have q3 : ¬ n3 ≤ 64 := fun h => hb ⟨rfl, q2, h⟩
        clear hb
        go_wp2; go_ret; exact fin.out
      · clear hb
        go_wp2; go_ret; exact fin.out
end Go.Proofs.Ytiibfboendnifaa.Dk
