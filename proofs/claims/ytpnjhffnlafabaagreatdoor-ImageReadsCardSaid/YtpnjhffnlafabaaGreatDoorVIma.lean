/- Unpack of package parcel: the walk. -/
import Derived.Test.YtpnjhffnlafabaaGreatDoorVImp
namespace Go.Proofs.YtpnjhffnlafabaaGreatDoor.Im
set_option linter.unusedVariables false
set_option linter.unusedSimpArgs false
open Go.Proofs Go.RowKit Go.Proofs.Bk Go.Proofs.Bm Go.Proofs.Sc Go.Proofs.Kf Go.Proofs.YtpnjhffnlafabaaGreatDoorW.PrintWords Go.Proofs.YtpnjhffnlafabaaGreatDoor.Sl Go.Proofs.YtpnjhffnlafabaaGreatDoor.Sn Go.Proofs.YtpnjhffnlafabaaGreatDoor.PImageBack
theorem lit_C {w : World} {ad : Addr} {n : Nat} {xs : List Int} (h : Lit w (.slice (some ad) n n) xs) (hn : xs.length = n) (hn2 : n ≤ 1000) : U8.C w (some ad) n xs := by
  obtain ⟨ad', e, hc⟩ := h
  injection e with e
  injection e with e
  subst e
  refine ⟨hn, by omega, fun _ => ⟨ad, rfl, fun j x hj => ⟨[.int .u8 x], rfl, rfl, fun i u hu => ?_⟩⟩⟩
  have hi : i = 0 := by cases i with | zero => rfl | succ i => simp at hu
  subst hi
  simp at hu; subst hu
  show w.cell? (ad.add (j * 1 + 0)) = _
  rw [Nat.mul_one, Nat.add_zero]
  exact hc j _ (by simp [byt, hj])
theorem tableOf_len (b : List Int) : (tableOf b).2.1.length ≤ 16 := by
  unfold tableOf
  repeat' split
  all_goals simp [entriesOf_length]
  all_goals omega
theorem secsZ_at {es : List EN} {bs : List (List Int)} {j : Nat} {p : SE} (h : (secsZ es bs)[j]? = some p) : ∃ x l, es[j]? = some x ∧ bs[j]? = some l ∧ p = ⟨x.f0, l⟩ := by
  unfold secsZ at h
  rw [List.getElem?_map, Option.map_eq_some_iff] at h
  obtain ⟨⟨x, l⟩, h1, rfl⟩ := h
  rw [List.getElem?_zip_eq_some] at h1
  exact ⟨x, l, h1.1, h1.2, rfl⟩
theorem OW.C {W : World} {q r : Nat} {es : List EN} {bs : List (List Int)} (h : OW W q r es bs) (hl : es.length = bs.length) (hn : es.length ≤ 1000) : kE.C W (some ⟨q, 0, none⟩) es.length (secsZ es bs) := by
  refine ⟨by unfold secsZ; rw [List.length_map, List.length_zip, ← hl, Nat.min_self], by omega, fun _ => ⟨_, rfl, fun j p hp => ?_⟩⟩
  obtain ⟨x, l, h1, h2, rfl⟩ := secsZ_at hp
  have k1 := h.kind j x h1
  obtain ⟨A, c, k2, k3, k4, -⟩ := h.body j l h2
  refine ⟨[.int .i64 x.f0, .slice A l.length c], rfl, k36_mk W ⟨x.f0, l⟩ k3 k4, fun i u hu => ?_⟩
  rw [Sn.add_at, Nat.zero_add]
  rcases i with _ | _ | i
  · cases hu; exact k1
  · cases hu; exact k2
  · simp at hu
def UnpPost (b : List Int) (w : World) (e : Ending) (w' : World) : Prop :=
  ∃ (A : Option Addr) (c : Nat) (er : Int) (ss : List SE), e = .returned (.tuple #[.slice A ss.length c, .int .i64 er]) ∧ (er, ss) = unpackOf b ∧ Below w.heap.size w w' ∧ ss.length ≤ c ∧ kE.C w' A ss.length ss
theorem UnpPost.odd {b : List Int} {w w' : World} {er : Int} (h : unpackOf b = (er, [])) (hb : Below w.heap.size w w') : UnpPost b w (.returned (.tuple #[.slice none 0 0, .int .i64 er])) w' :=
  ⟨none, 0, er, [], rfl, h.symm, hb, Nat.le_refl _, Kd.C_nil _ _⟩
set_option maxHeartbeats 8000000 in
set_option maxRecDepth 100000 in
theorem Unpack_calls (A : Option Addr) (n c : Nat) (b : List Int) (w : World) (hT : Tab w) (h : U8.C w A n b) (hc : n ≤ c) (hn : n ≤ 140737488355328) (hby : inB b) :
    Calls Tryz.prog 27 #[.slice A n c] w (UnpPost b w) := by
  have hln : b.length = n := h.1
  have HE := Aside0.mk h
  have HT := Aside0.mk hT
  clear h hT
  obtain ⟨U, hU⟩ : ∃ U, unpackOf b = U := ⟨_, rfl⟩
  have hU' := hU
  unfold unpackOf at hU'
  rw [hln] at hU'
  by_cases h9 : n < 9
  · have z9 : (n : Int) < 9 := by omega
    rw [if_pos h9] at hU'
    have ht : Aside0 (unpackOf b = (2, [])) := ⟨by rw [hU, ← hU']⟩
    replace hln := Aside0.mk hln; replace hby := Aside0.mk hby; replace hU := Aside0.mk hU; replace hU' := Aside0.mk hU'
    go_enter Tryz.func27, Tryz.ntmps27
    go_wp2_with fail
    go_ret2
    exact UnpPost.odd ht.out (Below.refl _ _)
  have z9 : ¬ (n : Int) < 9 := by omega
  rw [if_neg h9] at hU'
  obtain ⟨pf, hpf⟩ : ∃ p, decide (b.take 4 = pmagic) = p := ⟨_, rfl⟩
  have hcv : ∀ (n1 c1 : Nat), _ := fun n1 c1 => Go.Joins.run_convert_bytes_const_at (P := Tryz.prog) w 28 5 #[.int .u8 68, .int .u8 80, .int .u8 90, .int .u8 49] n1 c1 w.heap.size rfl Tryz.underlying28 Tryz.underlying5
  change ∀ (n1 c1 : Nat), _ = Result.ok _ (World.alloc _ (.cells _ _ (4, 5))) at hcv
  replace hln := Aside0.mk hln; replace hby := Aside0.mk hby; replace hU := Aside0.mk hU; replace hU' := Aside0.mk hU'
  go_enter Tryz.func27, Tryz.ntmps27
  go_wp2_with fail
  change Calls _ _ _ (w.alloc (.cells #[.int .u8 68, .int .u8 80, .int .u8 90, .int .u8 49] 5 (4, 5))) _
  have hlitW := lit_magic w
  have hb3 := below_alloc (Below.refl w.heap.size w) (.cells #[.int .u8 68, .int .u8 80, .int .u8 90, .int .u8 49] 5 (4, 5))
  generalize w.alloc (.cells #[.int .u8 68, .int .u8 80, .int .u8 90, .int .u8 49] 5 (4, 5)) = W3 at hlitW hb3 ⊢
  clear hcv
  have hC := lit_C hlitW rfl (by decide)
  have hpm : inB pmagic := pmagic_range
  with_reducible refine (HasPrefix_calls A _ n c 4 4 b pmagic W3 (Kd.C_below HE.out hb3) hC hc hby.out hpm).mono ?_
  rintro e w' ⟨rfl, rfl⟩
  rw [hpf]
  clear hC hlitW hpm
  have hB3 := Aside0.mk hb3
  clear hb3
  cases pf with
  | false =>
    have ht : Aside0 (unpackOf b = (20, [])) := ⟨by rw [hU.out, ← hU'.out, if_pos (by simpa using hpf)]⟩
    go_wp2_with fail
    go_ret2
    exact UnpPost.odd ht.out hB3.out
  | true =>
  replace hU' := hU'.out
  rw [if_neg (by simpa using hpf)] at hU'
  have kt := Aside0.mk (table_calls A n c b w' (HT.out.step hB3.out) (Kd.C_below HE.out hB3.out) hc hn (by omega) hby.out)
  replace hU' := Aside0.mk hU'
  go_wp2_with fail
  with_reducible refine kt.out.mono ?_
  rintro e w4 ⟨v, rp, er, es, rest, rfl, htb, hb4, hok⟩
  have hB4 := Aside0.mk (hB3.out.trans (hb4.mono hB3.out.size))
  replace hU' := hU'.out
  rw [← htb] at hU'
  dsimp only at hU'
  by_cases her : er = 0
  case neg =>
    have z1 : (er != 0) = true := by simpa using her
    rw [if_pos her] at hU'
    have ht : Aside0 (unpackOf b = (er, [])) := ⟨by rw [hU.out, ← hU']⟩
    clear hok htb hb4 kt hU'
    go_wp2_with fail
    go_ret2
    exact UnpPost.odd ht.out hB4.out
  subst her
  rw [if_neg (by simp)] at hU'
  obtain ⟨A4, c4, r, g, rfl, hC4, hne4, rfl, hR4, hr4, hg4, hA4⟩ := hok rfl
  have hB3s := hB3.out.size
  clear hok
  obtain ⟨N, hN⟩ : ∃ N, es.length = N := ⟨_, rfl⟩
  rw [hN] at hC4
  rw [hN]
  have hN16 : N ≤ 16 := by rw [← hN]; have := tableOf_len b; rw [← htb] at this; exact this
  replace hU' := Aside0.mk hU'; replace hC4 := Aside0.mk hC4; replace hne4 := Aside0.mk hne4; replace hR4 := Aside0.mk hR4; replace hg4 := Aside0.mk hg4; replace hA4 := Aside0.mk hA4; replace htb := Aside0.mk htb; replace hb4 := Aside0.mk hb4; replace hN := Aside0.mk hN
  go_wp2_with fail
  go_loopw [7, 36] (fun ov iv wr => ∃ k : Nat, iv = .int .i64 k ∧ k ≤ N ∧ Aside0 (Secs wr w4.heap.size ov (kinds0 (es.take k))) ∧ Aside0 (Below w4.heap.size w4 wr)) (fun _ iv _ => N - (intOf iv).toNat)
  case atStart => exact ⟨0, rfl, Nat.zero_le _, ⟨Kd.R_nil _ _ _ _ _⟩, ⟨Below.refl _ _⟩⟩
  case round =>
    obtain ⟨k, rfl, hk, hO, hb⟩ := hrel
    by_cases hlt : k < N
    · have p1 : 0 ≤ (k : Int) := by omega
      have q1 : (k : Int) < (N : Int) := by omega
      obtain ⟨b4, o4, x, rfl, -, hx, t0, t1, t2⟩ := N_one (Kd.C_below hC4.out hb.out) hlt
      have hkx := kinds0_take hx
      obtain ⟨ek, hek⟩ : ∃ e, kinds0 (es.take k) = e := ⟨_, rfl⟩
      have hl8 : (ek.length + 1) * 32 ≤ 140737488355328 := by
        have h1 : ek.length ≤ N := by rw [← hek]; unfold kinds0; rw [List.length_map, List.length_take]; omega
        omega
      rw [hek] at hO hkx
      replace hx := Aside0.mk hx; replace hkx := Aside0.mk hkx; replace hek := Aside0.mk hek; replace hl8 := Aside0.mk hl8
      go_wp2_with (first
        | (((with_reducible refine gate_dst (N := 9) rfl ?_); refine box_event ?hg (N := 9) ?hd (cs := #[.int .i64 0, .int .i64 0, .int .u64 0]) (t := 95) ?hr ?_; (case hd => rfl); (case hg => rfl); (case hr => first | (go_simp; done) | (go_simp; rfl)); intro gb hgb w5 kgb bgb; replace hgb := Aside0.mk hgb; replace kgb := Aside0.mk kgb; replace bgb := Aside0.mk bgb))
        | (((with_reducible refine gate_op (.store 95 (.tmp 9) (.tmp 39)) rfl ?_); refine wpList_store_midB rfl _ _ _ rfl gb 0 [.int .i64 x.f0, .int .i64 x.f1, .int .u64 x.f2] rfl rfl 95 [.int .i64 0, .int .i64 0, .int .u64 0] kgb.out szN3 (Nat.le_refl _) oneN3 ?_; obtain ⟨kk, bb⟩ := boxed (cs := [.int .i64 0, .int .i64 0, .int .u64 0]) (cs2 := [.int .i64 x.f0, .int .i64 x.f1, .int .u64 x.f2]) hgb.out kgb.out bgb.out rfl; revert kk bb; generalize World.setRow _ gb (splice [.int .i64 0, .int .i64 0, .int .u64 0] 0 [.int .i64 x.f0, .int .i64 x.f1, .int .u64 x.f2]).toArray = w6; clear kgb bgb; intro kgb bgb; replace kgb := Aside0.mk kgb; replace bgb := Aside0.mk bgb); (have g0 := (cell_row kgb.out 0).trans (rfl : _ = some (Value.int .i64 x.f0))); (have hB6 := Aside0.mk (hb.out.trans (bgb.out.mono hb.out.size))); (have hO6 := Aside0.mk (Kd.R_below hO.out bgb.out)))
        | ((with_reducible refine gate_builtin (b := .append) (xs := #[.tmp 40, .tmp 44]) rfl ?_); at_builtin; refine Kd.R_append kE (w0 := w4) w4.heap.size rfl (.tmp 40) (.tmp 44) 34 36 (.agg #[.int .i64 0, .slice none 0 0]) 32 rfl Tryz.underlying34 infoE2 rfl (by decide) (by omega) u7 ek (⟨x.f0, []⟩ : SE) [.int .i64 x.f0, .slice none 0 0] (fun _ => True) (fun _ => False) rfl rfl (k36_mkM _ _ _ _ (Kd.R_nil _ _ _ _ _)) (fun _ hk => hk.elim) (fun _ _ => trivial) hO6.out hB6.out hB6.out.size hl8.out ?_; intro v2 w7 hR hb7 hg7 hat7; replace hR := Aside0.mk hR; replace hb7 := Aside0.mk hb7; clear hg7 hat7))
      go_roundw
      case rel => exact ⟨k + 1, by simp, by omega, ⟨by rw [hkx.out]; exact hR.out⟩, hb7⟩
      case measure => show N - ((k : Int) + 1).toNat < N - (k : Int).toNat; omega
    · obtain rfl : N = k := by omega
      have htk : es.take N = es := List.take_of_length_le (by rw [hN.out]; exact Nat.le_refl _)
      rw [htk] at hO
      have hkl : (kinds0 es).length = N := by unfold kinds0; rw [List.length_map, hN.out]
      have hkm : (kinds0 es).map (·.f0) = es.map (·.f0) := by unfold kinds0; rw [List.map_map]; rfl
      obtain ⟨A7, c7, rfl, hc7, hC7⟩ := Kd.R_reads hO.out
      rw [hkl] at hC7 hc7
      rw [hkl]
      have kr := rising_calls A7 N c7 (kinds0 es) wr hC7
      rw [hkm] at kr
      obtain ⟨rs, hrs⟩ : ∃ rs, risingL 0 (es.map (·.f0)) = rs := ⟨_, rfl⟩
      rw [hrs] at kr
      have hU2 := hU'.out
      rw [hrs] at hU2
      have hBw := Aside0.mk (hB4.out.trans (hb.out.mono hB4.out.size))
      cases rs with
      | false =>
        rw [if_pos rfl] at hU2
        have ht : Aside0 (unpackOf b = (21, [])) := ⟨by rw [hU.out, ← hU2]⟩
        clear hU2 hkm hC7
        replace kr := Aside0.mk kr; replace htk := Aside0.mk htk; replace hkl := Aside0.mk hkl
        go_wp2_with (go_at_call 34; (with_reducible refine kr.out.mono ?_); rintro e w5 ⟨rfl, hb5⟩; (have hB5 := Aside0.mk (hBw.out.trans (hb5.mono hBw.out.size))); clear hb5)
        go_ret2
        exact UnpPost.odd ht.out hB5.out
      | true =>
      rw [if_neg (by decide)] at hU2
      clear hkm hC7
      replace kr := Aside0.mk kr; replace htk := Aside0.mk htk; replace hkl := Aside0.mk hkl; replace hU2 := Aside0.mk hU2
      go_wp2_with (go_at_call 34; (with_reducible refine kr.out.mono ?_); rintro e w5 ⟨rfl, hb5⟩; (have hB5 := Aside0.mk (hBw.out.trans (hb5.mono hBw.out.size))); (have hB45 := Aside0.mk (hb.out.trans (hb5.mono hb.out.size))); (have hO5 := Aside0.mk (Kd.R_below hO.out hb5)); clear hb5)
      have hq : ∃ q, (0 < N → A7 = some ⟨q, 0, none⟩) ∧ w4.heap.size ≤ q ∧ (0 < N → OW w5 q r es (List.replicate N [])) := by
        by_cases hp : 0 < N
        · have hO5' := hO5.out
          rw [hkl.out] at hO5'
          obtain ⟨q, h1, h2, -, h3⟩ := OW.begin (r := r) hO5' hN.out hp
          exact ⟨q, fun _ => h1, h2, fun _ => h3⟩
        · exact ⟨w4.heap.size, fun h => absurd h hp, Nat.le_refl _, fun h => absurd h hp⟩
      obtain ⟨q, hqA, hq4, hOW⟩ := hq
      have hrl := hR4.out.lt
      have hR5 := hR4.out.keep (F := fun _ => False) (KeepF.of_below hB45.out) id (fun _ => id)
      replace hqA := Aside0.mk hqA; replace hOW := Aside0.mk hOW; replace hR5 := Aside0.mk hR5
      clear hO hO5 htk hkl kr
      go_loopw [52] (fun iv wr => ∃ k : Nat, iv = .int .i64 k ∧ k ≤ N ∧ Aside0 (0 < N → OW wr q r es ((partsL (es.take k) rest 0).1 ++ List.replicate (N - k) [])) ∧ Aside0 (IsReader wr r g (partsL (es.take k) rest 0).2.1 (partsL (es.take k) rest 0).2.2) ∧ Aside0 (KeepF (fun i => i = r ∨ w4.heap.size ≤ i) w4 wr)) (fun iv _ => N - (intOf iv).toNat)
      case atStart => exact ⟨0, rfl, Nat.zero_le _, ⟨hOW.out⟩, hR5, ⟨(KeepF.of_below hB45.out)⟩⟩
      case round =>
        clear hOW hR5
        obtain ⟨k, rfl, hk, hW, hRd, hKp⟩ := hrel
        by_cases hlt : k < N
        · have p1 : 0 ≤ (k : Int) := by omega
          have q1 : (k : Int) < (N : Int) := by omega
          have hpN : 0 < N := by omega
          obtain rfl := hqA.out hpN
          obtain ⟨b4, o4, x, rfl, -, hx, t0, t1, t2⟩ := N_one (N_keep hC4.out hne4.out hKp.out) hlt
          obtain ⟨pk, hpk⟩ : ∃ p, partsL (es.take k) rest 0 = p := ⟨_, rfl⟩
          rw [hpk] at hW hRd
          have hpl : pk.1.length = k := by rw [← hpk, partsL_length, List.length_take, hN.out]; omega
          have hsn : partsL (es.take (k + 1)) rest 0 = (pk.1 ++ [(Sl.part pk.2.1 pk.2.2 x.f1).1], (Sl.part pk.2.1 pk.2.2 x.f1).2) := by
            rw [List.take_add_one, hx]; show partsL (es.take k ++ [x]) rest 0 = _; rw [partsL_snoc, hpk]
          have hW0 := hW.out hpN
          obtain ⟨A0, c0, y0, -⟩ := hW0.body k [] (by rw [List.getElem?_append_right (by omega), hpl, List.getElem?_replicate, if_pos (by omega)])
          replace hx := Aside0.mk hx; replace hpk := Aside0.mk hpk; replace hpl := Aside0.mk hpl; replace hsn := Aside0.mk hsn; replace hW0 := Aside0.mk hW0
          clear hW
          go_wp2_with (first
            | (((with_reducible refine gate_dst (N := 11) rfl ?_); refine box_event ?hg (N := 11) ?hd (cs := #[.int .i64 0, .int .i64 0, .int .u64 0]) (t := 95) ?hr ?_; (case hd => rfl); (case hg => rfl); (case hr => first | (go_simp; done) | (go_simp; rfl)); intro gb hgb w6 kgb bgb; replace hgb := Aside0.mk hgb; replace kgb := Aside0.mk kgb; replace bgb := Aside0.mk bgb))
            | (((with_reducible refine gate_op (.store 95 (.tmp 11) (.tmp 56)) rfl ?_); refine wpList_store_midB rfl _ _ _ rfl gb 0 [.int .i64 x.f0, .int .i64 x.f1, .int .u64 x.f2] rfl rfl 95 [.int .i64 0, .int .i64 0, .int .u64 0] kgb.out szN3 (Nat.le_refl _) oneN3 ?_; obtain ⟨kk, bb⟩ := boxed (cs := [.int .i64 0, .int .i64 0, .int .u64 0]) (cs2 := [.int .i64 x.f0, .int .i64 x.f1, .int .u64 x.f2]) hgb.out kgb.out bgb.out rfl; revert kk bb; generalize World.setRow _ gb (splice [.int .i64 0, .int .i64 0, .int .u64 0] 0 [.int .i64 x.f0, .int .i64 x.f1, .int .u64 x.f2]).toArray = w7; clear kgb bgb; intro kgb bgb; replace kgb := Aside0.mk kgb; replace bgb := Aside0.mk bgb); (have g1 := (cell_row kgb.out 1).trans (rfl : _ = some (Value.int .i64 x.f1))); (have hW7 := Aside0.mk (hW0.out.below bgb.out)); (have hR7 := Aside0.mk (hRd.out.keep (F := fun _ => False) (KeepF.of_below bgb.out) id (fun _ => id)))))
          have hqr : q ≠ r := by have := hrl; omega
          with_reducible refine (Part_calls r g pk.2.1 pk.2.2 x.f1 w7 hR7.out).mono ?_
          rintro e w8 ⟨A8, n8, c8, rfl, hc8, hC8, hg8, hR8, hk8⟩
          have hW8 := hW7.out.keep hk8 hqr (fun i _ e => e)
          obtain ⟨A0', c0', y8, -⟩ := hW8.body k [] (by rw [List.getElem?_append_right (by have := hpl.out; omega), hpl.out, List.getElem?_replicate, if_pos (by omega)])
          have y8f := hW8.frozen (k * 2 + 1)
          obtain ⟨l8, hl8⟩ : ∃ l, (Sl.part pk.2.1 pk.2.2 x.f1).1 = l := ⟨_, rfl⟩
          rw [hl8] at hC8
          have hn8 : l8.length = n8 := hC8.1
          replace hW8 := Aside0.mk hW8; replace hC8 := Aside0.mk hC8; replace hg8 := Aside0.mk hg8; replace hR8 := Aside0.mk hR8; replace hk8 := Aside0.mk hk8; replace hl8 := Aside0.mk hl8; replace hn8 := Aside0.mk hn8
          go_wp2_with fail
          have hgq : 0 < l8.length → g < w4.heap.size := fun hp => hR4.out.glt (by
            have h1 := (part_le pk.2.1 pk.2.2 x.f1).1
            have h2 := partsL_le (es.take k) rest 0
            rw [hpk.out] at h2
            rw [hl8.out] at h1
            omega)
          have hgr : g ≠ r := fun e => hR4.out.ne e.symm
          have hset := hW8.out.set (k := k) (l0 := []) (l := l8) (A := A8) (c := c8) (by rw [List.getElem?_append_right (by have := hpl.out; omega), hpl.out, List.getElem?_replicate, if_pos (by omega)]) (by rw [hn8.out]; exact hc8) (by rw [hn8.out]; exact hC8.out) (fun ad e hp => by
            rw [hg8.out ad e]
            exact ⟨by have := hgq hp; omega, hgr⟩)
          rw [set_mid _ _ hpl.out hlt, hn8.out] at hset
          have hkc := KeepF.setCell w8 ⟨q, k * 2 + 1, none⟩ (.slice A8 n8 c8)
          have hsn' := hsn.out
          rw [hl8.out] at hsn'
          have hrd2 := hR8.out.keep hkc (fun e => hqr e.symm) (fun hp e => by
            have h1 := (part_le pk.2.1 pk.2.2 x.f1).2
            have h2 := partsL_le (es.take k) rest 0
            rw [hpk.out] at h2
            have h3 := hR4.out.glt (by omega)
            have h4 : g = q := e
            omega)
          refine ⟨⟨k + 1, by simp, by omega, ⟨fun _ => by rw [hsn']; exact hset⟩, ⟨by rw [hsn']; exact hrd2⟩, ⟨?_⟩⟩, ?_⟩
          · have k1 := hKp.out.trans (KeepF.of_below (F := fun _ => False) bgb.out) (fun _ _ h => h.elim)
            have k2 := k1.trans hk8.out (fun i _ e => .inl e)
            exact k2.trans hkc (fun i _ e => .inr (by rw [show i = q from e]; exact hq4))
          · show N - ((k : Int) + 1).toNat < N - (k : Int).toNat; omega
        · obtain rfl : N = k := by omega
          have htk : es.take N = es := List.take_of_length_le (by rw [hN.out]; exact Nat.le_refl _)
          rw [htk, Nat.sub_self, List.replicate_zero, List.append_nil] at hW
          rw [htk] at hRd
          obtain ⟨P, hP⟩ : ∃ P, partsL es rest 0 = P := ⟨_, rfl⟩
          rw [hP] at hW hRd
          have hU3 := hU2.out
          rw [hP] at hU3
          obtain ⟨ev, hev⟩ : ∃ e, endOf P.2.1 P.2.2 = e := ⟨_, rfl⟩
          rw [hev] at hU3
          have ke := End_calls r g P.2.1 P.2.2 wr hRd.out
          rw [hev] at ke
          by_cases hev0 : ev = 0
          case neg =>
            have z1 : (ev != 0) = true := by simpa using hev0
            rw [if_pos hev0] at hU3
            have ht : Aside0 (unpackOf b = (ev, [])) := ⟨by rw [hU.out, ← hU3]⟩
            clear hU3
            replace ke := Aside0.mk ke
            go_wp2_with (go_at_call 60; (with_reducible refine ke.out.mono ?_); rintro e w' ⟨rfl, hw'⟩; subst hw')
            go_ret2
            exact UnpPost.odd ht.out (hB4.out.trans (KeepF.to_below hKp.out hB4.out.size (fun i hi => by rcases hi with e | e <;> have := hB4.out.size <;> omega)))
          subst hev0
          rw [if_neg (by simp)] at hU3
          replace ke := Aside0.mk ke; replace hU3 := Aside0.mk hU3
          have hPl : P.1.length = N := by rw [← hP, partsL_length, hN.out]
          replace hPl := Aside0.mk hPl; replace hP := Aside0.mk hP; replace hev := Aside0.mk hev
          go_wp2_with (go_at_call 60; (with_reducible refine ke.out.mono ?_); rintro e wE ⟨rfl, hw'⟩; subst hw')
          have hBE := Aside0.mk (hB4.out.trans (KeepF.to_below hKp.out hB4.out.size (fun i hi => by rcases hi with e | e <;> have := hB4.out.size <;> omega)))
          have hTE := Aside0.mk (HT.out.step hBE.out)
          have hinr := Aside0.mk (show inB rest by have := tableOf_in hby.out; rw [← htb.out] at this; exact this)
          have hNE := Aside0.mk (N_keep hC4.out hne4.out hKp.out)
          clear hRd
          go_loopw [73] (fun iv wr => ∃ k : Nat, iv = .int .i64 k ∧ k ≤ N ∧ Aside0 (sumsOk (es.take k) (P.1.take k) = true) ∧ Aside0 (Below wE.heap.size wE wr)) (fun iv _ => N - (intOf iv).toNat)
          case atStart => exact ⟨0, rfl, Nat.zero_le _, ⟨rfl⟩, ⟨Below.refl _ _⟩⟩
          case round =>
            obtain ⟨k, rfl, hk, hS, hb3⟩ := hrel
            by_cases hlt : k < N
            · have p1 : 0 ≤ (k : Int) := by omega
              have q1 : (k : Int) < (N : Int) := by omega
              have hpN : 0 < N := by omega
              obtain rfl := hqA.out hpN
              obtain ⟨b4, o4, x, rfl, -, hx, t0, t1, t2⟩ := N_one (Kd.C_below hNE.out hb3.out) hlt
              obtain ⟨l, hl⟩ : ∃ l, P.1[k]? = some l := ⟨_, List.getElem?_eq_getElem (by rw [hPl.out]; exact hlt)⟩
              obtain ⟨A1, c1, y0, hc1, hC1, -⟩ := ((hW.out hpN).below hb3.out).body k l hl
              have hsum := sumsOk_snoc hx hl
              rw [hS.out, Bool.true_and] at hsum
              obtain ⟨n1, hn1⟩ : ∃ n, l.length = n := ⟨_, rfl⟩
              rw [hn1] at y0 hc1 hC1
              obtain ⟨ck, hck⟩ : ∃ c, crc l = c := ⟨_, rfl⟩
              rw [hck] at hsum
              obtain ⟨u2, hu2⟩ : ∃ u, x.f2 = u := ⟨_, rfl⟩
              rw [hu2] at t2 hsum
              have hinl : inB l := partsL_in es rest 0 hinr.out l (by rw [hP.out]; exact List.mem_of_getElem? hl)
              obtain ⟨z0, z1⟩ := crc_range l hinl
              rw [hck] at z0 z1
              have hwk : IntKind.u64.wrap ck = ck := by rw [IntKind.wrap_u64]; omega
              obtain ⟨d3, hd3⟩ : ∃ d, (ck != u2) = d := ⟨_, rfl⟩
              replace hx := Aside0.mk hx; replace hl := Aside0.mk hl; replace hC1 := Aside0.mk hC1; replace hsum := Aside0.mk hsum; replace hn1 := Aside0.mk hn1; replace hck := Aside0.mk hck; replace hu2 := Aside0.mk hu2; replace hinl := Aside0.mk hinl
              go_wp2_with (first
                | (((with_reducible refine gate_dst (N := 14) rfl ?_); refine box_event ?hg (N := 14) ?hd (cs := #[.int .i64 0, .int .i64 0, .int .u64 0]) (t := 95) ?hr ?_; (case hd => rfl); (case hg => rfl); (case hr => first | (go_simp; done) | (go_simp; rfl)); intro gb hgb w6 kgb bgb; replace hgb := Aside0.mk hgb; replace kgb := Aside0.mk kgb; replace bgb := Aside0.mk bgb))
                | (((with_reducible refine gate_op (.store 95 (.tmp 14) (.tmp 77)) rfl ?_); refine wpList_store_midB rfl _ _ _ rfl gb 0 [.int .i64 x.f0, .int .i64 x.f1, .int .u64 u2] rfl rfl 95 [.int .i64 0, .int .i64 0, .int .u64 0] kgb.out szN3 (Nat.le_refl _) oneN3 ?_; obtain ⟨kk, bb⟩ := boxed (cs := [.int .i64 0, .int .i64 0, .int .u64 0]) (cs2 := [.int .i64 x.f0, .int .i64 x.f1, .int .u64 u2]) hgb.out kgb.out bgb.out rfl; revert kk bb; generalize World.setRow _ gb (splice [.int .i64 0, .int .i64 0, .int .u64 0] 0 [.int .i64 x.f0, .int .i64 x.f1, .int .u64 u2]).toArray = w7; clear kgb bgb; intro kgb bgb; replace kgb := Aside0.mk kgb; replace bgb := Aside0.mk bgb); (have g2 := (cell_row kgb.out 2).trans (rfl : _ = some (Value.int .u64 u2))); (have y7 := pw_cell_below bgb.out y0)))
              have hB7 := Aside0.mk (hb3.out.trans (bgb.out.mono hb3.out.size))
              have ko := Of_calls A1 n1 c1 l w7.drew (hTE.out.step hB7.out.drew) (Kd.C_below hC1.out bgb.out.drew) hinl.out
              rw [hck.out] at ko
              replace ko := Aside0.mk ko
              (first | (go_region_held3 (fun w' => w'.cell? ⟨q, k * 2 + 1, none⟩ = some (.slice A1 n1 c1) ∧ w'.cell? ⟨gb, 2, none⟩ = some (.int .u64 u2))
                (first | (with_reducible exact ⟨y7, g2⟩) | go_keep)
                (first | (go_at_call 38; (with_reducible refine ko.out.mono ?_); rintro e w' ⟨rfl, hw'⟩; subst hw'))) | fail)
              cases d3 with
              | true =>
                have h5 : sumsOk es P.1 = false := sumsOk_false (k := k + 1) (by rw [hsum.out]; simpa using hd3)
                have ht : Aside0 (unpackOf b = (4, [])) := ⟨by rw [hU.out, ← hU3.out, if_pos h5]⟩
                clear h5
                go_wp2_with fail
                go_ret2
                exact UnpPost.odd ht.out (hBE.out.trans (hB7.out.drew.mono hBE.out.size))
              | false =>
                have h5 := Aside0.mk (show sumsOk (es.take (k + 1)) (P.1.take (k + 1)) = true by rw [hsum.out]; simpa using hd3)
                go_wp2_with fail
                go_roundw
                case rel => exact ⟨k + 1, by simp, by omega, h5, ⟨hB7.out.drew⟩⟩
                case measure => show N - ((k : Int) + 1).toNat < N - (k : Int).toNat; omega
            · obtain rfl : N = k := by omega
              have hs1 : sumsOk es P.1 = true := by
                have := hS.out
                rwa [List.take_of_length_le (by rw [hN.out]; exact Nat.le_refl _), List.take_of_length_le (by rw [hPl.out]; exact Nat.le_refl _)] at this
              have ht : Aside0 (unpackOf b = (0, secsZ es P.1)) := ⟨by rw [hU.out, ← hU3.out, if_neg (by rw [hs1]; decide)]⟩
              have hzl : (secsZ es P.1).length = N := by unfold secsZ; rw [List.length_map, List.length_zip, hN.out, hPl.out, Nat.min_self]
              have hfin : Aside0 (UnpPost b w (.returned (.tuple #[.slice A7 N c7, .int .i64 0])) wr) := ⟨by
                refine ⟨A7, c7, 0, secsZ es P.1, by rw [hzl], ht.out.symm, hBE.out.trans (hb3.out.mono hBE.out.size), by rw [hzl]; exact hc7, ?_⟩
                rw [hzl]
                by_cases hp : 0 < N
                · obtain rfl := hqA.out hp
                  have := ((hW.out hp).below hb3.out).C (by rw [hN.out, hPl.out]) (by rw [hN.out]; omega)
                  rwa [hN.out] at this
                · exact ⟨hzl, by omega, fun h => absurd h hp⟩⟩
              clear hs1 hzl
              go_wp2_with fail
              go_ret2
              exact hfin.out
end Go.Proofs.YtpnjhffnlafabaaGreatDoor.Im
