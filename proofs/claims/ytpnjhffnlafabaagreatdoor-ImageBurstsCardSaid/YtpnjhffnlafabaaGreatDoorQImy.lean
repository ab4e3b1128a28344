/- ImageBursts: what differs within 32 bits in a row isn't decoded, nor what is cut off, or has more behind it. -/
import Derived.Test.YtpnjhffnlafabaaGreatDoorQImw
import Derived.Test.YtpnjhffnlafabaaGreatDoorQImu
namespace Go.Proofs.YtpnjhffnlafabaaGreatDoor.Im
set_option linter.unusedVariables false
set_option linter.unusedSimpArgs false
open Go.Proofs Go.RowKit Go.Proofs.Bk Go.Proofs.Bm Go.Proofs.Sc Go.Proofs.Kf Go.Proofs.YtpnjhffnlafabaaGreatDoorW.PrintWords Go.Proofs.YtpnjhffnlafabaaGreatDoor.Sl Go.Proofs.YtpnjhffnlafabaaGreatDoor.Sn Go.Proofs.YtpnjhffnlafabaaGreatDoor.PImageBack
theorem Byts_empty (w : World) : Byts (w.alloc (.cells #[] 5)) w.heap.size (.slice (some ⟨w.heap.size, 0, none⟩) 0 0) [] :=
  ⟨fun _ _ => trivial, [], ⟨rfl, .inr ⟨w.heap.size, 0, #[], rfl, Nat.le_refl _, heap_alloc_same _ _, Nat.le_refl _, by decide, rfl, rfl⟩⟩, Reps.none _ _⟩
def CW (W : World) (g : Nat) (cs : List Int) : Prop := ∃ cur, W.heap[g]? = some (.cells cur 5 (0, 0)) ∧ ∀ (j : Nat) (x : Int), cs[j]? = some x → cur[j]? = some (Value.int .u8 x)
theorem Byts.open_ {W : World} {base : Nat} {v : Value} {bs : List Int} (h : Byts W base v bs) (hp : 0 < bs.length) : ∃ g cap, v = .slice (some ⟨g, 0, none⟩) bs.length cap ∧ base ≤ g ∧ bs.length ≤ cap ∧ CW W g bs := by
  obtain ⟨A, c, e1, hc, hC⟩ := Kd.R_reads h
  obtain ⟨_, inner, ⟨hlen, hown⟩, hreps⟩ := h
  rcases hown with ⟨e, hz⟩ | ⟨q, cap, cur, e, hb, hg, -⟩
  · omega
  · rw [e1] at e
    injection e with e e2 e3
    subst e
    refine ⟨q, c, e1, hb, hc, cur, hg, fun j x hj => ?_⟩
    obtain ⟨ad, ea, hcc⟩ := hC.2.2 hp
    cases ea
    obtain ⟨c0, p1, p2, p3⟩ := hcc j x hj
    cases p2
    have h4 := p3 0 _ rfl
    rw [Sn.add_at, Kf.cell_row hg] at h4
    have h5 : cur[0 + (j * 1 + 0)]? = some (Value.int .u8 x) := h4
    simpa using h5
theorem CW.C {W : World} {g : Nat} {cs : List Int} (h : CW W g cs) (hn : cs.length ≤ 9223372036854775807) : U8.C W (some ⟨g, 0, none⟩) cs.length cs := by
  obtain ⟨cur, hr, hc⟩ := h
  refine ⟨rfl, hn, fun _ => ⟨_, rfl, fun j x hj => ⟨[.int .u8 x], rfl, rfl, fun i u hu => ?_⟩⟩⟩
  rw [Sn.add_at]
  rcases i with _ | i
  · cases hu
    rw [Kf.cell_row hr]
    show cur[0 + (j * 1 + 0)]? = some (Value.int .u8 x)
    have := hc j x hj
    simpa using this
  · simp at hu
theorem CW.keep {W W' : World} {g : Nat} {cs : List Int} {F : Nat → Prop} (h : CW W g cs) (hk : KeepF F W W') (hF : ¬ F g) : CW W' g cs := by
  obtain ⟨cur, hr, hc⟩ := h
  exact ⟨cur, (hk.block g (lt_row hr) hF).trans hr, hc⟩
theorem CW.at_ {W : World} {g : Nat} {cs : List Int} (h : CW W g cs) {j : Nat} (hj : j < cs.length) : W.cell? ⟨g, j, none⟩ = some (.int .u8 (cs.getD j 0)) ∧ W.frozen? ⟨g, j, none⟩ = false := by
  obtain ⟨cur, hr, hc⟩ := h
  refine ⟨?_, frozen_row hr j⟩
  rw [Kf.cell_row hr, List.getD_eq_getElem?_getD, List.getElem?_eq_getElem hj]
  exact hc j _ (List.getElem?_eq_getElem hj)
theorem CW.set {W : World} {g : Nat} {cs : List Int} (h : CW W g cs) (p : Nat) (x : Int) : CW (W.setCell ⟨g, p, none⟩ (.int .u8 x)) g (cs.set p x) := by
  obtain ⟨cur, hr, hc⟩ := h
  refine ⟨_, setCell_row hr p _, fun j y hj => ?_⟩
  rw [Array.getElem?_setIfInBounds]
  rw [List.getElem?_set] at hj
  by_cases e : p = j
  · subst e
    rw [if_pos rfl] at hj ⊢
    split at hj
    · rename_i hlt
      cases hj
      have h1 := hc p _ (List.getElem?_eq_getElem hlt)
      have h2 := (Array.getElem?_eq_some_iff.1 h1).1
      rw [if_pos h2]
    · cases hj
  · rw [if_neg e] at hj ⊢
    exact hc j y hj
theorem xor_bit {x : Int} {s : Nat} (h : 0 ≤ x ∧ x ≤ 255) (hs : s < 8) : bits BinOp.xor IntKind.u8 x ((2 : Int) ^ s % 256) = xorN x (2 ^ s) := by
  have h1 : (2 : Nat) ^ s < 256 := Nat.lt_of_lt_of_le (Nat.pow_lt_pow_right (by decide) hs) (by decide)
  have h2 : ((2 : Int) ^ s % 256) = ((2 ^ s : Nat) : Int) := by
    have e : ((2 : Int) ^ s) = ((2 ^ s : Nat) : Int) := by rw [Int.natCast_pow]; rfl
    rw [e]
    obtain ⟨q, hq⟩ : ∃ q : Nat, 2 ^ s = q := ⟨_, rfl⟩
    rw [hq] at h1 ⊢
    omega
  rw [h2]
  obtain ⟨q, hq⟩ : ∃ q : Nat, 2 ^ s = q := ⟨_, rfl⟩
  rw [hq] at h1 ⊢
  rw [u8_xor x _ h.1 (by omega) (by omega) (by omega), Int.toNat_natCast]
  rfl
set_option maxHeartbeats 8000000 in
set_option maxRecDepth 100000 in
theorem ImageBursts_calls (w : World) (hT : Tab w) (A : Option Addr) (n c : Nat) (xs : List SG) (B : Option Addr) (m d : Nat) (ts : List ST) (hG : kG.C w A n xs) (hc : n ≤ c) (hTT : kT.C w B m ts) (hd : m ≤ d) (hB : ∀ ad, B = some ad → ad.spot = none) (ho : ∀ x ∈ xs, okG x) (hot : ∀ x ∈ ts, okT x)
    (aN yN cN : Nat) (ha : aN ≤ 65535) (hy : yN ≤ 4294967295) (hcn : cN ≤ 65535) :
    Calls Tryz.prog 7 #[.agg #[.slice A n c, .slice B m d], .int .u16 aN, .int .u32 yN, .int .u16 cN] w (OkPost w) := by
  have h3 := okT_f3 hot
  have hln := hG.1
  have hlm := hTT.1
  obtain ⟨f1, hf1⟩ : ∃ f, decide (n ≤ 30 ∧ m ≤ 30) = f := ⟨_, rfl⟩
  replace hG := Aside0.mk hG; replace hTT := Aside0.mk hTT; replace hB := Aside0.mk hB; replace ho := Aside0.mk ho; replace hot := Aside0.mk hot; replace hT := Aside0.mk hT; replace h3 := Aside0.mk h3; replace hf1 := Aside0.mk hf1; replace hln := Aside0.mk hln; replace hlm := Aside0.mk hlm
  go_enter Tryz.func7, Tryz.ntmps7
  go_wp2_with (((with_reducible refine gate_dst (N := 4) rfl ?_); refine box_event ?hg (N := 4) ?hd (cs := #[.slice A n c, .slice B m d]) (t := 25) ?hr ?_; (case hd => rfl); (case hg => rfl); (case hr => first | (go_simp; done) | (go_simp; rfl)); intro b1 hb1 w1 kb1 bb1; replace hb1 := Aside0.mk hb1; replace kb1 := Aside0.mk kb1; replace bb1 := Aside0.mk bb1))
  with_reducible refine (awake_calls w1 (hT.out.step bb1.out)).mono ?_
  rintro e w2 ⟨rfl, hb2⟩
  have hB2 := Aside0.mk (bb1.out.trans (hb2.mono bb1.out.size))
  have k2 := Aside0.mk (row_below hb2 kb1.out)
  clear hb2 kb1 bb1
  go_wp2_with (first
    | ((with_reducible refine gate_op (.load 25 (.tmp 4)) rfl ?_); refine wpList_load_midB rfl _ _ rfl ⟨b1, 0, none⟩ rfl [.slice A n c, .slice B m d] _ (Bk.cells_row k2.out) Tryz.underlying25 rfl szS2 ?_))
  with_reducible refine (few_calls A n c xs B m d ts w2 (Kd.C_below hG.out hB2.out) hc (Kd.C_below hTT.out hB2.out) hd).mono ?_
  rintro e w3 ⟨rfl, hb3⟩
  rw [hf1.out]
  have hB3 := Aside0.mk (hB2.out.trans (hb3.mono hB2.out.size))
  have k3 := Aside0.mk (row_below hb3 k2.out)
  clear hb3 k2
  go_wp2_with (first
    | ((with_reducible refine gate_op (.load 25 (.tmp 4)) rfl ?_); refine wpList_load_midB rfl _ _ rfl ⟨b1, 0, none⟩ rfl [.slice A n c, .slice B m d] _ (Bk.cells_row k3.out) Tryz.underlying25 rfl szS2 ?_))
  with_reducible refine (Encode_calls A n c xs B m d ts w3 (hT.out.step hB3.out) (Kd.C_below hG.out hB3.out) hc (Kd.C_below hTT.out hB3.out) hd hB.out ho.out (fun x hx => (h3.out x hx).1)).mono ?_
  rintro e w4 ⟨v, er, bs, rfl, hbs, hb4, hen⟩
  obtain ⟨A4, c4, rfl, hc4, hC4⟩ := Kd.R_reads hbs
  have hB4 := Aside0.mk (hB3.out.trans (hb4.mono hB3.out.size))
  clear hbs hb4 k3
  replace hen := Aside0.mk hen; replace hC4 := Aside0.mk hC4
  have hend := Aside0.mk (show OkPost w (.returned (.bool true)) w4 from ⟨rfl, hB4.out⟩)
  cases f1 with
  | false =>
    go_wp2_with fail
    go_ret
    exact hend.out
  | true =>
  by_cases h0 : er = 0
  case neg =>
    have z1 : (er != 0) = true := by simpa using h0
    go_wp2_with fail
    go_ret
    exact hend.out
  subst h0
  clear hend
  obtain ⟨hin, hl, hdec, hpo, hpb, -⟩ := encode_inB hen.out rfl h3.out
  rw [hln.out, hlm.out] at hl
  have hnm := of_decide_eq_true hf1.out
  obtain ⟨N, hN⟩ : ∃ N, bs.length = N := ⟨_, rfl⟩
  rw [hN] at hl
  have hC5 := hC4.out
  rw [hN] at hC5 hc4
  rw [hN]
  have hN1 : 41 ≤ N := by omega
  have hN2 : N ≤ 2000 := by omega
  have hflip := fun y k i => decode_flip (k := k) (y := y) (i := i) hpo (by rw [← hpb]; exact hdec) (by rw [← hpb]; exact hin)
  have hcut := fun k => decode_cut (k := k) hpo
  have hmore := decode_more hpo
  rw [← hpb, hN] at hflip hcut
  rw [← hpb] at hmore
  clear hC4 hl hnm hpb hpo
  replace hin := Aside0.mk hin; replace hdec := Aside0.mk hdec; replace hN := Aside0.mk hN; replace hC5 := Aside0.mk hC5; replace hflip := Aside0.mk hflip; replace hcut := Aside0.mk hcut; replace hmore := Aside0.mk hmore
  have hE0 := Byts_empty w4
  have hbE := below_alloc (Below.refl w4.heap.size w4) (.cells #[] 5)
  have hC5E := Kd.C_below hC5.out hbE
  obtain ⟨k, hk⟩ : ∃ k, aN % (8 * N) = k := ⟨_, rfl⟩
  have hkN : k < 8 * N := by rw [← hk]; exact Nat.mod_lt _ (by omega)
  have hkI : ((aN : Nat) : Int).tmod (8 * (N : Int)) = (k : Int) := by
    rw [Int.tmod_eq_emod_of_nonneg (by omega), ← hk]; rfl
  have hzN : ((N : Int) == 0) = false := by simp; omega
  have hl8 : (([] : List Int).length + N) * 1 ≤ 140737488355328 := by simp; omega
  replace hE0 := Aside0.mk hE0; replace hbE := Aside0.mk hbE; replace hC5E := Aside0.mk hC5E; replace hk := Aside0.mk hk; replace hl8 := Aside0.mk hl8
  go_wp2_with (first
    | ((with_reducible refine gate_builtin (b := .append) (xs := #[.tmp 41, .tmp 42]) rfl ?_); at_builtin; refine Kd.R_append_rows U8 (w0 := w4) w4.heap.size rfl (.tmp 41) (.tmp 42) 28 5 (.int .u8 0) 1 rfl Tryz.underlying28 info_u8 rfl (by decide) (by decide) (.slice (some ⟨w4.heap.size, 0, none⟩) 0 0) [] bs A4 N c4 (fun _ => True) (fun _ => False) rfl rfl hE0.out hC5E.out (fun _ _ h => h) (fun _ hk => hk.elim) (fun _ _ => trivial) hbE.out hbE.out.size hl8.out ?_; intro v5 w5 r5 hb5 hg5 hat5; rw [List.nil_append] at r5; (obtain ⟨g, cap, ev5, hg, hcap, hcw⟩ := Byts.open_ r5 (by rw [hN.out]; omega)); rw [hN.out] at ev5 hcap; subst ev5; replace hb5 := Aside0.mk hb5; replace hcw := Aside0.mk hcw; clear r5 hg5 hat5))
  go_loopw [2, 15, 16] (fun v2 v15 v16 wr => ∃ (i yi : Nat), v16 = .int .i64 i ∧ v2 = .int .u32 yi ∧ v15 = .bool (chgN yN i) ∧ i ≤ 32 ∧ k + i ≤ 8 * N ∧ Aside0 (yN / 2 ^ i = yi) ∧ Aside0 (CW wr g (flipN bs k yN i)) ∧ Aside0 (KeepF (fun j => j = g) w5 wr)) (fun _ _ iv _ => 32 - (intOf iv).toNat)
  case atStart => exact ⟨0, yN, rfl, rfl, rfl, by decide, by omega, ⟨by simp⟩, hcw, ⟨KeepF.refl _ _⟩⟩
  case round =>
    obtain ⟨i, yi, rfl, rfl, rfl, hi, hki, hyi, hcr, hkp⟩ := hrel
    have hle : yi ≤ 4294967295 := by rw [← hyi.out]; exact Nat.le_trans (Nat.div_le_self _ _) hy
    obtain ⟨yj, hyj⟩ : ∃ q, yN / 2 ^ (i + 1) = q := ⟨_, rfl⟩
    have hjd : yj = yi / 2 := by rw [← hyj, ← hyi.out, Nat.pow_succ, Nat.div_div_eq_div_mul]
    have hjle : yj ≤ 4294967295 := by omega
    have hwj : IntKind.u32.wrap (yj : Int) = (yj : Int) := by rw [IntKind.wrap_u32]; omega
    have hdiv : ((yi : Nat) : Int).tdiv 2 = (yj : Int) := by rw [Int.tdiv_eq_ediv_of_nonneg (by omega)]; omega
    have hbit : bitB yN i = (yi % 2 == 1) := by unfold bitB; rw [hyi.out]
    have hmod : ((yi : Nat) : Int).tmod 2 = ((yi % 2 : Nat) : Int) := by rw [Int.tmod_eq_emod_of_nonneg (by omega)]; rfl
    obtain ⟨ci, hci⟩ : ∃ q, chgN yN i = q := ⟨_, rfl⟩
    rw [hci]
    by_cases h32 : i < 32
    · have z1 : (i : Int) < 32 := by omega
      by_cases h8 : k + i < 8 * N
      · have z2 : (k : Int) + (i : Int) < 8 * (N : Int) := by omega
        obtain ⟨b2, hb2⟩ : ∃ q, yi % 2 = q := ⟨_, rfl⟩
        rw [hb2] at hmod hbit
        have hb2' : b2 = 0 ∨ b2 = 1 := by omega
        replace hyj := Aside0.mk hyj; replace hjd := Aside0.mk hjd; replace hci := Aside0.mk hci; replace hbit := Aside0.mk hbit
        rcases hb2' with rfl | rfl
        · have hmod0 : ((yi : Nat) : Int).tmod 2 = 0 := by rw [hmod]; rfl
          have hbf : bitB yN i = false := by rw [hbit.out]; rfl
          have hcs : chgN yN (i + 1) = ci := by rw [chgN, hci.out, hbf, Bool.or_false]
          have hfs : flipN bs k yN (i + 1) = flipN bs k yN i := by rw [flipN, hbf]; rfl
          clear hmod
          replace hbf := Aside0.mk hbf; replace hcs := Aside0.mk hcs; replace hfs := Aside0.mk hfs
          go_wp2_with fail
          go_roundw
          case rel => exact ⟨i + 1, yj, by simp, rfl, by rw [hcs.out], by omega, by omega, hyj, ⟨by rw [hfs.out]; exact hcr.out⟩, hkp⟩
          case measure => show 32 - ((i : Int) + 1).toNat < 32 - (i : Int).toNat; omega
        · have hmod0 : ((yi : Nat) : Int).tmod 2 = 1 := by rw [hmod]; rfl
          have hbf : bitB yN i = true := by rw [hbit.out]; rfl
          have hcs : chgN yN (i + 1) = true := by rw [chgN, hbf, Bool.or_true]
          obtain ⟨p, hp⟩ : ∃ p, (k + i) / 8 = p := ⟨_, rfl⟩
          obtain ⟨s, hs⟩ : ∃ s, (k + i) % 8 = s := ⟨_, rfl⟩
          have hpI : ((k : Int) + (i : Int)).tdiv 8 = (p : Int) := by rw [Int.tdiv_eq_ediv_of_nonneg (by omega)]; omega
          have hsI : ((k : Int) + (i : Int)).tmod 8 = (s : Int) := by rw [Int.tmod_eq_emod_of_nonneg (by omega)]; omega
          have hp0 : 0 ≤ (p : Int) := by omega
          have hpN : (p : Int) < (N : Int) := by omega
          have hs8 : s < 8 := by omega
          have hwki : IntKind.i64.wrap ((k : Int) + (i : Int)) = (k : Int) + (i : Int) := by rw [IntKind.wrap_i64]; omega
          have hwp : IntKind.i64.wrap (p : Int) = (p : Int) := by rw [IntKind.wrap_i64]; omega
          have hws : IntKind.i64.wrap (s : Int) = (s : Int) := by rw [IntKind.wrap_i64]; omega
          obtain ⟨x, hx⟩ : ∃ x, (flipN bs k yN i).getD p 0 = x := ⟨_, rfl⟩
          have hfs : flipN bs k yN (i + 1) = (flipN bs k yN i).set p (xorN x (2 ^ s)) := by rw [flipN, hbf, if_pos rfl, hp, hs, hx]
          have hlen := flipN_length bs k yN i
          obtain ⟨cx, cf⟩ := hcr.out.at_ (j := p) (by rw [hlen, hN.out]; omega)
          rw [hx] at cx
          clear hmod
          replace hbf := Aside0.mk hbf; replace hcs := Aside0.mk hcs; replace hfs := Aside0.mk hfs; replace hp := Aside0.mk hp; replace hs := Aside0.mk hs; replace hx := Aside0.mk hx; replace hlen := Aside0.mk hlen
          go_wp2_with fail
          (refine Ht.begin2 18 (fun w' => w'.cell? ⟨g, p, none⟩ = some (.int .u8 x)) (by kernel_rfl) (by kernel_rfl) cx ?_; intro hSnow; (try dsimp only at hSnow); simp only [List.take_succ_cons, List.take_zero, List.drop_succ_cons, List.drop_zero]; repeat (refine Ht.Hx.take (v := ?_) (by kernel_rfl) (by kernel_rfl) (fun _ _ _ h => h) (by with_reducible exact hSnow) (Or.inl ⟨by rfl, fun w hSw => ?_⟩) ?_; rotate_left; focus ((try dsimp only at hSw); go_simp; (try with_reducible rfl); done)); (try simp only [Act.put, List.setIfInBounds_toArray, List.set_cons_zero, List.set_cons_succ]))
          (refine Ht.Hx.done (by kernel_rfl) ?_; clear hSnow)
          go_wp2_with fail
          have hx2 : 0 ≤ x ∧ x ≤ 255 := by
            rw [← hx.out, List.getD_eq_getElem?_getD, List.getElem?_eq_getElem (by rw [hlen.out, hN.out]; omega)]
            exact flipN_in hin.out k yN i _ (List.getElem_mem _)
          have hxo := xor_bit hx2 hs8
          have hkd : ∀ v, KeepF (fun j => j = g) w5 (wr.setCell ⟨g, p, none⟩ v).drew := fun v => (hkp.out.trans (KeepF.setCell wr ⟨g, p, none⟩ v) (fun _ _ e => e)).drew
          have hcd : ∀ v : Int, CW (wr.setCell ⟨g, p, none⟩ (.int .u8 v)).drew g ((flipN bs k yN i).set p v) := fun v => (hcr.out.set p v).keep ((KeepF.refl (fun _ => False) _).drew) id
          replace hx2 := Aside0.mk hx2; replace hxo := Aside0.mk hxo; replace hkd := Aside0.mk hkd; replace hcd := Aside0.mk hcd
          go_roundw
          case rel => exact ⟨i + 1, yj, by simp, rfl, by rw [hcs.out], by omega, by omega, hyj, ⟨by rw [hxo.out, hfs.out]; exact hcd.out _⟩, ⟨hkd.out _⟩⟩
          case measure => show 32 - ((i : Int) + 1).toNat < 32 - (i : Int).toNat; omega
      · have z2 : ¬ (k : Int) + (i : Int) < 8 * (N : Int) := by omega
        have hBr := Aside0.mk (hB4.out.trans ((hb5.out.trans (KeepF.to_below hkp.out hb5.out.size (fun j e => by have e : j = g := e; omega))).mono hB4.out.size))
        have hBr4 := Aside0.mk (hb5.out.trans (KeepF.to_below hkp.out hb5.out.size (fun j e => by have e : j = g := e; omega)))
        have hcl : (flipN bs k yN i).length = N := by rw [flipN_length]; exact hN.out
        have hcC := hcr.out.C (by rw [hcl]; omega)
        rw [hcl] at hcC
        have hfl := hflip.out yN k i hki (by omega)
        rw [hci] at hfl
        obtain ⟨q, hq⟩ : ∃ q, cN % N = q := ⟨_, rfl⟩
        have hqN : q < N := by rw [← hq]; exact Nat.mod_lt _ (by omega)
        have hqI : ((cN : Nat) : Int).tmod (N : Int) = (q : Int) := by rw [Int.tmod_eq_emod_of_nonneg (by omega), ← hq]; rfl
        have hwq : IntKind.i64.wrap (q : Int) = (q : Int) := by rw [IntKind.wrap_i64]; omega
        have hq0 : 0 ≤ (q : Int) := by omega
        have hqc : (q : Int) ≤ (c4 : Int) := by omega
        have hl9 : (bs.length + 1) * 1 ≤ 140737488355328 := by rw [hN.out]; omega
        have hl13 : (bs ++ [(cN : Int) % 256]).length = N + 1 := by rw [List.length_append, hN.out]; rfl
        replace hcC := Aside0.mk hcC; replace hfl := Aside0.mk hfl; replace hcl := Aside0.mk hcl; replace hci := Aside0.mk hci; replace hq := Aside0.mk hq; replace hl9 := Aside0.mk hl9; replace hl13 := Aside0.mk hl13
        clear hbit hmod hdiv hwj
        go_wp2_with fail
        with_reducible refine (Decode_calls (some ⟨g, 0, none⟩) N cap (flipN bs k yN i) wr (hT.out.step hBr.out) hcC.out hcap (by omega) (flipN_in hin.out k yN i)).mono ?_
        rintro e w6 ⟨A6, c6, B6, d6, er, gs, us, rfl, hde, hb6, -, -, -, -, -, -⟩
        have her : (er != 0) = ci := by rw [← hfl.out, ← hde]
        generalize gs.length = ng
        generalize us.length = nu
        clear hde
        have hB6 := Aside0.mk (hBr4.out.trans (hb6.mono hBr4.out.size))
        clear hb6
        go_wp2_with (first
          | (((with_reducible refine gate_dst (N := 17) rfl ?_); refine box_event ?hg (N := 17) ?hd (cs := #[.slice none 0 0, .slice none 0 0]) (t := 25) ?hr ?_; (case hd => rfl); (case hg => rfl); (case hr => first | (go_simp; done) | (go_simp; rfl)); intro b17 hb17 w7 kb17 bb17; replace hb17 := Aside0.mk hb17; replace kb17 := Aside0.mk kb17; replace bb17 := Aside0.mk bb17))
          | (((with_reducible refine gate_op (.store 25 (.tmp 17) (.tmp 90)) rfl ?_); refine wpList_store_midB rfl _ _ _ rfl b17 0 [.slice A6 ng c6, .slice B6 nu d6] rfl rfl 25 [.slice none 0 0, .slice none 0 0] kb17.out szS2 (Nat.le_refl _) oneS2 ?_; obtain ⟨kk, bb⟩ := boxed (cs := [.slice none 0 0, .slice none 0 0]) (cs2 := [.slice A6 ng c6, .slice B6 nu d6]) hb17.out kb17.out bb17.out rfl; revert kk bb; generalize World.setRow _ b17 (splice [.slice none 0 0, .slice none 0 0] 0 [.slice A6 ng c6, .slice B6 nu d6]).toArray = w8; clear kb17 bb17; intro kb17 bb17; replace kb17 := Aside0.mk kb17; replace bb17 := Aside0.mk bb17); (have hB8 := Aside0.mk (hB6.out.trans (bb17.out.mono hB6.out.size))); clear kb17 bb17 hb17))
        have hC8 := C_take0 (Kd.C_below hC5.out hB8.out) q (by omega)
        have hBw8 := Aside0.mk (hB4.out.trans (hB8.out.mono hB4.out.size))
        have hin8 := inB_take hin.out q
        with_reducible refine (Decode_calls A4 q c4 (bs.take q) w8 (hT.out.step hBw8.out) hC8 (by omega) (by omega) hin8).mono ?_
        rintro e w9 ⟨A9, c9, B9, d9, er2, gs, us, rfl, hde, hb9, -, -, -, -, -, -⟩
        have her2 : (er2 != 0) = true := by
          have h9 := hcut.out q hqN
          rw [← hde] at h9
          simpa using h9
        generalize gs.length = ng2
        generalize us.length = nu2
        clear hde hC8 hin8
        have hB9 := Aside0.mk (hB8.out.trans (hb9.mono hB8.out.size))
        clear hb9
        go_wp2_with (first
          | (((with_reducible refine gate_dst (N := 19) rfl ?_); refine box_event ?hg (N := 19) ?hd (cs := #[.slice none 0 0, .slice none 0 0]) (t := 25) ?hr ?_; (case hd => rfl); (case hg => rfl); (case hr => first | (go_simp; done) | (go_simp; rfl)); intro b19 hb19 w10 kb19 bb19; replace hb19 := Aside0.mk hb19; replace kb19 := Aside0.mk kb19; replace bb19 := Aside0.mk bb19))
          | (((with_reducible refine gate_op (.store 25 (.tmp 19) (.tmp 101)) rfl ?_); refine wpList_store_midB rfl _ _ _ rfl b19 0 [.slice A9 ng2 c9, .slice B9 nu2 d9] rfl rfl 25 [.slice none 0 0, .slice none 0 0] kb19.out szS2 (Nat.le_refl _) oneS2 ?_; obtain ⟨kk, bb⟩ := boxed (cs := [.slice none 0 0, .slice none 0 0]) (cs2 := [.slice A9 ng2 c9, .slice B9 nu2 d9]) hb19.out kb19.out bb19.out rfl; revert kk bb; generalize World.setRow _ b19 (splice [.slice none 0 0, .slice none 0 0] 0 [.slice A9 ng2 c9, .slice B9 nu2 d9]).toArray = w11; clear kb19 bb19; intro kb19 bb19; replace kb19 := Aside0.mk kb19; replace bb19 := Aside0.mk bb19); (have hB11 := Aside0.mk (hB9.out.trans (bb19.out.mono hB9.out.size))); clear kb19 bb19 hb19; (have hE1 := Byts_empty w11); (have hbF := below_alloc (Below.refl w11.heap.size w11) (.cells #[] 5)); (have hC5F := Kd.C_below (Kd.C_below hC5.out hB11.out) hbF); replace hE1 := Aside0.mk hE1; replace hbF := Aside0.mk hbF; replace hC5F := Aside0.mk hC5F)
          | ((with_reducible refine gate_builtin (b := .append) (xs := #[.tmp 104, .tmp 105]) rfl ?_); at_builtin; refine Kd.R_append_rows U8 (w0 := w11) w11.heap.size rfl (.tmp 104) (.tmp 105) 28 5 (.int .u8 0) 1 rfl Tryz.underlying28 info_u8 rfl (by decide) (by decide) (.slice (some ⟨w11.heap.size, 0, none⟩) 0 0) [] bs A4 N c4 (fun _ => True) (fun _ => False) rfl rfl hE1.out hC5F.out (fun _ _ h => h) (fun _ hk => hk.elim) (fun _ _ => trivial) hbF.out hbF.out.size hl8.out ?_; intro v12 w12 r12 hb12 hg12 hat12; rw [List.nil_append] at r12; (obtain ⟨g2, cap2, ev12, hg2, hcap2, -⟩ := Byts.open_ r12 (by rw [hN.out]; omega)); rw [hN.out] at ev12 hcap2; subst ev12; clear hg12 hat12; replace r12 := Aside0.mk r12; replace hb12 := Aside0.mk hb12)
          | ((with_reducible refine gate_builtin (b := .append) (xs := #[.tmp 106, .tmp 109]) rfl ?_); at_builtin; refine Kd.R_append U8 (w0 := w11) w11.heap.size rfl (.tmp 106) (.tmp 109) 28 5 (.int .u8 0) 1 rfl Tryz.underlying28 info_u8 rfl (by decide) (by decide) (.slice (some ⟨g2, 0, none⟩) N cap2) bs ((cN : Int) % 256) [.int .u8 ((cN : Int) % 256)] (fun _ => True) (fun _ => False) rfl rfl ?aP (fun _ hk => hk.elim) (fun _ _ => trivial) r12.out hb12.out hb12.out.size hl9.out ?_; (case aP => exact rfl); intro v13 w13 r13 hb13 hg13 hat13; (obtain ⟨A13, c13, ev13, hc13, hC13⟩ := Kd.R_reads r13); rw [hl13.out] at ev13 hc13 hC13; subst ev13; clear hg13 hat13 r13; replace hb13 := Aside0.mk hb13; replace hC13 := Aside0.mk hC13))
        have hB13 := Aside0.mk (hB4.out.trans ((hB11.out.trans (hb13.out.mono hB11.out.size)).mono hB4.out.size))
        have hin13 : inB (bs ++ [(cN : Int) % 256]) := inB_app hin.out (fun x hx => by simp at hx; subst hx; omega)
        with_reducible refine (Decode_calls A13 (N + 1) c13 (bs ++ [(cN : Int) % 256]) w13 (hT.out.step hB13.out) hC13.out hc13 (by omega) hin13).mono ?_
        rintro e w14 ⟨A14, c14, B14, d14, er3, gs, us, rfl, hde, hb14, -, -, -, -, -, -⟩
        have her3 : (er3 != 0) = true := by
          have h9 := hmore.out ((cN : Int) % 256)
          rw [← hde] at h9
          simpa using h9
        generalize gs.length = ng3
        generalize us.length = nu3
        clear hde hin13
        have hB14 := Aside0.mk (hB13.out.trans (hb14.mono hB13.out.size))
        clear hb14
        go_wp2_with (first
          | (((with_reducible refine gate_dst (N := 21) rfl ?_); refine box_event ?hg (N := 21) ?hd (cs := #[.slice none 0 0, .slice none 0 0]) (t := 25) ?hr ?_; (case hd => rfl); (case hg => rfl); (case hr => first | (go_simp; done) | (go_simp; rfl)); intro b21 hb21 w15 kb21 bb21; replace hb21 := Aside0.mk hb21; replace kb21 := Aside0.mk kb21; replace bb21 := Aside0.mk bb21))
          | (((with_reducible refine gate_op (.store 25 (.tmp 21) (.tmp 112)) rfl ?_); refine wpList_store_midB rfl _ _ _ rfl b21 0 [.slice A14 ng3 c14, .slice B14 nu3 d14] rfl rfl 25 [.slice none 0 0, .slice none 0 0] kb21.out szS2 (Nat.le_refl _) oneS2 ?_; obtain ⟨kk, bb⟩ := boxed (cs := [.slice none 0 0, .slice none 0 0]) (cs2 := [.slice A14 ng3 c14, .slice B14 nu3 d14]) hb21.out kb21.out bb21.out rfl; revert kk bb; generalize World.setRow _ b21 (splice [.slice none 0 0, .slice none 0 0] 0 [.slice A14 ng3 c14, .slice B14 nu3 d14]).toArray = w16; clear kb21 bb21; intro kb21 bb21; replace kb21 := Aside0.mk kb21; replace bb21 := Aside0.mk bb21); (have hB16 := Aside0.mk (hB14.out.trans (bb21.out.mono hB14.out.size)))))
        go_ret
        exact ⟨by simp, hB16.out⟩
        
    · have z1 : ¬ (i : Int) < 32 := by omega
      have hBr := Aside0.mk (hB4.out.trans ((hb5.out.trans (KeepF.to_below hkp.out hb5.out.size (fun j e => by have e : j = g := e; omega))).mono hB4.out.size))
      have hBr4 := Aside0.mk (hb5.out.trans (KeepF.to_below hkp.out hb5.out.size (fun j e => by have e : j = g := e; omega)))
      have hcl : (flipN bs k yN i).length = N := by rw [flipN_length]; exact hN.out
      have hcC := hcr.out.C (by rw [hcl]; omega)
      rw [hcl] at hcC
      have hfl := hflip.out yN k i hki (by omega)
      rw [hci] at hfl
      obtain ⟨q, hq⟩ : ∃ q, cN % N = q := ⟨_, rfl⟩
      have hqN : q < N := by rw [← hq]; exact Nat.mod_lt _ (by omega)
      have hqI : ((cN : Nat) : Int).tmod (N : Int) = (q : Int) := by rw [Int.tmod_eq_emod_of_nonneg (by omega), ← hq]; rfl
      have hwq : IntKind.i64.wrap (q : Int) = (q : Int) := by rw [IntKind.wrap_i64]; omega
      have hq0 : 0 ≤ (q : Int) := by omega
      have hqc : (q : Int) ≤ (c4 : Int) := by omega
      have hl9 : (bs.length + 1) * 1 ≤ 140737488355328 := by rw [hN.out]; omega
      have hl13 : (bs ++ [(cN : Int) % 256]).length = N + 1 := by rw [List.length_append, hN.out]; rfl
      replace hcC := Aside0.mk hcC; replace hfl := Aside0.mk hfl; replace hcl := Aside0.mk hcl; replace hci := Aside0.mk hci; replace hq := Aside0.mk hq; replace hl9 := Aside0.mk hl9; replace hl13 := Aside0.mk hl13
      clear hbit hmod hdiv hwj
      go_wp2_with fail
      with_reducible refine (Decode_calls (some ⟨g, 0, none⟩) N cap (flipN bs k yN i) wr (hT.out.step hBr.out) hcC.out hcap (by omega) (flipN_in hin.out k yN i)).mono ?_
      rintro e w6 ⟨A6, c6, B6, d6, er, gs, us, rfl, hde, hb6, -, -, -, -, -, -⟩
      have her : (er != 0) = ci := by rw [← hfl.out, ← hde]
      generalize gs.length = ng
      generalize us.length = nu
      clear hde
      have hB6 := Aside0.mk (hBr4.out.trans (hb6.mono hBr4.out.size))
      clear hb6
      go_wp2_with (first
        | (((with_reducible refine gate_dst (N := 17) rfl ?_); refine box_event ?hg (N := 17) ?hd (cs := #[.slice none 0 0, .slice none 0 0]) (t := 25) ?hr ?_; (case hd => rfl); (case hg => rfl); (case hr => first | (go_simp; done) | (go_simp; rfl)); intro b17 hb17 w7 kb17 bb17; replace hb17 := Aside0.mk hb17; replace kb17 := Aside0.mk kb17; replace bb17 := Aside0.mk bb17))
        | (((with_reducible refine gate_op (.store 25 (.tmp 17) (.tmp 90)) rfl ?_); refine wpList_store_midB rfl _ _ _ rfl b17 0 [.slice A6 ng c6, .slice B6 nu d6] rfl rfl 25 [.slice none 0 0, .slice none 0 0] kb17.out szS2 (Nat.le_refl _) oneS2 ?_; obtain ⟨kk, bb⟩ := boxed (cs := [.slice none 0 0, .slice none 0 0]) (cs2 := [.slice A6 ng c6, .slice B6 nu d6]) hb17.out kb17.out bb17.out rfl; revert kk bb; generalize World.setRow _ b17 (splice [.slice none 0 0, .slice none 0 0] 0 [.slice A6 ng c6, .slice B6 nu d6]).toArray = w8; clear kb17 bb17; intro kb17 bb17; replace kb17 := Aside0.mk kb17; replace bb17 := Aside0.mk bb17); (have hB8 := Aside0.mk (hB6.out.trans (bb17.out.mono hB6.out.size))); clear kb17 bb17 hb17))
      have hC8 := C_take0 (Kd.C_below hC5.out hB8.out) q (by omega)
      have hBw8 := Aside0.mk (hB4.out.trans (hB8.out.mono hB4.out.size))
      have hin8 := inB_take hin.out q
      with_reducible refine (Decode_calls A4 q c4 (bs.take q) w8 (hT.out.step hBw8.out) hC8 (by omega) (by omega) hin8).mono ?_
      rintro e w9 ⟨A9, c9, B9, d9, er2, gs, us, rfl, hde, hb9, -, -, -, -, -, -⟩
      have her2 : (er2 != 0) = true := by
        have h9 := hcut.out q hqN
        rw [← hde] at h9
        simpa using h9
      generalize gs.length = ng2
      generalize us.length = nu2
      clear hde hC8 hin8
      have hB9 := Aside0.mk (hB8.out.trans (hb9.mono hB8.out.size))
      clear hb9
      go_wp2_with (first
        | (((with_reducible refine gate_dst (N := 19) rfl ?_); refine box_event ?hg (N := 19) ?hd (cs := #[.slice none 0 0, .slice none 0 0]) (t := 25) ?hr ?_; (case hd => rfl); (case hg => rfl); (case hr => first | (go_simp; done) | (go_simp; rfl)); intro b19 hb19 w10 kb19 bb19; replace hb19 := Aside0.mk hb19; replace kb19 := Aside0.mk kb19; replace bb19 := Aside0.mk bb19))
        | (((with_reducible refine gate_op (.store 25 (.tmp 19) (.tmp 101)) rfl ?_); refine wpList_store_midB rfl _ _ _ rfl b19 0 [.slice A9 ng2 c9, .slice B9 nu2 d9] rfl rfl 25 [.slice none 0 0, .slice none 0 0] kb19.out szS2 (Nat.le_refl _) oneS2 ?_; obtain ⟨kk, bb⟩ := boxed (cs := [.slice none 0 0, .slice none 0 0]) (cs2 := [.slice A9 ng2 c9, .slice B9 nu2 d9]) hb19.out kb19.out bb19.out rfl; revert kk bb; generalize World.setRow _ b19 (splice [.slice none 0 0, .slice none 0 0] 0 [.slice A9 ng2 c9, .slice B9 nu2 d9]).toArray = w11; clear kb19 bb19; intro kb19 bb19; replace kb19 := Aside0.mk kb19; replace bb19 := Aside0.mk bb19); (have hB11 := Aside0.mk (hB9.out.trans (bb19.out.mono hB9.out.size))); clear kb19 bb19 hb19; (have hE1 := Byts_empty w11); (have hbF := below_alloc (Below.refl w11.heap.size w11) (.cells #[] 5)); (have hC5F := Kd.C_below (Kd.C_below hC5.out hB11.out) hbF); replace hE1 := Aside0.mk hE1; replace hbF := Aside0.mk hbF; replace hC5F := Aside0.mk hC5F)
        | ((with_reducible refine gate_builtin (b := .append) (xs := #[.tmp 104, .tmp 105]) rfl ?_); at_builtin; refine Kd.R_append_rows U8 (w0 := w11) w11.heap.size rfl (.tmp 104) (.tmp 105) 28 5 (.int .u8 0) 1 rfl Tryz.underlying28 info_u8 rfl (by decide) (by decide) (.slice (some ⟨w11.heap.size, 0, none⟩) 0 0) [] bs A4 N c4 (fun _ => True) (fun _ => False) rfl rfl hE1.out hC5F.out (fun _ _ h => h) (fun _ hk => hk.elim) (fun _ _ => trivial) hbF.out hbF.out.size hl8.out ?_; intro v12 w12 r12 hb12 hg12 hat12; rw [List.nil_append] at r12; (obtain ⟨g2, cap2, ev12, hg2, hcap2, -⟩ := Byts.open_ r12 (by rw [hN.out]; omega)); rw [hN.out] at ev12 hcap2; subst ev12; clear hg12 hat12; replace r12 := Aside0.mk r12; replace hb12 := Aside0.mk hb12)
        | ((with_reducible refine gate_builtin (b := .append) (xs := #[.tmp 106, .tmp 109]) rfl ?_); at_builtin; refine Kd.R_append U8 (w0 := w11) w11.heap.size rfl (.tmp 106) (.tmp 109) 28 5 (.int .u8 0) 1 rfl Tryz.underlying28 info_u8 rfl (by decide) (by decide) (.slice (some ⟨g2, 0, none⟩) N cap2) bs ((cN : Int) % 256) [.int .u8 ((cN : Int) % 256)] (fun _ => True) (fun _ => False) rfl rfl ?aP (fun _ hk => hk.elim) (fun _ _ => trivial) r12.out hb12.out hb12.out.size hl9.out ?_; (case aP => exact rfl); intro v13 w13 r13 hb13 hg13 hat13; (obtain ⟨A13, c13, ev13, hc13, hC13⟩ := Kd.R_reads r13); rw [hl13.out] at ev13 hc13 hC13; subst ev13; clear hg13 hat13 r13; replace hb13 := Aside0.mk hb13; replace hC13 := Aside0.mk hC13))
      have hB13 := Aside0.mk (hB4.out.trans ((hB11.out.trans (hb13.out.mono hB11.out.size)).mono hB4.out.size))
      have hin13 : inB (bs ++ [(cN : Int) % 256]) := inB_app hin.out (fun x hx => by simp at hx; subst hx; omega)
      with_reducible refine (Decode_calls A13 (N + 1) c13 (bs ++ [(cN : Int) % 256]) w13 (hT.out.step hB13.out) hC13.out hc13 (by omega) hin13).mono ?_
      rintro e w14 ⟨A14, c14, B14, d14, er3, gs, us, rfl, hde, hb14, -, -, -, -, -, -⟩
      have her3 : (er3 != 0) = true := by
        have h9 := hmore.out ((cN : Int) % 256)
        rw [← hde] at h9
        simpa using h9
      generalize gs.length = ng3
      generalize us.length = nu3
      clear hde hin13
      have hB14 := Aside0.mk (hB13.out.trans (hb14.mono hB13.out.size))
      clear hb14
      go_wp2_with (first
        | (((with_reducible refine gate_dst (N := 21) rfl ?_); refine box_event ?hg (N := 21) ?hd (cs := #[.slice none 0 0, .slice none 0 0]) (t := 25) ?hr ?_; (case hd => rfl); (case hg => rfl); (case hr => first | (go_simp; done) | (go_simp; rfl)); intro b21 hb21 w15 kb21 bb21; replace hb21 := Aside0.mk hb21; replace kb21 := Aside0.mk kb21; replace bb21 := Aside0.mk bb21))
        | (((with_reducible refine gate_op (.store 25 (.tmp 21) (.tmp 112)) rfl ?_); refine wpList_store_midB rfl _ _ _ rfl b21 0 [.slice A14 ng3 c14, .slice B14 nu3 d14] rfl rfl 25 [.slice none 0 0, .slice none 0 0] kb21.out szS2 (Nat.le_refl _) oneS2 ?_; obtain ⟨kk, bb⟩ := boxed (cs := [.slice none 0 0, .slice none 0 0]) (cs2 := [.slice A14 ng3 c14, .slice B14 nu3 d14]) hb21.out kb21.out bb21.out rfl; revert kk bb; generalize World.setRow _ b21 (splice [.slice none 0 0, .slice none 0 0] 0 [.slice A14 ng3 c14, .slice B14 nu3 d14]).toArray = w16; clear kb21 bb21; intro kb21 bb21; replace kb21 := Aside0.mk kb21; replace bb21 := Aside0.mk bb21); (have hB16 := Aside0.mk (hB14.out.trans (bb21.out.mono hB14.out.size)))))
      go_ret
      exact ⟨by simp, hB16.out⟩
      
theorem ImageBurstsI_calls (w : World) (hT : Tab w) (A : Option Addr) (n c : Nat) (xs : List SG) (B : Option Addr) (m d : Nat) (ts : List ST) (hG : kG.C w A n xs) (hc : n ≤ c) (hTT : kT.C w B m ts) (hd : m ≤ d) (hB : ∀ ad, B = some ad → ad.spot = none) (ho : ∀ x ∈ xs, okG x) (hot : ∀ x ∈ ts, okT x)
    (a1 : Int) (w1 : (Lit.int .u16 a1).wf = true) (a2 : Int) (w2 : (Lit.int .u32 a2).wf = true) (a3 : Int) (w3 : (Lit.int .u16 a3).wf = true) :
    Calls Tryz.prog 7 #[.agg #[.slice A n c, .slice B m d], .int .u16 a1, .int .u32 a2, .int .u16 a3] w (OkPost w) := by
  simp [Lit.wf, IntKind.min, IntKind.max, IntKind.signed, IntKind.bits] at w1 w2 w3
  obtain ⟨k1, rfl⟩ : ∃ k : Nat, a1 = k := ⟨a1.toNat, by omega⟩
  obtain ⟨k2, rfl⟩ : ∃ k : Nat, a2 = k := ⟨a2.toNat, by omega⟩
  obtain ⟨k3, rfl⟩ : ∃ k : Nat, a3 = k := ⟨a3.toNat, by omega⟩
  exact ImageBursts_calls w hT A n c xs B m d ts hG hc hTT hd hB ho hot k1 k2 k3 (by omega) (by omega) (by omega)
end Go.Proofs.YtpnjhffnlafabaaGreatDoor.Im
