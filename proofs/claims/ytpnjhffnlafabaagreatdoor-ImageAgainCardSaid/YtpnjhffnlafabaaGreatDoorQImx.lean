/- ImageAgain: what is decoded, encoded, is the same bytes, and can be. ImageUnlike: unlike scenes have unlike images. -/
import Derived.Test.YtpnjhffnlafabaaGreatDoorQImw
namespace Go.Proofs.YtpnjhffnlafabaaGreatDoor.Im
set_option linter.unusedVariables false
set_option linter.unusedSimpArgs false
open Go.Proofs Go.RowKit Go.Proofs.Bk Go.Proofs.Bm Go.Proofs.Sc Go.Proofs.Kf Go.Proofs.YtpnjhffnlafabaaGreatDoorW.PrintWords Go.Proofs.YtpnjhffnlafabaaGreatDoor.Sl Go.Proofs.YtpnjhffnlafabaaGreatDoor.Sn Go.Proofs.YtpnjhffnlafabaaGreatDoor.PImageBack
theorem decodeS_odd {a b c d : List Int} {er : Int} {gs : List SG} {ts : List ST} (h : (er, gs, ts) = decodeS a b c d) : (er ≠ 0 → gs = [] ∧ ts = []) ∧ (er = 0 → gs = groupsR a b (a.length / 9) ∧ ts = tasksR c d (c.length / 27)) := by
  unfold decodeS at h
  repeat' split at h
  · cases h; exact ⟨fun _ => ⟨rfl, rfl⟩, fun h => by cases h⟩
  · cases h; exact ⟨fun _ => ⟨rfl, rfl⟩, fun h => by cases h⟩
  · rename_i hc
    injection h with h1 h2
    injection h2 with h2 h3
    exact ⟨fun _ => ⟨h2, h3⟩, fun h => absurd (h1.symm.trans h) hc⟩
  · cases h; exact ⟨fun h => absurd rfl h, fun _ => ⟨rfl, rfl⟩⟩
theorem decode_odd {b : List Int} {er : Int} {gs : List SG} {ts : List ST} (hb : inB b) (h : (er, gs, ts) = decodeOf b) : (er ≠ 0 → gs = [] ∧ ts = []) ∧ (er = 0 → (∀ x ∈ gs, okG x) ∧ ∀ x ∈ ts, okT x) := by
  unfold decodeOf at h
  by_cases hu : (unpackOf b).1 = 0
  case neg =>
    rw [if_pos hu] at h
    injection h with h1 h2
    injection h2 with h2 h3
    exact ⟨fun _ => ⟨h2, h3⟩, fun h => absurd (h1.symm.trans h) hu⟩
  rw [if_neg (by simp [hu])] at h
  obtain ⟨hok, -⟩ := pack_unpack (ss := (unpackOf b).2) hb (by rw [← hu])
  obtain ⟨ss, hss⟩ : ∃ ss, (unpackOf b).2 = ss := ⟨_, rfl⟩
  rw [hss] at h hok
  have other : decodeL ss = (21, [], []) → (er ≠ 0 → gs = [] ∧ ts = []) ∧ (er = 0 → (∀ x ∈ gs, okG x) ∧ ∀ x ∈ ts, okT x) := fun e => by
    rw [e] at h; cases h; exact ⟨fun _ => ⟨rfl, rfl⟩, fun h => by cases h⟩
  match ss, h, hok, other with
  | [], _, _, o => exact o rfl
  | [_], _, _, o => exact o rfl
  | [_, _], _, _, o => exact o rfl
  | [_, _, _], _, _, o => exact o rfl
  | _ :: _ :: _ :: _ :: _ :: _, _, _, o => exact o rfl
  | [s0, s1, s2, s3], h, hok, o =>
    by_cases h4 : s3.f0 = 4
    case neg => exact o (by unfold decodeL; dsimp only; rw [if_pos h4])
    unfold decodeL at h
    dsimp only at h
    rw [if_neg (by simp [h4])] at h
    obtain ⟨h1, h2⟩ := decodeS_odd h
    refine ⟨h1, fun e => ?_⟩
    obtain ⟨rfl, rfl⟩ := h2 e
    exact ⟨groupsR_ok, tasksR_ok (hok.inb s3 (by simp))⟩
set_option maxHeartbeats 8000000 in
set_option maxRecDepth 100000 in
theorem ImageAgain_calls (w : World) (hT : Tab w) (A : Option Addr) (n c : Nat) (b : List Int) (h : U8.C w A n b) (hc : n ≤ c) (hby : inB b) :
    Calls Tryz.prog 6 #[.slice A n c] w (OkPost w) := by
  have hln := h.1
  have hnn := h.2.1
  have HE := Aside0.mk h
  clear h
  replace hT := Aside0.mk hT; replace hby := Aside0.mk hby; replace hln := Aside0.mk hln
  go_enter Tryz.func6, Tryz.ntmps6
  go_wp2_with fail
  with_reducible refine (awake_calls w hT.out).mono ?_
  rintro e w2 ⟨rfl, hb2⟩
  have hB2 := Aside0.mk hb2
  clear hb2
  by_cases hk : 1000 < n
  · have z1 : (1000 : Int) < (n : Int) := by omega
    go_wp2_with fail
    go_ret
    exact ⟨rfl, hB2.out⟩
  have z1 : ¬ (1000 : Int) < (n : Int) := by omega
  go_wp2_with fail
  with_reducible refine (Decode_calls A n c b w2 (hT.out.step hB2.out) (Kd.C_below HE.out hB2.out) hc (by omega) hby.out).mono ?_
  rintro e w3 ⟨A4, c4, B4, d4, er, gs, ts, rfl, hde, hb3, k1, k2, hG, hT4, hsA, hsB⟩
  have hB3 := Aside0.mk (hB2.out.trans (hb3.mono hB2.out.size))
  obtain ⟨o1, o2⟩ := decode_odd hby.out hde
  clear hb3
  by_cases her : er = 0
  case neg =>
    obtain ⟨rfl, rfl⟩ := o1 her
    have z2 : (er != 0) = true := by simpa using her
    rw [show ([] : List SG).length = 0 from rfl, show ([] : List ST).length = 0 from rfl]
    clear o1 o2 hde hG hT4
    go_wp2_with (first
      | (((with_reducible refine gate_dst (N := 4) rfl ?_); refine box_event ?hg (N := 4) ?hd (cs := #[.slice none 0 0, .slice none 0 0]) (t := 25) ?hr ?_; (case hd => rfl); (case hg => rfl); (case hr => first | (go_simp; done) | (go_simp; rfl)); intro b4 hb4 w4 kb4 bb4; replace hb4 := Aside0.mk hb4; replace kb4 := Aside0.mk kb4; replace bb4 := Aside0.mk bb4))
      | (((with_reducible refine gate_op (.store 25 (.tmp 4) (.tmp 16)) rfl ?_); refine wpList_store_midB rfl _ _ _ rfl b4 0 [.slice A4 0 c4, .slice B4 0 d4] rfl rfl 25 [.slice none 0 0, .slice none 0 0] kb4.out szS2 (Nat.le_refl _) oneS2 ?_; obtain ⟨kk, bb⟩ := boxed (cs := [.slice none 0 0, .slice none 0 0]) (cs2 := [.slice A4 0 c4, .slice B4 0 d4]) hb4.out kb4.out bb4.out rfl; revert kk bb; generalize World.setRow _ b4 (splice [.slice none 0 0, .slice none 0 0] 0 [.slice A4 0 c4, .slice B4 0 d4]).toArray = w5; clear kb4 bb4; intro kb4 bb4; replace kb4 := Aside0.mk kb4; replace bb4 := Aside0.mk bb4); (have q0 := (Kf.cell_row kb4.out 0).trans (rfl : _ = some (Value.slice A4 0 c4))); (have q1 := (Kf.cell_row kb4.out 1).trans (rfl : _ = some (Value.slice B4 0 d4)))))
    go_ret
    exact ⟨rfl, hB3.out.trans (bb4.out.mono hB3.out.size)⟩
  subst her
  obtain ⟨hoG, hoT⟩ := o2 rfl
  obtain ⟨hen, hck⟩ := encode_decode hby.out hde.symm
  obtain ⟨-, hl, -⟩ := encode_inB hen.symm rfl (okT_f3 hoT)
  rw [hln.out] at hl
  obtain ⟨ng, hng⟩ : ∃ g, gs.length = g := ⟨_, rfl⟩
  obtain ⟨nt, hnt⟩ : ∃ g, ts.length = g := ⟨_, rfl⟩
  rw [hng, hnt] at hl
  rw [hng] at hG k1
  rw [hnt] at hT4 k2
  rw [hng, hnt]
  clear o1 o2 hde
  have h3 := okT_f3 hoT
  have zl : (41 + 21 * (ng : Int) + 35 * (nt : Int) == (n : Int)) = true := by simp; omega
  have hgb : ng ≤ 1000000 := by omega
  have htb : nt ≤ 1000000 := by omega
  replace hG := Aside0.mk hG; replace hT4 := Aside0.mk hT4; replace hoG := Aside0.mk hoG; replace hoT := Aside0.mk hoT; replace hen := Aside0.mk hen; replace hck := Aside0.mk hck; replace hsA := Aside0.mk hsA; replace hsB := Aside0.mk hsB; replace hng := Aside0.mk hng; replace hnt := Aside0.mk hnt; replace h3 := Aside0.mk h3; replace hgb := Aside0.mk hgb; replace htb := Aside0.mk htb; replace hl := Aside0.mk hl
  go_wp2_with (first
    | (((with_reducible refine gate_dst (N := 4) rfl ?_); refine box_event ?hg (N := 4) ?hd (cs := #[.slice none 0 0, .slice none 0 0]) (t := 25) ?hr ?_; (case hd => rfl); (case hg => rfl); (case hr => first | (go_simp; done) | (go_simp; rfl)); intro b4 hb4 w4 kb4 bb4; replace hb4 := Aside0.mk hb4; replace kb4 := Aside0.mk kb4; replace bb4 := Aside0.mk bb4))
    | (((with_reducible refine gate_op (.store 25 (.tmp 4) (.tmp 16)) rfl ?_); refine wpList_store_midB rfl _ _ _ rfl b4 0 [.slice A4 ng c4, .slice B4 nt d4] rfl rfl 25 [.slice none 0 0, .slice none 0 0] kb4.out szS2 (Nat.le_refl _) oneS2 ?_; obtain ⟨kk, bb⟩ := boxed (cs := [.slice none 0 0, .slice none 0 0]) (cs2 := [.slice A4 ng c4, .slice B4 nt d4]) hb4.out kb4.out bb4.out rfl; revert kk bb; generalize World.setRow _ b4 (splice [.slice none 0 0, .slice none 0 0] 0 [.slice A4 ng c4, .slice B4 nt d4]).toArray = w5; clear kb4 bb4; intro kb4 bb4; replace kb4 := Aside0.mk kb4; replace bb4 := Aside0.mk bb4); (have q0 := (Kf.cell_row kb4.out 0).trans (rfl : _ = some (Value.slice A4 ng c4))); (have q1 := (Kf.cell_row kb4.out 1).trans (rfl : _ = some (Value.slice B4 nt d4))))
    | ((with_reducible refine gate_op (.load 25 (.tmp 4)) rfl ?_); refine wpList_load_midB rfl _ _ rfl ⟨b4, 0, none⟩ rfl [.slice A4 ng c4, .slice B4 nt d4] _ (Bk.cells_row kb4.out) Tryz.underlying25 rfl szS2 ?_))
  have hB5 := Aside0.mk (hB3.out.trans (bb4.out.mono hB3.out.size))
  have hG5 := Kd.C_below hG.out bb4.out
  have hT5 := Kd.C_below hT4.out bb4.out
  with_reducible refine (Encode_calls A4 ng c4 gs B4 nt d4 ts w5 (hT.out.step hB5.out) hG5 k1 hT5 k2 hsB.out hoG.out (fun x hx => (h3.out x hx).1)).mono ?_
  rintro e w6 ⟨v, er, bs, rfl, hbs, hb6, heq⟩
  rw [hen.out] at heq
  obtain rfl : er = 0 := congrArg Prod.fst heq
  obtain rfl : bs = b := congrArg Prod.snd heq
  obtain ⟨A6, c6, rfl, hc6, hC6⟩ := Kd.R_reads hbs
  have hB6 := Aside0.mk (hB5.out.trans (hb6.mono hB5.out.size))
  rw [hln.out]
  rw [hln.out] at hC6 hc6
  have hG6 := Kd.C_below hG5 hb6
  have hT6 := Kd.C_below hT5 hb6
  replace q0 := pw_cell_below hb6 q0
  replace q1 := pw_cell_below hb6 q1
  clear hbs hb6 heq hG5 hT5
  replace hC6 := Aside0.mk hC6; replace hG6 := Aside0.mk hG6; replace hT6 := Aside0.mk hT6
  go_wp2_with (first
    | (go_at_call 13; (with_reducible refine (Same01B_calls A6 n c6 A n c bs bs w6 hC6.out (Kd.C_below HE.out hB6.out)).mono ?_); rintro e w7 ⟨rfl, hb7⟩; rw [decide_eq_true (rfl : bs = bs)]; (have hB7 := Aside0.mk (hB6.out.trans (hb7.mono hB6.out.size))); (have hG7 := Aside0.mk (Kd.C_below hG6.out hb7)); (have hT7 := Aside0.mk (Kd.C_below hT6.out hb7)); (replace q0 := pw_cell_below hb7 q0); (replace q1 := pw_cell_below hb7 q1); clear hb7)
    | (go_at_call 19; (with_reducible refine (Check_calls A4 ng c4 gs B4 nt d4 ts w7 hG7.out k1 hT7.out k2 hsB.out hoG.out).mono ?_); rintro e w8 ⟨rfl, hb8⟩; rw [hck.out]; (have hB8 := Aside0.mk (hB7.out.trans (hb8.mono hB7.out.size))); (replace q0 := pw_cell_below hb8 q0); (replace q1 := pw_cell_below hb8 q1); clear hb8)
    | (go_at_call 14; (with_reducible refine (Size_calls A4 ng c4 B4 nt d4 w8 hgb.out htb.out).mono ?_); rintro e w9 ⟨rfl, hb9⟩; (have hB9 := Aside0.mk (hB8.out.trans (hb9.mono hB8.out.size))); clear hb9))
  go_ret
  exact ⟨rfl, hB9.out⟩
theorem encode_same {xs us : List SG} {ts vs : List ST} {aa bs : List Int} (h1 : ∀ t ∈ ts, 0 ≤ t.f3 ∧ t.f3 ≤ 18446744073709551615) (h2 : ∀ t ∈ vs, 0 ≤ t.f3 ∧ t.f3 ≤ 18446744073709551615) (ha : ((0 : Int), aa) = encodeOf xs ts) (hb : ((0 : Int), bs) = encodeOf us vs) : decide (aa = bs) = decide (xs = us ∧ ts = vs) := by
  obtain ⟨-, -, d1, -⟩ := encode_inB ha rfl h1
  obtain ⟨-, -, d2, -⟩ := encode_inB hb rfl h2
  by_cases h : aa = bs
  · subst h
    rw [d1] at d2
    injection d2 with _ d2
    injection d2 with d2 d3
    simp [d2, d3]
  · have hn : ¬ (xs = us ∧ ts = vs) := fun ⟨e1, e2⟩ => by
      subst e1; subst e2
      rw [← ha] at hb
      exact h (congrArg Prod.snd hb).symm
    simp [h, hn]
set_option maxHeartbeats 8000000 in
set_option maxRecDepth 100000 in
theorem ImageUnlike_calls (w : World) (hT : Tab w) (A : Option Addr) (n c : Nat) (xs : List SG) (B : Option Addr) (m d : Nat) (ts : List ST) (hG : kG.C w A n xs) (hc : n ≤ c) (hTT : kT.C w B m ts) (hd : m ≤ d) (hB : ∀ ad, B = some ad → ad.spot = none) (ho : ∀ x ∈ xs, okG x) (hot : ∀ x ∈ ts, okT x)
    (A' : Option Addr) (n' c' : Nat) (xs' : List SG) (B' : Option Addr) (m' d' : Nat) (ts' : List ST) (hG' : kG.C w A' n' xs') (hc' : n' ≤ c') (hTT' : kT.C w B' m' ts') (hd' : m' ≤ d') (hB' : ∀ ad, B' = some ad → ad.spot = none) (ho' : ∀ x ∈ xs', okG x) (hot' : ∀ x ∈ ts', okT x) :
    Calls Tryz.prog 8 #[.agg #[.slice A n c, .slice B m d], .agg #[.slice A' n' c', .slice B' m' d']] w (OkPost w) := by
  have h3 := okT_f3 hot
  have h3' := okT_f3 hot'
  obtain ⟨f1, hf1⟩ : ∃ f, decide (n ≤ 30 ∧ m ≤ 30) = f := ⟨_, rfl⟩
  obtain ⟨f2, hf2⟩ : ∃ f, decide (n' ≤ 30 ∧ m' ≤ 30) = f := ⟨_, rfl⟩
  replace hG := Aside0.mk hG; replace hTT := Aside0.mk hTT; replace hB := Aside0.mk hB; replace ho := Aside0.mk ho; replace hot := Aside0.mk hot; replace hG' := Aside0.mk hG'; replace hTT' := Aside0.mk hTT'; replace hB' := Aside0.mk hB'; replace ho' := Aside0.mk ho'; replace hot' := Aside0.mk hot'; replace hT := Aside0.mk hT; replace h3 := Aside0.mk h3; replace h3' := Aside0.mk h3'; replace hf1 := Aside0.mk hf1; replace hf2 := Aside0.mk hf2
  go_enter Tryz.func8, Tryz.ntmps8
  go_wp2_with (first
    | (((with_reducible refine gate_dst (N := 2) rfl ?_); refine box_event ?hg (N := 2) ?hd (cs := #[.slice A n c, .slice B m d]) (t := 25) ?hr ?_; (case hd => rfl); (case hg => rfl); (case hr => first | (go_simp; done) | (go_simp; rfl)); intro b2 hb2 w1 kb2 bb2; replace hb2 := Aside0.mk hb2; replace kb2 := Aside0.mk kb2; replace bb2 := Aside0.mk bb2))
    | (((with_reducible refine gate_dst (N := 3) rfl ?_); refine box_event ?hg (N := 3) ?hd (cs := #[.slice A' n' c', .slice B' m' d']) (t := 25) ?hr ?_; (case hd => rfl); (case hg => rfl); (case hr => first | (go_simp; done) | (go_simp; rfl)); intro b3 hb3 w2 kb3 bb3; replace hb3 := Aside0.mk hb3; replace kb3 := Aside0.mk kb3; replace bb3 := Aside0.mk bb3); (have k2 := Aside0.mk (row_below bb3.out kb2.out)); (have hB2 := Aside0.mk (bb2.out.trans (bb3.out.mono bb2.out.size)))))
  with_reducible refine (awake_calls w2 (hT.out.step hB2.out)).mono ?_
  rintro e w3 ⟨rfl, hb3⟩
  have hB3 := Aside0.mk (hB2.out.trans (hb3.mono hB2.out.size))
  replace k2 := Aside0.mk (row_below hb3 k2.out)
  have k3 := Aside0.mk (row_below hb3 kb3.out)
  clear hb3 kb2 bb2 kb3 bb3
  go_wp2_with (first
    | ((with_reducible refine gate_op (.load 25 (.tmp 2)) rfl ?_); refine wpList_load_midB rfl _ _ rfl ⟨b2, 0, none⟩ rfl [.slice A n c, .slice B m d] _ (Bk.cells_row k2.out) Tryz.underlying25 rfl szS2 ?_))
  with_reducible refine (few_calls A n c xs B m d ts w3 (Kd.C_below hG.out hB3.out) hc (Kd.C_below hTT.out hB3.out) hd).mono ?_
  rintro e w4 ⟨rfl, hb4⟩
  rw [hf1.out]
  have hB4 := Aside0.mk (hB3.out.trans (hb4.mono hB3.out.size))
  replace k2 := Aside0.mk (row_below hb4 k2.out)
  replace k3 := Aside0.mk (row_below hb4 k3.out)
  clear hb4
  go_wp2_with (first
    | ((with_reducible refine gate_op (.load 25 (.tmp 3)) rfl ?_); refine wpList_load_midB rfl _ _ rfl ⟨b3, 0, none⟩ rfl [.slice A' n' c', .slice B' m' d'] _ (Bk.cells_row k3.out) Tryz.underlying25 rfl szS2 ?_))
  with_reducible refine (few_calls A' n' c' xs' B' m' d' ts' w4 (Kd.C_below hG'.out hB4.out) hc' (Kd.C_below hTT'.out hB4.out) hd').mono ?_
  rintro e w5 ⟨rfl, hb5⟩
  rw [hf2.out]
  have hB5 := Aside0.mk (hB4.out.trans (hb5.mono hB4.out.size))
  replace k2 := Aside0.mk (row_below hb5 k2.out)
  replace k3 := Aside0.mk (row_below hb5 k3.out)
  clear hb5
  go_wp2_with (first
    | ((with_reducible refine gate_op (.load 25 (.tmp 2)) rfl ?_); refine wpList_load_midB rfl _ _ rfl ⟨b2, 0, none⟩ rfl [.slice A n c, .slice B m d] _ (Bk.cells_row k2.out) Tryz.underlying25 rfl szS2 ?_))
  with_reducible refine (Encode_calls A n c xs B m d ts w5 (hT.out.step hB5.out) (Kd.C_below hG.out hB5.out) hc (Kd.C_below hTT.out hB5.out) hd hB.out ho.out (fun x hx => (h3.out x hx).1)).mono ?_
  rintro e w6 ⟨v, er, aa, rfl, has, hb6, ha⟩
  obtain ⟨A6, c6, rfl, hc6, hC6⟩ := Kd.R_reads has
  have hB6 := Aside0.mk (hB5.out.trans (hb6.mono hB5.out.size))
  replace k2 := Aside0.mk (row_below hb6 k2.out)
  replace k3 := Aside0.mk (row_below hb6 k3.out)
  clear has hb6
  replace ha := Aside0.mk ha; replace hC6 := Aside0.mk hC6
  go_wp2_with (first
    | ((with_reducible refine gate_op (.load 25 (.tmp 3)) rfl ?_); refine wpList_load_midB rfl _ _ rfl ⟨b3, 0, none⟩ rfl [.slice A' n' c', .slice B' m' d'] _ (Bk.cells_row k3.out) Tryz.underlying25 rfl szS2 ?_))
  with_reducible refine (Encode_calls A' n' c' xs' B' m' d' ts' w6 (hT.out.step hB6.out) (Kd.C_below hG'.out hB6.out) hc' (Kd.C_below hTT'.out hB6.out) hd' hB'.out ho'.out (fun x hx => (h3'.out x hx).1)).mono ?_
  rintro e w7 ⟨v, er', bs, rfl, hbs, hb7, hbe⟩
  obtain ⟨A7, c7, rfl, hc7, hC7⟩ := Kd.R_reads hbs
  have hB7 := Aside0.mk (hB6.out.trans (hb7.mono hB6.out.size))
  replace hC6 := Aside0.mk (Kd.C_below hC6.out hb7)
  replace k2 := Aside0.mk (row_below hb7 k2.out)
  replace k3 := Aside0.mk (row_below hb7 k3.out)
  clear hbs hb7
  replace hbe := Aside0.mk hbe; replace hC7 := Aside0.mk hC7
  have hend := Aside0.mk (show OkPost w (.returned (.bool true)) w7 from ⟨rfl, hB7.out⟩)
  cases f1 with
  | false =>
    go_wp2_with fail
    go_ret
    exact hend.out
  | true =>
  cases f2 with
  | false =>
    go_wp2_with fail
    go_ret
    exact hend.out
  | true =>
  by_cases h0 : er = 0
  case neg =>
    have z1 : (er != 0) = true := by simpa using h0
    go_wp2_with fail
    go_ret
    exact hend.out
  by_cases h0' : er' = 0
  case neg =>
    have z1 : (er' != 0) = true := by simpa using h0'
    subst h0
    go_wp2_with fail
    go_ret
    exact hend.out
  subst h0
  subst h0'
  have hsm := encode_same h3.out h3'.out ha.out hbe.out
  obtain ⟨fs, hfs⟩ : ∃ f, decide (xs = xs' ∧ ts = ts') = f := ⟨_, rfl⟩
  rw [hfs] at hsm
  have ksm := same_calls A n c xs B m d ts A' n' c' xs' B' m' d' ts'
  have hn1 : n < 4611686018427387904 := by have := of_decide_eq_true hf1.out; omega
  have hm1 : m < 4611686018427387904 := by have := of_decide_eq_true hf1.out; omega
  have hB8 := Aside0.mk (hB7.out.drew)
  have y0 := (Kf.cell_row k2.out 0).trans (rfl : _ = some (Value.slice A n c))
  have y1 := (Kf.cell_row k2.out 1).trans (rfl : _ = some (Value.slice B m d))
  have y2 := (Kf.cell_row k3.out 0).trans (rfl : _ = some (Value.slice A' n' c'))
  have y3 := (Kf.cell_row k3.out 1).trans (rfl : _ = some (Value.slice B' m' d'))
  have s0 : w7.drew.cell? ⟨b2, 0, none⟩ = some (.slice A n c) ∧ w7.drew.cell? ⟨b2, 1, none⟩ = some (.slice B m d) ∧ w7.drew.cell? ⟨b3, 0, none⟩ = some (.slice A' n' c') ∧ w7.drew.cell? ⟨b3, 1, none⟩ = some (.slice B' m' d') := ⟨y0, y1, y2, y3⟩
  have hd6 : U8.C w7.drew A6 aa.length aa := Kd.C_below hC6.out (Below.refl _ _).drew
  have hd7 : U8.C w7.drew A7 bs.length bs := Kd.C_below hC7.out (Below.refl _ _).drew
  clear y0 y1 y2 y3
  obtain ⟨na, hna⟩ : ∃ a, aa.length = a := ⟨_, rfl⟩
  obtain ⟨nb, hnb⟩ : ∃ a, bs.length = a := ⟨_, rfl⟩
  rw [hna] at hd6
  rw [hnb] at hd7
  rw [hna, hnb]
  replace hsm := Aside0.mk hsm; replace ksm := Aside0.mk ksm; replace hd6 := Aside0.mk hd6; replace hd7 := Aside0.mk hd7; replace hfs := Aside0.mk hfs; replace hna := Aside0.mk hna; replace hnb := Aside0.mk hnb; replace hn1 := Aside0.mk hn1; replace hm1 := Aside0.mk hm1
  go_wp2_with fail
  (first | (go_region_held3 (fun w' => w'.cell? ⟨b2, 0, none⟩ = some (.slice A n c) ∧ w'.cell? ⟨b2, 1, none⟩ = some (.slice B m d) ∧ w'.cell? ⟨b3, 0, none⟩ = some (.slice A' n' c') ∧ w'.cell? ⟨b3, 1, none⟩ = some (.slice B' m' d'))
    (first | (with_reducible exact s0) | (with_reducible exact s8) | (with_reducible exact s9) | go_keep)
    (first
      | (go_at_call 13; (with_reducible refine (Same01B_calls A6 na c6 A7 nb c7 aa bs w7.drew hd6.out hd7.out).mono ?_); rintro e w8 ⟨rfl, hb8⟩; rw [hsm.out]; (have s8 : w8.cell? ⟨b2, 0, none⟩ = some (.slice A n c) ∧ w8.cell? ⟨b2, 1, none⟩ = some (.slice B m d) ∧ w8.cell? ⟨b3, 0, none⟩ = some (.slice A' n' c') ∧ w8.cell? ⟨b3, 1, none⟩ = some (.slice B' m' d') := ⟨pw_cell_below hb8 s0.1, pw_cell_below hb8 s0.2.1, pw_cell_below hb8 s0.2.2.1, pw_cell_below hb8 s0.2.2.2⟩); (have hB9 := Aside0.mk (hB8.out.trans (hb8.mono hB8.out.size))); clear hb8)
      | (go_at_call 17; (with_reducible refine (ksm.out w8 (Kd.C_below hG.out hB9.out) hc (Kd.C_below hTT.out hB9.out) hd (Kd.C_below hG'.out hB9.out) hc' (Kd.C_below hTT'.out hB9.out) hd' hn1.out hm1.out).mono ?_); rintro e w9 ⟨rfl, hb9⟩; rw [hfs.out]; (have s9 : w9.cell? ⟨b2, 0, none⟩ = some (.slice A n c) ∧ w9.cell? ⟨b2, 1, none⟩ = some (.slice B m d) ∧ w9.cell? ⟨b3, 0, none⟩ = some (.slice A' n' c') ∧ w9.cell? ⟨b3, 1, none⟩ = some (.slice B' m' d') := ⟨pw_cell_below hb9 s8.1, pw_cell_below hb9 s8.2.1, pw_cell_below hb9 s8.2.2.1, pw_cell_below hb9 s8.2.2.2⟩); (have hB10 := Aside0.mk (hB9.out.trans (hb9.mono hB9.out.size))); clear hb9))) | fail)
  go_wp2_with fail
  go_ret
  exact ⟨by simp, hB10.out⟩
theorem inB_wf {l : List Int} (h : ∀ x ∈ l, (Lit.int .u8 x).wf = true) : inB l := by
  intro x hx
  have := h x hx
  simp [Lit.wf, IntKind.min, IntKind.max, IntKind.signed, IntKind.bits] at this
  omega
theorem ImageAgainI_calls (w : World) (hT : Tab w) (A : Option Addr) (n c : Nat) (b : List Int) (h : U8.C w A n b) (hc : n ≤ c) (hby : ∀ x ∈ b, (Lit.int .u8 x).wf = true) :
    Calls Tryz.prog 6 #[.slice A n c] w (OkPost w) := ImageAgain_calls w hT A n c b h hc (inB_wf hby)
end Go.Proofs.YtpnjhffnlafabaaGreatDoor.Im
