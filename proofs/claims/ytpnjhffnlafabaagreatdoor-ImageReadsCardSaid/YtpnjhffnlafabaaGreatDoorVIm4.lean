/- Pack of package parcel: sections as one image. -/
import Derived.Test.YtpnjhffnlafabaaGreatDoorVIm3
import Derived.Deep.RegionHeld3
namespace Go.Proofs.YtpnjhffnlafabaaGreatDoor.Im
set_option linter.unusedVariables false
set_option linter.unusedSimpArgs false
open Go.RowKit Go.Proofs.Bk Go.Proofs.Bm Go.Proofs.Kf Go.Proofs.YtpnjhffnlafabaaGreatDoorW.PrintWords Go.Proofs.YtpnjhffnlafabaaGreatDoor.Sl Go.Proofs.YtpnjhffnlafabaaGreatDoor.Sn Go.Proofs.YtpnjhffnlafabaaGreatDoor.PImageBack
def pmagic : List Int := [68, 80, 90, 49]
theorem pmagic_range : ∀ x ∈ pmagic, 0 ≤ x ∧ x ≤ 255 := by decide
def packHd (n : Nat) : List Int := pmagic ++ digs n 1
def packH2 (n : Nat) : List Int := packHd n ++ digs (crc (packHd n)) 4
def secB (x : SE) : List Int := digs x.f0 1 ++ digs x.f1.length 2 ++ digs (crc x.f1) 4
def packT (ss : List SE) : List Int := packH2 ss.length ++ (ss.map secB).flatten
def bodies (ss : List SE) : List Int := (ss.map (·.f1)).flatten
def packB (ss : List SE) : List Int := packT ss ++ digs (crc (packT ss)) 4 ++ bodies ss
def packOf (ss : List SE) : Int × List Int :=
  if 16 < ss.length then (7, []) else if risingL 0 (ss.map (·.f0)) = false then (21, []) else if ss.any longE = true then (22, []) else (0, packB ss)
theorem rising_range : ∀ (l : List Int) (a : Int), risingL a l = true → ∀ k ∈ l, a < k ∧ k ≤ 255
  | [], _, _, k, h => by cases h
  | y :: l, a, h, k, hk => by
    simp only [risingL, Bool.and_eq_true, Bool.not_eq_true', Bool.or_eq_false_iff, decide_eq_false_iff_not] at h
    rcases List.mem_cons.1 hk with rfl | hk
    · omega
    · have := rising_range l y h.2 k hk; omega
def inB (l : List Int) : Prop := ∀ x ∈ l, 0 ≤ x ∧ x ≤ 255
theorem inB_app {a b : List Int} (h : inB a) (k : inB b) : inB (a ++ b) := fun x hx => (List.mem_append.1 hx).elim (h x) (k x)
theorem inB_digs (n : Int) (k : Nat) : inB (digs n k) := digs_range k n
theorem inB_hd (n : Nat) : inB (packHd n) := inB_app pmagic_range (inB_digs _ _)
theorem inB_h2 (n : Nat) : inB (packH2 n) := inB_app (inB_hd n) (inB_digs _ _)
theorem secB_len (x : SE) : (secB x).length = 7 := by simp [secB, digs_length]
theorem secs_len : ∀ ss : List SE, ((ss.map secB).flatten).length = 7 * ss.length
  | [] => rfl
  | x :: ss => by rw [List.map_cons, List.flatten_cons, List.length_append, secB_len, secs_len ss, List.length_cons]; omega
theorem inB_secs (ss : List SE) : inB ((ss.map secB).flatten) := by
  intro x hx
  obtain ⟨l, hl, hx⟩ := List.mem_flatten.1 hx
  obtain ⟨s, _, rfl⟩ := List.mem_map.1 hl
  exact inB_app (inB_app (inB_digs _ _) (inB_digs _ _)) (inB_digs _ _) x hx
theorem lit_magic (w : World) : Lit (w.alloc (.cells #[.int .u8 68, .int .u8 80, .int .u8 90, .int .u8 49] 5 (4, 5))) (.slice (some ⟨w.heap.size, 0, none⟩) 4 4) pmagic := by
  refine ⟨_, rfl, fun j u hj => ?_⟩
  rw [addAt, cell_row (heap_alloc_same w _)]
  rcases j with _ | _ | _ | _ | j
  all_goals simp [byt, pmagic] at hj
  all_goals subst hj; rfl
def Apart (u v : Value) : Prop := ∀ q, u.ownBlock = some q → v.ownBlock ≠ some q
theorem Byts.keep {w w' : World} {base : Nat} {u v v' : Value} {ys : List Int} (h : Byts w base u ys) (g : Grew w v w' v') (hne : Apart u v) : Byts w' base u ys := by
  have h1 := Kd.R_tight (d := U8) rfl h
  exact Kd.R_mono (Kd.R_step h1 (fun k hk hlt => g.blk k hlt (fun e => hne k hk.symm e.symm))) (fun _ _ => trivial)
theorem Byts.lt {w : World} {base : Nat} {u : Value} {ys : List Int} (h : Byts w base u ys) : ∀ q, u.ownBlock = some q → q < w.heap.size := Kd.R_lt h
theorem Apart.grew {w w' : World} {base : Nat} {u v v' : Value} {ys : List Int} (ha : Apart u v) (h : Byts w base u ys) (g : Grew w v w' v') : Apart u v' := by
  intro q hq e
  rcases g.own with e1 | ⟨b, e1, hb⟩
  · rw [e1] at e; exact ha q hq e
  · rw [e1] at e; injection e with e; have := h.lt q hq; omega
theorem Apart.symm {u v : Value} (h : Apart u v) : Apart v u := fun q hq e => h q e hq
theorem Apart.none_ (v : Value) : Apart (.slice none 0 0) v := fun q hq => by simp [Value.ownBlock] at hq
theorem Grew.cell {w w' : World} {v v' : Value} (g : Grew w v w' v') {ad : Addr} {x : Value} (h : w.cell? ad = some x) (hn : some ad.block ≠ v.ownBlock) : w'.cell? ad = some x :=
  (World.cell?_of_block (w := w) (w' := w') (g.blk _ (World.block_lt_of_cell? w _ h) hn)).trans h
def PackPost (ss : List SE) (w : World) (e : Ending) (w' : World) : Prop :=
  ∃ (v : Value) (er : Int) (bs : List Int), e = .returned (.tuple #[v, .int .i64 er]) ∧ Byts w' w.heap.size v bs ∧ Below w.heap.size w w' ∧ (er, bs) = packOf ss
theorem PackPost.odd {ss : List SE} {w w' : World} {er : Int} (h : packOf ss = (er, [])) (hb : Below w.heap.size w w') : PackPost ss w (.returned (.tuple #[.slice none 0 0, .int .i64 er])) w' :=
  ⟨_, er, [], rfl, Kd.R_nil _ _ _ _ _, hb, h.symm⟩
set_option maxHeartbeats 8000000 in
set_option maxRecDepth 100000 in
theorem Pack_calls (A : Option Addr) (n c : Nat) (ss : List SE) (w : World) (hT : Tab w) (h : kE.C w A n ss) (hby : ∀ s ∈ ss, inB s.f1) :
    Calls Tryz.prog 18 #[.slice A n c] w (PackPost ss w) := by
  have hln := h.1
  have hn63 := h.2.1
  have HE := Aside0.mk h
  have HT := Aside0.mk hT
  clear h hT
  replace hln := Aside0.mk hln; replace hby := Aside0.mk hby
  by_cases h16 : 16 < n
  · have hp : Aside0 (packOf ss = (7, [])) := ⟨by unfold packOf; rw [if_pos (by rw [hln.out]; exact h16)]⟩
    have z1 : (16 : Int) < (n : Int) := by omega
    go_enter Tryz.func18, Tryz.ntmps18
    go_wp2_with fail
    go_ret2
    exact PackPost.odd hp.out (Below.refl _ _)
  have z1 : ¬ (16 : Int) < (n : Int) := by omega
  have hl16 : ¬ 16 < ss.length := by rw [hln.out]; exact h16
  obtain ⟨rs, hrs⟩ : ∃ rs, risingL 0 (ss.map (·.f0)) = rs := ⟨_, rfl⟩
  obtain ⟨lg, hlg⟩ : ∃ lg, ss.any longE = lg := ⟨_, rfl⟩
  have hp : packOf ss = if rs = false then (21, []) else if lg = true then (22, []) else (0, packB ss) := by unfold packOf; rw [if_neg hl16, hrs, hlg]
  have kr := rising_calls A n c ss w HE.out
  have kl := fun W (hW : Below w.heap.size w W) => ContainsE_calls A n c ss W (Kd.C_below HE.out hW)
  rw [hrs] at kr
  rw [hlg] at kl
  cases rs with
  | false =>
    rw [if_pos rfl] at hp
    replace hp := Aside0.mk hp; replace kr := Aside0.mk kr; replace kl := Aside0.mk kl; replace hrs := Aside0.mk hrs; replace hlg := Aside0.mk hlg
    go_enter Tryz.func18, Tryz.ntmps18
    go_wp2_with (go_at_call 34; (with_reducible refine kr.out.mono ?_); rintro e w1 ⟨rfl, hb1⟩; replace hb1 := Aside0.mk hb1)
    go_ret2
    exact PackPost.odd hp.out hb1.out
  | true =>
  rw [if_neg (by decide)] at hp
  cases lg with
  | true =>
    rw [if_pos rfl] at hp
    replace hp := Aside0.mk hp; replace kr := Aside0.mk kr; replace kl := Aside0.mk kl; replace hrs := Aside0.mk hrs; replace hlg := Aside0.mk hlg
    go_enter Tryz.func18, Tryz.ntmps18
    go_wp2_with (first
      | (go_at_call 34; (with_reducible refine kr.out.mono ?_); rintro e w1 ⟨rfl, hb1⟩; replace hb1 := Aside0.mk hb1)
      | (go_at_call 35; (with_reducible refine (kl.out _ hb1.out).mono ?_); rintro e w2 ⟨rfl, hb2⟩; have hB2 := Aside0.mk (hb1.out.trans (hb2.mono hb1.out.size)); clear hb2))
    go_ret2
    exact PackPost.odd hp.out hB2.out
  | false =>
  rw [if_neg (by decide)] at hp
  have hkr := rising_range _ _ hrs
  have hlong : ∀ s ∈ ss, s.f1.length ≤ 65535 := fun s hs => by
    have := List.any_eq_false.1 hlg s hs
    unfold longE at this
    simp at this
    exact this
  replace hp := Aside0.mk hp; replace kr := Aside0.mk kr; replace kl := Aside0.mk kl; replace hrs := Aside0.mk hrs; replace hlg := Aside0.mk hlg; replace hkr := Aside0.mk hkr; replace hlong := Aside0.mk hlong
  go_enter Tryz.func18, Tryz.ntmps18
  go_wp2_with (first
    | (go_at_call 34; (with_reducible refine kr.out.mono ?_); rintro e w1 ⟨rfl, hb1⟩; replace hb1 := Aside0.mk hb1)
    | (go_at_call 35; (with_reducible refine (kl.out _ hb1.out).mono ?_); rintro e w2 ⟨rfl, hb2⟩; have hB2 := Aside0.mk (hb1.out.trans (hb2.mono hb1.out.size)); clear hb2; have hcv : ∀ (n1 c1 : Nat), _ := fun n1 c1 => Go.Joins.run_convert_bytes_const_at (P := Tryz.prog) w2 28 5 #[.int .u8 68, .int .u8 80, .int .u8 90, .int .u8 49] n1 c1 w2.heap.size rfl Tryz.underlying28 Tryz.underlying5; change ∀ (n1 c1 : Nat), _ = Result.ok _ (World.alloc _ (.cells _ _ (4, 5))) at hcv))
  change Calls _ _ _ (w2.alloc (.cells #[.int .u8 68, .int .u8 80, .int .u8 90, .int .u8 49] 5 (4, 5))) _
  have hlitW := lit_magic w2
  have hb3 := below_alloc (Below.refl w2.heap.size w2) (.cells #[.int .u8 68, .int .u8 80, .int .u8 90, .int .u8 49] 5 (4, 5))
  have hB3 := hB2.out.trans (hb3.mono hB2.out.size)
  generalize w2.alloc (.cells #[.int .u8 68, .int .u8 80, .int .u8 90, .int .u8 49] 5 (4, 5)) = W3 at hlitW hB3 ⊢
  clear hb3 hcv
  with_reducible refine (Put2_calls w.heap.size _ pmagic n 1 1 W3 (.inr ⟨by decide, hlitW⟩) hB3.size (by decide) (by omega) (by decide) (by decide)).mono ?_
  rintro e w4 ⟨v4, rfl, r4, hb4, -⟩
  have hB4 := Aside0.mk (hB3.trans hb4)
  clear hb4 hB3 hlitW hB2 hb1
  obtain ⟨A4, c4, rfl, -, hC4⟩ := Kd.R_reads r4
  have hT4 := Aside0.mk (HT.out.step hB4.out)
  have hin4 : inB (packHd n) := inB_hd n
  obtain ⟨P1, hP1⟩ : ∃ P1, pmagic ++ digs n 1 = P1 := ⟨_, rfl⟩
  have hP1' : packHd n = P1 := hP1
  have lP1 : P1.length = 5 := by rw [← hP1]; simp [pmagic, digs_length]
  rw [hP1'] at hin4
  rw [hP1, lP1] at r4 hC4
  rw [hP1, lP1]
  obtain ⟨q0, q1⟩ := crc_range P1 hin4
  obtain ⟨ck1, hck1⟩ : ∃ ck, crc P1 = ck := ⟨_, rfl⟩
  have ko := Of_calls A4 5 c4 P1 w4 hT4.out hC4 hin4
  rw [hck1] at q0 q1 ko
  have hw1 : IntKind.u64.wrap ck1 = ck1 := by rw [IntKind.wrap_u64]; omega
  have r4' := Aside0.mk r4
  clear r4 hC4
  replace ko := Aside0.mk ko; replace hin4 := Aside0.mk hin4; replace hP1 := Aside0.mk hP1; replace hP1' := Aside0.mk hP1'; replace hck1 := Aside0.mk hck1
  go_wp2_with (go_at_call 38; (with_reducible refine ko.out.mono ?_); rintro e w' ⟨rfl, hw'⟩; subst hw')
  with_reducible refine (Put2_calls w.heap.size _ P1 ck1 4 4 _ (.inl r4'.out) hB4.out.size (by rw [lP1]; decide) q0 (by decide) (by decide)).mono ?_
  rintro e w5 ⟨v5, rfl, r5, hb5, -⟩
  have hB5 := Aside0.mk (hB4.out.trans hb5)
  have hH2 : packH2 n = P1 ++ digs ck1 4 := by unfold packH2; rw [hP1'.out, hck1.out]
  rw [← hH2] at r5
  clear hb5 r4' hB4 hH2 ko q0 q1 hw1 hT4 hin4 lP1 hP1 hP1' hck1
  replace r5 := Aside0.mk r5
  go_wp2_with fail
  go_loopw [4, 5, 32] (fun ov bv iv wr => ∃ k : Nat, iv = .int .i64 k ∧ k ≤ n ∧ Aside0 (Byts wr w.heap.size ov (packH2 n ++ ((ss.take k).map secB).flatten)) ∧ Aside0 (Byts wr w.heap.size bv (bodies (ss.take k))) ∧ Aside0 (Apart bv ov) ∧ Aside0 (Below w.heap.size w wr)) (fun _ _ iv _ => n - (intOf iv).toNat)
  case atStart => exact ⟨0, rfl, Nat.zero_le _, ⟨by simpa using r5.out⟩, ⟨Kd.R_nil _ _ _ _ _⟩, ⟨Apart.none_ _⟩, hB5⟩
  case round =>
    clear r5 hB5
    obtain ⟨k, rfl, hk, hO, hBo, hap, hb⟩ := hrel
    by_cases hlt : k < n
    · have p1 : 0 ≤ (k : Int) := by omega
      have q1 : (k : Int) < (n : Int) := by omega
      have hEW : ∀ W, Below w.heap.size w W → ∃ b o x A1 c1, A = some ⟨b, o, none⟩ ∧ b < W.heap.size ∧ ss[k]? = some x ∧ W.cell? ⟨b, o + k * 2, none⟩ = some (.int .i64 x.f0) ∧ W.cell? ⟨b, o + k * 2 + 1, none⟩ = some (.slice A1 x.f1.length c1) ∧ x.f1.length ≤ c1 ∧ U8.C W A1 x.f1.length x.f1 := fun W hW => E_one (Kd.C_below HE.out hW) hlt
      obtain ⟨b, o, x, A1, c1, rfl, -, hx, t0, t1, -, hbod⟩ := E_one HE.out hlt
      have t0 := pw_cell_below hb.out t0
      have t1 := pw_cell_below hb.out t1
      have hm := List.mem_of_getElem? hx
      obtain ⟨k1, k2⟩ := hkr.out x.f0 (List.mem_map.2 ⟨x, hm, rfl⟩)
      have kl2 := hlong.out x hm
      have hbx := hby.out x hm
      obtain ⟨L, hL⟩ : ∃ L, x.f1.length = L := ⟨_, rfl⟩
      rw [hL] at t1 hbod kl2
      have hw1 : IntKind.u64.wrap x.f0 = x.f0 := by rw [IntKind.wrap_u64]; omega
      have hw2 : IntKind.u64.wrap (L : Int) = (L : Int) := by rw [IntKind.wrap_u64]; omega
      obtain ⟨P, hP⟩ : ∃ P, packH2 n ++ ((ss.take k).map secB).flatten = P := ⟨_, rfl⟩
      have hPl : P.length ≤ 200 := by
        rw [← hP, List.length_append, secs_len]
        have h1 := List.length_take_le k ss
        simp [packH2, packHd, pmagic, digs_length]; omega
      have hPx : packH2 n ++ ((ss.take (k + 1)).map secB).flatten = P ++ digs x.f0 1 ++ digs L 2 ++ digs (crc x.f1) 4 := by
        rw [List.take_add_one, hx, ← hP, ← hL]; simp [secB]
      have hBx : bodies (ss.take (k + 1)) = bodies (ss.take k) ++ x.f1 := by unfold bodies; rw [List.take_add_one, hx]; simp
      have hBl : (bodies (ss.take k)).length ≤ 65535 * 16 := by
        have h1 : ∀ l : List SE, (∀ s ∈ l, s.f1.length ≤ 65535) → (bodies l).length ≤ 65535 * l.length := by
          intro l
          induction l with
          | nil => intro _; simp [bodies]
          | cons y l ih =>
            intro h
            have h2 := ih fun s hs => h s (by simp [hs])
            have h3 := h y (by simp)
            unfold bodies at h2 ⊢
            rw [List.map_cons, List.flatten_cons, List.length_append, List.length_cons]
            omega
        have h2 := h1 (ss.take k) fun s hs => hlong.out s (List.mem_of_mem_take hs)
        have h3 := List.length_take_le k ss
        have h4 := Nat.mul_le_mul_left 65535 (show (ss.take k).length ≤ 16 by rw [List.length_take]; omega)
        omega
      rw [hP] at hO
      obtain ⟨Bd, hBd⟩ : ∃ Bd, bodies (ss.take k) = Bd := ⟨_, rfl⟩
      rw [hBd] at hBo hBx hBl
      obtain ⟨ckx, hckx⟩ : ∃ ck, crc x.f1 = ck := ⟨_, rfl⟩
      obtain ⟨q2, q3⟩ := crc_range x.f1 hbx
      rw [hckx] at q2 q3 hPx
      have hw3 : IntKind.u64.wrap ckx = ckx := by rw [IntKind.wrap_u64]; omega
      replace hx := Aside0.mk hx; replace hm := Aside0.mk hm; replace hL := Aside0.mk hL; replace hP := Aside0.mk hP; replace hPl := Aside0.mk hPl; replace hPx := Aside0.mk hPx; replace hBx := Aside0.mk hBx; replace hBl := Aside0.mk hBl; replace hBd := Aside0.mk hBd; replace hbod := Aside0.mk hbod; replace hbx := Aside0.mk hbx; replace hckx := Aside0.mk hckx; replace hEW := Aside0.mk hEW
      go_wp2_with (first
        | (((with_reducible refine gate_dst (N := 7) rfl ?_); refine box_event ?hg (N := 7) ?hd (cs := #[.int .i64 0, .slice none 0 0]) (t := 36) ?hr ?_; (case hd => rfl); (case hg => rfl); (case hr => first | (go_simp; done) | (go_simp; rfl)); intro gb hgb w6 kgb bgb; replace hgb := Aside0.mk hgb; replace kgb := Aside0.mk kgb; replace bgb := Aside0.mk bgb))
        | (((with_reducible refine gate_op (.store 36 (.tmp 7) (.tmp 35)) rfl ?_); refine wpList_store_midB rfl _ _ _ rfl gb 0 [.int .i64 x.f0, .slice A1 L c1] rfl rfl 36 [.int .i64 0, .slice none 0 0] kgb.out szE2 (Nat.le_refl _) oneE2 ?_; obtain ⟨kk, bb⟩ := boxed (cs := [.int .i64 0, .slice none 0 0]) (cs2 := [.int .i64 x.f0, .slice A1 L c1]) hgb.out kgb.out bgb.out rfl; revert kk bb; generalize World.setRow _ gb (splice [.int .i64 0, .slice none 0 0] 0 [.int .i64 x.f0, .slice A1 L c1]).toArray = w7; clear kgb bgb; intro kgb bgb; replace kgb := Aside0.mk kgb; replace bgb := Aside0.mk bgb); (have g0 := (cell_row kgb.out 0).trans (rfl : _ = some (Value.int .i64 x.f0))); (have g1 := (cell_row kgb.out 1).trans (rfl : _ = some (Value.slice A1 L c1)))))
      have hb7 := Aside0.mk (hb.out.trans (bgb.out.mono hb.out.size))
      have hO7 : Byts w7.drew w.heap.size u4 P := Kd.R_drew (Kd.R_below hO.out bgb.out)
      have hBo7 : Byts w7.drew w.heap.size u5 Bd := Kd.R_drew (Kd.R_below hBo.out bgb.out)
      have hn4 : some gb ≠ u4.ownBlock := fun e => by have := hO.out.lt gb e.symm; rw [hgb.out] at this; omega
      clear kgb bgb hO hBo t0 t1
      have kp := Put2_calls w.heap.size u4 P x.f0 1 1 w7.drew (.inl hO7) hb7.out.drew.size (by have := hPl.out; omega) (by omega) (by decide) (by decide)
      replace hO7 := Aside0.mk hO7; replace hBo7 := Aside0.mk hBo7; replace hn4 := Aside0.mk hn4; replace kp := Aside0.mk kp
      (first | (go_region_held3 (fun w' => w'.cell? ⟨gb, 0, none⟩ = some (.int .i64 x.f0) ∧ w'.cell? ⟨gb, 1, none⟩ = some (.slice A1 L c1))
        (first | (with_reducible exact ⟨g0, g1⟩) | (with_reducible exact s8) | (with_reducible exact s9) | go_keep)
        (first
          | (go_at_call 37; (with_reducible refine kp.out.mono ?_); rintro e w8 ⟨v8, rfl, r8, hb8, hg8⟩; have s8 : w8.cell? ⟨gb, 0, none⟩ = some (.int .i64 x.f0) ∧ w8.cell? ⟨gb, 1, none⟩ = some (.slice A1 L c1) := ⟨hg8.cell (show w7.drew.cell? _ = _ from g0) hn4.out, hg8.cell (show w7.drew.cell? _ = _ from g1) hn4.out⟩; have kp2 := Put2_calls w.heap.size v8 (P ++ digs x.f0 1) L 2 2 w8 (.inl r8) (hb7.out.drew.trans hb8).size (by rw [List.length_append, digs_length]; have := hPl.out; omega) (by omega) (by decide) (by decide); have hB8 := hb7.out.drew.trans hb8; clear hb8; replace r8 := Aside0.mk r8; replace hg8 := Aside0.mk hg8; replace kp2 := Aside0.mk kp2; replace hB8 := Aside0.mk hB8)
          | (go_at_call 37; (with_reducible refine kp2.out.mono ?_); rintro e w9 ⟨v9, rfl, r9, hb9, hg9⟩; have hg79 := hg8.out.trans hg9; have s9 : w9.cell? ⟨gb, 0, none⟩ = some (.int .i64 x.f0) ∧ w9.cell? ⟨gb, 1, none⟩ = some (.slice A1 L c1) := ⟨hg79.cell (show w7.drew.cell? _ = _ from g0) hn4.out, hg79.cell (show w7.drew.cell? _ = _ from g1) hn4.out⟩; have hB9 := hB8.out.trans hb9; clear hb9 hg9; replace r9 := Aside0.mk r9; replace hg79 := Aside0.mk hg79; replace hB9 := Aside0.mk hB9))) | fail)
      obtain ⟨s90, s91⟩ := s9
      have ko := Of_calls A1 L c1 x.f1 w9 (HT.out.step hB9.out) (Kd.C_below hbod.out hB9.out) hbx.out
      rw [hckx.out] at ko
      replace ko := Aside0.mk ko
      go_wp2_with (go_at_call 38; (with_reducible refine ko.out.mono ?_); rintro e w' ⟨rfl, hw'⟩; subst hw')
      with_reducible refine (Put2_calls w.heap.size v9 (P ++ digs x.f0 1 ++ digs L 2) ckx 4 4 w9 (.inl r9.out) hB9.out.size (by rw [List.length_append, List.length_append, digs_length, digs_length]; have := hPl.out; omega) q2 (by decide) (by decide)).mono ?_
      rintro e w10 ⟨v10, rfl, r10, hb10, hg10⟩
      have hB10 := hB9.out.trans hb10
      have hgx := hg79.out.trans hg10
      have s10 : w10.cell? ⟨gb, 1, none⟩ = some (.slice A1 L c1) := hg10.cell s91 (by
        rcases hg79.out.own with e1 | ⟨q, e1, hq⟩
        · rw [e1]; exact hn4.out
        · rw [e1]; intro e2; injection e2 with e2; have h9 := World.block_lt_of_cell? w7 _ g1; have h8 : w7.heap.size ≤ q := hq; omega)
      have hBo10 := hBo7.out.keep hgx hap.out
      have hap10 := hap.out.grew hBo7.out hgx
      have hC10 := Kd.C_below hbod.out hB10
      have hl8 : (Bd.length + L) * 1 ≤ 140737488355328 := by have := hBl.out; omega
      rw [← hPx.out] at r10
      clear hb10 hg10 r9 hg79 hO7 hBo7 kp s90 s91
      replace hB10 := Aside0.mk hB10; replace hgx := Aside0.mk hgx; replace hBo10 := Aside0.mk hBo10; replace hap10 := Aside0.mk hap10; replace hC10 := Aside0.mk hC10; replace hl8 := Aside0.mk hl8; replace r10 := Aside0.mk r10
      go_wp2_with ((with_reducible refine gate_builtin (b := .append) (xs := #[.tmp 52, .tmp 54]) rfl ?_); at_builtin; refine Kd.R_append_rows U8 (w0 := w) w.heap.size rfl (.tmp 52) (.tmp 54) 28 5 (.int .u8 0) 1 rfl Tryz.underlying28 info_u8 rfl (by decide) (by decide) u5 Bd x.f1 A1 L c1 (fun _ => True) (fun _ => False) rfl rfl hBo10.out hC10.out (fun _ _ h => h) (fun _ hk => hk.elim) (fun _ _ => trivial) hB10.out hB10.out.size hl8.out ?_; intro v11 w11 r11 hb11 hg11 hat11; have gw := Grew.of hg11 hat11; have r10' := Aside0.mk (r10.out.keep gw hap10.out.symm); have hap11 := Aside0.mk (hap10.out.symm.grew r10.out gw).symm; replace r11 := Aside0.mk r11; replace hb11 := Aside0.mk hb11; clear hg11 hat11 gw)
      go_roundw
      case rel => exact ⟨k + 1, by simp, by omega, r10', ⟨by rw [hBx.out]; exact r11.out⟩, hap11, hb11⟩
      case measure => show n - ((k : Int) + 1).toNat < n - (k : Int).toNat; omega
    · obtain rfl : n = k := by omega
      have e0 : ss.take n = ss := List.take_of_length_le (by rw [hln.out]; exact Nat.le_refl _)
      have hPT : packH2 n ++ (ss.map secB).flatten = packT ss := by unfold packT; rw [hln.out]
      rw [e0] at hO hBo
      rw [hPT] at hO
      have hin : inB (packT ss) := inB_app (inB_h2 _) (inB_secs ss)
      have hPl : (packT ss).length ≤ 200 := by
        unfold packT
        rw [List.length_append, secs_len]
        simp [packH2, packHd, pmagic, digs_length]; omega
      obtain ⟨P, hP⟩ : ∃ P, packT ss = P := ⟨_, rfl⟩
      have hpk : packB ss = P ++ digs (crc P) 4 ++ bodies ss := by unfold packB; rw [hP]
      rw [hP] at hO hin hPl
      obtain ⟨q2, q3⟩ := crc_range P hin
      obtain ⟨ckx, hckx⟩ : ∃ ck, crc P = ck := ⟨_, rfl⟩
      rw [hckx] at q2 q3 hpk
      have hw3 : IntKind.u64.wrap ckx = ckx := by rw [IntKind.wrap_u64]; omega
      obtain ⟨A9, c9, e9, -, hC9⟩ := Kd.R_reads hO.out
      have ko := Of_calls A9 P.length c9 P wr (HT.out.step hb.out) hC9 hin
      rw [hckx] at ko
      have hBl : (bodies ss).length ≤ 65535 * 16 := by
        have h1 : ∀ l : List SE, (∀ s ∈ l, s.f1.length ≤ 65535) → (bodies l).length ≤ 65535 * l.length := by
          intro l
          induction l with
          | nil => intro _; simp [bodies]
          | cons y l ih =>
            intro h
            have h2 := ih fun s hs => h s (by simp [hs])
            have h3 := h y (by simp)
            unfold bodies at h2 ⊢
            rw [List.map_cons, List.flatten_cons, List.length_append, List.length_cons]
            omega
        have h2 := h1 ss hlong.out
        have h4 := Nat.mul_le_mul_left 65535 (show ss.length ≤ 16 by omega)
        omega
      obtain ⟨lP, hlP⟩ : ∃ lP, P.length = lP := ⟨_, rfl⟩
      rw [hlP] at e9 ko hPl
      subst e9
      clear hC9 hkr
      replace ko := Aside0.mk ko; replace hin := Aside0.mk hin; replace hP := Aside0.mk hP; replace hpk := Aside0.mk hpk; replace hckx := Aside0.mk hckx; replace hlP := Aside0.mk hlP; replace hBl := Aside0.mk hBl
      go_wp2_with (go_at_call 38; (with_reducible refine ko.out.mono ?_); rintro e w' ⟨rfl, hw'⟩; subst hw')
      with_reducible refine (Put2_calls w.heap.size (.slice A9 lP c9) P ckx 4 4 wr (.inl hO.out) hb.out.size (by rw [hlP.out]; omega) q2 (by decide) (by decide)).mono ?_
      rintro e w10 ⟨v10, rfl, r10, hb10, hg10⟩
      have hB10 := hb.out.trans hb10
      have hBo10 := hBo.out.keep hg10 hap.out
      obtain ⟨A8, c8, rfl, -, hC8⟩ := Kd.R_reads hBo10
      obtain ⟨lB, hlB⟩ : ∃ lB, (bodies ss).length = lB := ⟨_, rfl⟩
      rw [hlB] at hC8 ⊢
      have hl8 : ((P ++ digs ckx 4).length + lB) * 1 ≤ 140737488355328 := by
        rw [List.length_append, digs_length, hlP.out]; have := hBl.out; omega
      clear hb10 hg10 hBo10 hap hBo hO
      replace hB10 := Aside0.mk hB10; replace r10 := Aside0.mk r10; replace hC8 := Aside0.mk hC8; replace hl8 := Aside0.mk hl8
      go_wp2_with ((with_reducible refine gate_builtin (b := .append) (xs := #[.tmp 61, .tmp 62]) rfl ?_); at_builtin; refine Kd.R_append_rows U8 (w0 := w) w.heap.size rfl (.tmp 61) (.tmp 62) 28 5 (.int .u8 0) 1 rfl Tryz.underlying28 info_u8 rfl (by decide) (by decide) v10 (P ++ digs ckx 4) (bodies ss) A8 lB c8 (fun _ => True) (fun _ => False) rfl rfl r10.out hC8.out (fun _ _ h => h) (fun _ hk => hk.elim) (fun _ _ => trivial) hB10.out hB10.out.size hl8.out ?_; intro v11 w11 r11 hb11 hg11 hat11; replace r11 := Aside0.mk r11; replace hb11 := Aside0.mk hb11; clear hg11 hat11)
      go_ret2
      exact ⟨v11, 0, packB ss, rfl, by rw [hpk.out]; exact r11.out, hb11.out, hp.out.symm⟩
end Go.Proofs.YtpnjhffnlafabaaGreatDoor.Im
