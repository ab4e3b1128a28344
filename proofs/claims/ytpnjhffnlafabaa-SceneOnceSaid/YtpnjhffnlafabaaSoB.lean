/- SceneOnce: whatever order a scene stood in, it is one in order; what is in order stays as it is. -/
import Derived.Test.YtpnjhffnlafabaaSoA
import Derived.Test.YtpnjhffnlafabaaScUs
import Derived.Deep.RegionHeld
namespace Go.Proofs.Ytpnjhffnlafabaa.Sn
set_option linter.unusedVariables false
set_option linter.unusedSimpArgs false
open Go.RowKit Go.Sort Go.Shelf Go.Lib Go.Proofs.Bk Go.Proofs.Bm Go.Proofs.Op Go.Proofs.Sc Go.Proofs.Kf Go.Proofs.YtpnjhffnlafabaaW.PrintWords Go.Proofs.Ytpnjhffnlafabaa.PSceneOrders Go.Proofs.Ytpnjhffnlafabaa.St

theorem once_all {xs : List SG} {ts : List ST} (F : Fine (xs.map gOf) (ts.map tOf)) (b : Nat) :
    Tree ((rotG xs b).map gOf) ∧ wholeOf ((rotG xs b).map gOf) = true ∧ ((rot ts b).map (·.f0)).Nodup ∧ underOf ((rotG xs b).map gOf) = xs.map gOf ∧ sortT ((rot ts b).map tOf) = ts.map tOf ∧
      checkOf ((rotG xs b).map gOf) ((rot ts b).map tOf) = if rotG xs b = xs ∧ rot ts b = ts then 0 else 5 := by
  have hT : (ts.map tOf).Perm ((rot ts b).map tOf) := (rot_perm ts b).map tOf
  cases xs with
  | nil => exact absurd rfl F.ne
  | cons x xs =>
    have hG : (xs.map gOf).Perm ((rot xs b).map gOf) := (rot_perm xs b).map gOf
    have F' : Fine (gOf x :: xs.map gOf) (ts.map tOf) := F
    obtain ⟨o1, -, o3⟩ := once_law F' hG hT
    have hw : wholeOf (gOf x :: (rot xs b).map gOf) = true := by rw [whole_perm hG F'.ndg]; exact F'.wh
    have hnd : (gids (gOf x :: (rot xs b).map gOf)).Nodup := ((hG.cons (gOf x)).map G.id).nodup_iff.1 F'.ndg
    have hod : (gOf x :: (rot xs b).map gOf).any oddG = false := by
      rw [List.any_eq_false]
      intro g hg
      have := F'.og g ((hG.cons (gOf x)).mem_iff.2 hg)
      rw [this]; decide
    have ho : (underOf (gOf x :: (rot xs b).map gOf), sortT ((rot ts b).map tOf)) = (gOf x :: xs.map gOf, ts.map tOf) := by
      rw [← o1]; unfold orderOf; rw [if_pos hw]
    have hnt : ((rot ts b).map (·.f0)).Nodup := by
      have h1 : ((ts.map tOf).map T.id).Nodup := F'.ndt
      have h2 := (hT.map T.id).nodup_iff.1 h1
      rw [List.map_map] at h2; exact h2
    refine ⟨tree_of hnd hod hw, hw, hnt, congrArg Prod.fst ho, congrArg Prod.snd ho, ?_⟩
    show checkOf (gOf x :: (rot xs b).map gOf) ((rot ts b).map tOf) = _
    rw [o3]
    have e1 : ((rot xs b).map gOf = xs.map gOf ∧ (rot ts b).map tOf = ts.map tOf) ↔ (rotG (x :: xs) b = x :: xs ∧ rot ts b = ts) := by
      constructor
      · rintro ⟨h1, h2⟩
        exact ⟨congrArg (x :: ·) (map_inj (fun _ _ => gOf_inj.1) h1), map_inj (fun _ _ => tOf_inj.1) h2⟩
      · rintro ⟨h1, h2⟩
        have h3 : rot xs b = xs := (List.cons.inj h1).2
        rw [h3, h2]; exact ⟨rfl, rfl⟩
    by_cases h : (rot xs b).map gOf = xs.map gOf ∧ (rot ts b).map tOf = ts.map tOf
    · rw [if_pos h, if_pos (e1.1 h)]
    · rw [if_neg h, if_neg (fun h' => h (e1.2 h'))]
theorem rotG_ok {xs : List SG} {b : Nat} (ho : ∀ x ∈ xs, okG x) : ∀ x ∈ rotG xs b, okG x := by
  intro x hx
  cases xs with
  | nil => cases hx
  | cons y ys =>
    simp [rotG] at hx
    rcases hx with rfl | hx
    · exact ho _ (by simp)
    · exact ho _ (by simp [(rot_perm ys b).mem_iff.2 hx])

set_option maxHeartbeats 8000000 in
set_option maxRecDepth 100000 in
theorem SceneOnce_calls (w : World) (A : Option Addr) (n c : Nat) (xs : List SG) (B : Option Addr) (m d : Nat) (ts : List ST) (hG : kG.C w A n xs) (hc : n ≤ c) (hT : kT.C w B m ts) (hd : m ≤ d) (hB : ∀ ad, B = some ad → ad.spot = none) (ho : ∀ x ∈ xs, okG x) (a1 : Int) (w1 : (Lit.int .u8 a1).wf = true) :
    Calls Try.prog 4 #[.agg #[.slice A n c, .slice B m d], .int .u8 a1] w (OkPost w) := by
  obtain ⟨by_, rfl, hby⟩ : ∃ b : Nat, a1 = (b : Int) ∧ b ≤ 255 := by
    simp [Lit.wf, IntKind.min, IntKind.max, IntKind.signed, IntKind.bits] at w1
    exact ⟨a1.toNat, by omega, by omega⟩
  clear w1
  have hln := hG.1
  have hlm := hT.1
  have HG := Aside0.mk hG
  have HT := Aside0.mk hT
  clear hG hT
  replace hln := Aside0.mk hln; replace hlm := Aside0.mk hlm; replace hc := Aside0.mk hc; replace hd := Aside0.mk hd; replace hB := Aside0.mk hB; replace ho := Aside0.mk ho
  go_enter Try.func4, Try.ntmps4
  go_wp2_with (first
    | (((with_reducible refine gate_dst (N := 2) rfl ?_); refine box_event ?hg (N := 2) ?hd (cs := #[.slice A n c, .slice B m d]) (t := 25) ?hr ?_; (case hd => rfl); (case hg => rfl); (case hr => first | (go_simp; done) | (go_simp; rfl)); intro b0 hb0 w1 kb0 bb0; replace hb0 := Aside0.mk hb0; replace kb0 := Aside0.mk kb0; replace bb0 := Aside0.mk bb0); have k0 := Aside0.mk kb0.out; have c0 := (Kf.cell_row kb0.out 0).trans (rfl : _ = some (Value.slice A n c)); have c1 := (Kf.cell_row kb0.out 1).trans (rfl : _ = some (Value.slice B m d))))
  with_reducible refine (awake_calls w1).mono ?_
  rintro e w2 ⟨rfl, hb2⟩
  have hB2 := bb0.out.trans (hb2.mono bb0.out.size)
  replace c0 := pw_cell_below hb2 c0
  replace c1 := pw_cell_below hb2 c1
  replace k0 := Aside0.mk (row_below hb2 k0.out)
  clear hb2 kb0 bb0
  replace hB2 := Aside0.mk hB2
  go_wp2_with (first
    | ((with_reducible refine gate_op (.load 25 (.tmp 2)) rfl ?_); refine wpList_load_midB rfl _ _ rfl ⟨b0, 0, none⟩ rfl [.slice A n c, .slice B m d] _ (two_cells c0 c1) Try.underlying25 rfl info_S ?_))
  with_reducible refine (few_calls A n c xs B m d ts w2 (Kd.C_below HG.out hB2.out) hc.out (Kd.C_below HT.out hB2.out) hd.out).mono ?_
  rintro e w3 ⟨rfl, hb3⟩
  have hB3 := Aside0.mk (hB2.out.trans (hb3.mono hB2.out.size))
  replace c0 := pw_cell_below hb3 c0
  replace c1 := pw_cell_below hb3 c1
  replace k0 := Aside0.mk (row_below hb3 k0.out)
  clear hb3 hB2
  obtain ⟨few, hfew⟩ : ∃ few, decide (n ≤ 30 ∧ m ≤ 30) = few := ⟨_, rfl⟩
  rw [hfew]
  go_wp2_with (first
    | ((with_reducible refine gate_op (.load 25 (.tmp 2)) rfl ?_); refine wpList_load_midB rfl _ _ rfl ⟨b0, 0, none⟩ rfl [.slice A n c, .slice B m d] _ (two_cells c0 c1) Try.underlying25 rfl info_S ?_))
  with_reducible refine (Check_calls A n c xs B m d ts w3 (Kd.C_below HG.out hB3.out) hc.out (Kd.C_below HT.out hB3.out) hd.out hB.out ho.out).mono ?_
  rintro e w4 ⟨rfl, hb4⟩
  have hB4 := Aside0.mk (hB3.out.trans (hb4.mono hB3.out.size))
  replace c0 := pw_cell_below hb4 c0
  replace c1 := pw_cell_below hb4 c1
  replace k0 := Aside0.mk (row_below hb4 k0.out)
  clear hb4 hB3
  obtain ⟨ck, hck⟩ : ∃ ck, checkOf (xs.map gOf) (ts.map tOf) = ck := ⟨_, rfl⟩
  rw [hck]
  cases few with
  | false =>
    clear hfew hck
    go_wp2_with fail
    go_ret
    exact ⟨rfl, hB4.out⟩
  | true =>
    by_cases hz : ck = 0
    · subst hz
      have F := (fine_iff _ _).1 hck
      have hnm := of_decide_eq_true hfew
      have hn0 : 0 < n := by
        have := F.ne
        rcases Nat.eq_zero_or_pos n with h | h
        · exfalso; apply this
          have h2 := hln.out
          rw [h] at h2
          rw [List.length_eq_zero_iff.1 h2]; rfl
        · exact h
      obtain ⟨hn30, hm30⟩ := hnm
      clear hfew hck hn0
      obtain ⟨o1, o2, o3, o4, o5, o6⟩ := once_all F by_
      obtain ⟨f, hf⟩ : ∃ f, checkOf ((rotG xs by_).map gOf) ((rot ts by_).map tOf) = f := ⟨_, rfl⟩
      rw [hf] at o6
      obtain ⟨n', hn'⟩ : ∃ n', (rotG xs by_).length = n' := ⟨_, rfl⟩
      obtain ⟨m', hm'⟩ : ∃ m', (rot ts by_).length = m' := ⟨_, rfl⟩
      have hnn : n' = n := by rw [← hn', rotG_len, hln.out]
      have hmm : m' = m := by rw [← hm', rot_len, hlm.out]
      have hsh := shuffled_calls w4 A n c xs B m d ts (Kd.C_below HG.out hB4.out) (Kd.C_below HT.out hB4.out) hn30 hm30 by_ hby
      replace F := Aside0.mk F; replace o1 := Aside0.mk o1; replace o2 := Aside0.mk o2; replace o3 := Aside0.mk o3; replace o4 := Aside0.mk o4; replace o5 := Aside0.mk o5; replace o6 := Aside0.mk o6; replace hf := Aside0.mk hf; replace hn' := Aside0.mk hn'; replace hm' := Aside0.mk hm'; replace hsh := Aside0.mk hsh; replace hnn := Aside0.mk hnn; replace hmm := Aside0.mk hmm
      go_wp2_with (first
        | ((with_reducible refine gate_op (.load 25 (.tmp 2)) rfl ?_); refine wpList_load_midB rfl _ _ rfl ⟨b0, 0, none⟩ rfl [.slice A n c, .slice B m d] _ (two_cells c0 c1) Try.underlying25 rfl info_S ?_))
      with_reducible refine hsh.out.mono ?_
      rintro e w5 ⟨A5, c5, B5, d5, rfl, y1, y2, y3, y4, y5, hb5⟩
      rw [hn'.out, hm'.out]
      rw [hn'.out] at y1 y3
      rw [hm'.out] at y2 y4
      have hB5 := hB4.out.trans (hb5.mono hB4.out.size)
      have c05 := pw_cell_below hb5 c0
      have c15 := pw_cell_below hb5 c1
      clear hb5 c0 c1 k0 hsh
      replace y1 := Aside0.mk y1; replace y2 := Aside0.mk y2; replace y3 := Aside0.mk y3; replace y4 := Aside0.mk y4; replace y5 := Aside0.mk y5; replace hB5 := Aside0.mk hB5
      go_wp2_with (first
        | (((with_reducible refine gate_dst (N := 8) rfl ?_); refine box_event ?hg (N := 8) ?hd (cs := #[.slice none 0 0, .slice none 0 0]) (t := 25) ?hr ?_; (case hd => rfl); (case hg => rfl); (case hr => first | (go_simp; done) | (go_simp; rfl)); intro b8 hb8 w6 kb8 bb8; replace hb8 := Aside0.mk hb8; replace kb8 := Aside0.mk kb8; replace bb8 := Aside0.mk bb8))
        | ((with_reducible refine gate_op (.store 25 (.tmp 8) (.tmp 24)) rfl ?_); refine wpList_store_midB rfl _ _ _ rfl b8 0 [.slice A5 n' c5, .slice B5 m' d5] rfl rfl 25 [.slice none 0 0, .slice none 0 0] kb8.out info_S (Nat.le_refl _) one2 ?_; obtain ⟨kk, bb⟩ := boxed (cs := [.slice none 0 0, .slice none 0 0]) (cs2 := [.slice A5 n' c5, .slice B5 m' d5]) hb8.out kb8.out bb8.out rfl; revert kk bb; generalize World.setRow _ b8 (splice [.slice none 0 0, .slice none 0 0] 0 [.slice A5 n' c5, .slice B5 m' d5]).toArray = w7; clear kb8 bb8; intro kb8 bb8; replace kb8 := Aside0.mk kb8; replace bb8 := Aside0.mk bb8)
        | ((with_reducible refine gate_op (.load 25 (.tmp 8)) rfl ?_); refine wpList_load_midB rfl _ _ rfl ⟨b8, 0, none⟩ rfl [.slice A5 n' c5, .slice B5 m' d5] _ (two_cells ((Kf.cell_row kb8.out 0).trans rfl) ((Kf.cell_row kb8.out 1).trans rfl)) Try.underlying25 rfl info_S ?_))
      have e0 := (Kf.cell_row kb8.out 0).trans (rfl : _ = some (Value.slice A5 n' c5))
      have e1 := (Kf.cell_row kb8.out 1).trans (rfl : _ = some (Value.slice B5 m' d5))
      replace c05 := pw_cell_below bb8.out c05
      replace c15 := pw_cell_below bb8.out c15
      replace y3 := Aside0.mk (Kd.C_below y3.out bb8.out)
      replace y4 := Aside0.mk (Kd.C_below y4.out bb8.out)
      have hB7 := hB5.out.trans (bb8.out.mono hB5.out.size)
      clear kb8 bb8 hb8 hB5
      have hck2 := Check_calls A5 n' c5 (rotG xs by_) B5 m' d5 (rot ts by_) w7 y3.out y1.out y4.out y2.out y5.out (rotG_ok ho.out)
      with_reducible refine hck2.mono ?_
      rintro e w8 ⟨rfl, hb8⟩
      rw [hf.out]
      replace e0 := pw_cell_below hb8 e0
      replace e1 := pw_cell_below hb8 e1
      replace c05 := pw_cell_below hb8 c05
      replace c15 := pw_cell_below hb8 c15
      replace y3 := Aside0.mk (Kd.C_below y3.out hb8)
      replace y4 := Aside0.mk (Kd.C_below y4.out hb8)
      have hB8 := hB7.trans (hb8.mono hB7.size)
      clear hb8 hck2 hB7
      have hB9 : Below w.heap.size w w8.drew := hB8.drew
      have z3 : kG.C w8.drew A5 n' (rotG xs by_) := Kd.C_below y3.out (Below.refl _ w8).drew
      have z4 : kT.C w8.drew B5 m' (rot ts by_) := Kd.C_below y4.out (Below.refl _ w8).drew
      have hnd : (ts.map (·.f0)).Nodup := by
        have h1 : ((ts.map tOf).map T.id).Nodup := F.out.ndt
        rw [List.map_map] at h1; exact h1
      have hS0 : ∀ (gs' : List SG) (ts' : List ST), gs'.map gOf = underOf (xs.map gOf) → ts'.map tOf = sortT (ts.map tOf) → gs' = xs ∧ ts' = ts := fun gs' ts' h1 h2 => by
        rw [F.out.un] at h1; rw [F.out.so] at h2
        exact ⟨map_inj (fun _ _ => gOf_inj.1) h1, map_inj (fun _ _ => tOf_inj.1) h2⟩
      have hS5 : ∀ (gs' : List SG) (ts' : List ST), gs'.map gOf = underOf ((rotG xs by_).map gOf) → ts'.map tOf = sortT ((rot ts by_).map tOf) → gs' = xs ∧ ts' = ts := fun gs' ts' h1 h2 => by
        rw [o4.out] at h1; rw [o5.out] at h2
        exact ⟨map_inj (fun _ _ => gOf_inj.1) h1, map_inj (fun _ _ => tOf_inj.1) h2⟩
      have hO1 : ∀ W, Below w.heap.size w W → Calls Try.prog 20 #[.agg #[.slice A n c, .slice B m d]] W fun e w' => ∃ A' c' B' d', e = .returned (.agg #[.slice A' n c', .slice B' m d']) ∧ n ≤ c' ∧ m ≤ d' ∧ kG.C w' A' n xs ∧ kT.C w' B' m ts ∧ Below W.heap.size W w' := fun W hW =>
        (Order_calls A n c xs B m d ts W (Kd.C_below HG.out hW) hc.out (by omega) (Kd.C_below HT.out hW) (by omega) hB.out F.out.tree F.out.wh hnd).mono fun e w' ⟨A', c', B', d', gs', ts', h1, h2, h3, h4, h5, h6, h7, _, h8⟩ => by
          obtain ⟨rfl, rfl⟩ := hS0 _ _ h6 h7
          rw [hln.out] at h1 h2 h4; rw [hlm.out] at h1 h3 h5
          exact ⟨A', c', B', d', h1, h2, h3, h4, h5, h8⟩
      have hO2 : ∀ W, Below w8.drew.heap.size w8.drew W → Calls Try.prog 20 #[.agg #[.slice A5 n' c5, .slice B5 m' d5]] W fun e w' => ∃ A' c' B' d', e = .returned (.agg #[.slice A' n c', .slice B' m d']) ∧ n ≤ c' ∧ m ≤ d' ∧ kG.C w' A' n xs ∧ kT.C w' B' m ts ∧ Below W.heap.size W w' := fun W hW =>
        (Order_calls A5 n' c5 (rotG xs by_) B5 m' d5 (rot ts by_) W (Kd.C_below z3 hW) y1.out (by have := hnn.out; omega) (Kd.C_below z4 hW) (by have := hmm.out; omega) y5.out o1.out o2.out o3.out).mono fun e w' ⟨A', c', B', d', gs', ts', h1, h2, h3, h4, h5, h6, h7, _, h8⟩ => by
          obtain ⟨h9, h10⟩ := hS5 _ _ h6 h7
          subst h9; subst h10
          rw [hln.out] at h1 h2 h4; rw [hlm.out] at h1 h3 h5
          exact ⟨A', c', B', d', h1, h2, h3, h4, h5, h8⟩
      have hSa : ∀ (A' : Option Addr) (c' : Nat) (B' : Option Addr) (d' : Nat) (W : World), n ≤ c' → m ≤ d' → kG.C W A' n xs → kT.C W B' m ts → Below w.heap.size w W →
          Calls Try.prog 19 #[.agg #[.slice A' n c', .slice B' m d'], .agg #[.slice A n c, .slice B m d]] W (AnyPost true W) := fun A' c' B' d' W q1 q2 q3 q4 q5 => by
        have := same_calls A' n c' xs B' m d' ts A n c xs B m d ts W q3 q1 q4 q2 (Kd.C_below HG.out q5) hc.out (Kd.C_below HT.out q5) hd.out (by omega) (by omega)
        rw [decide_eq_true (⟨rfl, rfl⟩ : xs = xs ∧ ts = ts)] at this
        exact this
      obtain ⟨eq, heq⟩ : ∃ eq, decide (rotG xs by_ = xs ∧ rot ts by_ = ts) = eq := ⟨_, rfl⟩
      have hSb : ∀ W : World, Below w8.drew.heap.size w8.drew W → Below w.heap.size w W →
          Calls Try.prog 19 #[.agg #[.slice A5 n' c5, .slice B5 m' d5], .agg #[.slice A n c, .slice B m d]] W (AnyPost eq W) := fun W q4 q5 => by
        have := same_calls A5 n' c5 (rotG xs by_) B5 m' d5 (rot ts by_) A n c xs B m d ts W (Kd.C_below z3 q4) y1.out (Kd.C_below z4 q4) y2.out (Kd.C_below HG.out q5) hc.out (Kd.C_below HT.out q5) hd.out (by have := hnn.out; omega) (by have := hmm.out; omega)
        rw [heq] at this
        exact this
      have hfe : f = if eq = true then 0 else 5 := by
        rw [o6.out, ← heq]
        by_cases h : rotG xs by_ = xs ∧ rot ts by_ = ts
        · rw [if_pos h, if_pos (decide_eq_true h)]
        · rw [if_neg h, if_neg (by rw [decide_eq_false h]; decide)]
      have z9 : Below w8.drew.heap.size w8.drew w8.drew := Below.refl _ _
      clear o1 o2 o3 o4 o5 o6 hf hn' hm' y1 y2 y3 y4 y5 hnn hmm z3 z4 hnd hB8 heq hB4 F ho HG HT hc hd hB hln hlm hS0 hS5
      have c09 : w8.drew.cell? ⟨b0, 0, none⟩ = _ := c05
      have c19 : w8.drew.cell? ⟨b0, 1, none⟩ = _ := c15
      have e09 : w8.drew.cell? ⟨b8, 0, none⟩ = _ := e0
      have e19 : w8.drew.cell? ⟨b8, 1, none⟩ = _ := e1
      replace hB9 := Aside0.mk hB9; replace hO1 := Aside0.mk hO1; replace hO2 := Aside0.mk hO2; replace hSa := Aside0.mk hSa; replace hSb := Aside0.mk hSb; replace z9 := Aside0.mk z9; replace hfe := Aside0.mk hfe
      go_wp2_with fail
      cases eq with
      | true =>
        obtain rfl : f = 0 := hfe.out
        first
        | (go_region_held (fun w' => w'.cell? ⟨b0, 0, none⟩ = some (.slice A n c) ∧ w'.cell? ⟨b0, 1, none⟩ = some (.slice B m d) ∧ w'.cell? ⟨b8, 0, none⟩ = some (.slice A5 n' c5) ∧ w'.cell? ⟨b8, 1, none⟩ = some (.slice B5 m' d5))
          (first | (with_reducible exact ⟨c09, c19, e09, e19⟩) | (with_reducible exact ⟨c010, c110, e010, e110⟩) | (with_reducible exact ⟨c011, c111, e011, e111⟩) | (with_reducible exact ⟨c012, c112, e012, e112⟩) | (with_reducible exact ⟨c013, c113, e013, e113⟩) | (with_reducible exact ⟨c014, c114, e014, e114⟩) | go_keep)
          (first
          | (go_at_call 20; (with_reducible refine (hO1.out w8.drew hB9.out).mono ?_); rintro e w10 ⟨A6, c6, B6, d6, rfl, q1, q2, q3, q4, hb10⟩; have c010 := pw_cell_below hb10 c09; have c110 := pw_cell_below hb10 c19; have e010 := pw_cell_below hb10 e09; have e110 := pw_cell_below hb10 e19; have hB10 := Aside0.mk (hB9.out.trans (hb10.mono hB9.out.size)); have z10 := Aside0.mk (z9.out.trans (hb10.mono z9.out.size)); have hS6 := Aside0.mk (hSa.out A6 c6 B6 d6 w10 q1 q2 q3 q4 hB10.out); clear hb10 q1 q2 q3 q4)
          | (go_at_call 19; (with_reducible refine hS6.out.mono ?_); rintro e w11 ⟨rfl, hb11⟩; have c011 := pw_cell_below hb11 c010; have c111 := pw_cell_below hb11 c110; have e011 := pw_cell_below hb11 e010; have e111 := pw_cell_below hb11 e110; have hB11 := Aside0.mk (hB10.out.trans (hb11.mono hB10.out.size)); have z11 := Aside0.mk (z10.out.trans (hb11.mono z10.out.size)); clear hb11)
          | (go_at_call 20; (with_reducible refine (hO2.out w11 z11.out).mono ?_); rintro e w12 ⟨A7, c7, B7, d7, rfl, q1, q2, q3, q4, hb12⟩; have c012 := pw_cell_below hb12 c011; have c112 := pw_cell_below hb12 c111; have e012 := pw_cell_below hb12 e011; have e112 := pw_cell_below hb12 e111; have hB12 := Aside0.mk (hB11.out.trans (hb12.mono hB11.out.size)); have z12 := Aside0.mk (z11.out.trans (hb12.mono z11.out.size)); have hS7 := Aside0.mk (hSa.out A7 c7 B7 d7 w12 q1 q2 q3 q4 hB12.out); clear hb12 q1 q2 q3 q4)
          | (go_at_call 19; (with_reducible refine hS7.out.mono ?_); rintro e w13 ⟨rfl, hb13⟩; have c013 := pw_cell_below hb13 c012; have c113 := pw_cell_below hb13 c112; have e013 := pw_cell_below hb13 e012; have e113 := pw_cell_below hb13 e112; have hB13 := Aside0.mk (hB12.out.trans (hb13.mono hB12.out.size)); have z13 := Aside0.mk (z12.out.trans (hb13.mono z12.out.size)); clear hb13)
          | (go_at_call 19; (with_reducible refine (hSb.out w13 z13.out hB13.out).mono ?_); rintro e w14 ⟨rfl, hb14⟩; have c014 := pw_cell_below hb14 c013; have c114 := pw_cell_below hb14 c113; have e014 := pw_cell_below hb14 e013; have e114 := pw_cell_below hb14 e113; have hB14 := Aside0.mk (hB13.out.trans (hb14.mono hB13.out.size)); have z14 := Aside0.mk (z13.out.trans (hb14.mono z13.out.size)); clear hb14)))
        | fail
        all_goals go_wp2_with fail
        all_goals go_ret
        all_goals exact ⟨rfl, hB14.out⟩
      | false =>
        obtain rfl : f = 5 := hfe.out
        go_region_held3 (fun w' => w'.cell? ⟨b0, 0, none⟩ = some (.slice A n c) ∧ w'.cell? ⟨b0, 1, none⟩ = some (.slice B m d) ∧ w'.cell? ⟨b8, 0, none⟩ = some (.slice A5 n' c5) ∧ w'.cell? ⟨b8, 1, none⟩ = some (.slice B5 m' d5))
          (first | (with_reducible exact ⟨c09, c19, e09, e19⟩) | (with_reducible exact ⟨c010, c110, e010, e110⟩) | (with_reducible exact ⟨c011, c111, e011, e111⟩) | (with_reducible exact ⟨c012, c112, e012, e112⟩) | (with_reducible exact ⟨c013, c113, e013, e113⟩) | (with_reducible exact ⟨c014, c114, e014, e114⟩) | go_keep)
          (first
          | (go_at_call 20; (with_reducible refine (hO1.out w8.drew hB9.out).mono ?_); rintro e w10 ⟨A6, c6, B6, d6, rfl, q1, q2, q3, q4, hb10⟩; have c010 := pw_cell_below hb10 c09; have c110 := pw_cell_below hb10 c19; have e010 := pw_cell_below hb10 e09; have e110 := pw_cell_below hb10 e19; have hB10 := Aside0.mk (hB9.out.trans (hb10.mono hB9.out.size)); have z10 := Aside0.mk (z9.out.trans (hb10.mono z9.out.size)); have hS6 := Aside0.mk (hSa.out A6 c6 B6 d6 w10 q1 q2 q3 q4 hB10.out); clear hb10 q1 q2 q3 q4)
          | (go_at_call 19; (with_reducible refine hS6.out.mono ?_); rintro e w11 ⟨rfl, hb11⟩; have c011 := pw_cell_below hb11 c010; have c111 := pw_cell_below hb11 c110; have e011 := pw_cell_below hb11 e010; have e111 := pw_cell_below hb11 e110; have hB11 := Aside0.mk (hB10.out.trans (hb11.mono hB10.out.size)); have z11 := Aside0.mk (z10.out.trans (hb11.mono z10.out.size)); clear hb11)
          | (go_at_call 20; (with_reducible refine (hO2.out w11 z11.out).mono ?_); rintro e w12 ⟨A7, c7, B7, d7, rfl, q1, q2, q3, q4, hb12⟩; have c012 := pw_cell_below hb12 c011; have c112 := pw_cell_below hb12 c111; have e012 := pw_cell_below hb12 e011; have e112 := pw_cell_below hb12 e111; have hB12 := Aside0.mk (hB11.out.trans (hb12.mono hB11.out.size)); have z12 := Aside0.mk (z11.out.trans (hb12.mono z11.out.size)); have hS7 := Aside0.mk (hSa.out A7 c7 B7 d7 w12 q1 q2 q3 q4 hB12.out); clear hb12 q1 q2 q3 q4)
          | (go_at_call 19; (with_reducible refine hS7.out.mono ?_); rintro e w13 ⟨rfl, hb13⟩; have c013 := pw_cell_below hb13 c012; have c113 := pw_cell_below hb13 c112; have e013 := pw_cell_below hb13 e012; have e113 := pw_cell_below hb13 e112; have hB13 := Aside0.mk (hB12.out.trans (hb13.mono hB12.out.size)); have z13 := Aside0.mk (z12.out.trans (hb13.mono z12.out.size)); clear hb13)
          | (go_at_call 19; (with_reducible refine (hSb.out w13 z13.out hB13.out).mono ?_); rintro e w14 ⟨rfl, hb14⟩; have c014 := pw_cell_below hb14 c013; have c114 := pw_cell_below hb14 c113; have e014 := pw_cell_below hb14 e013; have e114 := pw_cell_below hb14 e113; have hB14 := Aside0.mk (hB13.out.trans (hb14.mono hB13.out.size)); have z14 := Aside0.mk (z13.out.trans (hb14.mono z13.out.size)); clear hb14))
        all_goals go_wp2_with fail
        all_goals go_ret
        all_goals exact ⟨rfl, hB14.out⟩
    · clear hck
      go_wp2_with fail
      go_ret
      exact ⟨rfl, hB4.out⟩
end Go.Proofs.Ytpnjhffnlafabaa.Sn
