/- Law 14: its example. -/
import Derived.Test.YtpnjhffnlafabaaGreatDoorVImd
import Derived.Test.YtpnjhffnlafabaaGreatDoorVIs1
namespace Go.Proofs.YtpnjhffnlafabaaGreatDoor.Im
set_option linter.unusedVariables false
set_option linter.unusedSimpArgs false
open Go.Proofs Go.RowKit Go.Proofs.Bk Go.Proofs.Bm Go.Proofs.Sc Go.Proofs.Kf Go.Proofs.YtpnjhffnlafabaaGreatDoorW.PrintWords Go.Proofs.YtpnjhffnlafabaaGreatDoor.Sl Go.Proofs.YtpnjhffnlafabaaGreatDoor.Sn Go.Proofs.YtpnjhffnlafabaaGreatDoor.PImageBack
theorem pack_inB {ss : List SE} (h : PackOk ss) : inB (packB ss) := inB_app (inB_app (inB_T ss) (inB_digs _ _)) (fun x hx => by
  unfold bodies at hx
  obtain ⟨l, hl, hx⟩ := List.mem_flatten.1 hx
  obtain ⟨s, hs, rfl⟩ := List.mem_map.1 hl
  exact h.inb s hs x hx)
theorem encode_inB {xs : List SG} {ts : List ST} {er : Int} {bs : List Int} (h : (er, bs) = encodeOf xs ts) (h0 : er = 0) (ho : ∀ t ∈ ts, 0 ≤ t.f3 ∧ t.f3 ≤ 18446744073709551615) : inB bs ∧ bs.length = 41 + 21 * xs.length + 35 * ts.length ∧ decodeOf bs = (0, xs, ts) ∧ PackOk (secsOf xs ts) ∧ bs = packB (secsOf xs ts) ∧ checkOf (xs.map gOf) (ts.map tOf) = 0 := by
  subst h0
  obtain ⟨h1, h2, rfl, h3⟩ := decode_encode ho h.symm
  exact ⟨pack_inB h2, bodies_len xs ts, h1, h2, rfl, h3⟩
def aw0 : List SG := [⟨5, 0, 2, ⟨0, 0, 0⟩⟩]
theorem aw_check : checkOf (aw0.map gOf) (([] : List ST).map tOf) = 0 := by
  have hk : kidsS (aw0.map gOf) 5 = [] := by
    unfold kidsS
    rw [show kidsOf (aw0.map gOf) 5 = [] from rfl]
    simp
  have h2 : underOf (aw0.map gOf) = aw0.map gOf := by
    show walk (aw0.map gOf) 2 (gOf ⟨5, 0, 2, ⟨0, 0, 0⟩⟩) = _
    rw [walk]
    show _ :: ((kidsS (aw0.map gOf) 5).map _).flatten = _
    rw [hk]; rfl
  unfold checkOf orderOf
  rw [show wholeOf (aw0.map gOf) = true by decide, if_pos rfl, h2, if_neg (by decide), if_neg (by decide), if_neg (by decide), if_neg (by decide), if_neg (by simp [sortT]), if_neg (by decide)]
theorem aw_enc : encodeOf aw0 [] = (0, packB (secsOf aw0 [])) := by
  unfold encodeOf
  rw [if_neg (by rw [aw_check]; simp)]
  refine packOf_ok ⟨by decide, by decide, fun s hs => ?_, secs_inB _ _⟩
  have l1 := flat_len gB_length aw0
  have l2 := flat_len bB_length aw0
  unfold secsOf at hs
  simp only [List.mem_cons, List.not_mem_nil, or_false] at hs
  rcases hs with rfl | rfl | rfl | rfl
  · show ((aw0.map gB).flatten).length ≤ _; rw [l1]; decide
  · show ((aw0.map bB).flatten).length ≤ _; rw [l2]; decide
  · decide
  · decide
set_option maxHeartbeats 8000000 in
set_option maxRecDepth 100000 in
theorem awake_calls (w : World) (hT : Tab w) : Calls Tryz.prog 9 #[] w (OkPost w) := by
  have hb1 := below_alloc (Below.refl w.heap.size w) (.cells #[.int .i64 5, .int .i64 0, .int .i64 2, .int .i64 0, .int .i64 0, .int .i64 0] 50)
  have hr1 := heap_alloc_same w (.cells #[.int .i64 5, .int .i64 0, .int .i64 2, .int .i64 0, .int .i64 0, .int .i64 0] 50)
  have hG1 := kG_row (xs := aw0) hr1 (by decide) (by
    intro j x hx i v hv
    match j, hx with
    | 0, hx => cases hx; match i, hv with
      | 0, hv | 1, hv | 2, hv | 3, hv | 4, hv | 5, hv => cases hv; rfl)
  change kG.C _ _ 1 aw0 at hG1
  replace hb1 := Aside0.mk hb1; replace hr1 := Aside0.mk hr1; replace hG1 := Aside0.mk hG1; replace hT := Aside0.mk hT
  go_enter Tryz.func9, Tryz.ntmps9
  go_wp2_with fail
  change Calls _ _ _ (w.alloc (.cells #[.int .i64 5, .int .i64 0, .int .i64 2, .int .i64 0, .int .i64 0, .int .i64 0] 50)) _
  generalize w.alloc (.cells #[.int .i64 5, .int .i64 0, .int .i64 2, .int .i64 0, .int .i64 0, .int .i64 0] 50) = W2 at hb1 hr1 hG1 ⊢
  with_reducible refine (Encode_calls (some ⟨w.heap.size, 0, none⟩) 1 1 aw0 none 0 0 [] W2 (hT.out.step hb1.out) hG1.out (Nat.le_refl _) (kT_none _) (Nat.le_refl _) (fun ad h => by cases h) (by intro x hx; simp [aw0] at hx; subst hx; unfold okG; exact ⟨by decide, by decide, by decide, by decide, by decide, by decide⟩) (fun x hx => by simp at hx)).mono ?_
  rintro e w3 ⟨v, er, bs, rfl, hby, hb3, heq⟩
  obtain rfl : er = 0 := by rw [aw_enc] at heq; exact congrArg Prod.fst heq
  obtain ⟨hin, hl, hdec, -⟩ := encode_inB heq rfl (fun t ht => by simp at ht)
  change bs.length = 62 at hl
  obtain ⟨A3, c3, rfl, hc3, hC3⟩ := Kd.R_reads hby
  rw [hl] at hC3 hc3
  rw [hl]
  have hB3 := Aside0.mk (hb1.out.trans (hb3.mono hb1.out.size))
  clear hby hb3
  replace hin := Aside0.mk hin; replace hl := Aside0.mk hl; replace hdec := Aside0.mk hdec; replace hC3 := Aside0.mk hC3; replace heq := Aside0.mk heq
  go_wp2_with fail
  with_reducible refine (Decode_calls A3 62 c3 bs w3 (hT.out.step hB3.out) hC3.out hc3 (by decide) hin.out).mono ?_
  rintro e w4 ⟨A4, c4, B4, d4, er, gs, ts, rfl, hd, hb4, k1, k2, hG4, hT4, -, -⟩
  rw [hdec.out] at hd
  obtain rfl : er = 0 := congrArg Prod.fst hd
  obtain rfl : gs = aw0 := congrArg (fun p => p.2.1) hd
  obtain rfl : ts = [] := congrArg (fun p => p.2.2) hd
  change 1 ≤ c4 at k1
  change kG.C w4 A4 1 aw0 at hG4
  rw [show aw0.length = 1 from rfl, show ([] : List ST).length = 0 from rfl]
  obtain ⟨b4, o4, ea4, -, hc4⟩ := G_at hG4 (by omega)
  subst ea4
  have e4 : w4.cell? ⟨b4, o4 + 2, none⟩ = some (.int .i64 2) := by have := hc4 0 (by decide) 2 (.int .i64 2) rfl; simpa using this
  have hB4 := Aside0.mk (hB3.out.trans (hb4.mono hB3.out.size))
  clear hb4 hd hc4
  replace hG4 := Aside0.mk hG4; replace hT4 := Aside0.mk hT4
  go_wp2_with (first
    | (((with_reducible refine gate_dst (N := 3) rfl ?_); refine box_event ?hg (N := 3) ?hd (cs := #[.slice none 0 0, .slice none 0 0]) (t := 25) ?hr ?_; (case hd => rfl); (case hg => rfl); (case hr => first | (go_simp; done) | (go_simp; rfl)); intro b3 hb3 w5 kb3 bb3; replace hb3 := Aside0.mk hb3; replace kb3 := Aside0.mk kb3; replace bb3 := Aside0.mk bb3))
    | (((with_reducible refine gate_op (.store 25 (.tmp 3) (.tmp 15)) rfl ?_); refine wpList_store_midB rfl _ _ _ rfl b3 0 [.slice (some ⟨b4, o4, none⟩) 1 c4, .slice B4 0 d4] rfl rfl 25 [.slice none 0 0, .slice none 0 0] kb3.out szS2 (Nat.le_refl _) oneS2 ?_; obtain ⟨kk, bb⟩ := boxed (cs := [.slice none 0 0, .slice none 0 0]) (cs2 := [.slice (some ⟨b4, o4, none⟩) 1 c4, .slice B4 0 d4]) hb3.out kb3.out bb3.out rfl; revert kk bb; generalize World.setRow _ b3 (splice [.slice none 0 0, .slice none 0 0] 0 [.slice (some ⟨b4, o4, none⟩) 1 c4, .slice B4 0 d4]).toArray = w6; clear kb3 bb3; intro kb3 bb3; replace kb3 := Aside0.mk kb3; replace bb3 := Aside0.mk bb3); (have c0 := (Kf.cell_row kb3.out 0).trans (rfl : _ = some (Value.slice (some ⟨b4, o4, none⟩) 1 c4))); (have c1 := (Kf.cell_row kb3.out 1).trans (rfl : _ = some (Value.slice B4 0 d4))); (replace e4 := pw_cell_below bb3.out e4))
    | ((with_reducible refine gate_op (.load 25 (.tmp 3)) rfl ?_); refine wpList_load_midB rfl _ _ rfl ⟨b3, 0, none⟩ rfl [.slice (some ⟨b4, o4, none⟩) 1 c4, .slice B4 0 d4] _ (Bk.cells_row kb3.out) Tryz.underlying25 rfl szS2 ?_)
    | (go_at_call 14; (with_reducible refine (Size_calls (some ⟨b4, o4, none⟩) 1 c4 B4 0 d4 w6 (by decide) (by decide)).mono ?_); rintro e w7 ⟨rfl, hb7⟩; (have hB7 := Aside0.mk (hB4.out.trans ((bb3.out.trans (hb7.mono bb3.out.size)).mono hB4.out.size))); clear hb7))
  go_ret
  exact ⟨rfl, hB7.out⟩
end Go.Proofs.YtpnjhffnlafabaaGreatDoor.Im
