/- Encode of package image: a scene as bytes. -/
import Derived.Test.YtpnjhffnlafabaaGreatDoorVIm4
import Derived.Test.YtpnjhffnlafabaaGreatDoorVSd6
namespace Go.Proofs.YtpnjhffnlafabaaGreatDoor.Im
set_option linter.unusedVariables false
set_option linter.unusedSimpArgs false
open Go.RowKit Go.Proofs.Bk Go.Proofs.Bm Go.Proofs.Sc Go.Proofs.Kf Go.Proofs.YtpnjhffnlafabaaGreatDoorW.PrintWords Go.Proofs.YtpnjhffnlafabaaGreatDoor.Sl Go.Proofs.YtpnjhffnlafabaaGreatDoor.Sn Go.Proofs.YtpnjhffnlafabaaGreatDoor.PImageBack
theorem six6 {w : World} {gb : Nat} {x : SG} (h : w.heap[gb]? = some (.cells #[.int .i64 x.f0, .int .i64 x.f1, .int .i64 x.f2, .int .i64 x.f3.f0, .int .i64 x.f3.f1, .int .i64 x.f3.f2] 50 (0, 0))) : (w.cell? ⟨gb, 0, none⟩ = some (.int .i64 x.f0) ∧ w.cell? ⟨gb, 1, none⟩ = some (.int .i64 x.f1) ∧ w.cell? ⟨gb, 2, none⟩ = some (.int .i64 x.f2) ∧ w.cell? ⟨gb, 3, none⟩ = some (.int .i64 x.f3.f0) ∧ w.cell? ⟨gb, 4, none⟩ = some (.int .i64 x.f3.f1) ∧ w.cell? ⟨gb, 5, none⟩ = some (.int .i64 x.f3.f2)) :=
  ⟨(cell_row h 0).trans rfl, (cell_row h 1).trans rfl, (cell_row h 2).trans rfl, (cell_row h 3).trans rfl, (cell_row h 4).trans rfl, (cell_row h 5).trans rfl⟩
theorem eight8 {w : World} {gb : Nat} {x : ST} (h : w.heap[gb]? = some (.cells #[.int .i64 x.f0, .int .i64 x.f1, .int .i64 x.f2, .int .u64 x.f3, .bool x.f4, .int .i64 x.f5, .int .i64 x.f6.f0, .int .i64 x.f6.f1] 59 (0, 0))) : (w.cell? ⟨gb, 0, none⟩ = some (.int .i64 x.f0) ∧ w.cell? ⟨gb, 1, none⟩ = some (.int .i64 x.f1) ∧ w.cell? ⟨gb, 2, none⟩ = some (.int .i64 x.f2) ∧ w.cell? ⟨gb, 3, none⟩ = some (.int .u64 x.f3) ∧ w.cell? ⟨gb, 4, none⟩ = some (.bool x.f4) ∧ w.cell? ⟨gb, 5, none⟩ = some (.int .i64 x.f5) ∧ w.cell? ⟨gb, 6, none⟩ = some (.int .i64 x.f6.f0) ∧ w.cell? ⟨gb, 7, none⟩ = some (.int .i64 x.f6.f1)) :=
  ⟨(cell_row h 0).trans rfl, (cell_row h 1).trans rfl, (cell_row h 2).trans rfl, (cell_row h 3).trans rfl, (cell_row h 4).trans rfl, (cell_row h 5).trans rfl, (cell_row h 6).trans rfl, (cell_row h 7).trans rfl⟩
theorem kF_row {w : World} {g : Nat} {cs : Array Value} {t : TypeId} {fr : Nat × Nat} {fs : List SF} (h : w.heap[g]? = some (.cells cs t fr)) (hn : fs.length ≤ 9223372036854775807)
    (hc : ∀ j f, fs[j]? = some f → cs[j * 2]? = some (.int .u64 f.f0) ∧ cs[j * 2 + 1]? = some (.int .i64 f.f1)) : kF.C w (some ⟨g, 0, none⟩) fs.length fs := by
  refine ⟨rfl, hn, fun _ => ⟨_, rfl, fun j p hp => ⟨[.int .u64 p.f0, .int .i64 p.f1], rfl, k54_mk w p, fun i u hu => ?_⟩⟩⟩
  rw [Sn.add_at, Nat.zero_add]
  obtain ⟨h1, h2⟩ := hc j p hp
  rcases i with _ | _ | i
  · cases hu; exact (cell_row h _).trans h1
  · cases hu; exact (cell_row h _).trans h2
  · simp at hu
def gB (x : SG) : List Int := rowB [⟨x.f0, 3⟩, ⟨x.f1, 3⟩, ⟨x.f2, 3⟩]
def bB (x : SG) : List Int := rowB [⟨x.f3.f0, 3⟩, ⟨x.f3.f1, 3⟩, ⟨x.f3.f2, 6⟩]
def tB (x : ST) : List Int := rowB [⟨x.f0, 3⟩, ⟨x.f1, 3⟩, ⟨x.f2, 3⟩, ⟨(if x.f4 then 1 else 0 : Int), 1⟩, ⟨x.f5, 6⟩, ⟨x.f6.f0, 8⟩, ⟨x.f6.f1, 3⟩]
def cB (x : ST) : List Int := rowB [⟨x.f3, 8⟩]
def secsOf (xs : List SG) (ts : List ST) : List SE := [⟨1, (xs.map gB).flatten⟩, ⟨2, (xs.map bB).flatten⟩, ⟨3, (ts.map tB).flatten⟩, ⟨4, (ts.map cB).flatten⟩]
def encodeOf (xs : List SG) (ts : List ST) : Int × List Int := if checkOf (xs.map gOf) (ts.map tOf) ≠ 0 then (checkOf (xs.map gOf) (ts.map tOf), []) else packOf (secsOf xs ts)
def EncPost (xs : List SG) (ts : List ST) (w : World) (e : Ending) (w' : World) : Prop :=
  ∃ (v : Value) (er : Int) (bs : List Int), e = .returned (.tuple #[v, .int .i64 er]) ∧ Byts w' w.heap.size v bs ∧ Below w.heap.size w w' ∧ (er, bs) = encodeOf xs ts
theorem flat1 {α : Type} {f : α → List Int} {l : List α} {k : Nat} {x : α} (h : l[k]? = some x) : ((l.take (k + 1)).map f).flatten = ((l.take k).map f).flatten ++ f x := by
  rw [List.take_add_one, h]; simp
theorem flatL {α : Type} {f : α → List Int} {b : Nat} (hf : ∀ x, (f x).length ≤ b) : ∀ l : List α, ((l.map f).flatten).length ≤ b * l.length
  | [] => by simp
  | x :: l => by
    have h1 := flatL hf l
    have h2 := hf x
    rw [List.map_cons, List.flatten_cons, List.length_append, List.length_cons, Nat.mul_add]; omega
theorem gB_len (x : SG) : (gB x).length ≤ 24 := rowB_len _
theorem bB_len (x : SG) : (bB x).length ≤ 24 := rowB_len _
theorem tB_len (x : ST) : (tB x).length ≤ 56 := rowB_len _
theorem cB_len (x : ST) : (cB x).length ≤ 8 := rowB_len _
theorem kE_row4 {w : World} {g : Nat} {t : TypeId} {fr : Nat × Nat} {A1 A2 A3 A4 : Option Addr} {c1 c2 c3 c4 : Nat} {L1 L2 L3 L4 : List Int}
    (h : w.heap[g]? = some (.cells #[.int .i64 1, .slice A1 L1.length c1, .int .i64 2, .slice A2 L2.length c2, .int .i64 3, .slice A3 L3.length c3, .int .i64 4, .slice A4 L4.length c4] t fr))
    (l1 : L1.length ≤ c1) (l2 : L2.length ≤ c2) (l3 : L3.length ≤ c3) (l4 : L4.length ≤ c4) (C1 : U8.C w A1 L1.length L1) (C2 : U8.C w A2 L2.length L2) (C3 : U8.C w A3 L3.length L3) (C4 : U8.C w A4 L4.length L4) :
    kE.C w (some ⟨g, 0, none⟩) 4 [⟨1, L1⟩, ⟨2, L2⟩, ⟨3, L3⟩, ⟨4, L4⟩] := by
  refine ⟨rfl, by decide, fun _ => ⟨_, rfl, fun j p hp => ?_⟩⟩
  rcases j with _ | _ | _ | _ | j
  · cases hp
    refine ⟨[.int .i64 1, .slice A1 L1.length c1], rfl, k36_mk w ⟨1, L1⟩ l1 C1, fun i u hu => ?_⟩
    rw [Sn.add_at, Nat.zero_add]
    rcases i with _ | _ | i
    · cases hu; exact (cell_row h _).trans rfl
    · cases hu; exact (cell_row h _).trans rfl
    · simp at hu
  · cases hp
    refine ⟨[.int .i64 2, .slice A2 L2.length c2], rfl, k36_mk w ⟨2, L2⟩ l2 C2, fun i u hu => ?_⟩
    rw [Sn.add_at, Nat.zero_add]
    rcases i with _ | _ | i
    · cases hu; exact (cell_row h _).trans rfl
    · cases hu; exact (cell_row h _).trans rfl
    · simp at hu
  · cases hp
    refine ⟨[.int .i64 3, .slice A3 L3.length c3], rfl, k36_mk w ⟨3, L3⟩ l3 C3, fun i u hu => ?_⟩
    rw [Sn.add_at, Nat.zero_add]
    rcases i with _ | _ | i
    · cases hu; exact (cell_row h _).trans rfl
    · cases hu; exact (cell_row h _).trans rfl
    · simp at hu
  · cases hp
    refine ⟨[.int .i64 4, .slice A4 L4.length c4], rfl, k36_mk w ⟨4, L4⟩ l4 C4, fun i u hu => ?_⟩
    rw [Sn.add_at, Nat.zero_add]
    rcases i with _ | _ | i
    · cases hu; exact (cell_row h _).trans rfl
    · cases hu; exact (cell_row h _).trans rfl
    · simp at hu
  · simp at hp
theorem inB_row (fs : List SF) : inB (rowB fs) := by
  intro x hx
  unfold rowB at hx
  obtain ⟨l, hl, hx⟩ := List.mem_flatten.1 hx
  obtain ⟨f, _, rfl⟩ := List.mem_map.1 hl
  exact digs_range _ _ x hx
theorem inB_flat {α : Type} {f : α → List Int} (hf : ∀ x, inB (f x)) (l : List α) : inB ((l.map f).flatten) := by
  intro x hx
  obtain ⟨y, hy, hx⟩ := List.mem_flatten.1 hx
  obtain ⟨z, _, rfl⟩ := List.mem_map.1 hy
  exact hf z x hx
theorem secs_inB (xs : List SG) (ts : List ST) : ∀ s ∈ secsOf xs ts, inB s.f1 := by
  intro s hs
  unfold secsOf at hs
  simp at hs
  rcases hs with rfl | rfl | rfl | rfl
  · exact inB_flat (fun x => inB_row _) xs
  · exact inB_flat (fun x => inB_row _) xs
  · exact inB_flat (fun x => inB_row _) ts
  · exact inB_flat (fun x => inB_row _) ts
theorem G_pos {gs : List G} {us : List T} (F : Fine gs us) {x : SG} (hx : gOf x ∈ gs) : (0 ≤ x.f0 ∧ x.f0 ≤ 1048576) ∧ (0 ≤ x.f1 ∧ x.f1 ≤ 1048576) ∧ (0 ≤ x.f2 ∧ x.f2 ≤ 1048576) ∧ (0 ≤ x.f3.f0 ∧ x.f3.f0 ≤ 1048576) ∧ (0 ≤ x.f3.f1 ∧ x.f3.f1 ≤ 1048576) ∧ (0 ≤ x.f3.f2 ∧ x.f3.f2 ≤ 1099511627776) := by
  have h := F.og _ hx
  have h1 := within1_iff.1 (oddG_id h)
  have h9 : (gOf x).id = x.f0 := rfl
  rw [h9] at h1
  have hp : 0 ≤ x.f1 ∧ x.f1 ≤ 1048576 := by
    by_cases h0 : x.f1 = 0
    · omega
    · obtain ⟨y, hy, hye⟩ := List.mem_map.1 (F.par _ hx h0)
      have := within1_iff.1 (oddG_id (F.og y hy))
      rw [hye] at this
      have h9 : (gOf x).parent = x.f1 := rfl
      rw [h9] at this
      omega
  unfold oddG at h
  simp only [Bool.or_eq_false_iff, Bool.not_eq_false'] at h
  obtain ⟨⟨-, h2⟩, h3⟩ := h
  have h2 := within1_iff.1 h2
  have h9 : (gOf x).weight = x.f2 := rfl
  rw [h9] at h2
  unfold bandRight within0 within1 at h3
  have e1 : (gOf x).period = x.f3.f0 := rfl
  have e2 : (gOf x).quota = x.f3.f1 := rfl
  have e3 : (gOf x).used = x.f3.f2 := rfl
  rw [e1, e2, e3] at h3
  split at h3 <;> simp at h3 <;> omega
theorem T_pos {gs : List G} {us : List T} (F : Fine gs us) {x : ST} (hx : tOf x ∈ us) : (0 ≤ x.f0 ∧ x.f0 ≤ 1048576) ∧ (0 ≤ x.f1 ∧ x.f1 ≤ 1048576) ∧ (0 ≤ x.f2 ∧ x.f2 ≤ 1048576) ∧ (0 ≤ x.f5 ∧ x.f5 ≤ 1099511627776) ∧ (0 ≤ x.f6.f0 ∧ x.f6.f0 ≤ 2305843009213693952) ∧ (0 ≤ x.f6.f1 ∧ x.f6.f1 ≤ 1048576) := by
  have h := F.ot _ hx
  have h1 := within1_iff.1 (oddT_id h)
  have h9 : (tOf x).id = x.f0 := rfl
  rw [h9] at h1
  obtain ⟨y, hy, hye⟩ := List.mem_map.1 (F.grp _ hx)
  have hg := within1_iff.1 (oddG_id (F.og y hy))
  rw [hye] at hg
  have h9 : (tOf x).group = x.f1 := rfl
  rw [h9] at hg
  unfold oddT at h
  simp only [Bool.or_eq_false_iff, Bool.not_eq_false', decide_eq_false_iff_not] at h
  obtain ⟨⟨⟨⟨⟨-, h2⟩, -⟩, h3⟩, h4⟩, h5⟩ := h
  have h2 := within1_iff.1 h2
  have h9 : (tOf x).weight = x.f2 := rfl
  rw [h9] at h2
  have e1 : (tOf x).ran = x.f5 := rfl
  have e2 : (tOf x).v = x.f6.f0 := rfl
  have e3 : (tOf x).rem = x.f6.f1 := rfl
  have e4 : (tOf x).weight = x.f2 := rfl
  rw [e1] at h3 h4
  unfold paceRight weighs at h5
  rw [e2, e3, e4] at h5
  simp at h5
  omega
set_option maxHeartbeats 8000000 in
set_option maxRecDepth 100000 in
theorem Encode_calls (A : Option Addr) (n c : Nat) (xs : List SG) (B : Option Addr) (m d : Nat) (ts : List ST) (w : World) (hT0 : Tab w) (hG : kG.C w A n xs) (hc : n ≤ c) (hT : kT.C w B m ts) (hd : m ≤ d) (hB : ∀ ad, B = some ad → ad.spot = none) (ho : ∀ x ∈ xs, okG x) (hot : ∀ x ∈ ts, 0 ≤ x.f3) :
    Calls Tryz.prog 11 #[.agg #[.slice A n c, .slice B m d]] w (EncPost xs ts w) := by
  have hln := hG.1
  have hlm := hT.1
  have HG := Aside0.mk hG
  have HT := Aside0.mk hT
  clear hG hT
  replace hln := Aside0.mk hln; replace hlm := Aside0.mk hlm; replace hc := Aside0.mk hc; replace hd := Aside0.mk hd; replace hB := Aside0.mk hB; replace ho := Aside0.mk ho; replace hot := Aside0.mk hot; replace hT0 := Aside0.mk hT0
  go_enter Tryz.func11, Tryz.ntmps11
  go_wp2_with (first
    | (((with_reducible refine gate_dst (N := 1) rfl ?_); refine box_event ?hg (N := 1) ?hd (cs := #[.slice A n c, .slice B m d]) (t := 25) ?hr ?_; (case hd => rfl); (case hg => rfl); (case hr => first | (go_simp; done) | (go_simp; rfl)); intro b0 hb0 w1 kb0 bb0; replace hb0 := Aside0.mk hb0; replace kb0 := Aside0.mk kb0; replace bb0 := Aside0.mk bb0); have c0 := (cell_row kb0.out 0).trans (rfl : _ = some (Value.slice A n c)); have c1 := (cell_row kb0.out 1).trans (rfl : _ = some (Value.slice B m d)))
    | ((with_reducible refine gate_op (.load 25 (.tmp 1)) rfl ?_); refine wpList_load_midB rfl _ _ rfl ⟨b0, 0, none⟩ rfl [.slice A n c, .slice B m d] _ (two_cells c0 c1) Tryz.underlying25 rfl info_S ?_))
  with_reducible refine (Check_calls A n c xs B m d ts w1 (Kd.C_below HG.out bb0.out) hc.out (Kd.C_below HT.out bb0.out) hd.out hB.out ho.out).mono ?_
  rintro e w2 ⟨rfl, hb2⟩
  have hB2 := Aside0.mk (bb0.out.trans (hb2.mono bb0.out.size))
  replace c0 := pw_cell_below hb2 c0
  replace c1 := pw_cell_below hb2 c1
  clear hb2 kb0 bb0 hb0
  have hfine := fine_iff (xs.map gOf) (ts.map tOf)
  have henc : encodeOf xs ts = if checkOf (xs.map gOf) (ts.map tOf) ≠ 0 then (checkOf (xs.map gOf) (ts.map tOf), []) else packOf (secsOf xs ts) := rfl
  obtain ⟨ck, hck⟩ : ∃ ck, checkOf (xs.map gOf) (ts.map tOf) = ck := ⟨_, rfl⟩
  rw [hck] at hfine henc ⊢
  by_cases hz : ck = 0
  case neg =>
    rw [if_pos hz] at henc
    have hz' : ¬ ck = 0 := hz
    replace hfine := Aside0.mk hfine; replace hck := Aside0.mk hck; replace henc := Aside0.mk henc
    go_wp2_with fail
    go_ret2
    exact ⟨_, ck, [], rfl, Kd.R_nil _ _ _ _ _, hB2.out, henc.out.symm⟩
  case pos =>
  subst hz
  have F := hfine.1 rfl
  rw [if_neg (fun h => h rfl)] at henc
  have hn4 : n ≤ 4096 := by have := F.lg; rw [List.length_map, hln.out] at this; exact this
  have hm4 : m ≤ 4096 := by have := F.lt; rw [List.length_map, hlm.out] at this; exact this
  have HG2 := Aside0.mk (Kd.C_below HG.out hB2.out)
  have HT2 := Aside0.mk (Kd.C_below HT.out hB2.out)
  have c1W : ∀ W, Below w2.heap.size w2 W → W.cell? ⟨b0, 1, none⟩ = some (.slice B m d) := fun W hW => pw_cell_below hW c1
  clear c1 hfine
  replace F := Aside0.mk F; replace hck := Aside0.mk hck; replace henc := Aside0.mk henc; replace c1W := Aside0.mk c1W
  go_wp2_with fail
  go_loopw [5, 6, 21] (fun gv bv iv wr => ∃ k : Nat, iv = .int .i64 k ∧ k ≤ n ∧ Aside0 (Byts wr w2.heap.size gv (((xs.take k).map gB).flatten)) ∧ Aside0 (Byts wr w2.heap.size bv (((xs.take k).map bB).flatten)) ∧ Aside0 (Apart gv bv) ∧ Aside0 (Below w2.heap.size w2 wr)) (fun _ _ iv _ => n - (intOf iv).toNat)
  case atStart => exact ⟨0, rfl, Nat.zero_le _, ⟨Kd.R_nil _ _ _ _ _⟩, ⟨Kd.R_nil _ _ _ _ _⟩, ⟨Apart.none_ _⟩, ⟨Below.refl _ _⟩⟩
  case round =>
    obtain ⟨k, rfl, hk, hgR, hbR, hap, hb⟩ := hrel
    by_cases hlt : k < n
    · have p1 : 0 ≤ (k : Int) := by omega
      have q1 : (k : Int) < (n : Int) := by omega
      obtain ⟨bG, oG, x, rfl, -, hx, t0, t1, t2, t3, t4, t5⟩ := G_one (Kd.C_below HG2.out hb.out) hlt
      obtain ⟨⟨y0, y0'⟩, ⟨y1, y1'⟩, ⟨y2, y2'⟩, ⟨y3, y3'⟩, ⟨y4, y4'⟩, ⟨y5, y5'⟩⟩ := G_pos F.out (List.mem_map.2 ⟨x, List.mem_of_getElem? hx, rfl⟩ : gOf x ∈ xs.map gOf)
      have hgf := flat1 (f := gB) hx
      have hbf := flat1 (f := bB) hx
      have hgl := flatL gB_len (xs.take k)
      have hbl := flatL bB_len (xs.take k)
      have htl := List.length_take_le k xs
      obtain ⟨Gx, hGx⟩ : ∃ Gx, ((xs.take k).map gB).flatten = Gx := ⟨_, rfl⟩
      obtain ⟨Bx, hBx⟩ : ∃ Bx, ((xs.take k).map bB).flatten = Bx := ⟨_, rfl⟩
      rw [hGx] at hgR hgf hgl
      rw [hBx] at hbR hbf hbl
      have hgl2 : Gx.length ≤ 200000 := by omega
      have hbl2 : Bx.length ≤ 200000 := by omega
      clear hgl hbl htl
      replace hx := Aside0.mk hx; replace hgf := Aside0.mk hgf; replace hbf := Aside0.mk hbf; replace hGx := Aside0.mk hGx; replace hBx := Aside0.mk hBx
      go_wp2_with (first
        | (((with_reducible refine gate_dst (N := 10) rfl ?_); refine box_event ?hg (N := 10) ?hd (cs := #[.int .i64 0, .int .i64 0, .int .i64 0, .int .i64 0, .int .i64 0, .int .i64 0]) (t := 50) ?hr ?_; (case hd => rfl); (case hg => rfl); (case hr => first | (go_simp; done) | (go_simp; rfl)); intro gb hgb w6 kgb bgb; replace hgb := Aside0.mk hgb; replace kgb := Aside0.mk kgb; replace bgb := Aside0.mk bgb))
        | (((with_reducible refine gate_op (.store 50 (.tmp 10) (.tmp 24)) rfl ?_); refine wpList_store_midB rfl _ _ _ rfl gb 0 [.int .i64 x.f0, .int .i64 x.f1, .int .i64 x.f2, .int .i64 x.f3.f0, .int .i64 x.f3.f1, .int .i64 x.f3.f2] rfl rfl 50 [.int .i64 0, .int .i64 0, .int .i64 0, .int .i64 0, .int .i64 0, .int .i64 0] kgb.out szG6 (Nat.le_refl _) oneG6 ?_; obtain ⟨kk, bb⟩ := boxed (cs := [.int .i64 0, .int .i64 0, .int .i64 0, .int .i64 0, .int .i64 0, .int .i64 0]) (cs2 := [.int .i64 x.f0, .int .i64 x.f1, .int .i64 x.f2, .int .i64 x.f3.f0, .int .i64 x.f3.f1, .int .i64 x.f3.f2]) hgb.out kgb.out bgb.out rfl; revert kk bb; generalize World.setRow _ gb (splice [.int .i64 0, .int .i64 0, .int .i64 0, .int .i64 0, .int .i64 0, .int .i64 0] 0 [.int .i64 x.f0, .int .i64 x.f1, .int .i64 x.f2, .int .i64 x.f3.f0, .int .i64 x.f3.f1, .int .i64 x.f3.f2]).toArray = w7; clear kgb bgb; intro kgb bgb; replace kgb := Aside0.mk kgb; replace bgb := Aside0.mk bgb)))
      have u5_gb : Aside0 (some gb ≠ u5.ownBlock) := ⟨fun e => by have := hgR.out.lt gb e.symm; rw [hgb.out] at this; omega⟩
      have u6_gb : Aside0 (some gb ≠ u6.ownBlock) := ⟨fun e => by have := hbR.out.lt gb e.symm; rw [hgb.out] at this; omega⟩
      have zk := Aside0.mk (show w7.drew.heap[gb]? = _ from kgb.out)
      have zb := Aside0.mk ((hb.out.trans (bgb.out.mono hb.out.size)).drew)
      have zg : Aside0 (Byts w7.drew w2.heap.size u5 Gx) := ⟨Kd.R_drew (Kd.R_below hgR.out bgb.out)⟩
      have zbR : Aside0 (Byts w7.drew w2.heap.size u6 Bx) := ⟨Kd.R_drew (Kd.R_below hbR.out bgb.out)⟩
      clear kgb bgb hgb hgR hbR t0 t1 t2 t3 t4 t5 hb
      have as0 := six6 zk.out
      (first | (go_region_held3 (fun w' => w'.cell? ⟨gb, 0, none⟩ = some (.int .i64 x.f0) ∧ w'.cell? ⟨gb, 1, none⟩ = some (.int .i64 x.f1) ∧ w'.cell? ⟨gb, 2, none⟩ = some (.int .i64 x.f2) ∧ w'.cell? ⟨gb, 3, none⟩ = some (.int .i64 x.f3.f0) ∧ w'.cell? ⟨gb, 4, none⟩ = some (.int .i64 x.f3.f1) ∧ w'.cell? ⟨gb, 5, none⟩ = some (.int .i64 x.f3.f2))
        (first | (with_reducible exact as0) | (with_reducible exact as1) | (with_reducible exact as2) | (with_reducible exact as3) | (with_reducible exact asa) | (with_reducible exact asr) | go_keep)
        (first
          | (go_at_call 21; (with_reducible refine (num_calls x.f0 3 w7.drew (by first | omega | (split <;> omega)) (by first | omega | (split <;> omega))).mono ?_); rintro e aw1 ⟨rfl, ab1⟩; have ak1 := Aside0.mk (row_below ab1 zk.out); have ad1 := Aside0.mk (zb.out.trans (ab1.mono zb.out.size)); have as1 := six6 ak1.out; have aq1 := Aside0.mk (ab1); clear ab1)
          | (go_at_call 21; (with_reducible refine (num_calls x.f1 3 aw1 (by first | omega | (split <;> omega)) (by first | omega | (split <;> omega))).mono ?_); rintro e aw2 ⟨rfl, ab2⟩; have ak2 := Aside0.mk (row_below ab2 ak1.out); have ad2 := Aside0.mk (ad1.out.trans (ab2.mono ad1.out.size)); have as2 := six6 ak2.out; have aq2 := Aside0.mk (aq1.out.trans (ab2.mono aq1.out.size)); clear ab2)
          | (go_at_call 21; (with_reducible refine (num_calls x.f2 3 aw2 (by first | omega | (split <;> omega)) (by first | omega | (split <;> omega))).mono ?_); rintro e aw3 ⟨rfl, ab3⟩; have ak3 := Aside0.mk (row_below ab3 ak2.out); have ad3 := Aside0.mk (ad2.out.trans (ab3.mono ad2.out.size)); have as3 := six6 ak3.out; have aq3 := Aside0.mk (aq2.out.trans (ab3.mono aq2.out.size)); clear ab3; have aba := below_alloc (Below.refl aw3.heap.size aw3) (.cells #[.int .u64 x.f0, .int .i64 3, .int .u64 x.f1, .int .i64 3, .int .u64 x.f2, .int .i64 3] 54); have ara := heap_alloc_same aw3 (.cells #[.int .u64 x.f0, .int .i64 3, .int .u64 x.f1, .int .i64 3, .int .u64 x.f2, .int .i64 3] 54); have asa := six6 (row_below aba ak3.out); have aea := zg.out; have aoa := Kd.R_below (Kd.R_below aea aq3.out) aba; have ala : some aw3.heap.size ≠ u5.ownBlock := (fun e => by have h9 := Byts.lt aea _ e.symm; have h8 := aq3.out.size; omega); have akr := row_calls w2.heap.size u5 Gx (some ⟨aw3.heap.size, 0, none⟩) 3 3 [⟨x.f0, 3⟩, ⟨x.f1, 3⟩, ⟨x.f2, 3⟩] _ aoa (ad3.out.trans (aba.mono ad3.out.size)).size (by omega) (kF_row ara (fs := [⟨x.f0, 3⟩, ⟨x.f1, 3⟩, ⟨x.f2, 3⟩]) (by simp) (by intro j f hj; rcases j with _ | _ | _ | j <;> simp at hj <;> (try subst hj) <;> exact ⟨rfl, rfl⟩)) (by intro f hf; simp at hf; rcases hf with rfl | rfl | rfl <;> first | (show (0 : Int) ≤ _; omega) | (show (0 : Int) ≤ _; split <;> omega)) (fun ad e => by cases e; exact ala); have ada := Aside0.mk (ad3.out.trans (aba.mono ad3.out.size)); have aga := Aside0.mk ((Grew.below u5 aq3.out).then_ aba); have aka := Aside0.mk (row_below aba ak3.out); clear aba ara aea aoa ala; replace akr := Aside0.mk akr)
          | (go_at_call 20; (with_reducible refine akr.out.mono ?_); rintro e awr ⟨av, rfl, ar, arb, arg⟩; have aG := Aside0.mk (aga.out.trans arg); have aD := Aside0.mk (ada.out.trans arb); have aK := Aside0.mk ((arg.blk gb (lt_row aka.out) u5_gb.out).trans aka.out); have asr := six6 aK.out; clear arg arb; replace ar := Aside0.mk ar))) | fail)
      clear as0 as1 as2 as3 asa asr
      have zk2 := Aside0.mk (show awr.drew.heap[gb]? = _ from aK.out)
      have zb2 := Aside0.mk aD.out.drew
      have zb3 : Aside0 (Byts awr.drew w2.heap.size u6 Bx) := ⟨Kd.R_drew (zbR.out.keep aG.out hap.out.symm)⟩
      have hap2 := Aside0.mk ((hap.out.symm.grew zbR.out aG.out).symm)
      go_wp2_with fail
      have cs0 := six6 zk2.out
      (first | (go_region_held3 (fun w' => w'.cell? ⟨gb, 0, none⟩ = some (.int .i64 x.f0) ∧ w'.cell? ⟨gb, 1, none⟩ = some (.int .i64 x.f1) ∧ w'.cell? ⟨gb, 2, none⟩ = some (.int .i64 x.f2) ∧ w'.cell? ⟨gb, 3, none⟩ = some (.int .i64 x.f3.f0) ∧ w'.cell? ⟨gb, 4, none⟩ = some (.int .i64 x.f3.f1) ∧ w'.cell? ⟨gb, 5, none⟩ = some (.int .i64 x.f3.f2))
        (first | (with_reducible exact cs0) | (with_reducible exact cs1) | (with_reducible exact cs2) | (with_reducible exact cs3) | (with_reducible exact csa) | (with_reducible exact csr) | go_keep)
        (first
          | (go_at_call 21; (with_reducible refine (num_calls x.f3.f0 3 awr.drew (by first | omega | (split <;> omega)) (by first | omega | (split <;> omega))).mono ?_); rintro e cw1 ⟨rfl, cb1⟩; have ck1 := Aside0.mk (row_below cb1 zk2.out); have cd1 := Aside0.mk (zb2.out.trans (cb1.mono zb2.out.size)); have cs1 := six6 ck1.out; have cq1 := Aside0.mk (cb1); clear cb1)
          | (go_at_call 21; (with_reducible refine (num_calls x.f3.f1 3 cw1 (by first | omega | (split <;> omega)) (by first | omega | (split <;> omega))).mono ?_); rintro e cw2 ⟨rfl, cb2⟩; have ck2 := Aside0.mk (row_below cb2 ck1.out); have cd2 := Aside0.mk (cd1.out.trans (cb2.mono cd1.out.size)); have cs2 := six6 ck2.out; have cq2 := Aside0.mk (cq1.out.trans (cb2.mono cq1.out.size)); clear cb2)
          | (go_at_call 21; (with_reducible refine (num_calls x.f3.f2 6 cw2 (by first | omega | (split <;> omega)) (by first | omega | (split <;> omega))).mono ?_); rintro e cw3 ⟨rfl, cb3⟩; have ck3 := Aside0.mk (row_below cb3 ck2.out); have cd3 := Aside0.mk (cd2.out.trans (cb3.mono cd2.out.size)); have cs3 := six6 ck3.out; have cq3 := Aside0.mk (cq2.out.trans (cb3.mono cq2.out.size)); clear cb3; have cba := below_alloc (Below.refl cw3.heap.size cw3) (.cells #[.int .u64 x.f3.f0, .int .i64 3, .int .u64 x.f3.f1, .int .i64 3, .int .u64 x.f3.f2, .int .i64 6] 54); have cra := heap_alloc_same cw3 (.cells #[.int .u64 x.f3.f0, .int .i64 3, .int .u64 x.f3.f1, .int .i64 3, .int .u64 x.f3.f2, .int .i64 6] 54); have csa := six6 (row_below cba ck3.out); have cea := zb3.out; have coa := Kd.R_below (Kd.R_below cea cq3.out) cba; have cla : some cw3.heap.size ≠ u6.ownBlock := (fun e => by have h9 := Byts.lt cea _ e.symm; have h8 := cq3.out.size; omega); have ckr := row_calls w2.heap.size u6 Bx (some ⟨cw3.heap.size, 0, none⟩) 3 3 [⟨x.f3.f0, 3⟩, ⟨x.f3.f1, 3⟩, ⟨x.f3.f2, 6⟩] _ coa (cd3.out.trans (cba.mono cd3.out.size)).size (by omega) (kF_row cra (fs := [⟨x.f3.f0, 3⟩, ⟨x.f3.f1, 3⟩, ⟨x.f3.f2, 6⟩]) (by simp) (by intro j f hj; rcases j with _ | _ | _ | j <;> simp at hj <;> (try subst hj) <;> exact ⟨rfl, rfl⟩)) (by intro f hf; simp at hf; rcases hf with rfl | rfl | rfl <;> first | (show (0 : Int) ≤ _; omega) | (show (0 : Int) ≤ _; split <;> omega)) (fun ad e => by cases e; exact cla); have cda := Aside0.mk (cd3.out.trans (cba.mono cd3.out.size)); have cga := Aside0.mk ((Grew.below u6 cq3.out).then_ cba); have cka := Aside0.mk (row_below cba ck3.out); clear cba cra cea coa cla; replace ckr := Aside0.mk ckr)
          | (go_at_call 20; (with_reducible refine ckr.out.mono ?_); rintro e cwr ⟨cv, rfl, cr, crb, crg⟩; have cG := Aside0.mk (cga.out.trans crg); have cD := Aside0.mk (cda.out.trans crb); have cK := Aside0.mk ((crg.blk gb (lt_row cka.out) u6_gb.out).trans cka.out); have csr := six6 cK.out; clear crg crb; replace cr := Aside0.mk cr))) | fail)
      clear cs0 cs1 cs2 cs3 csa csr
      have zg4 : Aside0 (Byts cwr w2.heap.size av (Gx ++ rowB [⟨x.f0, 3⟩, ⟨x.f1, 3⟩, ⟨x.f2, 3⟩])) := ⟨Byts.keep (Kd.R_drew ar.out) cG.out hap2.out⟩
      have hap3 := Aside0.mk (hap2.out.grew (Kd.R_drew ar.out) cG.out)
      go_wp2_with fail
      go_roundw
      case rel => exact ⟨k + 1, by simp, by omega, ⟨by rw [hgf.out]; exact zg4.out⟩, ⟨by rw [hbf.out]; exact cr.out⟩, hap3, cD⟩
      case measure => show n - ((k : Int) + 1).toNat < n - (k : Int).toNat; omega
    · obtain rfl : n = k := by omega
      have e0 : xs.take n = xs := List.take_of_length_le (by rw [hln.out]; exact Nat.le_refl _)
      rw [e0] at hgR hbR
      obtain ⟨Gx, hGx⟩ : ∃ Gx, (xs.map gB).flatten = Gx := ⟨_, rfl⟩
      obtain ⟨Bx, hBx⟩ : ∃ Bx, (xs.map bB).flatten = Bx := ⟨_, rfl⟩
      rw [hGx] at hgR
      rw [hBx] at hbR
      have c1 := c1W.out _ hb.out
      have HTr := Aside0.mk (Kd.C_below HT2.out hb.out)
      obtain ⟨wm, rfl⟩ : ∃ wm, wm = wr := ⟨_, rfl⟩
      replace hGx := Aside0.mk hGx; replace hBx := Aside0.mk hBx
      go_wp2_with fail
      go_loopw [7, 8, 56] (fun tv cv iv wr => ∃ k : Nat, iv = .int .i64 k ∧ k ≤ m ∧ Aside0 (Byts wr wm.heap.size tv (((ts.take k).map tB).flatten)) ∧ Aside0 (Byts wr wm.heap.size cv (((ts.take k).map cB).flatten)) ∧ Aside0 (Apart tv cv) ∧ Aside0 (Below wm.heap.size wm wr)) (fun _ _ iv _ => m - (intOf iv).toNat)
      case atStart => exact ⟨0, rfl, Nat.zero_le _, ⟨Kd.R_nil _ _ _ _ _⟩, ⟨Kd.R_nil _ _ _ _ _⟩, ⟨Apart.none_ _⟩, ⟨Below.refl _ _⟩⟩
      case round =>
        clear c1
        obtain ⟨k, rfl, hk, htR, hcR, hap2, hb2⟩ := hrel
        by_cases hlt : k < m
        · have p1 : 0 ≤ (k : Int) := by omega
          have q1 : (k : Int) < (m : Int) := by omega
          obtain ⟨bT, oT, x, rfl, -, hx, t0, t1, t2, t3, t4, t5, t6, t7⟩ := T_one (Kd.C_below HTr.out hb2.out) hlt
          obtain ⟨⟨y0, y0'⟩, ⟨y1, y1'⟩, ⟨y2, y2'⟩, ⟨y3, y3'⟩, ⟨y4, y4'⟩, ⟨y5, y5'⟩⟩ := T_pos F.out (List.mem_map.2 ⟨x, List.mem_of_getElem? hx, rfl⟩ : tOf x ∈ ts.map tOf)
          have y6 := hot.out x (List.mem_of_getElem? hx)
          obtain ⟨fv, hfv⟩ : ∃ fv : Int, (if x.f4 then 1 else 0 : Int) = fv := ⟨_, rfl⟩
          have hfv0 : 0 ≤ fv ∧ fv ≤ 1 := by rw [← hfv]; split <;> omega
          obtain ⟨hfv1, hfv2⟩ := hfv0
          have kfl := fun W => flag_calls x.f4 W
          rw [hfv] at kfl
          have htf := flat1 (f := tB) hx
          rw [show tB x = rowB [⟨x.f0, 3⟩, ⟨x.f1, 3⟩, ⟨x.f2, 3⟩, ⟨fv, 1⟩, ⟨x.f5, 6⟩, ⟨x.f6.f0, 8⟩, ⟨x.f6.f1, 3⟩] by unfold tB; rw [hfv]] at htf
          have hcf := flat1 (f := cB) hx
          have htl := flatL tB_len (ts.take k)
          have hcl := flatL cB_len (ts.take k)
          have hll := List.length_take_le k ts
          obtain ⟨Tx, hTx⟩ : ∃ Tx, ((ts.take k).map tB).flatten = Tx := ⟨_, rfl⟩
          obtain ⟨Cx, hCx⟩ : ∃ Cx, ((ts.take k).map cB).flatten = Cx := ⟨_, rfl⟩
          rw [hTx] at htR htf htl
          rw [hCx] at hcR hcf hcl
          have htl2 : Tx.length ≤ 400000 := by omega
          have hcl2 : Cx.length ≤ 400000 := by omega
          clear htl hcl hll
          replace hx := Aside0.mk hx; replace htf := Aside0.mk htf; replace hcf := Aside0.mk hcf; replace hTx := Aside0.mk hTx; replace hCx := Aside0.mk hCx; replace kfl := Aside0.mk kfl; replace hfv := Aside0.mk hfv
          go_wp2_with (first
            | (((with_reducible refine gate_dst (N := 12) rfl ?_); refine box_event ?hg (N := 12) ?hd (cs := #[.int .i64 0, .int .i64 0, .int .i64 0, .int .u64 0, .bool false, .int .i64 0, .int .i64 0, .int .i64 0]) (t := 59) ?hr ?_; (case hd => rfl); (case hg => rfl); (case hr => first | (go_simp; done) | (go_simp; rfl)); intro gb hgb w6 kgb bgb; replace hgb := Aside0.mk hgb; replace kgb := Aside0.mk kgb; replace bgb := Aside0.mk bgb))
            | (((with_reducible refine gate_op (.store 59 (.tmp 12) (.tmp 59)) rfl ?_); refine wpList_store_midB rfl _ _ _ rfl gb 0 [.int .i64 x.f0, .int .i64 x.f1, .int .i64 x.f2, .int .u64 x.f3, .bool x.f4, .int .i64 x.f5, .int .i64 x.f6.f0, .int .i64 x.f6.f1] rfl rfl 59 [.int .i64 0, .int .i64 0, .int .i64 0, .int .u64 0, .bool false, .int .i64 0, .int .i64 0, .int .i64 0] kgb.out szT8 (Nat.le_refl _) oneT8 ?_; obtain ⟨kk, bb⟩ := boxed (cs := [.int .i64 0, .int .i64 0, .int .i64 0, .int .u64 0, .bool false, .int .i64 0, .int .i64 0, .int .i64 0]) (cs2 := [.int .i64 x.f0, .int .i64 x.f1, .int .i64 x.f2, .int .u64 x.f3, .bool x.f4, .int .i64 x.f5, .int .i64 x.f6.f0, .int .i64 x.f6.f1]) hgb.out kgb.out bgb.out rfl; revert kk bb; generalize World.setRow _ gb (splice [.int .i64 0, .int .i64 0, .int .i64 0, .int .u64 0, .bool false, .int .i64 0, .int .i64 0, .int .i64 0] 0 [.int .i64 x.f0, .int .i64 x.f1, .int .i64 x.f2, .int .u64 x.f3, .bool x.f4, .int .i64 x.f5, .int .i64 x.f6.f0, .int .i64 x.f6.f1]).toArray = w7; clear kgb bgb; intro kgb bgb; replace kgb := Aside0.mk kgb; replace bgb := Aside0.mk bgb)))
          have u7_gb : Aside0 (some gb ≠ u7.ownBlock) := ⟨fun e => by have := htR.out.lt gb e.symm; rw [hgb.out] at this; omega⟩
          have zk := Aside0.mk (show w7.drew.heap[gb]? = _ from kgb.out)
          have zb := Aside0.mk ((hb2.out.trans (bgb.out.mono hb2.out.size)).drew)
          have zg : Aside0 (Byts w7.drew wm.heap.size u7 Tx) := ⟨Kd.R_drew (Kd.R_below htR.out bgb.out)⟩
          have zbR : Aside0 (Byts w7.drew wm.heap.size u8 Cx) := ⟨Kd.R_drew (Kd.R_below hcR.out bgb.out)⟩
          clear kgb bgb hgb htR hcR t0 t1 t2 t3 t4 t5 t6 t7 hb2
          have as0 := eight8 zk.out
          (first | (go_region_held3 (fun w' => w'.cell? ⟨gb, 0, none⟩ = some (.int .i64 x.f0) ∧ w'.cell? ⟨gb, 1, none⟩ = some (.int .i64 x.f1) ∧ w'.cell? ⟨gb, 2, none⟩ = some (.int .i64 x.f2) ∧ w'.cell? ⟨gb, 3, none⟩ = some (.int .u64 x.f3) ∧ w'.cell? ⟨gb, 4, none⟩ = some (.bool x.f4) ∧ w'.cell? ⟨gb, 5, none⟩ = some (.int .i64 x.f5) ∧ w'.cell? ⟨gb, 6, none⟩ = some (.int .i64 x.f6.f0) ∧ w'.cell? ⟨gb, 7, none⟩ = some (.int .i64 x.f6.f1))
            (first | (with_reducible exact as0) | (with_reducible exact as1) | (with_reducible exact as2) | (with_reducible exact as3) | (with_reducible exact as4) | (with_reducible exact as5) | (with_reducible exact as6) | (with_reducible exact as7) | (with_reducible exact asa) | (with_reducible exact asr) | go_keep)
            (first
              | (go_at_call 21; (with_reducible refine (num_calls x.f0 3 w7.drew (by first | omega | (split <;> omega)) (by first | omega | (split <;> omega))).mono ?_); rintro e aw1 ⟨rfl, ab1⟩; have ak1 := Aside0.mk (row_below ab1 zk.out); have ad1 := Aside0.mk (zb.out.trans (ab1.mono zb.out.size)); have as1 := eight8 ak1.out; have aq1 := Aside0.mk (ab1); clear ab1)
              | (go_at_call 21; (with_reducible refine (num_calls x.f1 3 aw1 (by first | omega | (split <;> omega)) (by first | omega | (split <;> omega))).mono ?_); rintro e aw2 ⟨rfl, ab2⟩; have ak2 := Aside0.mk (row_below ab2 ak1.out); have ad2 := Aside0.mk (ad1.out.trans (ab2.mono ad1.out.size)); have as2 := eight8 ak2.out; have aq2 := Aside0.mk (aq1.out.trans (ab2.mono aq1.out.size)); clear ab2)
              | (go_at_call 21; (with_reducible refine (num_calls x.f2 3 aw2 (by first | omega | (split <;> omega)) (by first | omega | (split <;> omega))).mono ?_); rintro e aw3 ⟨rfl, ab3⟩; have ak3 := Aside0.mk (row_below ab3 ak2.out); have ad3 := Aside0.mk (ad2.out.trans (ab3.mono ad2.out.size)); have as3 := eight8 ak3.out; have aq3 := Aside0.mk (aq2.out.trans (ab3.mono aq2.out.size)); clear ab3)
              | (go_at_call 22; (with_reducible refine (kfl.out aw3).mono ?_); rintro e wf ⟨rfl, hwf⟩; replace hwf := hwf.symm; subst hwf)
              | (go_at_call 21; (with_reducible refine (num_calls fv 1 aw3 (by first | omega | (split <;> omega)) (by first | omega | (split <;> omega))).mono ?_); rintro e aw4 ⟨rfl, ab4⟩; have ak4 := Aside0.mk (row_below ab4 ak3.out); have ad4 := Aside0.mk (ad3.out.trans (ab4.mono ad3.out.size)); have as4 := eight8 ak4.out; have aq4 := Aside0.mk (aq3.out.trans (ab4.mono aq3.out.size)); clear ab4)
              | (go_at_call 21; (with_reducible refine (num_calls x.f5 6 aw4 (by first | omega | (split <;> omega)) (by first | omega | (split <;> omega))).mono ?_); rintro e aw5 ⟨rfl, ab5⟩; have ak5 := Aside0.mk (row_below ab5 ak4.out); have ad5 := Aside0.mk (ad4.out.trans (ab5.mono ad4.out.size)); have as5 := eight8 ak5.out; have aq5 := Aside0.mk (aq4.out.trans (ab5.mono aq4.out.size)); clear ab5)
              | (go_at_call 21; (with_reducible refine (num_calls x.f6.f0 8 aw5 (by first | omega | (split <;> omega)) (by first | omega | (split <;> omega))).mono ?_); rintro e aw6 ⟨rfl, ab6⟩; have ak6 := Aside0.mk (row_below ab6 ak5.out); have ad6 := Aside0.mk (ad5.out.trans (ab6.mono ad5.out.size)); have as6 := eight8 ak6.out; have aq6 := Aside0.mk (aq5.out.trans (ab6.mono aq5.out.size)); clear ab6)
              | (go_at_call 21; (with_reducible refine (num_calls x.f6.f1 3 aw6 (by first | omega | (split <;> omega)) (by first | omega | (split <;> omega))).mono ?_); rintro e aw7 ⟨rfl, ab7⟩; have ak7 := Aside0.mk (row_below ab7 ak6.out); have ad7 := Aside0.mk (ad6.out.trans (ab7.mono ad6.out.size)); have as7 := eight8 ak7.out; have aq7 := Aside0.mk (aq6.out.trans (ab7.mono aq6.out.size)); clear ab7; have aba := below_alloc (Below.refl aw7.heap.size aw7) (.cells #[.int .u64 x.f0, .int .i64 3, .int .u64 x.f1, .int .i64 3, .int .u64 x.f2, .int .i64 3, .int .u64 fv, .int .i64 1, .int .u64 x.f5, .int .i64 6, .int .u64 x.f6.f0, .int .i64 8, .int .u64 x.f6.f1, .int .i64 3] 54); have ara := heap_alloc_same aw7 (.cells #[.int .u64 x.f0, .int .i64 3, .int .u64 x.f1, .int .i64 3, .int .u64 x.f2, .int .i64 3, .int .u64 fv, .int .i64 1, .int .u64 x.f5, .int .i64 6, .int .u64 x.f6.f0, .int .i64 8, .int .u64 x.f6.f1, .int .i64 3] 54); have asa := eight8 (row_below aba ak7.out); have aea := zg.out; have aoa := Kd.R_below (Kd.R_below aea aq7.out) aba; have ala : some aw7.heap.size ≠ u7.ownBlock := (fun e => by have h9 := Byts.lt aea _ e.symm; have h8 := aq7.out.size; omega); have akr := row_calls wm.heap.size u7 Tx (some ⟨aw7.heap.size, 0, none⟩) 7 7 [⟨x.f0, 3⟩, ⟨x.f1, 3⟩, ⟨x.f2, 3⟩, ⟨fv, 1⟩, ⟨x.f5, 6⟩, ⟨x.f6.f0, 8⟩, ⟨x.f6.f1, 3⟩] _ aoa (ad7.out.trans (aba.mono ad7.out.size)).size (by omega) (kF_row ara (fs := [⟨x.f0, 3⟩, ⟨x.f1, 3⟩, ⟨x.f2, 3⟩, ⟨fv, 1⟩, ⟨x.f5, 6⟩, ⟨x.f6.f0, 8⟩, ⟨x.f6.f1, 3⟩]) (by simp) (by intro j f hj; rcases j with _ | _ | _ | _ | _ | _ | _ | j <;> simp at hj <;> (try subst hj) <;> exact ⟨rfl, rfl⟩)) (by intro f hf; simp at hf; rcases hf with rfl | rfl | rfl | rfl | rfl | rfl | rfl <;> first | (show (0 : Int) ≤ _; omega) | (show (0 : Int) ≤ _; split <;> omega)) (fun ad e => by cases e; exact ala); have ada := Aside0.mk (ad7.out.trans (aba.mono ad7.out.size)); have aga := Aside0.mk ((Grew.below u7 aq7.out).then_ aba); have aka := Aside0.mk (row_below aba ak7.out); clear aba ara aea aoa ala; replace akr := Aside0.mk akr)
              | (go_at_call 20; (with_reducible refine akr.out.mono ?_); rintro e awr ⟨av, rfl, ar, arb, arg⟩; have aG := Aside0.mk (aga.out.trans arg); have aD := Aside0.mk (ada.out.trans arb); have aK := Aside0.mk ((arg.blk gb (lt_row aka.out) u7_gb.out).trans aka.out); have asr := eight8 aK.out; clear arg arb; replace ar := Aside0.mk ar))) | fail)
          obtain ⟨-, -, -, as3, -, -, -, -⟩ := asr
          clear as0 as1 as2 as4 as5 as6 as7 asa
          have zc := zbR.out.keep aG.out hap2.out.symm
          have hap3 := hap2.out.symm.grew zbR.out aG.out
          replace zc := Aside0.mk zc; replace hap3 := Aside0.mk hap3
          go_wp2_with fail
          change Calls _ _ _ (awr.alloc (.cells #[.int .u64 x.f3, .int .i64 8] 54)) _
          have dba := below_alloc (Below.refl awr.heap.size awr) (.cells #[.int .u64 x.f3, .int .i64 8] 54)
          have dra := heap_alloc_same awr (.cells #[.int .u64 x.f3, .int .i64 8] 54)
          have dla : some awr.heap.size ≠ u8.ownBlock := fun e => by have h9 := Byts.lt zc.out _ e.symm; omega
          have dkr := row_calls wm.heap.size u8 Cx (some ⟨awr.heap.size, 0, none⟩) 1 1 [⟨x.f3, 8⟩] _ (Kd.R_below zc.out dba) (aD.out.trans (dba.mono aD.out.size)).size (by omega) (kF_row dra (fs := [⟨x.f3, 8⟩]) (by simp) (by intro j f hj; rcases j with _ | j <;> simp at hj <;> (try subst hj) <;> exact ⟨rfl, rfl⟩)) (by intro f hf; simp at hf; subst hf; exact y6) (fun ad e => by cases e; exact dla)
          have ar2 : Byts _ wm.heap.size av (Tx ++ rowB [⟨x.f0, 3⟩, ⟨x.f1, 3⟩, ⟨x.f2, 3⟩, ⟨fv, 1⟩, ⟨x.f5, 6⟩, ⟨x.f6.f0, 8⟩, ⟨x.f6.f1, 3⟩]) := Kd.R_below ar.out dba
          have dD := aD.out.trans (dba.mono aD.out.size)
          generalize awr.alloc (.cells #[.int .u64 x.f3, .int .i64 8] 54) = wd at dkr ar2 dD ⊢
          clear dba dra dla
          with_reducible refine dkr.mono ?_
          rintro e w13 ⟨dv, rfl, r13, b13, g13⟩
          have ar3 := Byts.keep ar2 g13 hap3.out.symm
          have hap4 := hap3.out.symm.grew ar2 g13
          have hD13 := dD.trans b13
          clear ar2 g13 b13 dD dkr
          replace ar3 := Aside0.mk ar3; replace hap4 := Aside0.mk hap4; replace hD13 := Aside0.mk hD13; replace r13 := Aside0.mk r13
          go_wp2_with fail
          go_roundw
          case rel => exact ⟨k + 1, by simp, by omega, ⟨by rw [htf.out]; exact ar3.out⟩, ⟨by rw [hcf.out]; exact r13.out⟩, hap4, hD13⟩
          case measure => show m - ((k : Int) + 1).toNat < m - (k : Int).toNat; omega
        · obtain rfl : m = k := by omega
          have e1 : ts.take m = ts := List.take_of_length_le (by rw [hlm.out]; exact Nat.le_refl _)
          rw [e1] at htR hcR
          obtain ⟨A5, c5, e5, l5, C5⟩ := Kd.R_reads (Kd.R_below hgR.out hb2.out)
          obtain ⟨A6, c6, e6, l6, C6⟩ := Kd.R_reads (Kd.R_below hbR.out hb2.out)
          obtain ⟨A7, c7, e7, l7, C7⟩ := Kd.R_reads htR.out
          obtain ⟨A8, c8, e8, l8, C8⟩ := Kd.R_reads hcR.out
          obtain ⟨Tx, hTx⟩ : ∃ Tx, (ts.map tB).flatten = Tx := ⟨_, rfl⟩
          obtain ⟨Cx, hCx⟩ : ∃ Cx, (ts.map cB).flatten = Cx := ⟨_, rfl⟩
          rw [hTx] at e7 l7 C7
          rw [hCx] at e8 l8 C8
          have hsec : secsOf xs ts = [⟨1, Gx⟩, ⟨2, Bx⟩, ⟨3, Tx⟩, ⟨4, Cx⟩] := by unfold secsOf; rw [hGx.out, hBx.out, hTx, hCx]
          have hinb := secs_inB xs ts
          have hTab := hT0.out.step (hB2.out.trans ((hb.out.trans (hb2.out.mono hb.out.size)).mono hB2.out.size))
          have hBf := hb.out.trans (hb2.out.mono hb.out.size)
          obtain ⟨lG, hlG⟩ : ∃ l, Gx.length = l := ⟨_, rfl⟩
          obtain ⟨lB, hlB⟩ : ∃ l, Bx.length = l := ⟨_, rfl⟩
          obtain ⟨lT, hlT⟩ : ∃ l, Tx.length = l := ⟨_, rfl⟩
          obtain ⟨lC, hlC⟩ : ∃ l, Cx.length = l := ⟨_, rfl⟩
          rw [hlG] at e5 C5 l5
          rw [hlB] at e6 C6 l6
          rw [hlT] at e7 C7 l7
          rw [hlC] at e8 C8 l8
          rw [hsec] at hinb
          subst e5 e6 e7 e8
          clear hgR hbR htR hcR hap hap2
          replace l5 := Aside0.mk l5; replace l6 := Aside0.mk l6; replace l7 := Aside0.mk l7; replace l8 := Aside0.mk l8; replace C5 := Aside0.mk C5; replace C6 := Aside0.mk C6; replace C7 := Aside0.mk C7; replace C8 := Aside0.mk C8; replace hTx := Aside0.mk hTx; replace hCx := Aside0.mk hCx; replace hsec := Aside0.mk hsec; replace hinb := Aside0.mk hinb; replace hTab := Aside0.mk hTab; replace hBf := Aside0.mk hBf; replace hlG := Aside0.mk hlG; replace hlB := Aside0.mk hlB; replace hlT := Aside0.mk hlT; replace hlC := Aside0.mk hlC
          go_wp2_with fail
          change Calls _ _ _ (wr.alloc (.cells #[.int .i64 1, .slice A5 lG c5, .int .i64 2, .slice A6 lB c6, .int .i64 3, .slice A7 lT c7, .int .i64 4, .slice A8 lC c8] 36)) _
          have dba := below_alloc (Below.refl wr.heap.size wr) (.cells #[.int .i64 1, .slice A5 lG c5, .int .i64 2, .slice A6 lB c6, .int .i64 3, .slice A7 lT c7, .int .i64 4, .slice A8 lC c8] 36)
          have dra := heap_alloc_same wr (.cells #[.int .i64 1, .slice A5 lG c5, .int .i64 2, .slice A6 lB c6, .int .i64 3, .slice A7 lT c7, .int .i64 4, .slice A8 lC c8] 36)
          have hE4 := kE_row4 (L1 := Gx) (L2 := Bx) (L3 := Tx) (L4 := Cx) (by rw [hlG.out, hlB.out, hlT.out, hlC.out]; exact dra) (by rw [hlG.out]; exact l5.out) (by rw [hlB.out]; exact l6.out) (by rw [hlT.out]; exact l7.out) (by rw [hlC.out]; exact l8.out) (by rw [hlG.out]; exact Kd.C_below C5.out dba) (by rw [hlB.out]; exact Kd.C_below C6.out dba) (by rw [hlT.out]; exact Kd.C_below C7.out dba) (by rw [hlC.out]; exact Kd.C_below C8.out dba)
          have kp := Pack_calls _ 4 4 _ _ (hTab.out.step dba) hE4 hinb.out
          have hBg := hBf.out.trans (dba.mono hBf.out.size)
          clear hE4 dra dba
          generalize wr.alloc (.cells #[.int .i64 1, .slice A5 lG c5, .int .i64 2, .slice A6 lB c6, .int .i64 3, .slice A7 lT c7, .int .i64 4, .slice A8 lC c8] 36) = we at kp hBg ⊢
          with_reducible refine kp.mono ?_
          rintro e w14 ⟨v14, er, bs, rfl, r14, b14, he⟩
          have hBh := hB2.out.trans ((hBg.trans (b14.mono hBg.size)).mono hB2.out.size)
          have r15 := Kd.R_lower r14 (Nat.le_trans hB2.out.size hBg.size)
          clear kp r14 b14
          replace hBh := Aside0.mk hBh; replace r15 := Aside0.mk r15; replace he := Aside0.mk he
          go_wp2_with fail
          go_ret2
          exact ⟨v14, er, bs, rfl, r15.out, hBh.out, by rw [henc.out, hsec.out]; exact he.out⟩
end Go.Proofs.YtpnjhffnlafabaaGreatDoor.Im
