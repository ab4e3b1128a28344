/- told of package slots: what a head's sector tells. -/
import Derived.Test.YtiibfboendnifaaDoorSlH
import Derived.Laws.ResultCell
import Derived.Test.YtiibfboendnifaaDoorAz
namespace Go.Proofs.YtiibfboendnifaaDoor.Sl
set_option linter.unusedVariables false
set_option linter.unusedSimpArgs false
open Go.RowKit Go.Proofs.Bk Go.Proofs.Bm Go.Proofs.YtiibfboendnifaaDoor.Dk Go.Proofs.YtiibfboendnifaaDoorW.PrintWords

def hd0 : Hd := ⟨0, false, []⟩
/-- what stands in a head's sector: the age, whether there is an image, how many bytes it has -/
def rawAge (b : List Int) : Int := IntKind.i64.wrap (leNum (((b.take 21).drop 4).take 8))
def rawHas (b : List Int) : Bool := leNum ((((b.take 21).drop 4).drop 8).take 1) == 1
def rawMany (b : List Int) : Int := leNum (((((b.take 21).drop 4).drop 8).drop 1).take 4)
def rawHd (D : Dsk) (slot : Nat) : Hd := ⟨rawAge (D.sec slot), rawHas (D.sec slot), (runOf D (fromOf D slot) (halfOf D)).take (rawMany (D.sec slot)).toNat⟩
def Bad (D : Dsk) (slot : Nat) : Prop := rawAge (D.sec slot) < 1 ∨ 1099511627776 < rawAge (D.sec slot) ∨ rawAge (D.sec slot) % 2 ≠ slot ∨ 64 * (halfOf D : Int) < rawMany (D.sec slot) ∨ (0 < rawMany (D.sec slot) ∧ rawHas (D.sec slot) = false)
instance (D : Dsk) (slot : Nat) : Decidable (Bad D slot) := by unfold Bad; infer_instance
def toldOf (D : Dsk) (slot : Nat) : Hd := if Bad D slot then hd0 else if D.sec slot = pad (rawHd D slot).put then rawHd D slot else hd0

def ToldPost (D : Dsk) (slot : Nat) (w : World) (e : Ending) (w' : World) : Prop :=
  ∃ H A c, e = .returned (.tuple #[.agg (hdV H A c), .int .i64 (if D.left = 0 then 19 else 0)]) ∧ (D.left ≠ 0 → H = toldOf D slot) ∧ H.img.length ≤ c ∧ (Kd.int .u8).C w' A H.img.length H.img ∧ (∀ ad, A = some ad → w.heap.size ≤ ad.block) ∧ Below w.heap.size w w'

theorem part_ok (xs : List Int) (m : Nat) (h : m ≤ xs.length) : part xs 0 m = (xs.take m, xs.drop m, 0) := by
  unfold part; rw [if_neg (by simp), if_neg (by omega), if_neg (by omega), Int.toNat_natCast]
theorem take_ok (xs : List Int) (m : Nat) (h : m ≤ xs.length) : take xs 0 m = (leNum (xs.take m), xs.drop m, 0) := by
  unfold take; rw [part_ok xs m h]

theorem results_head {fn : Func} {p u : Tmp} {R : Nat} {cs : List Value} {tmps : Array Value} {w : World} (h : fn.results = #[.cell p 72, .tmp u]) (hp : tmps.getD p undef = .pointer (some ⟨R, 0, none⟩)) (hc : w.heap[R]? = some (.cells cs.toArray 72 (0, 0))) (hl : cs.length = 3) :
    (results fn tmps).run Tryd.prog w = .ok (.tuple #[.agg cs.toArray, tmps.getD u undef]) w := by
  rw [results_cell_tmp h, hp]
  have h1 : (asAddr (.pointer (some ⟨R, 0, none⟩))).run Tryd.prog w = .ok ⟨R, 0, none⟩ w := rfl
  have h2 : (Tryd.prog.info? 72).map (·.size) = some 3 := by kernel_rfl
  rw [h1]
  simp only [Result.andThen_ok]
  rw [Go.Proofs.Bk.run_loadVar_mid w ⟨R, 0, none⟩ 72 cs _ (cells_row hc) Tryd.underlying72 rfl (by rw [hl]; exact h2)]
  rfl
theorem size_head (cs : List Value) (h : cs.length = 3) : (Tryd.prog.info? 72).map (·.size) = some cs.length := by rw [h]; kernel_rfl
theorem head_one {a b c : Value} (ha : a.oneCell' = true := by rfl) (hb : b.oneCell' = true := by rfl) (hc : c.oneCell' = true := by rfl) : ∀ v ∈ [a, b, c], v.oneCell' = true := by
  intro v hv; simp at hv; rcases hv with e | e | e <;> rw [e] <;> assumption
theorem u8_ofNat_inj {a b : Int} (ha : 0 ≤ a ∧ a ≤ 255) (hb : 0 ≤ b ∧ b ≤ 255) (h : UInt8.ofNat a.toNat = UInt8.ofNat b.toNat) : a = b := by
  have := congrArg UInt8.toNat h
  simp only [UInt8.toNat_ofNat'] at this
  rw [Nat.mod_eq_of_lt (by omega), Nat.mod_eq_of_lt (by omega)] at this
  omega
theorem bytesOf_inj {x y : List Int} (hx : ∀ a ∈ x, 0 ≤ a ∧ a ≤ 255) (hy : ∀ a ∈ y, 0 ≤ a ∧ a ≤ 255) (h : Lib.bytesOf x = Lib.bytesOf y) : x = y := by
  induction x generalizing y with
  | nil => cases y with | nil => rfl | cons b y => simp [Lib.bytesOf] at h
  | cons a x ih =>
    cases y with
    | nil => simp [Lib.bytesOf] at h
    | cons b y =>
      simp only [Lib.bytesOf, List.map_cons, List.cons.injEq] at h
      have ha := hx a (by simp)
      have hb := hy b (by simp)
      rw [u8_ofNat_inj ha hb h.1, ih (fun c hc => hx c (by simp [hc])) (fun c hc => hy c (by simp [hc])) h.2]
theorem bytesIn_of {w : World} {A : Option Addr} {n : Nat} {xs : List Int} (h : (Kd.int .u8).C w A n xs) : Lib.BytesIn w A n xs := by
  intro hn
  obtain ⟨ad, rfl, _⟩ := h.2.2 hn
  refine Lib.BytesIn.of_cells (a := ad) (fun i hi => ?_) hn
  obtain ⟨ad', e, hx⟩ := Kd.at_int h (i : Int) (by omega) (by omega)
  obtain rfl := Option.some.inj e
  rw [Int.toNat_natCast] at hx
  rw [hx]; unfold rd; rw [Int.toNat_natCast]
theorem Equal_calls (A1 A2 : Option Addr) (n c m d : Nat) (xs ys : List Int) (w : World) (h1 : (Kd.int .u8).C w A1 n xs) (h2 : (Kd.int .u8).C w A2 m ys) (hx : ∀ a ∈ xs, 0 ≤ a ∧ a ≤ 255) (hy : ∀ a ∈ ys, 0 ≤ a ∧ a ≤ 255) :
    Calls Tryd.prog 61 #[.slice A1 n c, .slice A2 m d] w fun e w' => e = .returned (.bool (decide (xs = ys))) ∧ w = w' := by
  refine (Tryd.bytes_Equal_all A1 A2 n c m d xs ys w h1.1 h2.1 (bytesIn_of h1) (bytesIn_of h2)).mono ?_
  rintro e w' ⟨rfl, rfl⟩
  refine ⟨?_, rfl⟩
  have : (Lib.bytesOf xs == Lib.bytesOf ys) = decide (xs = ys) := by
    by_cases h : xs = ys
    · subst h; simp
    · rw [decide_eq_false h]
      exact beq_eq_false_iff_ne.2 (fun e => h (bytesOf_inj hx hy e))
  rw [this]
def zeroHd : Array Value := #[.int .i64 0, .bool false, .slice none 0 0]
theorem told_zero (D : Dsk) (slot : Nat) (w w' : World) (hb : Below w.heap.size w w') (h : D.left ≠ 0 → hd0 = toldOf D slot) : ToldPost D slot w (.returned (.tuple #[.agg zeroHd, .int .i64 (if D.left = 0 then 19 else 0)])) w' :=
  ⟨hd0, none, 0, rfl, h, Nat.le_refl _, Kd.C_nil _ _, (fun ad e => by cases e), hb⟩

theorem IsReader.keep {w w' : World} {r g : Nat} {xs : List Int} {f : Int} {F : Nat → Prop} (h : IsReader w r g xs f) (hk : KeepF F w w') (h1 : ¬ F r) (h2 : ¬ F g) : IsReader w' r g xs f := by
  obtain ⟨A, c, hr, hc, hC, hg, hrg⟩ := h
  exact ⟨A, c, (hk.block r (Array.getElem?_eq_some_iff.1 hr).1 h1).trans hr, hc, Kd_C_keep hC (fun ad e _ hf => h2 (by rw [← hg ad e]; exact hf)) hk, hg, hrg⟩
/-- a head's bytes with bytes 0 behind them -/
theorem put_zeros (w : World) (base : Nat) (v : Value) (h : Hd) (hv : w.ownsRow base 5 1 v 25 (byt h.put)) (hbase : base ≤ w.heap.size) (ty : TypeId) :
    ∃ A c W, (Builtin.append_ #[32, 3] ty #[v, .int .i64 64]).run Tryd.prog w = .ok (.slice A 89 c) W ∧ 89 ≤ c ∧ (Kd.int .u8).C W A 64 (pad h.put) ∧ Below base w W := by
  obtain ⟨ti, hti, hz⟩ := Option.map_eq_some_iff.1 info_u8
  simp only [Prod.mk.injEq] at hz
  obtain ⟨hz0, hz1, hz2⟩ := hz
  obtain ⟨g, cap, rfl⟩ := Go.Joins.ownsRow_form hv (by decide)
  obtain ⟨v2, W2, s1, s2, s3⟩ := run_append_zeros_own (P := Tryd.prog) w base 32 3 ty 5 ti (.int .u8 0) .i64 .i64 Tryd.underlying32 Tryd.underlying3 hti hz0 hz1 hz2 rfl rfl g 25 cap (byt h.put) hv 64 (by decide) hbase
  have e1 : byt h.put ++ List.replicate 64 (Value.int .u8 0) = byt (h.put ++ List.replicate 64 0) := by unfold byt; rw [List.map_append, List.map_replicate]
  rw [e1] at s2
  have hl : (h.put ++ List.replicate 64 0).length = 89 := by rw [List.length_append, h.put_length, List.length_replicate]
  obtain ⟨A, c, rfl, hC⟩ := bytes_of_row s2 hl
  have hp : pad h.put = (h.put ++ List.replicate 64 0).take 64 := by
    unfold pad
    rw [List.take_append, h.put_length, List.take_of_length_le (by rw [h.put_length]; decide), List.take_replicate]
    rfl
  refine ⟨A, c, W2, s1, row_cap s2, by rw [hp]; exact C_take0 hC 64 (by decide), (Below.refl base w).grown s3 hbase (own_base hv)⟩
/-- what stays while a head's sector is read -/
structure TS (w W : World) (n2 gg off B K M : Nat) (D : Dsk) (b : List Int) (z : Array Value) : Prop where
  bel : Below w.heap.size w W
  n1 : w.heap.size < n2
  n3 : n2 ≤ W.heap.size
  gl : gg < n2
  row : W.heap[w.heap.size]? = some (.cells z 72 (0, 0))
  cb : (Kd.int .u8).C W (some ⟨gg, off, none⟩) 64 b
  dk : IsDisk W B K M D
  bl : B < n2 ∧ K < n2 ∧ M < n2
  tab : Tab W
theorem TS.step {w W W' : World} {n2 gg off B K M : Nat} {D : Dsk} {b : List Int} {z : Array Value} {F : Nat → Prop} (h : TS w W n2 gg off B K M D b z) (hk : KeepF F W W') (hF : ∀ i, F i → n2 ≤ i) : TS w W' n2 gg off B K M D b z := by
  refine ⟨h.bel.trans (hk.to_below (Nat.le_trans (Nat.le_of_lt h.n1) h.n3) (fun i hi => by have := hF i hi; have := h.n1; omega)), h.n1, Nat.le_trans h.n3 hk.size, h.gl, (hk.block _ (Nat.lt_of_lt_of_le h.n1 h.n3) (fun hf => by have := hF _ hf; have := h.n1; omega)).trans h.row, Kd_C_keep h.cb (fun ad e _ hf => ?_) hk, h.dk.of_keep hk (fun hf => by have := hF _ hf; have := h.bl; omega) (fun hf => by have := hF _ hf; have := h.bl; omega) (fun hf => by have := hF _ hf; have := h.bl; omega), h.bl, fun j hj => keepF_cell hk (h.tab j hj) (fun hf => by have hh : n2 ≤ 0 := hF _ hf; have := h.n1; omega)⟩
  obtain rfl := Option.some.inj e
  have hh : n2 ≤ gg := hF _ hf
  have := h.gl
  omega

set_option maxHeartbeats 8000000 in
set_option maxRecDepth 100000 in
theorem told_calls (B K M : Nat) (D : Dsk) (slot : Nat) (w : World) (hT : Tab w) (h : IsDisk w B K M D) (h4 : 4 ≤ D.kept.length) (hs : slot ≤ 1) :
    Calls Tryd.prog 35 #[.pointer (some ⟨B, 0, none⟩), .int .i64 slot] w (ToldPost D slot w) := by
  have hbA := below_alloc (Below.refl w.heap.size w) (.cells zeroHd 72)
  have H1 := h.below hbA
  have hT1 := hT.step hbA
  have hrow : (w.alloc (.cells zeroHd 72)).heap[w.heap.size]? = some (.cells zeroHd 72 (0, 0)) := heap_alloc_same w _
  have hz := told_zero D slot w
  have hsec := sec_Sec h (i := slot) (by omega)
  have hrd : D.rdErr (slot : Int) = if D.left = 0 then 19 else 0 := by
    unfold Dsk.rdErr
    rw [if_pos (by unfold Dsk.has; simp; omega)]
  obtain ⟨w1, hw1⟩ : ∃ w1, w.alloc (.cells zeroHd 72) = w1 := ⟨_, rfl⟩
  rw [hw1] at hbA H1 hT1 hrow
  have hsz : w.heap.size < w1.heap.size := by rw [← hw1]; simp
  unfold zeroHd at hw1 hrow hz
  by_cases hl : D.left = 0
  · rw [if_pos hl] at hrd hz
    replace h := Aside0.mk h; replace h4 := Aside0.mk h4; replace hT := Aside0.mk hT; replace hbA := Aside0.mk hbA; replace H1 := Aside0.mk H1; replace hT1 := Aside0.mk hT1; replace hrow := Aside0.mk hrow; replace hz := Aside0.mk hz; replace hsec := Aside0.mk hsec; replace hl := Aside0.mk hl
    go_enter Tryd.func35, Tryd.ntmps35
    go_wp2_with fail
    refine (Read_calls B K M D slot w1 H1.out).mono ?_
    rintro e w2 ⟨v, rfl, _, hs2, hb2⟩
    rw [hrd] at hs2 ⊢
    rw [hs2 (by decide)]
    have hr2 := (hb2.block _ hsz).trans hrow.out
    have hB := below_step hbA.out hb2
    replace hb2 := Aside0.mk hb2; replace hr2 := Aside0.mk hr2; replace hB := Aside0.mk hB
    go_wp2_with ((with_reducible refine gate_op (.store 72 (.tmp 4) (.tmp 20)) rfl ?_); refine wpList_store_midB rfl _ _ _ rfl w.heap.size 0 [.int .i64 0, .bool false, .slice none 0 0] rfl rfl 72 [.int .i64 0, .bool false, .slice none 0 0] hr2.out (size_head _ rfl) (Nat.le_refl 3) head_one ?_)
    refine bodyPost_ret (results_head rfl rfl (setRow_heap _ _ _ _ _ _ hr2.out) rfl) rfl ?_
    exact hz.out _ (hB.out.trans ((KeepF.setRow w2 w.heap.size _).to_below hB.out.size (fun i e => by omega))) (fun h => absurd hl.out h)
  · rw [if_neg hl] at hrd hz
    obtain ⟨b, hbe⟩ : ∃ b, D.sec (slot : Int) = b := ⟨_, rfl⟩
    rw [hbe] at hsec
    have hb64 := hsec.1
    have e1 : (b.take 21).length = 21 := by rw [List.length_take]; omega
    have e2 : ((b.take 21).drop 4).length = 17 := by rw [List.length_drop]; omega
    have e3 : (((b.take 21).drop 4).drop 8).length = 9 := by rw [List.length_drop]; omega
    have e4 : ((((b.take 21).drop 4).drop 8).drop 1).length = 8 := by rw [List.length_drop]; omega
    have p1 : part (b.take 21) 0 4 = ((b.take 21).take 4, (b.take 21).drop 4, 0) := part_ok _ 4 (by omega)
    have p2 : take ((b.take 21).drop 4) 0 8 = (leNum (((b.take 21).drop 4).take 8), ((b.take 21).drop 4).drop 8, 0) := take_ok _ 8 (by omega)
    have p3 : take (((b.take 21).drop 4).drop 8) 0 1 = (leNum ((((b.take 21).drop 4).drop 8).take 1), (((b.take 21).drop 4).drop 8).drop 1, 0) := take_ok _ 1 (by omega)
    have p4 : take ((((b.take 21).drop 4).drop 8).drop 1) 0 4 = (leNum (((((b.take 21).drop 4).drop 8).drop 1).take 4), ((((b.take 21).drop 4).drop 8).drop 1).drop 4, 0) := take_ok _ 4 (by omega)
    have hr1 : ∀ x ∈ b.take 21, 0 ≤ x ∧ x ≤ 255 := fun x hx => hsec.2 x (List.mem_of_mem_take hx)
    have hr2 : ∀ x ∈ (b.take 21).drop 4, 0 ≤ x ∧ x ≤ 255 := fun x hx => hr1 x (List.mem_of_mem_drop hx)
    have hr3 : ∀ x ∈ ((b.take 21).drop 4).drop 8, 0 ≤ x ∧ x ≤ 255 := fun x hx => hr2 x (List.mem_of_mem_drop hx)
    have hr4 : ∀ x ∈ (((b.take 21).drop 4).drop 8).drop 1, 0 ≤ x ∧ x ≤ 255 := fun x hx => hr3 x (List.mem_of_mem_drop hx)
    have ea : rawAge b = IntKind.i64.wrap (leNum (((b.take 21).drop 4).take 8)) := rfl
    have eh : rawHas b = (leNum ((((b.take 21).drop 4).drop 8).take 1) == 1) := rfl
    have em : rawMany b = leNum (((((b.take 21).drop 4).drop 8).drop 1).take 4) := rfl
    have hm0 := leNum_range (((((b.take 21).drop 4).drop 8).drop 1).take 4) (fun x hx => hr4 x (List.mem_of_mem_take hx))
    have hm1 : 0 ≤ rawMany b ∧ rawMany b < 4294967296 := by
      rw [em]; refine ⟨hm0.1, ?_⟩
      have := hm0.2
      rw [List.length_take, e4] at this
      exact this
    clear hm0
    obtain ⟨age, hage⟩ : ∃ x, rawAge b = x := ⟨_, rfl⟩
    obtain ⟨has, hhas⟩ : ∃ x, rawHas b = x := ⟨_, rfl⟩
    obtain ⟨many, hmany⟩ : ∃ x, rawMany b = x := ⟨_, rfl⟩
    rw [hage] at ea; rw [hhas] at eh; rw [hmany] at em hm1
    obtain ⟨n8, hn8⟩ : ∃ x, leNum (((b.take 21).drop 4).take 8) = x := ⟨_, rfl⟩
    obtain ⟨n1, hn1⟩ : ∃ x, leNum ((((b.take 21).drop 4).drop 8).take 1) = x := ⟨_, rfl⟩
    rw [hn8] at ea p2; rw [hn1] at eh p3; rw [← em] at p4
    have hmw : IntKind.i64.wrap many = many := by rw [IntKind.wrap_i64]; omega
    replace ea := ea.symm
    replace eh := eh.symm
    have hbw : Aside0 (Below w.heap.size w w1) := ⟨hbA⟩
    replace h := Aside0.mk h; replace h4 := Aside0.mk h4; replace hT := Aside0.mk hT; replace hbA := Aside0.mk hbA; replace H1 := Aside0.mk H1; replace hT1 := Aside0.mk hT1; replace hrow := Aside0.mk hrow; replace hz := Aside0.mk hz; replace hsec := Aside0.mk hsec; replace hl := Aside0.mk hl; replace e1 := Aside0.mk e1; replace e2 := Aside0.mk e2; replace e3 := Aside0.mk e3; replace e4 := Aside0.mk e4; replace p1 := Aside0.mk p1; replace p2 := Aside0.mk p2; replace p3 := Aside0.mk p3; replace p4 := Aside0.mk p4; replace hr1 := Aside0.mk hr1; replace hr2 := Aside0.mk hr2; replace hr3 := Aside0.mk hr3; replace hr4 := Aside0.mk hr4; replace hm1 := Aside0.mk hm1; replace hage := Aside0.mk hage; replace hhas := Aside0.mk hhas; replace hmany := Aside0.mk hmany; replace hn8 := Aside0.mk hn8; replace hn1 := Aside0.mk hn1; replace em := Aside0.mk em; replace hbe := Aside0.mk hbe
    go_enter Tryd.func35, Tryd.ntmps35
    go_wp2_with fail
    refine (Read_calls B K M D slot w1 H1.out).mono ?_
    rintro e w2 ⟨v, rfl, hs2, _, hb2⟩
    rw [hrd] at hs2 ⊢
    obtain ⟨gg, hs2, hg1, hg2⟩ := hs2 rfl
    rw [hbe.out] at hs2
    obtain ⟨off, cc, rfl, hcc, hx⟩ := hs2
    rw [hb64]
    have hc64 : (64 : Int) ≤ (cc : Int) := by have := hcc.1; omega
    have hCb : (Kd.int .u8).C w2 (some ⟨gg, off, none⟩) 64 b := SlRow.c hx hb64 (by omega)
    have hq2 := (hb2.block _ hsz).trans hrow.out
    have hB2 := below_step hbA.out hb2
    have H2 := H1.out.below hb2
    have hlts := h.out.lts
    have T2 : TS w w2 w2.heap.size gg off B K M D b #[.int .i64 0, .bool false, .slice none 0 0] := ⟨hB2, by have := hb2.size; omega, Nat.le_refl _, hg2, hq2, hCb, H2, by have := hb2.size; omega, hT1.out.step hb2⟩
    obtain ⟨n2, hn2⟩ : ∃ n2, w2.heap.size = n2 := ⟨_, rfl⟩
    rw [hn2] at T2
    replace hb2 := Aside0.mk hb2; replace hq2 := Aside0.mk hq2; replace hB2 := Aside0.mk hB2; replace hCb := Aside0.mk hCb; replace hx := Aside0.mk hx; replace hcc := Aside0.mk hcc; replace H2 := Aside0.mk H2; replace T2 := Aside0.mk T2; replace hlts := Aside0.mk hlts
    go_wp2_with fail
    refine (NewR_calls _ 21 cc (b.take 21) w2 (C_take0 hCb.out 21 (by omega)) (by omega)).mono ?_
    rintro e w3 ⟨r, gr, rfl, hR3, hr3b, hb3, hgrl⟩
    replace hgrl := hgrl (by rw [e1.out]; decide)
    rw [hn2] at hr3b
    have T3 := T2.out.step (F := fun _ => False) (KeepF.of_below hb3) (fun i hi => hi.elim)
    replace hb3 := Aside0.mk hb3; replace hR3 := Aside0.mk hR3; replace T3 := Aside0.mk T3
    go_wp2_with fail
    refine (Part_calls r gr (b.take 21) 0 4 w3 hR3.out).mono ?_
    rintro e w4 ⟨A4, n4, c4, rfl, _, _, _, hR4, hk4⟩
    rw [p1.out] at hR4
    have T4 := T3.out.step hk4 (fun i e => by omega)
    have hrl : r < w4.heap.size := by obtain ⟨_, _, hh, _⟩ := hR4; exact (Array.getElem?_eq_some_iff.1 hh).1
    have hbh := below_alloc (Below.refl w4.heap.size w4) (.cells #[.int .i64 0, .bool false, .slice none 0 0] 72)
    have T5 := T4.step (F := fun _ => False) (KeepF.of_below hbh) (fun i hi => hi.elim)
    have hR5 := hR4.keep (F := fun _ => False) (KeepF.of_below hbh) (fun h => h) (fun h => h)
    have hh5 : (w4.alloc (.cells #[.int .i64 0, .bool false, .slice none 0 0] 72)).heap[w4.heap.size]? = some (.cells #[.int .i64 0, .bool false, .slice none 0 0] 72 (0, 0)) := heap_alloc_same _ _
    have hne : r ≠ w4.heap.size := by omega
    have hgn : gr ≠ w4.heap.size := by have := hk4.size; omega
    obtain ⟨w5, hw5⟩ : ∃ w5, w4.alloc (.cells #[.int .i64 0, .bool false, .slice none 0 0] 72) = w5 := ⟨_, rfl⟩
    rw [hw5] at T5 hR5 hh5
    obtain ⟨hb, hhb⟩ : ∃ hb, w4.heap.size = hb := ⟨_, rfl⟩
    rw [hhb] at hh5 hne hgn
    have hhn : n2 ≤ hb := by have := T4.n3; omega
    replace T4 := Aside0.mk T4; replace hR4 := Aside0.mk hR4; replace hk4 := Aside0.mk hk4; replace hbh := Aside0.mk hbh; replace T5 := Aside0.mk T5; replace hR5 := Aside0.mk hR5; replace hh5 := Aside0.mk hh5; replace hrl := Aside0.mk hrl; replace hne := Aside0.mk hne; replace hgn := Aside0.mk hgn; replace hhn := Aside0.mk hhn
    go_wp2_with fail
    refine (Take_calls r gr _ 0 8 8 w5 hR5.out hr2.out (by decide) (by decide)).mono ?_
    rintro e w6 ⟨rfl, hR6, hk6⟩
    rw [p2.out] at hR6 ⊢
    have T6 := T5.out.step hk6 (fun i e => by omega)
    have hh6 := (hk6.block hb (Array.getElem?_eq_some_iff.1 hh5.out).1 (fun e => hne.out e.symm)).trans hh5.out
    have z0 := cell_row hh6 0
    have f0 := frozen_row hh6 0
    replace hR6 := Aside0.mk hR6; replace hk6 := Aside0.mk hk6; replace T6 := Aside0.mk T6; replace hh6 := Aside0.mk hh6
    go_wp2_with fail
    have k7 := KeepF.setCell w6 ⟨hb, 0, none⟩ (.int .i64 age)
    have T7 := T6.out.step k7 (fun i e => by have : i = hb := e; have := hhn.out; omega)
    have hR7 := hR6.out.keep k7 (fun e => hne.out e) (fun e => hgn.out e)
    have hh7 := heap_set_same hh6.out 0 (.int .i64 age)
    obtain ⟨w7, hw7⟩ : ∃ w7, w6.setCell ⟨hb, 0, none⟩ (.int .i64 age) = w7 := ⟨_, rfl⟩
    rw [hw7] at T7 hR7 hh7 ⊢
    clear hw7 k7 z0 f0
    refine (Take_calls r gr _ 0 1 1 w7 hR7 hr3.out (by decide) (by decide)).mono ?_
    rintro e w8 ⟨rfl, hR8, hk8⟩
    rw [p3.out] at hR8 ⊢
    have T8 := T7.step hk8 (fun i e => by have hhr3b := hr3b; omega)
    have hh8 : w8.heap[hb]? = some (.cells #[.int .i64 age, .bool false, .slice none 0 0] 72 (0, 0)) := (hk8.block hb (Array.getElem?_eq_some_iff.1 hh7).1 (fun e => hne.out e.symm)).trans hh7
    have z1 := cell_row hh8 1
    have f1 := frozen_row hh8 1
    replace hR8 := Aside0.mk hR8; replace hk8 := Aside0.mk hk8; replace T7 := Aside0.mk T7; replace hR7 := Aside0.mk hR7; replace hh7 := Aside0.mk hh7; replace T8 := Aside0.mk T8; replace hh8 := Aside0.mk hh8
    go_wp2_with fail
    have k9 := KeepF.setCell w8 ⟨hb, 1, none⟩ (.bool has)
    have T9 := T8.out.step k9 (fun i e => by have : i = hb := e; have := hhn.out; omega)
    have hR9 := hR8.out.keep k9 (fun e => hne.out e) (fun e => hgn.out e)
    have hh9 := heap_set_same hh8.out 1 (.bool has)
    obtain ⟨w9, hw9⟩ : ∃ w9, w8.setCell ⟨hb, 1, none⟩ (.bool has) = w9 := ⟨_, rfl⟩
    rw [hw9] at T9 hR9 hh9 ⊢
    clear hw9 k9 z1 f1
    refine (Take_calls r gr _ 0 4 4 w9 hR9 hr4.out (by decide) (by decide)).mono ?_
    rintro e w10 ⟨rfl, hR10, hk10⟩
    rw [p4.out] at hR10 ⊢
    have T10 := T9.step hk10 (fun i e => by have hhr3b := hr3b; omega)
    have hh10 : w10.heap[hb]? = some (.cells #[.int .i64 age, .bool has, .slice none 0 0] 72 (0, 0)) := (hk10.block hb (Array.getElem?_eq_some_iff.1 hh9).1 (fun e => hne.out e.symm)).trans hh9
    have z0 : w10.cell? ⟨hb, 0, none⟩ = some (.int .i64 age) := (cell_row hh10 0).trans rfl
    have z1 : w10.cell? ⟨hb, 1, none⟩ = some (.bool has) := (cell_row hh10 1).trans rfl
    have hbad : Bad D slot ↔ (age < 1 ∨ 1099511627776 < age ∨ age % 2 ≠ slot ∨ 64 * (halfOf D : Int) < many ∨ (0 < many ∧ has = false)) := by
      unfold Bad; rw [hbe.out, hage.out, hhas.out, hmany.out]
    have htz : Bad D slot → Aside0 (hd0 = toldOf D slot) := fun h => ⟨by unfold toldOf; rw [if_pos h]⟩
    have hhl := half_le h.out
    replace hR10 := Aside0.mk hR10; replace hk10 := Aside0.mk hk10; replace T9 := Aside0.mk T9; replace hR9 := Aside0.mk hR9; replace hh9 := Aside0.mk hh9; replace T10 := Aside0.mk T10; replace hh10 := Aside0.mk hh10
    by_cases k1 : age < 1
    · replace htz := htz (hbad.2 (.inl k1))
      clear hbad
      go_wp2_with (first
        | ((with_reducible refine gate_op (.store 72 (.tmp 4) (.tmp 69)) rfl ?_); refine wpList_store_midB rfl _ _ _ rfl w.heap.size 0 [.int .i64 0, .bool false, .slice none 0 0] rfl rfl 72 [.int .i64 0, .bool false, .slice none 0 0] T10.out.row (size_head _ rfl) (Nat.le_refl 3) head_one ?_))
      refine bodyPost_ret (results_head rfl rfl (setRow_heap _ _ _ _ _ _ T10.out.row) rfl) rfl ?_
      exact hz.out _ (T10.out.bel.trans ((KeepF.setRow w10 w.heap.size _).to_below T10.out.bel.size (fun i e => by omega))) (fun _ => htz.out)
    · by_cases k2 : 1099511627776 < age
      · replace htz := htz (hbad.2 (.inr (.inl k2)))
        clear hbad
        go_wp2_with (first
          | ((with_reducible refine gate_op (.store 72 (.tmp 4) (.tmp 69)) rfl ?_); refine wpList_store_midB rfl _ _ _ rfl w.heap.size 0 [.int .i64 0, .bool false, .slice none 0 0] rfl rfl 72 [.int .i64 0, .bool false, .slice none 0 0] T10.out.row (size_head _ rfl) (Nat.le_refl 3) head_one ?_))
        refine bodyPost_ret (results_head rfl rfl (setRow_heap _ _ _ _ _ _ T10.out.row) rfl) rfl ?_
        exact hz.out _ (T10.out.bel.trans ((KeepF.setRow w10 w.heap.size _).to_below T10.out.bel.size (fun i e => by omega))) (fun _ => htz.out)
      · by_cases k3 : age % 2 = (slot : Int)
        · have k3' : (age % 2 != (slot : Int)) = false := by simpa using k3
          by_cases k4 : 64 * (halfOf D : Int) < many
          · replace htz := htz (hbad.2 (.inr (.inr (.inr (.inl k4)))))
            clear hbad k3
            go_wp2_with (first
              | (go_at_call 43; refine (half_calls B K M D w10 T10.out.dk (by have := h4.out; omega)).mono ?_; rintro e w' ⟨rfl, rfl⟩)
              | ((with_reducible refine gate_op (.store 72 (.tmp 4) (.tmp 69)) rfl ?_); refine wpList_store_midB rfl _ _ _ rfl w.heap.size 0 [.int .i64 0, .bool false, .slice none 0 0] rfl rfl 72 [.int .i64 0, .bool false, .slice none 0 0] T10.out.row (size_head _ rfl) (Nat.le_refl 3) head_one ?_))
            refine bodyPost_ret (results_head rfl rfl (setRow_heap _ _ _ _ _ _ T10.out.row) rfl) rfl ?_
            exact hz.out _ (T10.out.bel.trans ((KeepF.setRow w10 w.heap.size _).to_below T10.out.bel.size (fun i e => by omega))) (fun _ => htz.out)
          · by_cases k5 : 0 < many ∧ has = false
            · replace htz := htz (hbad.2 (.inr (.inr (.inr (.inr k5)))))
              obtain ⟨k5, rfl⟩ := k5
              clear hbad k3
              go_wp2_with (first
                | (go_at_call 43; refine (half_calls B K M D w10 T10.out.dk (by have := h4.out; omega)).mono ?_; rintro e w' ⟨rfl, rfl⟩)
                | ((with_reducible refine gate_op (.store 72 (.tmp 4) (.tmp 69)) rfl ?_); refine wpList_store_midB rfl _ _ _ rfl w.heap.size 0 [.int .i64 0, .bool false, .slice none 0 0] rfl rfl 72 [.int .i64 0, .bool false, .slice none 0 0] T10.out.row (size_head _ rfl) (Nat.le_refl 3) head_one ?_))
              refine bodyPost_ret (results_head rfl rfl (setRow_heap _ _ _ _ _ _ T10.out.row) rfl) rfl ?_
              exact hz.out _ (T10.out.bel.trans ((KeepF.setRow w10 w.heap.size _).to_below T10.out.bel.size (fun i e => by omega))) (fun _ => htz.out)
            · have hgood : ¬ Bad D slot := fun hh => by
                rcases hbad.1 hh with h | h | h | h | h
                · exact k1 h
                · exact k2 h
                · exact h k3
                · exact k4 h
                · exact k5 h
              replace hgood := Aside0.mk hgood
              clear hbad htz
              obtain ⟨m, rfl⟩ : ∃ m : Nat, many = m := ⟨many.toNat, by have := hm1.out; omega⟩
              have hmh : m ≤ 64 * halfOf D := by omega
              have hk6 : (m = 0) ∨ (0 < (m : Int) ∧ has = true) := by
                rcases Nat.eq_zero_or_pos m with h | h
                · exact .inl h
                · cases has
                  · exact absurd ⟨by omega, rfl⟩ k5
                  · exact .inr ⟨by omega, rfl⟩
              obtain ⟨hq, hqe⟩ : ∃ hq : Hd, hq = ⟨age, has, (runOf D (fromOf D slot) (halfOf D)).take m⟩ := ⟨_, rfl⟩
              have hrl := runOf_length h.out (fromOf D slot) (halfOf D) (by
                have := h4.out
                unfold fromOf halfOf
                rcases (by omega : slot = 0 ∨ slot = 1) with rfl | rfl <;> omega)
              have hqn : hq.img.length = m := by rw [hqe]; show ((runOf D (fromOf D slot) (halfOf D)).take m).length = m; rw [List.length_take]; omega
              have hqV : ∀ A c, hdV hq A c = #[.int .i64 age, .bool has, .slice A m c] := fun A c => by unfold hdV; rw [hqn, hqe]
              have hqi : hq.img = (runOf D (fromOf D slot) (halfOf D)).take m := by rw [hqe]
              have hqok : hq.Ok := by rw [hqe]; exact ⟨by show 0 ≤ age; omega, by show age ≤ _; omega, fun x hx => hrl.2 x (List.mem_of_mem_take hx), by show ((runOf D (fromOf D slot) (halfOf D)).take m).length ≤ _; rw [List.length_take]; omega⟩
              have hqr : rawHd D slot = hq := by unfold rawHd; rw [hbe.out, hage.out, hhas.out, hmany.out, Int.toNat_natCast, hqe]
              have htold : toldOf D slot = if b = pad hq.put then hq else hd0 := by
                unfold toldOf; rw [if_neg hgood.out, hqr, hbe.out]
              have hrdc := read_calls B K M D slot m w10 T10.out.dk h4.out hl.out hs hmh
              replace hmh := Aside0.mk hmh; replace hgood := Aside0.mk hgood; replace hrdc := Aside0.mk hrdc; replace hqe := Aside0.mk hqe; replace hrl := Aside0.mk hrl; replace hqn := Aside0.mk hqn; replace hqV := Aside0.mk hqV; replace hqi := Aside0.mk hqi; replace hqok := Aside0.mk hqok; replace hqr := Aside0.mk hqr; replace htold := Aside0.mk htold
              clear k5 k3
              rcases hk6 with rfl | ⟨hmp, rfl⟩
              all_goals (
                go_wp2_with (first
                  | (go_at_call 43; refine (half_calls B K M D w10 T10.out.dk (by have := h4.out; omega)).mono ?_; rintro e w' ⟨rfl, rfl⟩)
                  | (go_at_call 59; refine hrdc.out.mono ?_; rintro e w11 ⟨A, c, rfl, hmc, hC11, hfar, hb11⟩; have hh11 := (hb11.block hb (Array.getElem?_eq_some_iff.1 hh10.out).1).trans hh10.out; have zf := frozen_row hh11 2; have z2 := cell_row hh11 2; have T11 := T10.out.step (F := fun _ => False) (KeepF.of_below hb11) (fun i hi => hi.elim); replace hC11 := Aside0.mk hC11; replace hfar := Aside0.mk hfar; replace hb11 := Aside0.mk hb11; replace hh11 := Aside0.mk hh11; replace T11 := Aside0.mk T11)
                  | ((with_reducible refine gate_op (.load 72 (.tmp 9)) rfl ?_); refine wpList_load_midB rfl _ _ rfl ⟨hb, 0, none⟩ rfl [.int .i64 age, .bool _, .slice A _ c] _ (cells_row (heap_set_same hh11.out 2 _)) Tryd.underlying72 rfl (size_head _ rfl) ?_))
                obtain ⟨u, hu⟩ : ∃ u, u = Value.slice A hq.img.length c := ⟨_, rfl⟩
                have k12 := KeepF.setCell w11 ⟨hb, 2, none⟩ u
                have T12 := T11.out.step k12 (fun i e => by have : i = hb := e; have := hhn.out; omega)
                have hh12 := heap_set_same hh11.out 2 u
                have hC12 := Kd_C_keep hC11.out (fun ad e hp (he : ad.block = hb) => by
                  have h1 := hfar.out ad e
                  have h2 := (Array.getElem?_eq_some_iff.1 hh10.out).1
                  omega) k12
                obtain ⟨w12, hw12⟩ : ∃ w12, w11.setCell ⟨hb, 2, none⟩ u = w12 := ⟨_, rfl⟩
                rw [hw12] at T12 hh12 hC12
                rw [hqn.out] at hu
                rw [hu] at hw12 hh12
                rw [hw12]
                clear hw12 zf z2 z0 z1
                have hpc := put_calls hq A c w12 T12.tab hqok.out (by rw [hqn.out, hqi.out]; exact hC12)
                rw [hqV.out] at hpc
                replace k12 := Aside0.mk k12; replace T12 := Aside0.mk T12; replace hh12 := Aside0.mk hh12; replace hC12 := Aside0.mk hC12
                refine hpc.mono ?_
                rintro e w13 ⟨v, rfl, hv, hb13⟩
                have T13 := T12.out.step (F := fun _ => False) (KeepF.of_below hb13) (fun i hi => hi.elim)
                have hh13 := (hb13.block hb (Array.getElem?_eq_some_iff.1 hh12.out).1).trans hh12.out
                have hC13 := Kd.C_below hC12.out hb13
                obtain ⟨A2, c2, w14, q1, hc2, hC14, hb14⟩ := put_zeros w13 w12.heap.size v hq hv hb13.size 32
                have T14 := T13.step (F := fun i => w12.heap.size ≤ i) ⟨hb14.os, hb14.tape, hb14.output, hb14.size, fun i hi hn => hb14.block i (by omega)⟩ (fun i hi => Nat.le_trans T12.out.n3 hi)
                have hl12 := (Array.getElem?_eq_some_iff.1 hh12.out).1
                have hh14 := (hb14.block hb hl12).trans hh13
                have hCC : (Kd.int .u8).C w14 A hq.img.length hq.img := by
                  have := Kd.C_below hC12.out (⟨by rw [hb14.os, hb13.os], by rw [hb14.tape, hb13.tape], by rw [hb14.output, hb13.output], Nat.le_trans hb13.size hb14.size, fun i hi => (hb14.block i hi).trans (hb13.block i hi)⟩ : Below w12.heap.size w12 w14)
                  rw [hqn.out, hqi.out]; exact this
                have hc89 : (89 : Int) ≤ (c2 : Int) := by omega
                have hmc' := hmc
                replace hv := Aside0.mk hv; replace hb13 := Aside0.mk hb13; replace T13 := Aside0.mk T13; replace hh13 := Aside0.mk hh13; replace hC13 := Aside0.mk hC13; replace hC14 := Aside0.mk hC14; replace hb14 := Aside0.mk hb14; replace T14 := Aside0.mk T14; replace hh14 := Aside0.mk hh14; replace hCC := Aside0.mk hCC; replace hl12 := Aside0.mk hl12
                go_wp2_with ((with_reducible refine gate_op (.call ⟨.builtin .append, #[.tmp 83, .const (.int .i64 64)], #[32, 3]⟩) rfl ?_); refine Lib.wpList_append_run _ rfl (.tmp 83) (.const (.int .i64 64)) 32 3 rfl _ _ rfl rfl _ w14 q1 ?_)
                refine (Equal_calls (some ⟨gg, off, none⟩) A2 64 cc 64 c2 b (pad hq.put) w14 T14.out.cb hC14.out hsec.out.2 (pad_sec (by rw [Hd.put_length]; decide) (Hd.put_range hq)).2).mono ?_
                rintro e w' ⟨rfl, rfl⟩
                by_cases hbq : b = pad hq.put
                · have ht2 := htold.out
                  rw [if_pos hbq] at ht2
                  rw [decide_eq_true hbq]
                  replace hbq := Aside0.mk hbq; replace ht2 := Aside0.mk ht2
                  go_wp2_with (first
                    | ((with_reducible refine gate_op (.load 72 (.tmp 9)) rfl ?_); refine wpList_load_midB rfl _ _ rfl ⟨hb, 0, none⟩ rfl [.int .i64 age, .bool _, .slice A _ c] _ (cells_row hh14.out) Tryd.underlying72 rfl (size_head _ rfl) ?_)
                    | ((with_reducible refine gate_op (.store 72 (.tmp 4) (.tmp 91)) rfl ?_); refine wpList_store_midB rfl _ _ _ rfl w.heap.size 0 [.int .i64 age, .bool _, .slice A _ c] rfl rfl 72 [.int .i64 0, .bool false, .slice none 0 0] T14.out.row (size_head _ rfl) (Nat.le_refl 3) head_one ?_))
                  refine bodyPost_ret (results_head rfl rfl (setRow_heap _ _ _ _ _ _ T14.out.row) rfl) rfl ?_
                  have kR := fun cs => KeepF.setRow w14 w.heap.size cs
                  refine ⟨hq, A, c, ?_, fun _ => ht2.out.symm, by rw [hqn.out]; exact hmc', Kd_C_keep hCC.out (fun ad e _ (hE : ad.block = w.heap.size) => ?_) (kR _), fun ad e => ?_, ?_⟩
                  · rw [hqV.out, if_neg hl.out]; rfl
                  · have h1 := hfar.out ad e
                    have h2 := T10.out.n1
                    have h3 := T10.out.n3
                    omega
                  · have h1 := hfar.out ad e
                    have h2 := T10.out.n1
                    have h3 := T10.out.n3
                    omega
                  · exact T14.out.bel.trans ((kR _).to_below T14.out.bel.size (fun i e => by omega))
                · have ht2 := htold.out
                  rw [if_neg hbq] at ht2
                  rw [decide_eq_false hbq]
                  replace hbq := Aside0.mk hbq; replace ht2 := Aside0.mk ht2
                  go_wp2_with ((with_reducible refine gate_op (.store 72 (.tmp 4) (.tmp 90)) rfl ?_); refine wpList_store_midB rfl _ _ _ rfl w.heap.size 0 [.int .i64 0, .bool false, .slice none 0 0] rfl rfl 72 [.int .i64 0, .bool false, .slice none 0 0] T14.out.row (size_head _ rfl) (Nat.le_refl 3) head_one ?_)
                  refine bodyPost_ret (results_head rfl rfl (setRow_heap _ _ _ _ _ _ T14.out.row) rfl) rfl ?_
                  exact hz.out _ (T14.out.bel.trans ((KeepF.setRow w14 w.heap.size _).to_below T14.out.bel.size (fun i e => by omega))) (fun _ => ht2.out.symm))
        · have k3' : (age % 2 != (slot : Int)) = true := by simpa using k3
          replace htz := htz (hbad.2 (.inr (.inr (.inl k3))))
          clear hbad k3
          go_wp2_with (first
            | ((with_reducible refine gate_op (.store 72 (.tmp 4) (.tmp 69)) rfl ?_); refine wpList_store_midB rfl _ _ _ rfl w.heap.size 0 [.int .i64 0, .bool false, .slice none 0 0] rfl rfl 72 [.int .i64 0, .bool false, .slice none 0 0] T10.out.row (size_head _ rfl) (Nat.le_refl 3) head_one ?_))
          refine bodyPost_ret (results_head rfl rfl (setRow_heap _ _ _ _ _ _ T10.out.row) rfl) rfl ?_
          exact hz.out _ (T10.out.bel.trans ((KeepF.setRow w10 w.heap.size _).to_below T10.out.bel.size (fun i e => by omega))) (fun _ => htz.out)
end Go.Proofs.YtiibfboendnifaaDoor.Sl
