/- A scene in memory; which of its groups and tasks cannot be: slices.ContainsFunc over oddGroup and oddTask. Ids of a scene; slices.Sort and slices.Compact at a row of the call's own; when two numbers are one. -/
import Derived.Test.YtpnjhffnlafabaaGreatDoorVSp1
import Derived.Test.YtpnjhffnlafabaaGreatDoorVSc1
import Derived.Test.YtpnjhffnlafabaaGreatDoorVBk
import Derived.Test.YtpnjhffnlafabaaGreatDoorVOp
import Derived.Test.YtpnjhffnlafabaaGreatDoorVShelf
import Derived.Test.YtpnjhffnlafabaaGreatDoorVKf
import Derived.Sort.OwnSortedInts
import Derived.Lib.OwnBridge
namespace Go.Proofs.YtpnjhffnlafabaaGreatDoor.Sn
set_option linter.unusedVariables false
set_option linter.unusedSimpArgs false
open Go.RowKit Go.Shelf Go.Proofs.Bk Go.Proofs.Bm Go.Proofs.Op Go.Proofs.Sc Go.Proofs.YtpnjhffnlafabaaGreatDoorW.PrintWords Go.Proofs.YtpnjhffnlafabaaGreatDoor.PImageBack
abbrev SG := S50
abbrev ST := S59
abbrev kG : Kd SG := k50
abbrev kT : Kd ST := k59
instance : Inhabited SG := ⟨z50⟩
instance : Inhabited ST := ⟨z59⟩
def gOf (x : SG) : G := ⟨x.f0, x.f1, x.f2, x.f3.f0, x.f3.f1, x.f3.f2⟩
def tOf (x : ST) : T := ⟨x.f0, x.f1, x.f2, x.f3, x.f4, x.f5, x.f6.f0, x.f6.f1⟩
def gC (x : SG) : List Value := [.int .i64 x.f0, .int .i64 x.f1, .int .i64 x.f2, .int .i64 x.f3.f0, .int .i64 x.f3.f1, .int .i64 x.f3.f2]
def tC (x : ST) : List Value := [.int .i64 x.f0, .int .i64 x.f1, .int .i64 x.f2, .int .u64 x.f3, .bool x.f4, .int .i64 x.f5, .int .i64 x.f6.f0, .int .i64 x.f6.f1]
def okG (x : SG) : Prop := (Lit.int .i64 x.f0).wf = true ∧ (Lit.int .i64 x.f1).wf = true ∧ (Lit.int .i64 x.f2).wf = true ∧ (Lit.int .i64 x.f3.f0).wf = true ∧ (Lit.int .i64 x.f3.f1).wf = true ∧ (Lit.int .i64 x.f3.f2).wf = true
theorem wf64 {x : Int} (h : (Lit.int .i64 x).wf = true) : -9223372036854775808 ≤ x ∧ x ≤ 9223372036854775807 := by
  simp [Lit.wf, IntKind.min, IntKind.max, IntKind.signed, IntKind.bits] at h; omega
theorem gOf_inj {x y : SG} : gOf x = gOf y ↔ x = y := by
  obtain ⟨a, b, c, ⟨d, e, f⟩⟩ := x
  obtain ⟨a', b', c', ⟨d', e', f'⟩⟩ := y
  simp [gOf]
theorem tOf_inj {x y : ST} : tOf x = tOf y ↔ x = y := by
  obtain ⟨a, b, c, d, e, f, ⟨g, h⟩⟩ := x
  obtain ⟨a', b', c', d', e', f', ⟨g', h'⟩⟩ := y
  simp [tOf]
theorem spot_none {w : World} {a : Addr} {v : Value} (h : w.cell? a = some v) : a.spot = none ∧ a.block < w.heap.size := by
  refine ⟨?_, World.block_lt_of_cell? w _ h⟩
  unfold World.cell? at h
  split at h
  · split at h
    · cases h
    · rename_i h1; cases hs : a.spot with
      | none => rfl
      | some x => rw [hs] at h1; exact absurd rfl h1
  · cases h
theorem add_at {b off m : Nat} : (⟨b, off, none⟩ : Addr).add m = ⟨b, off + m, none⟩ := by
  unfold Addr.add; split
  · rename_i h; subst h; rfl
  · rfl
theorem C_at {α : Type} {d : Kd α} {w : World} {A : Option Addr} {n : Nat} {xs : List α} (h : d.C w A n xs) (hn : 0 < n) (hs : 0 < d.sz) :
    ∃ b off, A = some ⟨b, off, none⟩ ∧ b < w.heap.size ∧ ∀ j x, xs[j]? = some x → ∃ c, c.length = d.sz ∧ d.K w x c ∧ ∀ i u, c[i]? = some u → w.cell? ⟨b, off + j * d.sz + i, none⟩ = some u := by
  obtain ⟨ad, rfl, hc⟩ := h.2.2 hn
  have hl := h.1
  obtain ⟨c, h1, h2, h3⟩ := hc 0 _ (List.getElem?_eq_getElem (show 0 < xs.length by omega))
  have h4 := h3 0 _ (List.getElem?_eq_getElem (show 0 < c.length by omega))
  obtain ⟨p1, p2⟩ := spot_none h4
  rw [Nat.zero_mul, Nat.zero_add] at p1 p2
  have e0 : ad.add 0 = ad := rfl
  rw [e0] at p1 p2
  obtain ⟨b, off, sp⟩ := ad
  obtain rfl : sp = none := p1
  refine ⟨b, off, rfl, p2, fun j x hx => ?_⟩
  obtain ⟨c', q1, q2, q3⟩ := hc j x hx
  refine ⟨c', q1, q2, fun i u hu => ?_⟩
  have := q3 i u hu
  rw [add_at] at this
  rw [Nat.add_assoc]; exact this
theorem G_at {w : World} {A : Option Addr} {n : Nat} {xs : List SG} (h : kG.C w A n xs) (hn : 0 < n) :
    ∃ b off, A = some ⟨b, off, none⟩ ∧ b < w.heap.size ∧ ∀ j, j < xs.length → ∀ i v, (gC xs[j]!)[i]? = some v → w.cell? ⟨b, off + j * 6 + i, none⟩ = some v := by
  obtain ⟨b, off, h1, h2, h3⟩ := C_at h hn (by decide)
  refine ⟨b, off, h1, h2, fun j hj i v hv => ?_⟩
  have e : xs[j]! = xs[j] := by rw [getElem!_pos xs j hj]
  obtain ⟨c, _, q2, q3⟩ := h3 j _ (List.getElem?_eq_getElem hj)
  obtain rfl := k50_open q2
  rw [e] at hv
  exact q3 i v hv
theorem T_at {w : World} {A : Option Addr} {n : Nat} {xs : List ST} (h : kT.C w A n xs) (hn : 0 < n) :
    ∃ b off, A = some ⟨b, off, none⟩ ∧ b < w.heap.size ∧ ∀ j, j < xs.length → ∀ i v, (tC xs[j]!)[i]? = some v → w.cell? ⟨b, off + j * 8 + i, none⟩ = some v := by
  obtain ⟨b, off, h1, h2, h3⟩ := C_at h hn (by decide)
  refine ⟨b, off, h1, h2, fun j hj i v hv => ?_⟩
  have e : xs[j]! = xs[j] := by rw [getElem!_pos xs j hj]
  obtain ⟨c, _, q2, q3⟩ := h3 j _ (List.getElem?_eq_getElem hj)
  obtain rfl := k59_open q2
  rw [e] at hv
  exact q3 i v hv
/-! oddGroup and oddTask say what the plain ones say -/
theorem bandR_eq {p q u : Int} (hp : (Lit.int .i64 p).wf = true) (g : G) (h1 : g.period = p) (h2 : g.quota = q) (h3 : g.used = u) : bandR p q u = bandRight g := by
  subst h1; subst h2; subst h3
  have := wf64 hp
  unfold bandR bandRight
  by_cases h : g.quota = 0
  · simp [h]
  · rw [if_neg h, if_neg h]
    congr 2
    unfold within0 within1 wrap64
    rw [Bool.eq_iff_iff]
    simp
    omega
def oddGs (x : SG) : Bool := !within1 x.f0 1048576 || !within1 x.f2 1048576 || !bandR x.f3.f0 x.f3.f1 x.f3.f2
theorem oddGs_eq {x : SG} (h : okG x) : oddGs x = oddG (gOf x) := by
  unfold oddGs oddG
  rw [show bandR x.f3.f0 x.f3.f1 x.f3.f2 = bandRight (gOf x) from bandR_eq h.2.2.2.1 (gOf x) rfl rfl rfl]
  rfl
/-! slices.ContainsFunc at groups and at tasks -/
def AnyPost (b : Bool) (w : World) (e : Ending) (w' : World) : Prop := e = .returned (.bool b) ∧ Below w.heap.size w w'
theorem IndexG_none (A : Option Addr) (c : Nat) (v : Value) (w : World) : Calls Tryz.prog 67 #[.slice A 0 c, v] w fun e w' => e = .returned (.int .i64 (-1)) ∧ w = w' := by
  go_enter Tryz.func67, Tryz.ntmps67
  go_wp2_with fail
  go_loop [8] (fun i => i = .int .i64 0) (fun _ => 0)
  case atStart => rfl
  case round =>
    subst hrel
    go_wp2_with fail
    go_ret
    exact ⟨rfl, rfl⟩
theorem ContainsG_none (A : Option Addr) (c : Nat) (v : Value) (w : World) : Calls Tryz.prog 39 #[.slice A 0 c, v] w (AnyPost false w) := by
  go_enter Tryz.func39, Tryz.ntmps39
  go_wp2_with fail
  with_reducible refine (IndexG_none A c v w).mono ?_
  rintro e w' ⟨rfl, rfl⟩
  go_wp2_with fail
  go_ret
  exact ⟨rfl, Below.refl _ _⟩
theorem IndexT_none (A : Option Addr) (c : Nat) (v : Value) (w : World) : Calls Tryz.prog 70 #[.slice A 0 c, v] w fun e w' => e = .returned (.int .i64 (-1)) ∧ w = w' := by
  go_enter Tryz.func70, Tryz.ntmps70
  go_wp2_with fail
  go_loop [8] (fun i => i = .int .i64 0) (fun _ => 0)
  case atStart => rfl
  case round =>
    subst hrel
    go_wp2_with fail
    go_ret
    exact ⟨rfl, rfl⟩
theorem ContainsT_none (A : Option Addr) (c : Nat) (v : Value) (w : World) : Calls Tryz.prog 41 #[.slice A 0 c, v] w (AnyPost false w) := by
  go_enter Tryz.func41, Tryz.ntmps41
  go_wp2_with fail
  with_reducible refine (IndexT_none A c v w).mono ?_
  rintro e w' ⟨rfl, rfl⟩
  go_wp2_with fail
  go_ret
  exact ⟨rfl, Below.refl _ _⟩
theorem ContainsG_calls (p : SG → Bool) (g : Nat) (lb : Array Value) (eg : ∀ args w, (callFunc g args).run Tryz.prog w = .ok (.enter g args) w) (A : Option Addr) (n c : Nat) (xs : List SG) (w : World) (h : kG.C w A n xs)
    (hp : PredBelow Tryz.prog g lb (fun x => .agg (gC x).toArray) p w) :
    Calls Tryz.prog 39 #[.slice A n c, .func (.func g) #[] lb] w (AnyPost (xs.any p) w) := by
  rcases Nat.eq_zero_or_pos n with rfl | hn
  · obtain rfl : xs = [] := List.length_eq_zero_iff.1 h.1
    exact ContainsG_none A c _ w
  · obtain ⟨b, off, rfl, hb, hc⟩ := G_at h hn
    have hl := h.1
    have := AnyQ.slices_ContainsFunc Tryz.cfG 6 Tryz.isAgg50 Tryz.sizeOf50 gC (fun _ => rfl) p g lb eg b off n c xs w hp (by omega) h.2.1 hb hc
    rw [List.take_of_length_le (by omega)] at this
    exact this
theorem ContainsT_calls (p : ST → Bool) (g : Nat) (lb : Array Value) (eg : ∀ args w, (callFunc g args).run Tryz.prog w = .ok (.enter g args) w) (A : Option Addr) (n c : Nat) (xs : List ST) (w : World) (h : kT.C w A n xs)
    (hp : PredBelow Tryz.prog g lb (fun x => .agg (tC x).toArray) p w) :
    Calls Tryz.prog 41 #[.slice A n c, .func (.func g) #[] lb] w (AnyPost (xs.any p) w) := by
  rcases Nat.eq_zero_or_pos n with rfl | hn
  · obtain rfl : xs = [] := List.length_eq_zero_iff.1 h.1
    exact ContainsT_none A c _ w
  · obtain ⟨b, off, rfl, hb, hc⟩ := T_at h hn
    have hl := h.1
    have := AnyQ.slices_ContainsFunc Tryz.cfT 8 Tryz.isAgg59 Tryz.sizeOf59 tC (fun _ => rfl) p g lb eg b off n c xs w hp (by omega) h.2.1 hb hc
    rw [List.take_of_length_le (by omega)] at this
    exact this
theorem predOddG (w : World) : PredBelow Tryz.prog 40 #[] (fun x => .agg (gC x).toArray) oddGs w := fun W x hb =>
  (oddG_c x.f0 x.f1 x.f2 x.f3.f0 x.f3.f1 x.f3.f2 W).mono fun _ _ ⟨he, hb'⟩ => ⟨he, hb.trans (hb'.mono hb.size)⟩
theorem predOddT (w : World) : PredBelow Tryz.prog 42 #[] (fun x => .agg (tC x).toArray) (fun x => oddT (tOf x)) w := fun W x hb =>
  (oddT_c x.f0 x.f1 x.f2 x.f3 x.f4 x.f5 x.f6.f0 x.f6.f1 W).mono fun _ _ ⟨he, hb'⟩ => ⟨he, hb.trans (hb'.mono hb.size)⟩
theorem anyOddG (A : Option Addr) (n c : Nat) (xs : List SG) (w : World) (h : kG.C w A n xs) (ho : ∀ x ∈ xs, okG x) :
    Calls Tryz.prog 39 #[.slice A n c, .func (.func 40) #[] #[]] w (AnyPost ((xs.map gOf).any oddG) w) := by
  have e : (xs.map gOf).any oddG = xs.any oddGs := by
    rw [List.any_map, Bool.eq_iff_iff, List.any_eq_true, List.any_eq_true]
    exact ⟨fun ⟨x, hx, h⟩ => ⟨x, hx, by rw [oddGs_eq (ho x hx)]; exact h⟩, fun ⟨x, hx, h⟩ => ⟨x, hx, by rw [oddGs_eq (ho x hx)] at h; exact h⟩⟩
  rw [e]
  exact ContainsG_calls oddGs _ #[] (enters_of Tryz.func40 (by kernel_rfl) rfl) A n c xs w h (predOddG w)
theorem anyOddT (A : Option Addr) (n c : Nat) (xs : List ST) (w : World) (h : kT.C w A n xs) :
    Calls Tryz.prog 41 #[.slice A n c, .func (.func 42) #[] #[]] w (AnyPost ((xs.map tOf).any oddT) w) := by
  rw [List.any_map]
  exact ContainsT_calls _ _ #[] (enters_of Tryz.func42 (by kernel_rfl) rfl) A n c xs w h (predOddT w)
end Go.Proofs.YtpnjhffnlafabaaGreatDoor.Sn
namespace Go.Proofs.YtpnjhffnlafabaaGreatDoor.Sn
set_option linter.unusedVariables false
set_option linter.unusedSimpArgs false
open Go.RowKit Go.Sort Go.Shelf Go.Proofs.Bk Go.Proofs.Bm Go.Proofs.Op Go.Proofs.Sc Go.Proofs.Kf Go.Proofs.YtpnjhffnlafabaaGreatDoorW.PrintWords Go.Proofs.YtpnjhffnlafabaaGreatDoor.PImageBack
def idsS (xs : List SG) (ts : List ST) : List Int := xs.map (·.f0) ++ ts.map (·.f0)
theorem idsS_eq (xs : List SG) (ts : List ST) : idsS xs ts = idsOf (xs.map gOf) (ts.map tOf) := by
  unfold idsS idsOf; rw [List.map_map, List.map_map]; rfl
def IdsPost (r : List Int) (w : World) (e : Ending) (w' : World) : Prop := ∃ v, e = .returned v ∧ (Kd.int .i64).R 3 w' w.heap.size (fun _ => True) v r ∧ Below w.heap.size w w'
theorem G_one {A : Option Addr} {n : Nat} {ts : List SG} {w : World} (h : kG.C w A n ts) {k : Nat} (hk : k < n) :
    ∃ b o x, A = some ⟨b, o, none⟩ ∧ b < w.heap.size ∧ ts[k]? = some x ∧ w.cell? ⟨b, o + k * 6, none⟩ = some (.int .i64 x.f0) ∧ w.cell? ⟨b, o + k * 6 + 1, none⟩ = some (.int .i64 x.f1) ∧ w.cell? ⟨b, o + k * 6 + 2, none⟩ = some (.int .i64 x.f2) ∧ w.cell? ⟨b, o + k * 6 + 3, none⟩ = some (.int .i64 x.f3.f0) ∧ w.cell? ⟨b, o + k * 6 + 4, none⟩ = some (.int .i64 x.f3.f1) ∧ w.cell? ⟨b, o + k * 6 + 5, none⟩ = some (.int .i64 x.f3.f2) := by
  obtain ⟨b, o, h1, h2, h3⟩ := G_at h (by omega)
  have hl : k < ts.length := by have := h.1; omega
  have h4 := h3 k hl
  refine ⟨b, o, ts[k]!, h1, h2, ?_, h4 0 _ rfl, h4 1 _ rfl, h4 2 _ rfl, h4 3 _ rfl, h4 4 _ rfl, h4 5 _ rfl⟩
  rw [getElem!_pos ts k hl, List.getElem?_eq_getElem hl]
theorem T_one {A : Option Addr} {n : Nat} {ts : List ST} {w : World} (h : kT.C w A n ts) {k : Nat} (hk : k < n) :
    ∃ b o x, A = some ⟨b, o, none⟩ ∧ b < w.heap.size ∧ ts[k]? = some x ∧ w.cell? ⟨b, o + k * 8, none⟩ = some (.int .i64 x.f0) ∧ w.cell? ⟨b, o + k * 8 + 1, none⟩ = some (.int .i64 x.f1) ∧ w.cell? ⟨b, o + k * 8 + 2, none⟩ = some (.int .i64 x.f2) ∧ w.cell? ⟨b, o + k * 8 + 3, none⟩ = some (.int .u64 x.f3) ∧ w.cell? ⟨b, o + k * 8 + 4, none⟩ = some (.bool x.f4) ∧ w.cell? ⟨b, o + k * 8 + 5, none⟩ = some (.int .i64 x.f5) ∧ w.cell? ⟨b, o + k * 8 + 6, none⟩ = some (.int .i64 x.f6.f0) ∧ w.cell? ⟨b, o + k * 8 + 7, none⟩ = some (.int .i64 x.f6.f1) := by
  obtain ⟨b, o, h1, h2, h3⟩ := T_at h (by omega)
  have hl : k < ts.length := by have := h.1; omega
  have h4 := h3 k hl
  refine ⟨b, o, ts[k]!, h1, h2, ?_, h4 0 _ rfl, h4 1 _ rfl, h4 2 _ rfl, h4 3 _ rfl, h4 4 _ rfl, h4 5 _ rfl, h4 6 _ rfl, h4 7 _ rfl⟩
  rw [getElem!_pos ts k hl, List.getElem?_eq_getElem hl]
theorem szG6 : (Tryz.prog.info? 50).map (·.size) = some 6 := by kernel_rfl
theorem szT8 : (Tryz.prog.info? 59).map (·.size) = some 8 := by kernel_rfl
theorem oneG6 {a b c d e f : Int} : ∀ v ∈ ([.int .i64 a, .int .i64 b, .int .i64 c, .int .i64 d, .int .i64 e, .int .i64 f] : List Value), v.oneCell' = true := by
  intro v hv; simp at hv; rcases hv with rfl | rfl | rfl | rfl | rfl | rfl <;> rfl
theorem oneT8 {a b c d : Int} {z : Bool} {e f g : Int} : ∀ v ∈ ([.int .i64 a, .int .i64 b, .int .i64 c, .int .u64 d, .bool z, .int .i64 e, .int .i64 f, .int .i64 g] : List Value), v.oneCell' = true := by
  intro v hv; simp at hv; rcases hv with rfl | rfl | rfl | rfl | rfl | rfl | rfl | rfl <;> rfl
theorem info_intR : (Tryz.prog.info? 3).map (fun i => (i.zero, i.size, i.bytes)) = some (some (.int .i64 0), 1, 8) := by kernel_rfl
set_option maxHeartbeats 4000000 in
set_option maxRecDepth 100000 in
theorem Ids_calls (A : Option Addr) (n c : Nat) (xs : List SG) (B : Option Addr) (m d : Nat) (ts : List ST) (w : World) (hG : kG.C w A n xs) (hc : n ≤ c) (hT : kT.C w B m ts) (hd : m ≤ d) (hn : n + m < 17592186044416) :
    Calls Tryz.prog 72 #[.agg #[.slice A n c, .slice B m d]] w (IdsPost (idsS xs ts) w) := by
  have hln := hG.1
  have hlm := hT.1
  have HG := Aside0.mk hG
  have HT := Aside0.mk hT
  clear hG hT
  replace hln := Aside0.mk hln; replace hlm := Aside0.mk hlm; replace hc := Aside0.mk hc; replace hd := Aside0.mk hd
  go_enter Tryz.func72, Tryz.ntmps72
  go_wp2_with (((with_reducible refine gate_dst (N := 1) rfl ?_); refine box_event ?hg (N := 1) ?hd (cs := #[.slice A n c, .slice B m d]) (t := 25) ?hr ?_; (case hd => rfl); (case hg => rfl); (case hr => first | (go_simp; done) | (go_simp; rfl)); intro b1 hb1 w1 kb1 bb1; replace hb1 := Aside0.mk hb1; replace kb1 := Aside0.mk kb1; replace bb1 := Aside0.mk bb1); have k1 := kb1; have hB1 := bb1; have c0 := (cell_row kb1.out 0).trans (rfl : _ = some (Value.slice A n c)))
  go_loopw [3, 11] (fun v3 iv wr => ∃ k : Nat, iv = .int .i64 k ∧ k ≤ n ∧ Aside0 ((Kd.int .i64).R 3 wr w.heap.size (fun _ => True) v3 ((xs.take k).map (·.f0))) ∧ Aside0 (Below w.heap.size w wr) ∧ Aside0 (wr.heap[b1]? = some (.cells #[.slice A n c, .slice B m d] 25 (0, 0)))) (fun _ iv _ => n - (intOf iv).toNat)
  case atStart => exact ⟨0, rfl, Nat.zero_le _, ⟨Kd.R_nil _ _ _ _ _⟩, hB1, k1⟩
  case round =>
    obtain ⟨k, rfl, hk, hR, hb, k1⟩ := hrel
    by_cases hlt : k < n
    · have p1 : 0 ≤ (k : Int) := by omega
      have q1 : (k : Int) < (n : Int) := by omega
      obtain ⟨b, o, x, rfl, -, hx, t0, t1, t2, t3, t4, t5⟩ := G_one (Kd.C_below HG.out hb.out) hlt
      have hl8 : (((xs.take k).map (·.f0)).length + 1) * 8 ≤ 140737488355328 := by
        have h1 := List.length_take_le k xs
        have := hln.out
        simp only [List.length_map, List.length_append]
        omega
      have hacc : (xs.take (k + 1)).map (·.f0) = (xs.take k).map (·.f0) ++ [x.f0] := by rw [List.take_add_one, hx]; simp
      replace hx := Aside0.mk hx; replace hl8 := Aside0.mk hl8; replace hacc := Aside0.mk hacc
      go_wp2_with (first
        | (((with_reducible refine gate_dst (N := 5) rfl ?_); refine box_event ?hg (N := 5) ?hd (cs := #[.int .i64 0, .int .i64 0, .int .i64 0, .int .i64 0, .int .i64 0, .int .i64 0]) (t := 50) ?hr ?_; (case hd => rfl); (case hg => rfl); (case hr => first | (go_simp; done) | (go_simp; rfl)); intro gb hgb w2 kgb bgb; replace hgb := Aside0.mk hgb; replace kgb := Aside0.mk kgb; replace bgb := Aside0.mk bgb))
        | (((with_reducible refine gate_op (.store 50 (.tmp 5) (.tmp 14)) rfl ?_); refine wpList_store_midB rfl _ _ _ rfl gb 0 [.int .i64 x.f0, .int .i64 x.f1, .int .i64 x.f2, .int .i64 x.f3.f0, .int .i64 x.f3.f1, .int .i64 x.f3.f2] rfl rfl 50 [.int .i64 0, .int .i64 0, .int .i64 0, .int .i64 0, .int .i64 0, .int .i64 0] kgb.out szG6 (Nat.le_refl _) oneG6 ?_; obtain ⟨kk, bb⟩ := boxed (cs := [.int .i64 0, .int .i64 0, .int .i64 0, .int .i64 0, .int .i64 0, .int .i64 0]) (cs2 := [.int .i64 x.f0, .int .i64 x.f1, .int .i64 x.f2, .int .i64 x.f3.f0, .int .i64 x.f3.f1, .int .i64 x.f3.f2]) hgb.out kgb.out bgb.out rfl; revert kk bb; generalize World.setRow _ gb (splice [.int .i64 0, .int .i64 0, .int .i64 0, .int .i64 0, .int .i64 0, .int .i64 0] 0 [.int .i64 x.f0, .int .i64 x.f1, .int .i64 x.f2, .int .i64 x.f3.f0, .int .i64 x.f3.f1, .int .i64 x.f3.f2]).toArray = w3; clear kgb bgb; intro kgb bgb; replace kgb := Aside0.mk kgb; replace bgb := Aside0.mk bgb); have hR3 := Aside0.mk (Kd.R_below hR.out bgb.out); have hb3 := Aside0.mk (hb.out.trans (bgb.out.mono hb.out.size)); have g0 := (cell_row kgb.out 0).trans (rfl : _ = some (Value.int .i64 x.f0)); have k13 := Aside0.mk (row_below bgb.out k1.out))
        | ((with_reducible refine gate_builtin (b := .append) (xs := #[.tmp 15, .tmp 18]) rfl ?_); at_builtin; refine Kd.R_append (Kd.int .i64) (w0 := w) w.heap.size rfl (.tmp 15) (.tmp 18) 85 3 (.int .i64 0) 8 rfl Tryz.underlying85 info_intR rfl (by decide) (by omega) u3 ((xs.take k).map (·.f0)) x.f0 [.int .i64 x.f0] (fun _ => True) (fun _ => False) rfl rfl ?aP (fun _ hk => hk.elim) (fun _ _ => trivial) hR3.out hb3.out hb3.out.size hl8.out ?_; (case aP => exact rfl); intro v4 w4 hR4 hb4 hg4 hat4; have k14 := (hg4.block b1 (lt_row k13.out) (fun e => Kd.R_ne hR3.out k13.out (by decide) e)).trans k13.out; clear hat4; replace hR4 := Aside0.mk hR4; replace hb4 := Aside0.mk hb4; replace hg4 := Aside0.mk hg4; replace k14 := Aside0.mk k14))
      go_roundw
      case rel => exact ⟨k + 1, by simp, by omega, ⟨by rw [hacc.out]; exact hR4.out⟩, hb4, k14⟩
      case measure => show n - ((k : Int) + 1).toNat < n - (k : Int).toNat; omega
    · obtain rfl : n = k := by omega
      have e0 : (xs.take n).map (·.f0) = xs.map (·.f0) := by rw [List.take_of_length_le (by rw [hln.out]; exact Nat.le_refl _)]
      rw [e0] at hR
      have c1 := (cell_row k1.out 1).trans (rfl : _ = some (Value.slice B m d))
      go_wp2_with fail
      go_loopw [3, 24] (fun v3 iv wr => ∃ k : Nat, iv = .int .i64 k ∧ k ≤ m ∧ Aside0 ((Kd.int .i64).R 3 wr w.heap.size (fun _ => True) v3 (xs.map (·.f0) ++ (ts.take k).map (·.f0))) ∧ Aside0 (Below w.heap.size w wr) ∧ Aside0 (wr.heap[b1]? = some (.cells #[.slice A n c, .slice B m d] 25 (0, 0)))) (fun _ iv _ => m - (intOf iv).toNat)
      case atStart => exact ⟨0, rfl, Nat.zero_le _, ⟨by simpa using hR.out⟩, hb, k1⟩
      case round =>
        obtain ⟨k, rfl, hk, hR, hb, k1⟩ := hrel
        by_cases hlt : k < m
        · have p1 : 0 ≤ (k : Int) := by omega
          have q1 : (k : Int) < (m : Int) := by omega
          obtain ⟨b, o, x, rfl, -, hx, t0, t1, t2, t3, t4, t5, t6, t7⟩ := T_one (Kd.C_below HT.out hb.out) hlt
          have hl8 : ((xs.map (·.f0) ++ (ts.take k).map (·.f0)).length + 1) * 8 ≤ 140737488355328 := by
            have h1 := List.length_take_le k ts
            have := hln.out
            simp only [List.length_map, List.length_append]
            omega
          have hacc : xs.map (·.f0) ++ (ts.take (k + 1)).map (·.f0) = xs.map (·.f0) ++ (ts.take k).map (·.f0) ++ [x.f0] := by rw [List.take_add_one, hx]; simp
          replace hx := Aside0.mk hx; replace hl8 := Aside0.mk hl8; replace hacc := Aside0.mk hacc
          go_wp2_with (first
            | (((with_reducible refine gate_dst (N := 7) rfl ?_); refine box_event ?hg (N := 7) ?hd (cs := #[.int .i64 0, .int .i64 0, .int .i64 0, .int .u64 0, .bool false, .int .i64 0, .int .i64 0, .int .i64 0]) (t := 59) ?hr ?_; (case hd => rfl); (case hg => rfl); (case hr => first | (go_simp; done) | (go_simp; rfl)); intro gb hgb w2 kgb bgb; replace hgb := Aside0.mk hgb; replace kgb := Aside0.mk kgb; replace bgb := Aside0.mk bgb))
            | (((with_reducible refine gate_op (.store 59 (.tmp 7) (.tmp 27)) rfl ?_); refine wpList_store_midB rfl _ _ _ rfl gb 0 [.int .i64 x.f0, .int .i64 x.f1, .int .i64 x.f2, .int .u64 x.f3, .bool x.f4, .int .i64 x.f5, .int .i64 x.f6.f0, .int .i64 x.f6.f1] rfl rfl 59 [.int .i64 0, .int .i64 0, .int .i64 0, .int .u64 0, .bool false, .int .i64 0, .int .i64 0, .int .i64 0] kgb.out szT8 (Nat.le_refl _) oneT8 ?_; obtain ⟨kk, bb⟩ := boxed (cs := [.int .i64 0, .int .i64 0, .int .i64 0, .int .u64 0, .bool false, .int .i64 0, .int .i64 0, .int .i64 0]) (cs2 := [.int .i64 x.f0, .int .i64 x.f1, .int .i64 x.f2, .int .u64 x.f3, .bool x.f4, .int .i64 x.f5, .int .i64 x.f6.f0, .int .i64 x.f6.f1]) hgb.out kgb.out bgb.out rfl; revert kk bb; generalize World.setRow _ gb (splice [.int .i64 0, .int .i64 0, .int .i64 0, .int .u64 0, .bool false, .int .i64 0, .int .i64 0, .int .i64 0] 0 [.int .i64 x.f0, .int .i64 x.f1, .int .i64 x.f2, .int .u64 x.f3, .bool x.f4, .int .i64 x.f5, .int .i64 x.f6.f0, .int .i64 x.f6.f1]).toArray = w3; clear kgb bgb; intro kgb bgb; replace kgb := Aside0.mk kgb; replace bgb := Aside0.mk bgb); have hR3 := Aside0.mk (Kd.R_below hR.out bgb.out); have hb3 := Aside0.mk (hb.out.trans (bgb.out.mono hb.out.size)); have g0 := (cell_row kgb.out 0).trans (rfl : _ = some (Value.int .i64 x.f0)); have k13 := Aside0.mk (row_below bgb.out k1.out))
            | ((with_reducible refine gate_builtin (b := .append) (xs := #[.tmp 28, .tmp 31]) rfl ?_); at_builtin; refine Kd.R_append (Kd.int .i64) (w0 := w) w.heap.size rfl (.tmp 28) (.tmp 31) 85 3 (.int .i64 0) 8 rfl Tryz.underlying85 info_intR rfl (by decide) (by omega) u3 (xs.map (·.f0) ++ (ts.take k).map (·.f0)) x.f0 [.int .i64 x.f0] (fun _ => True) (fun _ => False) rfl rfl ?aP (fun _ hk => hk.elim) (fun _ _ => trivial) hR3.out hb3.out hb3.out.size hl8.out ?_; (case aP => exact rfl); intro v4 w4 hR4 hb4 hg4 hat4; have k14 := (hg4.block b1 (lt_row k13.out) (fun e => Kd.R_ne hR3.out k13.out (by decide) e)).trans k13.out; clear hat4; replace hR4 := Aside0.mk hR4; replace hb4 := Aside0.mk hb4; replace hg4 := Aside0.mk hg4; replace k14 := Aside0.mk k14))
          go_roundw
          case rel => exact ⟨k + 1, by simp, by omega, ⟨by rw [hacc.out]; exact hR4.out⟩, hb4, k14⟩
          case measure => show m - ((k : Int) + 1).toNat < m - (k : Int).toNat; omega
        · obtain rfl : m = k := by omega
          have e1 : xs.map (·.f0) ++ (ts.take m).map (·.f0) = idsS xs ts := by unfold idsS; rw [List.take_of_length_le (by rw [hlm.out]; exact Nat.le_refl _)]
          have hR' := Aside0.mk (e1 ▸ hR.out)
          go_wp2_with fail
          go_ret
          exact ⟨_, rfl, hR'.out, hb.out⟩
/-! a row of the call's own, sorted; and its doubles struck out -/
theorem row_int {w : World} {base : Nat} {ok : Nat → Prop} {v : Value} {zs : List Int} (h : (Kd.int .i64).R 3 w base ok v zs) (hz : 0 < zs.length) :
    ∃ g cap cur, v = .slice (some ⟨g, 0, none⟩) zs.length cap ∧ base ≤ g ∧ w.heap[g]? = some (.cells cur 3 (0, 0)) ∧ zs.length ≤ cap ∧ cap ≤ maxLen ∧ cur.size = cap * 1 ∧ cur.toList.take zs.length = zs.map (Value.int .i64) := by
  have ho := Kd.own_of_R h
  rcases ho.2 with ⟨_, h0⟩ | ⟨g, cap, cur, rfl, h1, h2, h3, h4, h5, h6⟩
  · omega
  · exact ⟨g, cap, cur, rfl, h1, h2, h3, h4, h5, by simpa [encs] using h6⟩
def leI (x y : Int) : Bool := decide (x ≤ y)
def SortPost (base g n cap : Nat) (ok : Nat → Prop) (zs : List Int) (w : World) (e : Ending) (w' : World) : Prop :=
  e = .returned (.tuple #[]) ∧ w.grownBy w' (some g) ∧ (Kd.int .i64).R 3 w' base ok (.slice (some ⟨g, 0, none⟩) n cap) (zs.mergeSort leI)
theorem Sort_calls (base g cap : Nat) (ok : Nat → Prop) (zs : List Int) (w : World) (h : (Kd.int .i64).R 3 w base ok (.slice (some ⟨g, 0, none⟩) zs.length cap) zs) (hz : 0 < zs.length) (hs : zs.length < 4611686018427387904) :
    Calls Tryz.prog 73 #[.slice (some ⟨g, 0, none⟩) zs.length cap] w (SortPost base g zs.length cap ok zs w) := by
  obtain ⟨g', cap', cur, hv, h1, h2, h3, h4, h5, h6⟩ := row_int h hz
  injection hv with e1 e2 e3
  injection e1 with e1
  injection e1 with e1
  subst e1
  subst e3
  have hl : (zs.mergeSort leI).length = zs.length := (List.mergeSort_perm zs leI).length_eq
  refine (Tryz.slices_Sort_int g 0 cap zs w (holds_of_blockI h2 h6) (lt_row h2) hs).mono ?_
  rintro e w' ⟨rfl, n, os, rfl⟩
  rw [show (fun x y : Int => decide (x ≤ y)) = leI from rfl]
  refine ⟨rfl, grownBy_sortedI _, ?_⟩
  have ho := ownsRow_sortedI (n := n) (os := os) (ss := zs) (ts := zs.mergeSort leI) hl h1 h2 h3 h4 h5
  rw [← hl]
  rw [← hl] at ho
  exact Kd.R_of_own (by simpa [encs] using ho) (fun k hk => h.1 k hk)
def CompPost (g cap : Nat) (zs : List Int) (w : World) (e : Ending) (w' : World) : Prop :=
  e = .returned (.slice (some ⟨g, 0, none⟩) (Lib.compact zs).length cap) ∧ KeepF (fun k => k = g) w w'
theorem Compact_calls (base g cap : Nat) (ok : Nat → Prop) (zs : List Int) (w : World) (h : (Kd.int .i64).R 3 w base ok (.slice (some ⟨g, 0, none⟩) zs.length cap) zs) (hz : 0 < zs.length) (hs : zs.length < 4611686018427387904) :
    Calls Tryz.prog 74 #[.slice (some ⟨g, 0, none⟩) zs.length cap] w (CompPost g cap zs w) := by
  obtain ⟨g', cap', cur, hv, h1, h2, h3, h4, h5, h6⟩ := row_int h hz
  injection hv with e1 e2 e3
  injection e1 with e1
  injection e1 with e1
  subst e1
  subst e3
  refine (Tryz.slices_Compact_int g 0 cap zs w (holds_of_blockI h2 h6) (by omega) h3).mono ?_
  rintro e w' ⟨rfl, n, rfl⟩
  refine ⟨rfl, ⟨rfl, rfl, rfl, by simp [putRow, mapBlock, Sort.ahead], fun k hk hn => ?_⟩⟩
  simp [putRow, mapBlock, Sort.ahead, Array.getElem?_modify, Ne.symm hn]
theorem compact_all_iff (zs : List Int) : (Lib.compact zs).length = zs.length ↔ ∀ j, j < zs.length → Lib.keeps zs.toArray j = true := by
  constructor
  · intro h j hj
    unfold Lib.compact Lib.compactUpTo at h
    rw [List.length_map] at h
    have h2 : ((List.range zs.length).filter (Lib.keeps zs.toArray)).length = (List.range zs.length).length := by simpa using h
    exact List.length_filter_eq_length_iff.1 h2 j (by simpa using hj)
  · intro h; rw [Lib.compact_all zs h]
theorem compact_sorted (zs : List Int) (hs : zs.Pairwise (· ≤ ·)) : (Lib.compact zs).length < zs.length ↔ ¬ zs.Nodup := by
  have hle := Lib.compact_length_le zs
  have key : (Lib.compact zs).length = zs.length ↔ zs.Nodup := by
    rw [compact_all_iff]
    constructor
    · intro h
      unfold List.Nodup
      rw [List.pairwise_iff_getElem] at hs ⊢
      intro i j hi hj hij
      have h1 := h j hj
      have h2 : zs[j] ≠ zs[j - 1] := by
        unfold Lib.keeps at h1
        simpa [show j ≠ 0 by omega, hj, show j - 1 < zs.length by omega] using h1
      have h3 := hs (j - 1) j (by omega) hj (by omega)
      have h4 : zs[i] ≤ zs[j - 1] := by
        by_cases e : i = j - 1
        · subst e; exact Int.le_refl _
        · exact hs i (j - 1) hi (by omega) (by omega)
      omega
    · intro h j hj
      unfold List.Nodup at h
      rw [List.pairwise_iff_getElem] at h
      unfold Lib.keeps
      by_cases e : j = 0
      · simp [e]
      · have := h (j - 1) j (by omega) hj (by omega)
        simp [e, hj, show j - 1 < zs.length by omega]
        exact fun h2 => this h2.symm
  constructor
  · intro h h2; have := key.2 h2; omega
  · intro h
    rcases Nat.lt_or_ge (Lib.compact zs).length zs.length with c | c
    · exact c
    · exact absurd (key.1 (by omega)) h
theorem compact_mergeSort (zs : List Int) : (Lib.compact (zs.mergeSort leI)).length < zs.length ↔ ¬ zs.Nodup := by
  have hp := List.mergeSort_perm zs leI
  have hs : (zs.mergeSort leI).Pairwise (· ≤ ·) := by
    have := List.pairwise_mergeSort (le := leI) (fun a b c => by simp [leI]; omega) (fun a b => by simp [leI]; omega) zs
    exact this.imp (fun h => by simpa [leI] using h)
  have := compact_sorted _ hs
  rw [hp.length_eq, hp.nodup_iff] at this
  exact this
end Go.Proofs.YtpnjhffnlafabaaGreatDoor.Sn
