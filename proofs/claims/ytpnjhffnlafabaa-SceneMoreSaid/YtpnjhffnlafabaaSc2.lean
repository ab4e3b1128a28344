/- A scene in memory; which of its groups and tasks cannot be: slices.ContainsFunc over oddGroup and oddTask. Ids of a scene; slices.Sort and slices.Compact at a row of the call's own; when two numbers are one. -/
import Derived.Test.YtpnjhffnlafabaaPSceneOrdersx5
import Derived.Test.YtpnjhffnlafabaaPSceneOrdersx13
import Derived.Test.YtpnjhffnlafabaaPSceneOrdersx6
import Derived.Test.YtpnjhffnlafabaaSc1
import Derived.Test.YtpnjhffnlafabaaBk
import Derived.Test.YtpnjhffnlafabaaOp
import Derived.Test.YtpnjhffnlafabaaShelf
import Derived.Test.YtpnjhffnlafabaaKf
import Derived.Sort.OwnSortedInts
import Derived.Lib.OwnBridge
namespace Go.Proofs.Ytpnjhffnlafabaa.Sn
set_option linter.unusedVariables false
set_option linter.unusedSimpArgs false
open Go.RowKit Go.Shelf Go.Proofs.Bk Go.Proofs.Bm Go.Proofs.Op Go.Proofs.Sc Go.Proofs.YtpnjhffnlafabaaW.PrintWords Go.Proofs.Ytpnjhffnlafabaa.PSceneOrders

abbrev SG := S41
abbrev ST := S46
abbrev kG : Kd SG := k41
abbrev kT : Kd ST := k46
instance : Inhabited SG := ⟨z41⟩
instance : Inhabited ST := ⟨z46⟩
def gOf (x : SG) : G := ⟨x.f0, x.f1, x.f2, x.f3.f0, x.f3.f1, x.f3.f2⟩
def tOf (x : ST) : T := ⟨x.f0, x.f1, x.f2, x.f3, x.f4, x.f5, x.f6.f0, x.f6.f1⟩
def gC (x : SG) : List Value := [.int .i64 x.f0, .int .i64 x.f1, .int .i64 x.f2, .int .i64 x.f3.f0, .int .i64 x.f3.f1, .int .i64 x.f3.f2]
def tC (x : ST) : List Value := [.int .i64 x.f0, .int .i64 x.f1, .int .i64 x.f2, .int .u64 x.f3, .bool x.f4, .int .i64 x.f5, .int .i64 x.f6.f0, .int .i64 x.f6.f1]
def okG (x : SG) : Prop := (Lit.int .i64 x.f0).wf = true ∧ (Lit.int .i64 x.f1).wf = true ∧ (Lit.int .i64 x.f2).wf = true ∧ (Lit.int .i64 x.f3.f0).wf = true ∧ (Lit.int .i64 x.f3.f1).wf = true ∧ (Lit.int .i64 x.f3.f2).wf = true
theorem wf64 {x : Int} (h : (Lit.int .i64 x).wf = true) : -9223372036854775808 ≤ x ∧ x ≤ 9223372036854775807 := by
  simp [Lit.wf, IntKind.min, IntKind.max, IntKind.signed, IntKind.bits] at h; omega
theorem gOf_inj {x y : SG} : gOf x = gOf y ↔ x = y := by
  obtain ⟨a, b, c, ⟨d, e, f⟩⟩ := x
  obtain ⟨a', b', c', ⟨d', e', f'⟩⟩ := y
  simp [gOf]
theorem tOf_inj {x y : ST} : tOf x = tOf y ↔ x = y := by
  obtain ⟨a, b, c, d, e, f, ⟨g, h⟩⟩ := x
  obtain ⟨a', b', c', d', e', f', ⟨g', h'⟩⟩ := y
  simp [tOf]

theorem spot_none {w : World} {a : Addr} {v : Value} (h : w.cell? a = some v) : a.spot = none ∧ a.block < w.heap.size := by
  refine ⟨?_, World.block_lt_of_cell? w _ h⟩
  unfold World.cell? at h
  split at h
  · split at h
    · cases h
    · rename_i h1; cases hs : a.spot with
      | none => rfl
      | some x => rw [hs] at h1; exact absurd rfl h1
  · cases h
theorem add_at {b off m : Nat} : (⟨b, off, none⟩ : Addr).add m = ⟨b, off + m, none⟩ := by
  unfold Addr.add; split
  · rename_i h; subst h; rfl
  · rfl
theorem C_at {α : Type} {d : Kd α} {w : World} {A : Option Addr} {n : Nat} {xs : List α} (h : d.C w A n xs) (hn : 0 < n) (hs : 0 < d.sz) :
    ∃ b off, A = some ⟨b, off, none⟩ ∧ b < w.heap.size ∧ ∀ j x, xs[j]? = some x → ∃ c, c.length = d.sz ∧ d.K w x c ∧ ∀ i u, c[i]? = some u → w.cell? ⟨b, off + j * d.sz + i, none⟩ = some u := by
  obtain ⟨ad, rfl, hc⟩ := h.2.2 hn
  have hl := h.1
  obtain ⟨c, h1, h2, h3⟩ := hc 0 _ (List.getElem?_eq_getElem (show 0 < xs.length by omega))
  have h4 := h3 0 _ (List.getElem?_eq_getElem (show 0 < c.length by omega))
  obtain ⟨p1, p2⟩ := spot_none h4
  rw [Nat.zero_mul, Nat.zero_add] at p1 p2
  have e0 : ad.add 0 = ad := rfl
  rw [e0] at p1 p2
  obtain ⟨b, off, sp⟩ := ad
  obtain rfl : sp = none := p1
  refine ⟨b, off, rfl, p2, fun j x hx => ?_⟩
  obtain ⟨c', q1, q2, q3⟩ := hc j x hx
  refine ⟨c', q1, q2, fun i u hu => ?_⟩
  have := q3 i u hu
  rw [add_at] at this
  rw [Nat.add_assoc]; exact this
theorem G_at {w : World} {A : Option Addr} {n : Nat} {xs : List SG} (h : kG.C w A n xs) (hn : 0 < n) :
    ∃ b off, A = some ⟨b, off, none⟩ ∧ b < w.heap.size ∧ ∀ j, j < xs.length → ∀ i v, (gC xs[j]!)[i]? = some v → w.cell? ⟨b, off + j * 6 + i, none⟩ = some v := by
  obtain ⟨b, off, h1, h2, h3⟩ := C_at h hn (by decide)
  refine ⟨b, off, h1, h2, fun j hj i v hv => ?_⟩
  have e : xs[j]! = xs[j] := by rw [getElem!_pos xs j hj]
  obtain ⟨c, _, q2, q3⟩ := h3 j _ (List.getElem?_eq_getElem hj)
  obtain rfl := k41_open q2
  rw [e] at hv
  exact q3 i v hv
theorem T_at {w : World} {A : Option Addr} {n : Nat} {xs : List ST} (h : kT.C w A n xs) (hn : 0 < n) :
    ∃ b off, A = some ⟨b, off, none⟩ ∧ b < w.heap.size ∧ ∀ j, j < xs.length → ∀ i v, (tC xs[j]!)[i]? = some v → w.cell? ⟨b, off + j * 8 + i, none⟩ = some v := by
  obtain ⟨b, off, h1, h2, h3⟩ := C_at h hn (by decide)
  refine ⟨b, off, h1, h2, fun j hj i v hv => ?_⟩
  have e : xs[j]! = xs[j] := by rw [getElem!_pos xs j hj]
  obtain ⟨c, _, q2, q3⟩ := h3 j _ (List.getElem?_eq_getElem hj)
  obtain rfl := k46_open q2
  rw [e] at hv
  exact q3 i v hv

/-! oddGroup and oddTask say what the plain ones say -/
theorem within_f (n m : Int) : scene_within.f n m = some (within1 n m) := by
  unfold scene_within.f within1
  by_cases h : n ≥ 1
  · rw [if_pos h]; simp [show (1 : Int) ≤ n from h]
  · rw [if_neg h]; simp [show ¬ (1 : Int) ≤ n from h]
theorem bwithin_f (n m : Int) : band_within.f n m = some (within0 n m) := by
  unfold band_within.f within0
  by_cases h : n ≥ 0
  · rw [if_pos h]; simp [show (0 : Int) ≤ n from h]
  · rw [if_neg h]; simp [show ¬ (0 : Int) ≤ n from h]
def bandR (p q u : Int) : Bool := if q = 0 then within0 p 1048576 && (decide (q = 0) && decide (u = 0)) else within0 (wrap64 (p - 1)) 1048575 && within0 q 1048576 && within0 u 1099511627776
theorem band_f (p q u : Int) : band_Right.f p q u = some (bandR p q u) := by
  unfold band_Right.f bandR
  simp only [bwithin_f, Option.bind_some]
  by_cases h : q = 0
  · rw [if_pos h, if_pos h]
    cases within0 p 1048576 <;> simp [BEq.beq]
  · rw [if_neg h, if_neg h]
    cases within0 (wrap64 (p - 1)) 1048575 <;> cases within0 q 1048576 <;> simp
theorem bandR_eq {p q u : Int} (hp : (Lit.int .i64 p).wf = true) (g : G) (h1 : g.period = p) (h2 : g.quota = q) (h3 : g.used = u) : bandR p q u = bandRight g := by
  subst h1; subst h2; subst h3
  have := wf64 hp
  unfold bandR bandRight
  by_cases h : g.quota = 0
  · simp [h]
  · rw [if_neg h, if_neg h]
    congr 2
    unfold within0 within1 wrap64
    rw [Bool.eq_iff_iff]
    simp
    omega
def oddGs (x : SG) : Bool := !within1 x.f0 1048576 || !within1 x.f2 1048576 || !bandR x.f3.f0 x.f3.f1 x.f3.f2
theorem oddG_f (x : SG) : scene_oddGroup.f x.f0 x.f1 x.f2 x.f3.f0 x.f3.f1 x.f3.f2 = some (oddGs x) := by
  unfold scene_oddGroup.f oddGs
  simp only [within_f, band_f, Option.bind_some]
  cases within1 x.f0 1048576 <;> cases within1 x.f2 1048576 <;> simp
theorem oddGs_eq {x : SG} (h : okG x) : oddGs x = oddG (gOf x) := by
  unfold oddGs oddG
  rw [show bandR x.f3.f0 x.f3.f1 x.f3.f2 = bandRight (gOf x) from bandR_eq h.2.2.2.1 (gOf x) rfl rfl rfl]
  rfl
theorem weighs_f (n : Int) : pace_weighs.f n = some (weighs n) := by
  unfold pace_weighs.f pace_held_int.f
  simp only [Option.bind_some, Option.some.injEq]
  unfold mx mn weighs
  split <;> split <;> omega
theorem paceR_f (v r w : Int) : pace_Right.f v r w = some (paceRight v r w) := by
  unfold pace_Right.f paceRight
  simp only [weighs_f, Option.bind_some]
  by_cases h1 : v ≥ 0
  · rw [if_pos h1]
    by_cases h2 : v ≤ 2305843009213693952
    · rw [if_pos h2]
      by_cases h3 : r ≥ 0
      · rw [if_pos h3]; simp [show (0 : Int) ≤ v from h1, h2, show (0 : Int) ≤ r from h3]
      · rw [if_neg h3]; simp [show ¬ (0 : Int) ≤ r from h3]
    · rw [if_neg h2]; simp [h2]
  · rw [if_neg h1]; simp [show ¬ (0 : Int) ≤ v from h1]
theorem oddT_f (x : ST) : scene_oddTask.f x.f0 x.f1 x.f2 x.f3 x.f4 x.f5 x.f6.f0 x.f6.f1 = some (oddT (tOf x)) := by
  unfold scene_oddTask.f oddT
  simp only [within_f, paceR_f, Option.bind_some]
  show _ = some (!within1 x.f0 1048576 || !within1 x.f2 1048576 || decide (x.f3 = 0) || decide (x.f5 < 0) || decide (1099511627776 < x.f5) || !paceRight x.f6.f0 x.f6.f1 x.f2)
  cases within1 x.f0 1048576 <;> cases within1 x.f2 1048576 <;> simp
  by_cases h1 : x.f3 = 0
  · simp [h1]
  · by_cases h2 : x.f5 < 0
    · simp [h1, h2]
    · by_cases h3 : 1099511627776 < x.f5
      · simp [h1, h2, h3]
      · simp [h1, h2, h3]

/-! slices.ContainsFunc at groups and at tasks -/
def AnyPost (b : Bool) (w : World) (e : Ending) (w' : World) : Prop := e = .returned (.bool b) ∧ Below w.heap.size w w'
theorem IndexG_none (A : Option Addr) (c : Nat) (v : Value) (w : World) : Calls Try.prog 47 #[.slice A 0 c, v] w fun e w' => e = .returned (.int .i64 (-1)) ∧ w = w' := by
  go_enter Try.func47, Try.ntmps47
  go_wp2_with fail
  go_loop [8] (fun i => i = .int .i64 0) (fun _ => 0)
  case atStart => rfl
  case round =>
    subst hrel
    go_wp2_with fail
    go_ret
    exact ⟨rfl, rfl⟩
theorem ContainsG_none (A : Option Addr) (c : Nat) (v : Value) (w : World) : Calls Try.prog 27 #[.slice A 0 c, v] w (AnyPost false w) := by
  go_enter Try.func27, Try.ntmps27
  go_wp2_with fail
  with_reducible refine (IndexG_none A c v w).mono ?_
  rintro e w' ⟨rfl, rfl⟩
  go_wp2_with fail
  go_ret
  exact ⟨rfl, Below.refl _ _⟩
theorem IndexT_none (A : Option Addr) (c : Nat) (v : Value) (w : World) : Calls Try.prog 50 #[.slice A 0 c, v] w fun e w' => e = .returned (.int .i64 (-1)) ∧ w = w' := by
  go_enter Try.func50, Try.ntmps50
  go_wp2_with fail
  go_loop [8] (fun i => i = .int .i64 0) (fun _ => 0)
  case atStart => rfl
  case round =>
    subst hrel
    go_wp2_with fail
    go_ret
    exact ⟨rfl, rfl⟩
theorem ContainsT_none (A : Option Addr) (c : Nat) (v : Value) (w : World) : Calls Try.prog 29 #[.slice A 0 c, v] w (AnyPost false w) := by
  go_enter Try.func29, Try.ntmps29
  go_wp2_with fail
  with_reducible refine (IndexT_none A c v w).mono ?_
  rintro e w' ⟨rfl, rfl⟩
  go_wp2_with fail
  go_ret
  exact ⟨rfl, Below.refl _ _⟩
theorem ContainsG_calls (p : SG → Bool) (g : Nat) (lb : Array Value) (eg : ∀ args w, (callFunc g args).run Try.prog w = .ok (.enter g args) w) (A : Option Addr) (n c : Nat) (xs : List SG) (w : World) (h : kG.C w A n xs)
    (hp : PredBelow Try.prog g lb (fun x => .agg (gC x).toArray) p w) :
    Calls Try.prog 27 #[.slice A n c, .func (.func g) #[] lb] w (AnyPost (xs.any p) w) := by
  rcases Nat.eq_zero_or_pos n with rfl | hn
  · obtain rfl : xs = [] := List.length_eq_zero_iff.1 h.1
    exact ContainsG_none A c _ w
  · obtain ⟨b, off, rfl, hb, hc⟩ := G_at h hn
    have hl := h.1
    have := AnyQ.slices_ContainsFunc Try.cfG 6 Try.isAgg41 Try.sizeOf41 gC (fun _ => rfl) p g lb eg b off n c xs w hp (by omega) h.2.1 hb hc
    rw [List.take_of_length_le (by omega)] at this
    exact this
theorem ContainsT_calls (p : ST → Bool) (g : Nat) (lb : Array Value) (eg : ∀ args w, (callFunc g args).run Try.prog w = .ok (.enter g args) w) (A : Option Addr) (n c : Nat) (xs : List ST) (w : World) (h : kT.C w A n xs)
    (hp : PredBelow Try.prog g lb (fun x => .agg (tC x).toArray) p w) :
    Calls Try.prog 29 #[.slice A n c, .func (.func g) #[] lb] w (AnyPost (xs.any p) w) := by
  rcases Nat.eq_zero_or_pos n with rfl | hn
  · obtain rfl : xs = [] := List.length_eq_zero_iff.1 h.1
    exact ContainsT_none A c _ w
  · obtain ⟨b, off, rfl, hb, hc⟩ := T_at h hn
    have hl := h.1
    have := AnyQ.slices_ContainsFunc Try.cfT 8 Try.isAgg46 Try.sizeOf46 tC (fun _ => rfl) p g lb eg b off n c xs w hp (by omega) h.2.1 hb hc
    rw [List.take_of_length_le (by omega)] at this
    exact this
theorem predOddG (w : World) : PredBelow Try.prog 28 #[] (fun x => .agg (gC x).toArray) oddGs w := fun W x hb =>
  (scene_oddGroup.calls x.f0 x.f1 x.f2 x.f3.f0 x.f3.f1 x.f3.f2 _ W (oddG_f x)).mono fun _ _ ⟨he, hb'⟩ => ⟨he, hb.trans (hb'.mono hb.size)⟩
theorem predOddT (w : World) : PredBelow Try.prog 30 #[] (fun x => .agg (tC x).toArray) (fun x => oddT (tOf x)) w := fun W x hb =>
  (scene_oddTask.calls x.f0 x.f1 x.f2 x.f3 x.f4 x.f5 x.f6.f0 x.f6.f1 _ W (oddT_f x)).mono fun _ _ ⟨he, hb'⟩ => ⟨he, hb.trans (hb'.mono hb.size)⟩
theorem anyOddG (A : Option Addr) (n c : Nat) (xs : List SG) (w : World) (h : kG.C w A n xs) (ho : ∀ x ∈ xs, okG x) :
    Calls Try.prog 27 #[.slice A n c, .func (.func 28) #[] #[]] w (AnyPost ((xs.map gOf).any oddG) w) := by
  have e : (xs.map gOf).any oddG = xs.any oddGs := by
    rw [List.any_map, Bool.eq_iff_iff, List.any_eq_true, List.any_eq_true]
    exact ⟨fun ⟨x, hx, h⟩ => ⟨x, hx, by rw [oddGs_eq (ho x hx)]; exact h⟩, fun ⟨x, hx, h⟩ => ⟨x, hx, by rw [oddGs_eq (ho x hx)] at h; exact h⟩⟩
  rw [e]
  exact ContainsG_calls oddGs _ #[] (enters_of Try.func28 (by kernel_rfl) rfl) A n c xs w h (predOddG w)
theorem anyOddT (A : Option Addr) (n c : Nat) (xs : List ST) (w : World) (h : kT.C w A n xs) :
    Calls Try.prog 29 #[.slice A n c, .func (.func 30) #[] #[]] w (AnyPost ((xs.map tOf).any oddT) w) := by
  rw [List.any_map]
  exact ContainsT_calls _ _ #[] (enters_of Try.func30 (by kernel_rfl) rfl) A n c xs w h (predOddT w)
end Go.Proofs.Ytpnjhffnlafabaa.Sn
namespace Go.Proofs.Ytpnjhffnlafabaa.Sn
set_option linter.unusedVariables false
set_option linter.unusedSimpArgs false
open Go.RowKit Go.Sort Go.Shelf Go.Proofs.Bk Go.Proofs.Bm Go.Proofs.Op Go.Proofs.Sc Go.Proofs.Kf Go.Proofs.YtpnjhffnlafabaaW.PrintWords Go.Proofs.Ytpnjhffnlafabaa.PSceneOrders

theorem ids_l1 : ∀ (j k : Nat) (acc : List Int) (ts : List ST) (i : Nat), i + j = ts.length → j < k → acc.length + j < 17592186044416 → ts.length < 4611686018427387904 →
    scene_Ids.l1 k acc ts (ts.length : Int) (i : Int) = some (acc ++ (ts.drop i).map (·.f0))
  | 0, k + 1, acc, ts, i, h, _, _, _ => by
    unfold scene_Ids.l1
    rw [if_neg (by omega), List.drop_of_length_le (by omega)]; simp
  | j + 1, k + 1, acc, ts, i, h, hk, hl, ht => by
    unfold scene_Ids.l1
    have hi : i < ts.length := by omega
    rw [if_pos (by omega), if_pos (by omega), if_pos (by omega), if_pos (by omega), show wrap64 ((i : Int) + 1) = ((i + 1 : Nat) : Int) by unfold wrap64; omega,
      ids_l1 j k _ ts (i + 1) (by omega) (by omega) (by simp; omega) ht, List.drop_eq_getElem_cons hi]
    have e : rd_T46 ts (i : Int) = ts[i] := by unfold rd_T46; simp [List.getD, hi]
    rw [e]; simp only [List.append_assoc, List.singleton_append, List.map_cons]
theorem ids_l0 : ∀ (j k : Nat) (acc : List Int) (xs : List SG) (ts : List ST) (i : Nat), i + j = xs.length → j + ts.length + 1 < k → acc.length + j + ts.length < 17592186044416 → ts.length < 4611686018427387904 → xs.length < 4611686018427387904 →
    scene_Ids.l0 k acc xs (xs.length : Int) (i : Int) xs ts = some (acc ++ (xs.drop i).map (·.f0) ++ ts.map (·.f0))
  | 0, k + 1, acc, xs, ts, i, h, hk, hl, ht, hx => by
    unfold scene_Ids.l0
    rw [if_neg (by omega), List.drop_of_length_le (by omega)]
    have := ids_l1 ts.length k acc ts 0 (by omega) (by omega) (by omega) ht
    rw [List.drop_zero] at this
    simpa using this
  | j + 1, k + 1, acc, xs, ts, i, h, hk, hl, ht, hx => by
    unfold scene_Ids.l0
    have hi : i < xs.length := by omega
    rw [if_pos (by omega), if_pos (by omega), if_pos (by omega), if_pos (by omega), show wrap64 ((i : Int) + 1) = ((i + 1 : Nat) : Int) by unfold wrap64; omega,
      ids_l0 j k _ xs ts (i + 1) (by omega) (by omega) (by simp; omega) ht hx, List.drop_eq_getElem_cons hi]
    have e : rd_T41 xs (i : Int) = xs[i] := by unfold rd_T41; simp [List.getD, hi]
    rw [e]; simp only [List.append_assoc, List.singleton_append, List.map_cons, List.cons_append, List.nil_append]
def idsS (xs : List SG) (ts : List ST) : List Int := xs.map (·.f0) ++ ts.map (·.f0)
theorem idsS_eq (xs : List SG) (ts : List ST) : idsS xs ts = idsOf (xs.map gOf) (ts.map tOf) := by
  unfold idsS idsOf; rw [List.map_map, List.map_map]; rfl
def IdsPost (r : List Int) (w : World) (e : Ending) (w' : World) : Prop := ∃ v, e = .returned v ∧ (Kd.int .i64).R 3 w' w.heap.size (fun _ => True) v r ∧ Below w.heap.size w w'
theorem Ids_calls (A : Option Addr) (n c : Nat) (xs : List SG) (B : Option Addr) (m d : Nat) (ts : List ST) (w : World) (hG : kG.C w A n xs) (hc : n ≤ c) (hT : kT.C w B m ts) (hd : m ≤ d) (hn : n + m < 17592186044416) :
    Calls Try.prog 14 #[.agg #[.slice A n c, .slice B m d]] w (IdsPost (idsS xs ts) w) := by
  obtain rfl := hG.1
  obtain rfl := hT.1
  have h : scene_Ids.f (xs.length + ts.length + 2) xs ts = some (idsS xs ts) := by
    unfold scene_Ids.f
    have := ids_l0 xs.length (xs.length + ts.length + 2) [] xs ts 0 (by omega) (by omega) (by simp; omega) (by omega) (by omega)
    rw [List.drop_zero, List.nil_append] at this
    exact this
  exact (scene_Ids.calls _ A c xs B d ts _ w hG hc hT hd h).mono fun e w' ⟨v, h1, h2, h3⟩ => ⟨v, h1, h2, h3⟩

/-! a row of the call's own, sorted; and its doubles struck out -/
theorem row_int {w : World} {base : Nat} {ok : Nat → Prop} {v : Value} {zs : List Int} (h : (Kd.int .i64).R 3 w base ok v zs) (hz : 0 < zs.length) :
    ∃ g cap cur, v = .slice (some ⟨g, 0, none⟩) zs.length cap ∧ base ≤ g ∧ w.heap[g]? = some (.cells cur 3 (0, 0)) ∧ zs.length ≤ cap ∧ cap ≤ maxLen ∧ cur.size = cap * 1 ∧ cur.toList.take zs.length = zs.map (Value.int .i64) := by
  have ho := Kd.own_of_R h
  rcases ho.2 with ⟨_, h0⟩ | ⟨g, cap, cur, rfl, h1, h2, h3, h4, h5, h6⟩
  · omega
  · exact ⟨g, cap, cur, rfl, h1, h2, h3, h4, h5, by simpa [encs] using h6⟩
def leI (x y : Int) : Bool := decide (x ≤ y)
def SortPost (base g n cap : Nat) (ok : Nat → Prop) (zs : List Int) (w : World) (e : Ending) (w' : World) : Prop :=
  e = .returned (.tuple #[]) ∧ w.grownBy w' (some g) ∧ (Kd.int .i64).R 3 w' base ok (.slice (some ⟨g, 0, none⟩) n cap) (zs.mergeSort leI)
theorem Sort_calls (base g cap : Nat) (ok : Nat → Prop) (zs : List Int) (w : World) (h : (Kd.int .i64).R 3 w base ok (.slice (some ⟨g, 0, none⟩) zs.length cap) zs) (hz : 0 < zs.length) (hs : zs.length < 4611686018427387904) :
    Calls Try.prog 52 #[.slice (some ⟨g, 0, none⟩) zs.length cap] w (SortPost base g zs.length cap ok zs w) := by
  obtain ⟨g', cap', cur, hv, h1, h2, h3, h4, h5, h6⟩ := row_int h hz
  injection hv with e1 e2 e3
  injection e1 with e1
  injection e1 with e1
  subst e1
  subst e3
  have hl : (zs.mergeSort leI).length = zs.length := (List.mergeSort_perm zs leI).length_eq
  refine (Try.slices_Sort_int g 0 cap zs w (holds_of_blockI h2 h6) (lt_row h2) hs).mono ?_
  rintro e w' ⟨rfl, n, os, rfl⟩
  rw [show (fun x y : Int => decide (x ≤ y)) = leI from rfl]
  refine ⟨rfl, grownBy_sortedI _, ?_⟩
  have ho := ownsRow_sortedI (n := n) (os := os) (ss := zs) (ts := zs.mergeSort leI) hl h1 h2 h3 h4 h5
  rw [← hl]
  rw [← hl] at ho
  exact Kd.R_of_own (by simpa [encs] using ho) (fun k hk => h.1 k hk)
def CompPost (g cap : Nat) (zs : List Int) (w : World) (e : Ending) (w' : World) : Prop :=
  e = .returned (.slice (some ⟨g, 0, none⟩) (Lib.compact zs).length cap) ∧ KeepF (fun k => k = g) w w'
theorem Compact_calls (base g cap : Nat) (ok : Nat → Prop) (zs : List Int) (w : World) (h : (Kd.int .i64).R 3 w base ok (.slice (some ⟨g, 0, none⟩) zs.length cap) zs) (hz : 0 < zs.length) (hs : zs.length < 4611686018427387904) :
    Calls Try.prog 53 #[.slice (some ⟨g, 0, none⟩) zs.length cap] w (CompPost g cap zs w) := by
  obtain ⟨g', cap', cur, hv, h1, h2, h3, h4, h5, h6⟩ := row_int h hz
  injection hv with e1 e2 e3
  injection e1 with e1
  injection e1 with e1
  subst e1
  subst e3
  refine (Try.slices_Compact_int g 0 cap zs w (holds_of_blockI h2 h6) (by omega) h3).mono ?_
  rintro e w' ⟨rfl, n, rfl⟩
  refine ⟨rfl, ⟨rfl, rfl, rfl, by simp [putRow, mapBlock, Sort.ahead], fun k hk hn => ?_⟩⟩
  simp [putRow, mapBlock, Sort.ahead, Array.getElem?_modify, Ne.symm hn]

/-- doubles are struck out just if there are some -/
theorem compact_all_iff (zs : List Int) : (Lib.compact zs).length = zs.length ↔ ∀ j, j < zs.length → Lib.keeps zs.toArray j = true := by
  constructor
  · intro h j hj
    unfold Lib.compact Lib.compactUpTo at h
    rw [List.length_map] at h
    have h2 : ((List.range zs.length).filter (Lib.keeps zs.toArray)).length = (List.range zs.length).length := by simpa using h
    exact List.length_filter_eq_length_iff.1 h2 j (by simpa using hj)
  · intro h; rw [Lib.compact_all zs h]
theorem compact_sorted (zs : List Int) (hs : zs.Pairwise (· ≤ ·)) : (Lib.compact zs).length < zs.length ↔ ¬ zs.Nodup := by
  have hle := Lib.compact_length_le zs
  have key : (Lib.compact zs).length = zs.length ↔ zs.Nodup := by
    rw [compact_all_iff]
    constructor
    · intro h
      unfold List.Nodup
      rw [List.pairwise_iff_getElem] at hs ⊢
      intro i j hi hj hij
      have h1 := h j hj
      have h2 : zs[j] ≠ zs[j - 1] := by
        unfold Lib.keeps at h1
        simpa [show j ≠ 0 by omega, hj, show j - 1 < zs.length by omega] using h1
      have h3 := hs (j - 1) j (by omega) hj (by omega)
      have h4 : zs[i] ≤ zs[j - 1] := by
        by_cases e : i = j - 1
        · subst e; exact Int.le_refl _
        · exact hs i (j - 1) hi (by omega) (by omega)
      omega
    · intro h j hj
      unfold List.Nodup at h
      rw [List.pairwise_iff_getElem] at h
      unfold Lib.keeps
      by_cases e : j = 0
      · simp [e]
      · have := h (j - 1) j (by omega) hj (by omega)
        simp [e, hj, show j - 1 < zs.length by omega]
        exact fun h2 => this h2.symm
  constructor
  · intro h h2; have := key.2 h2; omega
  · intro h
    rcases Nat.lt_or_ge (Lib.compact zs).length zs.length with c | c
    · exact c
    · exact absurd (key.1 (by omega)) h
theorem compact_mergeSort (zs : List Int) : (Lib.compact (zs.mergeSort leI)).length < zs.length ↔ ¬ zs.Nodup := by
  have hp := List.mergeSort_perm zs leI
  have hs : (zs.mergeSort leI).Pairwise (· ≤ ·) := by
    have := List.pairwise_mergeSort (le := leI) (fun a b c => by simp [leI]; omega) (fun a b => by simp [leI]; omega) zs
    exact this.imp (fun h => by simpa [leI] using h)
  have := compact_sorted _ hs
  rw [hp.length_eq, hp.nodup_iff] at this
  exact this
end Go.Proofs.Ytpnjhffnlafabaa.Sn
