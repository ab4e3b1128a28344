/- End of package le; table of package parcel: what the table of an image tells. -/
import Derived.Test.YtpnjhffnlafabaaGreatDoorQIm6
namespace Go.Proofs.YtpnjhffnlafabaaGreatDoor.Im
set_option linter.unusedVariables false
set_option linter.unusedSimpArgs false
open Go.RowKit Go.Proofs.Bk Go.Proofs.Bm Go.Proofs.Sc Go.Proofs.Kf Go.Proofs.YtpnjhffnlafabaaGreatDoorW.PrintWords Go.Proofs.YtpnjhffnlafabaaGreatDoor.Sl Go.Proofs.YtpnjhffnlafabaaGreatDoor.Sn Go.Proofs.YtpnjhffnlafabaaGreatDoor.PImageBack
/-! ### entries -/
structure EN where
  f0 : Int
  f1 : Int
  f2 : Int
def zN : EN := ⟨0, 0, 0⟩
instance : Inhabited EN := ⟨zN⟩
def kN : Kd EN := Kd.iso (Kd.pair (Kd.int .i64) (Kd.pair (Kd.int .i64) (Kd.int .u64))) (fun x : EN => (x.f0, x.f1, x.f2))
theorem kN_open {w : World} {x : EN} {cs : List Value} (h : kN.K w x cs) : cs = [.int .i64 x.f0, .int .i64 x.f1, .int .u64 x.f2] := by
  obtain ⟨_, _, rfl, rfl, ⟨_, _, rfl, rfl, rfl⟩⟩ := h
  exact rfl
theorem kN_mk (w : World) (x : EN) : kN.K w x [.int .i64 x.f0, .int .i64 x.f1, .int .u64 x.f2] := ⟨[.int .i64 x.f0], [.int .i64 x.f1, .int .u64 x.f2], rfl, rfl, ⟨[.int .i64 x.f1], [.int .u64 x.f2], rfl, rfl, rfl⟩⟩
theorem kN_mkM (w : World) (base : Nat) (ok : Nat → Prop) (x : EN) : kN.M w base ok x [.int .i64 x.f0, .int .i64 x.f1, .int .u64 x.f2] := ⟨[.int .i64 x.f0], [.int .i64 x.f1, .int .u64 x.f2], rfl, rfl, ⟨[.int .i64 x.f1], [.int .u64 x.f2], rfl, rfl, rfl⟩⟩
theorem szN3 : (Tryz.prog.info? 95).map (·.size) = some 3 := by kernel_rfl
theorem oneN3 {a b c : Int} : ∀ v ∈ ([.int .i64 a, .int .i64 b, .int .u64 c] : List Value), v.oneCell' = true := by
  intro v hv; simp at hv; rcases hv with rfl | rfl | rfl <;> rfl
theorem N_one {A : Option Addr} {n : Nat} {ts : List EN} {w : World} (h : kN.C w A n ts) {k : Nat} (hk : k < n) :
    ∃ b o x, A = some ⟨b, o, none⟩ ∧ b < w.heap.size ∧ ts[k]? = some x ∧ w.cell? ⟨b, o + k * 3, none⟩ = some (.int .i64 x.f0) ∧ w.cell? ⟨b, o + k * 3 + 1, none⟩ = some (.int .i64 x.f1) ∧ w.cell? ⟨b, o + k * 3 + 2, none⟩ = some (.int .u64 x.f2) := by
  obtain ⟨b, o, h1, h2, h3⟩ := C_at h (by omega) (by decide)
  have hl : k < ts.length := by have := h.1; omega
  have hx := List.getElem?_eq_getElem hl
  obtain ⟨c, _, q2, q3⟩ := h3 k _ hx
  obtain rfl := kN_open q2
  exact ⟨b, o, ts[k], h1, h2, hx, q3 0 _ rfl, q3 1 _ rfl, q3 2 _ rfl⟩
/-! ### End -/
def endOf (xs : List Int) (f : Int) : Int := if f = 0 ∧ 0 < xs.length then 3 else f
set_option maxHeartbeats 2000000 in
theorem End_calls (r g : Nat) (xs : List Int) (f : Int) (w : World) (h : IsReader w r g xs f) :
    Calls Tryz.prog 60 #[.pointer (some ⟨r, 0, none⟩)] w (PurePost (.int .i64 (endOf xs f)) w) := by
  obtain ⟨A, c, hr, hc, hC, hg, hrg⟩ := h
  have c0 : w.cell? ⟨r, 0, none⟩ = some (.slice A xs.length c) := (cell_row hr 0).trans rfl
  have c1 : w.cell? ⟨r, 1, none⟩ = some (.int .i64 f) := (cell_row hr 1).trans rfl
  obtain ⟨n, hn⟩ : ∃ n, xs.length = n := ⟨_, rfl⟩
  rw [hn] at c0
  clear hr hC hg hrg hc
  by_cases hf : f = 0
  · subst hf
    by_cases h0 : 0 < n
    · have e : endOf xs 0 = 3 := by unfold endOf; rw [if_pos ⟨rfl, by omega⟩]
      have z : (0 : Int) < (n : Int) := by omega
      rw [e]
      go_enter Tryz.func60, Tryz.ntmps60
      go_wp2_with fail
      go_ret
      exact ⟨rfl, rfl⟩
    · have e : endOf xs 0 = 0 := by unfold endOf; rw [if_neg (fun h => h0 (by omega))]
      have z : ¬ (0 : Int) < (n : Int) := by omega
      rw [e]
      go_enter Tryz.func60, Tryz.ntmps60
      go_wp2_with fail
      go_ret
      exact ⟨rfl, rfl⟩
  · have e : endOf xs f = f := by unfold endOf; rw [if_neg (fun h => hf h.1)]
    have z : (f == 0) = false := by simpa using hf
    rw [e]
    go_enter Tryz.func60, Tryz.ntmps60
    go_wp2_with fail
    go_ret
    exact ⟨rfl, rfl⟩
theorem part_ok_calls (r g : Nat) (xs : List Int) (many : Int) (k : Nat) (w : World) (hmk : many = (k : Int)) (h : IsReader w r g xs 0) (hl : k ≤ xs.length) :
    Calls Tryz.prog 59 #[.pointer (some ⟨r, 0, none⟩), .int .i64 many] w (fun e w' => ∃ A c, e = .returned (.slice A k c) ∧ k ≤ c ∧ U8.C w' A k (xs.take k) ∧ (∀ ad, A = some ad → ad.block = g) ∧ IsReader w' r g (xs.drop k) 0 ∧ KeepF (fun k => k = r) w w') := by
  subst hmk
  have hp : Sl.part xs 0 k = (xs.take k, xs.drop k, 0) := by
    unfold Sl.part
    rw [if_neg (by simp), if_neg (by omega), if_neg (by omega), Int.toNat_natCast]
  have kt := Part_calls r g xs 0 k w h
  unfold PartPost at kt
  rw [hp] at kt
  refine kt.mono ?_
  rintro e w' ⟨A, n, c, rfl, h1, h2, h3, h4, h5⟩
  have hn : (xs.take k).length = n := h2.1
  rw [List.length_take, Nat.min_eq_left hl] at hn
  subst hn
  exact ⟨A, c, rfl, h1, h2, h3, h4, h5⟩
/-! ### table, plain -/
def eRow (xs : List Int) : EN := ⟨nx xs 1, nx (xs.drop 1) 2, leNum ((xs.drop 3).take 4)⟩
def entriesOf (xs : List Int) (k : Nat) : List EN := (List.range k).map fun i => eRow (xs.drop (7 * i))
theorem entriesOf_succ (xs : List Int) (k : Nat) : entriesOf xs (k + 1) = entriesOf xs k ++ [eRow (xs.drop (7 * k))] := by
  unfold entriesOf; rw [List.range_succ, List.map_append]; rfl
theorem entriesOf_length (xs : List Int) (k : Nat) : (entriesOf xs k).length = k := by simp [entriesOf]
def manyOf (b : List Int) : Nat := (leNum ((b.drop 4).take 1)).toNat
def tableOf (b : List Int) : Int × List EN × List Int :=
  if leNum ((b.drop 5).take 4) ≠ crc (b.take 5) then (4, [], []) else if 16 < manyOf b then (7, [], []) else if b.length < 13 + 7 * manyOf b then (2, [], [])
  else if leNum ((b.drop (9 + 7 * manyOf b)).take 4) ≠ crc (b.take (9 + 7 * manyOf b)) then (4, [], []) else (0, entriesOf (b.drop 9) (manyOf b), b.drop (13 + 7 * manyOf b))
end Go.Proofs.YtpnjhffnlafabaaGreatDoor.Im
