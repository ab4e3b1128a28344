/- Unpack of package parcel, plain; bytes.HasPrefix; the magic as bytes. -/
import Derived.Test.YtpnjhffnlafabaaGreatDoorQIm8
namespace Go.Proofs.YtpnjhffnlafabaaGreatDoor.Im
set_option linter.unusedVariables false
set_option linter.unusedSimpArgs false
open Go.Proofs Go.RowKit Go.Proofs.Bk Go.Proofs.Bm Go.Proofs.Sc Go.Proofs.Kf Go.Proofs.YtpnjhffnlafabaaGreatDoorW.PrintWords Go.Proofs.YtpnjhffnlafabaaGreatDoor.Sl Go.Proofs.YtpnjhffnlafabaaGreatDoor.Sn Go.Proofs.YtpnjhffnlafabaaGreatDoor.PImageBack
theorem u8_ofNat_inj {a b : Int} (ha : 0 ≤ a ∧ a ≤ 255) (hb : 0 ≤ b ∧ b ≤ 255) (h : UInt8.ofNat a.toNat = UInt8.ofNat b.toNat) : a = b := by
  have := congrArg UInt8.toNat h
  simp only [UInt8.toNat_ofNat'] at this
  rw [Nat.mod_eq_of_lt (by omega), Nat.mod_eq_of_lt (by omega)] at this
  omega
theorem bytesOf_inj {x y : List Int} (hx : ∀ a ∈ x, 0 ≤ a ∧ a ≤ 255) (hy : ∀ a ∈ y, 0 ≤ a ∧ a ≤ 255) (h : Lib.bytesOf x = Lib.bytesOf y) : x = y := by
  induction x generalizing y with
  | nil => cases y with | nil => rfl | cons b y => simp [Lib.bytesOf] at h
  | cons a x ih =>
    cases y with
    | nil => simp [Lib.bytesOf] at h
    | cons b y =>
      simp only [Lib.bytesOf, List.map_cons, List.cons.injEq] at h
      have ha := hx a (by simp)
      have hb := hy b (by simp)
      rw [u8_ofNat_inj ha hb h.1, ih (fun c hc => hx c (by simp [hc])) (fun c hc => hy c (by simp [hc])) h.2]
theorem bytesIn_of {w : World} {A : Option Addr} {n : Nat} {xs : List Int} (h : (Kd.int .u8).C w A n xs) : Lib.BytesIn w A n xs := by
  intro hn
  obtain ⟨ad, rfl, _⟩ := h.2.2 hn
  refine Lib.BytesIn.of_cells (a := ad) (fun i hi => ?_) hn
  obtain ⟨ad', e, hx⟩ := Kd.at_int h (i : Int) (by omega) (by omega)
  obtain rfl := Option.some.inj e
  rw [Int.toNat_natCast] at hx
  rw [hx]; unfold rd; rw [Int.toNat_natCast]
theorem HasPrefix_calls (A1 A2 : Option Addr) (n c m d : Nat) (xs ys : List Int) (w : World) (h1 : U8.C w A1 n xs) (h2 : U8.C w A2 m ys) (hc : n ≤ c) (hx : inB xs) (hy : inB ys) :
    Calls Tryz.prog 57 #[.slice A1 n c, .slice A2 m d] w (PurePost (.bool (decide (xs.take m = ys))) w) := by
  refine (Tryz.bytes_HasPrefix_all A1 A2 n c m d xs ys w h1.1 h2.1 hc (bytesIn_of h1) (bytesIn_of h2)).mono ?_
  rintro e w' ⟨rfl, rfl⟩
  refine ⟨?_, rfl⟩
  have hm : ys.length = m := h2.1
  have hk : Lib.hasPrefix (Lib.bytesOf xs) (Lib.bytesOf ys) = decide (xs.take m = ys) := by
    unfold Lib.hasPrefix
    rw [Bool.eq_iff_iff, List.isPrefixOf_iff_prefix, List.prefix_iff_eq_take, decide_eq_true_iff]
    have hl : (Lib.bytesOf ys).length = m := by simp [Lib.bytesOf, hm]
    have ht : (Lib.bytesOf xs).take m = Lib.bytesOf (xs.take m) := by simp [Lib.bytesOf, List.map_take]
    rw [hl, ht]
    exact ⟨fun h => (bytesOf_inj hy (fun x hx' => hx x (List.mem_of_mem_take hx')) h).symm, fun h => by rw [h]⟩
  rw [hk]
/-! ### Unpack, plain -/
def partsL : List EN → List Int → Int → List (List Int) × List Int × Int
  | [], xs, f => ([], xs, f)
  | e :: es, xs, f => ((Sl.part xs f e.f1).1 :: (partsL es (Sl.part xs f e.f1).2.1 (Sl.part xs f e.f1).2.2).1, (partsL es (Sl.part xs f e.f1).2.1 (Sl.part xs f e.f1).2.2).2)
theorem partsL_snoc : ∀ (es : List EN) (e : EN) (xs : List Int) (f : Int), partsL (es ++ [e]) xs f =
    ((partsL es xs f).1 ++ [(Sl.part (partsL es xs f).2.1 (partsL es xs f).2.2 e.f1).1], (Sl.part (partsL es xs f).2.1 (partsL es xs f).2.2 e.f1).2)
  | [], e, xs, f => rfl
  | x :: es, e, xs, f => by
    rw [List.cons_append, partsL, partsL_snoc es e]
    rfl
theorem partsL_length : ∀ (es : List EN) (xs : List Int) (f : Int), (partsL es xs f).1.length = es.length
  | [], _, _ => rfl
  | e :: es, xs, f => by rw [partsL, List.length_cons, partsL_length es, List.length_cons]
def sumsOk (es : List EN) (bs : List (List Int)) : Bool := (es.zip bs).all fun p => decide (crc p.2 = p.1.f2)
def secsZ (es : List EN) (bs : List (List Int)) : List SE := (es.zip bs).map fun p => ⟨p.1.f0, p.2⟩
def unpackOf (b : List Int) : Int × List SE :=
  if b.length < 9 then (2, []) else if b.take 4 ≠ pmagic then (20, []) else
  if (tableOf b).1 ≠ 0 then ((tableOf b).1, []) else
  if risingL 0 ((tableOf b).2.1.map (·.f0)) = false then (21, []) else
  if endOf (partsL (tableOf b).2.1 (tableOf b).2.2 0).2.1 (partsL (tableOf b).2.1 (tableOf b).2.2 0).2.2 ≠ 0 then (endOf (partsL (tableOf b).2.1 (tableOf b).2.2 0).2.1 (partsL (tableOf b).2.1 (tableOf b).2.2 0).2.2, []) else
  if sumsOk (tableOf b).2.1 (partsL (tableOf b).2.1 (tableOf b).2.2 0).1 = false then (4, []) else (0, secsZ (tableOf b).2.1 (partsL (tableOf b).2.1 (tableOf b).2.2 0).1)
end Go.Proofs.YtpnjhffnlafabaaGreatDoor.Im
