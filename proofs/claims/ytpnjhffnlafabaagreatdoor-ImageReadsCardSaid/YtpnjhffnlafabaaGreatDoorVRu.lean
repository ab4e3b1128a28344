/- The reference of layer 10, Unpack: plain. Bytes as a string; the table's entries byte by byte; the bodies in turn. -/
import Derived.Test.YtpnjhffnlafabaaGreatDoorVIma
import Derived.Test.YtpnjhffnlafabaaGreatDoorVRe2
import Derived.Test.YtpnjhffnlafabaaGreatDoorVIs1
import Derived.Laws.BytesString
namespace Go.Proofs.YtpnjhffnlafabaaGreatDoor.Im
set_option linter.unusedVariables false
set_option linter.unusedSimpArgs false
open Go.Proofs Go.RowKit Go.Proofs.Bk Go.Proofs.Bm Go.Proofs.Sc Go.Proofs.Kf Go.Proofs.YtpnjhffnlafabaaGreatDoorW.PrintWords Go.Proofs.YtpnjhffnlafabaaGreatDoor.Sl Go.Proofs.YtpnjhffnlafabaaGreatDoor.Sn Go.Proofs.YtpnjhffnlafabaaGreatDoor.PImageBack
def strB (x : List Int) : ByteArray := ⟨(x.map (fun n => UInt8.ofNat n.toNat)).toArray⟩
theorem strB_inj {x y : List Int} (hx : inB x) (hy : inB y) (h : strB x = strB y) : x = y := by
  refine bytesOf_inj hx hy ?_
  have := congrArg (fun b : ByteArray => b.data.toList) h
  simpa [strB, Lib.bytesOf] using this
theorem foldl_pushB : ∀ (ns : List Int) (s : ByteArray), ns.foldl (fun r n => r.push (UInt8.ofNat n.toNat)) s = ⟨s.data ++ (ns.map (fun n => UInt8.ofNat n.toNat)).toArray⟩
  | [], s => by simp
  | n :: ns, s => by
    rw [List.foldl_cons, foldl_pushB ns]
    simp [ByteArray.push]
theorem run_convB (w : World) (A : Option Addr) (n c : Nat) (x : List Int) (hp : 0 < n) (h : U8.C w A n x) : (convert 28 9 (.slice A n c)).run Tryz.prog w = .ok (.string (strB x)) w := by
  obtain ⟨ad, rfl, _⟩ := h.2.2 hp
  have hl := h.1
  have hc : ∀ j u, (x.map (Value.int .u8))[j]? = some u → w.cell? (ad.add j) = some u := by
    intro j u hj
    have hjl : j < n := by have := (List.getElem?_eq_some_iff.1 hj).1; rw [List.length_map, hl] at this; exact this
    obtain ⟨ad', e, hxx⟩ := Kd.at_int h (j : Int) (by omega) (by omega)
    injection e with e; subst e
    rw [Int.toNat_natCast] at hxx
    have hu : u = .int .u8 (rd x j) := by
      rw [List.getElem?_map] at hj
      obtain ⟨y, hy, rfl⟩ := Option.map_eq_some_iff.1 hj
      unfold rd; rw [Int.toNat_natCast, List.getD_eq_getElem?_getD, hy]; rfl
    rw [hu]; exact hxx
  have hl2 := run_loadCells_list (P := Tryz.prog) w ad (x.map (Value.int .u8)) hc
  rw [List.length_map, hl] at hl2
  rw [run_convert_bytes_string w _ _ _ _ n c Tryz.underlying28 Tryz.underlying5 Tryz.underlying9, run_bytesToString w ad n c x hl2, foldl_pushB]
  congr 2
  simp [strB]
theorem rd_inB {l : List Int} (h : inB l) {i : Nat} (hi : i < l.length) : 0 ≤ rd l i ∧ rd l i ≤ 255 :=
  h _ (by unfold rd; rw [Int.toNat_natCast, List.getD_eq_getElem?_getD, List.getElem?_eq_getElem hi]; exact List.getElem_mem _)
theorem rd_get {l : List Int} {i : Nat} (hi : i < l.length) : l[i]? = some (rd l i) := by
  unfold rd; rw [Int.toNat_natCast, List.getD_eq_getElem?_getD, List.getElem?_eq_getElem hi]; rfl
theorem drop_rd {l : List Int} {i : Nat} (hi : i < l.length) : l.drop i = rd l i :: l.drop (i + 1) := by
  rw [List.drop_eq_getElem_cons hi]
  congr 1
  have := rd_get hi
  rw [List.getElem?_eq_getElem hi] at this
  exact Option.some.inj this
theorem loopB_eq (s : ByteArray) : ∀ (k i : Nat) (acc : List UInt8), s.size - i = k → ByteArray.toList.loop s i acc = acc.reverse ++ s.data.toList.drop i := by
  intro k
  induction k with
  | zero =>
    intro i acc h
    unfold ByteArray.toList.loop
    rw [if_neg (by omega), List.drop_of_length_le (by rw [Array.length_toList]; show s.size ≤ i; omega), List.append_nil]
  | succ k ih =>
    intro i acc h
    have hi : i < s.data.toList.length := by rw [Array.length_toList]; show i < s.size; omega
    unfold ByteArray.toList.loop
    rw [if_pos (by omega), ih (i + 1) _ (by omega), List.reverse_cons, List.append_assoc, List.drop_eq_getElem_cons hi]
    have hi2 : i < s.data.size := by rw [← Array.length_toList]; exact hi
    have e : s.get! i = s.data.toList[i] := by
      show s.data[i]! = _
      rw [getElem!_pos s.data i hi2, Array.getElem_toList]
    rw [e]; rfl
theorem listB_eq (s : ByteArray) : s.toList = s.data.toList := by
  unfold ByteArray.toList
  rw [loopB_eq s _ 0 [] rfl]; simp
theorem magic_list {x : List Int} (hx : inB x) {p : Bool} (h : decide (x = pmagic) = p) : ((strB x).toList == [68, 80, 90, 49]) = p := by
  rw [listB_eq, ← h]
  have e : ([68, 80, 90, 49] : List UInt8) = (strB pmagic).data.toList := rfl
  rw [e]
  by_cases h : x = pmagic
  · subst h; simp
  · have : (strB x).data.toList ≠ (strB pmagic).data.toList := fun e => h (strB_inj hx pmagic_range (ByteArray.ext (Array.ext' e)))
    simp only [beq_eq_false_iff_ne.2 this, h, decide_false]
theorem many_rd {b : List Int} (h : 5 ≤ b.length) : manyOf b = (rd b 4).toNat := by
  unfold manyOf
  rw [drop_rd (i := 4) (by omega)]
  simp only [List.take_succ_cons, List.take_zero, leNum]
  congr 1
  show rd b 4 + 256 * 0 = rd b 4
  omega
theorem cut_C {w : World} {A : Option Addr} {n : Nat} {b : List Int} (h : U8.C w A n b) (lo k : Nat) (hk : lo + k ≤ n) : U8.C w (A.map fun x => x.add lo) k ((b.drop lo).take k) :=
  C_take0 (C_drop0 h lo (by omega)) k (by omega)
theorem cut_N {w : World} {g o n : Nat} {b : List Int} (h : U8.C w (some ⟨g, o, none⟩) n b) (lo k : Nat) (hk : lo + k ≤ n) : U8.C w (some ⟨g, o + lo, none⟩) k ((b.drop lo).take k) := by
  have := cut_C h lo k hk
  rwa [Option.map_some, addAt] at this
theorem cell_N {w : World} {g o n : Nat} {b : List Int} (h : U8.C w (some ⟨g, o, none⟩) n b) (i : Nat) (hi : i < n) : w.cell? ⟨g, o + i, none⟩ = some (.int .u8 (rd b (i : Int))) := by
  obtain ⟨ad, e, x⟩ := Kd.at_int h (i : Int) (by omega) (by omega)
  obtain rfl := (Option.some.inj e).symm
  rw [Int.toNat_natCast, addAt] at x
  exact x
theorem digs4_iff {l : List Int} {x : Int} (hl : inB l) (h4 : l.length = 4) (h0 : 0 ≤ x) (h1 : x < 4294967296) : (l = digs x 4) ↔ leNum l = x := by
  constructor
  · intro e; rw [e, leNum_digs_of h0 (by omega)]
  · intro e; rw [← e, ← h4]; exact (digs_leNum l hl).symm
def eN (b : List Int) (i : Nat) : EN := ⟨rd b ((9 + 7 * i : Nat) : Int), rd b ((10 + 7 * i : Nat) : Int) + 256 * rd b ((11 + 7 * i : Nat) : Int), leNum ((b.drop (12 + 7 * i)).take 4)⟩
theorem eRow_eN {b : List Int} (hb : inB b) {i : Nat} (hi : 16 + 7 * i ≤ b.length) : eRow ((b.drop 9).drop (7 * i)) = eN b i := by
  have r0 := rd_inB hb (i := 9 + 7 * i) (by omega)
  have r1 := rd_inB hb (i := 10 + 7 * i) (by omega)
  have r2 := rd_inB hb (i := 11 + 7 * i) (by omega)
  rw [List.drop_drop, drop_rd (i := 9 + 7 * i) (by omega), drop_rd (i := 9 + 7 * i + 1) (by omega), drop_rd (i := 9 + 7 * i + 1 + 1) (by omega)]
  rw [show 9 + 7 * i + 1 = 10 + 7 * i by omega, show 10 + 7 * i + 1 = 11 + 7 * i by omega, show 11 + 7 * i + 1 = 12 + 7 * i by omega]
  unfold eRow eN nx
  simp only [List.drop_succ_cons, List.drop_zero, List.take_succ_cons, List.take_zero, leNum]
  have e0 : rd b ↑(9 + 7 * i) + 256 * 0 = rd b ↑(9 + 7 * i) := by omega
  have e1 : rd b ↑(10 + 7 * i) + 256 * (rd b ↑(11 + 7 * i) + 256 * 0) = rd b ↑(10 + 7 * i) + 256 * rd b ↑(11 + 7 * i) := by omega
  rw [e0, e1, wrap64_of (by omega) (by omega), wrap64_of (by omega) (by omega)]
theorem entries_eN {b : List Int} (hb : inB b) : ∀ (k : Nat), 9 + 7 * k ≤ b.length → entriesOf (b.drop 9) k = (List.range k).map (eN b) := by
  intro k
  induction k with
  | zero => intro _; rfl
  | succ k ih =>
    intro hk
    rw [entriesOf_succ, ih (by omega), eRow_eN hb (by omega), List.range_succ, List.map_append]; rfl
/-! ### the bodies in turn -/
def lenS (es : List EN) : Int := (es.map (·.f1)).sum
theorem lenS_snoc (es : List EN) (e : EN) : lenS (es ++ [e]) = lenS es + e.f1 := by simp [lenS]
theorem lenS_nonneg : ∀ (es : List EN), (∀ e ∈ es, 0 ≤ e.f1) → 0 ≤ lenS es
  | [], _ => by simp [lenS]
  | e :: es, h => by
    have h1 := h e (by simp)
    have h2 := lenS_nonneg es (fun x hx => h x (by simp [hx]))
    unfold lenS at *; simp at *; omega
theorem part_bad : ∀ (es : List EN) (xs : List Int), (partsL es xs 2).2.2 = 2
  | [], xs => rfl
  | e :: es, xs => by
    rw [partsL]
    have : Sl.part xs 2 e.f1 = ([], xs, 2) := by unfold Sl.part; rw [if_pos (by decide)]
    rw [this]; exact part_bad es xs
theorem parts_short : ∀ (es : List EN) (xs : List Int), (∀ e ∈ es, 0 ≤ e.f1) → (xs.length : Int) < lenS es → (partsL es xs 0).2.2 = 2
  | [], xs, _, h => by simp [lenS] at h; omega
  | e :: es, xs, hp, h => by
    have h1 := hp e (by simp)
    rw [partsL]
    unfold Sl.part
    rw [if_neg (by simp), if_neg (by omega)]
    by_cases hl : (xs.length : Int) < e.f1
    · rw [if_pos hl]; exact part_bad es xs
    · rw [if_neg hl]
      refine parts_short es _ (fun x hx => hp x (by simp [hx])) ?_
      have h3 : lenS (e :: es) = e.f1 + lenS es := by simp [lenS]
      rw [h3] at h
      rw [List.length_drop]
      omega
def bodA : List EN → List Int → List (List Int)
  | [], _ => []
  | e :: es, xs => xs.take e.f1.toNat :: bodA es (xs.drop e.f1.toNat)
theorem parts_fit : ∀ (es : List EN) (xs : List Int), (∀ e ∈ es, 0 ≤ e.f1) → lenS es ≤ xs.length → partsL es xs 0 = (bodA es xs, xs.drop (lenS es).toNat, 0)
  | [], xs, _, h => by simp [partsL, bodA, lenS]
  | e :: es, xs, hp, h => by
    have h1 := hp e (by simp)
    have h2 := lenS_nonneg es (fun x hx => hp x (by simp [hx]))
    have h3 : lenS (e :: es) = e.f1 + lenS es := by simp [lenS]
    rw [h3] at h ⊢
    have hpart : Sl.part xs 0 e.f1 = (xs.take e.f1.toNat, xs.drop e.f1.toNat, 0) := by unfold Sl.part; rw [if_neg (by simp), if_neg (by omega), if_neg (by omega)]
    have h4 : e.f1.toNat + (lenS es).toNat = (e.f1 + lenS es).toNat := by omega
    rw [partsL, hpart]
    dsimp only
    rw [parts_fit es _ (fun x hx => hp x (by simp [hx])) (by rw [List.length_drop]; omega), bodA, List.drop_drop, h4]
theorem bodA_len : ∀ (es : List EN) (xs : List Int), (bodA es xs).length = es.length
  | [], _ => rfl
  | e :: es, xs => by rw [bodA, List.length_cons, bodA_len es, List.length_cons]
theorem bodA_get : ∀ (es : List EN) (xs : List Int) (i : Nat) (e : EN), (∀ e ∈ es, 0 ≤ e.f1) → es[i]? = some e → (bodA es xs)[i]? = some ((xs.drop (lenS (es.take i)).toNat).take e.f1.toNat)
  | [], _, i, e, _, h => by simp at h
  | x :: es, xs, 0, e, _, h => by simp at h; subst h; simp [bodA, lenS]
  | x :: es, xs, i + 1, e, hp, h => by
    have h1 := hp x (by simp)
    have h2 := lenS_nonneg (es.take i) (fun y hy => hp y (by simp [List.mem_of_mem_take hy]))
    rw [bodA, List.getElem?_cons_succ, bodA_get es _ i e (fun y hy => hp y (by simp [hy])) (by simpa using h), List.drop_drop, List.take_succ_cons]
    have h3 : lenS (x :: es.take i) = x.f1 + lenS (es.take i) := by simp [lenS]
    rw [h3, show x.f1.toNat + (lenS (es.take i)).toNat = (x.f1 + lenS (es.take i)).toNat by omega]
theorem parts_nil_bod (es : List EN) (xs : List Int) (h : ∀ e ∈ es, 0 ≤ e.f1) (hl : lenS es = xs.length) : partsL es xs 0 = (bodA es xs, [], 0) := by
  rw [parts_fit es xs h (by omega), List.drop_of_length_le (by omega)]
theorem lenS_take_succ {es : List EN} {i : Nat} {e : EN} (h : es[i]? = some e) : lenS (es.take (i + 1)) = lenS (es.take i) + e.f1 := by
  rw [List.take_add_one, h]; exact lenS_snoc _ _
theorem lenS_take_le {es : List EN} (h : ∀ e ∈ es, 0 ≤ e.f1) (i : Nat) : lenS (es.take i) ≤ lenS es := by
  have h1 : lenS (es.take i ++ es.drop i) = lenS (es.take i) + lenS (es.drop i) := by simp only [lenS, List.map_append, List.sum_append]
  rw [List.take_append_drop] at h1
  have := lenS_nonneg (es.drop i) (fun e he => h e (List.mem_of_mem_drop he))
  omega
/-! ### a row of sections as plain cells -/
structure SH where
  k : Int
  A : Option Addr
  n : Nat
  c : Nat
def kSH : Kd SH where
  sz := 2
  E := []
  K := fun _ x cs => cs = [.int .i64 x.k, .slice x.A x.n x.c]
  M := fun _ _ _ x cs => cs = [.int .i64 x.k, .slice x.A x.n x.c]
  K_len := by rintro w x cs rfl; rfl
  K_one := by
    rintro w x cs rfl u hu
    simp at hu; rcases hu with rfl | rfl <;> rfl
  K_below := fun _ h => h
  K_of_M := fun h => h
  M_mono := fun _ h => h
  M_bound := fun h => h
  M_move := fun _ h => h
  M_lower := fun _ h => h
def RowIs (w : World) (es : List EN) (bs : List (List Int)) (hs : List SH) : Prop :=
  ∀ (j : Nat) (h : SH) (l : List Int), hs[j]? = some h → bs[j]? = some l → (∃ e : EN, es[j]? = some e ∧ h.k = e.f0) ∧ h.n = l.length ∧ l.length ≤ h.c ∧ U8.C w h.A h.n l ∧ ∀ ad, h.A = some ad → ad.spot = none
theorem RowIs.push {w : World} {es : List EN} {bs : List (List Int)} {hs : List SH} {h : SH} (R : RowIs w es bs hs) {e : EN} {l : List Int} (he : es[hs.length]? = some e) (hl : bs[hs.length]? = some l) (h1 : h.k = e.f0) (h2 : h.n = l.length) (h3 : l.length ≤ h.c) (h4 : U8.C w h.A h.n l) (h5 : ∀ ad, h.A = some ad → ad.spot = none) : RowIs w es bs (hs ++ [h]) := by
  intro j x m hx hm
  by_cases hj : j < hs.length
  · rw [List.getElem?_append_left hj] at hx
    exact R j x m hx hm
  · have hj2 : j = hs.length := by
      have := (List.getElem?_eq_some_iff.1 hx).1
      rw [List.length_append, List.length_singleton] at this
      omega
    subst hj2
    rw [List.getElem?_append_right (Nat.le_refl _), Nat.sub_self] at hx
    obtain rfl : h = x := by simpa using hx
    rw [hl] at hm
    obtain rfl := Option.some.inj hm
    exact ⟨⟨e, he, h1⟩, h2, h3, h4, h5⟩
theorem RowIs.secs {w w' : World} {es : List EN} {bs : List (List Int)} {hs : List SH} {A : Option Addr} {n : Nat} (R : RowIs w es bs hs) (hC : kSH.C w' A n hs) (hb : Below w.heap.size w w') (h1 : es.length = n) (h2 : bs.length = n) : kE.C w' A n (secsZ es bs) := by
  have hl : (secsZ es bs).length = n := by unfold secsZ; rw [List.length_map, List.length_zip]; omega
  refine ⟨hl, hC.2.1, fun hn => ?_⟩
  obtain ⟨ad, e, hc⟩ := hC.2.2 hn
  refine ⟨ad, e, fun j s hs' => ?_⟩
  have hj : j < n := by rw [← hl]; exact (List.getElem?_eq_some_iff.1 hs').1
  have hjs : j < hs.length := by have := hC.1; omega
  have hh := List.getElem?_eq_getElem hjs
  obtain ⟨cs, q1, q2, q3⟩ := hc j _ hh
  have hbj : j < bs.length := by omega
  obtain ⟨⟨e2, he2, hk⟩, hn2, hc2, hC2, -⟩ := R j _ _ hh (List.getElem?_eq_getElem hbj)
  have hs2 : s = ⟨e2.f0, bs[j]⟩ := by
    unfold secsZ at hs'
    have hz : (es.zip bs)[j]? = some (e2, bs[j]) := List.getElem?_zip_eq_some.2 ⟨he2, List.getElem?_eq_getElem hbj⟩
    rw [List.getElem?_map, hz] at hs'
    simpa using hs'.symm
  subst hs2
  refine ⟨cs, q1, ?_, q3⟩
  have q2' : cs = [.int .i64 hs[j].k, .slice hs[j].A hs[j].n hs[j].c] := q2
  rw [q2', hk, hn2]
  refine k36_mk w' ⟨e2.f0, bs[j]⟩ hc2 ?_
  rw [← hn2]
  exact Kd.C_below hC2 hb
end Go.Proofs.YtpnjhffnlafabaaGreatDoor.Im
