/- The references of layers 1 and 2: numbers as bytes and back; the check, bit by bit. The reference of layer 10: what is wrong with sections; Pack. The reference of layer 10: Pack. The reference of layer 14: its four sections while they are filled. -/
import Derived.Test.YtpnjhffnlafabaaGreatDoorTImq
import Derived.Test.YtpnjhffnlafabaaGreatDoorTIs1
import Derived.Test.YtpnjhffnlafabaaGreatDoorTHt
namespace Go.Proofs.YtpnjhffnlafabaaGreatDoor.Im
set_option linter.unusedVariables false
set_option linter.unusedSimpArgs false
open Go.Proofs Go.RowKit Go.Proofs.Bk Go.Proofs.Bm Go.Proofs.Sc Go.Proofs.Kf Go.Proofs.YtpnjhffnlafabaaGreatDoorW.PrintWords Go.Proofs.YtpnjhffnlafabaaGreatDoor.Sl Go.Proofs.YtpnjhffnlafabaaGreatDoor.Sn Go.Proofs.YtpnjhffnlafabaaGreatDoor.PImageBack
theorem xor_poly (h : Nat) (hl : h < 4294967296) : bits BinOp.xor IntKind.u32 (h : Int) (3988292384 : Int) = ((h ^^^ 3988292384 : Nat) : Int) := u32_xor_nat h 3988292384 hl (by decide)
set_option maxHeartbeats 4000000 in
set_option maxRecDepth 100000 in
theorem rIn_calls (c b : Nat) (w : World) (hc : c < 4294967296) (hb : b < 256) :
    Calls Tryz.prog 122 #[.int .u32 c, .int .u8 b] w (PurePost (.int .u32 ((cS c b : Nat) : Int)) w) := by
  have hx0 : bits BinOp.xor IntKind.u32 (c : Int) (b : Int) = ((c ^^^ b : Nat) : Int) := u32_xor_nat c b hc (by omega)
  have hxl : c ^^^ b < 4294967296 := Nat.xor_lt_two_pow (n := 32) (by omega) (by omega)
  obtain ⟨x, hx⟩ : ∃ x, c ^^^ b = x := ⟨_, rfl⟩
  rw [hx] at hx0 hxl
  have hcs : cS c b = cit 8 x := by unfold cS; rw [hx]
  rw [hcs]
  replace hx := Aside0.mk hx; replace hcs := Aside0.mk hcs
  go_enter Tryz.func122, Tryz.ntmps122
  go_wp2_with fail
  go_loopw [0, 5] (fun v0 v5 wr => ∃ (i y : Nat), v5 = .int .i64 i ∧ v0 = .int .u32 y ∧ i ≤ 8 ∧ y < 4294967296 ∧ Aside0 (cit i x = y) ∧ w = wr) (fun _ iv _ => 8 - (intOf iv).toNat)
  case atStart => exact ⟨0, x, rfl, rfl, by decide, hxl, ⟨rfl⟩, rfl⟩
  case round =>
    obtain ⟨i, y, rfl, rfl, hi, hy, hci, rfl⟩ := hrel
    clear hx0
    by_cases hlt : i < 8
    · have q1 : (i : Int) < 8 := by omega
      obtain ⟨h, hh⟩ : ∃ h, y / 2 = h := ⟨_, rfl⟩
      have hhl : h < 2147483648 := by omega
      have hdiv : ((y : Nat) : Int).tdiv 2 = (h : Int) := by rw [Int.tdiv_eq_ediv_of_nonneg (by omega)]; omega
      have hmod : ((y : Nat) : Int).tmod 2 = ((y % 2 : Nat) : Int) := by rw [Int.tmod_eq_emod_of_nonneg (by omega)]; rfl
      have hnx : cit (i + 1) x = cst y := by rw [cit_add 1 i x, hci.out]; rfl
      have hwh : IntKind.u32.wrap (h : Int) = (h : Int) := by rw [IntKind.wrap_u32]; omega
      rcases (by omega : y % 2 = 0 ∨ y % 2 = 1) with e | e
      · have hmod0 : ((y : Nat) : Int).tmod 2 = 0 := by rw [hmod, e]; rfl
        have hcst : cst y = h := by unfold cst; rw [if_neg (by omega), Nat.xor_zero, hh]
        clear hmod e
        replace hh := Aside0.mk hh; replace hnx := Aside0.mk hnx; replace hcst := Aside0.mk hcst
        go_wp2_with fail
        go_roundw
        case rel => exact ⟨i + 1, h, by simp, rfl, by omega, by omega, ⟨by rw [hnx.out, hcst.out]⟩, trivial⟩
        case measure => show 8 - ((i : Int) + 1).toNat < 8 - (i : Int).toNat; omega
      · have hmod0 : ((y : Nat) : Int).tmod 2 = 1 := by rw [hmod, e]; rfl
        have hcst : cst y = h ^^^ 3988292384 := by unfold cst; rw [if_pos e, hh]
        have hxp := xor_poly h (by omega)
        have hxl2 : h ^^^ 3988292384 < 4294967296 := Nat.xor_lt_two_pow (n := 32) (by omega) (by decide)
        obtain ⟨y2, hy2⟩ : ∃ y2, h ^^^ 3988292384 = y2 := ⟨_, rfl⟩
        rw [hy2] at hxp hxl2 hcst
        clear hmod e
        replace hh := Aside0.mk hh; replace hnx := Aside0.mk hnx; replace hcst := Aside0.mk hcst; replace hy2 := Aside0.mk hy2
        go_wp2_with fail
        go_roundw
        case rel => exact ⟨i + 1, y2, by simp, rfl, by omega, hxl2, ⟨by rw [hnx.out, hcst.out]⟩, trivial⟩
        case measure => show 8 - ((i : Int) + 1).toNat < 8 - (i : Int).toNat; omega
    · obtain rfl : i = 8 := by omega
      have hfin : Aside0 (cit 8 x = y) := hci
      go_wp2_with fail
      go_ret
      exact ⟨by rw [hfin.out]; rfl, rfl⟩
theorem rOver_calls (c : Nat) (w : World) (hc : c < 4294967296) : Calls Tryz.prog 105 #[.int .u32 c] w (PurePost (.int .u32 (4294967295 - (c : Int))) w) := by
  have hw1 : IntKind.u32.wrap (4294967295 - (c : Int)) = 4294967295 - (c : Int) := by rw [IntKind.wrap_u32]; omega
  go_enter Tryz.func105, Tryz.ntmps105
  go_wp2_with fail
  go_ret
  exact ⟨rfl, rfl⟩
set_option maxHeartbeats 4000000 in
set_option maxRecDepth 100000 in
theorem rAll_calls (c : Nat) (A : Option Addr) (n cc : Nat) (l : List Int) (w : World) (hc : c < 4294967296) (h : U8.C w A n l) (hl : inB l) :
    Calls Tryz.prog 106 #[.int .u32 c, .slice A n cc] w (PurePost (.int .u32 ((cF c (l.map Int.toNat) : Nat) : Int)) w) := by
  have hln : l.length = n := h.1
  have hn2 := h.2.1
  have HE := Aside0.mk h
  clear h
  replace hl := Aside0.mk hl; replace hln := Aside0.mk hln
  go_enter Tryz.func106, Tryz.ntmps106
  go_wp2_with fail
  go_loopw [0, 5] (fun v0 v5 wr => ∃ (i z : Nat), v5 = .int .i64 i ∧ v0 = .int .u32 z ∧ i ≤ n ∧ z < 4294967296 ∧ Aside0 (cF c ((l.take i).map Int.toNat) = z) ∧ w = wr) (fun _ iv _ => n - (intOf iv).toNat)
  case atStart => exact ⟨0, c, rfl, rfl, Nat.zero_le _, hc, ⟨rfl⟩, rfl⟩
  case round =>
    obtain ⟨i, z, rfl, rfl, hi, hz, hci, rfl⟩ := hrel
    by_cases hlt : i < n
    · have p1 : 0 ≤ (i : Int) := by omega
      have q1 : (i : Int) < (n : Int) := by omega
      obtain ⟨ad, rfl, x1⟩ := Kd.at_int HE.out i p1 q1
      rw [Int.toNat_natCast] at x1
      have hb2 : 0 ≤ rd l i ∧ rd l i ≤ 255 := hl.out _ (by unfold rd; rw [Int.toNat_natCast, List.getD_eq_getElem?_getD, List.getElem?_eq_getElem (by rw [hln.out]; exact hlt)]; exact List.getElem_mem _)
      obtain ⟨b, hb⟩ : ∃ b : Nat, rd l i = b := ⟨(rd l i).toNat, by omega⟩
      rw [hb] at x1 hb2
      have hb3 : b < 256 := by omega
      have hnx : cF c ((l.take (i + 1)).map Int.toNat) = cS z b := by
        have e1 : l[i]? = some (b : Int) := by
          have h9 := hb
          unfold rd at h9
          rw [Int.toNat_natCast, List.getD_eq_getElem?_getD, List.getElem?_eq_getElem (by rw [hln.out]; exact hlt)] at h9
          rw [List.getElem?_eq_getElem (by rw [hln.out]; exact hlt)]
          exact congrArg some h9
        rw [List.take_add_one, e1, List.map_append]
        unfold cF at hci ⊢
        rw [List.foldl_append, hci.out]
        rfl
      have hlt2 := cS_lt (c := z) (b := b) hz hb3
      have kin := rIn_calls z b w hz hb3
      obtain ⟨z2, hz2⟩ : ∃ z2, cS z b = z2 := ⟨_, rfl⟩
      rw [hz2] at kin hnx hlt2
      replace hb := Aside0.mk hb; replace hnx := Aside0.mk hnx; replace kin := Aside0.mk kin; replace hz2 := Aside0.mk hz2
      go_wp2_with (go_at_call 122; (with_reducible refine kin.out.mono ?_); rintro e w' ⟨rfl, hw'⟩; subst hw')
      go_roundw
      case rel => exact ⟨i + 1, z2, by simp, rfl, by omega, hlt2, hnx, trivial⟩
      case measure => show n - ((i : Int) + 1).toNat < n - (i : Int).toNat; omega
    · obtain rfl : i = n := by omega
      have hfin : Aside0 (cF c (l.map Int.toNat) = z) := ⟨by have := hci.out; rwa [List.take_of_length_le (by rw [hln.out]; exact Nat.le_refl _)] at this⟩
      go_wp2_with fail
      go_ret
      exact ⟨by rw [hfin.out]; rfl, rfl⟩
theorem rOf_calls (A : Option Addr) (n c : Nat) (l : List Int) (w : World) (h : U8.C w A n l) (hl : inB l) :
    Calls Tryz.prog 90 #[.slice A n c] w (PurePost (.int .u32 (crc l)) w) := by
  have hlt := cF_lt (l.map Int.toNat) (c := 4294967295) (by decide) (nat_lt hl)
  have hcr := crc_nat hl
  have ka := rAll_calls 4294967295 A n c l w (by decide) h hl
  obtain ⟨z, hz⟩ : ∃ z, cF 4294967295 (l.map Int.toNat) = z := ⟨_, rfl⟩
  rw [hz] at hlt hcr ka
  have ko := rOver_calls z w hlt
  rw [← hcr] at ko
  have ka' : Calls Tryz.prog 106 #[.int .u32 4294967295, .slice A n c] w (PurePost (.int .u32 (z : Int)) w) := ka
  replace ka' := Aside0.mk ka'; replace ko := Aside0.mk ko; replace hcr := Aside0.mk hcr; replace hz := Aside0.mk hz
  clear ka
  go_enter Tryz.func90, Tryz.ntmps90
  go_wp2_with (first
    | (go_at_call 106; (with_reducible refine ka'.out.mono ?_); rintro e w' ⟨rfl, hw'⟩; subst hw')
    | (go_at_call 105; (with_reducible refine ko.out.mono ?_); rintro e w' ⟨rfl, hw'⟩; subst hw'))
  go_ret
  exact ⟨rfl, rfl⟩
theorem rWidth_calls (n : Int) (w : World) : Calls Tryz.prog 54 #[.int .i64 n] w (PurePost (.int .i64 (heldW n)) w) := by
  go_enter Tryz.func54, Tryz.ntmps54
  go_wp2_with fail
  go_ret
  exact ⟨rfl, rfl⟩
theorem digs_snoc : ∀ (k : Nat) (n : Int), digs n (k + 1) = digs n k ++ [n / 256 ^ k % 256]
  | 0, n => by simp [digs]
  | k + 1, n => by
    rw [digs, digs_snoc k (n / 256), digs, List.cons_append]
    congr 2
    have h1 : n / 256 / 256 ^ k = n / (256 * 256 ^ k) := by rw [Int.ediv_ediv, if_neg (fun h => absurd h.1 (by decide)), Int.sub_zero]
    rw [h1, Int.pow_succ, Int.mul_comm 256]
def BytsPost (w : World) (bs : List Int) (e : Ending) (w' : World) : Prop := ∃ v, e = .returned v ∧ Byts w' w.heap.size v bs ∧ Below w.heap.size w w'
set_option maxHeartbeats 4000000 in
set_option maxRecDepth 100000 in
theorem rDigits_calls (n : Nat) (width : Int) (k : Nat) (w : World) (hn : n ≤ 18446744073709551615) (hw : heldW width = k) :
    Calls Tryz.prog 25 #[.int .u64 n, .int .i64 width] w (BytsPost w (digs n k)) := by
  have hk : k ≤ 8 := by have := held_range width; omega
  have kw := fun W => rWidth_calls width W
  rw [hw] at kw
  replace hw := Aside0.mk hw; replace kw := Aside0.mk kw
  go_enter Tryz.func25, Tryz.ntmps25
  go_wp2_with fail
  go_loopw [0, 5, 6] (fun v0 v5 v6 wr => ∃ (i m : Nat), v6 = .int .i64 i ∧ v0 = .int .u64 m ∧ i ≤ k ∧ m ≤ 18446744073709551615 ∧ Aside0 (n / 256 ^ i = m) ∧ Aside0 (Byts wr w.heap.size v5 (digs n i)) ∧ Aside0 (Below w.heap.size w wr)) (fun _ _ iv _ => k - (intOf iv).toNat)
  case atStart => exact ⟨0, n, rfl, rfl, Nat.zero_le _, hn, ⟨by simp⟩, ⟨Kd.R_nil _ _ _ _ _⟩, ⟨Below.refl _ _⟩⟩
  case round =>
    obtain ⟨i, m, rfl, rfl, hi, hm, hmi, hO, hB⟩ := hrel
    by_cases hlt : i < k
    · have q1 : (i : Int) < (k : Int) := by omega
      obtain ⟨b, hb⟩ : ∃ b, m % 256 = b := ⟨_, rfl⟩
      obtain ⟨m2, hm2⟩ : ∃ m2, m / 256 = m2 := ⟨_, rfl⟩
      have hbl : b < 256 := by omega
      have hm2l : m2 ≤ 18446744073709551615 := by omega
      have hmod : ((m : Nat) : Int).tmod 256 = (b : Int) := by rw [Int.tmod_eq_emod_of_nonneg (by omega)]; omega
      have hdiv : ((m : Nat) : Int).tdiv 256 = (m2 : Int) := by rw [Int.tdiv_eq_ediv_of_nonneg (by omega)]; omega
      have hwb : IntKind.u8.wrap (b : Int) = (b : Int) := by rw [IntKind.wrap_u8]; omega
      have hwb2 : IntKind.u64.wrap (b : Int) = (b : Int) := by rw [IntKind.wrap_u64]; omega
      have hwm : IntKind.u64.wrap (m2 : Int) = (m2 : Int) := by rw [IntKind.wrap_u64]; omega
      have hnx : digs n (i + 1) = digs n i ++ [(b : Int)] := by
        rw [digs_snoc]
        congr 2
        rw [← hb, ← hmi.out]
        have e : ((256 : Int) ^ i) = ((256 ^ i : Nat) : Int) := by rw [Int.natCast_pow]; rfl
        rw [e]
        omega
      have hm3 : n / 256 ^ (i + 1) = m2 := by rw [← hm2, ← hmi.out, Nat.pow_succ, Nat.div_div_eq_div_mul]
      have hl8 : ((digs n i).length + 1) * 1 ≤ 140737488355328 := by rw [digs_length]; omega
      replace hb := Aside0.mk hb; replace hm2 := Aside0.mk hm2; replace hnx := Aside0.mk hnx; replace hm3 := Aside0.mk hm3; replace hl8 := Aside0.mk hl8
      go_wp2_with (first
        | (go_at_call 54; (with_reducible refine (kw.out _).mono ?_); rintro e w' ⟨rfl, hw'⟩; subst hw')
        | ((with_reducible refine gate_builtin (b := .append) (xs := #[.tmp 13, .tmp 17]) rfl ?_); at_builtin; refine Kd.R_append U8 (w0 := w) w.heap.size rfl (.tmp 13) (.tmp 17) 28 5 (.int .u8 0) 1 rfl Tryz.underlying28 info_u8 rfl (by decide) (by decide) u5 (digs n i) (b : Int) [.int .u8 b] (fun _ => True) (fun _ => False) rfl rfl ?aP (fun _ hk => hk.elim) (fun _ _ => trivial) hO.out hB.out hB.out.size hl8.out ?_; (case aP => exact rfl); intro v7 w7 r7 hb7 hg7 hat7; clear hg7 hat7; replace r7 := Aside0.mk r7; replace hb7 := Aside0.mk hb7))
      go_roundw
      case rel => exact ⟨i + 1, m2, by simp, rfl, by omega, hm2l, hm3, ⟨by rw [hnx.out]; exact r7.out⟩, hb7⟩
      case measure => show k - ((i : Int) + 1).toNat < k - (i : Int).toNat; omega
    · obtain rfl : i = k := by omega
      have z1 : ¬ (i : Int) < (i : Int) := by omega
      go_wp2_with (first
        | (go_at_call 54; (with_reducible refine (kw.out _).mono ?_); rintro e w' ⟨rfl, hw'⟩; subst hw'))
      go_ret
      exact ⟨_, rfl, hO.out, hB.out⟩
theorem rnum_calls (n : Nat) (width : Int) (k : Nat) (w : World) (hn : n ≤ 9223372036854775807) (hw : heldW width = k) :
    Calls Tryz.prog 24 #[.int .i64 n, .int .i64 width] w (BytsPost w (digs n k)) := by
  have kd := rDigits_calls n width k w (by omega) hw
  have hwn : IntKind.u64.wrap (n : Int) = (n : Int) := by rw [IntKind.wrap_u64]; omega
  replace kd := Aside0.mk kd; replace hw := Aside0.mk hw
  go_enter Tryz.func24, Tryz.ntmps24
  go_wp2_with (go_at_call 25; (with_reducible refine kd.out.mono ?_); rintro e w1 ⟨v, rfl, r1, hb1⟩; replace r1 := Aside0.mk r1; replace hb1 := Aside0.mk hb1)
  go_ret
  exact ⟨_, rfl, r1.out, hb1.out⟩
end Go.Proofs.YtpnjhffnlafabaaGreatDoor.Im
namespace Go.Proofs.YtpnjhffnlafabaaGreatDoor.Im
set_option linter.unusedVariables false
set_option linter.unusedSimpArgs false
open Go.Proofs Go.RowKit Go.Proofs.Bk Go.Proofs.Bm Go.Proofs.Sc Go.Proofs.Kf Go.Proofs.YtpnjhffnlafabaaGreatDoorW.PrintWords Go.Proofs.YtpnjhffnlafabaaGreatDoor.Sl Go.Proofs.YtpnjhffnlafabaaGreatDoor.Sn Go.Proofs.YtpnjhffnlafabaaGreatDoor.PImageBack
def wrongOf (ss : List SE) : Int := if 16 < ss.length then 7 else if risingL 0 (ss.map (·.f0)) = false then 21 else if ss.any longE = true then 22 else 0
theorem packOf_wrong (ss : List SE) : packOf ss = if wrongOf ss ≠ 0 then (wrongOf ss, []) else (0, packB ss) := by
  unfold packOf wrongOf
  repeat' split
  all_goals simp_all
theorem rising_last (l : List Int) (h : risingL 0 l = true) : 0 ≤ l.getLastD 0 := by
  cases hl : l with
  | nil => simp
  | cons a m =>
    have hm : (a :: m).getLastD 0 ∈ l := by
      rw [hl, List.getLastD_cons]
      rw [← List.getLast_eq_getLastD (by simp)]
      exact List.getLast_mem _
    have := rising_range l 0 h _ hm
    omega
set_option maxHeartbeats 8000000 in
set_option maxRecDepth 100000 in
theorem rWrong_calls (A : Option Addr) (n c : Nat) (ss : List SE) (w : World) (h : kE.C w A n ss) :
    Calls Tryz.prog 55 #[.slice A n c] w (BelowPost1 (.int .i64 (wrongOf ss)) w) := by
  have hln := h.1
  have hn63 := h.2.1
  have HE := Aside0.mk h
  clear h
  by_cases h16 : 16 < n
  · have z1 : (16 : Int) < (n : Int) := by omega
    have e : wrongOf ss = 7 := by unfold wrongOf; rw [hln, if_pos h16]
    rw [e]; clear e
    replace hln := Aside0.mk hln
    go_enter Tryz.func55, Tryz.ntmps55
    go_wp2_with fail
    go_ret
    exact ⟨rfl, Below.refl _ _⟩
  have z1 : ¬ (16 : Int) < (n : Int) := by omega
  obtain ⟨ks, hks⟩ : ∃ ks, ss.map (·.f0) = ks := ⟨_, rfl⟩
  have hw : wrongOf ss = if risingL 0 ks = false then 21 else if ss.any longE = true then 22 else 0 := by unfold wrongOf; rw [hln, if_neg h16, hks]
  obtain ⟨U, hU⟩ : ∃ U, wrongOf ss = U := ⟨_, rfl⟩
  rw [hU]
  have hkl : ks.length = n := by rw [← hks, List.length_map, hln]
  replace hln := Aside0.mk hln; replace hks := Aside0.mk hks; replace hw := Aside0.mk hw; replace hU := Aside0.mk hU; replace hkl := Aside0.mk hkl
  go_enter Tryz.func55, Tryz.ntmps55
  go_wp2_with fail
  go_loopw [3] (fun iv wr => ∃ i : Nat, iv = .int .i64 i ∧ i ≤ n ∧ Aside0 (risingL 0 (ks.take i) = true) ∧ Aside0 (Below w.heap.size w wr)) (fun iv _ => n - (intOf iv).toNat)
  case atStart => exact ⟨0, rfl, Nat.zero_le _, ⟨rfl⟩, ⟨Below.refl _ _⟩⟩
  case round =>
    obtain ⟨i, rfl, hi, hR, hb⟩ := hrel
    by_cases hlt : i < n
    · have p1 : 0 ≤ (i : Int) := by omega
      have q1 : (i : Int) < (n : Int) := by omega
      obtain ⟨b, o, x, A1, c1, rfl, -, hx, t0, -, -, -⟩ := E_one (Kd.C_below HE.out hb.out) hlt
      have hkx : ks[i]? = some x.f0 := by rw [← hks.out, List.getElem?_map, hx]; rfl
      have hst := risingL_take ks 0 i x.f0 hkx hR.out
      have hl0 := rising_last _ hR.out
      obtain ⟨k, hk⟩ : ∃ k, x.f0 = k := ⟨_, rfl⟩
      rw [hk] at t0 hkx hst
      have bad : k ≤ (ks.take i).getLastD 0 ∨ 255 < k → U = 21 := fun e => by
        have h1 : risingL 0 (ks.take (i + 1)) = false := by
          rw [hst]
          rcases e with e | e
          · rw [decide_eq_true e]; rfl
          · rw [decide_eq_true e, Bool.or_true]; rfl
        rw [← hU.out, hw.out, if_pos (risingL_false ks 0 (i + 1) h1)]
      have hdw := Aside0.mk (Below.refl wr.heap.size wr)
      by_cases e1 : k < 1
      · have hu := bad (.inl (by omega))
        subst hu
        replace hx := Aside0.mk hx; replace hkx := Aside0.mk hkx; replace hst := Aside0.mk hst; replace hl0 := Aside0.mk hl0; replace hk := Aside0.mk hk; replace bad := Aside0.mk bad
        go_wp2_with fail
        (refine Ht.begin2 31 (fun w' => w'.cell? ⟨b, o + i * 2, none⟩ = some (.int .i64 k)) (by kernel_rfl) (by kernel_rfl) (show wr.drew.cell? _ = _ from t0) ?_; intro hSnow; (try dsimp only at hSnow); simp only [List.take_succ_cons, List.take_zero, List.drop_succ_cons, List.drop_zero]; repeat (first | (refine Ht.Hx.take (v := ?_) (by kernel_rfl) (by kernel_rfl) (fun _ _ _ h => h) (by with_reducible exact hSnow) (Or.inl ⟨by rfl, fun w hSw => ?_⟩) ?_; rotate_left; focus ((try dsimp only at hSw); go_simp; (try with_reducible rfl); done)) | (refine Ht.Hx.take (v := undef) (by kernel_rfl) (by kernel_rfl) (fun _ _ _ h => h) (by with_reducible exact hSnow) (Or.inr ⟨by rfl, rfl⟩) ?_)); (try simp only [Act.put, List.setIfInBounds_toArray, List.set_cons_zero, List.set_cons_succ]))
        (refine Ht.Hx.done (by kernel_rfl) ?_; clear hSnow)
        go_wp2_with fail
        go_ret
        exact ⟨rfl, hb.out.drew⟩
      have d1 : decide (k < 1) = false := decide_eq_false e1
      by_cases e2 : 255 < k
      · have hu := bad (.inr e2)
        subst hu
        replace hx := Aside0.mk hx; replace hkx := Aside0.mk hkx; replace hst := Aside0.mk hst; replace hl0 := Aside0.mk hl0; replace hk := Aside0.mk hk; replace bad := Aside0.mk bad
        go_wp2_with fail
        (refine Ht.begin2 31 (fun w' => w'.cell? ⟨b, o + i * 2, none⟩ = some (.int .i64 k)) (by kernel_rfl) (by kernel_rfl) (show wr.drew.cell? _ = _ from t0) ?_; intro hSnow; (try dsimp only at hSnow); simp only [List.take_succ_cons, List.take_zero, List.drop_succ_cons, List.drop_zero]; repeat (first | (refine Ht.Hx.take (v := ?_) (by kernel_rfl) (by kernel_rfl) (fun _ _ _ h => h) (by with_reducible exact hSnow) (Or.inl ⟨by rfl, fun w hSw => ?_⟩) ?_; rotate_left; focus ((try dsimp only at hSw); go_simp; (try with_reducible rfl); done)) | (refine Ht.Hx.take (v := undef) (by kernel_rfl) (by kernel_rfl) (fun _ _ _ h => h) (by with_reducible exact hSnow) (Or.inr ⟨by rfl, rfl⟩) ?_)); (try simp only [Act.put, List.setIfInBounds_toArray, List.set_cons_zero, List.set_cons_succ]))
        (refine Ht.Hx.done (by kernel_rfl) ?_; clear hSnow)
        go_wp2_with fail
        go_ret
        exact ⟨rfl, hb.out.drew⟩
      have d2 : decide (255 < k) = false := decide_eq_false e2
      by_cases e0 : i = 0
      · have z2 : ¬ (0 : Int) < (i : Int) := by omega
        have d3 : decide (0 < i) = false := decide_eq_false (by omega)
        have good : risingL 0 (ks.take (i + 1)) = true := by
          rw [hst]
          have : (ks.take i).getLastD 0 = 0 := by rw [e0]; rfl
          rw [this]
          have a1 : ¬ k ≤ 0 := by omega
          simp [a1, e2]
        replace hx := Aside0.mk hx; replace hkx := Aside0.mk hkx; replace hst := Aside0.mk hst; replace hl0 := Aside0.mk hl0; replace hk := Aside0.mk hk; replace bad := Aside0.mk bad; replace good := Aside0.mk good
        clear e0
        go_wp2_with fail
        (refine Ht.begin2 31 (fun w' => w'.cell? ⟨b, o + i * 2, none⟩ = some (.int .i64 k)) (by kernel_rfl) (by kernel_rfl) (show wr.drew.cell? _ = _ from t0) ?_; intro hSnow; (try dsimp only at hSnow); simp only [List.take_succ_cons, List.take_zero, List.drop_succ_cons, List.drop_zero]; repeat (first | (refine Ht.Hx.take (v := ?_) (by kernel_rfl) (by kernel_rfl) (fun _ _ _ h => h) (by with_reducible exact hSnow) (Or.inl ⟨by rfl, fun w hSw => ?_⟩) ?_; rotate_left; focus ((try dsimp only at hSw); go_simp; (try with_reducible rfl); done)) | (refine Ht.Hx.take (v := undef) (by kernel_rfl) (by kernel_rfl) (fun _ _ _ h => h) (by with_reducible exact hSnow) (Or.inr ⟨by rfl, rfl⟩) ?_)); (try simp only [Act.put, List.setIfInBounds_toArray, List.set_cons_zero, List.set_cons_succ]))
        (refine Ht.Hx.done (by kernel_rfl) ?_; clear hSnow)
        go_wp2_with fail
        go_roundw
        case rel => exact ⟨i + 1, by simp, by omega, good, ⟨hb.out.drew⟩⟩
        case measure => show n - ((i : Int) + 1).toNat < n - (i : Int).toNat; omega
      · obtain ⟨j, hij⟩ : ∃ j, i = j + 1 := ⟨i - 1, by omega⟩
        obtain ⟨b', o', y, A2, c2, e, -, hy, s0, -, -, -⟩ := E_one (Kd.C_below HE.out hb.out) (show j < n by omega)
        cases e
        have hky : ks[j]? = some y.f0 := by rw [← hks.out, List.getElem?_map, hy]; rfl
        obtain ⟨p, hp⟩ : ∃ p, y.f0 = p := ⟨_, rfl⟩
        rw [hp] at s0 hky
        have hlast : (ks.take i).getLastD 0 = p := by rw [hij, List.take_add_one, hky]; simp
        rw [hlast] at hst hl0 bad
        have d3 : decide (0 < i) = true := decide_eq_true (by omega)
        have z2 : (0 : Int) < (i : Int) := by omega
        have z3 : (i : Int) - 1 = (j : Int) := by omega
        have z4 : IntKind.i64.wrap (j : Int) = (j : Int) := by rw [IntKind.wrap_i64]; omega
        have p2 : 0 ≤ (j : Int) := by omega
        have q2 : (j : Int) < (n : Int) := by omega
        clear e0
        replace hij := Aside0.mk hij
        by_cases e3 : k ≤ p
        · have hu := bad (.inl e3)
          subst hu
          replace hx := Aside0.mk hx; replace hkx := Aside0.mk hkx; replace hst := Aside0.mk hst; replace hl0 := Aside0.mk hl0; replace hk := Aside0.mk hk; replace bad := Aside0.mk bad; replace hy := Aside0.mk hy; replace hky := Aside0.mk hky; replace hp := Aside0.mk hp; replace hlast := Aside0.mk hlast
          go_wp2_with fail
          (refine Ht.begin2 31 (fun w' => w'.cell? ⟨b, o + i * 2, none⟩ = some (.int .i64 k) ∧ w'.cell? ⟨b, o + j * 2, none⟩ = some (.int .i64 p)) (by kernel_rfl) (by kernel_rfl) (show wr.drew.cell? _ = _ ∧ wr.drew.cell? _ = _ from ⟨t0, s0⟩) ?_; intro hSnow; (try dsimp only at hSnow); simp only [List.take_succ_cons, List.take_zero, List.drop_succ_cons, List.drop_zero]; repeat (first | (refine Ht.Hx.take (v := ?_) (by kernel_rfl) (by kernel_rfl) (fun _ _ _ h => h) (by with_reducible exact hSnow) (Or.inl ⟨by rfl, fun w hSw => ?_⟩) ?_; rotate_left; focus ((try dsimp only at hSw); go_simp; (try with_reducible rfl); done)) | (refine Ht.Hx.take (v := undef) (by kernel_rfl) (by kernel_rfl) (fun _ _ _ h => h) (by with_reducible exact hSnow) (Or.inr ⟨by rfl, rfl⟩) ?_)); (try simp only [Act.put, List.setIfInBounds_toArray, List.set_cons_zero, List.set_cons_succ]))
          (refine Ht.Hx.done (by kernel_rfl) ?_; clear hSnow)
          go_wp2_with fail
          go_ret
          exact ⟨rfl, hb.out.drew⟩
        · have d4 : decide (k ≤ p) = false := decide_eq_false e3
          have good : risingL 0 (ks.take (i + 1)) = true := by rw [hst]; simp [e3, e2]
          replace hx := Aside0.mk hx; replace hkx := Aside0.mk hkx; replace hst := Aside0.mk hst; replace hl0 := Aside0.mk hl0; replace hk := Aside0.mk hk; replace bad := Aside0.mk bad; replace hy := Aside0.mk hy; replace hky := Aside0.mk hky; replace hp := Aside0.mk hp; replace hlast := Aside0.mk hlast; replace good := Aside0.mk good
          go_wp2_with fail
          (refine Ht.begin2 31 (fun w' => w'.cell? ⟨b, o + i * 2, none⟩ = some (.int .i64 k) ∧ w'.cell? ⟨b, o + j * 2, none⟩ = some (.int .i64 p)) (by kernel_rfl) (by kernel_rfl) (show wr.drew.cell? _ = _ ∧ wr.drew.cell? _ = _ from ⟨t0, s0⟩) ?_; intro hSnow; (try dsimp only at hSnow); simp only [List.take_succ_cons, List.take_zero, List.drop_succ_cons, List.drop_zero]; repeat (first | (refine Ht.Hx.take (v := ?_) (by kernel_rfl) (by kernel_rfl) (fun _ _ _ h => h) (by with_reducible exact hSnow) (Or.inl ⟨by rfl, fun w hSw => ?_⟩) ?_; rotate_left; focus ((try dsimp only at hSw); go_simp; (try with_reducible rfl); done)) | (refine Ht.Hx.take (v := undef) (by kernel_rfl) (by kernel_rfl) (fun _ _ _ h => h) (by with_reducible exact hSnow) (Or.inr ⟨by rfl, rfl⟩) ?_)); (try simp only [Act.put, List.setIfInBounds_toArray, List.set_cons_zero, List.set_cons_succ]))
          (refine Ht.Hx.done (by kernel_rfl) ?_; clear hSnow)
          go_wp2_with fail
          go_roundw
          case rel => exact ⟨i + 1, by simp, by omega, good, ⟨hb.out.drew⟩⟩
          case measure => show n - ((i : Int) + 1).toNat < n - (i : Int).toNat; omega
    · obtain rfl : i = n := by omega
      have hr : risingL 0 ks = true := by have := hR.out; rwa [List.take_of_length_le (by rw [hkl.out]; exact Nat.le_refl _)] at this
      have hw2 : U = if ss.any longE = true then 22 else 0 := by rw [← hU.out, hw.out, hr, if_neg (by decide)]
      clear hr
      obtain ⟨wy, rfl⟩ : ∃ W, W = wr := ⟨_, rfl⟩
      replace hw2 := Aside0.mk hw2
      go_wp2_with fail
      go_loopw [4] (fun iv wr => ∃ k : Nat, iv = .int .i64 k ∧ k ≤ i ∧ Aside0 ((ss.take k).any longE = false) ∧ Aside0 (Below w.heap.size w wr)) (fun iv _ => i - (intOf iv).toNat)
      case atStart => exact ⟨0, rfl, Nat.zero_le _, ⟨rfl⟩, hb⟩
      case round =>
        obtain ⟨k, rfl, hk, hL, hb2⟩ := hrel
        by_cases hlt : k < i
        · have p1 : 0 ≤ (k : Int) := by omega
          have q1 : (k : Int) < (i : Int) := by omega
          obtain ⟨b, o, x, A1, c1, rfl, -, hx, -, t1, -, -⟩ := E_one (Kd.C_below HE.out hb2.out) hlt
          have hacc : (ss.take (k + 1)).any longE = longE x := by rw [List.take_add_one, hx, List.any_append, hL.out]; simp
          by_cases e1 : 65535 < x.f1.length
          · have y1 : (65535 : Int) < (x.f1.length : Int) := by omega
            have hu : U = 22 := by rw [hw2.out, if_pos (List.any_eq_true.2 ⟨x, List.mem_of_getElem? hx, by unfold longE; simpa using e1⟩)]
            subst hu
            replace hx := Aside0.mk hx; replace hacc := Aside0.mk hacc
            go_wp2_with fail
            go_ret
            exact ⟨rfl, hb2.out⟩
          · have y1 : ¬ (65535 : Int) < (x.f1.length : Int) := by omega
            have hf : (ss.take (k + 1)).any longE = false := by rw [hacc]; unfold longE; simpa using e1
            replace hx := Aside0.mk hx; replace hacc := Aside0.mk hacc; replace hf := Aside0.mk hf
            go_wp2_with fail
            go_roundw
            case rel => exact ⟨k + 1, by simp, by omega, hf, hb2⟩
            case measure => show i - ((k : Int) + 1).toNat < i - (k : Int).toNat; omega
        · obtain rfl : k = i := by omega
          have hu : U = 0 := by
            have := hL.out
            rw [List.take_of_length_le (by rw [hln.out]; exact Nat.le_refl _)] at this
            rw [hw2.out, if_neg (by rw [this]; decide)]
          subst hu
          go_wp2_with fail
          go_ret
          exact ⟨rfl, hb2.out⟩
set_option maxHeartbeats 4000000 in
theorem rcheck_calls (A : Option Addr) (n c : Nat) (l : List Int) (w : World) (h : U8.C w A n l) (hl : inB l) :
    Calls Tryz.prog 56 #[.slice A n c] w (BytsPost w (digs (crc l) 4)) := by
  have ko := rOf_calls A n c l w h hl
  have hr := crc_range l hl
  obtain ⟨z, hz⟩ : ∃ z : Nat, crc l = z := ⟨(crc l).toNat, by omega⟩
  rw [hz] at ko hr
  have hwz : IntKind.u64.wrap (z : Int) = (z : Int) := by rw [IntKind.wrap_u64]; omega
  have kd := rDigits_calls z 4 4 w (by omega) (by decide)
  rw [hz]
  replace ko := Aside0.mk ko; replace kd := Aside0.mk kd; replace hz := Aside0.mk hz
  go_enter Tryz.func56, Tryz.ntmps56
  go_wp2_with (first
    | (go_at_call 90; (with_reducible refine ko.out.mono ?_); rintro e w' ⟨rfl, hw'⟩; subst hw')
    | (go_at_call 25; (with_reducible refine kd.out.mono ?_); rintro e w1 ⟨v, rfl, r1, hb1⟩; replace r1 := Aside0.mk r1; replace hb1 := Aside0.mk hb1))
  go_ret
  exact ⟨_, rfl, r1.out, hb1.out⟩
end Go.Proofs.YtpnjhffnlafabaaGreatDoor.Im
namespace Go.Proofs.YtpnjhffnlafabaaGreatDoor.Im
set_option linter.unusedVariables false
set_option linter.unusedSimpArgs false
open Go.Proofs Go.RowKit Go.Proofs.Bk Go.Proofs.Bm Go.Proofs.Sc Go.Proofs.Kf Go.Proofs.YtpnjhffnlafabaaGreatDoorW.PrintWords Go.Proofs.YtpnjhffnlafabaaGreatDoor.Sl Go.Proofs.YtpnjhffnlafabaaGreatDoor.Sn Go.Proofs.YtpnjhffnlafabaaGreatDoor.PImageBack
theorem flat_le : ∀ ss : List SE, (∀ s ∈ ss, s.f1.length ≤ 65535) → ((ss.map (·.f1)).flatten).length ≤ 65535 * ss.length
  | [], _ => by simp
  | s :: ss, h => by
    have h1 := h s (by simp)
    have h2 := flat_le ss (fun t ht => h t (by simp [ht]))
    rw [List.map_cons, List.flatten_cons, List.length_append, List.length_cons]; omega
theorem take_flat {f : SE → List Int} {ss : List SE} {k : Nat} {x : SE} (h : ss[k]? = some x) : ((ss.take (k + 1)).map f).flatten = ((ss.take k).map f).flatten ++ f x := by
  rw [List.take_add_one, h]; simp
theorem Byts_hd {w w1 : World} (hb : w.heap.size ≤ w1.heap.size) (a b c d e : Int) : Byts (w1.alloc (.cells #[.int .u8 a, .int .u8 b, .int .u8 c, .int .u8 d, .int .u8 e] 5)) w.heap.size (.slice (some ⟨w1.heap.size, 0, none⟩) 5 5) [a, b, c, d, e] := by
  refine ⟨fun _ _ => trivial, [.int .u8 a, .int .u8 b, .int .u8 c, .int .u8 d, .int .u8 e], ⟨rfl, .inr ⟨w1.heap.size, 5, _, rfl, hb, heap_alloc_same _ _, Nat.le_refl _, by decide, rfl, rfl⟩⟩, ?_⟩
  refine ⟨rfl, fun j p hj => ?_⟩
  rcases j with _ | _ | _ | _ | _ | j
  all_goals simp at hj
  all_goals subst hj; exact rfl
set_option maxHeartbeats 8000000 in
set_option maxRecDepth 100000 in
theorem rPack_calls (A : Option Addr) (n c : Nat) (ss : List SE) (w : World) (h : kE.C w A n ss) (hby : ∀ s ∈ ss, inB s.f1) :
    Calls Tryz.prog 26 #[.slice A n c] w (PackPost ss w) := by
  have hln := h.1
  have hn63 := h.2.1
  have kw := rWrong_calls A n c ss w h
  have HE := Aside0.mk h
  clear h
  have hpw := packOf_wrong ss
  obtain ⟨U, hU⟩ : ∃ U, wrongOf ss = U := ⟨_, rfl⟩
  rw [hU] at kw hpw
  replace hln := Aside0.mk hln; replace hby := Aside0.mk hby; replace kw := Aside0.mk kw
  by_cases h0 : U = 0
  case neg =>
    have z1 : (U != 0) = true := by simpa using h0
    rw [if_pos h0] at hpw
    replace hpw := Aside0.mk hpw; replace hU := Aside0.mk hU
    go_enter Tryz.func26, Tryz.ntmps26
    go_wp2_with (go_at_call 55; (with_reducible refine kw.out.mono ?_); rintro e w1 ⟨rfl, hb1⟩; replace hb1 := Aside0.mk hb1)
    go_ret2
    exact PackPost.odd hpw.out hb1.out
  subst h0
  rw [if_neg (by simp)] at hpw
  have hok : ss.length ≤ 16 ∧ risingL 0 (ss.map (·.f0)) = true ∧ ∀ s ∈ ss, s.f1.length ≤ 65535 := by
    unfold wrongOf at hU
    by_cases a1 : 16 < ss.length
    · rw [if_pos a1] at hU; cases hU
    rw [if_neg a1] at hU
    by_cases a2 : risingL 0 (ss.map (·.f0)) = true
    case neg => rw [if_pos (by simpa using a2)] at hU; cases hU
    rw [if_neg (by simp [a2])] at hU
    by_cases a3 : ss.any longE = true
    · rw [if_pos a3] at hU; cases hU
    refine ⟨by omega, a2, fun s hs => ?_⟩
    have := List.any_eq_false.1 (by simpa using a3) s hs
    unfold longE at this
    simpa using this
  obtain ⟨h16, hris, hlong⟩ := hok
  rw [hln.out] at h16
  have hkr := rising_range _ _ hris
  have hwn : IntKind.u8.wrap (n : Int) = (n : Int) := by rw [IntKind.wrap_u8]; omega
  have hhd : packHd n = [68, 80, 90, 49, (n : Int)] := by
    unfold packHd pmagic digs digs
    rw [show ((n : Nat) : Int) % 256 = (n : Int) by omega]; rfl
  replace hpw := Aside0.mk hpw; replace hU := Aside0.mk hU; replace hris := Aside0.mk hris; replace hlong := Aside0.mk hlong; replace hkr := Aside0.mk hkr; replace hhd := Aside0.mk hhd
  go_enter Tryz.func26, Tryz.ntmps26
  go_wp2_with (go_at_call 55; (with_reducible refine kw.out.mono ?_); rintro e w1 ⟨rfl, hb1⟩; replace hb1 := Aside0.mk hb1)
  change Calls _ _ _ (w1.alloc (.cells #[.int .u8 68, .int .u8 80, .int .u8 90, .int .u8 49, .int .u8 n] 5)) _
  have hO2 := Byts_hd (w := w) hb1.out.size 68 80 90 49 (n : Int)
  have hba := below_alloc (Below.refl w1.heap.size w1) (.cells #[.int .u8 68, .int .u8 80, .int .u8 90, .int .u8 49, .int .u8 n] 5)
  have hB2 := Aside0.mk (hb1.out.trans (hba.mono hb1.out.size))
  rw [← hhd.out] at hO2
  generalize w1.alloc (.cells #[.int .u8 68, .int .u8 80, .int .u8 90, .int .u8 49, .int .u8 n] 5) = w2 at hO2 hB2 ⊢
  generalize w1.heap.size = g2 at hO2 ⊢
  clear hba
  obtain ⟨A2, c2, e2, -, hC2⟩ := Kd.R_reads hO2
  rw [packHd_len] at e2 hC2
  have hl2 : ((packHd n).length + 4) * 1 ≤ 140737488355328 := by rw [packHd_len]; omega
  injection e2 with e2a e2b e2c
  subst e2a; subst e2c
  replace hO2 := Aside0.mk hO2; replace hC2 := Aside0.mk hC2; replace hl2 := Aside0.mk hl2
  with_reducible refine (rcheck_calls (some ⟨g2, 0, none⟩) 5 5 (packHd n) w2 hC2.out (inB_hd n)).mono ?_
  rintro e w3 ⟨v3, rfl, r3, hb3⟩
  obtain ⟨A3, c3, rfl, -, hC3⟩ := Kd.R_reads r3
  rw [digs_length] at hC3
  rw [digs_length]
  have hB3 := Aside0.mk (hB2.out.trans (hb3.mono hB2.out.size))
  have hO3 := Aside0.mk (Kd.R_below hO2.out hb3)
  clear r3 hb3
  replace hC3 := Aside0.mk hC3
  go_wp2_with (((with_reducible refine gate_builtin (b := .append) (xs := #[.tmp 17, .tmp 19]) rfl ?_); at_builtin; refine Kd.R_append_rows U8 (w0 := w) w.heap.size rfl (.tmp 17) (.tmp 19) 28 5 (.int .u8 0) 1 rfl Tryz.underlying28 info_u8 rfl (by decide) (by decide) (.slice (some ⟨g2, 0, none⟩) 5 5) (packHd n) (digs (crc (packHd n)) 4) A3 4 c3 (fun _ => True) (fun _ => False) rfl rfl hO3.out hC3.out (fun _ _ h => h) (fun _ hk => hk.elim) (fun _ _ => trivial) hB3.out (hB3.out).size hl2.out ?_; intro v4 w4 r4 hb4 hg4 hat4); clear hg4 hat4; replace r4 := Aside0.mk r4; replace hb4 := Aside0.mk hb4)
  have hO4 : Aside0 (Byts w4 w.heap.size v4 (packH2 n)) := r4
  clear hO2 hO3 hC2 hC3 r4
  go_loopw [5, 6] (fun ov iv wr => ∃ k : Nat, iv = .int .i64 k ∧ k ≤ n ∧ Aside0 (Byts wr w.heap.size ov (packH2 n ++ ((ss.take k).map secB).flatten)) ∧ Aside0 (Below w.heap.size w wr)) (fun _ iv _ => n - (intOf iv).toNat)
  case atStart => exact ⟨0, rfl, Nat.zero_le _, ⟨by rw [List.take_zero, List.map_nil, List.flatten_nil, List.append_nil]; exact hO4.out⟩, hb4⟩
  case round =>
    obtain ⟨k, rfl, hk, hO, hB⟩ := hrel
    clear hO4 hb4
    by_cases hlt : k < n
    · have p1 : 0 ≤ (k : Int) := by omega
      have q1 : (k : Int) < (n : Int) := by omega
      obtain ⟨b, o, x, A1, c1, rfl, -, hx, t0w, t1w, -, hC1⟩ := E_one HE.out hlt
      have t0 := pw_cell_below hB.out t0w
      have hxs : x ∈ ss := List.mem_of_getElem? hx
      have hkx := hkr.out x.f0 (List.mem_map.2 ⟨x, hxs, rfl⟩)
      have hlx := hlong.out x hxs
      have hbx := hby.out x hxs
      obtain ⟨P, hP⟩ : ∃ P, packH2 n ++ ((ss.take k).map secB).flatten = P := ⟨_, rfl⟩
      have hPl : P.length = 9 + 7 * k := by rw [← hP, List.length_append, packH2_len, secs_len, List.length_take, hln.out, Nat.min_eq_left hk]
      have hnx : packH2 n ++ ((ss.take (k + 1)).map secB).flatten = P ++ [x.f0] ++ digs x.f1.length 2 ++ digs (crc x.f1) 4 := by
        rw [take_flat (f := secB) hx, ← List.append_assoc, hP]
        unfold secB
        rw [show digs x.f0 1 = [x.f0] by unfold digs digs; rw [show x.f0 % 256 = x.f0 by omega]]
        simp only [List.append_assoc]
      rw [hP] at hO
      obtain ⟨kd, hkd⟩ : ∃ kd, x.f0 = kd := ⟨_, rfl⟩
      obtain ⟨L, hL⟩ : ∃ L, x.f1.length = L := ⟨_, rfl⟩
      rw [hkd] at t0w t0 hkx hnx
      rw [hL] at t1w hC1 hlx hnx
      have hwk : IntKind.u8.wrap kd = kd := by rw [IntKind.wrap_u8]; omega
      have hwl : IntKind.u64.wrap (L : Int) = (L : Int) := by rw [IntKind.wrap_u64]; omega
      have hl8 : (P.length + 1) * 1 ≤ 140737488355328 := by rw [hPl]; omega
      have hl9 : ((P ++ [kd]).length + 2) * 1 ≤ 140737488355328 := by rw [List.length_append, hPl, List.length_singleton]; omega
      have hl10 : ((P ++ [kd] ++ digs L 2).length + 4) * 1 ≤ 140737488355328 := by rw [List.length_append, List.length_append, hPl, List.length_singleton, digs_length]; omega
      have kdg := fun W => rDigits_calls L 2 2 W (by omega) (by decide)
      replace hx := Aside0.mk hx; replace t0w := Aside0.mk t0w; replace t1w := Aside0.mk t1w; replace hC1 := Aside0.mk hC1; replace hxs := Aside0.mk hxs; replace hkx := Aside0.mk hkx; replace hlx := Aside0.mk hlx; replace hbx := Aside0.mk hbx; replace hP := Aside0.mk hP; replace hPl := Aside0.mk hPl; replace hnx := Aside0.mk hnx; replace hkd := Aside0.mk hkd; replace hL := Aside0.mk hL; replace hl8 := Aside0.mk hl8; replace hl9 := Aside0.mk hl9; replace hl10 := Aside0.mk hl10; replace kdg := Aside0.mk kdg
      go_wp2_with (first
        | ((with_reducible refine gate_builtin (b := .append) (xs := #[.tmp 27, .tmp 34]) rfl ?_); at_builtin; refine Kd.R_append U8 (w0 := w) w.heap.size rfl (.tmp 27) (.tmp 34) 28 5 (.int .u8 0) 1 rfl Tryz.underlying28 info_u8 rfl (by decide) (by decide) u5 P kd [.int .u8 kd] (fun _ => True) (fun _ => False) rfl rfl ?aP (fun _ hk => hk.elim) (fun _ _ => trivial) hO.out hB.out hB.out.size hl8.out ?_; (case aP => exact rfl); intro v7 w7 r7 hb7 hg7 hat7; (have t1 := pw_cell_below hb7 t1w.out); clear hg7 hat7; replace r7 := Aside0.mk r7; replace hb7 := Aside0.mk hb7)
        | (go_at_call 25; (with_reducible refine (kdg.out w7).mono ?_); rintro e w8 ⟨v8, rfl, r8, hb8⟩; (obtain ⟨A8, c8, rfl, -, hC8⟩ := Kd.R_reads r8); rw [digs_length] at hC8; rw [digs_length]; (have hB8 := Aside0.mk (hb7.out.trans (hb8.mono hb7.out.size))); (have r7b := Aside0.mk (Kd.R_below r7.out hb8)); clear r8 hb8 t1; replace hC8 := Aside0.mk hC8)
        | (((with_reducible refine gate_builtin (b := .append) (xs := #[.tmp 36, .tmp 44]) rfl ?_); at_builtin; refine Kd.R_append_rows U8 (w0 := w) w.heap.size rfl (.tmp 36) (.tmp 44) 28 5 (.int .u8 0) 1 rfl Tryz.underlying28 info_u8 rfl (by decide) (by decide) v7 (P ++ [kd]) (digs L 2) A8 2 c8 (fun _ => True) (fun _ => False) rfl rfl r7b.out hC8.out (fun _ _ h => h) (fun _ hk => hk.elim) (fun _ _ => trivial) hB8.out (hB8.out).size hl9.out ?_; intro v9 w9 r9 hb9 hg9 hat9); (have t1 := pw_cell_below hb9 t1w.out); clear hg9 hat9; replace r9 := Aside0.mk r9; replace hb9 := Aside0.mk hb9)
        | (go_at_call 56; (with_reducible refine (rcheck_calls A1 L c1 x.f1 w9 (Kd.C_below hC1.out hb9.out) hbx.out).mono ?_); rintro e w10 ⟨v10, rfl, r10, hb10⟩; (obtain ⟨A10, c10, rfl, -, hC10⟩ := Kd.R_reads r10); rw [digs_length] at hC10; rw [digs_length]; (have hB10 := Aside0.mk (hb9.out.trans (hb10.mono hb9.out.size))); (have r9b := Aside0.mk (Kd.R_below r9.out hb10)); clear r10 hb10 t1; replace hC10 := Aside0.mk hC10)
        | (((with_reducible refine gate_builtin (b := .append) (xs := #[.tmp 46, .tmp 52]) rfl ?_); at_builtin; refine Kd.R_append_rows U8 (w0 := w) w.heap.size rfl (.tmp 46) (.tmp 52) 28 5 (.int .u8 0) 1 rfl Tryz.underlying28 info_u8 rfl (by decide) (by decide) v9 (P ++ [kd] ++ digs L 2) (digs (crc x.f1) 4) A10 4 c10 (fun _ => True) (fun _ => False) rfl rfl r9b.out hC10.out (fun _ _ h => h) (fun _ hk => hk.elim) (fun _ _ => trivial) hB10.out (hB10.out).size hl10.out ?_; intro v11 w11 r11 hb11 hg11 hat11); clear hg11 hat11; replace r11 := Aside0.mk r11; replace hb11 := Aside0.mk hb11))
      go_roundw
      case rel => exact ⟨k + 1, by simp, by omega, ⟨by rw [hnx.out]; exact r11.out⟩, hb11⟩
      case measure => show n - ((k : Int) + 1).toNat < n - (k : Int).toNat; omega
    · obtain rfl : n = k := by omega
      have htk : ss.take n = ss := List.take_of_length_le (by rw [hln.out]; exact Nat.le_refl _)
      have hT : packH2 n ++ ((ss.take n).map secB).flatten = packT ss := by rw [htk]; unfold packT; rw [hln.out]
      rw [hT] at hO
      have hTl := packT_len ss
      rw [hln.out] at hTl
      obtain ⟨wy, rfl⟩ : ∃ W, W = wr := ⟨_, rfl⟩
      obtain ⟨A5, c5, e5, -, hC5⟩ := Kd.R_reads hO.out
      rw [hTl] at e5 hC5
      subst e5
      have hl5 : ((packT ss).length + 4) * 1 ≤ 140737488355328 := by rw [hTl]; omega
      replace hT := Aside0.mk hT; replace htk := Aside0.mk htk; replace hTl := Aside0.mk hTl; replace hC5 := Aside0.mk hC5; replace hl5 := Aside0.mk hl5
      go_wp2_with fail
      with_reducible refine (rcheck_calls A5 (9 + 7 * n) c5 (packT ss) wy hC5.out (inB_T ss)).mono ?_
      rintro e w6 ⟨v6, rfl, r6, hb6⟩
      obtain ⟨A6, c6, rfl, -, hC6⟩ := Kd.R_reads r6
      rw [digs_length] at hC6
      rw [digs_length]
      have hB6 := Aside0.mk (hB.out.trans (hb6.mono hB.out.size))
      have hO6 := Aside0.mk (Kd.R_below hO.out hb6)
      clear r6 hb6
      replace hC6 := Aside0.mk hC6
      go_wp2_with (((with_reducible refine gate_builtin (b := .append) (xs := #[.tmp 54, .tmp 56]) rfl ?_); at_builtin; refine Kd.R_append_rows U8 (w0 := w) w.heap.size rfl (.tmp 54) (.tmp 56) 28 5 (.int .u8 0) 1 rfl Tryz.underlying28 info_u8 rfl (by decide) (by decide) (.slice A5 (9 + 7 * n) c5) (packT ss) (digs (crc (packT ss)) 4) A6 4 c6 (fun _ => True) (fun _ => False) rfl rfl hO6.out hC6.out (fun _ _ h => h) (fun _ hk => hk.elim) (fun _ _ => trivial) hB6.out (hB6.out).size hl5.out ?_; intro v7 w7 r7 hb7 hg7 hat7); clear hg7 hat7; replace r7 := Aside0.mk r7; replace hb7 := Aside0.mk hb7)
      have hQ7 : Aside0 (Byts w7 w.heap.size v7 (packT ss ++ digs (crc (packT ss)) 4)) := r7
      clear hO hO6 hC5 hC6 r7
      go_loopw [5, 7] (fun ov iv wr => ∃ k : Nat, iv = .int .i64 k ∧ k ≤ n ∧ Aside0 (Byts wr w.heap.size ov (packT ss ++ digs (crc (packT ss)) 4 ++ ((ss.take k).map (·.f1)).flatten)) ∧ Aside0 (Below w.heap.size w wr)) (fun _ iv _ => n - (intOf iv).toNat)
      case atStart => exact ⟨0, rfl, Nat.zero_le _, ⟨by rw [List.take_zero, List.map_nil, List.flatten_nil, List.append_nil]; exact hQ7.out⟩, hb7⟩
      case round =>
        obtain ⟨k, rfl, hk2, hO, hB2⟩ := hrel
        clear hQ7 hb7
        by_cases hlt : k < n
        · have p1 : 0 ≤ (k : Int) := by omega
          have q1 : (k : Int) < (n : Int) := by omega
          obtain ⟨b, o, x, A1, c1, rfl, -, hx, -, t1w, -, hC1⟩ := E_one HE.out hlt
          have t1 := pw_cell_below hB2.out t1w
          have hC1b := Kd.C_below hC1 hB2.out
          have hlx := hlong.out x (List.mem_of_getElem? hx)
          have hfl := flat_le (ss.take k) (fun s hs => hlong.out s (List.mem_of_mem_take hs))
          rw [List.length_take, hln.out, Nat.min_eq_left hk2] at hfl
          have hnx := take_flat (f := fun s : SE => s.f1) hx
          obtain ⟨Q, hQ⟩ : ∃ Q, packT ss ++ digs (crc (packT ss)) 4 ++ ((ss.take k).map (·.f1)).flatten = Q := ⟨_, rfl⟩
          have hQl : Q.length ≤ 2000 + 65535 * k := by rw [← hQ, List.length_append, List.length_append, hTl.out, digs_length]; omega
          have hnx2 : packT ss ++ digs (crc (packT ss)) 4 ++ ((ss.take (k + 1)).map (·.f1)).flatten = Q ++ x.f1 := by rw [hnx, ← List.append_assoc, hQ]
          rw [hQ] at hO
          obtain ⟨L, hL⟩ : ∃ L, x.f1.length = L := ⟨_, rfl⟩
          rw [hL] at t1 t1w hC1b hlx
          have hl8 : (Q.length + L) * 1 ≤ 140737488355328 := by omega
          replace hx := Aside0.mk hx; replace t1w := Aside0.mk t1w; replace hC1 := Aside0.mk hC1; replace hC1b := Aside0.mk hC1b; replace hlx := Aside0.mk hlx; replace hfl := Aside0.mk hfl; replace hnx := Aside0.mk hnx; replace hQ := Aside0.mk hQ; replace hQl := Aside0.mk hQl; replace hnx2 := Aside0.mk hnx2; replace hL := Aside0.mk hL; replace hl8 := Aside0.mk hl8
          go_wp2_with (((with_reducible refine gate_builtin (b := .append) (xs := #[.tmp 64, .tmp 69]) rfl ?_); at_builtin; refine Kd.R_append_rows U8 (w0 := w) w.heap.size rfl (.tmp 64) (.tmp 69) 28 5 (.int .u8 0) 1 rfl Tryz.underlying28 info_u8 rfl (by decide) (by decide) u5 Q x.f1 A1 L c1 (fun _ => True) (fun _ => False) rfl rfl hO.out hC1b.out (fun _ _ h => h) (fun _ hk => hk.elim) (fun _ _ => trivial) hB2.out (hB2.out).size hl8.out ?_; intro v8 w8 r8 hb8 hg8 hat8); clear hg8 hat8; replace r8 := Aside0.mk r8; replace hb8 := Aside0.mk hb8)
          go_roundw
          case rel => exact ⟨k + 1, by simp, by omega, ⟨by rw [hnx2.out]; exact r8.out⟩, hb8⟩
          case measure => show n - ((k : Int) + 1).toNat < n - (k : Int).toNat; omega
        · obtain rfl : n = k := by omega
          have hPB : packT ss ++ digs (crc (packT ss)) 4 ++ ((ss.take n).map (·.f1)).flatten = packB ss := by rw [htk.out]; rfl
          rw [hPB] at hO
          replace hPB := Aside0.mk hPB
          go_wp2_with fail
          go_ret2
          exact ⟨_, 0, packB ss, rfl, hO.out, hB2.out, hpw.out.symm⟩
end Go.Proofs.YtpnjhffnlafabaaGreatDoor.Im
namespace Go.Proofs.YtpnjhffnlafabaaGreatDoor.Im
set_option linter.unusedVariables false
set_option linter.unusedSimpArgs false
open Go.Proofs Go.RowKit Go.Proofs.Bk Go.Proofs.Bm Go.Proofs.Sc Go.Proofs.Kf Go.Proofs.YtpnjhffnlafabaaGreatDoorW.PrintWords Go.Proofs.YtpnjhffnlafabaaGreatDoor.Sl Go.Proofs.YtpnjhffnlafabaaGreatDoor.Sn Go.Proofs.YtpnjhffnlafabaaGreatDoor.PImageBack
structure ES (w W : World) (q : Nat) (v0 v1 v2 v3 : Value) (L0 L1 L2 L3 : List Int) : Prop where
  below : Below w.heap.size w W
  lo : w.heap.size ≤ q
  row : W.heap[q]? = some (.cells #[.int .i64 1, v0, .int .i64 2, v1, .int .i64 3, v2, .int .i64 4, v3] 36 (0, 0))
  b0 : Byts W w.heap.size v0 L0
  b1 : Byts W w.heap.size v1 L1
  b2 : Byts W w.heap.size v2 L2
  b3 : Byts W w.heap.size v3 L3
  a01 : Apart v0 v1
  a02 : Apart v0 v2
  a03 : Apart v0 v3
  a12 : Apart v1 v2
  a13 : Apart v1 v3
  a23 : Apart v2 v3
section
variable {w W W' : World} {q : Nat} {v0 v1 v2 v3 v' : Value} {L0 L1 L2 L3 L' : List Int}
theorem Byts.cellKeep {base g i t : Nat} {v u : Value} {xs : List Int} {cs : Array Value} (h : Byts W base v xs) (hr : W.heap[g]? = some (.cells cs t (0, 0))) (hne : 5 ≠ t) : Byts (W.setCell ⟨g, i, none⟩ u) base v xs := R_cell h hr rfl hne
theorem ES.step (h : ES w W q v0 v1 v2 v3 L0 L1 L2 L3) (hb : Below W.heap.size W W') : ES w W' q v0 v1 v2 v3 L0 L1 L2 L3 :=
  ⟨h.below.trans (hb.mono h.below.size), h.lo, row_below hb h.row, Kd.R_below h.b0 hb, Kd.R_below h.b1 hb, Kd.R_below h.b2 hb, Kd.R_below h.b3 hb, h.a01, h.a02, h.a03, h.a12, h.a13, h.a23⟩
theorem ES.qlt (h : ES w W q v0 v1 v2 v3 L0 L1 L2 L3) : q < W.heap.size := lt_row h.row
theorem ES.ne0 (h : ES w W q v0 v1 v2 v3 L0 L1 L2 L3) : some q ≠ v0.ownBlock := fun e => Kd.R_ne h.b0 h.row (by decide) e
theorem ES.cell0 (h : ES w W q v0 v1 v2 v3 L0 L1 L2 L3) : W.cell? ⟨q, 1, none⟩ = some v0 := (Kf.cell_row h.row 1).trans rfl
theorem ES.put0 (h : ES w W q v0 v1 v2 v3 L0 L1 L2 L3) (g : Grew W v0 W' v') (hb : Below w.heap.size w W') (r : Byts W' w.heap.size v' L') : ES w (W'.setCell ⟨q, 1, none⟩ v') q v' v1 v2 v3 L' L1 L2 L3 := by
  have hr' : W'.heap[q]? = _ := (g.blk q h.qlt h.ne0).trans h.row
  refine ⟨hb.trans ((KeepF.setCell W' ⟨q, 1, none⟩ v').to_below hb.size (fun i hi => by have e : i = q := hi; rw [e]; exact h.lo)), h.lo, ?_, Byts.cellKeep r hr' (by decide), Byts.cellKeep (h.b1.keep g h.a01.symm) hr' (by decide), Byts.cellKeep (h.b2.keep g h.a02.symm) hr' (by decide), Byts.cellKeep (h.b3.keep g h.a03.symm) hr' (by decide), ((h.a01.symm).grew h.b1 g).symm, ((h.a02.symm).grew h.b2 g).symm, ((h.a03.symm).grew h.b3 g).symm, h.a12, h.a13, h.a23⟩
  rw [setCell_row hr']; rfl
theorem ES.ne1 (h : ES w W q v0 v1 v2 v3 L0 L1 L2 L3) : some q ≠ v1.ownBlock := fun e => Kd.R_ne h.b1 h.row (by decide) e
theorem ES.cell1 (h : ES w W q v0 v1 v2 v3 L0 L1 L2 L3) : W.cell? ⟨q, 3, none⟩ = some v1 := (Kf.cell_row h.row 3).trans rfl
theorem ES.put1 (h : ES w W q v0 v1 v2 v3 L0 L1 L2 L3) (g : Grew W v1 W' v') (hb : Below w.heap.size w W') (r : Byts W' w.heap.size v' L') : ES w (W'.setCell ⟨q, 3, none⟩ v') q v0 v' v2 v3 L0 L' L2 L3 := by
  have hr' : W'.heap[q]? = _ := (g.blk q h.qlt h.ne1).trans h.row
  refine ⟨hb.trans ((KeepF.setCell W' ⟨q, 3, none⟩ v').to_below hb.size (fun i hi => by have e : i = q := hi; rw [e]; exact h.lo)), h.lo, ?_, Byts.cellKeep (h.b0.keep g h.a01) hr' (by decide), Byts.cellKeep r hr' (by decide), Byts.cellKeep (h.b2.keep g h.a12.symm) hr' (by decide), Byts.cellKeep (h.b3.keep g h.a13.symm) hr' (by decide), (h.a01).grew h.b0 g, h.a02, h.a03, ((h.a12.symm).grew h.b2 g).symm, ((h.a13.symm).grew h.b3 g).symm, h.a23⟩
  rw [setCell_row hr']; rfl
theorem ES.ne2 (h : ES w W q v0 v1 v2 v3 L0 L1 L2 L3) : some q ≠ v2.ownBlock := fun e => Kd.R_ne h.b2 h.row (by decide) e
theorem ES.cell2 (h : ES w W q v0 v1 v2 v3 L0 L1 L2 L3) : W.cell? ⟨q, 5, none⟩ = some v2 := (Kf.cell_row h.row 5).trans rfl
theorem ES.put2 (h : ES w W q v0 v1 v2 v3 L0 L1 L2 L3) (g : Grew W v2 W' v') (hb : Below w.heap.size w W') (r : Byts W' w.heap.size v' L') : ES w (W'.setCell ⟨q, 5, none⟩ v') q v0 v1 v' v3 L0 L1 L' L3 := by
  have hr' : W'.heap[q]? = _ := (g.blk q h.qlt h.ne2).trans h.row
  refine ⟨hb.trans ((KeepF.setCell W' ⟨q, 5, none⟩ v').to_below hb.size (fun i hi => by have e : i = q := hi; rw [e]; exact h.lo)), h.lo, ?_, Byts.cellKeep (h.b0.keep g h.a02) hr' (by decide), Byts.cellKeep (h.b1.keep g h.a12) hr' (by decide), Byts.cellKeep r hr' (by decide), Byts.cellKeep (h.b3.keep g h.a23.symm) hr' (by decide), h.a01, (h.a02).grew h.b0 g, h.a03, (h.a12).grew h.b1 g, h.a13, ((h.a23.symm).grew h.b3 g).symm⟩
  rw [setCell_row hr']; rfl
theorem ES.ne3 (h : ES w W q v0 v1 v2 v3 L0 L1 L2 L3) : some q ≠ v3.ownBlock := fun e => Kd.R_ne h.b3 h.row (by decide) e
theorem ES.cell3 (h : ES w W q v0 v1 v2 v3 L0 L1 L2 L3) : W.cell? ⟨q, 7, none⟩ = some v3 := (Kf.cell_row h.row 7).trans rfl
theorem ES.put3 (h : ES w W q v0 v1 v2 v3 L0 L1 L2 L3) (g : Grew W v3 W' v') (hb : Below w.heap.size w W') (r : Byts W' w.heap.size v' L') : ES w (W'.setCell ⟨q, 7, none⟩ v') q v0 v1 v2 v' L0 L1 L2 L' := by
  have hr' : W'.heap[q]? = _ := (g.blk q h.qlt h.ne3).trans h.row
  refine ⟨hb.trans ((KeepF.setCell W' ⟨q, 7, none⟩ v').to_below hb.size (fun i hi => by have e : i = q := hi; rw [e]; exact h.lo)), h.lo, ?_, Byts.cellKeep (h.b0.keep g h.a03) hr' (by decide), Byts.cellKeep (h.b1.keep g h.a13) hr' (by decide), Byts.cellKeep (h.b2.keep g h.a23) hr' (by decide), Byts.cellKeep r hr' (by decide), h.a01, h.a02, (h.a03).grew h.b0 g, h.a12, (h.a13).grew h.b1 g, (h.a23).grew h.b2 g⟩
  rw [setCell_row hr']; rfl
end
theorem rnumI_calls (n width : Int) (k : Nat) (w : World) (h0 : 0 ≤ n) (h1 : n ≤ 9223372036854775807) (hw : heldW width = k) :
    Calls Tryz.prog 24 #[.int .i64 n, .int .i64 width] w (BytsPost w (digs n k)) := by
  obtain ⟨m, rfl⟩ : ∃ m : Nat, n = m := ⟨n.toNat, by omega⟩
  exact rnum_calls m width k w (by omega) hw
theorem rDigitsI_calls (n width : Int) (k : Nat) (w : World) (h0 : 0 ≤ n) (h1 : n ≤ 18446744073709551615) (hw : heldW width = k) :
    Calls Tryz.prog 25 #[.int .u64 n, .int .i64 width] w (BytsPost w (digs n k)) := by
  obtain ⟨m, rfl⟩ : ∃ m : Nat, n = m := ⟨n.toNat, by omega⟩
  exact rDigits_calls m width k w (by omega) hw
theorem put_row {W : World} {g q : Nat} {o : Obj} (h : W.heap[g]? = some o) (hne : g ≠ q) (i : Nat) (v : Value) : (W.setCell ⟨q, i, none⟩ v).heap[g]? = some o := (Below.heap_setCell W _ v g hne).trans h
end Go.Proofs.YtpnjhffnlafabaaGreatDoor.Im
