/- The references of layers 1 and 2: numbers as bytes and back; the check, bit by bit. -/
import Derived.Test.YtpnjhffnlafabaaGreatDoorVImq
import Derived.Test.YtpnjhffnlafabaaGreatDoorVIs1
namespace Go.Proofs.YtpnjhffnlafabaaGreatDoor.Im
set_option linter.unusedVariables false
set_option linter.unusedSimpArgs false
open Go.Proofs Go.RowKit Go.Proofs.Bk Go.Proofs.Bm Go.Proofs.Sc Go.Proofs.Kf Go.Proofs.YtpnjhffnlafabaaGreatDoorW.PrintWords Go.Proofs.YtpnjhffnlafabaaGreatDoor.Sl Go.Proofs.YtpnjhffnlafabaaGreatDoor.Sn Go.Proofs.YtpnjhffnlafabaaGreatDoor.PImageBack
theorem xor_poly (h : Nat) (hl : h < 4294967296) : bits BinOp.xor IntKind.u32 (h : Int) (3988292384 : Int) = ((h ^^^ 3988292384 : Nat) : Int) := u32_xor_nat h 3988292384 hl (by decide)
set_option maxHeartbeats 4000000 in
set_option maxRecDepth 100000 in
theorem rIn_calls (c b : Nat) (w : World) (hc : c < 4294967296) (hb : b < 256) :
    Calls Tryz.prog 122 #[.int .u32 c, .int .u8 b] w (PurePost (.int .u32 ((cS c b : Nat) : Int)) w) := by
  have hx0 : bits BinOp.xor IntKind.u32 (c : Int) (b : Int) = ((c ^^^ b : Nat) : Int) := u32_xor_nat c b hc (by omega)
  have hxl : c ^^^ b < 4294967296 := Nat.xor_lt_two_pow (n := 32) (by omega) (by omega)
  obtain ⟨x, hx⟩ : ∃ x, c ^^^ b = x := ⟨_, rfl⟩
  rw [hx] at hx0 hxl
  have hcs : cS c b = cit 8 x := by unfold cS; rw [hx]
  rw [hcs]
  replace hx := Aside0.mk hx; replace hcs := Aside0.mk hcs
  go_enter Tryz.func122, Tryz.ntmps122
  go_wp2_with fail
  go_loopw [0, 5] (fun v0 v5 wr => ∃ (i y : Nat), v5 = .int .i64 i ∧ v0 = .int .u32 y ∧ i ≤ 8 ∧ y < 4294967296 ∧ Aside0 (cit i x = y) ∧ w = wr) (fun _ iv _ => 8 - (intOf iv).toNat)
  case atStart => exact ⟨0, x, rfl, rfl, by decide, hxl, ⟨rfl⟩, rfl⟩
  case round =>
    obtain ⟨i, y, rfl, rfl, hi, hy, hci, rfl⟩ := hrel
    clear hx0
    by_cases hlt : i < 8
    · have q1 : (i : Int) < 8 := by omega
      obtain ⟨h, hh⟩ : ∃ h, y / 2 = h := ⟨_, rfl⟩
      have hhl : h < 2147483648 := by omega
      have hdiv : ((y : Nat) : Int).tdiv 2 = (h : Int) := by rw [Int.tdiv_eq_ediv_of_nonneg (by omega)]; omega
      have hmod : ((y : Nat) : Int).tmod 2 = ((y % 2 : Nat) : Int) := by rw [Int.tmod_eq_emod_of_nonneg (by omega)]; rfl
      have hnx : cit (i + 1) x = cst y := by rw [cit_add 1 i x, hci.out]; rfl
      have hwh : IntKind.u32.wrap (h : Int) = (h : Int) := by rw [IntKind.wrap_u32]; omega
      rcases (by omega : y % 2 = 0 ∨ y % 2 = 1) with e | e
      · have hmod0 : ((y : Nat) : Int).tmod 2 = 0 := by rw [hmod, e]; rfl
        have hcst : cst y = h := by unfold cst; rw [if_neg (by omega), Nat.xor_zero, hh]
        clear hmod e
        replace hh := Aside0.mk hh; replace hnx := Aside0.mk hnx; replace hcst := Aside0.mk hcst
        go_wp2_with fail
        go_roundw
        case rel => exact ⟨i + 1, h, by simp, rfl, by omega, by omega, ⟨by rw [hnx.out, hcst.out]⟩, trivial⟩
        case measure => show 8 - ((i : Int) + 1).toNat < 8 - (i : Int).toNat; omega
      · have hmod0 : ((y : Nat) : Int).tmod 2 = 1 := by rw [hmod, e]; rfl
        have hcst : cst y = h ^^^ 3988292384 := by unfold cst; rw [if_pos e, hh]
        have hxp := xor_poly h (by omega)
        have hxl2 : h ^^^ 3988292384 < 4294967296 := Nat.xor_lt_two_pow (n := 32) (by omega) (by decide)
        obtain ⟨y2, hy2⟩ : ∃ y2, h ^^^ 3988292384 = y2 := ⟨_, rfl⟩
        rw [hy2] at hxp hxl2 hcst
        clear hmod e
        replace hh := Aside0.mk hh; replace hnx := Aside0.mk hnx; replace hcst := Aside0.mk hcst; replace hy2 := Aside0.mk hy2
        go_wp2_with fail
        go_roundw
        case rel => exact ⟨i + 1, y2, by simp, rfl, by omega, hxl2, ⟨by rw [hnx.out, hcst.out]⟩, trivial⟩
        case measure => show 8 - ((i : Int) + 1).toNat < 8 - (i : Int).toNat; omega
    · obtain rfl : i = 8 := by omega
      have hfin : Aside0 (cit 8 x = y) := hci
      go_wp2_with fail
      go_ret
      exact ⟨by rw [hfin.out]; rfl, rfl⟩
theorem rOver_calls (c : Nat) (w : World) (hc : c < 4294967296) : Calls Tryz.prog 105 #[.int .u32 c] w (PurePost (.int .u32 (4294967295 - (c : Int))) w) := by
  have hw1 : IntKind.u32.wrap (4294967295 - (c : Int)) = 4294967295 - (c : Int) := by rw [IntKind.wrap_u32]; omega
  go_enter Tryz.func105, Tryz.ntmps105
  go_wp2_with fail
  go_ret
  exact ⟨rfl, rfl⟩
set_option maxHeartbeats 4000000 in
set_option maxRecDepth 100000 in
theorem rAll_calls (c : Nat) (A : Option Addr) (n cc : Nat) (l : List Int) (w : World) (hc : c < 4294967296) (h : U8.C w A n l) (hl : inB l) :
    Calls Tryz.prog 106 #[.int .u32 c, .slice A n cc] w (PurePost (.int .u32 ((cF c (l.map Int.toNat) : Nat) : Int)) w) := by
  have hln : l.length = n := h.1
  have hn2 := h.2.1
  have HE := Aside0.mk h
  clear h
  replace hl := Aside0.mk hl; replace hln := Aside0.mk hln
  go_enter Tryz.func106, Tryz.ntmps106
  go_wp2_with fail
  go_loopw [0, 5] (fun v0 v5 wr => ∃ (i z : Nat), v5 = .int .i64 i ∧ v0 = .int .u32 z ∧ i ≤ n ∧ z < 4294967296 ∧ Aside0 (cF c ((l.take i).map Int.toNat) = z) ∧ w = wr) (fun _ iv _ => n - (intOf iv).toNat)
  case atStart => exact ⟨0, c, rfl, rfl, Nat.zero_le _, hc, ⟨rfl⟩, rfl⟩
  case round =>
    obtain ⟨i, z, rfl, rfl, hi, hz, hci, rfl⟩ := hrel
    by_cases hlt : i < n
    · have p1 : 0 ≤ (i : Int) := by omega
      have q1 : (i : Int) < (n : Int) := by omega
      obtain ⟨ad, rfl, x1⟩ := Kd.at_int HE.out i p1 q1
      rw [Int.toNat_natCast] at x1
      have hb2 : 0 ≤ rd l i ∧ rd l i ≤ 255 := hl.out _ (by unfold rd; rw [Int.toNat_natCast, List.getD_eq_getElem?_getD, List.getElem?_eq_getElem (by rw [hln.out]; exact hlt)]; exact List.getElem_mem _)
      obtain ⟨b, hb⟩ : ∃ b : Nat, rd l i = b := ⟨(rd l i).toNat, by omega⟩
      rw [hb] at x1 hb2
      have hb3 : b < 256 := by omega
      have hnx : cF c ((l.take (i + 1)).map Int.toNat) = cS z b := by
        have e1 : l[i]? = some (b : Int) := by
          have h9 := hb
          unfold rd at h9
          rw [Int.toNat_natCast, List.getD_eq_getElem?_getD, List.getElem?_eq_getElem (by rw [hln.out]; exact hlt)] at h9
          rw [List.getElem?_eq_getElem (by rw [hln.out]; exact hlt)]
          exact congrArg some h9
        rw [List.take_add_one, e1, List.map_append]
        unfold cF at hci ⊢
        rw [List.foldl_append, hci.out]
        rfl
      have hlt2 := cS_lt (c := z) (b := b) hz hb3
      have kin := rIn_calls z b w hz hb3
      obtain ⟨z2, hz2⟩ : ∃ z2, cS z b = z2 := ⟨_, rfl⟩
      rw [hz2] at kin hnx hlt2
      replace hb := Aside0.mk hb; replace hnx := Aside0.mk hnx; replace kin := Aside0.mk kin; replace hz2 := Aside0.mk hz2
      go_wp2_with (go_at_call 122; (with_reducible refine kin.out.mono ?_); rintro e w' ⟨rfl, hw'⟩; subst hw')
      go_roundw
      case rel => exact ⟨i + 1, z2, by simp, rfl, by omega, hlt2, hnx, trivial⟩
      case measure => show n - ((i : Int) + 1).toNat < n - (i : Int).toNat; omega
    · obtain rfl : i = n := by omega
      have hfin : Aside0 (cF c (l.map Int.toNat) = z) := ⟨by have := hci.out; rwa [List.take_of_length_le (by rw [hln.out]; exact Nat.le_refl _)] at this⟩
      go_wp2_with fail
      go_ret
      exact ⟨by rw [hfin.out]; rfl, rfl⟩
theorem rOf_calls (A : Option Addr) (n c : Nat) (l : List Int) (w : World) (h : U8.C w A n l) (hl : inB l) :
    Calls Tryz.prog 90 #[.slice A n c] w (PurePost (.int .u32 (crc l)) w) := by
  have hlt := cF_lt (l.map Int.toNat) (c := 4294967295) (by decide) (nat_lt hl)
  have hcr := crc_nat hl
  have ka := rAll_calls 4294967295 A n c l w (by decide) h hl
  obtain ⟨z, hz⟩ : ∃ z, cF 4294967295 (l.map Int.toNat) = z := ⟨_, rfl⟩
  rw [hz] at hlt hcr ka
  have ko := rOver_calls z w hlt
  rw [← hcr] at ko
  have ka' : Calls Tryz.prog 106 #[.int .u32 4294967295, .slice A n c] w (PurePost (.int .u32 (z : Int)) w) := ka
  replace ka' := Aside0.mk ka'; replace ko := Aside0.mk ko; replace hcr := Aside0.mk hcr; replace hz := Aside0.mk hz
  clear ka
  go_enter Tryz.func90, Tryz.ntmps90
  go_wp2_with (first
    | (go_at_call 106; (with_reducible refine ka'.out.mono ?_); rintro e w' ⟨rfl, hw'⟩; subst hw')
    | (go_at_call 105; (with_reducible refine ko.out.mono ?_); rintro e w' ⟨rfl, hw'⟩; subst hw'))
  go_ret
  exact ⟨rfl, rfl⟩
theorem rWidth_calls (n : Int) (w : World) : Calls Tryz.prog 54 #[.int .i64 n] w (PurePost (.int .i64 (heldW n)) w) := by
  go_enter Tryz.func54, Tryz.ntmps54
  go_wp2_with fail
  go_ret
  exact ⟨rfl, rfl⟩
theorem digs_snoc : ∀ (k : Nat) (n : Int), digs n (k + 1) = digs n k ++ [n / 256 ^ k % 256]
  | 0, n => by simp [digs]
  | k + 1, n => by
    rw [digs, digs_snoc k (n / 256), digs, List.cons_append]
    congr 2
    have h1 : n / 256 / 256 ^ k = n / (256 * 256 ^ k) := by rw [Int.ediv_ediv, if_neg (fun h => absurd h.1 (by decide)), Int.sub_zero]
    rw [h1, Int.pow_succ, Int.mul_comm 256]
def BytsPost (w : World) (bs : List Int) (e : Ending) (w' : World) : Prop := ∃ v, e = .returned v ∧ Byts w' w.heap.size v bs ∧ Below w.heap.size w w'
set_option maxHeartbeats 4000000 in
set_option maxRecDepth 100000 in
theorem rDigits_calls (n : Nat) (width : Int) (k : Nat) (w : World) (hn : n ≤ 18446744073709551615) (hw : heldW width = k) :
    Calls Tryz.prog 25 #[.int .u64 n, .int .i64 width] w (BytsPost w (digs n k)) := by
  have hk : k ≤ 8 := by have := held_range width; omega
  have kw := fun W => rWidth_calls width W
  rw [hw] at kw
  replace hw := Aside0.mk hw; replace kw := Aside0.mk kw
  go_enter Tryz.func25, Tryz.ntmps25
  go_wp2_with fail
  go_loopw [0, 5, 6] (fun v0 v5 v6 wr => ∃ (i m : Nat), v6 = .int .i64 i ∧ v0 = .int .u64 m ∧ i ≤ k ∧ m ≤ 18446744073709551615 ∧ Aside0 (n / 256 ^ i = m) ∧ Aside0 (Byts wr w.heap.size v5 (digs n i)) ∧ Aside0 (Below w.heap.size w wr)) (fun _ _ iv _ => k - (intOf iv).toNat)
  case atStart => exact ⟨0, n, rfl, rfl, Nat.zero_le _, hn, ⟨by simp⟩, ⟨Kd.R_nil _ _ _ _ _⟩, ⟨Below.refl _ _⟩⟩
  case round =>
    obtain ⟨i, m, rfl, rfl, hi, hm, hmi, hO, hB⟩ := hrel
    by_cases hlt : i < k
    · have q1 : (i : Int) < (k : Int) := by omega
      obtain ⟨b, hb⟩ : ∃ b, m % 256 = b := ⟨_, rfl⟩
      obtain ⟨m2, hm2⟩ : ∃ m2, m / 256 = m2 := ⟨_, rfl⟩
      have hbl : b < 256 := by omega
      have hm2l : m2 ≤ 18446744073709551615 := by omega
      have hmod : ((m : Nat) : Int).tmod 256 = (b : Int) := by rw [Int.tmod_eq_emod_of_nonneg (by omega)]; omega
      have hdiv : ((m : Nat) : Int).tdiv 256 = (m2 : Int) := by rw [Int.tdiv_eq_ediv_of_nonneg (by omega)]; omega
      have hwb : IntKind.u8.wrap (b : Int) = (b : Int) := by rw [IntKind.wrap_u8]; omega
      have hwb2 : IntKind.u64.wrap (b : Int) = (b : Int) := by rw [IntKind.wrap_u64]; omega
      have hwm : IntKind.u64.wrap (m2 : Int) = (m2 : Int) := by rw [IntKind.wrap_u64]; omega
      have hnx : digs n (i + 1) = digs n i ++ [(b : Int)] := by
        rw [digs_snoc]
        congr 2
        rw [← hb, ← hmi.out]
        have e : ((256 : Int) ^ i) = ((256 ^ i : Nat) : Int) := by rw [Int.natCast_pow]; rfl
        rw [e]
        omega
      have hm3 : n / 256 ^ (i + 1) = m2 := by rw [← hm2, ← hmi.out, Nat.pow_succ, Nat.div_div_eq_div_mul]
      have hl8 : ((digs n i).length + 1) * 1 ≤ 140737488355328 := by rw [digs_length]; omega
      replace hb := Aside0.mk hb; replace hm2 := Aside0.mk hm2; replace hnx := Aside0.mk hnx; replace hm3 := Aside0.mk hm3; replace hl8 := Aside0.mk hl8
      go_wp2_with (first
        | (go_at_call 54; (with_reducible refine (kw.out _).mono ?_); rintro e w' ⟨rfl, hw'⟩; subst hw')
        | ((with_reducible refine gate_builtin (b := .append) (xs := #[.tmp 13, .tmp 17]) rfl ?_); at_builtin; refine Kd.R_append U8 (w0 := w) w.heap.size rfl (.tmp 13) (.tmp 17) 28 5 (.int .u8 0) 1 rfl Tryz.underlying28 info_u8 rfl (by decide) (by decide) u5 (digs n i) (b : Int) [.int .u8 b] (fun _ => True) (fun _ => False) rfl rfl ?aP (fun _ hk => hk.elim) (fun _ _ => trivial) hO.out hB.out hB.out.size hl8.out ?_; (case aP => exact rfl); intro v7 w7 r7 hb7 hg7 hat7; clear hg7 hat7; replace r7 := Aside0.mk r7; replace hb7 := Aside0.mk hb7))
      go_roundw
      case rel => exact ⟨i + 1, m2, by simp, rfl, by omega, hm2l, hm3, ⟨by rw [hnx.out]; exact r7.out⟩, hb7⟩
      case measure => show k - ((i : Int) + 1).toNat < k - (i : Int).toNat; omega
    · obtain rfl : i = k := by omega
      have z1 : ¬ (i : Int) < (i : Int) := by omega
      go_wp2_with (first
        | (go_at_call 54; (with_reducible refine (kw.out _).mono ?_); rintro e w' ⟨rfl, hw'⟩; subst hw'))
      go_ret
      exact ⟨_, rfl, hO.out, hB.out⟩
theorem leNum_snoc : ∀ (l : List Int) (b : Int), leNum (l ++ [b]) = leNum l + 256 ^ l.length * b
  | [], b => by simp [leNum]
  | a :: l, b => by
    rw [List.cons_append, leNum, leNum_snoc l b, leNum, List.length_cons, Int.pow_succ, Int.mul_add, ← Int.mul_assoc, Int.mul_comm 256 (256 ^ l.length), Int.add_assoc]
set_option maxHeartbeats 4000000 in
set_option maxRecDepth 100000 in
theorem rNumber_calls (A : Option Addr) (n c : Nat) (l : List Int) (w : World) (h : U8.C w A n l) (hl : inB l) (h8 : n ≤ 8) :
    Calls Tryz.prog 33 #[.slice A n c] w (PurePost (.int .u64 (leNum l)) w) := by
  have hln : l.length = n := h.1
  have HE := Aside0.mk h
  clear h
  replace hl := Aside0.mk hl; replace hln := Aside0.mk hln
  go_enter Tryz.func33, Tryz.ntmps33
  go_wp2_with fail
  go_loopw [3, 4, 5] (fun v3 v4 v5 wr => ∃ (i N sc : Nat), v5 = .int .i64 i ∧ v3 = .int .u64 N ∧ v4 = .int .u64 sc ∧ i ≤ n ∧ N < 18446744073709551616 ∧ sc < 18446744073709551616 ∧ Aside0 (leNum (l.take i) = (N : Int)) ∧ Aside0 (i < 8 → sc = 256 ^ i) ∧ w = wr) (fun _ _ iv _ => n - (intOf iv).toNat)
  case atStart => exact ⟨0, 0, 1, rfl, rfl, rfl, Nat.zero_le _, by decide, by decide, ⟨rfl⟩, ⟨fun _ => rfl⟩, rfl⟩
  case round =>
    obtain ⟨i, N, sc, rfl, rfl, rfl, hi, hN, hsc, hci, hcs, rfl⟩ := hrel
    by_cases hlt : i < n
    · have p1 : 0 ≤ (i : Int) := by omega
      have q1 : (i : Int) < (n : Int) := by omega
      obtain ⟨ad, rfl, x1⟩ := Kd.at_int HE.out i p1 q1
      rw [Int.toNat_natCast] at x1
      have hb2 : 0 ≤ rd l i ∧ rd l i ≤ 255 := hl.out _ (by unfold rd; rw [Int.toNat_natCast, List.getD_eq_getElem?_getD, List.getElem?_eq_getElem (by rw [hln.out]; exact hlt)]; exact List.getElem_mem _)
      obtain ⟨b, hb⟩ : ∃ b : Nat, rd l i = b := ⟨(rd l i).toNat, by omega⟩
      rw [hb] at x1 hb2
      have hb3 : b < 256 := by omega
      have e1 : l.take (i + 1) = l.take i ++ [(b : Int)] := by
        have h9 := hb
        unfold rd at h9
        rw [Int.toNat_natCast, List.getD_eq_getElem?_getD, List.getElem?_eq_getElem (by rw [hln.out]; exact hlt)] at h9
        rw [List.take_add_one, List.getElem?_eq_getElem (by rw [hln.out]; exact hlt)]
        exact congrArg (fun u => l.take i ++ [u]) h9
      have hsi := hcs.out (by omega)
      obtain ⟨p, hp⟩ : ∃ p, sc * b = p := ⟨_, rfl⟩
      have hnx : leNum (l.take (i + 1)) = (N : Int) + (p : Int) := by
        rw [e1, leNum_snoc, hci.out, List.length_take, hln.out, Nat.min_eq_left hi, ← hp, hsi, Int.natCast_mul, Int.natCast_pow]; rfl
      have hr := leNum_range (l.take (i + 1)) (inB_take hl.out _)
      have hr2 : (256 : Int) ^ (l.take (i + 1)).length ≤ 256 ^ 8 := pow256_le (by rw [List.length_take]; omega)
      have hr3 : (256 : Int) ^ 8 = 18446744073709551616 := by decide
      rw [hnx] at hr
      obtain ⟨N2, hN2⟩ : ∃ N2, N + p = N2 := ⟨_, rfl⟩
      have hwp : IntKind.u64.wrap ((sc : Int) * (b : Int)) = (p : Int) := by
        have : (sc : Int) * (b : Int) = (p : Int) := by rw [← hp, Int.natCast_mul]
        rw [this, IntKind.wrap_u64]; omega
      have hwn : IntKind.u64.wrap ((N : Int) + (p : Int)) = (N2 : Int) := by rw [IntKind.wrap_u64]; omega
      have hwb : IntKind.u64.wrap (b : Int) = (b : Int) := by rw [IntKind.wrap_u64]; omega
      obtain ⟨s2, hs2⟩ : ∃ s2, sc * 256 % 18446744073709551616 = s2 := ⟨_, rfl⟩
      have hwsc : IntKind.u64.wrap ((sc : Int) * 256) = (s2 : Int) := by rw [IntKind.wrap_u64]; omega
      have hN2l : N2 < 18446744073709551616 := by omega
      have hs2l : s2 < 18446744073709551616 := by omega
      have hnx2 : leNum (l.take (i + 1)) = (N2 : Int) := by rw [hnx, ← hN2]; omega
      have hcs2 : i + 1 < 8 → s2 = 256 ^ (i + 1) := fun h => by
        have h1 : (256 : Nat) ^ (i + 1) ≤ 256 ^ 7 := Nat.pow_le_pow_right (by decide) (by omega)
        have h2 : (256 : Nat) ^ 7 = 72057594037927936 := by decide
        have h3 : sc * 256 = 256 ^ (i + 1) := by rw [hsi, Nat.pow_succ]
        rw [← hs2, h3, Nat.mod_eq_of_lt (by omega)]
      clear hr hr2 hr3 hnx
      replace hb := Aside0.mk hb; replace e1 := Aside0.mk e1; replace hsi := Aside0.mk hsi; replace hp := Aside0.mk hp; replace hN2 := Aside0.mk hN2; replace hs2 := Aside0.mk hs2; replace hnx2 := Aside0.mk hnx2; replace hcs2 := Aside0.mk hcs2
      go_wp2_with fail
      go_roundw
      case rel => exact ⟨i + 1, N2, s2, by simp, rfl, rfl, by omega, hN2l, hs2l, hnx2, hcs2, trivial⟩
      case measure => show n - ((i : Int) + 1).toNat < n - (i : Int).toNat; omega
    · obtain rfl : i = n := by omega
      have hfin : Aside0 (leNum l = (N : Int)) := ⟨by have := hci.out; rwa [List.take_of_length_le (by rw [hln.out]; exact Nat.le_refl _)] at this⟩
      go_wp2_with fail
      go_ret
      exact ⟨by rw [hfin.out]; rfl, rfl⟩
end Go.Proofs.YtpnjhffnlafabaaGreatDoor.Im
