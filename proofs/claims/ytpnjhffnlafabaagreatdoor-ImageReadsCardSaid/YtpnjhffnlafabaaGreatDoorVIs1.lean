/- Same of the reference of layer 1: are two rows of bytes one. Size of package image. -/
import Derived.Test.YtpnjhffnlafabaaGreatDoorVImr
namespace Go.Proofs.YtpnjhffnlafabaaGreatDoor.Sl
set_option linter.unusedVariables false
set_option linter.unusedSimpArgs false
open Go.Proofs Go.RowKit Go.Proofs.Bk Go.Proofs.Bm Go.Proofs.Kf Go.Proofs.YtpnjhffnlafabaaGreatDoorW.PrintWords
def EqPost (b : Bool) (w : World) (e : Ending) (w' : World) : Prop := e = .returned (.bool b) ∧ ∃ m, w' = w.drewN m
theorem take_succ_eq {xs ys : List Int} {k : Nat} (h : xs.take k = ys.take k) (hx : k < xs.length) (hy : k < ys.length) (he : rd xs k = rd ys k) : xs.take (k + 1) = ys.take (k + 1) := by
  rw [List.take_add_one, List.take_add_one, h]
  congr 1
  rw [List.getElem?_eq_getElem hx, List.getElem?_eq_getElem hy]
  unfold rd at he
  rw [Int.toNat_natCast, List.getD_eq_getElem?_getD, List.getD_eq_getElem?_getD, List.getElem?_eq_getElem hx, List.getElem?_eq_getElem hy] at he
  simp at he; rw [he]
set_option maxHeartbeats 1000000 in
theorem Same01_calls (A0 : Option Addr) (n0 c0 : Nat) (A1 : Option Addr) (n1 c1 : Nat) (xs ys : List Int) (w : World) (h0 : (Kd.int .u8).C w A0 n0 xs) (h1 : (Kd.int .u8).C w A1 n1 ys) :
    Calls Tryz.prog 13 #[.slice A0 n0 c0, .slice A1 n1 c1] w (EqPost (decide (xs = ys)) w) := by
  have H0 := Aside0.mk h0
  have H1 := Aside0.mk h1
  have hn := h0.2.1
  have l0 : Aside0 (xs.length = n0) := ⟨h0.1⟩
  have l1 : Aside0 (ys.length = n1) := ⟨h1.1⟩
  clear h0 h1
  by_cases hnn : n0 = n1
  · subst hnn
    go_enter Tryz.func13, Tryz.ntmps13
    go_wp2_with fail
    go_loopw [5] (fun i wr => ∃ (k m : Nat), i = .int .i64 k ∧ k ≤ n0 ∧ wr = w.drewN m ∧ Aside0 (xs.take k = ys.take k)) (fun i _ => n0 - (intOf i).toNat)
    case atStart => exact ⟨0, 0, rfl, Nat.zero_le _, rfl, ⟨rfl⟩⟩
    case round =>
      obtain ⟨k, m, rfl, hk, rfl, hT⟩ := hrel
      by_cases hlt : k < n0
      · have p1 : 0 ≤ (k : Int) := by omega
        have q1 : (k : Int) < (n0 : Int) := by omega
        obtain ⟨a0, rfl, x0⟩ := Kd.at_int H0.out k p1 q1
        obtain ⟨a1, rfl, x1⟩ := Kd.at_int H1.out k p1 q1
        rw [Int.toNat_natCast] at x0 x1
        obtain ⟨z0, hz0⟩ : ∃ z, rd xs k = z := ⟨_, rfl⟩
        obtain ⟨z1, hz1⟩ : ∃ z, rd ys k = z := ⟨_, rfl⟩
        rw [hz0] at x0
        rw [hz1] at x1
        by_cases hzz : z0 = z1
        · have ht := take_succ_eq hT.out (by rw [l0.out]; exact hlt) (by rw [l1.out]; exact hlt) (by rw [hz0, hz1, hzz])
          subst hzz
          replace hz0 := Aside0.mk hz0; replace hz1 := Aside0.mk hz1; replace ht := Aside0.mk ht
          have t1 : (z0 != z0) = false := by simp
          go_wp2_with fail
          go_quiet (fail)
          go_wp2_with fail
          go_roundw
          case rel => exact ⟨k + 1, _, by simp, by omega, rfl, ht⟩
          case measure => show n0 - ((k : Int) + 1).toNat < n0 - (k : Int).toNat; omega
        · have hne : xs ≠ ys := fun e => hzz (by rw [← hz0, ← hz1, e])
          have t1 : (z0 != z1) = true := by simpa using hzz
          replace hz0 := Aside0.mk hz0; replace hz1 := Aside0.mk hz1; replace hne := Aside0.mk hne; replace hzz := Aside0.mk hzz
          go_wp2_with fail
          go_quiet (fail)
          go_wp2_with fail
          go_ret
          exact ⟨by rw [decide_eq_false hne.out]; rfl, m + nq, by simp [World.drewN, Nat.add_assoc]⟩
      · have he : xs = ys := by
          have := hT.out
          rw [List.take_of_length_le (by rw [l0.out]; omega), List.take_of_length_le (by rw [l1.out]; omega)] at this
          exact this
        replace he := Aside0.mk he
        go_wp2_with fail
        go_ret
        exact ⟨by rw [decide_eq_true he.out]; rfl, m, rfl⟩
  · have hne : xs ≠ ys := fun e => hnn (by rw [← l0.out, ← l1.out, e])
    have t1 : (((n0 : Nat) : Int) != ((n1 : Nat) : Int)) = true := by simp; omega
    replace hne := Aside0.mk hne
    clear hnn
    go_enter Tryz.func13, Tryz.ntmps13
    go_wp2_with fail
    go_ret
    exact ⟨by rw [decide_eq_false hne.out]; rfl, 0, rfl⟩
end Go.Proofs.YtpnjhffnlafabaaGreatDoor.Sl
namespace Go.Proofs.YtpnjhffnlafabaaGreatDoor.Im
set_option linter.unusedVariables false
set_option linter.unusedSimpArgs false
open Go.Proofs Go.RowKit Go.Proofs.Bk Go.Proofs.Bm Go.Proofs.Sc Go.Proofs.Kf Go.Proofs.YtpnjhffnlafabaaGreatDoorW.PrintWords Go.Proofs.YtpnjhffnlafabaaGreatDoor.Sl Go.Proofs.YtpnjhffnlafabaaGreatDoor.Sn Go.Proofs.YtpnjhffnlafabaaGreatDoor.PImageBack
theorem Same01B_calls (A0 : Option Addr) (n0 c0 : Nat) (A1 : Option Addr) (n1 c1 : Nat) (xs ys : List Int) (w : World) (h0 : U8.C w A0 n0 xs) (h1 : U8.C w A1 n1 ys) :
    Calls Tryz.prog 13 #[.slice A0 n0 c0, .slice A1 n1 c1] w (BelowPost1 (.bool (decide (xs = ys))) w) := by
  refine (Same01_calls A0 n0 c0 A1 n1 c1 xs ys w h0 h1).mono ?_
  rintro e w' ⟨rfl, m, rfl⟩
  exact ⟨rfl, KeepF.to_below ((KeepF.refl (fun _ => False) w).drewN m) (Nat.le_refl _) (fun _ h => h.elim)⟩
theorem Size_calls (A : Option Addr) (n c : Nat) (B : Option Addr) (m d : Nat) (w : World) (hn : n ≤ 1000000) (hm : m ≤ 1000000) :
    Calls Tryz.prog 14 #[.agg #[.slice A n c, .slice B m d]] w (BelowPost1 (.int .i64 (41 + 21 * (n : Int) + 35 * (m : Int))) w) := by
  have i1 : (n : Int) ≤ 1000000 := by omega
  have i2 : (m : Int) ≤ 1000000 := by omega
  go_enter Tryz.func14, Tryz.ntmps14
  go_wp2_with (((with_reducible refine gate_dst (N := 1) rfl ?_); refine box_event ?hg (N := 1) ?hd (cs := #[.slice A n c, .slice B m d]) (t := 25) ?hr ?_; (case hd => rfl); (case hg => rfl); (case hr => first | (go_simp; done) | (go_simp; rfl)); intro b1 hb1 w1 kb1 bb1; replace hb1 := Aside0.mk hb1; replace kb1 := Aside0.mk kb1; replace bb1 := Aside0.mk bb1); have c0 := (cell_row kb1.out 0).trans (rfl : _ = some (Value.slice A n c)); have c1 := (cell_row kb1.out 1).trans (rfl : _ = some (Value.slice B m d)))
  go_ret
  exact ⟨rfl, bb1.out⟩
end Go.Proofs.YtpnjhffnlafabaaGreatDoor.Im
