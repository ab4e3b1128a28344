/- The law's list of operations; few; Same of two rows; same of a store. -/
import Derived.Test.YtiibfboendnifaaDoorSlL
import Derived.Test.YtiibfboendnifaaDoorDkW
namespace Go.Proofs.YtiibfboendnifaaDoor.Sl
set_option linter.unusedVariables false
set_option linter.unusedSimpArgs false
open Go.RowKit Go.Proofs.Bk Go.Proofs.Bm Go.Proofs.Op Go.Proofs.YtiibfboendnifaaDoor.Dk Go.Proofs.YtiibfboendnifaaDoorW.PrintWords

structure OpM where
  k : Int
  i : Int
  n : Int
  b : List Int
  kp : List Bool
def OpM.f (o : OpM) : Int × Int × Int × List Int × List Bool := (o.k, o.i, o.n, o.b, o.kp)
def OpM.g (x : Int × Int × Int × List Int × List Bool) : OpM := ⟨x.1, x.2.1, x.2.2.1, x.2.2.2.1, x.2.2.2.2⟩
def kOp : Kd OpM := Kd.iso (Kd.pair (Kd.int .i64) (Kd.pair (Kd.int .i64) (Kd.pair (Kd.int .i64) (Kd.pair (Kd.slice 5 (Kd.int .u8)) (Kd.slice 4 Kd.bool))))) OpM.f
def okOp (o : OpM) : Prop := (Lit.int .i64 o.k).wf = true ∧ (Lit.int .i64 o.i).wf = true ∧ (Lit.int .i64 o.n).wf = true ∧ (∀ x ∈ o.b, (Lit.int .u8 x).wf = true) ∧ (∀ x ∈ o.kp, True)
theorem opens_Op : Opens Tryd.prog 35 kOp okOp :=
  Opens.struct OpM.f OpM.g (fun _ => rfl) Tryd.underlying35 (by kernel_rfl)
    (OpensF.cons rfl (by kernel_rfl) (Opens.int Tryd.underlying3) (OpensF.cons rfl (by kernel_rfl) (Opens.int Tryd.underlying3) (OpensF.cons rfl (by kernel_rfl) (Opens.int Tryd.underlying3)
      (OpensF.cons rfl (by kernel_rfl) (Opens.slice Tryd.underlying32 (by kernel_rfl) (Opens.int Tryd.underlying5)) (OpensF.one rfl (by kernel_rfl) (Opens.slice Tryd.underlying33 (by kernel_rfl) (Opens.bool Tryd.underlying4)))))))
theorem wf_u8 {x : Int} (h : (Lit.int .u8 x).wf = true) : 0 ≤ x ∧ x ≤ 255 := by
  simp [Lit.wf, IntKind.min, IntKind.max, IntKind.signed, IntKind.bits] at h
  omega

/-- an operation's cells -/
def OpAt (w : World) (o : OpM) (A1 : Option Addr) (c1 : Nat) (A2 : Option Addr) (c2 : Nat) : Prop := (Kd.int .u8).C w A1 o.b.length o.b ∧ Kd.bool.C w A2 o.kp.length o.kp
def opCells (o : OpM) (A1 : Option Addr) (c1 : Nat) (A2 : Option Addr) (c2 : Nat) : List Value := [.int .i64 o.k, .int .i64 o.i, .int .i64 o.n, .slice A1 o.b.length c1, .slice A2 o.kp.length c2]
theorem kOp_cells {w : World} {o : OpM} {cs : List Value} (h : kOp.K w o cs) : ∃ A1 c1 A2 c2, cs = opCells o A1 c1 A2 c2 ∧ OpAt w o A1 c1 A2 c2 := by
  obtain ⟨x0, y0, rfl, h0, x1, y1, rfl, h1, x2, y2, rfl, h2, x3, y3, rfl, h3, h4⟩ := h
  obtain rfl : x0 = [.int .i64 o.k] := h0
  obtain rfl : x1 = [.int .i64 o.i] := h1
  obtain rfl : x2 = [.int .i64 o.n] := h2
  obtain ⟨A1, c1, rfl, _, hb⟩ := h3
  obtain ⟨A2, c2, rfl, _, hk⟩ := h4
  exact ⟨A1, c1, A2, c2, rfl, hb, hk⟩
theorem ops_at {w : World} {A : Option Addr} {n : Nat} {l : List OpM} (h : kOp.C w A n l) {k : Nat} (hk : k < n) :
    ∃ ad o A1 c1 A2 c2, A = some ad ∧ l[k]? = some o ∧ OpAt w o A1 c1 A2 c2 ∧ (∀ i u, (opCells o A1 c1 A2 c2)[i]? = some u → w.cell? (ad.add (k * 5 + i)) = some u) := by
  have hl : l.length = n := h.1
  obtain ⟨ad, rfl, hc⟩ := h.2.2 (by omega)
  obtain ⟨cs, hc1, hc2, hc3⟩ := hc k (l[k]'(by omega)) (List.getElem?_eq_getElem _)
  obtain ⟨A1, c1, A2, c2, rfl, ho⟩ := kOp_cells hc2
  exact ⟨ad, _, A1, c1, A2, c2, rfl, List.getElem?_eq_getElem _, ho, hc3⟩
theorem add_field (ad : Addr) (m j : Nat) (hj : 0 < j) : (⟨(ad.add m).block, (ad.add m).off + j, none⟩ : Addr) = ad.add (m + j) := by
  unfold Addr.add
  rw [if_neg (show ¬ m + j = 0 by omega)]
  split
  · rename_i h; subst h; simp
  · simp [Nat.add_assoc]


structure FewOk (l : List OpM) : Prop where
  n : l.length ≤ 20
  b : ∀ o ∈ l, o.b.length ≤ 400
  k : ∀ o ∈ l, o.kp.length ≤ 50
def FewPost (l : List OpM) (w : World) (e : Ending) (w' : World) : Prop := (∃ b, e = .returned (.bool b) ∧ (b = true → FewOk l)) ∧ w = w'
set_option maxHeartbeats 1000000 in
theorem few_calls (A : Option Addr) (n c : Nat) (l : List OpM) (w : World) (h : kOp.C w A n l) : Calls Tryd.prog 10 #[.slice A n c] w (FewPost l w) := by
  have H := Aside0.mk h
  have hn := h.2.1
  have hl : Aside0 (l.length = n) := ⟨h.1⟩
  clear h
  go_enter Tryd.func10, Tryd.ntmps10
  go_wp2
  go_loopw [3] (fun i wr => ∃ k : Nat, i = .int .i64 k ∧ k ≤ n ∧ w = wr ∧ Aside0 (∀ j o, j < k → l[j]? = some o → o.b.length ≤ 400 ∧ o.kp.length ≤ 50)) (fun i _ => n - (intOf i).toNat)
  case atStart => exact ⟨0, rfl, Nat.zero_le _, rfl, ⟨fun j o hj => absurd hj (Nat.not_lt_zero _)⟩⟩
  case round =>
    obtain ⟨k, rfl, hk, rfl, hA⟩ := hrel
    by_cases hlt : k < n
    · have p1 : 0 ≤ (k : Int) := by omega
      have q1 : (k : Int) < (n : Int) := by omega
      obtain ⟨ad, o, A1, c1, A2, c2, rfl, ho, hat, hcs⟩ := ops_at H.out hlt
      have x3 : w.cell? ⟨(ad.add (k * 5)).block, (ad.add (k * 5)).off + 3, none⟩ = some (.slice A1 o.b.length c1) := by rw [add_field _ _ _ (by omega)]; exact hcs 3 _ rfl
      have x4 : w.cell? ⟨(ad.add (k * 5)).block, (ad.add (k * 5)).off + 4, none⟩ = some (.slice A2 o.kp.length c2) := by rw [add_field _ _ _ (by omega)]; exact hcs 4 _ rfl
      obtain ⟨nb, hnb⟩ : ∃ nb, o.b.length = nb := ⟨_, rfl⟩
      obtain ⟨nk, hnk⟩ : ∃ nk, o.kp.length = nk := ⟨_, rfl⟩
      rw [hnb] at x3
      rw [hnk] at x4
      have bad : FewPost l w (.returned (.bool false)) w := ⟨⟨false, rfl, fun h => by cases h⟩, rfl⟩
      replace ho := Aside0.mk ho; replace hat := Aside0.mk hat; replace hcs := Aside0.mk hcs; replace hnb := Aside0.mk hnb; replace hnk := Aside0.mk hnk
      by_cases h1 : 400 < nb
      · go_wp2
        go_ret
        exact bad
      · by_cases h2 : 50 < nk
        · go_wp2
          go_ret
          exact bad
        · have hA2 : Aside0 (∀ j o, j < k + 1 → l[j]? = some o → o.b.length ≤ 400 ∧ o.kp.length ≤ 50) := ⟨fun j o' hj ho' => by
            by_cases e : j < k
            · exact hA.out j o' e ho'
            · have : j = k := by omega
              subst this
              rw [ho.out] at ho'
              obtain rfl := Option.some.inj ho'
              rw [hnb.out, hnk.out]; omega⟩
          clear bad
          go_wp2
          go_roundw
          case rel => exact ⟨k + 1, by simp, by omega, by first | trivial | rfl, hA2⟩
          case measure => show n - ((k : Int) + 1).toNat < n - (k : Int).toNat; omega
    · have hkn : k = n := by omega
      have hall : ∀ o ∈ l, o.b.length ≤ 400 ∧ o.kp.length ≤ 50 := fun o ho => by
        obtain ⟨j, hj⟩ := List.mem_iff_getElem?.1 ho
        have := (List.getElem?_eq_some_iff.1 hj).1
        exact hA.out j o (by rw [hl.out] at this; omega) hj
      have fin : FewPost l w (.returned (.bool (decide ((n : Int) ≤ 20)))) w := ⟨⟨_, rfl, fun h => ⟨by have := of_decide_eq_true h; rw [hl.out]; omega, fun o ho => (hall o ho).1, fun o ho => (hall o ho).2⟩⟩, rfl⟩
      replace fin := Aside0.mk fin; replace hall := Aside0.mk hall
      go_wp2
      go_ret
      first
        | exact fin.out
        | (simp only [Int.ofNat_le]; exact fin.out)

def EqPost (b : Bool) (w : World) (e : Ending) (w' : World) : Prop := e = .returned (.bool b) ∧ ∃ m, w' = w.drewN m
theorem take_succ_eq {xs ys : List Int} {k : Nat} (h : xs.take k = ys.take k) (hx : k < xs.length) (hy : k < ys.length) (he : rd xs k = rd ys k) : xs.take (k + 1) = ys.take (k + 1) := by
  rw [List.take_add_one, List.take_add_one, h]
  congr 1
  rw [List.getElem?_eq_getElem hx, List.getElem?_eq_getElem hy]
  unfold rd at he
  rw [Int.toNat_natCast, List.getD_eq_getElem?_getD, List.getD_eq_getElem?_getD, List.getElem?_eq_getElem hx, List.getElem?_eq_getElem hy] at he
  simp at he; rw [he]
set_option maxHeartbeats 1000000 in
theorem Same01_calls (A0 : Option Addr) (n0 c0 : Nat) (A1 : Option Addr) (n1 c1 : Nat) (xs ys : List Int) (w : World) (h0 : (Kd.int .u8).C w A0 n0 xs) (h1 : (Kd.int .u8).C w A1 n1 ys) :
    Calls Tryd.prog 41 #[.slice A0 n0 c0, .slice A1 n1 c1] w (EqPost (decide (xs = ys)) w) := by
  have H0 := Aside0.mk h0
  have H1 := Aside0.mk h1
  have hn := h0.2.1
  have l0 : Aside0 (xs.length = n0) := ⟨h0.1⟩
  have l1 : Aside0 (ys.length = n1) := ⟨h1.1⟩
  clear h0 h1
  by_cases hnn : n0 = n1
  · subst hnn
    go_enter Tryd.func41, Tryd.ntmps41
    go_wp2_with fail
    go_loopw [5] (fun i wr => ∃ (k m : Nat), i = .int .i64 k ∧ k ≤ n0 ∧ wr = w.drewN m ∧ Aside0 (xs.take k = ys.take k)) (fun i _ => n0 - (intOf i).toNat)
    case atStart => exact ⟨0, 0, rfl, Nat.zero_le _, rfl, ⟨rfl⟩⟩
    case round =>
      obtain ⟨k, m, rfl, hk, rfl, hT⟩ := hrel
      by_cases hlt : k < n0
      · have p1 : 0 ≤ (k : Int) := by omega
        have q1 : (k : Int) < (n0 : Int) := by omega
        obtain ⟨a0, rfl, x0⟩ := Kd.at_int H0.out k p1 q1
        obtain ⟨a1, rfl, x1⟩ := Kd.at_int H1.out k p1 q1
        rw [Int.toNat_natCast] at x0 x1
        obtain ⟨z0, hz0⟩ : ∃ z, rd xs k = z := ⟨_, rfl⟩
        obtain ⟨z1, hz1⟩ : ∃ z, rd ys k = z := ⟨_, rfl⟩
        rw [hz0] at x0
        rw [hz1] at x1
        by_cases hzz : z0 = z1
        · have ht := take_succ_eq hT.out (by rw [l0.out]; exact hlt) (by rw [l1.out]; exact hlt) (by rw [hz0, hz1, hzz])
          subst hzz
          replace hz0 := Aside0.mk hz0; replace hz1 := Aside0.mk hz1; replace ht := Aside0.mk ht
          have t1 : (z0 != z0) = false := by simp
          go_wp2_with fail
          go_quiet (fail)
          go_wp2_with fail
          go_roundw
          case rel => exact ⟨k + 1, _, by simp, by omega, rfl, ht⟩
          case measure => show n0 - ((k : Int) + 1).toNat < n0 - (k : Int).toNat; omega
        · have hne : xs ≠ ys := fun e => hzz (by rw [← hz0, ← hz1, e])
          have t1 : (z0 != z1) = true := by simpa using hzz
          replace hz0 := Aside0.mk hz0; replace hz1 := Aside0.mk hz1; replace hne := Aside0.mk hne; replace hzz := Aside0.mk hzz
          go_wp2_with fail
          go_quiet (fail)
          go_wp2_with fail
          go_ret
          exact ⟨by rw [decide_eq_false hne.out]; rfl, m + nq, by simp [World.drewN, Nat.add_assoc]⟩
      · have he : xs = ys := by
          have := hT.out
          rw [List.take_of_length_le (by rw [l0.out]; omega), List.take_of_length_le (by rw [l1.out]; omega)] at this
          exact this
        replace he := Aside0.mk he
        go_wp2_with fail
        go_ret
        exact ⟨by rw [decide_eq_true he.out]; rfl, m, rfl⟩
  · have hne : xs ≠ ys := fun e => hnn (by rw [← l0.out, ← l1.out, e])
    have t1 : (((n0 : Nat) : Int) != ((n1 : Nat) : Int)) = true := by simp; omega
    replace hne := Aside0.mk hne
    clear hnn
    go_enter Tryd.func41, Tryd.ntmps41
    go_wp2_with fail
    go_ret
    exact ⟨by rw [decide_eq_false hne.out]; rfl, 0, rfl⟩
end Go.Proofs.YtiibfboendnifaaDoor.Sl
