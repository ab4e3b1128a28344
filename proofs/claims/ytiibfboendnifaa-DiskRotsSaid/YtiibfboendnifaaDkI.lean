/- What is done to a disk: the law's list of operations; few. -/
import Derived.Test.YtiibfboendnifaaDkH
namespace Go.Proofs.Ytiibfboendnifaa.Dk
set_option linter.unusedVariables false
set_option linter.unusedSimpArgs false
open Go.RowKit Go.Proofs.Bk Go.Proofs.Bm Go.Proofs.Op Go.Proofs.YtiibfboendnifaaW.PrintWords

structure OpM where
  k : Int
  i : Int
  n : Int
  b : List Int
  kp : List Bool
def OpM.f (o : OpM) : Int × Int × Int × List Int × List Bool := (o.k, o.i, o.n, o.b, o.kp)
def OpM.g (x : Int × Int × Int × List Int × List Bool) : OpM := ⟨x.1, x.2.1, x.2.2.1, x.2.2.2.1, x.2.2.2.2⟩
def kOp : Kd OpM := Kd.iso (Kd.pair (Kd.int .i64) (Kd.pair (Kd.int .i64) (Kd.pair (Kd.int .i64) (Kd.pair (Kd.slice 5 (Kd.int .u8)) (Kd.slice 4 Kd.bool))))) OpM.f
def okOp (o : OpM) : Prop := (Lit.int .i64 o.k).wf = true ∧ (Lit.int .i64 o.i).wf = true ∧ (Lit.int .i64 o.n).wf = true ∧ (∀ x ∈ o.b, (Lit.int .u8 x).wf = true) ∧ (∀ x ∈ o.kp, True)
theorem opens_Op : Opens Try.prog 35 kOp okOp :=
  Opens.struct OpM.f OpM.g (fun _ => rfl) Try.underlying35 (by kernel_rfl)
    (OpensF.cons rfl (by kernel_rfl) (Opens.int Try.underlying3) (OpensF.cons rfl (by kernel_rfl) (Opens.int Try.underlying3) (OpensF.cons rfl (by kernel_rfl) (Opens.int Try.underlying3)
      (OpensF.cons rfl (by kernel_rfl) (Opens.slice Try.underlying23 (by kernel_rfl) (Opens.int Try.underlying5)) (OpensF.one rfl (by kernel_rfl) (Opens.slice Try.underlying24 (by kernel_rfl) (Opens.bool Try.underlying4)))))))
theorem wf_u8 {x : Int} (h : (Lit.int .u8 x).wf = true) : 0 ≤ x ∧ x ≤ 255 := by
  simp [Lit.wf, IntKind.min, IntKind.max, IntKind.signed, IntKind.bits] at h
  omega

/-- an operation's cells -/
def OpAt (w : World) (o : OpM) (A1 : Option Addr) (c1 : Nat) (A2 : Option Addr) (c2 : Nat) : Prop := (Kd.int .u8).C w A1 o.b.length o.b ∧ Kd.bool.C w A2 o.kp.length o.kp
def opCells (o : OpM) (A1 : Option Addr) (c1 : Nat) (A2 : Option Addr) (c2 : Nat) : List Value := [.int .i64 o.k, .int .i64 o.i, .int .i64 o.n, .slice A1 o.b.length c1, .slice A2 o.kp.length c2]
theorem kOp_cells {w : World} {o : OpM} {cs : List Value} (h : kOp.K w o cs) : ∃ A1 c1 A2 c2, cs = opCells o A1 c1 A2 c2 ∧ OpAt w o A1 c1 A2 c2 := by
  obtain ⟨x0, y0, rfl, h0, x1, y1, rfl, h1, x2, y2, rfl, h2, x3, y3, rfl, h3, h4⟩ := h
  obtain rfl : x0 = [.int .i64 o.k] := h0
  obtain rfl : x1 = [.int .i64 o.i] := h1
  obtain rfl : x2 = [.int .i64 o.n] := h2
  obtain ⟨A1, c1, rfl, _, hb⟩ := h3
  obtain ⟨A2, c2, rfl, _, hk⟩ := h4
  exact ⟨A1, c1, A2, c2, rfl, hb, hk⟩
theorem ops_at {w : World} {A : Option Addr} {n : Nat} {l : List OpM} (h : kOp.C w A n l) {k : Nat} (hk : k < n) :
    ∃ ad o A1 c1 A2 c2, A = some ad ∧ l[k]? = some o ∧ OpAt w o A1 c1 A2 c2 ∧ (∀ i u, (opCells o A1 c1 A2 c2)[i]? = some u → w.cell? (ad.add (k * 5 + i)) = some u) := by
  have hl : l.length = n := h.1
  obtain ⟨ad, rfl, hc⟩ := h.2.2 (by omega)
  obtain ⟨cs, hc1, hc2, hc3⟩ := hc k (l[k]'(by omega)) (List.getElem?_eq_getElem _)
  obtain ⟨A1, c1, A2, c2, rfl, ho⟩ := kOp_cells hc2
  exact ⟨ad, _, A1, c1, A2, c2, rfl, List.getElem?_eq_getElem _, ho, hc3⟩
theorem add_field (ad : Addr) (m j : Nat) (hj : 0 < j) : (⟨(ad.add m).block, (ad.add m).off + j, none⟩ : Addr) = ad.add (m + j) := by
  unfold Addr.add
  rw [if_neg (show ¬ m + j = 0 by omega)]
  split
  · rename_i h; subst h; simp
  · simp [Nat.add_assoc]

def BoolPost (w : World) (e : Ending) (w' : World) : Prop := (∃ b, e = .returned (.bool b)) ∧ w = w'
set_option maxHeartbeats 1000000 in
theorem few_calls (A : Option Addr) (n c : Nat) (l : List OpM) (w : World) (h : kOp.C w A n l) : Calls Try.prog 8 #[.slice A n c] w (BoolPost w) := by
  have H := Aside0.mk h
  have hn := h.2.1
  clear h
  go_enter Try.func8, Try.ntmps8
  go_wp2
  go_loopw [3] (fun i wr => ∃ k : Nat, i = .int .i64 k ∧ k ≤ n ∧ w = wr) (fun i _ => n - (intOf i).toNat)
  case atStart => exact ⟨0, rfl, Nat.zero_le _, rfl⟩
  case round =>
    obtain ⟨k, rfl, hk, rfl⟩ := hrel
    by_cases hlt : k < n
    · have p1 : 0 ≤ (k : Int) := by omega
      have q1 : (k : Int) < (n : Int) := by omega
      obtain ⟨ad, o, A1, c1, A2, c2, rfl, ho, hat, hcs⟩ := ops_at H.out hlt
      have x3 : w.cell? ⟨(ad.add (k * 5)).block, (ad.add (k * 5)).off + 3, none⟩ = some (.slice A1 o.b.length c1) := by rw [add_field _ _ _ (by omega)]; exact hcs 3 _ rfl
      have x4 : w.cell? ⟨(ad.add (k * 5)).block, (ad.add (k * 5)).off + 4, none⟩ = some (.slice A2 o.kp.length c2) := by rw [add_field _ _ _ (by omega)]; exact hcs 4 _ rfl
      replace ho := Aside0.mk ho; replace hat := Aside0.mk hat; replace hcs := Aside0.mk hcs
      go_wp2
      all_goals first
        | (go_ret; exact ⟨⟨_, rfl⟩, rfl⟩)
        | (go_roundw; (case rel => exact ⟨k + 1, by simp, by omega, by first | trivial | rfl⟩); (case measure => show n - ((k : Int) + 1).toNat < n - (k : Int).toNat; omega))
    · go_wp2
      go_ret
      exact ⟨⟨_, rfl⟩, rfl⟩
end Go.Proofs.Ytiibfboendnifaa.Dk
