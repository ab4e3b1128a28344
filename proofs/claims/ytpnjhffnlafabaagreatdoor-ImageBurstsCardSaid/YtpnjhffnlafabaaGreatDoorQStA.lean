/- slices.SortStableFunc at tasks: swapRange and rotate. -/
import Derived.Test.YtpnjhffnlafabaaGreatDoorQSy
import Derived.Test.YtpnjhffnlafabaaGreatDoorQShelf
import Derived.Test.YtpnjhffnlafabaaGreatDoorQW
import Derived.Shelf.SlSortCmp.KitK
namespace Go.Proofs.YtpnjhffnlafabaaGreatDoor.St
set_option linter.unusedVariables false
set_option linter.unusedSimpArgs false
open Go.Shelf Go.RowKit Go.Lib Go.Sort Go.Proofs.Sy Go.Proofs.YtpnjhffnlafabaaGreatDoorW.PrintWords
variable {α : Type} [Inhabited α]
def SwkPost (k : Nat) (enc : α → List Value) (w0 : World) (blk off : Nat) (d : Array α) (e : Ending) (w' : World) : Prop := e = .returned (.tuple #[]) ∧ SWK enc k w0 blk off d w'
set_option maxHeartbeats 4000000 in
set_option maxRecDepth 1000000 in
theorem swapRange_calls (enc : α → List Value) (w0 : World) (blk off cap : Nat) (d0 d : Array α) (k : Nat) (hk8 : k = 8) (R : RowK enc k w0 blk off d0) (hs : d.size = d0.size) (hsz : d.size < 4611686018427387904)
    (a b n : Nat) (hab : a + n ≤ b) (hb : b + n ≤ d.size) (fv : Value) (W : World) (hW : SWK enc k w0 blk off d W) :
    Calls Tryz.prog 138 #[.slice (some ⟨blk, off, none⟩) d.size cap, .int .i64 a, .int .i64 b, .int .i64 n, fv] W (SwkPost k enc w0 blk off (swapR a b n d)) := by
  have mixed := Tryz.isT.mixed
  have aE := Tryz.isAgg59
  have zE : ∀ w, (Go.sizeOf 59).run Tryz.prog w = .ok k w := by rw [hk8]; exact Tryz.sizeOf59
  have u22 := run_underlying (P := Tryz.prog) Tryz.underlying23
  obtain ⟨sz, hsz2⟩ : ∃ sz, d.size = sz := ⟨_, rfl⟩
  rw [hsz2] at hsz hb ⊢
  replace hsz2 := Aside0.mk hsz2
  have HW := Aside0.mk hW
  have HR := Aside0.mk R
  have HS := Aside0.mk hs
  replace hk8 := Aside0.mk hk8
  clear hW R hs
  go_enter Tryz.func138, Tryz.ntmps138
  go_wp2_with fail
  go_loopw [10] (fun t wr => ∃ (i : Nat), t = .int .i64 i ∧ i ≤ n ∧ Aside0 (SWK enc k w0 blk off (swapR a b i d) wr)) (fun t _ => n - (intOf t).toNat)
  case atStart => exact ⟨0, rfl, Nat.zero_le _, HW⟩
  case round =>
    obtain ⟨i, rfl, hi, hS⟩ := hrel
    by_cases hlt : i < n
    · have hlt' : (i : Int) < (n : Int) := by omega
      obtain ⟨dk, hdk⟩ : ∃ dk, swapR a b i d = dk := ⟨_, rfl⟩
      have hdz : dk.size = sz := by rw [← hdk, swapR_size, hsz2.out]
      have hdn : swapR a b (i + 1) d = swp dk (a + i) (b + i) := by rw [← hdk]; rfl
      rw [hdk] at hS
      obtain ⟨p, hp⟩ : ∃ p, a + i = p := ⟨_, rfl⟩
      obtain ⟨q, hq⟩ : ∃ q, b + i = q := ⟨_, rfl⟩
      rw [hp, hq] at hdn
      have hpi : (a : Int) + (i : Int) = (p : Int) := by omega
      have hqi : (b : Int) + (i : Int) = (q : Int) := by omega
      have hpw : IntKind.i64.wrap ((a : Int) + (i : Int)) = (p : Int) := by rw [IntKind.wrap_i64]; omega
      have hqw : IntKind.i64.wrap ((b : Int) + (i : Int)) = (q : Int) := by rw [IntKind.wrap_i64]; omega
      have p0 : (0 : Int) ≤ (p : Int) := by omega
      have p1 : (p : Int) < (sz : Int) := by omega
      have q0 : (0 : Int) ≤ (q : Int) := by omega
      have q1 : (q : Int) < (sz : Int) := by omega
      have hds : dk.size = d0.size := by rw [hdz, ← hsz2.out, HS.out]
      have lq := hS.out.ld1 HR.out hds Tryz.prog q (by omega)
      have lp := hS.out.ld1 HR.out hds Tryz.prog p (by omega)
      have s1 := hS.out.st1 HR.out hds Tryz.prog p (by omega) dk[q]!
      have s2 := hS.out.st2 HR.out hds Tryz.prog p q (by omega) (by omega) dk[q]! dk[p]!
      have hsw := hS.out.swapped HR.out p q (by omega) (by omega)
      obtain ⟨xp, hxp⟩ : ∃ x, enc dk[p]! = x := ⟨_, rfl⟩
      obtain ⟨xq, hxq⟩ : ∃ x, enc dk[q]! = x := ⟨_, rfl⟩
      have hlp : xp.length = k := by rw [← hxp]; exact HR.out.hk _
      have hlq : xq.length = k := by rw [← hxq]; exact HR.out.hk _
      rw [hxp] at lp s2 hsw
      rw [hxq] at lq s1 s2 hsw
      have hW1 : ∃ W1, (wr.drew.setCells blk (off + p * k) xq).setCells blk (off + q * k) xp = W1 := ⟨_, rfl⟩
      replace hp := Aside0.mk hp; replace hq := Aside0.mk hq; replace hdk := Aside0.mk hdk; replace hdz := Aside0.mk hdz; replace hdn := Aside0.mk hdn; replace hds := Aside0.mk hds; replace hsw := Aside0.mk hsw; replace hxp := Aside0.mk hxp; replace hxq := Aside0.mk hxq; replace hi := Aside0.mk hi
      clear hW1
      go_wp2_with fail
      go_big_region_o
      all_goals go_wp2
      go_roundw
      case measure => show n - ((i : Int) + 1).toNat < n - (i : Int).toNat; omega
      case rel => exact ⟨i + 1, by simp, by omega, ⟨by rw [hdn.out]; exact hsw.out⟩⟩
    · obtain rfl : i = n := by omega
      have hlt' : ¬ (i : Int) < (i : Int) := by omega
      go_wp2
      go_end0
      exact ⟨rfl, hS.out⟩
def RotPost (k : Nat) (enc : α → List Value) (w0 : World) (blk off a m b : Nat) (d : Array α) (e : Ending) (w' : World) : Prop :=
  ∃ d', e = .returned (.tuple #[]) ∧ SWK enc k w0 blk off d' w' ∧ (∀ x, d'[x]! = rotF a m b d x) ∧ PermIn a b d d'
set_option maxHeartbeats 4000000 in
set_option maxRecDepth 1000000 in
theorem rotate_calls (enc : α → List Value) (w0 : World) (blk off cap : Nat) (d0 d : Array α) (k : Nat) (hk8 : k = 8) (R : RowK enc k w0 blk off d0) (hs : d.size = d0.size) (hsz : d.size < 4611686018427387904)
    (a m b : Nat) (ham : a < m) (hmb : m < b) (hb : b ≤ d.size) (fv : Value) (W : World) (hW : SWK enc k w0 blk off d W) :
    Calls Tryz.prog 128 #[.slice (some ⟨blk, off, none⟩) d.size cap, .int .i64 a, .int .i64 m, .int .i64 b, fv] W (RotPost k enc w0 blk off a m b d) := by
  obtain ⟨sz, hsz2⟩ : ∃ sz, d.size = sz := ⟨_, rfl⟩
  rw [hsz2] at hsz hb ⊢
  have hsw : ∀ (dk : Array α) (x y n : Nat) (wr : World), dk.size = sz → x + n ≤ y → y + n ≤ sz → SWK enc k w0 blk off dk wr →
      Calls Tryz.prog 138 #[.slice (some ⟨blk, off, none⟩) sz cap, .int .i64 x, .int .i64 y, .int .i64 n, fv] wr (SwkPost k enc w0 blk off (swapR x y n dk)) := fun dk x y n wr h1 h2 h3 h4 => by
    have := swapRange_calls enc w0 blk off cap d0 dk k hk8 R (by rw [h1, ← hsz2, hs]) (by omega) x y n h2 (by omega) fv wr h4
    rw [h1] at this; exact this
  obtain ⟨i0, hi0⟩ : ∃ i0, m - a = i0 := ⟨_, rfl⟩
  obtain ⟨j0, hj0⟩ : ∃ j0, b - m = j0 := ⟨_, rfl⟩
  have h1 : (m : Int) - (a : Int) = (i0 : Int) := by omega
  have h2 : (b : Int) - (m : Int) = (j0 : Int) := by omega
  have hr0 : ∀ x, rotF (m - i0) m (m + j0) d x = rotF a m b d x := fun x => by rw [show m - i0 = a by omega, show m + j0 = b by omega]
  have HW := Aside0.mk hW
  clear hW R hs
  replace hsw := Aside0.mk hsw; replace hsz2 := Aside0.mk hsz2; replace hk8 := Aside0.mk hk8; replace hr0 := Aside0.mk hr0; replace hi0 := Aside0.mk hi0; replace hj0 := Aside0.mk hj0
  go_enter Tryz.func128, Tryz.ntmps128
  go_wp2_with fail
  go_loopw [10, 11] (fun t10 t11 wr => ∃ (i j : Nat) (dk : Array α), t10 = .int .i64 i ∧ t11 = .int .i64 j ∧ 0 < i ∧ 0 < j ∧ a + i ≤ m ∧ m + j ≤ b ∧ Aside0 (dk.size = sz) ∧ Aside0 (SWK enc k w0 blk off dk wr) ∧ Aside0 (PermIn a b d dk) ∧ Aside0 (∀ x, rotF (m - i) m (m + j) dk x = rotF a m b d x)) (fun t10 t11 _ => (intOf t10).toNat + (intOf t11).toNat)
  case atStart => exact ⟨i0, j0, d, rfl, rfl, by have := hi0.out; omega, by have := hj0.out; omega, by have := hi0.out; omega, by have := hj0.out; omega, hsz2, HW, ⟨permIn_refl d a b⟩, hr0⟩
  case round =>
    obtain ⟨i, j, dk, rfl, rfl, hi, hj, hai, hjb, hz, hS, hP, hF⟩ := hrel
    obtain ⟨p, hp⟩ : ∃ p, m - i = p := ⟨_, rfl⟩
    have hpi : (m : Int) - (i : Int) = (p : Int) := by omega
    replace hp := Aside0.mk hp
    rcases Nat.lt_trichotomy i j with hij | hij | hij
    · have t1 : ((i : Int) == (j : Int)) = false := by simp; omega
      have t2 : ¬ (j : Int) < (i : Int) := by omega
      obtain ⟨q, hq⟩ : ∃ q, m + j - i = q := ⟨_, rfl⟩
      have hqi : (m : Int) + (j : Int) - (i : Int) = (q : Int) := by omega
      obtain ⟨j2, hj2⟩ : ∃ j2, j - i = j2 := ⟨_, rfl⟩
      have hji : (j : Int) - (i : Int) = (j2 : Int) := by omega
      have hc := hsw.out dk p q i wr hz.out (by have := hp.out; omega) (by omega) hS.out
      have t3 : ¬ (i : Int) = (j : Int) := by omega
      have hf := rotF_less (d := dk) (m := m) (i := i) (j := j) (by omega) hi hij (by have := hz.out; omega)
      have hpm := swapR_perm a b p q i dk (by have := hp.out; omega) (by have := hp.out; omega) (by omega) (by have := hz.out; omega)
      replace hq := Aside0.mk hq; replace hj2 := Aside0.mk hj2; replace hc := Aside0.mk hc; replace hf := Aside0.mk hf; replace hpm := Aside0.mk hpm
      go_wp2_with fail
      with_reducible refine hc.out.mono ?_
      rintro e w2 ⟨rfl, hS2⟩
      replace hS2 := Aside0.mk hS2
      go_wp2_with fail
      go_roundw
      case measure => show (i : Int).toNat + (j2 : Int).toNat < (i : Int).toNat + (j : Int).toNat; have := hj2.out; omega
      case rel => exact ⟨i, j2, swapR p q i dk, rfl, rfl, hi, by have := hj2.out; omega, hai, by have := hj2.out; omega, ⟨by rw [swapR_size, hz.out]⟩, hS2, ⟨permIn_trans _ _ _ _ _ hP.out hpm.out⟩, ⟨fun x => by rw [← hF.out x, ← hf.out x, hj2.out, hp.out, hq.out]⟩⟩
    · subst hij
      have hc := hsw.out dk p m i wr hz.out (by have := hp.out; omega) (by omega) hS.out
      have hf := rotF_same (d := dk) (m := m) (i := i) (by omega) (by have := hz.out; omega)
      have hpm := swapR_perm a b p m i dk (by have := hp.out; omega) (by have := hp.out; omega) (by omega) (by have := hz.out; omega)
      replace hc := Aside0.mk hc; replace hf := Aside0.mk hf; replace hpm := Aside0.mk hpm
      go_wp2_with fail
      with_reducible refine hc.out.mono ?_
      rintro e w2 ⟨rfl, hS2⟩
      replace hS2 := Aside0.mk hS2
      go_wp2_with fail
      go_end0
      exact ⟨_, rfl, hS2.out, fun x => by rw [← hF.out x, ← hf.out x, hp.out], permIn_trans _ _ _ _ _ hP.out hpm.out⟩
    · have t1 : ((i : Int) == (j : Int)) = false := by simp; omega
      have t2 : (j : Int) < (i : Int) := by omega
      have t3 : ¬ (i : Int) = (j : Int) := by omega
      obtain ⟨i2, hi2⟩ : ∃ i2, i - j = i2 := ⟨_, rfl⟩
      have hji : (i : Int) - (j : Int) = (i2 : Int) := by omega
      have hc := hsw.out dk p m j wr hz.out (by have := hp.out; omega) (by omega) hS.out
      have hf := rotF_more (d := dk) (m := m) (i := i) (j := j) (by omega) hj hij (by have := hz.out; omega)
      have hpm := swapR_perm a b p m j dk (by have := hp.out; omega) (by have := hp.out; omega) (by omega) (by have := hz.out; omega)
      replace hi2 := Aside0.mk hi2; replace hc := Aside0.mk hc; replace hf := Aside0.mk hf; replace hpm := Aside0.mk hpm
      go_wp2_with fail
      with_reducible refine hc.out.mono ?_
      rintro e w2 ⟨rfl, hS2⟩
      replace hS2 := Aside0.mk hS2
      go_wp2_with fail
      go_roundw
      case measure => show (i2 : Int).toNat + (j : Int).toNat < (i : Int).toNat + (j : Int).toNat; have := hi2.out; omega
      case rel => exact ⟨i2, j, swapR p m j dk, rfl, rfl, by have := hi2.out; omega, hj, by have := hi2.out; omega, hjb, ⟨by rw [swapR_size, hz.out]⟩, hS2, ⟨permIn_trans _ _ _ _ _ hP.out hpm.out⟩, ⟨fun x => by rw [← hF.out x, ← hf.out x, hi2.out, hp.out]⟩⟩
end Go.Proofs.YtpnjhffnlafabaaGreatDoor.St
