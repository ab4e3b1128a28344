/- slices.SortStableFunc at tasks: swapRange and rotate. slices.SortStableFunc at tasks: symMerge. -/
import Derived.Test.YtpnjhffnlafabaaGreatDoorVSy
import Derived.Test.YtpnjhffnlafabaaGreatDoorVShelf
import Derived.Test.YtpnjhffnlafabaaGreatDoorVW
import Derived.Shelf.SlSortCmp.KitK
namespace Go.Proofs.YtpnjhffnlafabaaGreatDoor.St
set_option linter.unusedVariables false
set_option linter.unusedSimpArgs false
open Go.Shelf Go.RowKit Go.Lib Go.Sort Go.Proofs.Sy Go.Proofs.YtpnjhffnlafabaaGreatDoorW.PrintWords
variable {α : Type} [Inhabited α]
def SwkPost (k : Nat) (enc : α → List Value) (w0 : World) (blk off : Nat) (d : Array α) (e : Ending) (w' : World) : Prop := e = .returned (.tuple #[]) ∧ SWK enc k w0 blk off d w'
set_option maxHeartbeats 4000000 in
set_option maxRecDepth 1000000 in
theorem swapRange_calls (enc : α → List Value) (w0 : World) (blk off cap : Nat) (d0 d : Array α) (k : Nat) (hk8 : k = 8) (R : RowK enc k w0 blk off d0) (hs : d.size = d0.size) (hsz : d.size < 4611686018427387904)
    (a b n : Nat) (hab : a + n ≤ b) (hb : b + n ≤ d.size) (fv : Value) (W : World) (hW : SWK enc k w0 blk off d W) :
    Calls Tryz.prog 138 #[.slice (some ⟨blk, off, none⟩) d.size cap, .int .i64 a, .int .i64 b, .int .i64 n, fv] W (SwkPost k enc w0 blk off (swapR a b n d)) := by
  have mixed := Tryz.isT.mixed
  have aE := Tryz.isAgg59
  have zE : ∀ w, (Go.sizeOf 59).run Tryz.prog w = .ok k w := by rw [hk8]; exact Tryz.sizeOf59
  have u22 := run_underlying (P := Tryz.prog) Tryz.underlying23
  obtain ⟨sz, hsz2⟩ : ∃ sz, d.size = sz := ⟨_, rfl⟩
  rw [hsz2] at hsz hb ⊢
  replace hsz2 := Aside0.mk hsz2
  have HW := Aside0.mk hW
  have HR := Aside0.mk R
  have HS := Aside0.mk hs
  replace hk8 := Aside0.mk hk8
  clear hW R hs
  go_enter Tryz.func138, Tryz.ntmps138
  go_wp2_with fail
  go_loopw [10] (fun t wr => ∃ (i : Nat), t = .int .i64 i ∧ i ≤ n ∧ Aside0 (SWK enc k w0 blk off (swapR a b i d) wr)) (fun t _ => n - (intOf t).toNat)
  case atStart => exact ⟨0, rfl, Nat.zero_le _, HW⟩
  case round =>
    obtain ⟨i, rfl, hi, hS⟩ := hrel
    by_cases hlt : i < n
    · have hlt' : (i : Int) < (n : Int) := by omega
      obtain ⟨dk, hdk⟩ : ∃ dk, swapR a b i d = dk := ⟨_, rfl⟩
      have hdz : dk.size = sz := by rw [← hdk, swapR_size, hsz2.out]
      have hdn : swapR a b (i + 1) d = swp dk (a + i) (b + i) := by rw [← hdk]; rfl
      rw [hdk] at hS
      obtain ⟨p, hp⟩ : ∃ p, a + i = p := ⟨_, rfl⟩
      obtain ⟨q, hq⟩ : ∃ q, b + i = q := ⟨_, rfl⟩
      rw [hp, hq] at hdn
      have hpi : (a : Int) + (i : Int) = (p : Int) := by omega
      have hqi : (b : Int) + (i : Int) = (q : Int) := by omega
      have hpw : IntKind.i64.wrap ((a : Int) + (i : Int)) = (p : Int) := by rw [IntKind.wrap_i64]; omega
      have hqw : IntKind.i64.wrap ((b : Int) + (i : Int)) = (q : Int) := by rw [IntKind.wrap_i64]; omega
      have p0 : (0 : Int) ≤ (p : Int) := by omega
      have p1 : (p : Int) < (sz : Int) := by omega
      have q0 : (0 : Int) ≤ (q : Int) := by omega
      have q1 : (q : Int) < (sz : Int) := by omega
      have hds : dk.size = d0.size := by rw [hdz, ← hsz2.out, HS.out]
      have lq := hS.out.ld1 HR.out hds Tryz.prog q (by omega)
      have lp := hS.out.ld1 HR.out hds Tryz.prog p (by omega)
      have s1 := hS.out.st1 HR.out hds Tryz.prog p (by omega) dk[q]!
      have s2 := hS.out.st2 HR.out hds Tryz.prog p q (by omega) (by omega) dk[q]! dk[p]!
      have hsw := hS.out.swapped HR.out p q (by omega) (by omega)
      obtain ⟨xp, hxp⟩ : ∃ x, enc dk[p]! = x := ⟨_, rfl⟩
      obtain ⟨xq, hxq⟩ : ∃ x, enc dk[q]! = x := ⟨_, rfl⟩
      have hlp : xp.length = k := by rw [← hxp]; exact HR.out.hk _
      have hlq : xq.length = k := by rw [← hxq]; exact HR.out.hk _
      rw [hxp] at lp s2 hsw
      rw [hxq] at lq s1 s2 hsw
      have hW1 : ∃ W1, (wr.drew.setCells blk (off + p * k) xq).setCells blk (off + q * k) xp = W1 := ⟨_, rfl⟩
      replace hp := Aside0.mk hp; replace hq := Aside0.mk hq; replace hdk := Aside0.mk hdk; replace hdz := Aside0.mk hdz; replace hdn := Aside0.mk hdn; replace hds := Aside0.mk hds; replace hsw := Aside0.mk hsw; replace hxp := Aside0.mk hxp; replace hxq := Aside0.mk hxq; replace hi := Aside0.mk hi
      clear hW1
      go_wp2_with fail
      go_big_region_o
      all_goals go_wp2
      go_roundw
      case measure => show n - ((i : Int) + 1).toNat < n - (i : Int).toNat; omega
      case rel => exact ⟨i + 1, by simp, by omega, ⟨by rw [hdn.out]; exact hsw.out⟩⟩
    · obtain rfl : i = n := by omega
      have hlt' : ¬ (i : Int) < (i : Int) := by omega
      go_wp2
      go_end0
      exact ⟨rfl, hS.out⟩
def RotPost (k : Nat) (enc : α → List Value) (w0 : World) (blk off a m b : Nat) (d : Array α) (e : Ending) (w' : World) : Prop :=
  ∃ d', e = .returned (.tuple #[]) ∧ SWK enc k w0 blk off d' w' ∧ (∀ x, d'[x]! = rotF a m b d x) ∧ PermIn a b d d'
set_option maxHeartbeats 4000000 in
set_option maxRecDepth 1000000 in
theorem rotate_calls (enc : α → List Value) (w0 : World) (blk off cap : Nat) (d0 d : Array α) (k : Nat) (hk8 : k = 8) (R : RowK enc k w0 blk off d0) (hs : d.size = d0.size) (hsz : d.size < 4611686018427387904)
    (a m b : Nat) (ham : a < m) (hmb : m < b) (hb : b ≤ d.size) (fv : Value) (W : World) (hW : SWK enc k w0 blk off d W) :
    Calls Tryz.prog 128 #[.slice (some ⟨blk, off, none⟩) d.size cap, .int .i64 a, .int .i64 m, .int .i64 b, fv] W (RotPost k enc w0 blk off a m b d) := by
  obtain ⟨sz, hsz2⟩ : ∃ sz, d.size = sz := ⟨_, rfl⟩
  rw [hsz2] at hsz hb ⊢
  have hsw : ∀ (dk : Array α) (x y n : Nat) (wr : World), dk.size = sz → x + n ≤ y → y + n ≤ sz → SWK enc k w0 blk off dk wr →
      Calls Tryz.prog 138 #[.slice (some ⟨blk, off, none⟩) sz cap, .int .i64 x, .int .i64 y, .int .i64 n, fv] wr (SwkPost k enc w0 blk off (swapR x y n dk)) := fun dk x y n wr h1 h2 h3 h4 => by
    have := swapRange_calls enc w0 blk off cap d0 dk k hk8 R (by rw [h1, ← hsz2, hs]) (by omega) x y n h2 (by omega) fv wr h4
    rw [h1] at this; exact this
  obtain ⟨i0, hi0⟩ : ∃ i0, m - a = i0 := ⟨_, rfl⟩
  obtain ⟨j0, hj0⟩ : ∃ j0, b - m = j0 := ⟨_, rfl⟩
  have h1 : (m : Int) - (a : Int) = (i0 : Int) := by omega
  have h2 : (b : Int) - (m : Int) = (j0 : Int) := by omega
  have hr0 : ∀ x, rotF (m - i0) m (m + j0) d x = rotF a m b d x := fun x => by rw [show m - i0 = a by omega, show m + j0 = b by omega]
  have HW := Aside0.mk hW
  clear hW R hs
  replace hsw := Aside0.mk hsw; replace hsz2 := Aside0.mk hsz2; replace hk8 := Aside0.mk hk8; replace hr0 := Aside0.mk hr0; replace hi0 := Aside0.mk hi0; replace hj0 := Aside0.mk hj0
  go_enter Tryz.func128, Tryz.ntmps128
  go_wp2_with fail
  go_loopw [10, 11] (fun t10 t11 wr => ∃ (i j : Nat) (dk : Array α), t10 = .int .i64 i ∧ t11 = .int .i64 j ∧ 0 < i ∧ 0 < j ∧ a + i ≤ m ∧ m + j ≤ b ∧ Aside0 (dk.size = sz) ∧ Aside0 (SWK enc k w0 blk off dk wr) ∧ Aside0 (PermIn a b d dk) ∧ Aside0 (∀ x, rotF (m - i) m (m + j) dk x = rotF a m b d x)) (fun t10 t11 _ => (intOf t10).toNat + (intOf t11).toNat)
  case atStart => exact ⟨i0, j0, d, rfl, rfl, by have := hi0.out; omega, by have := hj0.out; omega, by have := hi0.out; omega, by have := hj0.out; omega, hsz2, HW, ⟨permIn_refl d a b⟩, hr0⟩
  case round =>
    obtain ⟨i, j, dk, rfl, rfl, hi, hj, hai, hjb, hz, hS, hP, hF⟩ := hrel
    obtain ⟨p, hp⟩ : ∃ p, m - i = p := ⟨_, rfl⟩
    have hpi : (m : Int) - (i : Int) = (p : Int) := by omega
    replace hp := Aside0.mk hp
    rcases Nat.lt_trichotomy i j with hij | hij | hij
    · have t1 : ((i : Int) == (j : Int)) = false := by simp; omega
      have t2 : ¬ (j : Int) < (i : Int) := by omega
      obtain ⟨q, hq⟩ : ∃ q, m + j - i = q := ⟨_, rfl⟩
      have hqi : (m : Int) + (j : Int) - (i : Int) = (q : Int) := by omega
      obtain ⟨j2, hj2⟩ : ∃ j2, j - i = j2 := ⟨_, rfl⟩
      have hji : (j : Int) - (i : Int) = (j2 : Int) := by omega
      have hc := hsw.out dk p q i wr hz.out (by have := hp.out; omega) (by omega) hS.out
      have t3 : ¬ (i : Int) = (j : Int) := by omega
      have hf := rotF_less (d := dk) (m := m) (i := i) (j := j) (by omega) hi hij (by have := hz.out; omega)
      have hpm := swapR_perm a b p q i dk (by have := hp.out; omega) (by have := hp.out; omega) (by omega) (by have := hz.out; omega)
      replace hq := Aside0.mk hq; replace hj2 := Aside0.mk hj2; replace hc := Aside0.mk hc; replace hf := Aside0.mk hf; replace hpm := Aside0.mk hpm
      go_wp2_with fail
      with_reducible refine hc.out.mono ?_
      rintro e w2 ⟨rfl, hS2⟩
      replace hS2 := Aside0.mk hS2
      go_wp2_with fail
      go_roundw
      case measure => show (i : Int).toNat + (j2 : Int).toNat < (i : Int).toNat + (j : Int).toNat; have := hj2.out; omega
      case rel => exact ⟨i, j2, swapR p q i dk, rfl, rfl, hi, by have := hj2.out; omega, hai, by have := hj2.out; omega, ⟨by rw [swapR_size, hz.out]⟩, hS2, ⟨permIn_trans _ _ _ _ _ hP.out hpm.out⟩, ⟨fun x => by rw [← hF.out x, ← hf.out x, hj2.out, hp.out, hq.out]⟩⟩
    · subst hij
      have hc := hsw.out dk p m i wr hz.out (by have := hp.out; omega) (by omega) hS.out
      have hf := rotF_same (d := dk) (m := m) (i := i) (by omega) (by have := hz.out; omega)
      have hpm := swapR_perm a b p m i dk (by have := hp.out; omega) (by have := hp.out; omega) (by omega) (by have := hz.out; omega)
      replace hc := Aside0.mk hc; replace hf := Aside0.mk hf; replace hpm := Aside0.mk hpm
      go_wp2_with fail
      with_reducible refine hc.out.mono ?_
      rintro e w2 ⟨rfl, hS2⟩
      replace hS2 := Aside0.mk hS2
      go_wp2_with fail
      go_end0
      exact ⟨_, rfl, hS2.out, fun x => by rw [← hF.out x, ← hf.out x, hp.out], permIn_trans _ _ _ _ _ hP.out hpm.out⟩
    · have t1 : ((i : Int) == (j : Int)) = false := by simp; omega
      have t2 : (j : Int) < (i : Int) := by omega
      have t3 : ¬ (i : Int) = (j : Int) := by omega
      obtain ⟨i2, hi2⟩ : ∃ i2, i - j = i2 := ⟨_, rfl⟩
      have hji : (i : Int) - (j : Int) = (i2 : Int) := by omega
      have hc := hsw.out dk p m j wr hz.out (by have := hp.out; omega) (by omega) hS.out
      have hf := rotF_more (d := dk) (m := m) (i := i) (j := j) (by omega) hj hij (by have := hz.out; omega)
      have hpm := swapR_perm a b p m j dk (by have := hp.out; omega) (by have := hp.out; omega) (by omega) (by have := hz.out; omega)
      replace hi2 := Aside0.mk hi2; replace hc := Aside0.mk hc; replace hf := Aside0.mk hf; replace hpm := Aside0.mk hpm
      go_wp2_with fail
      with_reducible refine hc.out.mono ?_
      rintro e w2 ⟨rfl, hS2⟩
      replace hS2 := Aside0.mk hS2
      go_wp2_with fail
      go_roundw
      case measure => show (i2 : Int).toNat + (j : Int).toNat < (i : Int).toNat + (j : Int).toNat; have := hi2.out; omega
      case rel => exact ⟨i2, j, swapR p m j dk, rfl, rfl, by have := hi2.out; omega, hj, by have := hi2.out; omega, hjb, ⟨by rw [swapR_size, hz.out]⟩, hS2, ⟨permIn_trans _ _ _ _ _ hP.out hpm.out⟩, ⟨fun x => by rw [← hF.out x, ← hf.out x, hi2.out, hp.out]⟩⟩
end Go.Proofs.YtpnjhffnlafabaaGreatDoor.St
namespace Go.Proofs.YtpnjhffnlafabaaGreatDoor.St
set_option linter.unusedVariables false
set_option linter.unusedSimpArgs false
open Go.Shelf Go.RowKit Go.Lib Go.Sort Go.Proofs.Sy Go.Proofs.YtpnjhffnlafabaaGreatDoorW.PrintWords
variable {α : Type} [Inhabited α]
def SymPost (k : Nat) (enc : α → List Value) (L : α → α → Bool) (w0 : World) (blk off a b : Nat) (d : Array α) (e : Ending) (w' : World) : Prop :=
  ∃ d', e = .returned (.tuple #[]) ∧ SWK enc k w0 blk off d' w' ∧ PermIn a b d d' ∧ SortedIn L a b d'
theorem sym_final {L : α → α → Bool} {a mid b : Nat} {d d1 d2 d3 : Array α} (hb : b ≤ d.size) (ham : a ≤ mid) (hmb : mid ≤ b) (p1 : PermIn a b d d1) (ap : ∀ i j, a ≤ i → i < mid → mid ≤ j → j < b → L d1[j]! d1[i]! = false)
    (p2 : PermIn a mid d1 d2) (s2 : SortedIn L a mid d2) (p3 : PermIn mid b d2 d3) (s3 : SortedIn L mid b d3) : PermIn a b d d3 ∧ SortedIn L a b d3 := by
  have z1 : d1.size = d.size := p1.1
  have z2 : d2.size = d1.size := p2.1
  have q2 := permIn_mono d1 d2 a mid a b (Nat.le_refl _) hmb (by omega) p2
  have q3 := permIn_mono d2 d3 mid b a b ham (Nat.le_refl _) (by omega) p3
  refine ⟨permIn_trans _ _ _ _ _ p1 (permIn_trans _ _ _ _ _ q2 q3), ?_⟩
  exact sorted_join (Go.Proofs.Sy.SortedIn.outside s2 p3 (.inl (Nat.le_refl _))) s3 (apart_perm (d := d1) (by omega) ham hmb ap p2 p3)
set_option maxHeartbeats 8000000 in
set_option maxRecDepth 1000000 in
theorem symMerge_calls (enc : α → List Value) (w0 : World) (blk off cap sz : Nat) (d0 : Array α) (k : Nat) (hk8 : k = 8) (R : RowK enc k w0 blk off d0) (hz0 : d0.size = sz) (hsz : sz < 4611686018427387904)
    (cf : α → α → Int) (g : Nat) (cb : Array Value) (hcmp : CmpLays Tryz.prog g cb enc k cf blk off sz w0) (eg : ∀ args w, (callFunc g args).run Tryz.prog w = .ok (.enter g args) w) (L : α → α → Bool) (hL : SWO L) :
    ∀ (N a m b : Nat) (d : Array α) (W : World), b - a ≤ N → a < m → m < b → b ≤ sz → d.size = sz → SWK enc k w0 blk off d W → SortedIn L a m d → SortedIn L m b d → Cross (ltOf cf) L a m b d →
    Calls Tryz.prog 120 #[.slice (some ⟨blk, off, none⟩) sz cap, .int .i64 a, .int .i64 m, .int .i64 b, .func (.func g) #[] cb] W (SymPost k enc L w0 blk off a b d) := by
  intro N
  induction N with
  | zero => intro a m b d W h1 h2 h3; omega
  | succ N ih =>
    intro a m b d W hN ham hmb hb hz hW hs1 hs2 hx
    have mixed := Tryz.isT.mixed
    have aE := Tryz.isAgg59
    have zE : ∀ w, (Go.sizeOf 59).run Tryz.prog w = .ok k w := by rw [hk8]; exact Tryz.sizeOf59
    have u22 := run_underlying (P := Tryz.prog) Tryz.underlying23
    have HIH := Aside0.mk ih
    have HW := Aside0.mk hW
    have HR := Aside0.mk R
    have HC := Aside0.mk hcmp
    clear ih hW R hcmp
    have hds : Aside0 (d.size = d0.size) := ⟨by rw [hz, hz0]⟩
    have hmb' : (m : Int) < (b : Int) := by omega
    replace hk8 := Aside0.mk hk8; replace hz0 := Aside0.mk hz0; replace hz := Aside0.mk hz; replace hL := Aside0.mk hL; replace hs1 := Aside0.mk hs1; replace hs2 := Aside0.mk hs2; replace hx := Aside0.mk hx
    -- the test of two places
    have hld : Aside0 (∀ (wr : World), SWK enc k w0 blk off d wr → ∀ i, i < sz → ∀ n os, Sem.run Tryz.prog (loadCellsFrom ⟨blk, off + i * k, none⟩ 0 k #[]) (grow (wr.drewN n) os) = .ok (enc d[i]!).toArray (grow (wr.drewN n) os)) :=
      ⟨fun wr h i hi n os => h.ld HR.out hds.out Tryz.prog i (by rw [hz.out]; exact hi) n os⟩
    have hcl : Aside0 (∀ (wr : World), SWK enc k w0 blk off d wr → ∀ x y : α, ∀ n os, Calls Tryz.prog g (#[.agg (enc x).toArray, .agg (enc y).toArray] ++ cb) (grow (wr.drewN n) os) fun e w' => e = .returned (.int .i64 (cf x y)) ∧ ∃ q os', w' = grow ((grow (wr.drewN n) os).drewN q) os') :=
      ⟨fun wr h x y n os => h.cmp HC.out hz.out x y n os⟩
    by_cases h1 : m = a + 1
    · have hma : (m : Int) - (a : Int) = 1 := by omega
      replace hs2 : Aside0 (SortedIn L (a + 1) b d) := ⟨by rw [← h1]; exact hs2.out⟩
      replace hx : Aside0 (Cross (ltOf cf) L a (a + 1) b d) := ⟨by rw [← h1]; exact hx.out⟩
      replace h1 := Aside0.mk h1
      go_enter Tryz.func120, Tryz.ntmps120
      go_wp2_with fail
      have hmono := sym_left_mono hL.out hs2.out hx.out
      replace hmono := Aside0.mk hmono
      go_loopw [10, 11] (fun t10 t11 wr => ∃ (i j : Nat), t10 = .int .i64 i ∧ t11 = .int .i64 j ∧ Aside0 (Bs (fun h => ltOf cf d[h]! d[a]!) (a + 1) b i j) ∧ Aside0 (SWK enc k w0 blk off d wr)) (fun t10 t11 _ => (intOf t11).toNat - (intOf t10).toNat)
      case atStart => exact ⟨m, b, rfl, rfl, ⟨by rw [h1.out]; exact Bs.start _ (by have := h1.out; omega)⟩, HW⟩
      case round =>
        obtain ⟨i, j, rfl, rfl, hB, hS⟩ := hrel
        have hle := hB.out.le
        by_cases hij : i < j
        · have hij' : (i : Int) < (j : Int) := by omega
          obtain ⟨h, hh⟩ : ∃ h, (i + j) / 2 = h := ⟨_, rfl⟩
          have hhi : ((i : Int) + (j : Int)) / 2 = (h : Int) := by omega
          have h0 : (0 : Int) ≤ (h : Int) := by omega
          have hz1 : (h : Int) < (sz : Int) := by omega
          have a0 : (0 : Int) ≤ (a : Int) := by omega
          have a1 : (a : Int) < (sz : Int) := by omega
          obtain ⟨xh, hxh⟩ : ∃ x, d[h]! = x := ⟨_, rfl⟩
          obtain ⟨xa, hxa⟩ : ∃ x, d[a]! = x := ⟨_, rfl⟩
          have lh := hld.out wr hS.out h (by omega); have la := hld.out wr hS.out a (by omega); rw [hxh] at lh; rw [hxa] at la; have hcg := hcl.out wr hS.out xh xa
          replace hh := Aside0.mk hh; replace hxh := Aside0.mk hxh; replace hxa := Aside0.mk hxa; replace hij := Aside0.mk hij; replace hle := Aside0.mk hle
          by_cases hlv : cf xh xa < 0
          · have hp : (fun h => ltOf cf d[h]! d[a]!) h = true := by show ltOf cf d[h]! d[a]! = true; rw [hxh.out, hxa.out]; exact decide_eq_true hlv
            have hB2 := hB.out.right hmono.out (h := h) (by have := hh.out; have := hij.out; omega) (by have := hh.out; have := hij.out; omega) hp
            replace hB2 := Aside0.mk hB2
            clear hp
            go_wp2_with fail
            go_quiet_grown (first | (go_at_fn g; refine Calls.grown_of (hcg _ _)))
            clear lh la hcg
            have hS2 := hS.out.grown nq osq
            generalize grow (wr.drewN nq) osq = wq at hS2 ⊢
            replace hS2 := Aside0.mk hS2
            go_wp2
            go_roundw
            case measure => show (j : Int).toNat - ((h : Int) + 1).toNat < (j : Int).toNat - (i : Int).toNat; have := hh.out; have := hij.out; omega
            case rel => exact ⟨h + 1, j, by simp, rfl, hB2, hS2⟩
          · have hp : (fun h => ltOf cf d[h]! d[a]!) h = false := by show ltOf cf d[h]! d[a]! = false; rw [hxh.out, hxa.out]; exact decide_eq_false hlv
            have hB2 := hB.out.left hmono.out (h := h) (by have := hh.out; have := hij.out; omega) (by have := hh.out; have := hij.out; omega) hp
            replace hB2 := Aside0.mk hB2
            clear hp
            go_wp2_with fail
            go_quiet_grown (first | (go_at_fn g; refine Calls.grown_of (hcg _ _)))
            clear lh la hcg
            have hS2 := hS.out.grown nq osq
            generalize grow (wr.drewN nq) osq = wq at hS2 ⊢
            replace hS2 := Aside0.mk hS2
            go_wp2
            go_roundw
            case measure => show (h : Int).toNat - (i : Int).toNat < (j : Int).toNat - (i : Int).toNat; have := hh.out; have := hij.out; omega
            case rel => exact ⟨i, h, rfl, rfl, hB2, hS2⟩
        · obtain rfl : i = j := by omega
          have hij' : ¬ (i : Int) < (i : Int) := by omega
          -- data[a] goes up to i - 1
          obtain ⟨n, hn⟩ : ∃ n, i - 1 - a = n := ⟨_, rfl⟩
          have hfin := sym_left hL.out (by have := hz.out; omega) (by omega) hs2.out hx.out hB.out
          rw [hn] at hfin
          have hpf := up_perm a b a n d (Nat.le_refl _) (by omega) (by have := hz.out; omega)
          have hi1 : (i : Int) - 1 = ((a + n : Nat) : Int) := by omega
          obtain ⟨e, he⟩ : ∃ e, a + n = e := ⟨_, rfl⟩
          rw [he] at hi1
          replace hfin := Aside0.mk hfin; replace hpf := Aside0.mk hpf; replace hn := Aside0.mk hn; replace he := Aside0.mk he
          go_wp2_with fail
          go_loopw [13] (fun t13 wr => ∃ (q p : Nat), t13 = .int .i64 p ∧ p = a + q ∧ q ≤ n ∧ Aside0 (SWK enc k w0 blk off (up a q d) wr)) (fun t13 _ => e - (intOf t13).toNat)
          case atStart => exact ⟨0, a, rfl, rfl, Nat.zero_le _, hS⟩
          case round =>
            obtain ⟨q, p, rfl, hpq, hq, hS⟩ := hrel
            replace hpq := Aside0.mk hpq
            by_cases hlt : q < n
            · have hlt' : (p : Int) < (e : Int) := by have := hpq.out; have := he.out; omega
              obtain ⟨dk, hdk⟩ : ∃ dk, up a q d = dk := ⟨_, rfl⟩
              have hdz : Aside0 (dk.size = sz) := ⟨by rw [← hdk, up_size, hz.out]⟩
              have hdsk : Aside0 (dk.size = d0.size) := ⟨by rw [hdz.out, hz0.out]⟩
              have hdn : up a (q + 1) d = swp dk p (p + 1) := by rw [← hdk, hpq.out]; rfl
              rw [hdk] at hS
              have hpi : (p : Int) + 1 = ((p + 1 : Nat) : Int) := by omega
              have p0 : (0 : Int) ≤ (p : Int) := by omega
              have p1 : (p : Int) < (sz : Int) := by have := hpq.out; have := he.out; have := hn.out; omega
              have q0 : (0 : Int) ≤ (p : Int) + 1 := by omega
              have q1 : (p : Int) + 1 < (sz : Int) := by have := hpq.out; have := he.out; have := hn.out; omega
              have qn : ((p : Int) + 1).toNat = p + 1 := by omega
              have hpw : IntKind.i64.wrap ((p : Int) + 1) = (p : Int) + 1 := by rw [IntKind.wrap_i64]; omega
              clear hpi
              have lq := hS.out.ld1 HR.out hdsk.out Tryz.prog (p + 1) (by have := hdz.out; omega); have lp := hS.out.ld1 HR.out hdsk.out Tryz.prog p (by have := hdz.out; omega); have s1 := hS.out.st1 HR.out hdsk.out Tryz.prog p (by have := hdz.out; omega) dk[(p + 1)]!; have s2 := hS.out.st2 HR.out hdsk.out Tryz.prog p (p + 1) (by have := hdz.out; omega) (by have := hdz.out; omega) dk[(p + 1)]! dk[p]!; have hsw := hS.out.swapped HR.out p (p + 1) (by have := hdz.out; omega) (by have := hdz.out; omega); obtain ⟨xp, hxp⟩ : ∃ x, enc dk[p]! = x := ⟨_, rfl⟩; obtain ⟨xq, hxq⟩ : ∃ x, enc dk[(p + 1)]! = x := ⟨_, rfl⟩; have hlp : xp.length = k := (by rw [← hxp]; exact HR.out.hk _); have hlq : xq.length = k := (by rw [← hxq]; exact HR.out.hk _); rw [hxp] at lp s2 hsw; rw [hxq] at lq s1 s2 hsw; replace hsw := Aside0.mk hsw; replace hxp := Aside0.mk hxp; replace hxq := Aside0.mk hxq
              replace hdn := Aside0.mk hdn; replace hdk := Aside0.mk hdk
              go_wp2_with fail
              go_big_region_o
              all_goals go_wp2
              go_roundw
              case measure => show e - ((p : Int) + 1).toNat < e - (p : Int).toNat; have := hpq.out; have := he.out; omega
              case rel => exact ⟨q + 1, p + 1, by simp, by have := hpq.out; omega, by omega, ⟨by rw [hdn.out]; exact hsw.out⟩⟩
            · obtain rfl : q = n := by omega
              have hlt' : ¬ (p : Int) < (e : Int) := by have := hpq.out; have := he.out; omega
              go_wp2
              first | go_end0 | go_ret
              exact ⟨_, rfl, hS.out, hpf.out, hfin.out⟩
    · by_cases h2 : b = m + 1
      · have hma : ¬ (m : Int) - (a : Int) = 1 := by omega
        have hma' : (((m : Int) - (a : Int)) == 1) = false := by simpa using hma
        have hbm : (b : Int) - (m : Int) = 1 := by omega
        replace hx : Aside0 (Cross (ltOf cf) L a m (m + 1) d) := ⟨by rw [← h2]; exact hx.out⟩
        have m0 : (0 : Int) ≤ (m : Int) := by omega
        have m1 : (m : Int) < (sz : Int) := by omega
        replace h2 := Aside0.mk h2
        go_enter Tryz.func120, Tryz.ntmps120
        go_wp2_with fail
        have hmono := sym_right_mono hL.out hs1.out hx.out
        replace hmono := Aside0.mk hmono
        go_loopw [14, 15] (fun t14 t15 wr => ∃ (i j : Nat), t14 = .int .i64 i ∧ t15 = .int .i64 j ∧ Aside0 (Bs (fun h => !ltOf cf d[m]! d[h]!) a m i j) ∧ Aside0 (SWK enc k w0 blk off d wr)) (fun t14 t15 _ => (intOf t15).toNat - (intOf t14).toNat)
        case atStart => exact ⟨a, m, rfl, rfl, ⟨Bs.start _ (by omega)⟩, HW⟩
        case round =>
          obtain ⟨i, j, rfl, rfl, hB, hS⟩ := hrel
          have hle := hB.out.le
          by_cases hij : i < j
          · have hij' : (i : Int) < (j : Int) := by omega
            obtain ⟨h, hh⟩ : ∃ h, (i + j) / 2 = h := ⟨_, rfl⟩
            have hhi : ((i : Int) + (j : Int)) / 2 = (h : Int) := by omega
            have h0 : (0 : Int) ≤ (h : Int) := by omega
            have hz1 : (h : Int) < (sz : Int) := by omega
            obtain ⟨xh, hxh⟩ : ∃ x, d[h]! = x := ⟨_, rfl⟩
            obtain ⟨xm, hxm⟩ : ∃ x, d[m]! = x := ⟨_, rfl⟩
            have lh := hld.out wr hS.out m (by omega); have la := hld.out wr hS.out h (by omega); rw [hxm] at lh; rw [hxh] at la; have hcg := hcl.out wr hS.out xm xh
            replace hh := Aside0.mk hh; replace hxh := Aside0.mk hxh; replace hxm := Aside0.mk hxm; replace hij := Aside0.mk hij; replace hle := Aside0.mk hle
            by_cases hlv : cf xm xh < 0
            · have hd : decide (cf xm xh < 0) = true := decide_eq_true hlv
              have hp : (fun h => !ltOf cf d[m]! d[h]!) h = false := by show (!ltOf cf d[m]! d[h]!) = false; rw [hxh.out, hxm.out]; unfold ltOf; simp [hlv]
              have hB2 := hB.out.left hmono.out (h := h) (by have := hh.out; have := hij.out; omega) (by have := hh.out; have := hij.out; omega) hp
              replace hB2 := Aside0.mk hB2
              clear hp
              go_wp2_with fail
              go_quiet_grown (first | (go_at_fn g; refine Calls.grown_of (hcg _ _)))
              clear lh la hcg
              have hS2 := hS.out.grown nq osq
              generalize grow (wr.drewN nq) osq = wq at hS2 ⊢
              replace hS2 := Aside0.mk hS2
              go_wp2
              go_roundw
              case measure => show (h : Int).toNat - (i : Int).toNat < (j : Int).toNat - (i : Int).toNat; have := hh.out; have := hij.out; omega
              case rel => exact ⟨i, h, rfl, rfl, hB2, hS2⟩
            · have hd : decide (cf xm xh < 0) = false := decide_eq_false hlv
              have hp : (fun h => !ltOf cf d[m]! d[h]!) h = true := by show (!ltOf cf d[m]! d[h]!) = true; rw [hxh.out, hxm.out]; unfold ltOf; simp [hlv]
              have hB2 := hB.out.right hmono.out (h := h) (by have := hh.out; have := hij.out; omega) (by have := hh.out; have := hij.out; omega) hp
              replace hB2 := Aside0.mk hB2
              clear hp
              go_wp2_with fail
              go_quiet_grown (first | (go_at_fn g; refine Calls.grown_of (hcg _ _)))
              clear lh la hcg
              have hS2 := hS.out.grown nq osq
              generalize grow (wr.drewN nq) osq = wq at hS2 ⊢
              replace hS2 := Aside0.mk hS2
              go_wp2
              go_roundw
              case measure => show (j : Int).toNat - ((h : Int) + 1).toNat < (j : Int).toNat - (i : Int).toNat; have := hh.out; have := hij.out; omega
              case rel => exact ⟨h + 1, j, by simp, rfl, hB2, hS2⟩
          · obtain rfl : i = j := by omega
            have hij' : ¬ (i : Int) < (i : Int) := by omega
            obtain ⟨n, hn⟩ : ∃ n, m - i = n := ⟨_, rfl⟩
            have hfin := sym_right hL.out (by have := hz.out; omega) (by omega) hs1.out hx.out hB.out
            rw [hn] at hfin
            rw [← h2.out] at hfin
            have hpf := dn_perm a b m n d (by omega) (by omega) hmb (by have := hz.out; omega)
            replace hfin := Aside0.mk hfin; replace hpf := Aside0.mk hpf; replace hn := Aside0.mk hn
            go_wp2_with fail
            go_loopw [17] (fun t17 wr => ∃ (q p : Nat), t17 = .int .i64 p ∧ p + q = m ∧ q ≤ n ∧ Aside0 (SWK enc k w0 blk off (dn m q d) wr)) (fun t17 _ => (intOf t17).toNat)
            case atStart => exact ⟨0, m, rfl, rfl, Nat.zero_le _, hS⟩
            case round =>
              obtain ⟨q, p, rfl, hpq, hq, hS⟩ := hrel
              replace hpq := Aside0.mk hpq
              by_cases hlt : q < n
              · have hlt' : (i : Int) < (p : Int) := by have := hpq.out; have := hn.out; omega
                obtain ⟨r, hr⟩ : ∃ r, p = r + 1 := ⟨p - 1, by omega⟩
                obtain ⟨dk, hdk⟩ : ∃ dk, dn m q d = dk := ⟨_, rfl⟩
                have hdz : Aside0 (dk.size = sz) := ⟨by rw [← hdk, dn_size, hz.out]⟩
                have hdsk : Aside0 (dk.size = d0.size) := ⟨by rw [hdz.out, hz0.out]⟩
                have hdn : dn m (q + 1) d = swp dk p r := by
                  rw [← hdk]; show swp _ (m - q) (m - q - 1) = _
                  rw [show m - q = p by have := hpq.out; omega, show p - 1 = r by omega]
                rw [hdk] at hS
                have hpr : (p : Int) - 1 = (r : Int) := by omega
                have hpw : IntKind.i64.wrap ((p : Int) - 1) = (r : Int) := by rw [IntKind.wrap_i64]; have := hpq.out; omega
                have p0 : (0 : Int) ≤ (p : Int) := by omega
                have p1 : (p : Int) < (sz : Int) := by have := hpq.out; omega
                have q0 : (0 : Int) ≤ (r : Int) := by omega
                have q1 : (r : Int) < (sz : Int) := by omega
                replace hr := Aside0.mk hr
                have hpz : p < sz := by omega
                have hrz : r < sz := by omega
                have lq := hS.out.ld1 HR.out hdsk.out Tryz.prog r (by have := hdz.out; omega); have lp := hS.out.ld1 HR.out hdsk.out Tryz.prog p (by have := hdz.out; omega); have s1 := hS.out.st1 HR.out hdsk.out Tryz.prog p (by have := hdz.out; omega) dk[r]!; have s2 := hS.out.st2 HR.out hdsk.out Tryz.prog p r (by have := hdz.out; omega) (by have := hdz.out; omega) dk[r]! dk[p]!; have hsw := hS.out.swapped HR.out p r (by have := hdz.out; omega) (by have := hdz.out; omega); obtain ⟨xp, hxp⟩ : ∃ x, enc dk[p]! = x := ⟨_, rfl⟩; obtain ⟨xq, hxq⟩ : ∃ x, enc dk[r]! = x := ⟨_, rfl⟩; have hlp : xp.length = k := (by rw [← hxp]; exact HR.out.hk _); have hlq : xq.length = k := (by rw [← hxq]; exact HR.out.hk _); rw [hxp] at lp s2 hsw; rw [hxq] at lq s1 s2 hsw; replace hsw := Aside0.mk hsw; replace hxp := Aside0.mk hxp; replace hxq := Aside0.mk hxq
                replace hdn := Aside0.mk hdn; replace hdk := Aside0.mk hdk; replace hpz := Aside0.mk hpz; replace hrz := Aside0.mk hrz
                go_wp2_with fail
                go_big_region_o
                all_goals go_wp2
                go_roundw
                case measure => show (r : Int).toNat < (p : Int).toNat; have := hr.out; omega
                case rel => exact ⟨q + 1, r, rfl, by have := hpq.out; have := hr.out; omega, by omega, ⟨by rw [hdn.out]; exact hsw.out⟩⟩
              · obtain rfl : q = n := by omega
                have hlt' : ¬ (i : Int) < (p : Int) := by have := hpq.out; have := hn.out; omega
                go_wp2
                first | go_end0 | go_ret
                exact ⟨_, rfl, hS.out, hpf.out, hfin.out⟩
      · have hma : ¬ (m : Int) - (a : Int) = 1 := by omega
        have hma' : (((m : Int) - (a : Int)) == 1) = false := by simpa using hma
        have hbm : ¬ (b : Int) - (m : Int) = 1 := by omega
        have hbm' : (((b : Int) - (m : Int)) == 1) = false := by simpa using hbm
        obtain ⟨mid, hmid⟩ : ∃ mid, (a + b) / 2 = mid := ⟨_, rfl⟩
        have hmi : ((a : Int) + (b : Int)) / 2 = (mid : Int) := by omega
        obtain ⟨n, hn⟩ : ∃ n, mid + m = n := ⟨_, rfl⟩
        have hni : (mid : Int) + (m : Int) = (n : Int) := by omega
        obtain ⟨p, hp⟩ : ∃ p, n - 1 = p := ⟨_, rfl⟩
        have hpi : (n : Int) - 1 = (p : Int) := by omega
        go_enter Tryz.func120, Tryz.ntmps120
        by_cases hgt : mid < m
        · obtain ⟨lo, hlo⟩ : ∃ lo, mid + m - b = lo := ⟨_, rfl⟩
          obtain ⟨hi, hhi0⟩ : ∃ hi, mid = hi := ⟨_, rfl⟩
          have hY : SymB a m b lo hi := ⟨⟨ham, hmb⟩, by omega⟩
          have c1 : (mid : Int) < (m : Int) := by omega
          have c2 : (n : Int) - (b : Int) = (lo : Int) := by omega
          have hlohi : lo ≤ hi := by omega
          have hmono := sym_mono hL.out hY hs1.out hs2.out hx.out
          subst hhi0
          replace hmono := Aside0.mk hmono
          go_wp2_with fail
          go_loopw [20, 21] (fun t20 t21 wr => ∃ (i j : Nat), t20 = .int .i64 i ∧ t21 = .int .i64 j ∧ Aside0 (Bs (fun c => !ltOf cf d[(a + b) / 2 + m - 1 - c]! d[c]!) lo mid i j) ∧ Aside0 (SWK enc k w0 blk off d wr)) (fun t20 t21 _ => (intOf t21).toNat - (intOf t20).toNat)
          case atStart => exact ⟨lo, mid, rfl, rfl, ⟨Bs.start _ (by omega)⟩, HW⟩
          case round =>
            obtain ⟨i, j, rfl, rfl, hB, hS⟩ := hrel
            have hle := hB.out.le
            by_cases hij : i < j
            · have hij' : (i : Int) < (j : Int) := by omega
              obtain ⟨h, hh⟩ : ∃ h, (i + j) / 2 = h := ⟨_, rfl⟩
              have hhi : ((i : Int) + (j : Int)) / 2 = (h : Int) := by omega
              have hlh : lo ≤ h ∧ h < mid := by omega
              obtain ⟨r, hr⟩ : ∃ r, mid + m - 1 - h = r := ⟨_, rfl⟩
              have hrb : m ≤ r ∧ r < b ∧ h < m := by obtain ⟨⟨y1, y2⟩, y3⟩ := hY; omega
              have hpr : (p : Int) - (h : Int) = (r : Int) := by omega
              have hpw : IntKind.i64.wrap ((p : Int) - (h : Int)) = (r : Int) := by rw [IntKind.wrap_i64]; omega
              have h0 : (0 : Int) ≤ (h : Int) := by omega
              have hz1 : (h : Int) < (sz : Int) := by omega
              have r0 : (0 : Int) ≤ (r : Int) := by omega
              have r1 : (r : Int) < (sz : Int) := by omega
              obtain ⟨xh, hxh⟩ : ∃ x, d[h]! = x := ⟨_, rfl⟩
              obtain ⟨xr, hxr⟩ : ∃ x, d[r]! = x := ⟨_, rfl⟩
              have lh := hld.out wr hS.out r (by omega); have la := hld.out wr hS.out h (by omega); rw [hxr] at lh; rw [hxh] at la; have hcg := hcl.out wr hS.out xr xh
              have hpc : (!ltOf cf d[(a + b) / 2 + m - 1 - h]! d[h]!) = !decide (cf xr xh < 0) := by
                rw [hmid, hr, hxh, hxr]; rfl
              have hrw : IntKind.i64.wrap (r : Int) = (r : Int) := by rw [IntKind.wrap_i64]; omega
              have hih : i ≤ h ∧ h < j := by omega
              clear hlh hrb
              replace hh := Aside0.mk hh; replace hxh := Aside0.mk hxh; replace hxr := Aside0.mk hxr; replace hij := Aside0.mk hij; replace hle := Aside0.mk hle; replace hr := Aside0.mk hr; replace hpc := Aside0.mk hpc; replace hih := Aside0.mk hih; replace hmid := Aside0.mk hmid; replace hY := Aside0.mk hY
              by_cases hlv : cf xr xh < 0
              · have hd : decide (cf xr xh < 0) = true := decide_eq_true hlv
                have hB2 := hB.out.left hmono.out hih.out.1 hih.out.2 (hpc.out.trans (by simp [hlv]))
                replace hB2 := Aside0.mk hB2
                go_wp2_with fail
                go_quiet_grown (first | (go_at_fn g; refine Calls.grown_of (hcg _ _)))
                clear lh la hcg
                have hS2 := hS.out.grown nq osq
                generalize grow (wr.drewN nq) osq = wq at hS2 ⊢
                replace hS2 := Aside0.mk hS2
                go_wp2
                go_roundw
                case measure => show (h : Int).toNat - (i : Int).toNat < (j : Int).toNat - (i : Int).toNat; have := hih.out; omega
                case rel => exact ⟨i, h, rfl, rfl, hB2, hS2⟩
              · have hd : decide (cf xr xh < 0) = false := decide_eq_false hlv
                have hB2 := hB.out.right hmono.out hih.out.1 hih.out.2 (hpc.out.trans (by simp [hlv]))
                replace hB2 := Aside0.mk hB2
                go_wp2_with fail
                go_quiet_grown (first | (go_at_fn g; refine Calls.grown_of (hcg _ _)))
                clear lh la hcg
                have hS2 := hS.out.grown nq osq
                generalize grow (wr.drewN nq) osq = wq at hS2 ⊢
                replace hS2 := Aside0.mk hS2
                go_wp2
                go_roundw
                case measure => show (j : Int).toNat - ((h : Int) + 1).toNat < (j : Int).toNat - (i : Int).toNat; have := hih.out; omega
                case rel => exact ⟨h + 1, j, by simp, rfl, hB2, hS2⟩
            · obtain rfl : i = j := by omega
              obtain ⟨s, rfl⟩ : ∃ s, s = i := ⟨_, rfl⟩
              clear hij hle
              have hij' : ¬ (s : Int) < (s : Int) := by omega
              obtain ⟨e, he⟩ : ∃ e, mid + m - s = e := ⟨_, rfl⟩
              have hle2 := hB.out.le
              have hei : (n : Int) - (s : Int) = (e : Int) := by obtain ⟨⟨y1, y2⟩, y3⟩ := hY; omega
              clear hle2
              have hspl := fun d1 (h : ∀ x, d1[x]! = rotF s m e d x) => sym_split hL.out hY hs1.out hs2.out hx.out hB.out hmid.symm he.symm h
              have hsm : s ≤ m ∧ m ≤ e ∧ a ≤ s ∧ s ≤ mid ∧ mid ≤ e ∧ e ≤ b := by
                have hd0 : ∀ x, (Array.ofFn (n := sz) fun x => rotF s m e d x)[x]! = rotF s m e d x ∨ True := fun _ => .inr trivial
                obtain ⟨⟨y1, y2⟩, y3⟩ := hY
                have := hB.out.le
                have := he
                omega
              replace hmid := Aside0.mk hmid
              replace he := Aside0.mk he
              replace hspl := Aside0.mk hspl; replace hY := Aside0.mk hY
              by_cases hrot : s < m ∧ m < e
              · obtain ⟨hr1, hr2⟩ := hrot
                have r1 : (s : Int) < (m : Int) := by omega
                have r2 : (m : Int) < (e : Int) := by omega
                have hrc := rotate_calls enc w0 blk off cap d0 d k hk8.out HR.out hds.out (by have := hz.out; omega) s m e hr1 hr2 (by have := hz.out; omega) (.func (.func g) #[] cb) wr hS.out
                rw [hz.out] at hrc
                replace hrc := Aside0.mk hrc
                go_wp2_with fail
                with_reducible refine hrc.out.mono ?_
                rintro e2 w2 ⟨d1, rfl, hS1, hF1, hP1⟩
                have hsp := hspl.out d1 hF1
                have hP1' := permIn_mono d d1 s e a b (by omega) (by omega) (by have := hz.out; omega) hP1
                have hz1 : d1.size = sz := by rw [hP1.1, hz.out]
                clear hF1 hP1
                replace hS := Aside0.mk hS1
                clear hS1
                replace hsp := Aside0.mk hsp; replace hP1' := Aside0.mk hP1'; replace hz1 := Aside0.mk hz1
                by_cases hl : a < s ∧ s < mid
                · obtain ⟨hl1, hl2⟩ := hl
                  have l1 : (a : Int) < (s : Int) := by omega
                  have l2 : (s : Int) < (mid : Int) := by omega
                  have hc1 := fun W h => HIH.out a s mid d1 W (by have := hmid.out; omega) hl1 hl2 (by omega) hz1.out h hsp.out.1 hsp.out.2.1 hsp.out.2.2.2.2.1
                  replace hc1 := Aside0.mk hc1
                  go_wp2_with fail
                  with_reducible refine (hc1.out _ hS.out).mono ?_
                  rintro e3 w3 ⟨d2, rfl, hS2, hP2, hQ2⟩
                  replace hS2 := Aside0.mk hS2
                  replace hP2 := Aside0.mk hP2; replace hQ2 := Aside0.mk hQ2
                  by_cases hr : mid < e ∧ e < b
                  · obtain ⟨hr1, hr2⟩ := hr
                    have rr1 : (mid : Int) < (e : Int) := by omega
                    have rr2 : (e : Int) < (b : Int) := by omega
                    have hc2 := fun W h => HIH.out mid e b d2 W (by have := hmid.out; omega) hr1 hr2 hb (by rw [hP2.out.1, hz1.out]) h (SortedIn.outside hsp.out.2.2.1 hP2.out (.inr (Nat.le_refl _))) (SortedIn.outside hsp.out.2.2.2.1 hP2.out (.inr (by omega))) (Cross.outside hsp.out.2.2.2.2.2.1 hP2.out (.inr (Nat.le_refl _)))
                    replace hc2 := Aside0.mk hc2
                    go_wp2_with fail
                    all_goals with_reducible refine (hc2.out _ hS2.out).mono ?_
                    all_goals rintro e4 w4 ⟨d3, rfl, hS3, hP3, hQ3⟩
                    all_goals replace hS3 := Aside0.mk hS3
                    all_goals
                      replace hP3 := Aside0.mk hP3; replace hQ3 := Aside0.mk hQ3
                    all_goals go_wp2_with fail
                    all_goals first | go_end0 | go_ret
                    all_goals have hf := sym_final (by have := hz.out; omega) (by omega) (by omega) hP1'.out hsp.out.2.2.2.2.2.2.1 hP2.out hQ2.out hP3.out hQ3.out
                    all_goals exact ⟨d3, rfl, hS3.out, hf.1, hf.2⟩
                  · have hQ3 : SortedIn L mid b d2 := by
                      by_cases h3 : mid < e
                      · have h4 : e = b := by omega
                        have := SortedIn.outside hsp.out.2.2.1 hP2.out (.inr (Nat.le_refl _)); rw [h4] at this; exact this
                      · have h4 : e = mid := by omega
                        have := SortedIn.outside hsp.out.2.2.2.1 hP2.out (.inr (by omega)); rw [h4] at this; exact this
                    have hf := sym_final (by have := hz.out; omega) (by omega) (by omega) hP1'.out hsp.out.2.2.2.2.2.2.1 hP2.out hQ2.out (permIn_refl d2 mid b) hQ3
                    have hnr2 : ¬ (mid : Int) < (e : Int) ∨ ((mid : Int) < (e : Int) ∧ ¬ (e : Int) < (b : Int)) := by omega
                    clear hr hQ3
                    replace hf := Aside0.mk hf
                    rcases hnr2 with hq1 | ⟨hq1, hq2⟩
                    · go_wp2_with fail
                      all_goals first | go_end0 | go_ret
                      all_goals exact ⟨d2, rfl, hS2.out, hf.out.1, hf.out.2⟩
                    · go_wp2_with fail
                      all_goals first | go_end0 | go_ret
                      all_goals exact ⟨d2, rfl, hS2.out, hf.out.1, hf.out.2⟩
                · have hQ2 : SortedIn L a mid d1 := by
                    by_cases h3 : a < s
                    · have h4 : s = mid := by omega
                      have := hsp.out.1; rw [h4] at this; exact this
                    · have h4 : s = a := by omega
                      have := hsp.out.2.1; rw [h4] at this; exact this
                  have hP2 := permIn_refl d1 a mid
                  have hnl : ¬ (a : Int) < (s : Int) ∨ ((a : Int) < (s : Int) ∧ ¬ (s : Int) < (mid : Int)) := by omega
                  obtain ⟨d2, hd2⟩ : ∃ d2, d2 = d1 := ⟨_, rfl⟩
                  have hS2 : Aside0 (SWK enc k w0 blk off d2 _) := ⟨by rw [hd2]; exact hS.out⟩
                  rw [← hd2] at hQ2
                  have hP2 : PermIn a mid d1 d2 := by rw [hd2]; exact hP2
                  clear hl
                  replace hP2 := Aside0.mk hP2; replace hQ2 := Aside0.mk hQ2; replace hd2 := Aside0.mk hd2
                  rcases hnl with hnl | ⟨hnl, hnl2⟩
                  · by_cases hr : mid < e ∧ e < b
                    · obtain ⟨hr1, hr2⟩ := hr
                      have rr1 : (mid : Int) < (e : Int) := by omega
                      have rr2 : (e : Int) < (b : Int) := by omega
                      have hc2 := fun W h => HIH.out mid e b d2 W (by have := hmid.out; omega) hr1 hr2 hb (by rw [hP2.out.1, hz1.out]) h (SortedIn.outside hsp.out.2.2.1 hP2.out (.inr (Nat.le_refl _))) (SortedIn.outside hsp.out.2.2.2.1 hP2.out (.inr (by omega))) (Cross.outside hsp.out.2.2.2.2.2.1 hP2.out (.inr (Nat.le_refl _)))
                      replace hc2 := Aside0.mk hc2
                      go_wp2_with fail
                      all_goals with_reducible refine (hc2.out _ hS2.out).mono ?_
                      all_goals rintro e4 w4 ⟨d3, rfl, hS3, hP3, hQ3⟩
                      all_goals replace hS3 := Aside0.mk hS3
                      all_goals
                        replace hP3 := Aside0.mk hP3; replace hQ3 := Aside0.mk hQ3
                      all_goals go_wp2_with fail
                      all_goals first | go_end0 | go_ret
                      all_goals have hf := sym_final (by have := hz.out; omega) (by omega) (by omega) hP1'.out hsp.out.2.2.2.2.2.2.1 hP2.out hQ2.out hP3.out hQ3.out
                      all_goals exact ⟨d3, rfl, hS3.out, hf.1, hf.2⟩
                    · have hQ3 : SortedIn L mid b d2 := by
                        by_cases h3 : mid < e
                        · have h4 : e = b := by omega
                          have := SortedIn.outside hsp.out.2.2.1 hP2.out (.inr (Nat.le_refl _)); rw [h4] at this; exact this
                        · have h4 : e = mid := by omega
                          have := SortedIn.outside hsp.out.2.2.2.1 hP2.out (.inr (by omega)); rw [h4] at this; exact this
                      have hf := sym_final (by have := hz.out; omega) (by omega) (by omega) hP1'.out hsp.out.2.2.2.2.2.2.1 hP2.out hQ2.out (permIn_refl d2 mid b) hQ3
                      have hnr2 : ¬ (mid : Int) < (e : Int) ∨ ((mid : Int) < (e : Int) ∧ ¬ (e : Int) < (b : Int)) := by omega
                      clear hr hQ3
                      replace hf := Aside0.mk hf
                      rcases hnr2 with hq1 | ⟨hq1, hq2⟩
                      · go_wp2_with fail
                        all_goals first | go_end0 | go_ret
                        all_goals exact ⟨d2, rfl, hS2.out, hf.out.1, hf.out.2⟩
                      · go_wp2_with fail
                        all_goals first | go_end0 | go_ret
                        all_goals exact ⟨d2, rfl, hS2.out, hf.out.1, hf.out.2⟩
                  · by_cases hr : mid < e ∧ e < b
                    · obtain ⟨hr1, hr2⟩ := hr
                      have rr1 : (mid : Int) < (e : Int) := by omega
                      have rr2 : (e : Int) < (b : Int) := by omega
                      have hc2 := fun W h => HIH.out mid e b d2 W (by have := hmid.out; omega) hr1 hr2 hb (by rw [hP2.out.1, hz1.out]) h (SortedIn.outside hsp.out.2.2.1 hP2.out (.inr (Nat.le_refl _))) (SortedIn.outside hsp.out.2.2.2.1 hP2.out (.inr (by omega))) (Cross.outside hsp.out.2.2.2.2.2.1 hP2.out (.inr (Nat.le_refl _)))
                      replace hc2 := Aside0.mk hc2
                      go_wp2_with fail
                      all_goals with_reducible refine (hc2.out _ hS2.out).mono ?_
                      all_goals rintro e4 w4 ⟨d3, rfl, hS3, hP3, hQ3⟩
                      all_goals replace hS3 := Aside0.mk hS3
                      all_goals
                        replace hP3 := Aside0.mk hP3; replace hQ3 := Aside0.mk hQ3
                      all_goals go_wp2_with fail
                      all_goals first | go_end0 | go_ret
                      all_goals have hf := sym_final (by have := hz.out; omega) (by omega) (by omega) hP1'.out hsp.out.2.2.2.2.2.2.1 hP2.out hQ2.out hP3.out hQ3.out
                      all_goals exact ⟨d3, rfl, hS3.out, hf.1, hf.2⟩
                    · have hQ3 : SortedIn L mid b d2 := by
                        by_cases h3 : mid < e
                        · have h4 : e = b := by omega
                          have := SortedIn.outside hsp.out.2.2.1 hP2.out (.inr (Nat.le_refl _)); rw [h4] at this; exact this
                        · have h4 : e = mid := by omega
                          have := SortedIn.outside hsp.out.2.2.2.1 hP2.out (.inr (by omega)); rw [h4] at this; exact this
                      have hf := sym_final (by have := hz.out; omega) (by omega) (by omega) hP1'.out hsp.out.2.2.2.2.2.2.1 hP2.out hQ2.out (permIn_refl d2 mid b) hQ3
                      have hnr2 : ¬ (mid : Int) < (e : Int) ∨ ((mid : Int) < (e : Int) ∧ ¬ (e : Int) < (b : Int)) := by omega
                      clear hr hQ3
                      replace hf := Aside0.mk hf
                      rcases hnr2 with hq1 | ⟨hq1, hq2⟩
                      · go_wp2_with fail
                        all_goals first | go_end0 | go_ret
                        all_goals exact ⟨d2, rfl, hS2.out, hf.out.1, hf.out.2⟩
                      · go_wp2_with fail
                        all_goals first | go_end0 | go_ret
                        all_goals exact ⟨d2, rfl, hS2.out, hf.out.1, hf.out.2⟩
              · have hsp := hspl.out d (fun x => (rotF_none (by simpa using hrot) hsm.1 hsm.2.1 x).symm)
                have hP1' := permIn_refl d a b
                have hnr : ¬ (s : Int) < (m : Int) ∨ ((s : Int) < (m : Int) ∧ ¬ (m : Int) < (e : Int)) := by omega
                obtain ⟨d1, hd1⟩ : ∃ d1, d1 = d := ⟨_, rfl⟩
                rw [← hd1] at hsp hS
                have hP1' : PermIn a b d d1 := by rw [hd1]; exact hP1'
                have hz1 : d1.size = sz := by rw [hd1, hz.out]
                clear hrot
                replace hsp := Aside0.mk hsp; replace hP1' := Aside0.mk hP1'; replace hz1 := Aside0.mk hz1; replace hd1 := Aside0.mk hd1
                rcases hnr with hnr | ⟨hnr, hnr2⟩
                · by_cases hl : a < s ∧ s < mid
                  · obtain ⟨hl1, hl2⟩ := hl
                    have l1 : (a : Int) < (s : Int) := by omega
                    have l2 : (s : Int) < (mid : Int) := by omega
                    have hc1 := fun W h => HIH.out a s mid d1 W (by have := hmid.out; omega) hl1 hl2 (by omega) hz1.out h hsp.out.1 hsp.out.2.1 hsp.out.2.2.2.2.1
                    replace hc1 := Aside0.mk hc1
                    go_wp2_with fail
                    with_reducible refine (hc1.out _ hS.out).mono ?_
                    rintro e3 w3 ⟨d2, rfl, hS2, hP2, hQ2⟩
                    replace hS2 := Aside0.mk hS2
                    replace hP2 := Aside0.mk hP2; replace hQ2 := Aside0.mk hQ2
                    by_cases hr : mid < e ∧ e < b
                    · obtain ⟨hr1, hr2⟩ := hr
                      have rr1 : (mid : Int) < (e : Int) := by omega
                      have rr2 : (e : Int) < (b : Int) := by omega
                      have hc2 := fun W h => HIH.out mid e b d2 W (by have := hmid.out; omega) hr1 hr2 hb (by rw [hP2.out.1, hz1.out]) h (SortedIn.outside hsp.out.2.2.1 hP2.out (.inr (Nat.le_refl _))) (SortedIn.outside hsp.out.2.2.2.1 hP2.out (.inr (by omega))) (Cross.outside hsp.out.2.2.2.2.2.1 hP2.out (.inr (Nat.le_refl _)))
                      replace hc2 := Aside0.mk hc2
                      go_wp2_with fail
                      all_goals with_reducible refine (hc2.out _ hS2.out).mono ?_
                      all_goals rintro e4 w4 ⟨d3, rfl, hS3, hP3, hQ3⟩
                      all_goals replace hS3 := Aside0.mk hS3
                      all_goals
                        replace hP3 := Aside0.mk hP3; replace hQ3 := Aside0.mk hQ3
                      all_goals go_wp2_with fail
                      all_goals first | go_end0 | go_ret
                      all_goals have hf := sym_final (by have := hz.out; omega) (by omega) (by omega) hP1'.out hsp.out.2.2.2.2.2.2.1 hP2.out hQ2.out hP3.out hQ3.out
                      all_goals exact ⟨d3, rfl, hS3.out, hf.1, hf.2⟩
                    · have hQ3 : SortedIn L mid b d2 := by
                        by_cases h3 : mid < e
                        · have h4 : e = b := by omega
                          have := SortedIn.outside hsp.out.2.2.1 hP2.out (.inr (Nat.le_refl _)); rw [h4] at this; exact this
                        · have h4 : e = mid := by omega
                          have := SortedIn.outside hsp.out.2.2.2.1 hP2.out (.inr (by omega)); rw [h4] at this; exact this
                      have hf := sym_final (by have := hz.out; omega) (by omega) (by omega) hP1'.out hsp.out.2.2.2.2.2.2.1 hP2.out hQ2.out (permIn_refl d2 mid b) hQ3
                      have hnr2 : ¬ (mid : Int) < (e : Int) ∨ ((mid : Int) < (e : Int) ∧ ¬ (e : Int) < (b : Int)) := by omega
                      clear hr hQ3
                      replace hf := Aside0.mk hf
                      rcases hnr2 with hq1 | ⟨hq1, hq2⟩
                      · go_wp2_with fail
                        all_goals first | go_end0 | go_ret
                        all_goals exact ⟨d2, rfl, hS2.out, hf.out.1, hf.out.2⟩
                      · go_wp2_with fail
                        all_goals first | go_end0 | go_ret
                        all_goals exact ⟨d2, rfl, hS2.out, hf.out.1, hf.out.2⟩
                  · have hQ2 : SortedIn L a mid d1 := by
                      by_cases h3 : a < s
                      · have h4 : s = mid := by omega
                        have := hsp.out.1; rw [h4] at this; exact this
                      · have h4 : s = a := by omega
                        have := hsp.out.2.1; rw [h4] at this; exact this
                    have hP2 := permIn_refl d1 a mid
                    have hnl : ¬ (a : Int) < (s : Int) ∨ ((a : Int) < (s : Int) ∧ ¬ (s : Int) < (mid : Int)) := by omega
                    obtain ⟨d2, hd2⟩ : ∃ d2, d2 = d1 := ⟨_, rfl⟩
                    have hS2 : Aside0 (SWK enc k w0 blk off d2 _) := ⟨by rw [hd2]; exact hS.out⟩
                    rw [← hd2] at hQ2
                    have hP2 : PermIn a mid d1 d2 := by rw [hd2]; exact hP2
                    clear hl
                    replace hP2 := Aside0.mk hP2; replace hQ2 := Aside0.mk hQ2; replace hd2 := Aside0.mk hd2
                    rcases hnl with hnl | ⟨hnl, hnl2⟩
                    · by_cases hr : mid < e ∧ e < b
                      · obtain ⟨hr1, hr2⟩ := hr
                        have rr1 : (mid : Int) < (e : Int) := by omega
                        have rr2 : (e : Int) < (b : Int) := by omega
                        have hc2 := fun W h => HIH.out mid e b d2 W (by have := hmid.out; omega) hr1 hr2 hb (by rw [hP2.out.1, hz1.out]) h (SortedIn.outside hsp.out.2.2.1 hP2.out (.inr (Nat.le_refl _))) (SortedIn.outside hsp.out.2.2.2.1 hP2.out (.inr (by omega))) (Cross.outside hsp.out.2.2.2.2.2.1 hP2.out (.inr (Nat.le_refl _)))
                        replace hc2 := Aside0.mk hc2
                        go_wp2_with fail
                        all_goals with_reducible refine (hc2.out _ hS2.out).mono ?_
                        all_goals rintro e4 w4 ⟨d3, rfl, hS3, hP3, hQ3⟩
                        all_goals replace hS3 := Aside0.mk hS3
                        all_goals
                          replace hP3 := Aside0.mk hP3; replace hQ3 := Aside0.mk hQ3
                        all_goals go_wp2_with fail
                        all_goals first | go_end0 | go_ret
                        all_goals have hf := sym_final (by have := hz.out; omega) (by omega) (by omega) hP1'.out hsp.out.2.2.2.2.2.2.1 hP2.out hQ2.out hP3.out hQ3.out
                        all_goals exact ⟨d3, rfl, hS3.out, hf.1, hf.2⟩
                      · have hQ3 : SortedIn L mid b d2 := by
                          by_cases h3 : mid < e
                          · have h4 : e = b := by omega
                            have := SortedIn.outside hsp.out.2.2.1 hP2.out (.inr (Nat.le_refl _)); rw [h4] at this; exact this
                          · have h4 : e = mid := by omega
                            have := SortedIn.outside hsp.out.2.2.2.1 hP2.out (.inr (by omega)); rw [h4] at this; exact this
                        have hf := sym_final (by have := hz.out; omega) (by omega) (by omega) hP1'.out hsp.out.2.2.2.2.2.2.1 hP2.out hQ2.out (permIn_refl d2 mid b) hQ3
                        have hnr2 : ¬ (mid : Int) < (e : Int) ∨ ((mid : Int) < (e : Int) ∧ ¬ (e : Int) < (b : Int)) := by omega
                        clear hr hQ3
                        replace hf := Aside0.mk hf
                        rcases hnr2 with hq1 | ⟨hq1, hq2⟩
                        · go_wp2_with fail
                          all_goals first | go_end0 | go_ret
                          all_goals exact ⟨d2, rfl, hS2.out, hf.out.1, hf.out.2⟩
                        · go_wp2_with fail
                          all_goals first | go_end0 | go_ret
                          all_goals exact ⟨d2, rfl, hS2.out, hf.out.1, hf.out.2⟩
                    · by_cases hr : mid < e ∧ e < b
                      · obtain ⟨hr1, hr2⟩ := hr
                        have rr1 : (mid : Int) < (e : Int) := by omega
                        have rr2 : (e : Int) < (b : Int) := by omega
                        have hc2 := fun W h => HIH.out mid e b d2 W (by have := hmid.out; omega) hr1 hr2 hb (by rw [hP2.out.1, hz1.out]) h (SortedIn.outside hsp.out.2.2.1 hP2.out (.inr (Nat.le_refl _))) (SortedIn.outside hsp.out.2.2.2.1 hP2.out (.inr (by omega))) (Cross.outside hsp.out.2.2.2.2.2.1 hP2.out (.inr (Nat.le_refl _)))
                        replace hc2 := Aside0.mk hc2
                        go_wp2_with fail
                        all_goals with_reducible refine (hc2.out _ hS2.out).mono ?_
                        all_goals rintro e4 w4 ⟨d3, rfl, hS3, hP3, hQ3⟩
                        all_goals replace hS3 := Aside0.mk hS3
                        all_goals
                          replace hP3 := Aside0.mk hP3; replace hQ3 := Aside0.mk hQ3
                        all_goals go_wp2_with fail
                        all_goals first | go_end0 | go_ret
                        all_goals have hf := sym_final (by have := hz.out; omega) (by omega) (by omega) hP1'.out hsp.out.2.2.2.2.2.2.1 hP2.out hQ2.out hP3.out hQ3.out
                        all_goals exact ⟨d3, rfl, hS3.out, hf.1, hf.2⟩
                      · have hQ3 : SortedIn L mid b d2 := by
                          by_cases h3 : mid < e
                          · have h4 : e = b := by omega
                            have := SortedIn.outside hsp.out.2.2.1 hP2.out (.inr (Nat.le_refl _)); rw [h4] at this; exact this
                          · have h4 : e = mid := by omega
                            have := SortedIn.outside hsp.out.2.2.2.1 hP2.out (.inr (by omega)); rw [h4] at this; exact this
                        have hf := sym_final (by have := hz.out; omega) (by omega) (by omega) hP1'.out hsp.out.2.2.2.2.2.2.1 hP2.out hQ2.out (permIn_refl d2 mid b) hQ3
                        have hnr2 : ¬ (mid : Int) < (e : Int) ∨ ((mid : Int) < (e : Int) ∧ ¬ (e : Int) < (b : Int)) := by omega
                        clear hr hQ3
                        replace hf := Aside0.mk hf
                        rcases hnr2 with hq1 | ⟨hq1, hq2⟩
                        · go_wp2_with fail
                          all_goals first | go_end0 | go_ret
                          all_goals exact ⟨d2, rfl, hS2.out, hf.out.1, hf.out.2⟩
                        · go_wp2_with fail
                          all_goals first | go_end0 | go_ret
                          all_goals exact ⟨d2, rfl, hS2.out, hf.out.1, hf.out.2⟩
                · by_cases hl : a < s ∧ s < mid
                  · obtain ⟨hl1, hl2⟩ := hl
                    have l1 : (a : Int) < (s : Int) := by omega
                    have l2 : (s : Int) < (mid : Int) := by omega
                    have hc1 := fun W h => HIH.out a s mid d1 W (by have := hmid.out; omega) hl1 hl2 (by omega) hz1.out h hsp.out.1 hsp.out.2.1 hsp.out.2.2.2.2.1
                    replace hc1 := Aside0.mk hc1
                    go_wp2_with fail
                    with_reducible refine (hc1.out _ hS.out).mono ?_
                    rintro e3 w3 ⟨d2, rfl, hS2, hP2, hQ2⟩
                    replace hS2 := Aside0.mk hS2
                    replace hP2 := Aside0.mk hP2; replace hQ2 := Aside0.mk hQ2
                    by_cases hr : mid < e ∧ e < b
                    · obtain ⟨hr1, hr2⟩ := hr
                      have rr1 : (mid : Int) < (e : Int) := by omega
                      have rr2 : (e : Int) < (b : Int) := by omega
                      have hc2 := fun W h => HIH.out mid e b d2 W (by have := hmid.out; omega) hr1 hr2 hb (by rw [hP2.out.1, hz1.out]) h (SortedIn.outside hsp.out.2.2.1 hP2.out (.inr (Nat.le_refl _))) (SortedIn.outside hsp.out.2.2.2.1 hP2.out (.inr (by omega))) (Cross.outside hsp.out.2.2.2.2.2.1 hP2.out (.inr (Nat.le_refl _)))
                      replace hc2 := Aside0.mk hc2
                      go_wp2_with fail
                      all_goals with_reducible refine (hc2.out _ hS2.out).mono ?_
                      all_goals rintro e4 w4 ⟨d3, rfl, hS3, hP3, hQ3⟩
                      all_goals replace hS3 := Aside0.mk hS3
                      all_goals
                        replace hP3 := Aside0.mk hP3; replace hQ3 := Aside0.mk hQ3
                      all_goals go_wp2_with fail
                      all_goals first | go_end0 | go_ret
                      all_goals have hf := sym_final (by have := hz.out; omega) (by omega) (by omega) hP1'.out hsp.out.2.2.2.2.2.2.1 hP2.out hQ2.out hP3.out hQ3.out
                      all_goals exact ⟨d3, rfl, hS3.out, hf.1, hf.2⟩
                    · have hQ3 : SortedIn L mid b d2 := by
                        by_cases h3 : mid < e
                        · have h4 : e = b := by omega
                          have := SortedIn.outside hsp.out.2.2.1 hP2.out (.inr (Nat.le_refl _)); rw [h4] at this; exact this
                        · have h4 : e = mid := by omega
                          have := SortedIn.outside hsp.out.2.2.2.1 hP2.out (.inr (by omega)); rw [h4] at this; exact this
                      have hf := sym_final (by have := hz.out; omega) (by omega) (by omega) hP1'.out hsp.out.2.2.2.2.2.2.1 hP2.out hQ2.out (permIn_refl d2 mid b) hQ3
                      have hnr2 : ¬ (mid : Int) < (e : Int) ∨ ((mid : Int) < (e : Int) ∧ ¬ (e : Int) < (b : Int)) := by omega
                      clear hr hQ3
                      replace hf := Aside0.mk hf
                      rcases hnr2 with hq1 | ⟨hq1, hq2⟩
                      · go_wp2_with fail
                        all_goals first | go_end0 | go_ret
                        all_goals exact ⟨d2, rfl, hS2.out, hf.out.1, hf.out.2⟩
                      · go_wp2_with fail
                        all_goals first | go_end0 | go_ret
                        all_goals exact ⟨d2, rfl, hS2.out, hf.out.1, hf.out.2⟩
                  · have hQ2 : SortedIn L a mid d1 := by
                      by_cases h3 : a < s
                      · have h4 : s = mid := by omega
                        have := hsp.out.1; rw [h4] at this; exact this
                      · have h4 : s = a := by omega
                        have := hsp.out.2.1; rw [h4] at this; exact this
                    have hP2 := permIn_refl d1 a mid
                    have hnl : ¬ (a : Int) < (s : Int) ∨ ((a : Int) < (s : Int) ∧ ¬ (s : Int) < (mid : Int)) := by omega
                    obtain ⟨d2, hd2⟩ : ∃ d2, d2 = d1 := ⟨_, rfl⟩
                    have hS2 : Aside0 (SWK enc k w0 blk off d2 _) := ⟨by rw [hd2]; exact hS.out⟩
                    rw [← hd2] at hQ2
                    have hP2 : PermIn a mid d1 d2 := by rw [hd2]; exact hP2
                    clear hl
                    replace hP2 := Aside0.mk hP2; replace hQ2 := Aside0.mk hQ2; replace hd2 := Aside0.mk hd2
                    rcases hnl with hnl | ⟨hnl, hnl2⟩
                    · by_cases hr : mid < e ∧ e < b
                      · obtain ⟨hr1, hr2⟩ := hr
                        have rr1 : (mid : Int) < (e : Int) := by omega
                        have rr2 : (e : Int) < (b : Int) := by omega
                        have hc2 := fun W h => HIH.out mid e b d2 W (by have := hmid.out; omega) hr1 hr2 hb (by rw [hP2.out.1, hz1.out]) h (SortedIn.outside hsp.out.2.2.1 hP2.out (.inr (Nat.le_refl _))) (SortedIn.outside hsp.out.2.2.2.1 hP2.out (.inr (by omega))) (Cross.outside hsp.out.2.2.2.2.2.1 hP2.out (.inr (Nat.le_refl _)))
                        replace hc2 := Aside0.mk hc2
                        go_wp2_with fail
                        all_goals with_reducible refine (hc2.out _ hS2.out).mono ?_
                        all_goals rintro e4 w4 ⟨d3, rfl, hS3, hP3, hQ3⟩
                        all_goals replace hS3 := Aside0.mk hS3
                        all_goals
                          replace hP3 := Aside0.mk hP3; replace hQ3 := Aside0.mk hQ3
                        all_goals go_wp2_with fail
                        all_goals first | go_end0 | go_ret
                        all_goals have hf := sym_final (by have := hz.out; omega) (by omega) (by omega) hP1'.out hsp.out.2.2.2.2.2.2.1 hP2.out hQ2.out hP3.out hQ3.out
                        all_goals exact ⟨d3, rfl, hS3.out, hf.1, hf.2⟩
                      · have hQ3 : SortedIn L mid b d2 := by
                          by_cases h3 : mid < e
                          · have h4 : e = b := by omega
                            have := SortedIn.outside hsp.out.2.2.1 hP2.out (.inr (Nat.le_refl _)); rw [h4] at this; exact this
                          · have h4 : e = mid := by omega
                            have := SortedIn.outside hsp.out.2.2.2.1 hP2.out (.inr (by omega)); rw [h4] at this; exact this
                        have hf := sym_final (by have := hz.out; omega) (by omega) (by omega) hP1'.out hsp.out.2.2.2.2.2.2.1 hP2.out hQ2.out (permIn_refl d2 mid b) hQ3
                        have hnr2 : ¬ (mid : Int) < (e : Int) ∨ ((mid : Int) < (e : Int) ∧ ¬ (e : Int) < (b : Int)) := by omega
                        clear hr hQ3
                        replace hf := Aside0.mk hf
                        rcases hnr2 with hq1 | ⟨hq1, hq2⟩
                        · go_wp2_with fail
                          all_goals first | go_end0 | go_ret
                          all_goals exact ⟨d2, rfl, hS2.out, hf.out.1, hf.out.2⟩
                        · go_wp2_with fail
                          all_goals first | go_end0 | go_ret
                          all_goals exact ⟨d2, rfl, hS2.out, hf.out.1, hf.out.2⟩
                    · by_cases hr : mid < e ∧ e < b
                      · obtain ⟨hr1, hr2⟩ := hr
                        have rr1 : (mid : Int) < (e : Int) := by omega
                        have rr2 : (e : Int) < (b : Int) := by omega
                        have hc2 := fun W h => HIH.out mid e b d2 W (by have := hmid.out; omega) hr1 hr2 hb (by rw [hP2.out.1, hz1.out]) h (SortedIn.outside hsp.out.2.2.1 hP2.out (.inr (Nat.le_refl _))) (SortedIn.outside hsp.out.2.2.2.1 hP2.out (.inr (by omega))) (Cross.outside hsp.out.2.2.2.2.2.1 hP2.out (.inr (Nat.le_refl _)))
                        replace hc2 := Aside0.mk hc2
                        go_wp2_with fail
                        all_goals with_reducible refine (hc2.out _ hS2.out).mono ?_
                        all_goals rintro e4 w4 ⟨d3, rfl, hS3, hP3, hQ3⟩
                        all_goals replace hS3 := Aside0.mk hS3
                        all_goals
                          replace hP3 := Aside0.mk hP3; replace hQ3 := Aside0.mk hQ3
                        all_goals go_wp2_with fail
                        all_goals first | go_end0 | go_ret
                        all_goals have hf := sym_final (by have := hz.out; omega) (by omega) (by omega) hP1'.out hsp.out.2.2.2.2.2.2.1 hP2.out hQ2.out hP3.out hQ3.out
                        all_goals exact ⟨d3, rfl, hS3.out, hf.1, hf.2⟩
                      · have hQ3 : SortedIn L mid b d2 := by
                          by_cases h3 : mid < e
                          · have h4 : e = b := by omega
                            have := SortedIn.outside hsp.out.2.2.1 hP2.out (.inr (Nat.le_refl _)); rw [h4] at this; exact this
                          · have h4 : e = mid := by omega
                            have := SortedIn.outside hsp.out.2.2.2.1 hP2.out (.inr (by omega)); rw [h4] at this; exact this
                        have hf := sym_final (by have := hz.out; omega) (by omega) (by omega) hP1'.out hsp.out.2.2.2.2.2.2.1 hP2.out hQ2.out (permIn_refl d2 mid b) hQ3
                        have hnr2 : ¬ (mid : Int) < (e : Int) ∨ ((mid : Int) < (e : Int) ∧ ¬ (e : Int) < (b : Int)) := by omega
                        clear hr hQ3
                        replace hf := Aside0.mk hf
                        rcases hnr2 with hq1 | ⟨hq1, hq2⟩
                        · go_wp2_with fail
                          all_goals first | go_end0 | go_ret
                          all_goals exact ⟨d2, rfl, hS2.out, hf.out.1, hf.out.2⟩
                        · go_wp2_with fail
                          all_goals first | go_end0 | go_ret
                          all_goals exact ⟨d2, rfl, hS2.out, hf.out.1, hf.out.2⟩
        · obtain ⟨lo, hlo⟩ : ∃ lo, a = lo := ⟨_, rfl⟩
          obtain ⟨hi, hhi0⟩ : ∃ hi, m = hi := ⟨_, rfl⟩
          have hY : SymB a m b lo hi := ⟨⟨ham, hmb⟩, by omega⟩
          have c1 : ¬ (mid : Int) < (m : Int) := by omega
          have hlohi : lo ≤ hi := by omega
          have hmono := sym_mono hL.out hY hs1.out hs2.out hx.out
          subst hlo
          subst hhi0
          replace hmono := Aside0.mk hmono
          go_wp2_with fail
          go_loopw [20, 21] (fun t20 t21 wr => ∃ (i j : Nat), t20 = .int .i64 i ∧ t21 = .int .i64 j ∧ Aside0 (Bs (fun c => !ltOf cf d[(a + b) / 2 + m - 1 - c]! d[c]!) a m i j) ∧ Aside0 (SWK enc k w0 blk off d wr)) (fun t20 t21 _ => (intOf t21).toNat - (intOf t20).toNat)
          case atStart => exact ⟨a, m, rfl, rfl, ⟨Bs.start _ (by omega)⟩, HW⟩
          case round =>
            obtain ⟨i, j, rfl, rfl, hB, hS⟩ := hrel
            have hle := hB.out.le
            by_cases hij : i < j
            · have hij' : (i : Int) < (j : Int) := by omega
              obtain ⟨h, hh⟩ : ∃ h, (i + j) / 2 = h := ⟨_, rfl⟩
              have hhi : ((i : Int) + (j : Int)) / 2 = (h : Int) := by omega
              have hlh : a ≤ h ∧ h < m := by omega
              obtain ⟨r, hr⟩ : ∃ r, mid + m - 1 - h = r := ⟨_, rfl⟩
              have hrb : m ≤ r ∧ r < b ∧ h < m := by obtain ⟨⟨y1, y2⟩, y3⟩ := hY; omega
              have hpr : (p : Int) - (h : Int) = (r : Int) := by omega
              have hpw : IntKind.i64.wrap ((p : Int) - (h : Int)) = (r : Int) := by rw [IntKind.wrap_i64]; omega
              have h0 : (0 : Int) ≤ (h : Int) := by omega
              have hz1 : (h : Int) < (sz : Int) := by omega
              have r0 : (0 : Int) ≤ (r : Int) := by omega
              have r1 : (r : Int) < (sz : Int) := by omega
              obtain ⟨xh, hxh⟩ : ∃ x, d[h]! = x := ⟨_, rfl⟩
              obtain ⟨xr, hxr⟩ : ∃ x, d[r]! = x := ⟨_, rfl⟩
              have lh := hld.out wr hS.out r (by omega); have la := hld.out wr hS.out h (by omega); rw [hxr] at lh; rw [hxh] at la; have hcg := hcl.out wr hS.out xr xh
              have hpc : (!ltOf cf d[(a + b) / 2 + m - 1 - h]! d[h]!) = !decide (cf xr xh < 0) := by
                rw [hmid, hr, hxh, hxr]; rfl
              have hrw : IntKind.i64.wrap (r : Int) = (r : Int) := by rw [IntKind.wrap_i64]; omega
              have hih : i ≤ h ∧ h < j := by omega
              clear hlh hrb
              replace hh := Aside0.mk hh; replace hxh := Aside0.mk hxh; replace hxr := Aside0.mk hxr; replace hij := Aside0.mk hij; replace hle := Aside0.mk hle; replace hr := Aside0.mk hr; replace hpc := Aside0.mk hpc; replace hih := Aside0.mk hih; replace hmid := Aside0.mk hmid; replace hY := Aside0.mk hY
              by_cases hlv : cf xr xh < 0
              · have hd : decide (cf xr xh < 0) = true := decide_eq_true hlv
                have hB2 := hB.out.left hmono.out hih.out.1 hih.out.2 (hpc.out.trans (by simp [hlv]))
                replace hB2 := Aside0.mk hB2
                go_wp2_with fail
                go_quiet_grown (first | (go_at_fn g; refine Calls.grown_of (hcg _ _)))
                clear lh la hcg
                have hS2 := hS.out.grown nq osq
                generalize grow (wr.drewN nq) osq = wq at hS2 ⊢
                replace hS2 := Aside0.mk hS2
                go_wp2
                go_roundw
                case measure => show (h : Int).toNat - (i : Int).toNat < (j : Int).toNat - (i : Int).toNat; have := hih.out; omega
                case rel => exact ⟨i, h, rfl, rfl, hB2, hS2⟩
              · have hd : decide (cf xr xh < 0) = false := decide_eq_false hlv
                have hB2 := hB.out.right hmono.out hih.out.1 hih.out.2 (hpc.out.trans (by simp [hlv]))
                replace hB2 := Aside0.mk hB2
                go_wp2_with fail
                go_quiet_grown (first | (go_at_fn g; refine Calls.grown_of (hcg _ _)))
                clear lh la hcg
                have hS2 := hS.out.grown nq osq
                generalize grow (wr.drewN nq) osq = wq at hS2 ⊢
                replace hS2 := Aside0.mk hS2
                go_wp2
                go_roundw
                case measure => show (j : Int).toNat - ((h : Int) + 1).toNat < (j : Int).toNat - (i : Int).toNat; have := hih.out; omega
                case rel => exact ⟨h + 1, j, by simp, rfl, hB2, hS2⟩
            · obtain rfl : i = j := by omega
              obtain ⟨s, rfl⟩ : ∃ s, s = i := ⟨_, rfl⟩
              clear hij hle
              have hij' : ¬ (s : Int) < (s : Int) := by omega
              obtain ⟨e, he⟩ : ∃ e, mid + m - s = e := ⟨_, rfl⟩
              have hle2 := hB.out.le
              have hei : (n : Int) - (s : Int) = (e : Int) := by obtain ⟨⟨y1, y2⟩, y3⟩ := hY; omega
              clear hle2
              have hspl := fun d1 (h : ∀ x, d1[x]! = rotF s m e d x) => sym_split hL.out hY hs1.out hs2.out hx.out hB.out hmid.symm he.symm h
              have hsm : s ≤ m ∧ m ≤ e ∧ a ≤ s ∧ s ≤ mid ∧ mid ≤ e ∧ e ≤ b := by
                have hd0 : ∀ x, (Array.ofFn (n := sz) fun x => rotF s m e d x)[x]! = rotF s m e d x ∨ True := fun _ => .inr trivial
                obtain ⟨⟨y1, y2⟩, y3⟩ := hY
                have := hB.out.le
                have := he
                omega
              replace hmid := Aside0.mk hmid
              replace he := Aside0.mk he
              replace hspl := Aside0.mk hspl; replace hY := Aside0.mk hY
              by_cases hrot : s < m ∧ m < e
              · obtain ⟨hr1, hr2⟩ := hrot
                have r1 : (s : Int) < (m : Int) := by omega
                have r2 : (m : Int) < (e : Int) := by omega
                have hrc := rotate_calls enc w0 blk off cap d0 d k hk8.out HR.out hds.out (by have := hz.out; omega) s m e hr1 hr2 (by have := hz.out; omega) (.func (.func g) #[] cb) wr hS.out
                rw [hz.out] at hrc
                replace hrc := Aside0.mk hrc
                go_wp2_with fail
                with_reducible refine hrc.out.mono ?_
                rintro e2 w2 ⟨d1, rfl, hS1, hF1, hP1⟩
                have hsp := hspl.out d1 hF1
                have hP1' := permIn_mono d d1 s e a b (by omega) (by omega) (by have := hz.out; omega) hP1
                have hz1 : d1.size = sz := by rw [hP1.1, hz.out]
                clear hF1 hP1
                replace hS := Aside0.mk hS1
                clear hS1
                replace hsp := Aside0.mk hsp; replace hP1' := Aside0.mk hP1'; replace hz1 := Aside0.mk hz1
                by_cases hl : a < s ∧ s < mid
                · obtain ⟨hl1, hl2⟩ := hl
                  have l1 : (a : Int) < (s : Int) := by omega
                  have l2 : (s : Int) < (mid : Int) := by omega
                  have hc1 := fun W h => HIH.out a s mid d1 W (by have := hmid.out; omega) hl1 hl2 (by omega) hz1.out h hsp.out.1 hsp.out.2.1 hsp.out.2.2.2.2.1
                  replace hc1 := Aside0.mk hc1
                  go_wp2_with fail
                  with_reducible refine (hc1.out _ hS.out).mono ?_
                  rintro e3 w3 ⟨d2, rfl, hS2, hP2, hQ2⟩
                  replace hS2 := Aside0.mk hS2
                  replace hP2 := Aside0.mk hP2; replace hQ2 := Aside0.mk hQ2
                  by_cases hr : mid < e ∧ e < b
                  · obtain ⟨hr1, hr2⟩ := hr
                    have rr1 : (mid : Int) < (e : Int) := by omega
                    have rr2 : (e : Int) < (b : Int) := by omega
                    have hc2 := fun W h => HIH.out mid e b d2 W (by have := hmid.out; omega) hr1 hr2 hb (by rw [hP2.out.1, hz1.out]) h (SortedIn.outside hsp.out.2.2.1 hP2.out (.inr (Nat.le_refl _))) (SortedIn.outside hsp.out.2.2.2.1 hP2.out (.inr (by omega))) (Cross.outside hsp.out.2.2.2.2.2.1 hP2.out (.inr (Nat.le_refl _)))
                    replace hc2 := Aside0.mk hc2
                    go_wp2_with fail
                    all_goals with_reducible refine (hc2.out _ hS2.out).mono ?_
                    all_goals rintro e4 w4 ⟨d3, rfl, hS3, hP3, hQ3⟩
                    all_goals replace hS3 := Aside0.mk hS3
                    all_goals
                      replace hP3 := Aside0.mk hP3; replace hQ3 := Aside0.mk hQ3
                    all_goals go_wp2_with fail
                    all_goals first | go_end0 | go_ret
                    all_goals have hf := sym_final (by have := hz.out; omega) (by omega) (by omega) hP1'.out hsp.out.2.2.2.2.2.2.1 hP2.out hQ2.out hP3.out hQ3.out
                    all_goals exact ⟨d3, rfl, hS3.out, hf.1, hf.2⟩
                  · have hQ3 : SortedIn L mid b d2 := by
                      by_cases h3 : mid < e
                      · have h4 : e = b := by omega
                        have := SortedIn.outside hsp.out.2.2.1 hP2.out (.inr (Nat.le_refl _)); rw [h4] at this; exact this
                      · have h4 : e = mid := by omega
                        have := SortedIn.outside hsp.out.2.2.2.1 hP2.out (.inr (by omega)); rw [h4] at this; exact this
                    have hf := sym_final (by have := hz.out; omega) (by omega) (by omega) hP1'.out hsp.out.2.2.2.2.2.2.1 hP2.out hQ2.out (permIn_refl d2 mid b) hQ3
                    have hnr2 : ¬ (mid : Int) < (e : Int) ∨ ((mid : Int) < (e : Int) ∧ ¬ (e : Int) < (b : Int)) := by omega
                    clear hr hQ3
                    replace hf := Aside0.mk hf
                    rcases hnr2 with hq1 | ⟨hq1, hq2⟩
                    · go_wp2_with fail
                      all_goals first | go_end0 | go_ret
                      all_goals exact ⟨d2, rfl, hS2.out, hf.out.1, hf.out.2⟩
                    · go_wp2_with fail
                      all_goals first | go_end0 | go_ret
                      all_goals exact ⟨d2, rfl, hS2.out, hf.out.1, hf.out.2⟩
                · have hQ2 : SortedIn L a mid d1 := by
                    by_cases h3 : a < s
                    · have h4 : s = mid := by omega
                      have := hsp.out.1; rw [h4] at this; exact this
                    · have h4 : s = a := by omega
                      have := hsp.out.2.1; rw [h4] at this; exact this
                  have hP2 := permIn_refl d1 a mid
                  have hnl : ¬ (a : Int) < (s : Int) ∨ ((a : Int) < (s : Int) ∧ ¬ (s : Int) < (mid : Int)) := by omega
                  obtain ⟨d2, hd2⟩ : ∃ d2, d2 = d1 := ⟨_, rfl⟩
                  have hS2 : Aside0 (SWK enc k w0 blk off d2 _) := ⟨by rw [hd2]; exact hS.out⟩
                  rw [← hd2] at hQ2
                  have hP2 : PermIn a mid d1 d2 := by rw [hd2]; exact hP2
                  clear hl
                  replace hP2 := Aside0.mk hP2; replace hQ2 := Aside0.mk hQ2; replace hd2 := Aside0.mk hd2
                  rcases hnl with hnl | ⟨hnl, hnl2⟩
                  · by_cases hr : mid < e ∧ e < b
                    · obtain ⟨hr1, hr2⟩ := hr
                      have rr1 : (mid : Int) < (e : Int) := by omega
                      have rr2 : (e : Int) < (b : Int) := by omega
                      have hc2 := fun W h => HIH.out mid e b d2 W (by have := hmid.out; omega) hr1 hr2 hb (by rw [hP2.out.1, hz1.out]) h (SortedIn.outside hsp.out.2.2.1 hP2.out (.inr (Nat.le_refl _))) (SortedIn.outside hsp.out.2.2.2.1 hP2.out (.inr (by omega))) (Cross.outside hsp.out.2.2.2.2.2.1 hP2.out (.inr (Nat.le_refl _)))
                      replace hc2 := Aside0.mk hc2
                      go_wp2_with fail
                      all_goals with_reducible refine (hc2.out _ hS2.out).mono ?_
                      all_goals rintro e4 w4 ⟨d3, rfl, hS3, hP3, hQ3⟩
                      all_goals replace hS3 := Aside0.mk hS3
                      all_goals
                        replace hP3 := Aside0.mk hP3; replace hQ3 := Aside0.mk hQ3
                      all_goals go_wp2_with fail
                      all_goals first | go_end0 | go_ret
                      all_goals have hf := sym_final (by have := hz.out; omega) (by omega) (by omega) hP1'.out hsp.out.2.2.2.2.2.2.1 hP2.out hQ2.out hP3.out hQ3.out
                      all_goals exact ⟨d3, rfl, hS3.out, hf.1, hf.2⟩
                    · have hQ3 : SortedIn L mid b d2 := by
                        by_cases h3 : mid < e
                        · have h4 : e = b := by omega
                          have := SortedIn.outside hsp.out.2.2.1 hP2.out (.inr (Nat.le_refl _)); rw [h4] at this; exact this
                        · have h4 : e = mid := by omega
                          have := SortedIn.outside hsp.out.2.2.2.1 hP2.out (.inr (by omega)); rw [h4] at this; exact this
                      have hf := sym_final (by have := hz.out; omega) (by omega) (by omega) hP1'.out hsp.out.2.2.2.2.2.2.1 hP2.out hQ2.out (permIn_refl d2 mid b) hQ3
                      have hnr2 : ¬ (mid : Int) < (e : Int) ∨ ((mid : Int) < (e : Int) ∧ ¬ (e : Int) < (b : Int)) := by omega
                      clear hr hQ3
                      replace hf := Aside0.mk hf
                      rcases hnr2 with hq1 | ⟨hq1, hq2⟩
                      · go_wp2_with fail
                        all_goals first | go_end0 | go_ret
                        all_goals exact ⟨d2, rfl, hS2.out, hf.out.1, hf.out.2⟩
                      · go_wp2_with fail
                        all_goals first | go_end0 | go_ret
                        all_goals exact ⟨d2, rfl, hS2.out, hf.out.1, hf.out.2⟩
                  · by_cases hr : mid < e ∧ e < b
                    · obtain ⟨hr1, hr2⟩ := hr
                      have rr1 : (mid : Int) < (e : Int) := by omega
                      have rr2 : (e : Int) < (b : Int) := by omega
                      have hc2 := fun W h => HIH.out mid e b d2 W (by have := hmid.out; omega) hr1 hr2 hb (by rw [hP2.out.1, hz1.out]) h (SortedIn.outside hsp.out.2.2.1 hP2.out (.inr (Nat.le_refl _))) (SortedIn.outside hsp.out.2.2.2.1 hP2.out (.inr (by omega))) (Cross.outside hsp.out.2.2.2.2.2.1 hP2.out (.inr (Nat.le_refl _)))
                      replace hc2 := Aside0.mk hc2
                      go_wp2_with fail
                      all_goals with_reducible refine (hc2.out _ hS2.out).mono ?_
                      all_goals rintro e4 w4 ⟨d3, rfl, hS3, hP3, hQ3⟩
                      all_goals replace hS3 := Aside0.mk hS3
                      all_goals
                        replace hP3 := Aside0.mk hP3; replace hQ3 := Aside0.mk hQ3
                      all_goals go_wp2_with fail
                      all_goals first | go_end0 | go_ret
                      all_goals have hf := sym_final (by have := hz.out; omega) (by omega) (by omega) hP1'.out hsp.out.2.2.2.2.2.2.1 hP2.out hQ2.out hP3.out hQ3.out
                      all_goals exact ⟨d3, rfl, hS3.out, hf.1, hf.2⟩
                    · have hQ3 : SortedIn L mid b d2 := by
                        by_cases h3 : mid < e
                        · have h4 : e = b := by omega
                          have := SortedIn.outside hsp.out.2.2.1 hP2.out (.inr (Nat.le_refl _)); rw [h4] at this; exact this
                        · have h4 : e = mid := by omega
                          have := SortedIn.outside hsp.out.2.2.2.1 hP2.out (.inr (by omega)); rw [h4] at this; exact this
                      have hf := sym_final (by have := hz.out; omega) (by omega) (by omega) hP1'.out hsp.out.2.2.2.2.2.2.1 hP2.out hQ2.out (permIn_refl d2 mid b) hQ3
                      have hnr2 : ¬ (mid : Int) < (e : Int) ∨ ((mid : Int) < (e : Int) ∧ ¬ (e : Int) < (b : Int)) := by omega
                      clear hr hQ3
                      replace hf := Aside0.mk hf
                      rcases hnr2 with hq1 | ⟨hq1, hq2⟩
                      · go_wp2_with fail
                        all_goals first | go_end0 | go_ret
                        all_goals exact ⟨d2, rfl, hS2.out, hf.out.1, hf.out.2⟩
                      · go_wp2_with fail
                        all_goals first | go_end0 | go_ret
                        all_goals exact ⟨d2, rfl, hS2.out, hf.out.1, hf.out.2⟩
              · have hsp := hspl.out d (fun x => (rotF_none (by simpa using hrot) hsm.1 hsm.2.1 x).symm)
                have hP1' := permIn_refl d a b
                have hnr : ¬ (s : Int) < (m : Int) ∨ ((s : Int) < (m : Int) ∧ ¬ (m : Int) < (e : Int)) := by omega
                obtain ⟨d1, hd1⟩ : ∃ d1, d1 = d := ⟨_, rfl⟩
                rw [← hd1] at hsp hS
                have hP1' : PermIn a b d d1 := by rw [hd1]; exact hP1'
                have hz1 : d1.size = sz := by rw [hd1, hz.out]
                clear hrot
                replace hsp := Aside0.mk hsp; replace hP1' := Aside0.mk hP1'; replace hz1 := Aside0.mk hz1; replace hd1 := Aside0.mk hd1
                rcases hnr with hnr | ⟨hnr, hnr2⟩
                · by_cases hl : a < s ∧ s < mid
                  · obtain ⟨hl1, hl2⟩ := hl
                    have l1 : (a : Int) < (s : Int) := by omega
                    have l2 : (s : Int) < (mid : Int) := by omega
                    have hc1 := fun W h => HIH.out a s mid d1 W (by have := hmid.out; omega) hl1 hl2 (by omega) hz1.out h hsp.out.1 hsp.out.2.1 hsp.out.2.2.2.2.1
                    replace hc1 := Aside0.mk hc1
                    go_wp2_with fail
                    with_reducible refine (hc1.out _ hS.out).mono ?_
                    rintro e3 w3 ⟨d2, rfl, hS2, hP2, hQ2⟩
                    replace hS2 := Aside0.mk hS2
                    replace hP2 := Aside0.mk hP2; replace hQ2 := Aside0.mk hQ2
                    by_cases hr : mid < e ∧ e < b
                    · obtain ⟨hr1, hr2⟩ := hr
                      have rr1 : (mid : Int) < (e : Int) := by omega
                      have rr2 : (e : Int) < (b : Int) := by omega
                      have hc2 := fun W h => HIH.out mid e b d2 W (by have := hmid.out; omega) hr1 hr2 hb (by rw [hP2.out.1, hz1.out]) h (SortedIn.outside hsp.out.2.2.1 hP2.out (.inr (Nat.le_refl _))) (SortedIn.outside hsp.out.2.2.2.1 hP2.out (.inr (by omega))) (Cross.outside hsp.out.2.2.2.2.2.1 hP2.out (.inr (Nat.le_refl _)))
                      replace hc2 := Aside0.mk hc2
                      go_wp2_with fail
                      all_goals with_reducible refine (hc2.out _ hS2.out).mono ?_
                      all_goals rintro e4 w4 ⟨d3, rfl, hS3, hP3, hQ3⟩
                      all_goals replace hS3 := Aside0.mk hS3
                      all_goals
                        replace hP3 := Aside0.mk hP3; replace hQ3 := Aside0.mk hQ3
                      all_goals go_wp2_with fail
                      all_goals first | go_end0 | go_ret
                      all_goals have hf := sym_final (by have := hz.out; omega) (by omega) (by omega) hP1'.out hsp.out.2.2.2.2.2.2.1 hP2.out hQ2.out hP3.out hQ3.out
                      all_goals exact ⟨d3, rfl, hS3.out, hf.1, hf.2⟩
                    · have hQ3 : SortedIn L mid b d2 := by
                        by_cases h3 : mid < e
                        · have h4 : e = b := by omega
                          have := SortedIn.outside hsp.out.2.2.1 hP2.out (.inr (Nat.le_refl _)); rw [h4] at this; exact this
                        · have h4 : e = mid := by omega
                          have := SortedIn.outside hsp.out.2.2.2.1 hP2.out (.inr (by omega)); rw [h4] at this; exact this
                      have hf := sym_final (by have := hz.out; omega) (by omega) (by omega) hP1'.out hsp.out.2.2.2.2.2.2.1 hP2.out hQ2.out (permIn_refl d2 mid b) hQ3
                      have hnr2 : ¬ (mid : Int) < (e : Int) ∨ ((mid : Int) < (e : Int) ∧ ¬ (e : Int) < (b : Int)) := by omega
                      clear hr hQ3
                      replace hf := Aside0.mk hf
                      rcases hnr2 with hq1 | ⟨hq1, hq2⟩
                      · go_wp2_with fail
                        all_goals first | go_end0 | go_ret
                        all_goals exact ⟨d2, rfl, hS2.out, hf.out.1, hf.out.2⟩
                      · go_wp2_with fail
                        all_goals first | go_end0 | go_ret
                        all_goals exact ⟨d2, rfl, hS2.out, hf.out.1, hf.out.2⟩
                  · have hQ2 : SortedIn L a mid d1 := by
                      by_cases h3 : a < s
                      · have h4 : s = mid := by omega
                        have := hsp.out.1; rw [h4] at this; exact this
                      · have h4 : s = a := by omega
                        have := hsp.out.2.1; rw [h4] at this; exact this
                    have hP2 := permIn_refl d1 a mid
                    have hnl : ¬ (a : Int) < (s : Int) ∨ ((a : Int) < (s : Int) ∧ ¬ (s : Int) < (mid : Int)) := by omega
                    obtain ⟨d2, hd2⟩ : ∃ d2, d2 = d1 := ⟨_, rfl⟩
                    have hS2 : Aside0 (SWK enc k w0 blk off d2 _) := ⟨by rw [hd2]; exact hS.out⟩
                    rw [← hd2] at hQ2
                    have hP2 : PermIn a mid d1 d2 := by rw [hd2]; exact hP2
                    clear hl
                    replace hP2 := Aside0.mk hP2; replace hQ2 := Aside0.mk hQ2; replace hd2 := Aside0.mk hd2
                    rcases hnl with hnl | ⟨hnl, hnl2⟩
                    · by_cases hr : mid < e ∧ e < b
                      · obtain ⟨hr1, hr2⟩ := hr
                        have rr1 : (mid : Int) < (e : Int) := by omega
                        have rr2 : (e : Int) < (b : Int) := by omega
                        have hc2 := fun W h => HIH.out mid e b d2 W (by have := hmid.out; omega) hr1 hr2 hb (by rw [hP2.out.1, hz1.out]) h (SortedIn.outside hsp.out.2.2.1 hP2.out (.inr (Nat.le_refl _))) (SortedIn.outside hsp.out.2.2.2.1 hP2.out (.inr (by omega))) (Cross.outside hsp.out.2.2.2.2.2.1 hP2.out (.inr (Nat.le_refl _)))
                        replace hc2 := Aside0.mk hc2
                        go_wp2_with fail
                        all_goals with_reducible refine (hc2.out _ hS2.out).mono ?_
                        all_goals rintro e4 w4 ⟨d3, rfl, hS3, hP3, hQ3⟩
                        all_goals replace hS3 := Aside0.mk hS3
                        all_goals
                          replace hP3 := Aside0.mk hP3; replace hQ3 := Aside0.mk hQ3
                        all_goals go_wp2_with fail
                        all_goals first | go_end0 | go_ret
                        all_goals have hf := sym_final (by have := hz.out; omega) (by omega) (by omega) hP1'.out hsp.out.2.2.2.2.2.2.1 hP2.out hQ2.out hP3.out hQ3.out
                        all_goals exact ⟨d3, rfl, hS3.out, hf.1, hf.2⟩
                      · have hQ3 : SortedIn L mid b d2 := by
                          by_cases h3 : mid < e
                          · have h4 : e = b := by omega
                            have := SortedIn.outside hsp.out.2.2.1 hP2.out (.inr (Nat.le_refl _)); rw [h4] at this; exact this
                          · have h4 : e = mid := by omega
                            have := SortedIn.outside hsp.out.2.2.2.1 hP2.out (.inr (by omega)); rw [h4] at this; exact this
                        have hf := sym_final (by have := hz.out; omega) (by omega) (by omega) hP1'.out hsp.out.2.2.2.2.2.2.1 hP2.out hQ2.out (permIn_refl d2 mid b) hQ3
                        have hnr2 : ¬ (mid : Int) < (e : Int) ∨ ((mid : Int) < (e : Int) ∧ ¬ (e : Int) < (b : Int)) := by omega
                        clear hr hQ3
                        replace hf := Aside0.mk hf
                        rcases hnr2 with hq1 | ⟨hq1, hq2⟩
                        · go_wp2_with fail
                          all_goals first | go_end0 | go_ret
                          all_goals exact ⟨d2, rfl, hS2.out, hf.out.1, hf.out.2⟩
                        · go_wp2_with fail
                          all_goals first | go_end0 | go_ret
                          all_goals exact ⟨d2, rfl, hS2.out, hf.out.1, hf.out.2⟩
                    · by_cases hr : mid < e ∧ e < b
                      · obtain ⟨hr1, hr2⟩ := hr
                        have rr1 : (mid : Int) < (e : Int) := by omega
                        have rr2 : (e : Int) < (b : Int) := by omega
                        have hc2 := fun W h => HIH.out mid e b d2 W (by have := hmid.out; omega) hr1 hr2 hb (by rw [hP2.out.1, hz1.out]) h (SortedIn.outside hsp.out.2.2.1 hP2.out (.inr (Nat.le_refl _))) (SortedIn.outside hsp.out.2.2.2.1 hP2.out (.inr (by omega))) (Cross.outside hsp.out.2.2.2.2.2.1 hP2.out (.inr (Nat.le_refl _)))
                        replace hc2 := Aside0.mk hc2
                        go_wp2_with fail
                        all_goals with_reducible refine (hc2.out _ hS2.out).mono ?_
                        all_goals rintro e4 w4 ⟨d3, rfl, hS3, hP3, hQ3⟩
                        all_goals replace hS3 := Aside0.mk hS3
                        all_goals
                          replace hP3 := Aside0.mk hP3; replace hQ3 := Aside0.mk hQ3
                        all_goals go_wp2_with fail
                        all_goals first | go_end0 | go_ret
                        all_goals have hf := sym_final (by have := hz.out; omega) (by omega) (by omega) hP1'.out hsp.out.2.2.2.2.2.2.1 hP2.out hQ2.out hP3.out hQ3.out
                        all_goals exact ⟨d3, rfl, hS3.out, hf.1, hf.2⟩
                      · have hQ3 : SortedIn L mid b d2 := by
                          by_cases h3 : mid < e
                          · have h4 : e = b := by omega
                            have := SortedIn.outside hsp.out.2.2.1 hP2.out (.inr (Nat.le_refl _)); rw [h4] at this; exact this
                          · have h4 : e = mid := by omega
                            have := SortedIn.outside hsp.out.2.2.2.1 hP2.out (.inr (by omega)); rw [h4] at this; exact this
                        have hf := sym_final (by have := hz.out; omega) (by omega) (by omega) hP1'.out hsp.out.2.2.2.2.2.2.1 hP2.out hQ2.out (permIn_refl d2 mid b) hQ3
                        have hnr2 : ¬ (mid : Int) < (e : Int) ∨ ((mid : Int) < (e : Int) ∧ ¬ (e : Int) < (b : Int)) := by omega
                        clear hr hQ3
                        replace hf := Aside0.mk hf
                        rcases hnr2 with hq1 | ⟨hq1, hq2⟩
                        · go_wp2_with fail
                          all_goals first | go_end0 | go_ret
                          all_goals exact ⟨d2, rfl, hS2.out, hf.out.1, hf.out.2⟩
                        · go_wp2_with fail
                          all_goals first | go_end0 | go_ret
                          all_goals exact ⟨d2, rfl, hS2.out, hf.out.1, hf.out.2⟩
                · by_cases hl : a < s ∧ s < mid
                  · obtain ⟨hl1, hl2⟩ := hl
                    have l1 : (a : Int) < (s : Int) := by omega
                    have l2 : (s : Int) < (mid : Int) := by omega
                    have hc1 := fun W h => HIH.out a s mid d1 W (by have := hmid.out; omega) hl1 hl2 (by omega) hz1.out h hsp.out.1 hsp.out.2.1 hsp.out.2.2.2.2.1
                    replace hc1 := Aside0.mk hc1
                    go_wp2_with fail
                    with_reducible refine (hc1.out _ hS.out).mono ?_
                    rintro e3 w3 ⟨d2, rfl, hS2, hP2, hQ2⟩
                    replace hS2 := Aside0.mk hS2
                    replace hP2 := Aside0.mk hP2; replace hQ2 := Aside0.mk hQ2
                    by_cases hr : mid < e ∧ e < b
                    · obtain ⟨hr1, hr2⟩ := hr
                      have rr1 : (mid : Int) < (e : Int) := by omega
                      have rr2 : (e : Int) < (b : Int) := by omega
                      have hc2 := fun W h => HIH.out mid e b d2 W (by have := hmid.out; omega) hr1 hr2 hb (by rw [hP2.out.1, hz1.out]) h (SortedIn.outside hsp.out.2.2.1 hP2.out (.inr (Nat.le_refl _))) (SortedIn.outside hsp.out.2.2.2.1 hP2.out (.inr (by omega))) (Cross.outside hsp.out.2.2.2.2.2.1 hP2.out (.inr (Nat.le_refl _)))
                      replace hc2 := Aside0.mk hc2
                      go_wp2_with fail
                      all_goals with_reducible refine (hc2.out _ hS2.out).mono ?_
                      all_goals rintro e4 w4 ⟨d3, rfl, hS3, hP3, hQ3⟩
                      all_goals replace hS3 := Aside0.mk hS3
                      all_goals
                        replace hP3 := Aside0.mk hP3; replace hQ3 := Aside0.mk hQ3
                      all_goals go_wp2_with fail
                      all_goals first | go_end0 | go_ret
                      all_goals have hf := sym_final (by have := hz.out; omega) (by omega) (by omega) hP1'.out hsp.out.2.2.2.2.2.2.1 hP2.out hQ2.out hP3.out hQ3.out
                      all_goals exact ⟨d3, rfl, hS3.out, hf.1, hf.2⟩
                    · have hQ3 : SortedIn L mid b d2 := by
                        by_cases h3 : mid < e
                        · have h4 : e = b := by omega
                          have := SortedIn.outside hsp.out.2.2.1 hP2.out (.inr (Nat.le_refl _)); rw [h4] at this; exact this
                        · have h4 : e = mid := by omega
                          have := SortedIn.outside hsp.out.2.2.2.1 hP2.out (.inr (by omega)); rw [h4] at this; exact this
                      have hf := sym_final (by have := hz.out; omega) (by omega) (by omega) hP1'.out hsp.out.2.2.2.2.2.2.1 hP2.out hQ2.out (permIn_refl d2 mid b) hQ3
                      have hnr2 : ¬ (mid : Int) < (e : Int) ∨ ((mid : Int) < (e : Int) ∧ ¬ (e : Int) < (b : Int)) := by omega
                      clear hr hQ3
                      replace hf := Aside0.mk hf
                      rcases hnr2 with hq1 | ⟨hq1, hq2⟩
                      · go_wp2_with fail
                        all_goals first | go_end0 | go_ret
                        all_goals exact ⟨d2, rfl, hS2.out, hf.out.1, hf.out.2⟩
                      · go_wp2_with fail
                        all_goals first | go_end0 | go_ret
                        all_goals exact ⟨d2, rfl, hS2.out, hf.out.1, hf.out.2⟩
                  · have hQ2 : SortedIn L a mid d1 := by
                      by_cases h3 : a < s
                      · have h4 : s = mid := by omega
                        have := hsp.out.1; rw [h4] at this; exact this
                      · have h4 : s = a := by omega
                        have := hsp.out.2.1; rw [h4] at this; exact this
                    have hP2 := permIn_refl d1 a mid
                    have hnl : ¬ (a : Int) < (s : Int) ∨ ((a : Int) < (s : Int) ∧ ¬ (s : Int) < (mid : Int)) := by omega
                    obtain ⟨d2, hd2⟩ : ∃ d2, d2 = d1 := ⟨_, rfl⟩
                    have hS2 : Aside0 (SWK enc k w0 blk off d2 _) := ⟨by rw [hd2]; exact hS.out⟩
                    rw [← hd2] at hQ2
                    have hP2 : PermIn a mid d1 d2 := by rw [hd2]; exact hP2
                    clear hl
                    replace hP2 := Aside0.mk hP2; replace hQ2 := Aside0.mk hQ2; replace hd2 := Aside0.mk hd2
                    rcases hnl with hnl | ⟨hnl, hnl2⟩
                    · by_cases hr : mid < e ∧ e < b
                      · obtain ⟨hr1, hr2⟩ := hr
                        have rr1 : (mid : Int) < (e : Int) := by omega
                        have rr2 : (e : Int) < (b : Int) := by omega
                        have hc2 := fun W h => HIH.out mid e b d2 W (by have := hmid.out; omega) hr1 hr2 hb (by rw [hP2.out.1, hz1.out]) h (SortedIn.outside hsp.out.2.2.1 hP2.out (.inr (Nat.le_refl _))) (SortedIn.outside hsp.out.2.2.2.1 hP2.out (.inr (by omega))) (Cross.outside hsp.out.2.2.2.2.2.1 hP2.out (.inr (Nat.le_refl _)))
                        replace hc2 := Aside0.mk hc2
                        go_wp2_with fail
                        all_goals with_reducible refine (hc2.out _ hS2.out).mono ?_
                        all_goals rintro e4 w4 ⟨d3, rfl, hS3, hP3, hQ3⟩
                        all_goals replace hS3 := Aside0.mk hS3
                        all_goals
                          replace hP3 := Aside0.mk hP3; replace hQ3 := Aside0.mk hQ3
                        all_goals go_wp2_with fail
                        all_goals first | go_end0 | go_ret
                        all_goals have hf := sym_final (by have := hz.out; omega) (by omega) (by omega) hP1'.out hsp.out.2.2.2.2.2.2.1 hP2.out hQ2.out hP3.out hQ3.out
                        all_goals exact ⟨d3, rfl, hS3.out, hf.1, hf.2⟩
                      · have hQ3 : SortedIn L mid b d2 := by
                          by_cases h3 : mid < e
                          · have h4 : e = b := by omega
                            have := SortedIn.outside hsp.out.2.2.1 hP2.out (.inr (Nat.le_refl _)); rw [h4] at this; exact this
                          · have h4 : e = mid := by omega
                            have := SortedIn.outside hsp.out.2.2.2.1 hP2.out (.inr (by omega)); rw [h4] at this; exact this
                        have hf := sym_final (by have := hz.out; omega) (by omega) (by omega) hP1'.out hsp.out.2.2.2.2.2.2.1 hP2.out hQ2.out (permIn_refl d2 mid b) hQ3
                        have hnr2 : ¬ (mid : Int) < (e : Int) ∨ ((mid : Int) < (e : Int) ∧ ¬ (e : Int) < (b : Int)) := by omega
                        clear hr hQ3
                        replace hf := Aside0.mk hf
                        rcases hnr2 with hq1 | ⟨hq1, hq2⟩
                        · go_wp2_with fail
                          all_goals first | go_end0 | go_ret
                          all_goals exact ⟨d2, rfl, hS2.out, hf.out.1, hf.out.2⟩
                        · go_wp2_with fail
                          all_goals first | go_end0 | go_ret
                          all_goals exact ⟨d2, rfl, hS2.out, hf.out.1, hf.out.2⟩
                    · by_cases hr : mid < e ∧ e < b
                      · obtain ⟨hr1, hr2⟩ := hr
                        have rr1 : (mid : Int) < (e : Int) := by omega
                        have rr2 : (e : Int) < (b : Int) := by omega
                        have hc2 := fun W h => HIH.out mid e b d2 W (by have := hmid.out; omega) hr1 hr2 hb (by rw [hP2.out.1, hz1.out]) h (SortedIn.outside hsp.out.2.2.1 hP2.out (.inr (Nat.le_refl _))) (SortedIn.outside hsp.out.2.2.2.1 hP2.out (.inr (by omega))) (Cross.outside hsp.out.2.2.2.2.2.1 hP2.out (.inr (Nat.le_refl _)))
                        replace hc2 := Aside0.mk hc2
                        go_wp2_with fail
                        all_goals with_reducible refine (hc2.out _ hS2.out).mono ?_
                        all_goals rintro e4 w4 ⟨d3, rfl, hS3, hP3, hQ3⟩
                        all_goals replace hS3 := Aside0.mk hS3
                        all_goals
                          replace hP3 := Aside0.mk hP3; replace hQ3 := Aside0.mk hQ3
                        all_goals go_wp2_with fail
                        all_goals first | go_end0 | go_ret
                        all_goals have hf := sym_final (by have := hz.out; omega) (by omega) (by omega) hP1'.out hsp.out.2.2.2.2.2.2.1 hP2.out hQ2.out hP3.out hQ3.out
                        all_goals exact ⟨d3, rfl, hS3.out, hf.1, hf.2⟩
                      · have hQ3 : SortedIn L mid b d2 := by
                          by_cases h3 : mid < e
                          · have h4 : e = b := by omega
                            have := SortedIn.outside hsp.out.2.2.1 hP2.out (.inr (Nat.le_refl _)); rw [h4] at this; exact this
                          · have h4 : e = mid := by omega
                            have := SortedIn.outside hsp.out.2.2.2.1 hP2.out (.inr (by omega)); rw [h4] at this; exact this
                        have hf := sym_final (by have := hz.out; omega) (by omega) (by omega) hP1'.out hsp.out.2.2.2.2.2.2.1 hP2.out hQ2.out (permIn_refl d2 mid b) hQ3
                        have hnr2 : ¬ (mid : Int) < (e : Int) ∨ ((mid : Int) < (e : Int) ∧ ¬ (e : Int) < (b : Int)) := by omega
                        clear hr hQ3
                        replace hf := Aside0.mk hf
                        rcases hnr2 with hq1 | ⟨hq1, hq2⟩
                        · go_wp2_with fail
                          all_goals first | go_end0 | go_ret
                          all_goals exact ⟨d2, rfl, hS2.out, hf.out.1, hf.out.2⟩
                        · go_wp2_with fail
                          all_goals first | go_end0 | go_ret
                          all_goals exact ⟨d2, rfl, hS2.out, hf.out.1, hf.out.2⟩
end Go.Proofs.YtpnjhffnlafabaaGreatDoor.St
