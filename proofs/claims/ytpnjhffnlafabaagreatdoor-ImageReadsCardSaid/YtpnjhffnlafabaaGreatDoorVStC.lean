/- slices.SortStableFunc at tasks: the blocks. -/
import Derived.Test.YtpnjhffnlafabaaGreatDoorVS4
namespace Go.Proofs.YtpnjhffnlafabaaGreatDoor.St
set_option linter.unusedVariables false
set_option linter.unusedSimpArgs false
open Go.Shelf Go.RowKit Go.Lib Go.Sort Go.Proofs.Sy Go.Proofs.YtpnjhffnlafabaaGreatDoorW.PrintWords
variable {α : Type} [Inhabited α]
def BB (L : α → α → Bool) (s x n : Nat) (d : Array α) : Prop := ∀ q, q * s < x → SortedIn L (q * s) (min (q * s + s) n) d
def RB (L : α → α → Bool) (s a n : Nat) (d : Array α) : Prop := ∀ q, a ≤ q * s → SortedIn L (q * s) (min (q * s + s) n) d
theorem bb_step {L : α → α → Bool} {s c n e : Nat} {d d' : Array α} (s0 : 0 < s) (h : BB L s (c * s) n d) (p : PermIn (c * s) e d d') (hs : SortedIn L (c * s) (min (c * s + s) n) d') : BB L s (c * s + s) n d' := by
  intro q hq
  by_cases hqc : q = c
  · subst hqc; exact hs
  · have h1 : q < c + 1 := Nat.lt_of_mul_lt_mul_right (a := s) (by rw [Nat.succ_mul]; exact hq)
    have h2 : (q + 1) * s ≤ c * s := Nat.mul_le_mul_right s (by omega)
    rw [Nat.succ_mul] at h2
    exact Go.Proofs.Sy.SortedIn.outside (h q (by omega)) p (.inl (by omega))
theorem rb_step {L : α → α → Bool} {s a a' n e : Nat} {d d' : Array α} (h : RB L s a n d) (p : PermIn a e d d') (ha : a ≤ a') (he : e ≤ a') : RB L s a' n d' :=
  fun q hq => Go.Proofs.Sy.SortedIn.outside (h q (by omega)) p (.inr (by omega))
theorem rb_start {L : α → α → Bool} {s n : Nat} {d : Array α} (h : BB L s n n d) : RB L s 0 n d := fun q _ => by
  by_cases hq : q * s < n
  · exact h q hq
  · exact Go.Proofs.Sy.SortedIn.tiny (by omega)
theorem bb_all {L : α → α → Bool} {s x n : Nat} {d : Array α} (h : BB L s x n d) (hx : n ≤ x) : BB L s n n d := fun q hq => h q (by omega)
theorem rb_get {L : α → α → Bool} {s c A n : Nat} {d : Array α} (h : RB L s A n d) (hA : c * (2 * s) = A) : SortedIn L A (min (A + s) n) d ∧ SortedIn L (A + s) (min (A + s + s) n) d := by
  have h1 : 2 * c * s = A := by rw [← hA, Nat.mul_comm 2 c, Nat.mul_assoc]
  have h2 : (2 * c + 1) * s = A + s := by rw [Nat.succ_mul, h1]
  constructor
  · have := h (2 * c) (by omega); rw [h1] at this; exact this
  · have := h (2 * c + 1) (by omega); rw [h2] at this; exact this
theorem perm_cut {a b n : Nat} {d d' : Array α} (p : PermIn a b d d') (hb : b ≤ n) (hn : n ≤ d.size) : PermIn 0 n d d' := permIn_mono _ _ _ _ _ _ (Nat.zero_le _) hb hn p
set_option maxHeartbeats 8000000 in
set_option maxRecDepth 1000000 in
theorem stable_calls (enc : α → List Value) (w0 : World) (blk off cap sz : Nat) (d0 : Array α) (k : Nat) (hk8 : k = 8) (R : RowK enc k w0 blk off d0) (hz0 : d0.size = sz) (hsz : sz < 1152921504606846976)
    (cf : α → α → Int) (g : Nat) (cb : Array Value) (hcmp : CmpLays Tryz.prog g cb enc k cf blk off sz w0) (eg : ∀ args w, (callFunc g args).run Tryz.prog w = .ok (.enter g args) w) (hL : SWO (ltOf cf)) (d : Array α) (W : World) (hz : d.size = sz) (hW : SWK enc k w0 blk off d W) :
    Calls Tryz.prog 97 #[.slice (some ⟨blk, off, none⟩) sz cap, .int .i64 sz, .func (.func g) #[] cb] W (SymPost k enc (ltOf cf) w0 blk off 0 sz d) := by
  have mixed := Tryz.isT.mixed
  have aE := Tryz.isAgg59
  have zE : ∀ w, (Go.sizeOf 59).run Tryz.prog w = .ok k w := by rw [hk8]; exact Tryz.sizeOf59
  have hins : ∀ (dk : Array α) (a b : Nat) (wr : World), dk.size = sz → a ≤ b → b ≤ sz → SWK enc k w0 blk off dk wr →
      Calls Tryz.prog 119 #[.slice (some ⟨blk, off, none⟩) sz cap, .int .i64 a, .int .i64 b, .func (.func g) #[] cb] wr (SymPost k enc (ltOf cf) w0 blk off a b dk) := by
    intro dk a b wr h1 h2 h3 h4
    have hc := AnyQ.insertionSortCmpFunc_w (P := Tryz.prog) (ρ := Tryz.isT_ren) Tryz.isT k aE zE enc cf g cb blk off cap a b d0 dk w0 wr eg (by rw [hz0]; exact hcmp) R (by rw [hz0, h1]) h4 hL h2 (by omega) (by omega)
    rw [h1] at hc
    refine Calls.mono hc ?_
    rintro e w' ⟨rfl, hS⟩
    have hq := insertionSort_holds hL dk a b h2 (by omega)
    exact ⟨_, rfl, hS, hq.1, hq.2⟩
  have hsym : ∀ (dk : Array α) (a m b : Nat) (wr : World), dk.size = sz → a < m → m < b → b ≤ sz → SWK enc k w0 blk off dk wr → SortedIn (ltOf cf) a m dk → SortedIn (ltOf cf) m b dk →
      Calls Tryz.prog 120 #[.slice (some ⟨blk, off, none⟩) sz cap, .int .i64 a, .int .i64 m, .int .i64 b, .func (.func g) #[] cb] wr (SymPost k enc (ltOf cf) w0 blk off a b dk) :=
    fun dk a m b wr h1 h2 h3 h4 h5 h6 h7 => symMerge_calls enc w0 blk off cap sz d0 k hk8 R hz0 (by omega) cf g cb hcmp eg (ltOf cf) hL (b - a) a m b dk wr (by omega) h2 h3 h4 h1 h5 h6 h7 (Go.Proofs.Sy.Cross.self a m b dk)
  have HW := Aside0.mk hW
  clear hW R hcmp
  replace hins := Aside0.mk hins; replace hsym := Aside0.mk hsym; replace hk8 := Aside0.mk hk8; replace hz0 := Aside0.mk hz0; replace hz := Aside0.mk hz; replace hL := Aside0.mk hL
  go_enter Tryz.func97, Tryz.ntmps97
  go_wp2_with fail
  go_loopw [7, 8] (fun t7 t8 wr => ∃ (A B : Nat) (dk : Array α), t7 = .int .i64 A ∧ t8 = .int .i64 B ∧ A + 20 = B ∧ A ≤ sz ∧ Aside0 (∃ c, c * 20 = A) ∧ Aside0 (dk.size = sz) ∧ Aside0 (SWK enc k w0 blk off dk wr) ∧ Aside0 (PermIn 0 sz d dk) ∧ Aside0 (BB (ltOf cf) 20 A sz dk)) (fun t7 _ _ => sz - (intOf t7).toNat)
  case atStart => exact ⟨0, 20, d, rfl, rfl, rfl, Nat.zero_le _, ⟨⟨0, rfl⟩⟩, hz, HW, ⟨permIn_refl _ _ _⟩, ⟨fun q hq => absurd hq (Nat.not_lt_zero _)⟩⟩
  case round =>
    obtain ⟨A, B, dk, rfl, rfl, hAB, hA, hc, hdz, hS, hP, hB⟩ := hrel
    by_cases hbn : B ≤ sz
    · have t1 : (B : Int) ≤ (sz : Int) := by omega
      obtain ⟨B2, hB2⟩ : ∃ B2, B + 20 = B2 := ⟨_, rfl⟩
      have hb2 : (B : Int) + 20 = (B2 : Int) := by omega
      have hI := hins.out dk A B wr hdz.out (by omega) hbn hS.out
      replace hB2 := Aside0.mk hB2
      replace hAB := Aside0.mk hAB
      replace hI := Aside0.mk hI
      go_wp2_with fail
      with_reducible refine hI.out.mono ?_
      rintro e w2 ⟨d2, rfl, hS2, hP2, hQ2⟩
      replace hS2 := Aside0.mk hS2; replace hP2 := Aside0.mk hP2; replace hQ2 := Aside0.mk hQ2
      go_wp2_with fail
      go_roundw
      case measure => show sz - (B : Int).toNat < sz - (A : Int).toNat; have := hAB.out; omega
      case rel =>
        obtain ⟨c, hc'⟩ := hc.out
        refine ⟨B, B2, d2, rfl, rfl, hB2.out, hbn, ⟨⟨c + 1, by have := hAB.out; omega⟩⟩, ⟨by rw [hP2.out.1, hdz.out]⟩, hS2, ⟨permIn_trans _ _ _ _ _ hP.out (perm_cut hP2.out hbn (by rw [hdz.out]; exact Nat.le_refl _))⟩, ⟨?_⟩⟩
        have h3 := hB.out; have h4 := hP2.out; have h5 := hQ2.out; have h6 := hAB.out
        rw [← hc'] at h3 h4 h5
        rw [← h6, ← hc']
        exact bb_step (by omega) h3 h4 (by rw [show min (c * 20 + 20) sz = B by omega]; exact h5)
    · have t1 : ¬ (B : Int) ≤ (sz : Int) := by omega
      have hI := hins.out dk A sz wr hdz.out hA (Nat.le_refl _) hS.out
      replace hAB := Aside0.mk hAB
      replace hI := Aside0.mk hI
      go_wp2_with fail
      with_reducible refine hI.out.mono ?_
      rintro e w2 ⟨d2, rfl, hS2, hP2, hQ2⟩
      have hB2 : BB (ltOf cf) 20 sz sz d2 := by
        obtain ⟨c, hc'⟩ := hc.out
        have h3 := hB.out; have h4 := hP2; have h5 := hQ2; have h6 := hAB.out
        rw [← hc'] at h3 h4 h5
        exact bb_all (bb_step (by omega) h3 h4 (by rw [show min (c * 20 + 20) sz = sz by omega]; exact h5)) (by omega)
      have hP3 : PermIn 0 sz d d2 := permIn_trans _ _ _ _ _ hP.out (perm_cut hP2 (Nat.le_refl _) (by rw [hdz.out]; exact Nat.le_refl _))
      have hz2 : d2.size = sz := by rw [hP2.1, hdz.out]
      clear hP2 hQ2 hP hB hc t1
      replace hS2 := Aside0.mk hS2; replace hB2 := Aside0.mk hB2; replace hP3 := Aside0.mk hP3; replace hz2 := Aside0.mk hz2
      go_wp2_with fail
      go_loopw [6] (fun t6 wr => ∃ (s : Nat) (dk : Array α), t6 = .int .i64 s ∧ 0 < s ∧ s < 2305843009213693952 ∧ Aside0 (dk.size = sz) ∧ Aside0 (SWK enc k w0 blk off dk wr) ∧ Aside0 (PermIn 0 sz d dk) ∧ Aside0 (BB (ltOf cf) s sz sz dk)) (fun t6 _ => sz - (intOf t6).toNat)
      case atStart => exact ⟨20, d2, rfl, by omega, by omega, hz2, hS2, hP3, hB2⟩
      case round =>
        clear hS hdz hS2 hB2 hP3 hz2
        obtain ⟨s, dk2, rfl, s0, s1, hdz, hS, hP, hB⟩ := hrel
        by_cases hsn : s < sz
        · have t2 : (s : Int) < (sz : Int) := by omega
          obtain ⟨s2, hs2⟩ : ∃ s2, 2 * s = s2 := ⟨_, rfl⟩
          have m1 : 2 * (s : Int) = (s2 : Int) := by omega
          have m2 : (s : Int) * 2 = (s2 : Int) := by omega
          have m3 : s2 < 2305843009213693952 := by omega
          have m4 : 0 < s2 := by omega
          replace hs2 := Aside0.mk hs2
          go_wp2_with fail
          go_loopw [7, 8] (fun t7 t8 wr => ∃ (A B : Nat) (dk : Array α), t7 = .int .i64 A ∧ t8 = .int .i64 B ∧ A + s2 = B ∧ A ≤ sz ∧ Aside0 (∃ c, c * s2 = A) ∧ Aside0 (dk.size = sz) ∧ Aside0 (SWK enc k w0 blk off dk wr) ∧ Aside0 (PermIn 0 sz d dk) ∧ Aside0 (BB (ltOf cf) s2 A sz dk) ∧ Aside0 (RB (ltOf cf) s A sz dk)) (fun t7 _ _ => sz - (intOf t7).toNat)
          case atStart => exact ⟨0, s2, dk2, rfl, rfl, by omega, Nat.zero_le _, ⟨⟨0, by omega⟩⟩, hdz, hS, hP, ⟨fun q hq => absurd hq (Nat.not_lt_zero _)⟩, ⟨rb_start hB.out⟩⟩
          case round =>
            clear hdz hS hP hB
            obtain ⟨A, B, dk, rfl, rfl, hAB, hA, hc, hdz, hS, hP, hB, hR⟩ := hrel
            have hg : SortedIn (ltOf cf) A (min (A + s) sz) dk ∧ SortedIn (ltOf cf) (A + s) (min (A + s + s) sz) dk := by
              obtain ⟨c, hc'⟩ := hc.out
              exact rb_get hR.out (by rw [hs2.out]; exact hc')
            obtain ⟨M, hM⟩ : ∃ M, A + s = M := ⟨_, rfl⟩
            have hMi : (A : Int) + (s : Int) = (M : Int) := by omega
            by_cases hbn : B ≤ sz
            · have t3 : (B : Int) ≤ (sz : Int) := by omega
              obtain ⟨B2, hB2⟩ : ∃ B2, B + s2 = B2 := ⟨_, rfl⟩
              have hb2 : (B : Int) + (s2 : Int) = (B2 : Int) := by omega
              have hI := hsym.out dk A M B wr hdz.out (by omega) (by have := hs2.out; omega) hbn hS.out (by have := hg.1; rwa [hM, show min M sz = M by have := hs2.out; omega] at this) (by have := hg.2; rwa [hM, show min (M + s) sz = B by have := hs2.out; omega] at this)
              replace hB2 := Aside0.mk hB2
              replace hAB := Aside0.mk hAB
              replace hI := Aside0.mk hI; replace hM := Aside0.mk hM
              clear hg
              go_wp2_with fail
              with_reducible refine hI.out.mono ?_
              rintro e3 w3 ⟨d3, rfl, hS3, hP3, hQ3⟩
              replace hS3 := Aside0.mk hS3; replace hP3 := Aside0.mk hP3; replace hQ3 := Aside0.mk hQ3
              go_wp2_with fail
              go_roundw
              case measure => show sz - (B : Int).toNat < sz - (A : Int).toNat; have := hAB.out; omega
              case rel =>
                obtain ⟨c, hc'⟩ := hc.out
                refine ⟨B, B2, d3, rfl, rfl, hB2.out, hbn, ⟨⟨c + 1, by rw [Nat.succ_mul]; have := hAB.out; omega⟩⟩, ⟨by rw [hP3.out.1, hdz.out]⟩, hS3, ⟨permIn_trans _ _ _ _ _ hP.out (perm_cut hP3.out hbn (by rw [hdz.out]; exact Nat.le_refl _))⟩, ⟨?_⟩, ⟨rb_step hR.out hP3.out (by have := hAB.out; omega) (Nat.le_refl _)⟩⟩
                have h3 := hB.out; have h4 := hP3.out; have h5 := hQ3.out; have h6 := hAB.out
                rw [← hc'] at h3 h4 h5
                rw [← h6, ← hc']
                exact bb_step m4 h3 h4 (by rw [show min (c * s2 + s2) sz = B by omega]; exact h5)
            · have t3 : ¬ (B : Int) ≤ (sz : Int) := by omega
              by_cases hmn : M < sz
              · have t4 : (M : Int) < (sz : Int) := by omega
                have hI := hsym.out dk A M sz wr hdz.out (by omega) hmn (Nat.le_refl _) hS.out (by have := hg.1; rwa [hM, show min M sz = M by omega] at this) (by have := hg.2; rwa [hM, show min (M + s) sz = sz by have := hs2.out; omega] at this)
                replace hAB := Aside0.mk hAB
                replace hI := Aside0.mk hI; replace hM := Aside0.mk hM
                clear hg
                go_wp2_with fail
                with_reducible refine hI.out.mono ?_
                rintro e3 w3 ⟨d3, rfl, hS3, hP3, hQ3⟩
                replace hS3 := Aside0.mk hS3; replace hP3 := Aside0.mk hP3; replace hQ3 := Aside0.mk hQ3
                go_wp2_with fail
                go_roundw
                case measure => show sz - (s2 : Int).toNat < sz - (s : Int).toNat; have := hs2.out; omega
                case rel =>
                  obtain ⟨c, hc'⟩ := hc.out
                  refine ⟨s2, d3, rfl, m4, m3, ⟨by rw [hP3.out.1, hdz.out]⟩, hS3, ⟨permIn_trans _ _ _ _ _ hP.out (perm_cut hP3.out (Nat.le_refl _) (by rw [hdz.out]; exact Nat.le_refl _))⟩, ⟨?_⟩⟩
                  have h3 := hB.out; have h4 := hP3.out; have h5 := hQ3.out; have h6 := hAB.out
                  rw [← hc'] at h3 h4 h5
                  exact bb_all (bb_step m4 h3 h4 (by rw [show min (c * s2 + s2) sz = sz by omega]; exact h5)) (by omega)
              · have t4 : ¬ (M : Int) < (sz : Int) := by omega
                have h5 := hg.1
                rw [hM, show min M sz = sz by omega] at h5
                replace hAB := Aside0.mk hAB
                replace hM := Aside0.mk hM; replace h5 := Aside0.mk h5
                clear hg
                go_wp2_with fail
                go_roundw
                case measure => show sz - (s2 : Int).toNat < sz - (s : Int).toNat; have := hs2.out; omega
                case rel =>
                  obtain ⟨c, hc'⟩ := hc.out
                  refine ⟨s2, dk, rfl, m4, m3, hdz, hS, hP, ⟨?_⟩⟩
                  have h3 := hB.out; have h5 := h5.out; have h6 := hAB.out
                  rw [← hc'] at h3 h5
                  exact bb_all (bb_step (e := c * s2) m4 h3 (permIn_refl _ _ _) (by rw [show min (c * s2 + s2) sz = sz by omega]; exact h5)) (by omega)
        · have t2 : ¬ (s : Int) < (sz : Int) := by omega
          go_wp2_with fail
          first | go_end0 | go_ret
          have h0 := (rb_start hB.out) 0 (by omega)
          rw [Nat.zero_mul, Nat.zero_add, show min s sz = sz by omega] at h0
          exact ⟨dk2, rfl, hS.out, hP.out, h0⟩
end Go.Proofs.YtpnjhffnlafabaaGreatDoor.St
