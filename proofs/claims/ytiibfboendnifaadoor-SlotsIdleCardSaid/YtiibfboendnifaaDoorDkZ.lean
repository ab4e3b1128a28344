/- The reference's Same of lists of sectors. -/
import Derived.Test.YtiibfboendnifaaDoorDkY
import Derived.Laws.BytesArg
import Derived.Laws.Strings
namespace Go.Proofs.YtiibfboendnifaaDoor.Dk
set_option linter.unusedVariables false
set_option linter.unusedSimpArgs false
open Go.RowKit Go.Proofs.Bk Go.Proofs.Bm Go.Proofs.Op Go.Proofs.YtiibfboendnifaaDoorW.PrintWords

theorem u8_ofNat_inj {a b : Int} (ha : 0 ≤ a ∧ a ≤ 255) (hb : 0 ≤ b ∧ b ≤ 255) (h : UInt8.ofNat a.toNat = UInt8.ofNat b.toNat) : a = b := by
  have := congrArg UInt8.toNat h
  simp only [UInt8.toNat_ofNat'] at this
  rw [Nat.mod_eq_of_lt (by omega), Nat.mod_eq_of_lt (by omega)] at this
  omega
theorem map_u8_inj : ∀ {x y : List Int}, (∀ a ∈ x, 0 ≤ a ∧ a ≤ 255) → (∀ a ∈ y, 0 ≤ a ∧ a ≤ 255) → x.map (fun n => UInt8.ofNat n.toNat) = y.map (fun n => UInt8.ofNat n.toNat) → x = y
  | [], [], _, _, _ => rfl
  | [], _ :: _, _, _, h => by simp at h
  | _ :: _, [], _, _, h => by simp at h
  | a :: x, b :: y, hx, hy, h => by
    rw [List.map_cons, List.map_cons, List.cons.injEq] at h
    rw [u8_ofNat_inj (hx a (by simp)) (hy b (by simp)) h.1, map_u8_inj (fun c hc => hx c (by simp [hc])) (fun c hc => hy c (by simp [hc])) h.2]
def str (x : List Int) : ByteArray := ⟨(x.map (fun n => UInt8.ofNat n.toNat)).toArray⟩
theorem str_inj {x y : List Int} (hx : Sec x) (hy : Sec y) (h : str x = str y) : x = y := by
  refine map_u8_inj hx.2 hy.2 ?_
  have := congrArg (fun b : ByteArray => b.data.toList) h
  simpa [str] using this
theorem run_conv (w : World) (A : Option Addr) (c : Nat) (x : List Int) (hx : Sec x) (h : (Kd.int .u8).C w A 64 x) : (convert 32 9 (.slice A 64 c)).run Tryd.prog w = .ok (.string (str x)) w := by
  obtain ⟨ad, rfl, _⟩ := h.2.2 (by omega)
  have hc : ∀ j u, (byt x)[j]? = some u → w.cell? (ad.add j) = some u := by
    intro j u hj
    have hjl : j < 64 := by rw [← hx.1]; have := (List.getElem?_eq_some_iff.1 hj).1; rw [byt_length] at this; exact this
    obtain ⟨ad', e, hxx⟩ := Kd.at_int h (j : Int) (by omega) (by omega)
    injection e with e; subst e
    rw [Int.toNat_natCast] at hxx
    have hu : u = .int .u8 (rd x j) := by
      rw [byt, List.getElem?_map] at hj
      obtain ⟨y, hy, rfl⟩ := Option.map_eq_some_iff.1 hj
      unfold rd; rw [Int.toNat_natCast, List.getD_eq_getElem?_getD, hy]; rfl
    rw [hu]; exact hxx
  have hl := run_loadCells_list (P := Tryd.prog) w ad (byt x) hc
  rw [byt_length, hx.1] at hl
  rw [run_convert_bytes_string w _ _ _ _ 64 c Tryd.underlying32 Tryd.underlying5 Tryd.underlying9, run_bytesToString w ad 64 c x hl, foldl_push_bytes]
  congr 2
  simp [str]

def Same9Post (xs ys : List (List Int)) (w : World) (e : Ending) (w' : World) : Prop := e = .returned (.bool (decide (xs = ys))) ∧ ∃ m, w' = w.drewN m
set_option maxHeartbeats 2000000 in
theorem Same09_calls (A0 : Option Addr) (c0 : Nat) (A1 : Option Addr) (c1 : Nat) (xs ys : List (List Int)) (n : Nat) (w : World) (h0 : kSec.C w A0 n xs) (h1 : kSec.C w A1 n ys) (s0 : ∀ s ∈ xs, Sec s) (s1 : ∀ s ∈ ys, Sec s) :
    Calls Tryd.prog 24 #[.slice A0 n c0, .slice A1 n c1] w (Same9Post xs ys w) := by
  have H0 := Aside0.mk h0
  have H1 := Aside0.mk h1
  have S0 := Aside0.mk s0
  have S1 := Aside0.mk s1
  have hn := h0.2.1
  have hx : Aside0 (xs.length = n) := ⟨h0.1⟩
  have hy : Aside0 (ys.length = n) := ⟨h1.1⟩
  clear h0 h1 s0 s1
  go_enter Tryd.func24, Tryd.ntmps24
  go_wp2_with fail
  go_loopw [5] (fun i wr => ∃ (k m : Nat), i = .int .i64 k ∧ k ≤ n ∧ Aside0 (∀ j, j < k → xs[j]? = ys[j]?) ∧ wr = w.drewN m) (fun i _ => n - (intOf i).toNat)
  case atStart => exact ⟨0, 0, rfl, Nat.zero_le _, ⟨fun j hj => by omega⟩, rfl⟩
  case round =>
    obtain ⟨k, m, rfl, hk, hJ, rfl⟩ := hrel
    by_cases hlt : k < n
    · have p1 : 0 ≤ (k : Int) := by omega
      have q1 : (k : Int) < (n : Int) := by omega
      obtain ⟨x, hxk⟩ : ∃ x, xs[k]? = some x := ⟨xs[k]'(by rw [hx.out]; exact hlt), List.getElem?_eq_getElem _⟩
      obtain ⟨y, hyk⟩ : ∃ y, ys[k]? = some y := ⟨ys[k]'(by rw [hy.out]; exact hlt), List.getElem?_eq_getElem _⟩
      have sx := S0.out _ (List.mem_of_getElem? hxk)
      have sy := S1.out _ (List.mem_of_getElem? hyk)
      obtain ⟨a0, B0, d0, rfl, x0, _, r0⟩ := sec_at H0.out hlt hxk
      obtain ⟨a1, B1, d1, rfl, x1, _, r1⟩ := sec_at H1.out hlt hyk
      rw [sx.1] at x0 r0
      rw [sy.1] at x1 r1
      have v0 : ∀ m, (convert 32 9 (.slice B0 64 d0)).run Tryd.prog (w.drewN m) = .ok (.string (str x)) (w.drewN m) := fun m => run_conv (w.drewN m) B0 d0 x sx r0
      have v1 : ∀ m, (convert 32 9 (.slice B1 64 d1)).run Tryd.prog (w.drewN m) = .ok (.string (str y)) (w.drewN m) := fun m => run_conv (w.drewN m) B1 d1 y sy r1
      have hst : Aside0 (str x = str y ↔ x = y) := ⟨⟨str_inj sx sy, fun e => by rw [e]⟩⟩
      obtain ⟨X, hX⟩ : ∃ X, str x = X := ⟨_, rfl⟩
      obtain ⟨Y, hY⟩ : ∃ Y, str y = Y := ⟨_, rfl⟩
      rw [hX] at v0 hst
      rw [hY] at v1 hst
      replace hxk := Aside0.mk hxk; replace hyk := Aside0.mk hyk; replace sx := Aside0.mk sx; replace sy := Aside0.mk sy; replace r0 := Aside0.mk r0; replace r1 := Aside0.mk r1; replace hX := Aside0.mk hX; replace hY := Aside0.mk hY
      by_cases he : X = Y
      · have hxy := hst.out.1 he
        have hJ' : Aside0 (∀ j, j < k + 1 → xs[j]? = ys[j]?) := ⟨fun j hj => by
          by_cases e : j = k
          · subst e; rw [hxk.out, hyk.out, hxy]
          · exact hJ.out j (by omega)⟩
        subst he
        have t1 : (X.toList == X.toList) = true := by simp
        replace hxy := Aside0.mk hxy
        go_wp2_with fail
        go_quiet (fail)
        go_wp2_with fail
        go_roundw
        case rel => exact ⟨k + 1, _, by simp, by omega, hJ', rfl⟩
        case measure => show n - ((k : Int) + 1).toNat < n - (k : Int).toNat; omega
      · have t1 : (X.toList == Y.toList) = false := by
          rw [beq_eq_false_iff_ne]
          intro e
          rw [ByteArray.toList_eq, ByteArray.toList_eq] at e
          exact he (Go.WideShapes.bytes_inj e)
        have hne : Aside0 (decide (xs = ys) = false) := ⟨decide_eq_false (fun e => he (hst.out.2 (by
          have h1 := hxk.out; rw [e, hyk.out] at h1; exact (Option.some.inj h1).symm)))⟩
        clear he
        go_wp2_with fail
        go_quiet (fail)
        go_wp2_with fail
        go_ret
        exact ⟨by rw [hne.out]; rfl, _, World.drewN_drewN _ _ _⟩
    · have hkn : k = n := by omega
      have heq : Aside0 (decide (xs = ys) = true) := ⟨decide_eq_true (List.ext_getElem? fun j => by
        by_cases h : j < n
        · exact hJ.out j (by omega)
        · rw [List.getElem?_eq_none (by rw [hx.out]; omega), List.getElem?_eq_none (by rw [hy.out]; omega)])⟩
      go_wp2_with fail
      go_ret
      exact ⟨by rw [heq.out]; rfl, m, rfl⟩
end Go.Proofs.YtiibfboendnifaaDoor.Dk
