/- same of a store; the chapter's example. -/
import Derived.Test.YtiibfboendnifaaDoorSlM
namespace Go.Proofs.YtiibfboendnifaaDoor.Sl
set_option linter.unusedVariables false
set_option linter.unusedSimpArgs false
open Go.RowKit Go.Proofs.Bk Go.Proofs.Bm Go.Proofs.Op Go.Proofs.YtiibfboendnifaaDoor.Dk Go.Proofs.YtiibfboendnifaaDoorW.PrintWords

def SaysPost (b : Bool) (w : World) (e : Ending) (w' : World) : Prop := e = .returned (.bool b) ∧ Below w.heap.size w w'
def sameB (h : Hd) (age : Int) (has : Bool) (img : List Int) : Bool := decide (h.age = age) && (decide (h.has = has) && decide (h.img = img))
set_option maxHeartbeats 4000000 in
theorem same_calls (S B K M : Nat) (D : Dsk) (h : Hd) (age : Int) (has : Bool) (A : Option Addr) (n c : Nat) (img : List Int) (w : World) (s : Sto w S B K M D h) (hC : (Kd.int .u8).C w A n img) :
    Calls Tryd.prog 16 #[.pointer (some ⟨S, 0, none⟩), .int .i64 age, .bool has, .slice A n c] w (SaysPost (sameB h age has img) w) := by
  have hs : sameB h age has img = (decide (h.age = age) && (decide (h.has = has) && decide (h.img = img))) := rfl
  have H := Aside0.mk s
  have HC := Aside0.mk hC
  obtain ⟨a1, ha⟩ : ∃ x, h.age = x := ⟨_, rfl⟩
  obtain ⟨b1, hb⟩ : ∃ x, h.has = x := ⟨_, rfl⟩
  obtain ⟨n1, hn1⟩ : ∃ x, h.img.length = x := ⟨_, rfl⟩
  rw [ha, hb] at hs
  obtain ⟨r, hr⟩ : ∃ r, sameB h age has img = r := ⟨_, rfl⟩
  rw [hr] at hs ⊢
  clear s hC hr
  replace ha := Aside0.mk ha
  replace hb := Aside0.mk hb
  replace hn1 := Aside0.mk hn1
  have img1 : ∀ e w', ImagePost h w e w' → ∃ A1 c1, e = .returned (.tuple #[.slice A1 n1 c1, .bool b1]) ∧ (Kd.int .u8).C w' A1 n1 h.img ∧ Below w.heap.size w w' := by
    rintro e w' ⟨v, rfl, ho, hb'⟩
    obtain ⟨A1, c1, rfl, hC1⟩ := bytes_of_row ho rfl
    exact ⟨A1, c1, by rw [hn1.out, hb.out], by rw [← hn1.out]; exact hC1, hb'⟩
  replace img1 := Aside0.mk img1
  by_cases h1 : a1 = age
  · by_cases h2 : b1 = has
    · have t1 : (a1 == age) = true := by simpa using h1
      have t2 : (b1 == has) = true := by simpa using h2
      rw [decide_eq_true h1, decide_eq_true h2, Bool.true_and, Bool.true_and] at hs
      subst hs
      subst h1
      subst h2
      go_enter Tryd.func16, Tryd.ntmps16
      go_wp2_with (first
        | (go_at_call 17; refine (Image_calls S B K M D h w H.out).mono ?_; intro e w1 he; obtain ⟨A1, c1, rfl, hC1, hb1⟩ := img1.out e w1 he; clear he; have H1 := H.out.below hb1; have hC2 := Kd.C_below HC.out hb1; replace hC1 := Aside0.mk hC1; replace hb1 := Aside0.mk hb1; replace H1 := Aside0.mk H1; replace hC2 := Aside0.mk hC2)
        | (go_at_call 13; refine (Age_calls S B K M D h w1 H1.out).mono ?_; rintro e w' ⟨rfl, rfl⟩; rw [ha.out])
        | (go_at_call 41; refine (Same01_calls A1 n1 c1 A n c h.img img w1 hC1.out hC2.out).mono ?_; rintro e w' ⟨rfl, m, rfl⟩))
      go_ret
      exact ⟨rfl, pw_below_drewN hb1.out _⟩
    · have t1 : (a1 == age) = true := by simpa using h1
      have t2 : (b1 == has) = false := by simpa using h2
      rw [decide_eq_true h1, decide_eq_false h2, Bool.true_and, Bool.false_and] at hs
      subst hs
      subst h1
      go_enter Tryd.func16, Tryd.ntmps16
      go_wp2_with (first
        | (go_at_call 17; refine (Image_calls S B K M D h w H.out).mono ?_; intro e w1 he; obtain ⟨A1, c1, rfl, hC1, hb1⟩ := img1.out e w1 he; clear he; have H1 := H.out.below hb1; have hC2 := Kd.C_below HC.out hb1; replace hC1 := Aside0.mk hC1; replace hb1 := Aside0.mk hb1; replace H1 := Aside0.mk H1; replace hC2 := Aside0.mk hC2)
        | (go_at_call 13; refine (Age_calls S B K M D h w1 H1.out).mono ?_; rintro e w' ⟨rfl, rfl⟩; rw [ha.out]))
      go_ret
      exact ⟨rfl, hb1.out⟩
  · have t1 : (a1 == age) = false := by simpa using h1
    rw [decide_eq_false h1, Bool.false_and] at hs
    subst hs
    go_enter Tryd.func16, Tryd.ntmps16
    go_wp2_with (first
      | (go_at_call 17; refine (Image_calls S B K M D h w H.out).mono ?_; intro e w1 he; obtain ⟨A1, c1, rfl, hC1, hb1⟩ := img1.out e w1 he; clear he; have H1 := H.out.below hb1; have hC2 := Kd.C_below HC.out hb1; replace hC1 := Aside0.mk hC1; replace hb1 := Aside0.mk hb1; replace H1 := Aside0.mk H1; replace hC2 := Aside0.mk hC2)
      | (go_at_call 13; refine (Age_calls S B K M D h w1 H1.out).mono ?_; rintro e w' ⟨rfl, rfl⟩; rw [ha.out]))
    go_ret
    exact ⟨rfl, hb1.out⟩
end Go.Proofs.YtiibfboendnifaaDoor.Sl
