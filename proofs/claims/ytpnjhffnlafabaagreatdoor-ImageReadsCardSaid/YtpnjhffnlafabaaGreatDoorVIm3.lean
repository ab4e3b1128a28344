/- Sections: rising, long, ContainsFunc at them; what Pack of package parcel makes of them, plain. -/
import Derived.Test.YtpnjhffnlafabaaGreatDoorVI4
namespace Go.Proofs.YtpnjhffnlafabaaGreatDoor.Im
set_option linter.unusedVariables false
set_option linter.unusedSimpArgs false
open Go.RowKit Go.Proofs.Bk Go.Proofs.Bm Go.Proofs.Kf Go.Proofs.YtpnjhffnlafabaaGreatDoorW.PrintWords Go.Proofs.YtpnjhffnlafabaaGreatDoor.Sl Go.Proofs.YtpnjhffnlafabaaGreatDoor.Sn Go.Proofs.YtpnjhffnlafabaaGreatDoor.PImageBack
abbrev SE := S36
abbrev kE : Kd SE := k36
instance : Inhabited SE := ⟨z36⟩
theorem E_one {A : Option Addr} {n : Nat} {ss : List SE} {w : World} (h : kE.C w A n ss) {k : Nat} (hk : k < n) :
    ∃ b o x A1 c1, A = some ⟨b, o, none⟩ ∧ b < w.heap.size ∧ ss[k]? = some x ∧ w.cell? ⟨b, o + k * 2, none⟩ = some (.int .i64 x.f0) ∧ w.cell? ⟨b, o + k * 2 + 1, none⟩ = some (.slice A1 x.f1.length c1) ∧ x.f1.length ≤ c1 ∧ U8.C w A1 x.f1.length x.f1 := by
  obtain ⟨b, o, h1, h2, h3⟩ := C_at h (by omega) (by decide)
  have hl : k < ss.length := by have := h.1; omega
  have hx := List.getElem?_eq_getElem hl
  obtain ⟨c, _, q2, q3⟩ := h3 k _ hx
  obtain ⟨A1, c1, rfl, l1, g1⟩ := k36_open q2
  exact ⟨b, o, ss[k], A1, c1, h1, h2, hx, q3 0 _ rfl, q3 1 _ rfl, l1, g1⟩
theorem szE2 : (Tryz.prog.info? 36).map (·.size) = some 2 := by kernel_rfl
theorem oneE2 {a : Int} {A : Option Addr} {n c : Nat} : ∀ v ∈ ([.int .i64 a, .slice A n c] : List Value), v.oneCell' = true := by
  intro v hv; simp at hv; rcases hv with rfl | rfl <;> rfl
theorem long_calls (k : Int) (A : Option Addr) (n c : Nat) (w : World) : Calls Tryz.prog 36 #[.agg #[.int .i64 k, .slice A n c]] w (AnyPost (decide (65535 < n)) w) := by
  by_cases h : 65535 < n
  · have h1 : (65535 : Int) < (n : Int) := by omega
    rw [decide_eq_true h]
    go_enter Tryz.func36, Tryz.ntmps36
    go_wp2_with (((with_reducible refine gate_dst (N := 1) rfl ?_); refine box_event ?hg (N := 1) ?hd (cs := #[.int .i64 k, .slice A n c]) (t := 36) ?hr ?_; (case hd => rfl); (case hg => rfl); (case hr => first | (go_simp; done) | (go_simp; rfl)); intro gb hgb w1 kgb bgb; replace hgb := Aside0.mk hgb; replace kgb := Aside0.mk kgb; replace bgb := Aside0.mk bgb); (have c1 := (cell_row kgb.out 1).trans (rfl : _ = some (Value.slice A n c))))
    go_ret
    exact ⟨rfl, bgb.out⟩
  · have h1 : ¬ (65535 : Int) < (n : Int) := by omega
    rw [decide_eq_false h]
    go_enter Tryz.func36, Tryz.ntmps36
    go_wp2_with (((with_reducible refine gate_dst (N := 1) rfl ?_); refine box_event ?hg (N := 1) ?hd (cs := #[.int .i64 k, .slice A n c]) (t := 36) ?hr ?_; (case hd => rfl); (case hg => rfl); (case hr => first | (go_simp; done) | (go_simp; rfl)); intro gb hgb w1 kgb bgb; replace hgb := Aside0.mk hgb; replace kgb := Aside0.mk kgb; replace bgb := Aside0.mk bgb); (have c1 := (cell_row kgb.out 1).trans (rfl : _ = some (Value.slice A n c))))
    go_ret
    exact ⟨rfl, bgb.out⟩
def longE (x : SE) : Bool := decide (65535 < x.f1.length)
def IdxPost (b : Bool) (w : World) (e : Ending) (w' : World) : Prop := (∃ i : Int, e = .returned (.int .i64 i) ∧ (decide (0 ≤ i)) = b) ∧ Below w.heap.size w w'
set_option maxRecDepth 100000 in
set_option maxHeartbeats 4000000 in
theorem IndexE_calls (A : Option Addr) (n c : Nat) (ss : List SE) (w : World) (h : kE.C w A n ss) :
    Calls Tryz.prog 64 #[.slice A n c, .func (.func 36) #[] #[]] w (IdxPost (ss.any longE) w) := by
  have hln := h.1
  have hn63 := h.2.1
  have HE := Aside0.mk h
  clear h
  obtain ⟨r, hr⟩ : ∃ r, ss.any longE = r := ⟨_, rfl⟩
  rw [hr]
  replace hln := Aside0.mk hln; replace hr := Aside0.mk hr
  go_enter Tryz.func64, Tryz.ntmps64
  go_wp2_with fail
  go_loopw [8] (fun iv wr => ∃ k : Nat, iv = .int .i64 k ∧ k ≤ n ∧ Aside0 ((ss.take k).any longE = false) ∧ Aside0 (Below w.heap.size w wr)) (fun iv _ => n - (intOf iv).toNat)
  case atStart => exact ⟨0, rfl, Nat.zero_le _, ⟨rfl⟩, ⟨Below.refl _ _⟩⟩
  case round =>
    obtain ⟨k, rfl, hk, hR, hb⟩ := hrel
    by_cases hlt : k < n
    · have p1 : 0 ≤ (k : Int) := by omega
      have q1 : (k : Int) < (n : Int) := by omega
      obtain ⟨b, o, x, A1, c1, rfl, -, hx, t0, t1, -, -⟩ := E_one (Kd.C_below HE.out hb.out) hlt
      have kl := fun W => long_calls x.f0 A1 x.f1.length c1 W
      have hacc : (ss.take (k + 1)).any longE = longE x := by rw [List.take_add_one, hx, List.any_append, hR.out]; simp
      have hall : longE x = true → r = true := fun h => by rw [← hr.out]; exact List.any_eq_true.2 ⟨x, List.mem_of_getElem? hx, h⟩
      obtain ⟨lb, hlb⟩ : ∃ lb, longE x = lb := ⟨_, rfl⟩
      rw [show decide (65535 < x.f1.length) = lb from hlb] at kl
      rw [hlb] at hacc hall
      cases lb with
      | true =>
        obtain rfl := hall rfl
        replace hx := Aside0.mk hx; replace hacc := Aside0.mk hacc; replace kl := Aside0.mk kl; replace hlb := Aside0.mk hlb
        go_wp2_with (go_at_call 36; (with_reducible refine (kl.out _).mono ?_); rintro e w4 ⟨rfl, hb4⟩; have hB4 := Aside0.mk (hb.out.trans (hb4.mono hb.out.size)); clear hb4)
        go_ret
        exact ⟨⟨(k : Int), rfl, by simp⟩, hB4.out⟩
      | false =>
        replace hx := Aside0.mk hx; replace hacc := Aside0.mk hacc; replace kl := Aside0.mk kl; replace hlb := Aside0.mk hlb
        clear hall
        go_wp2_with (go_at_call 36; (with_reducible refine (kl.out _).mono ?_); rintro e w4 ⟨rfl, hb4⟩; have hB4 := Aside0.mk (hb.out.trans (hb4.mono hb.out.size)); clear hb4)
        go_roundw
        case rel => exact ⟨k + 1, by simp, by omega, hacc, hB4⟩
        case measure => show n - ((k : Int) + 1).toNat < n - (k : Int).toNat; omega
    · obtain rfl : n = k := by omega
      have e1 : r = false := by rw [← hr.out]; have := hR.out; rw [List.take_of_length_le (by rw [hln.out]; exact Nat.le_refl _)] at this; exact this
      replace e1 := Aside0.mk e1
      go_wp2_with fail
      go_ret
      exact ⟨⟨-1, rfl, by rw [e1.out]; rfl⟩, hb.out⟩
theorem ContainsE_calls (A : Option Addr) (n c : Nat) (ss : List SE) (w : World) (h : kE.C w A n ss) :
    Calls Tryz.prog 35 #[.slice A n c, .func (.func 36) #[] #[]] w (AnyPost (ss.any longE) w) := by
  have HE := Aside0.mk h
  clear h
  go_enter Tryz.func35, Tryz.ntmps35
  go_wp2_with fail
  with_reducible refine (IndexE_calls A n c ss w HE.out).mono ?_
  rintro e w' ⟨⟨i, rfl, hi⟩, hb⟩
  replace hi := Aside0.mk hi; replace hb := Aside0.mk hb
  go_wp2_with fail
  go_ret
  exact ⟨by rw [← hi.out]; rfl, hb.out⟩
def risingL : Int → List Int → Bool
  | _, [] => true
  | last, k :: l => !(decide (k ≤ last) || decide (255 < k)) && risingL k l
theorem risingL_take : ∀ (l : List Int) (a : Int) (k : Nat) (x : Int), l[k]? = some x → risingL a (l.take k) = true → risingL a (l.take (k + 1)) = !(decide (x ≤ (l.take k).getLastD a) || decide (255 < x))
  | [], _, _, _, h, _ => by simp at h
  | y :: l, a, 0, x, h, _ => by simp at h; subst h; simp [risingL]
  | y :: l, a, k + 1, x, h, hr => by
    simp at h
    rw [List.take_succ_cons] at hr ⊢
    simp only [risingL, Bool.and_eq_true] at hr
    rw [List.take_succ_cons]
    simp only [risingL, hr.1, Bool.true_and]
    rw [risingL_take l y k x h hr.2]
    rw [show (y :: l.take k).getLastD a = (l.take k).getLastD y by cases l.take k <;> rfl]
theorem risingL_false : ∀ (l : List Int) (a : Int) (k : Nat), risingL a (l.take k) = false → risingL a l = false
  | [], _, k, h => by simpa using h
  | y :: l, a, 0, h => by simp [risingL] at h
  | y :: l, a, k + 1, h => by
    rw [List.take_succ_cons] at h
    simp only [risingL] at h ⊢
    cases hb : (!(decide (y ≤ a) || decide (255 < y))) with
    | false => rfl
    | true => rw [hb, Bool.true_and] at h; rw [risingL_false l y k h]; rfl
set_option maxRecDepth 100000 in
set_option maxHeartbeats 4000000 in
theorem rising_calls (A : Option Addr) (n c : Nat) (ss : List SE) (w : World) (h : kE.C w A n ss) :
    Calls Tryz.prog 34 #[.slice A n c] w (AnyPost (risingL 0 (ss.map (·.f0))) w) := by
  have hln := h.1
  have hn63 := h.2.1
  have HE := Aside0.mk h
  clear h
  obtain ⟨ks, hks⟩ : ∃ ks, ss.map (·.f0) = ks := ⟨_, rfl⟩
  obtain ⟨r, hr⟩ : ∃ r, risingL 0 ks = r := ⟨_, rfl⟩
  rw [hks, hr]
  have hkl : ks.length = n := by rw [← hks, List.length_map, hln]
  replace hln := Aside0.mk hln; replace hr := Aside0.mk hr; replace hks := Aside0.mk hks; replace hkl := Aside0.mk hkl
  go_enter Tryz.func34, Tryz.ntmps34
  go_wp2_with fail
  go_loopw [3, 8] (fun lv iv wr => ∃ (last : Int) (k : Nat), lv = .int .i64 last ∧ iv = .int .i64 k ∧ k ≤ n ∧ Aside0 (risingL 0 (ks.take k) = true) ∧ Aside0 ((ks.take k).getLastD 0 = last) ∧ Aside0 (Below w.heap.size w wr)) (fun _ iv _ => n - (intOf iv).toNat)
  case atStart => exact ⟨0, 0, rfl, rfl, Nat.zero_le _, ⟨rfl⟩, ⟨rfl⟩, ⟨Below.refl _ _⟩⟩
  case round =>
    obtain ⟨last, k, rfl, rfl, hk, hR, hL, hb⟩ := hrel
    by_cases hlt : k < n
    · have p1 : 0 ≤ (k : Int) := by omega
      have q1 : (k : Int) < (n : Int) := by omega
      obtain ⟨b, o, x, A1, c1, rfl, -, hx, t0, t1, -, -⟩ := E_one (Kd.C_below HE.out hb.out) hlt
      have hkx : ks[k]? = some x.f0 := by rw [← hks.out, List.getElem?_map, hx]; rfl
      have hstep := risingL_take ks 0 k x.f0 hkx hR.out
      rw [hL.out] at hstep
      have hlast : (ks.take (k + 1)).getLastD 0 = x.f0 := by rw [List.take_add_one, hkx]; simp
      by_cases h1 : x.f0 ≤ last
      · have e1 : r = false := by rw [← hr.out]; exact risingL_false ks 0 (k + 1) (by rw [hstep]; simp [h1])
        rw [e1]
        replace hx := Aside0.mk hx; replace hkx := Aside0.mk hkx; replace hstep := Aside0.mk hstep; replace hlast := Aside0.mk hlast; replace e1 := Aside0.mk e1
        go_wp2_with (first
          | (((with_reducible refine gate_dst (N := 5) rfl ?_); refine box_event ?hg (N := 5) ?hd (cs := #[.int .i64 0, .slice none 0 0]) (t := 36) ?hr ?_; (case hd => rfl); (case hg => rfl); (case hr => first | (go_simp; done) | (go_simp; rfl)); intro gb hgb w2 kgb bgb; replace hgb := Aside0.mk hgb; replace kgb := Aside0.mk kgb; replace bgb := Aside0.mk bgb))
          | (((with_reducible refine gate_op (.store 36 (.tmp 5) (.tmp 11)) rfl ?_); refine wpList_store_midB rfl _ _ _ rfl gb 0 [.int .i64 x.f0, .slice A1 x.f1.length c1] rfl rfl 36 [.int .i64 0, .slice none 0 0] kgb.out szE2 (Nat.le_refl _) oneE2 ?_; obtain ⟨kk, bb⟩ := boxed (cs := [.int .i64 0, .slice none 0 0]) (cs2 := [.int .i64 x.f0, .slice A1 x.f1.length c1]) hgb.out kgb.out bgb.out rfl; revert kk bb; generalize World.setRow _ gb (splice [.int .i64 0, .slice none 0 0] 0 [.int .i64 x.f0, .slice A1 x.f1.length c1]).toArray = w3; clear kgb bgb; intro kgb bgb; replace kgb := Aside0.mk kgb; replace bgb := Aside0.mk bgb); (have g0 := (cell_row kgb.out 0).trans (rfl : _ = some (Value.int .i64 x.f0))); have hB3 := Aside0.mk (hb.out.trans (bgb.out.mono hb.out.size))))
        go_ret
        exact ⟨rfl, hB3.out⟩
      · by_cases h2 : 255 < x.f0
        · have e1 : r = false := by rw [← hr.out]; exact risingL_false ks 0 (k + 1) (by rw [hstep]; simp [h2])
          rw [e1]
          replace hx := Aside0.mk hx; replace hkx := Aside0.mk hkx; replace hstep := Aside0.mk hstep; replace hlast := Aside0.mk hlast; replace e1 := Aside0.mk e1
          go_wp2_with (first
            | (((with_reducible refine gate_dst (N := 5) rfl ?_); refine box_event ?hg (N := 5) ?hd (cs := #[.int .i64 0, .slice none 0 0]) (t := 36) ?hr ?_; (case hd => rfl); (case hg => rfl); (case hr => first | (go_simp; done) | (go_simp; rfl)); intro gb hgb w2 kgb bgb; replace hgb := Aside0.mk hgb; replace kgb := Aside0.mk kgb; replace bgb := Aside0.mk bgb))
            | (((with_reducible refine gate_op (.store 36 (.tmp 5) (.tmp 11)) rfl ?_); refine wpList_store_midB rfl _ _ _ rfl gb 0 [.int .i64 x.f0, .slice A1 x.f1.length c1] rfl rfl 36 [.int .i64 0, .slice none 0 0] kgb.out szE2 (Nat.le_refl _) oneE2 ?_; obtain ⟨kk, bb⟩ := boxed (cs := [.int .i64 0, .slice none 0 0]) (cs2 := [.int .i64 x.f0, .slice A1 x.f1.length c1]) hgb.out kgb.out bgb.out rfl; revert kk bb; generalize World.setRow _ gb (splice [.int .i64 0, .slice none 0 0] 0 [.int .i64 x.f0, .slice A1 x.f1.length c1]).toArray = w3; clear kgb bgb; intro kgb bgb; replace kgb := Aside0.mk kgb; replace bgb := Aside0.mk bgb); (have g0 := (cell_row kgb.out 0).trans (rfl : _ = some (Value.int .i64 x.f0))); have hB3 := Aside0.mk (hb.out.trans (bgb.out.mono hb.out.size))))
          go_ret
          exact ⟨rfl, hB3.out⟩
        · have e1 : risingL 0 (ks.take (k + 1)) = true := by rw [hstep]; simp [h1, h2]
          replace hx := Aside0.mk hx; replace hkx := Aside0.mk hkx; replace hstep := Aside0.mk hstep; replace hlast := Aside0.mk hlast; replace e1 := Aside0.mk e1
          go_wp2_with (first
            | (((with_reducible refine gate_dst (N := 5) rfl ?_); refine box_event ?hg (N := 5) ?hd (cs := #[.int .i64 0, .slice none 0 0]) (t := 36) ?hr ?_; (case hd => rfl); (case hg => rfl); (case hr => first | (go_simp; done) | (go_simp; rfl)); intro gb hgb w2 kgb bgb; replace hgb := Aside0.mk hgb; replace kgb := Aside0.mk kgb; replace bgb := Aside0.mk bgb))
            | (((with_reducible refine gate_op (.store 36 (.tmp 5) (.tmp 11)) rfl ?_); refine wpList_store_midB rfl _ _ _ rfl gb 0 [.int .i64 x.f0, .slice A1 x.f1.length c1] rfl rfl 36 [.int .i64 0, .slice none 0 0] kgb.out szE2 (Nat.le_refl _) oneE2 ?_; obtain ⟨kk, bb⟩ := boxed (cs := [.int .i64 0, .slice none 0 0]) (cs2 := [.int .i64 x.f0, .slice A1 x.f1.length c1]) hgb.out kgb.out bgb.out rfl; revert kk bb; generalize World.setRow _ gb (splice [.int .i64 0, .slice none 0 0] 0 [.int .i64 x.f0, .slice A1 x.f1.length c1]).toArray = w3; clear kgb bgb; intro kgb bgb; replace kgb := Aside0.mk kgb; replace bgb := Aside0.mk bgb); (have g0 := (cell_row kgb.out 0).trans (rfl : _ = some (Value.int .i64 x.f0))); have hB3 := Aside0.mk (hb.out.trans (bgb.out.mono hb.out.size))))
          go_roundw
          case rel => exact ⟨x.f0, k + 1, rfl, by simp, by omega, e1, hlast, hB3⟩
          case measure => show n - ((k : Int) + 1).toNat < n - (k : Int).toNat; omega
    · obtain rfl : n = k := by omega
      have e1 : r = true := by rw [← hr.out]; have := hR.out; rw [List.take_of_length_le (by rw [hkl.out]; exact Nat.le_refl _)] at this; exact this
      replace e1 := Aside0.mk e1
      go_wp2_with fail
      go_ret
      exact ⟨by rw [e1.out]; rfl, hb.out⟩
end Go.Proofs.YtpnjhffnlafabaaGreatDoor.Im
