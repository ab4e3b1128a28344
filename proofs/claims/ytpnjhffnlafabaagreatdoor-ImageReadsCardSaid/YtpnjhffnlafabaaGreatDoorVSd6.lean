/- few of the reference of law 13. A scene as a law's argument. A scene that is built in a block of its own: its two rows grow. -/
import Derived.Test.YtpnjhffnlafabaaGreatDoorVSc5
import Derived.WideShapes
namespace Go.Proofs.YtpnjhffnlafabaaGreatDoor.Sn
set_option linter.unusedVariables false
set_option linter.unusedSimpArgs false
open Go.RowKit Go.Sort Go.Shelf Go.Lib Go.Proofs.Bk Go.Proofs.Bm Go.Proofs.Op Go.Proofs.Sc Go.Proofs.Kf Go.Proofs.YtpnjhffnlafabaaGreatDoorW.PrintWords Go.Proofs.YtpnjhffnlafabaaGreatDoor.PImageBack Go.Proofs.YtpnjhffnlafabaaGreatDoor.St
def OkPost (w : World) (e : Ending) (w' : World) : Prop := e = .returned (.bool true) ∧ Below w.heap.size w w'
theorem kG_row {w : World} {g : Nat} {cs : Array Value} {t : TypeId} {fr : Nat × Nat} {xs : List SG} (h : w.heap[g]? = some (.cells cs t fr)) (hn : xs.length ≤ 9223372036854775807) (hc : ∀ j x, xs[j]? = some x → ∀ i v, (gC x)[i]? = some v → cs[j * 6 + i]? = some v) : kG.C w (some ⟨g, 0, none⟩) xs.length xs := by
  refine ⟨rfl, hn, fun _ => ⟨_, rfl, fun j p hp => ⟨gC p, rfl, k50_mk w p, fun i u hu => ?_⟩⟩⟩
  rw [add_at, Nat.zero_add]
  exact (cell_row h _).trans (hc j p hp i u hu)
theorem one2 {A : Option Addr} {n c : Nat} {B : Option Addr} {m d : Nat} : ∀ v ∈ ([.slice A n c, .slice B m d] : List Value), v.oneCell' = true := by
  intro v hv; simp at hv; rcases hv with rfl | rfl <;> rfl
theorem kT_none (w : World) : kT.C w none 0 [] := ⟨rfl, by decide, fun h => absurd h (Nat.lt_irrefl _)⟩
end Go.Proofs.YtpnjhffnlafabaaGreatDoor.Sn
namespace Go.Proofs.YtpnjhffnlafabaaGreatDoor.Sn
set_option linter.unusedVariables false
set_option linter.unusedSimpArgs false
open Go.RowKit Go.Shelf Go.Proofs.Bk Go.Proofs.Bm Go.Proofs.Op Go.Proofs.Sc Go.Proofs.Kf Go.Proofs.YtpnjhffnlafabaaGreatDoorW.PrintWords Go.Proofs.YtpnjhffnlafabaaGreatDoor.PImageBack
end Go.Proofs.YtpnjhffnlafabaaGreatDoor.Sn
namespace Go.Proofs.YtpnjhffnlafabaaGreatDoor.Sn
set_option linter.unusedVariables false
set_option linter.unusedSimpArgs false
open Go.RowKit Go.Sort Go.Shelf Go.Lib Go.Proofs.Bk Go.Proofs.Bm Go.Proofs.Op Go.Proofs.Sc Go.Proofs.Kf Go.Proofs.YtpnjhffnlafabaaGreatDoorW.PrintWords Go.Proofs.YtpnjhffnlafabaaGreatDoor.PImageBack Go.Proofs.YtpnjhffnlafabaaGreatDoor.St
section
variable {P : Program} {W : World} {ops : Array Oper} {rest : List Oper} {o : Oper} {a : Act} {Q : Exit → Act → World → Prop}
theorem storeCell_event (hgd : o.guard = none) (ty : TypeId) (x y : Operand) (ho : o.op = .store ty x y) (ad : Addr) (v u : Value) (hx : a.eval x = .pointer (some ad)) (hy : a.eval y = v)
    (hv : v.oneCell' = true) (hc : W.cell? ad = some u) (hf : W.frozen? ad = false) (hi : (P.info? ty).map (·.size) = some 1) (hcs : v.cells = #[v]) (had : ad.add 0 = ad)
    (h : wpList P ops Q rest (a.put o.dst undef) (W.setCell ad v)) : wpList P ops Q (o :: rest) a W := by
  have h1 : (storeVar ty ad v).run P W = .ok () (W.setCell ad v) := by
    cases hq : P.info? ty with
    | none => simp [hq] at hi
    | some i =>
      have hs : i.size = 1 := by simpa [hq] using hi
      have hst : (store ad v).run P W = .ok () (W.setCell ad v) := by rw [run_store P W _ v _ hv, hc]; simp [hf]
      simp [storeVar, sizeOf, typeInfo, hq, hcs, hs, storeCells, had, hst, Sem.run_bind]
  refine wpList_plain hgd fun _ hK => ?_
  unfold Oper.wp execOp
  simp only [ho, hx, hy, Instr.storeAt, Instr.sureAddr, Sem.run_bind, Sem.run_pure, Result.andThen_ok, h1]
  exact hK _ _ h
end
structure Bld (base : Nat) (w0 : World) (b : Nat) (A : Option Addr) (c : Nat) (gs : List SG) (B : Option Addr) (d : Nat) (ts : List ST) (w : World) : Prop where
  below : Below base w0 w
  lo : base ≤ b
  row : w.heap[b]? = some (.cells #[.slice A gs.length c, .slice B ts.length d] 25 (0, 0))
  rg : kG.R 50 w base (fun _ => True) (.slice A gs.length c) gs
  rt : kT.R 59 w base (fun _ => True) (.slice B ts.length d) ts
section
variable {base : Nat} {w0 w w1 : World} {b : Nat} {A : Option Addr} {c : Nat} {gs : List SG} {B : Option Addr} {d : Nat} {ts : List ST}
theorem Bld.size (h : Bld base w0 b A c gs B d ts w) : base ≤ w.heap.size := Nat.le_of_lt (Nat.lt_of_le_of_lt h.lo (lt_row h.row))
theorem Bld.start (hb : Below base w0 w) (hl : base ≤ b) (hr : w.heap[b]? = some (.cells #[.slice none 0 0, .slice none 0 0] 25 (0, 0))) : Bld base w0 b none 0 [] none 0 [] w :=
  ⟨hb, hl, hr, Kd.R_nil _ _ _ _ _, Kd.R_nil _ _ _ _ _⟩
theorem Bld.grow (h : Bld base w0 b A c gs B d ts w) (hb : Below w.heap.size w w1) : Bld base w0 b A c gs B d ts w1 :=
  ⟨h.below.trans (hb.mono h.size), h.lo, row_below hb h.row, Kd.R_below h.rg hb, Kd.R_below h.rt hb⟩
theorem Bld.drew (h : Bld base w0 b A c gs B d ts w) : Bld base w0 b A c gs B d ts w.drew := h.grow (Below.refl _ _).drew
theorem Bld.cellG (h : Bld base w0 b A c gs B d ts w) : w.cell? ⟨b, 0, none⟩ = some (.slice A gs.length c) := (cell_row h.row 0).trans rfl
theorem Bld.cellT (h : Bld base w0 b A c gs B d ts w) : w.cell? ⟨b, 1, none⟩ = some (.slice B ts.length d) := (cell_row h.row 1).trans rfl
theorem R_type {α β : Type} {κ : Kd α} {κ' : Kd β} {e e' base base' : Nat} {ok ok' : Nat → Prop} {v v' : Value} {xs : List α} {ys : List β} {w w1 : World} (h : κ.R e w base ok v xs) (h' : κ'.R e' w base' ok' v' ys) (hg : w.grownBy w1 v'.ownBlock) (hE : κ.E = []) (hne : e ≠ e') :
    κ.R e w1 base ok v xs := by
  have h1 := Kd.R_bound h
  refine Kd.R_mono (Kd.R_move h1 (fun k hk => hg.block k hk.2.2.1 (fun e9 => ?_))) (fun k hk => hk.1)
  obtain ⟨q, hq, cells, hc⟩ := hk.2.2.2
  rw [hE] at hq
  simp at hq
  subst hq
  exact Kd.R_ne h' hc (Ne.symm hne) e9
theorem R_cell {α : Type} {κ : Kd α} {e base g t i : Nat} {ok : Nat → Prop} {v u : Value} {xs : List α} {cs : Array Value} {w : World} (h : κ.R e w base ok v xs) (hr : w.heap[g]? = some (.cells cs t (0, 0))) (hE : κ.E = []) (hne : e ≠ t) :
    κ.R e (w.setCell ⟨g, i, none⟩ u) base ok v xs := by
  have h1 := Kd.R_bound h
  refine Kd.R_mono (Kd.R_move h1 (fun k hk => Below.heap_setCell w _ u k (fun e9 => ?_))) (fun k hk => hk.1)
  obtain ⟨q, hq, cells, hc⟩ := hk.2.2.2
  rw [hE] at hq
  simp at hq
  subst hq
  have e9 : k = g := e9
  rw [e9, hr] at hc
  injection hc with hc
  injection hc with _ hc _
  exact hne hc.symm
theorem Bld.pushG (h : Bld base w0 b A c gs B d ts w) {A1 : Option Addr} {c1 : Nat} {gs1 : List SG} (hR : kG.R 50 w1 base (fun _ => True) (.slice A1 gs1.length c1) gs1) (hb : Below base w0 w1) (hg : w.grownBy w1 (Value.slice A gs.length c).ownBlock) :
    Bld base w0 b A1 c1 gs1 B d ts (w1.setCell ⟨b, 0, none⟩ (.slice A1 gs1.length c1)) := by
  have hr : w1.heap[b]? = some (.cells #[.slice A gs.length c, .slice B ts.length d] 25 (0, 0)) := (hg.block b (lt_row h.row) (fun e => Kd.R_ne h.rg h.row (by decide) e)).trans h.row
  refine ⟨hb.trans ((KeepF.setCell w1 _ _).to_below (Nat.le_of_lt (Nat.lt_of_le_of_lt h.lo (lt_row hr))) (fun i hi => by rw [hi]; exact h.lo)), h.lo, ?_, R_cell hR hr rfl (by decide), R_cell (R_type h.rt h.rg hg rfl (by decide)) hr rfl (by decide)⟩
  rw [setCell_row hr]; rfl
theorem Bld.pushT (h : Bld base w0 b A c gs B d ts w) {B1 : Option Addr} {d1 : Nat} {ts1 : List ST} (hR : kT.R 59 w1 base (fun _ => True) (.slice B1 ts1.length d1) ts1) (hb : Below base w0 w1) (hg : w.grownBy w1 (Value.slice B ts.length d).ownBlock) :
    Bld base w0 b A c gs B1 d1 ts1 (w1.setCell ⟨b, 1, none⟩ (.slice B1 ts1.length d1)) := by
  have hr : w1.heap[b]? = some (.cells #[.slice A gs.length c, .slice B ts.length d] 25 (0, 0)) := (hg.block b (lt_row h.row) (fun e => Kd.R_ne h.rt h.row (by decide) e)).trans h.row
  refine ⟨hb.trans ((KeepF.setCell w1 _ _).to_below (Nat.le_of_lt (Nat.lt_of_le_of_lt h.lo (lt_row hr))) (fun i hi => by rw [hi]; exact h.lo)), h.lo, ?_, R_cell (R_type h.rg h.rt hg rfl (by decide)) hr rfl (by decide), R_cell hR hr rfl (by decide)⟩
  rw [setCell_row hr]; rfl
theorem Bld.keepT (h : Bld base w0 b A c gs B d ts w) (hg : w.grownBy w1 (Value.slice B ts.length d).ownBlock) {k : Nat} {cs : Array Value} {v : Value} (hk : w.heap[k]? = some (.cells cs 25 (0, 0))) (hne : k ≠ b) : (w1.setCell ⟨b, 1, none⟩ v).heap[k]? = some (.cells cs 25 (0, 0)) :=
  (Below.heap_setCell w1 _ v k hne).trans ((hg.block k (lt_row hk) (fun e => Kd.R_ne h.rt hk (by decide) e)).trans hk)
theorem Bld.keepG (h : Bld base w0 b A c gs B d ts w) (hg : w.grownBy w1 (Value.slice A gs.length c).ownBlock) {k : Nat} {cs : Array Value} {v : Value} (hk : w.heap[k]? = some (.cells cs 25 (0, 0))) (hne : k ≠ b) : (w1.setCell ⟨b, 0, none⟩ v).heap[k]? = some (.cells cs 25 (0, 0)) :=
  (Below.heap_setCell w1 _ v k hne).trans ((hg.block k (lt_row hk) (fun e => Kd.R_ne h.rg hk (by decide) e)).trans hk)
theorem R_spot {α : Type} {κ : Kd α} {e base : Nat} {ok : Nat → Prop} {A : Option Addr} {n c : Nat} {xs : List α} {w : World} (h : κ.R e w base ok (.slice A n c) xs) : ∀ ad, A = some ad → ad.spot = none := by
  intro ad e1
  obtain ⟨inner, hlen, ho⟩ := Kd.R_own h
  rcases ho with ⟨e2, _⟩ | ⟨g, cap, cur, e2, _⟩
  · injection e2 with e2; rw [e1] at e2; cases e2
  · injection e2 with e2; rw [e1] at e2; injection e2 with e2; rw [e2]
theorem Bld.reads (h : Bld base w0 b A c gs B d ts w) : kG.C w A gs.length gs ∧ gs.length ≤ c ∧ kT.C w B ts.length ts ∧ ts.length ≤ d ∧ (∀ ad, A = some ad → ad.spot = none) ∧ (∀ ad, B = some ad → ad.spot = none) := by
  obtain ⟨h1, h2, h3⟩ := Kd.R_reads' h.rg
  obtain ⟨h4, h5, h6⟩ := Kd.R_reads' h.rt
  exact ⟨h3, h2, h6, h5, R_spot h.rg, R_spot h.rt⟩
end
end Go.Proofs.YtpnjhffnlafabaaGreatDoor.Sn
