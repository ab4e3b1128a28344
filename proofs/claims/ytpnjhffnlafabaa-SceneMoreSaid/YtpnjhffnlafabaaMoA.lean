/- SceneMore: a task more can be, with a number above all others, in a group that is there; in none that is not. -/
import Derived.Test.YtpnjhffnlafabaaRnA
namespace Go.Proofs.Ytpnjhffnlafabaa.Sn
set_option linter.unusedVariables false
set_option linter.unusedSimpArgs false
open Go.RowKit Go.Sort Go.Shelf Go.Lib Go.Proofs.Bk Go.Proofs.Bm Go.Proofs.Op Go.Proofs.Sc Go.Proofs.Kf Go.Proofs.YtpnjhffnlafabaaW.PrintWords Go.Proofs.Ytpnjhffnlafabaa.PSceneOrders Go.Proofs.Ytpnjhffnlafabaa.St

theorem foldl_max_ge : ∀ (l : List Int) (a : Int), a ≤ l.foldl max a ∧ ∀ k ∈ l, k ≤ l.foldl max a
  | [], a => ⟨Int.le_refl _, by simp⟩
  | x :: l, a => by
    obtain ⟨h1, h2⟩ := foldl_max_ge l (max a x)
    refine ⟨by rw [List.foldl_cons]; omega, fun k hk => ?_⟩
    rw [List.foldl_cons]
    rcases List.mem_cons.1 hk with rfl | hk
    · omega
    · exact h2 k hk
theorem foldl_max_le : ∀ (l : List Int) (a b : Int), a ≤ b → (∀ k ∈ l, k ≤ b) → l.foldl max a ≤ b
  | [], a, b, h, _ => h
  | x :: l, a, b, h, hl => by
    rw [List.foldl_cons]
    exact foldl_max_le l _ b (by have := hl x (by simp); omega) (fun k hk => hl k (by simp [hk]))
def topOf (gs : List G) (ts : List T) : Int := (idsOf gs ts).foldl max 0
def moreT (top g wt co : Int) : ST := ⟨top + 1, g, 1 + wt, co, false, 0, ⟨0, 0⟩⟩
theorem more_can {gs : List G} {ts : List T} (F : Fine gs ts) (hl : ts.length < 4096) {g wt co : Int} (h0 : 0 ≤ wt) (h1 : wt ≤ 65535) :
    0 ≤ topOf gs ts ∧ topOf gs ts ≤ 1048576 ∧
    (g ∈ gids gs → checkOf gs (ts ++ [tOf (moreT (topOf gs ts) g wt co)]) = if co ≠ 0 ∧ topOf gs ts < 1048576 then 0 else 1) ∧
    checkOf gs (ts ++ [tOf (moreT (topOf gs ts) (topOf gs ts + 2) wt co)]) = if co ≠ 0 ∧ topOf gs ts < 1048576 then 8 else 1 := by
  obtain ⟨t1, t2⟩ := foldl_max_ge (idsOf gs ts) 0
  have hid : ∀ k ∈ idsOf gs ts, 1 ≤ k ∧ k ≤ 1048576 := by
    intro k hk
    rcases List.mem_append.1 hk with h | h
    · obtain ⟨x, hx, rfl⟩ := List.mem_map.1 h
      exact within1_iff.1 (oddG_id (F.og x hx))
    · obtain ⟨x, hx, rfl⟩ := List.mem_map.1 h
      exact within1_iff.1 (oddT_id (F.ot x hx))
  have t3 : topOf gs ts ≤ 1048576 := foldl_max_le _ _ _ (by omega) (fun k hk => (hid k hk).2)
  have hodd : ∀ g, oddT (tOf (moreT (topOf gs ts) g wt co)) = !decide (co ≠ 0 ∧ topOf gs ts < 1048576) := by
    intro g
    have e1 : within1 (topOf gs ts + 1) 1048576 = decide (topOf gs ts < 1048576) := by
      unfold within1
      rw [Bool.eq_iff_iff]
      simp
      have : 0 ≤ topOf gs ts := t1
      omega
    have e2 : within1 (1 + wt) 1048576 = true := within1_iff.2 (by omega)
    have e3 : paceRight 0 0 (1 + wt) = true := by
      unfold paceRight weighs
      simp
      omega
    show (!within1 (topOf gs ts + 1) 1048576 || !within1 (1 + wt) 1048576 || decide (co = 0) || decide ((0 : Int) < 0) || decide ((1099511627776 : Int) < 0) || !paceRight 0 0 (1 + wt)) = _
    rw [e1, e2, e3]
    by_cases a : topOf gs ts < 1048576 <;> by_cases b : co = 0 <;> simp [a, b]
  have hlt : ∀ k ∈ idsOf gs ts, k < topOf gs ts + 1 := fun k hk => by have := t2 k hk; show k < (idsOf gs ts).foldl max 0 + 1; omega
  refine ⟨t1, t3, fun hg => ?_, ?_⟩
  · by_cases hc : co ≠ 0 ∧ topOf gs ts < 1048576
    · rw [if_pos hc]
      exact (fine_iff _ _).2 (more_law F hl hlt (by rw [hodd, decide_eq_true hc]; rfl) hg)
    · rw [if_neg hc]
      exact more_odd F hl (by rw [hodd, decide_eq_false hc]; rfl)
  · by_cases hc : co ≠ 0 ∧ topOf gs ts < 1048576
    · rw [if_pos hc]
      refine more_none F hl hlt (by rw [hodd, decide_eq_true hc]; rfl) (fun hg => ?_)
      have : topOf gs ts + 2 ∈ idsOf gs ts := List.mem_append.2 (.inl hg)
      have := hlt _ this
      omega
    · rw [if_neg hc]
      exact more_odd F hl (by rw [hodd, decide_eq_false hc]; rfl)
theorem R_typed {α : Type} {κ : Kd α} {e base : Nat} {ok : Nat → Prop} {v : Value} {xs : List α} {w : World} (h : κ.R e w base ok v xs) (k : Nat) (hk : v.ownBlock = some k) : ∃ cells, w.heap[k]? = some (.cells cells e (0, 0)) := by
  obtain ⟨_, inner, ho, _⟩ := h
  exact own_typed ho k hk
theorem alloc_get (w : World) (o : Obj) (k : Nat) : (w.alloc o).heap[k]? = if k = w.heap.size then some o else w.heap[k]? := by
  show (w.heap.push o)[k]? = _
  rw [Array.getElem?_push]
theorem alloc_sz (w : World) (o : Obj) : (w.alloc o).heap.size = w.heap.size + 1 := by simp
theorem drew_get (w : World) (k : Nat) : w.drew.heap[k]? = w.heap[k]? := rfl
theorem drew_sz (w : World) : w.drew.heap.size = w.heap.size := rfl
theorem R_zero {W : World} {base g : Nat} {ok : Nat → Prop} (h : W.heap[g]? = some (.cells #[] 46 (0, 0))) (hb : base ≤ g) (hok : ok g) : kT.R 46 W base ok (.slice (some ⟨g, 0, none⟩) 0 0) [] := by
  refine ⟨fun k hk => ?_, [], ⟨rfl, .inr ⟨g, 0, #[], rfl, hb, h, Nat.le_refl _, Nat.zero_le _, rfl, rfl⟩⟩, Reps.none _ _⟩
  simp [Value.ownBlock] at hk
  rw [← hk]; exact hok
theorem T_row1 {W : World} {g : Nat} {x : ST} (h : W.heap[g]? = some (.cells (tC x).toArray 46 (0, 0))) : kT.C W (some ⟨g, 0, none⟩) 1 [x] := by
  refine ⟨rfl, by decide, fun _ => ⟨_, rfl, fun j p hp => ?_⟩⟩
  match j, hp with
  | 0, hp =>
    simp at hp
    subst hp
    exact ⟨tC x, rfl, k46_mk W x, fun i u hu => by rw [add_at]; simp only [Nat.zero_mul, Nat.zero_add]; exact (cell_row h i).trans (by rw [List.getElem?_toArray]; exact hu)⟩
theorem ne_own {k g n c : Nat} (h : k ≠ g) : some k ≠ (Value.slice (some ⟨g, 0, none⟩) n c).ownBlock := by
  simp [Value.ownBlock]; exact h
theorem ext_alloc {B : Nat} {w W : World} (h : Below B w W) (hB : B ≤ W.heap.size) (o : Obj) : Below B w (W.alloc o) := h.trans ((below_alloc (Below.refl _ _) o).mono hB)
theorem R_agree {α : Type} {κ : Kd α} {e base g t : Nat} {ok : Nat → Prop} {v : Value} {xs : List α} {w w1 : World} (h : κ.R e w base ok v xs) (hk : ∀ k, k < w.heap.size → k ≠ g → w1.heap[k]? = w.heap[k]?) (hr : (∃ cs, w.heap[g]? = some (.cells cs t (0, 0))) ∨ w.heap.size ≤ g) (hE : κ.E = []) (hne : e ≠ t) :
    κ.R e w1 base ok v xs := by
  refine Kd.R_mono (Kd.R_move (Kd.R_bound h) (fun q hq => hk q hq.2.2.1 (fun e9 => ?_))) (fun k hk => hk.1)
  rcases hr with ⟨cs, hr⟩ | hr
  · obtain ⟨ty, hty, cells, hcs⟩ := hq.2.2.2
    rw [hE] at hty
    simp at hty
    subst hty
    rw [e9, hr] at hcs
    injection hcs with hcs
    injection hcs with _ hcs _
    exact hne hcs.symm
  · have := hq.2.2.1; omega
theorem below_grown {B : Nat} {w W w1 : World} {row : Option Nat} (h : Below B w W) (hg : W.grownBy w1 row) (hB : B ≤ W.heap.size) (hr : ∀ k, row = some k → B ≤ k) : Below B w w1 :=
  ⟨hg.os.trans h.os, hg.tape.trans h.tape, hg.output.trans h.output, Nat.le_trans h.size hg.size, fun k hk => (hg.block k (Nat.lt_of_lt_of_le hk hB) (fun e => by have := hr k e.symm; omega)).trans (h.block k hk)⟩
theorem own_at {B g n c : Nat} (h : B ≤ g) : ∀ k, (Value.slice (some ⟨g, 0, none⟩) n c).ownBlock = some k → B ≤ k := by
  intro k hk
  simp [Value.ownBlock] at hk
  omega
theorem own_new {v : Value} {s g n c B k : Nat} (h : v.ownBlock = (Value.slice (some ⟨g, 0, none⟩) n c).ownBlock ∨ ∃ b, v.ownBlock = some b ∧ s ≤ b) (hk : v.ownBlock = some k) (hs : B ≤ s) (hg : B ≤ g) : B ≤ k := by
  rcases h with h | ⟨b, h, hb⟩
  · rw [hk] at h; exact own_at hg k h.symm
  · rw [hk] at h; injection h with h; omega
theorem rows_set {W w6 : World} {b0 b15 g : Nat} {v0 v1 : Value} {bo : Addr} {n c : Nat} {B : Option Addr} {m d : Nat} {t0 t1 t2 t3 t4 t5 t6 t7 : Value} (hZ : W.heap[g]? = some (.cells #[.slice none 0 0, .slice none 0 0] 25 (0, 0)))
    (h0 : W.heap[b0]? = some (.cells #[.slice (some bo) n c, .slice B m d] 25 (0, 0))) (h1 : W.heap[b15]? = some (.cells #[t0, t1, t2, t3, t4, t5, t6, t7] 46 (0, 0))) (hg : w6.heap.size ≤ g) (hb : Below w6.heap.size w6 W) :
    ((W.setCell ⟨g, 0, none⟩ v0).setCell ⟨g, 1, none⟩ v1).heap[b0]? = some (.cells #[.slice (some bo) n c, .slice B m d] 25 (0, 0)) ∧ ((W.setCell ⟨g, 0, none⟩ v0).setCell ⟨g, 1, none⟩ v1).heap[b15]? = some (.cells #[t0, t1, t2, t3, t4, t5, t6, t7] 46 (0, 0)) ∧ Below w6.heap.size w6 ((W.setCell ⟨g, 0, none⟩ v0).setCell ⟨g, 1, none⟩ v1) := by
  have n0 : b0 ≠ g := by
    rintro rfl
    rw [hZ] at h0
    injection h0 with h0
    injection h0 with h0
    have := congrArg (fun a : Array Value => a[0]?) h0
    simp at this
  have n1 : b15 ≠ g := by
    rintro rfl
    rw [hZ] at h1
    injection h1 with h1
    injection h1 with _ h1 _
    exact absurd h1 (by decide)
  exact ⟨(Below.heap_setCell _ _ _ _ n0).trans ((Below.heap_setCell _ _ _ _ n0).trans h0), (Below.heap_setCell _ _ _ _ n1).trans ((Below.heap_setCell _ _ _ _ n1).trans h1), (hb.setCell hg _).setCell hg _⟩
theorem R_cell_ne {α : Type} {κ : Kd α} {e base g i : Nat} {ok : Nat → Prop} {v u : Value} {xs : List α} {w : World} (h : κ.R e w base ok v xs) (hok : ∀ k, ok k → k ≠ g) : κ.R e (w.setCell ⟨g, i, none⟩ u) base ok v xs :=
  Kd.R_move h (fun k hk => Below.heap_setCell w _ u k (hok k hk))
theorem S_rows {X : World} {b0 b15 : Nat} {bo : Addr} {n c : Nat} {B : Option Addr} {m d : Nat} {t0 t1 t2 t3 t4 t5 t6 t7 : Value}
    (r0 : X.heap[b0]? = some (.cells #[.slice (some bo) n c, .slice B m d] 25 (0, 0))) (r1 : X.heap[b15]? = some (.cells #[t0, t1, t2, t3, t4, t5, t6, t7] 46 (0, 0))) :
    X.cell? ⟨b0, 0, none⟩ = some (.slice (some bo) n c) ∧ X.cell? ⟨b0, 1, none⟩ = some (.slice B m d) ∧ X.cell? ⟨b15, 0, none⟩ = some t0 ∧ X.cell? ⟨b15, 1, none⟩ = some t1 ∧ X.cell? ⟨b15, 2, none⟩ = some t2 ∧ X.cell? ⟨b15, 3, none⟩ = some t3 ∧ X.cell? ⟨b15, 4, none⟩ = some t4 ∧ X.cell? ⟨b15, 5, none⟩ = some t5 ∧ X.cell? ⟨b15, 6, none⟩ = some t6 ∧ X.cell? ⟨b15, 7, none⟩ = some t7 :=
  ⟨(cell_row r0 0).trans rfl, (cell_row r0 1).trans rfl, (cell_row r1 0).trans rfl, (cell_row r1 1).trans rfl, (cell_row r1 2).trans rfl, (cell_row r1 3).trans rfl, (cell_row r1 4).trans rfl, (cell_row r1 5).trans rfl, (cell_row r1 6).trans rfl, (cell_row r1 7).trans rfl⟩
theorem S_set {W : World} {b0 b15 g : Nat} {v0 v1 : Value} {bo : Addr} {n c : Nat} {B : Option Addr} {m d : Nat} {t0 t1 t2 t3 t4 t5 t6 t7 : Value} (hZ : W.heap[g]? = some (.cells #[.slice none 0 0, .slice none 0 0] 25 (0, 0)))
    (h0 : W.heap[b0]? = some (.cells #[.slice (some bo) n c, .slice B m d] 25 (0, 0))) (h1 : W.heap[b15]? = some (.cells #[t0, t1, t2, t3, t4, t5, t6, t7] 46 (0, 0))) :
    let X := (W.setCell ⟨g, 0, none⟩ v0).setCell ⟨g, 1, none⟩ v1
    X.cell? ⟨b0, 0, none⟩ = some (.slice (some bo) n c) ∧ X.cell? ⟨b0, 1, none⟩ = some (.slice B m d) ∧ X.cell? ⟨b15, 0, none⟩ = some t0 ∧ X.cell? ⟨b15, 1, none⟩ = some t1 ∧ X.cell? ⟨b15, 2, none⟩ = some t2 ∧ X.cell? ⟨b15, 3, none⟩ = some t3 ∧ X.cell? ⟨b15, 4, none⟩ = some t4 ∧ X.cell? ⟨b15, 5, none⟩ = some t5 ∧ X.cell? ⟨b15, 6, none⟩ = some t6 ∧ X.cell? ⟨b15, 7, none⟩ = some t7 := by
  have n0 : b0 ≠ g := by
    rintro rfl
    rw [hZ] at h0
    injection h0 with h0
    injection h0 with h0
    have := congrArg (fun a : Array Value => a[0]?) h0
    simp at this
  have n1 : b15 ≠ g := by
    rintro rfl
    rw [hZ] at h1
    injection h1 with h1
    injection h1 with _ h1 _
    exact absurd h1 (by decide)
  have r0 : ((W.setCell ⟨g, 0, none⟩ v0).setCell ⟨g, 1, none⟩ v1).heap[b0]? = _ := (Below.heap_setCell _ _ _ _ n0).trans ((Below.heap_setCell _ _ _ _ n0).trans h0)
  have r1 : ((W.setCell ⟨g, 0, none⟩ v0).setCell ⟨g, 1, none⟩ v1).heap[b15]? = _ := (Below.heap_setCell _ _ _ _ n1).trans ((Below.heap_setCell _ _ _ _ n1).trans h1)
  exact ⟨(cell_row r0 0).trans rfl, (cell_row r0 1).trans rfl, (cell_row r1 0).trans rfl, (cell_row r1 1).trans rfl, (cell_row r1 2).trans rfl, (cell_row r1 3).trans rfl, (cell_row r1 4).trans rfl, (cell_row r1 5).trans rfl, (cell_row r1 6).trans rfl, (cell_row r1 7).trans rfl⟩
end Go.Proofs.Ytpnjhffnlafabaa.Sn
