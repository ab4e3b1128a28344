/- Three growing lists beside a store: ages, whether there is an image, images. -/
import Derived.Test.YtiibfboendnifaaDoorSlGg
import Derived.Test.YtiibfboendnifaaDoorSlZ
namespace Go.Proofs.YtiibfboendnifaaDoor.Sl
set_option linter.unusedVariables false
set_option linter.unusedSimpArgs false
open Go.RowKit Go.Proofs.Bk Go.Proofs.Bm Go.Proofs.YtiibfboendnifaaDoor.Dk Go.Proofs.YtiibfboendnifaaDoorW.PrintWords

theorem R_other {α β : Type} {d : Kd α} {d' : Kd β} {e e' base base' : Nat} {ok ok' : Nat → Prop} {w w1 : World} {v v' : Value} {xs : List α} {ys : List β} (h : d.R e w base ok v xs) (h' : d'.R e' w base' ok' v' ys)
    (ht : ∀ q, q ∈ e :: d.E → q ≠ e') (hg : w.grownBy w1 v'.ownBlock) : d.R e w1 base ok v xs := by
  have h1 := Kd.R_bound h
  obtain ⟨inner, ho⟩ := Kd.R_own h'
  refine Kd.R_mono (Kd.R_grown h1 hg (fun k hk e1 => ?_)) (fun k hk => hk.1)
  obtain ⟨_, _, _, q, hq, c1, hc1⟩ := hk
  obtain ⟨c2, hc2⟩ := own_typed ho k e1.symm
  rw [hc1] at hc2
  injection hc2 with hc2
  injection hc2 with _ hc2
  exact ht q hq hc2
theorem KeepF.of_grown {w w1 : World} {row : Option Nat} (hg : w.grownBy w1 row) : KeepF (fun k => some k = row) w w1 := ⟨hg.os, hg.tape, hg.output, hg.size, fun k hk hn => hg.block k hk hn⟩
theorem StoG.link {G : Nat → Prop} {w : World} {S B K M : Nat} {D : Dsk} {h : Hd} (s : StoG G w S B K M D h) :
    ∃ A c, w.heap[S]? = some (.cells #[.int .i64 h.age, .bool h.has, .slice A h.img.length c, .pointer (some ⟨B, 0, none⟩)] 74 (0, 0)) ∧ h.img.length ≤ c ∧ (Kd.int .u8).C w A h.img.length h.img ∧ (∀ ad, A = some ad → ¬ FS S B K M ad.block) ∧
      w.cell? ⟨S, 2, none⟩ = some (.slice A h.img.length c) ∧ (∀ ad, A = some ad → 0 < h.img.length → G ad.block) := by
  obtain ⟨A, c, h1, h2, h3, h4⟩ := s.st
  obtain ⟨A', n', c', g1, g2⟩ := s.g
  have e : w.cell? ⟨S, 2, none⟩ = some (.slice A h.img.length c) := (cell_row h1 2).trans rfl
  rw [e] at g1
  injection g1 with g1
  injection g1 with a1 a2 a3
  subst a1
  rw [← a2] at g2
  exact ⟨A, c, h1, h2, h3, h4, e, g2⟩
/-- a row elsewhere has grown -/
theorem StoG.grow {G : Nat → Prop} {w w1 : World} {S B K M : Nat} {D : Dsk} {h : Hd} (s : StoG G w S B K M D h) {row : Option Nat} (hg : w.grownBy w1 row) (hF : ∀ k, some k = row → ¬ FS S B K M k) (hG : ∀ k, G k → some k ≠ row) : StoG G w1 S B K M D h := by
  have hk := KeepF.of_grown hg
  obtain ⟨A, c, h1, h2, h3, h4, h5, h6⟩ := s.link
  have hS : ¬ some S = row := fun e => hF S e (.inr rfl)
  have hd := s.dk.of_keep hk (fun e => hF _ e (.inl (.inl rfl))) (fun e => hF _ e (.inl (.inr (.inl rfl)))) (fun e => hF _ e (.inl (.inr (.inr rfl))))
  exact ⟨⟨hd, ⟨A, c, (hk.block S (Array.getElem?_eq_some_iff.1 h1).1 hS).trans h1, h2, Kd_C_keep h3 (fun ad e hp hf => hG _ (h6 ad e (by omega)) hf) hk, h4⟩, s.sf, s.ok, s.nz⟩, A, _, c, keepF_cell hk h5 hS, h6⟩
theorem StoG.far {G G' : Nat → Prop} {w : World} {S B K M : Nat} {D : Dsk} {h : Hd} (s : StoG G w S B K M D h) (hG : ∀ k, k < w.heap.size → G k → G' k) : StoG G' w S B K M D h := by
  obtain ⟨A, c, h1, h2, h3, h4, h5, h6⟩ := s.link
  refine ⟨s.toSto, A, _, c, h5, fun ad e hp => ?_⟩
  refine hG _ ?_ (h6 ad e hp)
  obtain ⟨ad', e', hc⟩ := h3.2.2 hp
  obtain rfl : ad' = ad := by rw [e'] at e; exact Option.some.inj e
  have h0 : (0 : Nat) < h.img.length := hp
  obtain ⟨cs, q1, q2, q3⟩ := hc 0 _ (List.getElem?_eq_getElem h0)
  have q4 : cs = [.int .u8 (h.img[0])] := q2
  have q5 := q3 0 _ (by rw [q4]; rfl)
  have := World.block_lt_of_cell? w _ q5
  exact this

def kImg : Kd (List Int) := Kd.slice 5 (Kd.int .u8)
/-- the three lists -/
structure Three (w : World) (b : Nat) (F : Nat → Prop) (v9 v10 v11 : Value) (la : List Int) (lb : List Bool) (li : List (List Int)) : Prop where
  ra : (Kd.int .i64).R 3 w b (fun k => ¬ F k) v9 la
  rb : Kd.bool.R 4 w b (fun k => ¬ F k) v10 lb
  ri : kImg.R 32 w b (fun k => ¬ F k) v11 li
theorem Three.keep {w w1 : World} {b : Nat} {F : Nat → Prop} {v9 v10 v11 : Value} {la : List Int} {lb : List Bool} {li : List (List Int)} (h : Three w b F v9 v10 v11 la lb li) (hk : KeepF F w w1) : Three w1 b F v9 v10 v11 la lb li :=
  ⟨Kd.R_step h.ra (fun k hf hl => hk.block k hl hf), Kd.R_step h.rb (fun k hf hl => hk.block k hl hf), Kd.R_step h.ri (fun k hf hl => hk.block k hl hf)⟩
theorem Three.below {w w1 : World} {b : Nat} {F : Nat → Prop} {v9 v10 v11 : Value} {la : List Int} {lb : List Bool} {li : List (List Int)} (h : Three w b F v9 v10 v11 la lb li) (hb : Below w.heap.size w w1) : Three w1 b F v9 v10 v11 la lb li :=
  ⟨Kd.R_below h.ra hb, Kd.R_below h.rb hb, Kd.R_below h.ri hb⟩
theorem Three.none_ (w : World) (b : Nat) (F : Nat → Prop) : Three w b F (.slice none 0 0) (.slice none 0 0) (.slice none 0 0) [] [] [] := ⟨Kd.R_nil _ _ _ _ _, Kd.R_nil _ _ _ _ _, Kd.R_nil _ _ _ _ _⟩
/-- the store's image lies in none of the lists' own blocks -/
def Off (v9 v10 v11 : Value) : Nat → Prop := fun k => some k ≠ v9.ownBlock ∧ some k ≠ v10.ownBlock ∧ some k ≠ v11.ownBlock
theorem off_new {w : World} {b : Nat} {F : Nat → Prop} {v9 v10 v11 : Value} {la : List Int} {lb : List Bool} {li : List (List Int)} (h : Three w b F v9 v10 v11 la lb li) : ∀ k, w.heap.size ≤ k → Off v9 v10 v11 k := fun k hk => by
  have e : k = w.heap.size + (k - w.heap.size) := by omega
  rw [e]
  exact ⟨Kd.R_ne_new h.ra _, Kd.R_ne_new h.rb _, Kd.R_ne_new h.ri _⟩
theorem StoG.of_nil {G : Nat → Prop} {w : World} {S B K M : Nat} {D : Dsk} {h : Hd} (s : Sto w S B K M D h) (hn : h.img = []) : StoG G w S B K M D h := by
  obtain ⟨A, c, h1, _⟩ := s.st
  exact ⟨s, A, _, c, (cell_row h1 2).trans rfl, fun ad e hp => by rw [hn] at hp; exact absurd hp (Nat.lt_irrefl 0)⟩
theorem ne_own {w : World} {u v : Value} {k : Nat} (hk : k < w.heap.size) (h : some k ≠ v.ownBlock) (hat : u.ownBlock = v.ownBlock ∨ ∃ b, u.ownBlock = some b ∧ w.heap.size ≤ b) : some k ≠ u.ownBlock := by
  intro e
  rcases hat with e2 | ⟨b, e2, hb⟩
  · exact h (e.trans e2)
  · rw [e2] at e; injection e with e; omega
section push
variable {w w1 : World} {b S B K M : Nat} {v9 v10 v11 u : Value} {la : List Int} {lb : List Bool} {li : List (List Int)} {D : Dsk} {h : Hd}
theorem Three.push9 (T : Three w b (FS S B K M) v9 v10 v11 la lb li) (s : StoG (Off v9 v10 v11) w S B K M D h) {la1 : List Int} (ho : (Kd.int .i64).R 3 w1 b (fun k => ¬ FS S B K M k) u la1) (hg : w.grownBy w1 v9.ownBlock)
    (hat : u.ownBlock = v9.ownBlock ∨ ∃ b, u.ownBlock = some b ∧ w.heap.size ≤ b) : Three w1 b (FS S B K M) u v10 v11 la1 lb li ∧ StoG (Off u v10 v11) w1 S B K M D h := by
  refine ⟨⟨ho, R_other T.rb T.ra (show ∀ q, q ∈ [4] → q ≠ 3 by decide) hg, R_other T.ri T.ra (show ∀ q, q ∈ [32, 5] → q ≠ 3 by decide) hg⟩, ?_⟩
  exact (((s.far (G' := fun k => Off v9 v10 v11 k ∧ Off u v10 v11 k) (fun k hk hh => ⟨hh, ne_own hk hh.1 hat, hh.2⟩)).grow hg (fun k e => T.ra.1 k e.symm) (fun k hh => hh.1.1)).far (fun k _ hh => hh.2))
theorem Three.push10 (T : Three w b (FS S B K M) v9 v10 v11 la lb li) (s : StoG (Off v9 v10 v11) w S B K M D h) {lb1 : List Bool} (ho : Kd.bool.R 4 w1 b (fun k => ¬ FS S B K M k) u lb1) (hg : w.grownBy w1 v10.ownBlock)
    (hat : u.ownBlock = v10.ownBlock ∨ ∃ b, u.ownBlock = some b ∧ w.heap.size ≤ b) : Three w1 b (FS S B K M) v9 u v11 la lb1 li ∧ StoG (Off v9 u v11) w1 S B K M D h := by
  refine ⟨⟨R_other T.ra T.rb (show ∀ q, q ∈ [3] → q ≠ 4 by decide) hg, ho, R_other T.ri T.rb (show ∀ q, q ∈ [32, 5] → q ≠ 4 by decide) hg⟩, ?_⟩
  exact (((s.far (G' := fun k => Off v9 v10 v11 k ∧ Off v9 u v11 k) (fun k hk hh => ⟨hh, hh.1, ne_own hk hh.2.1 hat, hh.2.2⟩)).grow hg (fun k e => T.rb.1 k e.symm) (fun k hh => hh.1.2.1)).far (fun k _ hh => hh.2))
theorem Three.push11 (T : Three w b (FS S B K M) v9 v10 v11 la lb li) (s : StoG (Off v9 v10 v11) w S B K M D h) {li1 : List (List Int)} (ho : kImg.R 32 w1 b (fun k => ¬ FS S B K M k) u li1) (hg : w.grownBy w1 v11.ownBlock)
    (hat : u.ownBlock = v11.ownBlock ∨ ∃ b, u.ownBlock = some b ∧ w.heap.size ≤ b) : Three w1 b (FS S B K M) v9 v10 u la lb li1 ∧ StoG (Off v9 v10 u) w1 S B K M D h := by
  refine ⟨⟨R_other T.ra T.ri (show ∀ q, q ∈ [3] → q ≠ 32 by decide) hg, R_other T.rb T.ri (show ∀ q, q ∈ [4] → q ≠ 32 by decide) hg, ho⟩, ?_⟩
  exact (((s.far (G' := fun k => Off v9 v10 v11 k ∧ Off v9 v10 u k) (fun k hk hh => ⟨hh, hh.1, hh.2.1, ne_own hk hh.2.2 hat⟩)).grow hg (fun k e => T.ri.1 k e.symm) (fun k hh => hh.1.2.2)).far (fun k _ hh => hh.2))
end push
theorem img_at {w : World} {A : Option Addr} {n : Nat} {xs : List (List Int)} (h : kImg.C w A n xs) {i : Nat} (hi : i < n) {s : List Int} (hs : xs[i]? = some s) :
    ∃ ad A1 c1, A = some ad ∧ w.cell? (ad.add i) = some (.slice A1 s.length c1) ∧ s.length ≤ c1 ∧ (Kd.int .u8).C w A1 s.length s := by
  obtain ⟨ad, rfl, hc⟩ := h.2.2 (by omega)
  obtain ⟨cs, h1, h2, h3⟩ := hc i s hs
  obtain ⟨A1, c1, rfl, hl, hr⟩ := h2
  have := h3 0 _ rfl
  rw [show i * kImg.sz + 0 = i from (by show i * 1 + 0 = i; omega)] at this
  exact ⟨ad, A1, c1, rfl, this, hl, hr⟩
theorem scal_at {α : Type} {enc : α → Value} {g1 : ∀ x, (enc x).oneCell' = true} {w : World} {A : Option Addr} {n : Nat} {xs : List α} (h : (Kd.scalar enc g1).C w A n xs) {i : Nat} (hi : i < n) {s : α} (hs : xs[i]? = some s) : ∃ ad, A = some ad ∧ w.cell? (ad.add i) = some (enc s) := by
  obtain ⟨ad, rfl, hc⟩ := h.2.2 (by omega)
  obtain ⟨cs, h1, h2, h3⟩ := hc i s hs
  have e : cs = [enc s] := h2
  have := h3 0 _ (by rw [e]; rfl)
  rw [show i * (Kd.scalar enc g1).sz + 0 = i from (by show i * 1 + 0 = i; omega)] at this
  exact ⟨ad, rfl, this⟩
theorem info_bool : (Tryd.prog.info? 4).map (fun i => (i.zero, i.size, i.bytes)) = some (some (.bool false), 1, 1) := by kernel_rfl
theorem info_int : (Tryd.prog.info? 3).map (fun i => (i.zero, i.size, i.bytes)) = some (some (.int .i64 0), 1, 8) := by kernel_rfl
theorem info_img : (Tryd.prog.info? 32).map (fun i => (i.zero, i.size, i.bytes)) = some (some (.slice none 0 0), 1, 24) := by kernel_rfl
theorem img_M {w : World} {b b' : Nat} {F : Nat → Prop} {A : Option Addr} {c : Nat} {xs : List Int} (h : w.ownsRow b' 5 1 (.slice A xs.length c) xs.length (byt xs)) (hb : b ≤ b') (hF : ∀ k, b' ≤ k → ¬ F k) : (Kd.int .u8).R 5 w b (fun k => ¬ F k ∧ b' ≤ k) (.slice A xs.length c) xs := by
  refine ⟨fun k hk => ⟨hF k (own_base h k hk), own_base h k hk⟩, byt xs, own_weaken h hb, ?_⟩
  exact Kd.reps_scalar xs
end Go.Proofs.YtiibfboendnifaaDoor.Sl
