/- A scene as plain Lean: what is wrong with it, its order, how tall it is. Scenes, plain: what stays where groups and tasks stand in another order. Scenes, plain: a scene without its last group; with a task more. Scenes, plain: a scene with other numbers. -/
import Derived.Test.YtpnjhffnlafabaaGreatDoorVBm
namespace Go.Proofs.Sc
set_option linter.unusedVariables false
set_option linter.unusedSimpArgs false
open Go.Proofs.Bm
structure G where
  id : Int
  parent : Int
  weight : Int
  period : Int
  quota : Int
  used : Int
structure T where
  id : Int
  group : Int
  weight : Int
  cores : Int
  asleep : Bool
  ran : Int
  v : Int
  rem : Int
theorem G.ext_iff' (a b : G) : a = b ↔ a.id = b.id ∧ a.parent = b.parent ∧ a.weight = b.weight ∧ a.period = b.period ∧ a.quota = b.quota ∧ a.used = b.used := by
  cases a; cases b; simp
theorem T.ext_iff' (a b : T) : a = b ↔ a.id = b.id ∧ a.group = b.group ∧ a.weight = b.weight ∧ a.cores = b.cores ∧ a.asleep = b.asleep ∧ a.ran = b.ran ∧ a.v = b.v ∧ a.rem = b.rem := by
  cases a; cases b; simp
instance : DecidableEq G := fun a b => decidable_of_iff' _ (G.ext_iff' a b)
instance : DecidableEq T := fun a b => decidable_of_iff' _ (T.ext_iff' a b)
instance : Inhabited G := ⟨⟨0, 0, 0, 0, 0, 0⟩⟩
instance : Inhabited T := ⟨⟨0, 0, 0, 0, false, 0, 0, 0⟩⟩
def within1 (n m : Int) : Bool := decide (1 ≤ n) && decide (n ≤ m)
def within0 (n m : Int) : Bool := decide (0 ≤ n) && decide (n ≤ m)
def bandRight (g : G) : Bool := if g.quota = 0 then within0 g.period 1048576 && decide (g.used = 0) else within1 g.period 1048576 && within0 g.quota 1048576 && within0 g.used 1099511627776
def weighs (w : Int) : Int := max 1 (min w 1048576)
def paceRight (v rem w : Int) : Bool := decide (0 ≤ v) && decide (v ≤ 2305843009213693952) && decide (0 ≤ rem) && decide (rem < weighs w)
def oddG (g : G) : Bool := !within1 g.id 1048576 || !within1 g.weight 1048576 || !bandRight g
def oddT (t : T) : Bool := !within1 t.id 1048576 || !within1 t.weight 1048576 || decide (t.cores = 0) || decide (t.ran < 0) || decide (1099511627776 < t.ran) || !paceRight t.v t.rem t.weight
def idsOf (gs : List G) (ts : List T) : List Int := gs.map (·.id) ++ ts.map (·.id)
def gids (gs : List G) : List Int := gs.map (·.id)
def headPar (gs : List G) : Int := match gs with | [] => 0 | g :: _ => g.parent
def headId (gs : List G) : Int := match gs with | [] => 0 | g :: _ => g.id
def upOf (gs : List G) : List (Int × Int) := gs.foldl (fun l g => aset l g.id g.parent) []
def up (gs : List G) (id : Int) : Int := (aget (upOf gs) id).getD 0
def namesOf (gs : List G) (ts : List T) : Int :=
  if ¬ (idsOf gs ts).Nodup then 9 else if headPar gs ≠ 0 ∨ (∃ g ∈ gs, g.parent ≠ 0 ∧ g.parent ∉ gids gs) ∨ (∃ t ∈ ts, t.group ∉ gids gs) then 8 else 0
def climb (f : Int → Int) : Nat → Int → Nat × Int
  | 0, at_ => (0, at_)
  | n + 1, at_ => if f at_ = 0 then (0, at_) else ((climb f n (f at_)).1 + 1, (climb f n (f at_)).2)
def stepsOf (gs : List G) (id : Int) : Int :=
  if (climb (up gs) (gs.length + 1) id).1 > gs.length ∨ (0 < gs.length ∧ (climb (up gs) (gs.length + 1) id).2 ≠ headId gs) then -1 else (climb (up gs) (gs.length + 1) id).1
def plainG : List G → List Int → Bool
  | [], _ => true
  | g :: gs, seen => !(decide (g.parent = 0) || decide (g.id ∈ seen)) && plainG gs (seen ++ [g.id])
def tailPlain (gs : List G) : Bool := match gs with | [] => true | g :: gs => plainG gs [g.id]
def wholeOf (gs : List G) : Bool := tailPlain gs && gs.all fun g => decide (0 ≤ stepsOf gs g.id)
def kidsOf (gs : List G) (id : Int) : List G := gs.filter fun g => decide (g.parent = id)
def kidsS (gs : List G) (id : Int) : List G := (kidsOf gs id).mergeSort fun a b => decide (a.id ≤ b.id)
def walk (gs : List G) : Nat → G → List G
  | 0, g => [g]
  | n + 1, g => g :: ((kidsS gs g.id).map (walk gs n)).flatten
def underOf (gs : List G) : List G := match gs with | [] => [] | g :: _ => walk gs (gs.length + 1) g
def sortT (ts : List T) : List T := ts.mergeSort fun a b => decide (a.id ≤ b.id)
def orderOf (gs : List G) (ts : List T) : List G × List T := if wholeOf gs then (underOf gs, sortT ts) else ([], [])
def tallOf (gs : List G) : Int := (gs.map fun g => stepsOf gs g.id).foldl max 0
def checkOf (gs : List G) (ts : List T) : Int :=
  if gs.length = 0 then 2 else if 4096 < gs.length ∨ 4096 < ts.length then 7 else if gs.any oddG || ts.any oddT then 1
  else if namesOf gs ts ≠ 0 then namesOf gs ts else if wholeOf gs = false ∨ orderOf gs ts ≠ (gs, ts) then 5 else if 16 ≤ tallOf gs then 10 else 0
end Go.Proofs.Sc
namespace Go.Proofs.Sc
set_option linter.unusedVariables false
set_option linter.unusedSimpArgs false
open Go.Proofs.Bm
theorem aget_foldl (k : Int) : ∀ (gs : List G) (l : List (Int × Int)), (gids gs).Nodup →
    aget (gs.foldl (fun l g => aset l g.id g.parent) l) k = match gs.find? (fun g => decide (g.id = k)) with | some g => some g.parent | none => aget l k
  | [], l, _ => rfl
  | g :: gs, l, h => by
    have hn := List.nodup_cons.1 (show (g.id :: gids gs).Nodup from h)
    rw [List.foldl_cons, aget_foldl k gs _ hn.2, List.find?_cons]
    by_cases e : g.id = k
    · have e1 : gs.find? (fun g => decide (g.id = k)) = none := by
        rw [List.find?_eq_none]
        intro x hx
        simp
        intro e2
        exact hn.1 (List.mem_map.2 ⟨x, hx, by rw [e2, e]⟩)
      rw [e1]
      simp [e, aget_aset]
    · simp only [e, decide_false]
      cases gs.find? (fun g => decide (g.id = k)) with
      | some x => rfl
      | none => simp only []; rw [aget_aset, if_neg (fun h => e h.symm)]
theorem up_mem {gs : List G} (h : (gids gs).Nodup) {g : G} (hg : g ∈ gs) : up gs g.id = g.parent := by
  unfold up upOf
  rw [aget_foldl _ _ _ h]
  cases e : gs.find? (fun x => decide (x.id = g.id)) with
  | none =>
    rw [List.find?_eq_none] at e
    exact absurd (show decide (g.id = g.id) = true by simp) (e g hg)
  | some x =>
    have h1 : x.id = g.id := by simpa using List.find?_some e
    have h2 := List.mem_of_find?_eq_some e
    have : x = g := by
      have hi : ∀ a ∈ gs, ∀ b ∈ gs, a.id = b.id → a = b := fun a ha b hb hab => by
        have := List.pairwise_map.1 h
        obtain ⟨i, hi, rfl⟩ := List.mem_iff_getElem.1 ha
        obtain ⟨j, hj, rfl⟩ := List.mem_iff_getElem.1 hb
        rcases Nat.lt_trichotomy i j with c | c | c
        · exact absurd hab (List.pairwise_iff_getElem.1 this i j hi hj c)
        · subst c; rfl
        · exact absurd hab.symm (List.pairwise_iff_getElem.1 this j i hj hi c)
      exact hi x h2 g hg h1
    subst this; rfl
theorem inj_id {gs : List G} (h : (gids gs).Nodup) {a b : G} (ha : a ∈ gs) (hb : b ∈ gs) (hab : a.id = b.id) : a = b := by
  have := List.pairwise_map.1 h
  obtain ⟨i, hi, rfl⟩ := List.mem_iff_getElem.1 ha
  obtain ⟨j, hj, rfl⟩ := List.mem_iff_getElem.1 hb
  rcases Nat.lt_trichotomy i j with c | c | c
  · exact absurd hab (List.pairwise_iff_getElem.1 this i j hi hj c)
  · subst c; rfl
  · exact absurd hab.symm (List.pairwise_iff_getElem.1 this j i hj hi c)
theorem inj_idT {ts : List T} (h : (ts.map (·.id)).Nodup) {a b : T} (ha : a ∈ ts) (hb : b ∈ ts) (hab : a.id = b.id) : a = b := by
  have := List.pairwise_map.1 h
  obtain ⟨i, hi, rfl⟩ := List.mem_iff_getElem.1 ha
  obtain ⟨j, hj, rfl⟩ := List.mem_iff_getElem.1 hb
  rcases Nat.lt_trichotomy i j with c | c | c
  · exact absurd hab (List.pairwise_iff_getElem.1 this i j hi hj c)
  · subst c; rfl
  · exact absurd hab.symm (List.pairwise_iff_getElem.1 this j i hj hi c)
theorem up_not {gs : List G} (h : (gids gs).Nodup) {k : Int} (hk : k ∉ gids gs) : up gs k = 0 := by
  unfold up upOf
  rw [aget_foldl _ _ _ h]
  cases e : gs.find? (fun x => decide (x.id = k)) with
  | none => rfl
  | some x => exact absurd (List.mem_map.2 ⟨x, List.mem_of_find?_eq_some e, by simpa using List.find?_some e⟩) hk
theorem up_perm {gs gs' : List G} (hp : gs.Perm gs') (h : (gids gs).Nodup) : up gs' = up gs := by
  have h' : (gids gs').Nodup := (hp.map G.id).nodup_iff.1 h
  funext k
  by_cases hk : k ∈ gids gs
  · obtain ⟨g, hg, rfl⟩ := List.mem_map.1 hk
    rw [up_mem h hg, up_mem h' (hp.mem_iff.1 hg)]
  · rw [up_not h hk, up_not h' (fun e => hk ((hp.map G.id).mem_iff.2 e))]
theorem plainG_eq : ∀ (gs : List G) (seen : List Int), (seen ++ gids gs).Nodup → plainG gs seen = gs.all fun g => !decide (g.parent = 0)
  | [], _, _ => rfl
  | g :: gs, seen, h => by
    have h1 : g.id ∉ seen := fun hm => by
      rw [List.nodup_append] at h
      exact h.2.2 _ hm _ (by simp [gids]) rfl
    unfold plainG
    rw [plainG_eq gs (seen ++ [g.id]) (by simpa [gids] using h)]
    simp [h1]
theorem tailPlain_eq {gs : List G} (h : (gids gs).Nodup) : tailPlain gs = gs.tail.all fun g => !decide (g.parent = 0) := by
  cases gs with
  | nil => rfl
  | cons g gs => exact plainG_eq gs [g.id] (by simpa [gids] using h)
theorem sorted_id (l : List G) : (l.mergeSort fun a b => decide (a.id ≤ b.id)).Pairwise fun a b => a.id ≤ b.id := by
  have := List.pairwise_mergeSort (le := fun (a b : G) => decide (a.id ≤ b.id)) (fun a b c => by simp; omega) (fun a b => by simp; omega) l
  exact this.imp (fun h => by simpa using h)
theorem sorted_idT (l : List T) : (sortT l).Pairwise fun a b => a.id ≤ b.id := by
  have := List.pairwise_mergeSort (le := fun (a b : T) => decide (a.id ≤ b.id)) (fun a b c => by simp; omega) (fun a b => by simp; omega) l
  exact this.imp (fun h => by simpa using h)
theorem sortT_perm {l l' : List T} (hp : l.Perm l') (h : (l.map (·.id)).Nodup) : sortT l' = sortT l := by
  have p1 : (sortT l).Perm l := List.mergeSort_perm l _
  have p2 : (sortT l').Perm l' := List.mergeSort_perm l' _
  refine (List.Perm.eq_of_pairwise (le := fun a b => a.id ≤ b.id) ?_ (sorted_idT l) (sorted_idT l') (p1.trans (hp.trans p2.symm))).symm
  intro a b ha hb h1 h2
  exact inj_idT h (p1.mem_iff.1 ha) (hp.mem_iff.2 (p2.mem_iff.1 hb)) (by omega)
theorem sortT_id {l : List T} (h : l.Pairwise fun a b => a.id ≤ b.id) : sortT l = l := List.mergeSort_of_pairwise (h.imp (fun h => by simpa using h))
theorem kidsOf_nodup {gs : List G} (h : (gids gs).Nodup) (k : Int) : (gids (kidsOf gs k)).Nodup := h.sublist (List.filter_sublist.map G.id)
theorem le_max (k : Int) : ∀ (l : List Int) (a : Int), k ≤ l.foldl max a ↔ k ≤ a ∨ ∃ x ∈ l, k ≤ x
  | [], a => by simp
  | y :: l, a => by
    rw [List.foldl_cons, le_max k l]
    simp only [List.mem_cons, exists_eq_or_imp]
    constructor
    · rintro (h | h)
      · rcases Int.le_total a y with c | c
        · rw [Int.max_eq_right c] at h; exact .inr (.inl h)
        · rw [Int.max_eq_left c] at h; exact .inl h
      · exact .inr (.inr h)
    · rintro (h | h | h)
      · exact .inl (by omega)
      · exact .inl (by omega)
      · exact .inr h
structure Fine (gs : List G) (ts : List T) : Prop where
  ne : gs ≠ []
  lg : gs.length ≤ 4096
  lt : ts.length ≤ 4096
  og : ∀ g ∈ gs, oddG g = false
  ot : ∀ t ∈ ts, oddT t = false
  nd : (idsOf gs ts).Nodup
  hp : headPar gs = 0
  par : ∀ g ∈ gs, g.parent ≠ 0 → g.parent ∈ gids gs
  grp : ∀ t ∈ ts, t.group ∈ gids gs
  wh : wholeOf gs = true
  un : underOf gs = gs
  so : sortT ts = ts
  ta : tallOf gs < 16
theorem fine_iff (gs : List G) (ts : List T) : checkOf gs ts = 0 ↔ Fine gs ts := by
  constructor
  · intro h
    unfold checkOf at h
    split at h
    · cases h
    rename_i h1
    split at h
    · cases h
    rename_i h2
    split at h
    · cases h
    rename_i h3
    split at h
    · rename_i h4; exact absurd h h4
    rename_i h4
    split at h
    · cases h
    rename_i h5
    split at h
    · cases h
    rename_i h6
    have h4 : namesOf gs ts = 0 := by simpa using h4
    unfold namesOf at h4
    split at h4
    · cases h4
    rename_i n1
    split at h4
    · cases h4
    rename_i n2
    simp only [not_or, not_exists, not_and, Classical.not_not] at n1 n2
    simp only [not_or, Classical.not_not] at h5
    have hw : wholeOf gs = true := by simpa using h5.1
    have ho := h5.2
    unfold orderOf at ho
    rw [if_pos hw] at ho
    simp at h3
    exact ⟨fun e => h1 (by rw [e]; rfl), by omega, by omega, h3.1, h3.2, n1, n2.1, n2.2.1, n2.2.2, hw, congrArg Prod.fst ho, congrArg Prod.snd ho, by omega⟩
  · intro F
    unfold checkOf
    rw [if_neg (fun e => F.ne (List.length_eq_zero_iff.1 e)), if_neg (by have := F.lg; have := F.lt; omega), if_neg (by simpa using ⟨F.og, F.ot⟩)]
    have hn : namesOf gs ts = 0 := by
      unfold namesOf
      rw [if_neg (by simpa using F.nd), if_neg]
      simp only [not_or, not_exists, not_and, Classical.not_not]
      exact ⟨F.hp, F.par, F.grp⟩
    rw [if_neg (by rw [hn]; simp), if_neg, if_neg (by have := F.ta; omega)]
    unfold orderOf
    rw [if_pos F.wh, F.un, F.so]
    simp [F.wh]
end Go.Proofs.Sc
namespace Go.Proofs.Sc
set_option linter.unusedVariables false
set_option linter.unusedSimpArgs false
open Go.Proofs.Bm
theorem climb_more (f : Int → Int) : ∀ n a, (climb f n a).1 < n → climb f (n + 1) a = climb f n a
  | 0, a, h => absurd h (Nat.not_lt_zero _)
  | n + 1, a, h => by
    unfold climb at h ⊢
    by_cases e : f a = 0
    · rw [if_pos e, if_pos e]
    · rw [if_neg e] at h ⊢
      rw [if_neg e]
      rw [climb_more f n (f a) (by simpa using h)]
structure Tree (gs : List G) : Prop where
  nd : (gids gs).Nodup
  ne : ∀ g ∈ gs, 1 ≤ g.id
  st : ∀ g ∈ gs, 0 ≤ stepsOf gs g.id
  tl : ∀ g ∈ gs.tail, g.parent ≠ 0
theorem steps_at {gs : List G} {k : Int} (h : 0 ≤ stepsOf gs k) (hl : gs ≠ []) : (climb (up gs) (gs.length + 1) k).1 ≤ gs.length ∧ (climb (up gs) (gs.length + 1) k).2 = headId gs ∧ stepsOf gs k = (climb (up gs) (gs.length + 1) k).1 := by
  have h0 : 0 < gs.length := List.length_pos_iff.2 hl
  unfold stepsOf at h ⊢
  split at h
  · omega
  · rename_i h1
    rw [if_neg h1]
    simp only [not_or, not_and, Classical.not_not] at h1
    exact ⟨by omega, h1.2 h0, rfl⟩
theorem Tree.le {gs : List G} (Y : Tree gs) {g : G} (hg : g ∈ gs) : stepsOf gs g.id ≤ gs.length := by
  obtain ⟨h1, _, h3⟩ := steps_at (Y.st g hg) (List.ne_nil_of_mem hg)
  omega
theorem Tree.kid {gs : List G} (Y : Tree gs) {g c : G} (hg : g ∈ gs) (hc : c ∈ gs) (hp : c.parent = g.id) : stepsOf gs c.id = stepsOf gs g.id + 1 := by
  have hne := List.ne_nil_of_mem hg
  obtain ⟨c1, c2, c3⟩ := steps_at (Y.st c hc) hne
  have hu : up gs c.id = g.id := (up_mem Y.nd hc).trans hp
  have h1 := Y.ne g hg
  have e : climb (up gs) (gs.length + 1) c.id = ((climb (up gs) gs.length g.id).1 + 1, (climb (up gs) gs.length g.id).2) := by
    rw [climb, hu, if_neg (by omega)]
  have h2 : (climb (up gs) gs.length g.id).1 < gs.length := by rw [e] at c1; simp at c1; omega
  have e2 := climb_more (up gs) gs.length g.id h2
  obtain ⟨g1, g2, g3⟩ := steps_at (Y.st g hg) hne
  rw [c3, g3, e, e2]
  simp
theorem mem_kids {gs : List G} {k : Int} {c : G} : c ∈ kidsS gs k ↔ c ∈ gs ∧ c.parent = k := by
  unfold kidsS
  rw [List.mem_mergeSort]
  unfold kidsOf
  simp
theorem Tree.stable {gs : List G} (Y : Tree gs) : ∀ (n m : Nat) (g : G), g ∈ gs → gs.length ≤ stepsOf gs g.id + n → gs.length ≤ stepsOf gs g.id + m → walk gs n g = walk gs m g
  | 0, 0, g, _, _, _ => rfl
  | 0, m + 1, g, hg, h1, h2 => by
    have : kidsS gs g.id = [] := by
      rw [List.eq_nil_iff_forall_not_mem]
      intro c hc
      have hc := mem_kids.1 hc
      have := Y.kid hg hc.1 hc.2
      have := Y.le hc.1
      omega
    unfold walk
    rw [this]; rfl
  | n + 1, 0, g, hg, h1, h2 => by
    have : kidsS gs g.id = [] := by
      rw [List.eq_nil_iff_forall_not_mem]
      intro c hc
      have hc := mem_kids.1 hc
      have := Y.kid hg hc.1 hc.2
      have := Y.le hc.1
      omega
    unfold walk
    rw [this]; rfl
  | n + 1, m + 1, g, hg, h1, h2 => by
    unfold walk
    congr 2
    apply List.map_congr_left
    intro c hc
    have hc := mem_kids.1 hc
    have := Y.kid hg hc.1 hc.2
    exact Y.stable n m c hc.1 (by omega) (by omega)
theorem Tree.inside {gs : List G} (Y : Tree gs) : ∀ (n : Nat) (g : G), g ∈ gs → gs.length ≤ stepsOf gs g.id + n → ∀ y, y ∈ walk gs n g → y ∈ gs ∧ ∃ l r, walk gs n g = l ++ walk gs (gs.length + 1) y ++ r
  | n, g, hg, h1, y, hy => by
    have hself : ∀ n : Nat, gs.length ≤ stepsOf gs g.id + n → ∃ l r, walk gs n g = l ++ walk gs (gs.length + 1) g ++ r := fun n h => ⟨[], [], by
      rw [List.nil_append, List.append_nil]; have := Y.st g hg; exact Y.stable _ _ g hg h (by omega)⟩
    cases n with
    | zero =>
      unfold walk at hy
      simp at hy
      subst hy
      exact ⟨hg, hself 0 h1⟩
    | succ n =>
      unfold walk at hy
      rw [List.mem_cons] at hy
      rcases hy with rfl | hy
      · exact ⟨hg, hself _ h1⟩
      · rw [List.mem_flatten] at hy
        obtain ⟨l, hl, hyl⟩ := hy
        obtain ⟨c, hc, rfl⟩ := List.mem_map.1 hl
        have hck := mem_kids.1 hc
        have hk := Y.kid hg hck.1 hck.2
        obtain ⟨q1, l1, r1, q2⟩ := Y.inside n c hck.1 (by omega) y hyl
        obtain ⟨a, b, hab⟩ := List.append_of_mem hc
        refine ⟨q1, g :: ((a.map (walk gs n)).flatten ++ l1), r1 ++ (b.map (walk gs n)).flatten, ?_⟩
        rw [walk, hab]
        simp [q2]
end Go.Proofs.Sc
namespace Go.Proofs.Sc
set_option linter.unusedVariables false
set_option linter.unusedSimpArgs false
open Go.Proofs.Bm
theorem within1_iff {n m : Int} : within1 n m = true ↔ 1 ≤ n ∧ n ≤ m := by simp [within1]
theorem oddG_id {g : G} (h : oddG g = false) : within1 g.id 1048576 = true := by
  cases hw : within1 g.id 1048576 with
  | true => rfl
  | false => simp [oddG, hw] at h
theorem oddT_id {g : T} (h : oddT g = false) : within1 g.id 1048576 = true := by
  cases hw : within1 g.id 1048576 with
  | true => rfl
  | false => simp [oddT, hw] at h
section
variable {gs : List G} {ts : List T} {a : Int}
end
end Go.Proofs.Sc
