/- A scene as plain Lean: what is wrong with it, its order, how tall it is. Scenes, plain: what stays where groups and tasks stand in another order. Scenes, plain: a scene without its last group; with a task more. Scenes, plain: a scene with other numbers. -/
import Derived.Test.YtpnjhffnlafabaaBm
namespace Go.Proofs.Sc
set_option linter.unusedVariables false
set_option linter.unusedSimpArgs false
open Go.Proofs.Bm

structure G where
  id : Int
  parent : Int
  weight : Int
  period : Int
  quota : Int
  used : Int
structure T where
  id : Int
  group : Int
  weight : Int
  cores : Int
  asleep : Bool
  ran : Int
  v : Int
  rem : Int
theorem G.ext_iff' (a b : G) : a = b ↔ a.id = b.id ∧ a.parent = b.parent ∧ a.weight = b.weight ∧ a.period = b.period ∧ a.quota = b.quota ∧ a.used = b.used := by
  cases a; cases b; simp
theorem T.ext_iff' (a b : T) : a = b ↔ a.id = b.id ∧ a.group = b.group ∧ a.weight = b.weight ∧ a.cores = b.cores ∧ a.asleep = b.asleep ∧ a.ran = b.ran ∧ a.v = b.v ∧ a.rem = b.rem := by
  cases a; cases b; simp
instance : DecidableEq G := fun a b => decidable_of_iff' _ (G.ext_iff' a b)
instance : DecidableEq T := fun a b => decidable_of_iff' _ (T.ext_iff' a b)
instance : Inhabited G := ⟨⟨0, 0, 0, 0, 0, 0⟩⟩
instance : Inhabited T := ⟨⟨0, 0, 0, 0, false, 0, 0, 0⟩⟩

def within1 (n m : Int) : Bool := decide (1 ≤ n) && decide (n ≤ m)
def within0 (n m : Int) : Bool := decide (0 ≤ n) && decide (n ≤ m)
def bandRight (g : G) : Bool := if g.quota = 0 then within0 g.period 1048576 && decide (g.used = 0) else within1 g.period 1048576 && within0 g.quota 1048576 && within0 g.used 1099511627776
def weighs (w : Int) : Int := max 1 (min w 1048576)
def paceRight (v rem w : Int) : Bool := decide (0 ≤ v) && decide (v ≤ 2305843009213693952) && decide (0 ≤ rem) && decide (rem < weighs w)
def oddG (g : G) : Bool := !within1 g.id 1048576 || !within1 g.weight 1048576 || !bandRight g
def oddT (t : T) : Bool := !within1 t.id 1048576 || !within1 t.weight 1048576 || decide (t.cores = 0) || decide (t.ran < 0) || decide (1099511627776 < t.ran) || !paceRight t.v t.rem t.weight

def idsOf (gs : List G) (ts : List T) : List Int := gs.map (·.id) ++ ts.map (·.id)
def gids (gs : List G) : List Int := gs.map (·.id)
def headPar (gs : List G) : Int := match gs with | [] => 0 | g :: _ => g.parent
def headId (gs : List G) : Int := match gs with | [] => 0 | g :: _ => g.id
/-- a group's parent: the last one of its number -/
def upOf (gs : List G) : List (Int × Int) := gs.foldl (fun l g => aset l g.id g.parent) []
def up (gs : List G) (id : Int) : Int := (aget (upOf gs) id).getD 0
def namesOf (gs : List G) (ts : List T) : Int :=
  if ¬ (idsOf gs ts).Nodup then 9 else if headPar gs ≠ 0 ∨ (∃ g ∈ gs, g.parent ≠ 0 ∧ g.parent ∉ gids gs) ∨ (∃ t ∈ ts, t.group ∉ gids gs) then 8 else 0
/-- the way up: from a number on, while there is a parent, at most so many steps: how many, and where -/
def climb (f : Int → Int) : Nat → Int → Nat × Int
  | 0, at_ => (0, at_)
  | n + 1, at_ => if f at_ = 0 then (0, at_) else ((climb f n (f at_)).1 + 1, (climb f n (f at_)).2)
def stepsOf (gs : List G) (id : Int) : Int :=
  if (climb (up gs) (gs.length + 1) id).1 > gs.length ∨ (0 < gs.length ∧ (climb (up gs) (gs.length + 1) id).2 ≠ headId gs) then -1 else (climb (up gs) (gs.length + 1) id).1
/-- has each group behind the first a parent, and a number of its own? -/
def plainG : List G → List Int → Bool
  | [], _ => true
  | g :: gs, seen => !(decide (g.parent = 0) || decide (g.id ∈ seen)) && plainG gs (seen ++ [g.id])
def tailPlain (gs : List G) : Bool := match gs with | [] => true | g :: gs => plainG gs [g.id]
def wholeOf (gs : List G) : Bool := tailPlain gs && gs.all fun g => decide (0 ≤ stepsOf gs g.id)
def kidsOf (gs : List G) (id : Int) : List G := gs.filter fun g => decide (g.parent = id)
def kidsS (gs : List G) (id : Int) : List G := (kidsOf gs id).mergeSort fun a b => decide (a.id ≤ b.id)
def walk (gs : List G) : Nat → G → List G
  | 0, g => [g]
  | n + 1, g => g :: ((kidsS gs g.id).map (walk gs n)).flatten
def underOf (gs : List G) : List G := match gs with | [] => [] | g :: _ => walk gs (gs.length + 1) g
def sortT (ts : List T) : List T := ts.mergeSort fun a b => decide (a.id ≤ b.id)
def orderOf (gs : List G) (ts : List T) : List G × List T := if wholeOf gs then (underOf gs, sortT ts) else ([], [])
def tallOf (gs : List G) : Int := (gs.map fun g => stepsOf gs g.id).foldl max 0
def checkOf (gs : List G) (ts : List T) : Int :=
  if gs.length = 0 then 2 else if 4096 < gs.length ∨ 4096 < ts.length then 7 else if gs.any oddG || ts.any oddT then 1
  else if namesOf gs ts ≠ 0 then namesOf gs ts else if wholeOf gs = false ∨ orderOf gs ts ≠ (gs, ts) then 5 else if 16 ≤ tallOf gs then 10 else 0
end Go.Proofs.Sc
namespace Go.Proofs.Sc
set_option linter.unusedVariables false
set_option linter.unusedSimpArgs false
open Go.Proofs.Bm

theorem aget_foldl (k : Int) : ∀ (gs : List G) (l : List (Int × Int)), (gids gs).Nodup →
    aget (gs.foldl (fun l g => aset l g.id g.parent) l) k = match gs.find? (fun g => decide (g.id = k)) with | some g => some g.parent | none => aget l k
  | [], l, _ => rfl
  | g :: gs, l, h => by
    have hn := List.nodup_cons.1 (show (g.id :: gids gs).Nodup from h)
    rw [List.foldl_cons, aget_foldl k gs _ hn.2, List.find?_cons]
    by_cases e : g.id = k
    · have e1 : gs.find? (fun g => decide (g.id = k)) = none := by
        rw [List.find?_eq_none]
        intro x hx
        simp
        intro e2
        exact hn.1 (List.mem_map.2 ⟨x, hx, by rw [e2, e]⟩)
      rw [e1]
      simp [e, aget_aset]
    · simp only [e, decide_false]
      cases gs.find? (fun g => decide (g.id = k)) with
      | some x => rfl
      | none => simp only []; rw [aget_aset, if_neg (fun h => e h.symm)]
theorem up_mem {gs : List G} (h : (gids gs).Nodup) {g : G} (hg : g ∈ gs) : up gs g.id = g.parent := by
  unfold up upOf
  rw [aget_foldl _ _ _ h]
  cases e : gs.find? (fun x => decide (x.id = g.id)) with
  | none =>
    rw [List.find?_eq_none] at e
    exact absurd (show decide (g.id = g.id) = true by simp) (e g hg)
  | some x =>
    have h1 : x.id = g.id := by simpa using List.find?_some e
    have h2 := List.mem_of_find?_eq_some e
    have : x = g := by
      have hi : ∀ a ∈ gs, ∀ b ∈ gs, a.id = b.id → a = b := fun a ha b hb hab => by
        have := List.pairwise_map.1 h
        obtain ⟨i, hi, rfl⟩ := List.mem_iff_getElem.1 ha
        obtain ⟨j, hj, rfl⟩ := List.mem_iff_getElem.1 hb
        rcases Nat.lt_trichotomy i j with c | c | c
        · exact absurd hab (List.pairwise_iff_getElem.1 this i j hi hj c)
        · subst c; rfl
        · exact absurd hab.symm (List.pairwise_iff_getElem.1 this j i hj hi c)
      exact hi x h2 g hg h1
    subst this; rfl
theorem inj_id {gs : List G} (h : (gids gs).Nodup) {a b : G} (ha : a ∈ gs) (hb : b ∈ gs) (hab : a.id = b.id) : a = b := by
  have := List.pairwise_map.1 h
  obtain ⟨i, hi, rfl⟩ := List.mem_iff_getElem.1 ha
  obtain ⟨j, hj, rfl⟩ := List.mem_iff_getElem.1 hb
  rcases Nat.lt_trichotomy i j with c | c | c
  · exact absurd hab (List.pairwise_iff_getElem.1 this i j hi hj c)
  · subst c; rfl
  · exact absurd hab.symm (List.pairwise_iff_getElem.1 this j i hj hi c)
theorem inj_idT {ts : List T} (h : (ts.map (·.id)).Nodup) {a b : T} (ha : a ∈ ts) (hb : b ∈ ts) (hab : a.id = b.id) : a = b := by
  have := List.pairwise_map.1 h
  obtain ⟨i, hi, rfl⟩ := List.mem_iff_getElem.1 ha
  obtain ⟨j, hj, rfl⟩ := List.mem_iff_getElem.1 hb
  rcases Nat.lt_trichotomy i j with c | c | c
  · exact absurd hab (List.pairwise_iff_getElem.1 this i j hi hj c)
  · subst c; rfl
  · exact absurd hab.symm (List.pairwise_iff_getElem.1 this j i hj hi c)
theorem up_not {gs : List G} (h : (gids gs).Nodup) {k : Int} (hk : k ∉ gids gs) : up gs k = 0 := by
  unfold up upOf
  rw [aget_foldl _ _ _ h]
  cases e : gs.find? (fun x => decide (x.id = k)) with
  | none => rfl
  | some x => exact absurd (List.mem_map.2 ⟨x, List.mem_of_find?_eq_some e, by simpa using List.find?_some e⟩) hk
theorem up_perm {gs gs' : List G} (hp : gs.Perm gs') (h : (gids gs).Nodup) : up gs' = up gs := by
  have h' : (gids gs').Nodup := (hp.map G.id).nodup_iff.1 h
  funext k
  by_cases hk : k ∈ gids gs
  · obtain ⟨g, hg, rfl⟩ := List.mem_map.1 hk
    rw [up_mem h hg, up_mem h' (hp.mem_iff.1 hg)]
  · rw [up_not h hk, up_not h' (fun e => hk ((hp.map G.id).mem_iff.2 e))]
theorem steps_perm {gs gs' : List G} (hp : gs.Perm gs') (h : (gids gs).Nodup) (hh : headId gs' = headId gs) : stepsOf gs' = stepsOf gs := by
  funext k; unfold stepsOf; rw [up_perm hp h, hp.length_eq, hh]
theorem plainG_eq : ∀ (gs : List G) (seen : List Int), (seen ++ gids gs).Nodup → plainG gs seen = gs.all fun g => !decide (g.parent = 0)
  | [], _, _ => rfl
  | g :: gs, seen, h => by
    have h1 : g.id ∉ seen := fun hm => by
      rw [List.nodup_append] at h
      exact h.2.2 _ hm _ (by simp [gids]) rfl
    unfold plainG
    rw [plainG_eq gs (seen ++ [g.id]) (by simpa [gids] using h)]
    simp [h1]
theorem tailPlain_eq {gs : List G} (h : (gids gs).Nodup) : tailPlain gs = gs.tail.all fun g => !decide (g.parent = 0) := by
  cases gs with
  | nil => rfl
  | cons g gs => exact plainG_eq gs [g.id] (by simpa [gids] using h)
theorem all_perm {α : Type} {l l' : List α} (hp : l.Perm l') (p : α → Bool) : l'.all p = l.all p := by
  rw [Bool.eq_iff_iff, List.all_eq_true, List.all_eq_true]
  exact ⟨fun h x hx => h x (hp.mem_iff.1 hx), fun h x hx => h x (hp.mem_iff.2 hx)⟩
theorem any_perm {α : Type} {l l' : List α} (hp : l.Perm l') (p : α → Bool) : l'.any p = l.any p := by
  rw [Bool.eq_iff_iff, List.any_eq_true, List.any_eq_true]
  exact ⟨fun ⟨x, hx, h⟩ => ⟨x, hp.mem_iff.2 hx, h⟩, fun ⟨x, hx, h⟩ => ⟨x, hp.mem_iff.1 hx, h⟩⟩
theorem whole_perm {g : G} {gs gs' : List G} (hp : gs.Perm gs') (h : (gids (g :: gs)).Nodup) : wholeOf (g :: gs') = wholeOf (g :: gs) := by
  have h' : (gids (g :: gs')).Nodup := ((hp.cons g).map G.id).nodup_iff.1 h
  unfold wholeOf
  rw [tailPlain_eq h, tailPlain_eq h', steps_perm (hp.cons g) h rfl, all_perm (hp.cons g)]
  congr 1
  exact all_perm hp _
theorem sorted_id (l : List G) : (l.mergeSort fun a b => decide (a.id ≤ b.id)).Pairwise fun a b => a.id ≤ b.id := by
  have := List.pairwise_mergeSort (le := fun (a b : G) => decide (a.id ≤ b.id)) (fun a b c => by simp; omega) (fun a b => by simp; omega) l
  exact this.imp (fun h => by simpa using h)
theorem sorted_idT (l : List T) : (sortT l).Pairwise fun a b => a.id ≤ b.id := by
  have := List.pairwise_mergeSort (le := fun (a b : T) => decide (a.id ≤ b.id)) (fun a b c => by simp; omega) (fun a b => by simp; omega) l
  exact this.imp (fun h => by simpa using h)
theorem sortT_perm {l l' : List T} (hp : l.Perm l') (h : (l.map (·.id)).Nodup) : sortT l' = sortT l := by
  have p1 : (sortT l).Perm l := List.mergeSort_perm l _
  have p2 : (sortT l').Perm l' := List.mergeSort_perm l' _
  refine (List.Perm.eq_of_pairwise (le := fun a b => a.id ≤ b.id) ?_ (sorted_idT l) (sorted_idT l') (p1.trans (hp.trans p2.symm))).symm
  intro a b ha hb h1 h2
  exact inj_idT h (p1.mem_iff.1 ha) (hp.mem_iff.2 (p2.mem_iff.1 hb)) (by omega)
theorem sortT_id {l : List T} (h : l.Pairwise fun a b => a.id ≤ b.id) : sortT l = l := List.mergeSort_of_pairwise (h.imp (fun h => by simpa using h))
theorem kidsOf_nodup {gs : List G} (h : (gids gs).Nodup) (k : Int) : (gids (kidsOf gs k)).Nodup := h.sublist (List.filter_sublist.map G.id)
theorem kids_perm {gs gs' : List G} (hp : gs.Perm gs') (h : (gids gs).Nodup) : kidsS gs' = kidsS gs := by
  funext k
  have hk : (kidsOf gs k).Perm (kidsOf gs' k) := hp.filter _
  have p1 : (kidsS gs k).Perm (kidsOf gs k) := List.mergeSort_perm _ _
  have p2 : (kidsS gs' k).Perm (kidsOf gs' k) := List.mergeSort_perm _ _
  refine (List.Perm.eq_of_pairwise (le := fun a b => a.id ≤ b.id) ?_ (sorted_id _) (sorted_id _) (p1.trans (hk.trans p2.symm))).symm
  intro a b ha hb h1 h2
  exact inj_id (kidsOf_nodup h k) (p1.mem_iff.1 ha) (hk.mem_iff.2 (p2.mem_iff.1 hb)) (by omega)
theorem walk_congr {gs gs' : List G} (h : kidsS gs' = kidsS gs) : ∀ n g, walk gs' n g = walk gs n g
  | 0, g => rfl
  | n + 1, g => by
    unfold walk
    rw [h, show walk gs' n = walk gs n from funext (walk_congr h n)]
theorem under_perm {g : G} {gs gs' : List G} (hp : gs.Perm gs') (h : (gids (g :: gs)).Nodup) : underOf (g :: gs') = underOf (g :: gs) := by
  show walk (g :: gs') ((g :: gs').length + 1) g = walk (g :: gs) ((g :: gs).length + 1) g
  rw [walk_congr (kids_perm (hp.cons g) h), (hp.cons g).length_eq]
theorem le_max (k : Int) : ∀ (l : List Int) (a : Int), k ≤ l.foldl max a ↔ k ≤ a ∨ ∃ x ∈ l, k ≤ x
  | [], a => by simp
  | y :: l, a => by
    rw [List.foldl_cons, le_max k l]
    simp only [List.mem_cons, exists_eq_or_imp]
    constructor
    · rintro (h | h)
      · rcases Int.le_total a y with c | c
        · rw [Int.max_eq_right c] at h; exact .inr (.inl h)
        · rw [Int.max_eq_left c] at h; exact .inl h
      · exact .inr (.inr h)
    · rintro (h | h | h)
      · exact .inl (by omega)
      · exact .inl (by omega)
      · exact .inr h
theorem max_perm {l l' : List Int} (hp : l.Perm l') (a : Int) : l'.foldl max a = l.foldl max a := by
  apply Int.le_antisymm
  · rw [le_max]
    rcases (le_max _ l' a).1 (Int.le_refl _) with h | ⟨x, hx, h⟩
    · exact .inl h
    · exact .inr ⟨x, hp.mem_iff.2 hx, h⟩
  · rw [le_max]
    rcases (le_max _ l a).1 (Int.le_refl _) with h | ⟨x, hx, h⟩
    · exact .inl h
    · exact .inr ⟨x, hp.mem_iff.1 hx, h⟩
theorem tall_perm {gs gs' : List G} (hp : gs.Perm gs') (h : (gids gs).Nodup) (hh : headId gs' = headId gs) : tallOf gs' = tallOf gs := by
  unfold tallOf; rw [steps_perm hp h hh]; exact max_perm (hp.map _) 0
theorem ids_perm {gs gs' : List G} {ts ts' : List T} (hp : gs.Perm gs') (ht : ts.Perm ts') : (idsOf gs ts).Perm (idsOf gs' ts') := (hp.map G.id).append (ht.map T.id)
theorem names_perm {g : G} {gs gs' : List G} {ts ts' : List T} (hp : gs.Perm gs') (ht : ts.Perm ts') : namesOf (g :: gs') ts' = namesOf (g :: gs) ts := by
  have hg : (gids (g :: gs)).Perm (gids (g :: gs')) := (hp.cons g).map G.id
  have e1 : (idsOf (g :: gs') ts').Nodup ↔ (idsOf (g :: gs) ts).Nodup := (ids_perm (hp.cons g) ht).nodup_iff.symm
  have e2 : (∃ x ∈ g :: gs', x.parent ≠ 0 ∧ x.parent ∉ gids (g :: gs')) ↔ (∃ x ∈ g :: gs, x.parent ≠ 0 ∧ x.parent ∉ gids (g :: gs)) :=
    ⟨fun ⟨x, h1, h2, h3⟩ => ⟨x, (hp.cons g).mem_iff.2 h1, h2, fun h => h3 (hg.mem_iff.1 h)⟩, fun ⟨x, h1, h2, h3⟩ => ⟨x, (hp.cons g).mem_iff.1 h1, h2, fun h => h3 (hg.mem_iff.2 h)⟩⟩
  have e3 : (∃ t ∈ ts', t.group ∉ gids (g :: gs')) ↔ (∃ t ∈ ts, t.group ∉ gids (g :: gs)) :=
    ⟨fun ⟨x, h1, h3⟩ => ⟨x, ht.mem_iff.2 h1, fun h => h3 (hg.mem_iff.1 h)⟩, fun ⟨x, h1, h3⟩ => ⟨x, ht.mem_iff.1 h1, fun h => h3 (hg.mem_iff.2 h)⟩⟩
  unfold namesOf
  simp only [e1, e2, e3]
  rfl
/-- what Check tells OK of -/
structure Fine (gs : List G) (ts : List T) : Prop where
  ne : gs ≠ []
  lg : gs.length ≤ 4096
  lt : ts.length ≤ 4096
  og : ∀ g ∈ gs, oddG g = false
  ot : ∀ t ∈ ts, oddT t = false
  nd : (idsOf gs ts).Nodup
  hp : headPar gs = 0
  par : ∀ g ∈ gs, g.parent ≠ 0 → g.parent ∈ gids gs
  grp : ∀ t ∈ ts, t.group ∈ gids gs
  wh : wholeOf gs = true
  un : underOf gs = gs
  so : sortT ts = ts
  ta : tallOf gs < 16
theorem fine_iff (gs : List G) (ts : List T) : checkOf gs ts = 0 ↔ Fine gs ts := by
  constructor
  · intro h
    unfold checkOf at h
    split at h
    · cases h
    rename_i h1
    split at h
    · cases h
    rename_i h2
    split at h
    · cases h
    rename_i h3
    split at h
    · rename_i h4; exact absurd h h4
    rename_i h4
    split at h
    · cases h
    rename_i h5
    split at h
    · cases h
    rename_i h6
    have h4 : namesOf gs ts = 0 := by simpa using h4
    unfold namesOf at h4
    split at h4
    · cases h4
    rename_i n1
    split at h4
    · cases h4
    rename_i n2
    simp only [not_or, not_exists, not_and, Classical.not_not] at n1 n2
    simp only [not_or, Classical.not_not] at h5
    have hw : wholeOf gs = true := by simpa using h5.1
    have ho := h5.2
    unfold orderOf at ho
    rw [if_pos hw] at ho
    simp at h3
    exact ⟨fun e => h1 (by rw [e]; rfl), by omega, by omega, h3.1, h3.2, n1, n2.1, n2.2.1, n2.2.2, hw, congrArg Prod.fst ho, congrArg Prod.snd ho, by omega⟩
  · intro F
    unfold checkOf
    rw [if_neg (fun e => F.ne (List.length_eq_zero_iff.1 e)), if_neg (by have := F.lg; have := F.lt; omega), if_neg (by simpa using ⟨F.og, F.ot⟩)]
    have hn : namesOf gs ts = 0 := by
      unfold namesOf
      rw [if_neg (by simpa using F.nd), if_neg]
      simp only [not_or, not_exists, not_and, Classical.not_not]
      exact ⟨F.hp, F.par, F.grp⟩
    rw [if_neg (by rw [hn]; simp), if_neg, if_neg (by have := F.ta; omega)]
    unfold orderOf
    rw [if_pos F.wh, F.un, F.so]
    simp [F.wh]
theorem Fine.ndg {gs : List G} {ts : List T} (F : Fine gs ts) : (gids gs).Nodup := (List.nodup_append.1 F.nd).1
theorem Fine.ndt {gs : List G} {ts : List T} (F : Fine gs ts) : (ts.map (·.id)).Nodup := (List.nodup_append.1 F.nd).2.1
/-- WHATEVER ORDER IT STOOD IN -/
theorem once_law {g : G} {gs gs' : List G} {ts ts' : List T} (F : Fine (g :: gs) ts) (hp : gs.Perm gs') (ht : ts.Perm ts') :
    orderOf (g :: gs') ts' = (g :: gs, ts) ∧ orderOf (g :: gs) ts = (g :: gs, ts) ∧ checkOf (g :: gs') ts' = if gs' = gs ∧ ts' = ts then 0 else 5 := by
  have o1 : orderOf (g :: gs) ts = (g :: gs, ts) := by unfold orderOf; rw [if_pos F.wh, F.un, F.so]
  have o2 : orderOf (g :: gs') ts' = (g :: gs, ts) := by
    unfold orderOf
    rw [whole_perm hp F.ndg, if_pos F.wh, under_perm hp F.ndg, sortT_perm ht F.ndt, F.un, F.so]
  refine ⟨o2, o1, ?_⟩
  have l1 := hp.length_eq
  have l2 := ht.length_eq
  have hl := F.lg
  have hl2 := F.lt
  simp at hl
  unfold checkOf
  rw [if_neg (by simp), if_neg (by simp; omega)]
  have hodd : ((g :: gs').any oddG || ts'.any oddT) = false := by
    rw [any_perm (hp.cons g), any_perm ht]
    simpa using ⟨⟨F.og g (by simp), fun x hx => F.og x (by simp [hx])⟩, F.ot⟩
  rw [if_neg (by rw [hodd]; simp), names_perm hp ht]
  have hn : namesOf (g :: gs) ts = 0 := by
    unfold namesOf
    rw [if_neg (by simpa using F.nd), if_neg]
    simp only [not_or, not_exists, not_and, Classical.not_not]
    exact ⟨F.hp, F.par, F.grp⟩
  rw [hn, if_neg (by simp), whole_perm hp F.ndg, F.wh, o2, tall_perm (hp.cons g) F.ndg rfl, if_neg (show ¬ 16 ≤ tallOf (g :: gs) by have := F.ta; omega)]
  by_cases e : gs' = gs ∧ ts' = ts
  · rw [if_pos e, if_neg (by rw [e.1, e.2]; simp)]
  · rw [if_neg e, if_pos]
    right
    intro h
    apply e
    simp at h
    exact ⟨h.1.symm, h.2.symm⟩
end Go.Proofs.Sc
namespace Go.Proofs.Sc
set_option linter.unusedVariables false
set_option linter.unusedSimpArgs false
open Go.Proofs.Bm

theorem climb_le (f : Int → Int) : ∀ n a, (climb f n a).1 ≤ n
  | 0, a => Nat.le_refl 0
  | n + 1, a => by
    unfold climb; split
    · exact Nat.zero_le _
    · have := climb_le f n (f a); simp only []; omega
theorem climb_more (f : Int → Int) : ∀ n a, (climb f n a).1 < n → climb f (n + 1) a = climb f n a
  | 0, a, h => absurd h (Nat.not_lt_zero _)
  | n + 1, a, h => by
    unfold climb at h ⊢
    by_cases e : f a = 0
    · rw [if_pos e, if_pos e]
    · rw [if_neg e] at h ⊢
      rw [if_neg e]
      rw [climb_more f n (f a) (by simpa using h)]
/-- the facts of a scene's groups that can be, each with a number that is not 0 -/
structure Tree (gs : List G) : Prop where
  nd : (gids gs).Nodup
  ne : ∀ g ∈ gs, 1 ≤ g.id
  st : ∀ g ∈ gs, 0 ≤ stepsOf gs g.id
  tl : ∀ g ∈ gs.tail, g.parent ≠ 0
theorem Fine.tree {gs : List G} {ts : List T} (F : Fine gs ts) : Tree gs := by
  have hw := F.wh
  unfold wholeOf at hw
  rw [tailPlain_eq F.ndg] at hw
  simp at hw
  refine ⟨F.ndg, fun g hg => ?_, fun g hg => hw.2 g hg, fun g hg => hw.1 g hg⟩
  have := F.og g hg
  simp [oddG, within1] at this
  omega
theorem steps_at {gs : List G} {k : Int} (h : 0 ≤ stepsOf gs k) (hl : gs ≠ []) : (climb (up gs) (gs.length + 1) k).1 ≤ gs.length ∧ (climb (up gs) (gs.length + 1) k).2 = headId gs ∧ stepsOf gs k = (climb (up gs) (gs.length + 1) k).1 := by
  have h0 : 0 < gs.length := List.length_pos_iff.2 hl
  unfold stepsOf at h ⊢
  split at h
  · omega
  · rename_i h1
    rw [if_neg h1]
    simp only [not_or, not_and, Classical.not_not] at h1
    exact ⟨by omega, h1.2 h0, rfl⟩
theorem Tree.le {gs : List G} (Y : Tree gs) {g : G} (hg : g ∈ gs) : stepsOf gs g.id ≤ gs.length := by
  obtain ⟨h1, _, h3⟩ := steps_at (Y.st g hg) (List.ne_nil_of_mem hg)
  omega
/-- a kid stands one step lower -/
theorem Tree.kid {gs : List G} (Y : Tree gs) {g c : G} (hg : g ∈ gs) (hc : c ∈ gs) (hp : c.parent = g.id) : stepsOf gs c.id = stepsOf gs g.id + 1 := by
  have hne := List.ne_nil_of_mem hg
  obtain ⟨c1, c2, c3⟩ := steps_at (Y.st c hc) hne
  have hu : up gs c.id = g.id := (up_mem Y.nd hc).trans hp
  have h1 := Y.ne g hg
  have e : climb (up gs) (gs.length + 1) c.id = ((climb (up gs) gs.length g.id).1 + 1, (climb (up gs) gs.length g.id).2) := by
    rw [climb, hu, if_neg (by omega)]
  have h2 : (climb (up gs) gs.length g.id).1 < gs.length := by rw [e] at c1; simp at c1; omega
  have e2 := climb_more (up gs) gs.length g.id h2
  obtain ⟨g1, g2, g3⟩ := steps_at (Y.st g hg) hne
  rw [c3, g3, e, e2]
  simp
theorem mem_kids {gs : List G} {k : Int} {c : G} : c ∈ kidsS gs k ↔ c ∈ gs ∧ c.parent = k := by
  unfold kidsS
  rw [List.mem_mergeSort]
  unfold kidsOf
  simp
theorem Tree.stable {gs : List G} (Y : Tree gs) : ∀ (n m : Nat) (g : G), g ∈ gs → gs.length ≤ stepsOf gs g.id + n → gs.length ≤ stepsOf gs g.id + m → walk gs n g = walk gs m g
  | 0, 0, g, _, _, _ => rfl
  | 0, m + 1, g, hg, h1, h2 => by
    have : kidsS gs g.id = [] := by
      rw [List.eq_nil_iff_forall_not_mem]
      intro c hc
      have hc := mem_kids.1 hc
      have := Y.kid hg hc.1 hc.2
      have := Y.le hc.1
      omega
    unfold walk
    rw [this]; rfl
  | n + 1, 0, g, hg, h1, h2 => by
    have : kidsS gs g.id = [] := by
      rw [List.eq_nil_iff_forall_not_mem]
      intro c hc
      have hc := mem_kids.1 hc
      have := Y.kid hg hc.1 hc.2
      have := Y.le hc.1
      omega
    unfold walk
    rw [this]; rfl
  | n + 1, m + 1, g, hg, h1, h2 => by
    unfold walk
    congr 2
    apply List.map_congr_left
    intro c hc
    have hc := mem_kids.1 hc
    have := Y.kid hg hc.1 hc.2
    exact Y.stable n m c hc.1 (by omega) (by omega)
theorem Tree.inside {gs : List G} (Y : Tree gs) : ∀ (n : Nat) (g : G), g ∈ gs → gs.length ≤ stepsOf gs g.id + n → ∀ y, y ∈ walk gs n g → y ∈ gs ∧ ∃ l r, walk gs n g = l ++ walk gs (gs.length + 1) y ++ r
  | n, g, hg, h1, y, hy => by
    have hself : ∀ n : Nat, gs.length ≤ stepsOf gs g.id + n → ∃ l r, walk gs n g = l ++ walk gs (gs.length + 1) g ++ r := fun n h => ⟨[], [], by
      rw [List.nil_append, List.append_nil]; have := Y.st g hg; exact Y.stable _ _ g hg h (by omega)⟩
    cases n with
    | zero =>
      unfold walk at hy
      simp at hy
      subst hy
      exact ⟨hg, hself 0 h1⟩
    | succ n =>
      unfold walk at hy
      rw [List.mem_cons] at hy
      rcases hy with rfl | hy
      · exact ⟨hg, hself _ h1⟩
      · rw [List.mem_flatten] at hy
        obtain ⟨l, hl, hyl⟩ := hy
        obtain ⟨c, hc, rfl⟩ := List.mem_map.1 hl
        have hck := mem_kids.1 hc
        have hk := Y.kid hg hck.1 hck.2
        obtain ⟨q1, l1, r1, q2⟩ := Y.inside n c hck.1 (by omega) y hyl
        obtain ⟨a, b, hab⟩ := List.append_of_mem hc
        refine ⟨q1, g :: ((a.map (walk gs n)).flatten ++ l1), r1 ++ (b.map (walk gs n)).flatten, ?_⟩
        rw [walk, hab]
        simp [q2]
theorem walk_cons (gs : List G) (n : Nat) (g : G) : ∃ l, walk gs n g = g :: l := by cases n <;> exact ⟨_, rfl⟩
/-- the last one has no kids -/
theorem last_leaf {gs0 : List G} {x : G} {ts : List T} (F : Fine (gs0 ++ [x]) ts) : ∀ c ∈ gs0 ++ [x], c.parent ≠ x.id := by
  intro c hc hp
  have Y := F.tree
  have hx : x ∈ gs0 ++ [x] := by simp
  have hun := F.un
  obtain ⟨g, gs, hgs⟩ : ∃ g gs, gs0 ++ [x] = g :: gs := List.exists_cons_of_ne_nil (by simp)
  have hu : walk (gs0 ++ [x]) ((gs0 ++ [x]).length + 1) g = gs0 ++ [x] := by
    have := hun; rw [hgs] at this ⊢; exact this
  have hg : g ∈ gs0 ++ [x] := by rw [hgs]; simp
  obtain ⟨_, l, r, e⟩ := Y.inside ((gs0 ++ [x]).length + 1) g hg (by have := Y.st g hg; omega) x (by rw [hu]; exact hx)
  rw [hu] at e
  have hk : c ∈ kidsS (gs0 ++ [x]) x.id := mem_kids.2 ⟨hc, hp⟩
  obtain ⟨a, b, hab⟩ := List.append_of_mem hk
  rw [walk, hab] at e
  obtain ⟨cl, hcl⟩ := walk_cons (gs0 ++ [x]) (gs0 ++ [x]).length c
  have hnd : (gs0 ++ [x]).Nodup := by
    have := Y.nd
    unfold gids at this
    exact List.Pairwise.of_map (f := fun g : G => g.id) (S := fun a b => a ≠ b) (fun a b h e => h (by rw [e])) this
  -- x stands last, and ahead of a kid
  have e2 : gs0 ++ [x] = (l ++ [x]) ++ (((a ++ c :: b).map (walk (gs0 ++ [x]) (gs0 ++ [x]).length)).flatten ++ r) := e.trans (by simp only [List.append_assoc, List.cons_append, List.nil_append])
  have hne : ((a ++ c :: b).map (walk (gs0 ++ [x]) (gs0 ++ [x]).length)).flatten ++ r ≠ [] := by
    intro h0
    have h1 : c ∈ ((a ++ c :: b).map (walk (gs0 ++ [x]) (gs0 ++ [x]).length)).flatten ++ r := by
      rw [List.mem_append, List.mem_flatten]
      exact .inl ⟨_, List.mem_map.2 ⟨c, by simp, rfl⟩, by rw [hcl]; simp⟩
    rw [h0] at h1; cases h1
  obtain ⟨q, z, hq⟩ : ∃ q z, ((a ++ c :: b).map (walk (gs0 ++ [x]) (gs0 ++ [x]).length)).flatten ++ r = q ++ [z] := ⟨_, _, (List.dropLast_concat_getLast hne).symm⟩
  rw [hq] at e2
  have e3 : gs0 ++ [x] = (l ++ [x] ++ q) ++ [z] := e2.trans (by simp only [List.append_assoc, List.cons_append, List.nil_append])
  obtain ⟨e4, e5⟩ := List.append_inj' e3 rfl
  have e5 : x = z := by simpa using e5
  rw [List.nodup_append] at hnd
  exact hnd.2.2 x (by rw [e4]; simp) x (by simp) rfl
theorem flatten_filter {α β : Type} (f : α → List β) (p : α → Bool) : ∀ l : List α, ((l.filter p).map f).flatten = (l.map fun k => if p k then f k else []).flatten
  | [] => rfl
  | x :: l => by
    rw [List.filter_cons]
    cases h : p x with
    | true => simp [h, flatten_filter f p l]
    | false => simp [h, flatten_filter f p l]
theorem filter_flatten {α β : Type} (f : α → List β) (p : β → Bool) : ∀ l : List α, ((l.map f).flatten).filter p = (l.map fun k => (f k).filter p).flatten
  | [] => rfl
  | x :: l => by simp [filter_flatten f p l]
theorem at_flatten {α β : Type} (f : α → List β) : ∀ (l : List α) (i : Nat) (y : β), ((l.map f).flatten)[i]? = some y → ∃ k ∈ l, ∃ j, j ≤ i ∧ (f k)[j]? = some y
  | [], i, y, h => by simp at h
  | x :: l, i, y, h => by
    rw [List.map_cons, List.flatten_cons, List.getElem?_append] at h
    split at h
    · exact ⟨x, by simp, i, Nat.le_refl _, h⟩
    · obtain ⟨k, hk, j, hj, hy⟩ := at_flatten f l _ y h
      exact ⟨k, by simp [hk], j, by omega, hy⟩
/-- whoever stands so far down in the order is no more steps from the top -/
theorem Tree.place {gs : List G} (Y : Tree gs) : ∀ (n : Nat) (g : G), g ∈ gs → ∀ (i : Nat) (y : G), (walk gs n g)[i]? = some y → stepsOf gs y.id ≤ stepsOf gs g.id + i
  | 0, g, hg, i, y, h => by
    unfold walk at h
    cases i with
    | zero => simp at h; subst h; omega
    | succ i => simp at h
  | n + 1, g, hg, i, y, h => by
    unfold walk at h
    cases i with
    | zero => simp at h; subst h; omega
    | succ i =>
      rw [List.getElem?_cons_succ] at h
      obtain ⟨c, hc, j, hj, hy⟩ := at_flatten _ _ i y h
      have hck := mem_kids.1 hc
      have hk := Y.kid hg hck.1 hck.2
      have := Y.place n c hck.1 j y hy
      omega
theorem climb_eq {f f' : Int → Int} {x : Int} (h : ∀ k, k ≠ x → f' k = f k) (hx : ∀ k, f k ≠ x) : ∀ n a, a ≠ x → climb f' n a = climb f n a
  | 0, a, _ => rfl
  | n + 1, a, ha => by
    unfold climb
    rw [h a ha, climb_eq h hx n (f a) (hx a)]
theorem head_steps {gs : List G} {ts : List T} (F : Fine gs ts) : stepsOf gs (headId gs) = 0 := by
  obtain ⟨g, t, rfl⟩ := List.exists_cons_of_ne_nil F.ne
  have h := up_mem F.ndg (show g ∈ g :: t by simp)
  have hp : g.parent = 0 := F.hp
  rw [hp] at h
  show stepsOf (g :: t) g.id = 0
  unfold stepsOf
  rw [climb, if_pos h]
  rw [if_neg]
  · rfl
  · simp; rfl
/-- WITHOUT ITS LAST GROUP -/
theorem parts_law {gs0 : List G} {x : G} {ts : List T} (F : Fine (gs0 ++ [x]) ts) (hne : gs0 ≠ []) : Fine gs0 (ts.filter fun t => !decide (t.group = x.id)) := by
  have Y := F.tree
  have hleaf := last_leaf F
  have hnd := Y.nd
  have hx : x ∈ gs0 ++ [x] := by simp
  have hx1 := Y.ne x hx
  have hxn : x.id ∉ gids gs0 := by
    intro hm
    have h1 : (gids gs0 ++ [x.id]).Nodup := by simpa [gids] using hnd
    rw [List.nodup_append] at h1
    exact h1.2.2 _ hm _ (by simp) rfl
  have hnd0 : (gids gs0).Nodup := by
    have h1 : (gids gs0 ++ [x.id]).Nodup := by simpa [gids] using hnd
    exact (List.nodup_append.1 h1).1
  have hup : ∀ k, k ≠ x.id → up gs0 k = up (gs0 ++ [x]) k := by
    intro k hk
    by_cases hm : k ∈ gids gs0
    · obtain ⟨g, hg, rfl⟩ := List.mem_map.1 hm
      rw [up_mem hnd0 hg, up_mem hnd (show g ∈ gs0 ++ [x] by simp [hg])]
    · rw [up_not hnd0 hm, up_not hnd]
      intro h; simp [gids] at h
      rcases h with h | h
      · exact hm (by simpa [gids] using h)
      · exact hk h
  have hux : ∀ k, up (gs0 ++ [x]) k ≠ x.id := by
    intro k
    by_cases hm : k ∈ gids (gs0 ++ [x])
    · obtain ⟨g, hg, rfl⟩ := List.mem_map.1 hm
      rw [up_mem hnd hg]; exact hleaf g hg
    · rw [up_not hnd hm]; omega
  have hcl := climb_eq hup hux
  obtain ⟨g0, gt, rfl⟩ := List.exists_cons_of_ne_nil hne
  have hhead : headId (g0 :: gt ++ [x]) = g0.id := rfl
  have hneq : ∀ g ∈ g0 :: gt, g.id ≠ x.id := fun g hg e => hxn (by rw [← e]; exact List.mem_map.2 ⟨g, hg, rfl⟩)
  have hunw : walk (g0 :: gt ++ [x]) ((g0 :: gt ++ [x]).length + 1) g0 = g0 :: gt ++ [x] := F.un
  -- steps
  have hst : ∀ g ∈ g0 :: gt, stepsOf (g0 :: gt) g.id = stepsOf (g0 :: gt ++ [x]) g.id := by
    intro g hg
    have hg' : g ∈ g0 :: gt ++ [x] := by simp [List.mem_cons] at hg ⊢; rcases hg with h | h <;> simp [h]
    obtain ⟨i, hi⟩ := List.mem_iff_getElem?.1 hg
    have hi2 : i < (g0 :: gt).length := (List.getElem?_eq_some_iff.1 hi).1
    have hpl := Y.place ((g0 :: gt ++ [x]).length + 1) g0 (by simp) i g (by rw [hunw, List.getElem?_append_left hi2]; exact hi)
    have hh0 := head_steps F
    rw [hhead] at hh0
    rw [hh0] at hpl
    obtain ⟨s1, s2, s3⟩ := steps_at (Y.st g hg') (by simp)
    have hlen : (g0 :: gt ++ [x]).length = (g0 :: gt).length + 1 := by simp
    rw [s3] at hpl
    have hlt : (climb (up (g0 :: gt ++ [x])) ((g0 :: gt).length + 1 + 1) g.id).1 < (g0 :: gt).length := by rw [hlen] at hpl; omega
    have e0 : climb (up (g0 :: gt ++ [x])) ((g0 :: gt).length + 1 + 1) g.id = climb (up (g0 :: gt ++ [x])) ((g0 :: gt).length + 1) g.id := by
      refine climb_more _ _ _ ?_
      rcases Nat.lt_or_ge (climb (up (g0 :: gt ++ [x])) ((g0 :: gt).length + 1) g.id).1 ((g0 :: gt).length + 1) with h | h
      · exact h
      · exfalso
        have hmono : ∀ (f : Int → Int) n a, (climb f n a).1 ≤ (climb f (n + 1) a).1 := by
          intro f n
          induction n with
          | zero => intro a; exact Nat.zero_le _
          | succ n ih =>
            intro a
            rw [climb]
            conv => rhs; rw [climb]
            by_cases e : f a = 0
            · rw [if_pos e, if_pos e]; exact Nat.le_refl _
            · rw [if_neg e, if_neg e]; have := ih (f a); simp only []; omega
        have := hmono (up (g0 :: gt ++ [x])) ((g0 :: gt).length + 1) g.id
        omega
    rw [s3, hlen, e0]
    rw [hlen, e0] at s2
    rw [e0] at hlt
    unfold stepsOf
    rw [hcl _ _ (hneq g hg), if_neg]
    rintro (h | ⟨_, h⟩)
    · omega
    · exact h (by rw [s2]; rfl)
  have hkids : ∀ k, kidsS (g0 :: gt) k = (kidsS (g0 :: gt ++ [x]) k).filter fun c => !decide (c.id = x.id) := by
    intro k
    have hk : (kidsOf (g0 :: gt) k) = ((kidsOf (g0 :: gt ++ [x]) k).filter fun c => !decide (c.id = x.id)) := by
      unfold kidsOf
      rw [List.filter_filter, List.filter_append]
      rw [show ([x].filter fun a => (!decide (a.id = x.id)) && decide (a.parent = k)) = [] by simp, List.append_nil]
      apply List.filter_congr
      intro g hg
      simp [hneq g hg]
    have p1 : (kidsS (g0 :: gt) k).Perm (kidsOf (g0 :: gt) k) := List.mergeSort_perm _ _
    have p2 : (kidsS (g0 :: gt ++ [x]) k).Perm (kidsOf (g0 :: gt ++ [x]) k) := List.mergeSort_perm _ _
    have p3 := p2.filter fun c => !decide (c.id = x.id)
    rw [← hk] at p3
    refine List.Perm.eq_of_pairwise (le := fun a b => a.id ≤ b.id) ?_ (sorted_id _) ((sorted_id _).filter _) (p1.trans p3.symm)
    intro a b ha hb h1 h2
    exact inj_id (kidsOf_nodup hnd0 k) (p1.mem_iff.1 ha) (p3.mem_iff.1 hb) (by omega)
  have hkx : kidsS (g0 :: gt ++ [x]) x.id = [] := by
    rw [List.eq_nil_iff_forall_not_mem]
    intro c hc
    have hc := mem_kids.1 hc
    exact hleaf c hc.1 hc.2
  have hwalk : ∀ n g, g ∈ g0 :: gt ++ [x] → g.id ≠ x.id → walk (g0 :: gt) n g = (walk (g0 :: gt ++ [x]) n g).filter fun c => !decide (c.id = x.id) := by
    intro n
    induction n with
    | zero => intro g _ hg; simp [walk, hg]
    | succ n ih =>
      intro g _ hg
      rw [walk, walk, List.filter_cons, if_pos (by simpa using hg), hkids, flatten_filter, filter_flatten]
      congr 2
      apply List.map_congr_left
      intro c hc
      have hcm := (mem_kids.1 hc).1
      by_cases e : c.id = x.id
      · have : c = x := inj_id hnd hcm hx e
        subst this
        have hw : walk (g0 :: gt ++ [c]) n c = [c] := by
          cases n with
          | zero => rfl
          | succ n => rw [walk, hkx]; rfl
        rw [hw]; simp
      · rw [if_pos (by simpa using e)]; exact ih c hcm e
  have Y0 : Tree (g0 :: gt) := ⟨hnd0, fun g hg => Y.ne g (by simp [List.mem_cons] at hg ⊢; rcases hg with h | h <;> simp [h]), fun g hg => by rw [hst g hg]; exact Y.st g (by simp [List.mem_cons] at hg ⊢; rcases hg with h | h <;> simp [h]),
    fun g hg => Y.tl g (by simp at hg ⊢; simp [hg])⟩
  have hsub : ∀ g ∈ g0 :: gt, g ∈ g0 :: gt ++ [x] := fun g hg => by simp [List.mem_cons] at hg ⊢; rcases hg with h | h <;> simp [h]
  refine ⟨by simp, by have := F.lg; simp at this ⊢; omega, Nat.le_trans (List.length_filter_le _ _) F.lt, fun g hg => F.og g (hsub g hg), fun t ht => F.ot t (List.mem_filter.1 ht).1, ?_, F.hp, ?_, ?_, ?_, ?_, ?_, ?_⟩
  · refine F.nd.sublist ?_
    unfold idsOf
    refine List.Sublist.append ?_ (List.filter_sublist.map T.id)
    rw [List.map_append]
    exact List.sublist_append_left _ _
  · intro g hg hp0
    have := F.par g (hsub g hg) hp0
    simp [gids] at this
    rcases this with h | h
    · simp [gids]; exact .inl h
    · simp [gids]
      rcases h with h | h
      · exact .inr h
      · exact absurd h (hleaf g (hsub g hg))
  · intro t ht
    have h1 := List.mem_filter.1 ht
    have := F.grp t h1.1
    have h2 : t.group ≠ x.id := by simpa using h1.2
    simp [gids] at this
    simp [gids]
    rcases this with h | h | h
    · exact .inl h
    · exact .inr h
    · exact absurd h h2
  · unfold wholeOf
    rw [tailPlain_eq hnd0]
    simp
    exact ⟨fun g hg => Y0.tl g (by simpa using hg), by rw [hst g0 (by simp)]; exact Y.st g0 (by simp), fun g hg => by rw [hst g (by simp [hg])]; exact Y.st g (by simp [hg])⟩
  · show walk (g0 :: gt) ((g0 :: gt).length + 1) g0 = g0 :: gt
    have hs0 : stepsOf (g0 :: gt ++ [x]) g0.id = 0 := head_steps F
    rw [hwalk _ g0 (by simp) (hneq g0 (by simp)), Y.stable ((g0 :: gt).length + 1) ((g0 :: gt ++ [x]).length + 1) g0 (by simp) (by rw [hs0]; simp) (by rw [hs0]; simp; omega), hunw]
    rw [List.filter_append]
    rw [List.filter_eq_self.2 (fun g hg => by simpa using hneq g hg)]
    simp
  · refine sortT_id ?_
    have h1 : (sortT ts).Pairwise fun a b => a.id ≤ b.id := sorted_idT ts
    rw [F.so] at h1
    exact h1.filter _
  · have h1 := F.ta
    unfold tallOf at h1 ⊢
    rcases Int.lt_or_le ((List.map (fun g => stepsOf (g0 :: gt) g.id) (g0 :: gt)).foldl max 0) 16 with c | c
    · exact c
    · exfalso
      rcases (le_max 16 _ 0).1 c with h | ⟨y, hy, h⟩
      · omega
      · obtain ⟨g, hg, rfl⟩ := List.mem_map.1 hy
        have : 16 ≤ (List.map (fun g => stepsOf (g0 :: gt ++ [x]) g.id) (g0 :: gt ++ [x])).foldl max 0 := (le_max 16 _ 0).2 (.inr ⟨_, List.mem_map.2 ⟨g, hsub g hg, rfl⟩, by rw [← hst g hg]; exact h⟩)
        omega
theorem bare_law {gs : List G} {ts : List T} (F : Fine gs ts) : Fine gs [] :=
  ⟨F.ne, F.lg, by simp, F.og, by simp, by simpa [idsOf, gids] using F.ndg, F.hp, F.par, by simp, F.wh, F.un, by simp [sortT], F.ta⟩
/-- A TASK MORE -/
theorem more_law {gs : List G} {ts : List T} (F : Fine gs ts) {t : T} (hl : ts.length < 4096) (hid : ∀ k ∈ idsOf gs ts, k < t.id) (ho : oddT t = false) (hg : t.group ∈ gids gs) : Fine gs (ts ++ [t]) := by
  refine ⟨F.ne, F.lg, by simp; omega, F.og, ?_, ?_, F.hp, F.par, ?_, F.wh, F.un, ?_, F.ta⟩
  · intro x hx; simp at hx; rcases hx with h | rfl
    · exact F.ot x h
    · exact ho
  · have h1 : idsOf gs (ts ++ [t]) = idsOf gs ts ++ [t.id] := by simp [idsOf]
    rw [h1, List.nodup_append]
    refine ⟨F.nd, by simp, fun a ha b hb e => ?_⟩
    simp at hb
    have := hid a ha
    omega
  · intro x hx; simp at hx; rcases hx with h | rfl
    · exact F.grp x h
    · exact hg
  · refine sortT_id ?_
    have h1 : (sortT ts).Pairwise fun a b => a.id ≤ b.id := sorted_idT ts
    rw [F.so] at h1
    rw [List.pairwise_append]
    refine ⟨h1, by simp, fun a ha b hb => ?_⟩
    simp at hb; subst hb
    have := hid a.id (by unfold idsOf; rw [List.mem_append]; exact .inr (List.mem_map.2 ⟨a, ha, rfl⟩))
    omega
theorem more_odd {gs : List G} {ts : List T} (F : Fine gs ts) {t : T} (hl : ts.length < 4096) (ho : oddT t = true) : checkOf gs (ts ++ [t]) = 1 := by
  have h1 := F.lg
  have h2 : gs.length ≠ 0 := fun e => F.ne (List.length_eq_zero_iff.1 e)
  unfold checkOf
  rw [if_neg h2, if_neg (by simp; omega), if_pos (by simp [ho])]
theorem more_none {gs : List G} {ts : List T} (F : Fine gs ts) {t : T} (hl : ts.length < 4096) (hid : ∀ k ∈ idsOf gs ts, k < t.id) (ho : oddT t = false) (hg : t.group ∉ gids gs) : checkOf gs (ts ++ [t]) = 8 := by
  have h1 := F.lg
  have h2 : gs.length ≠ 0 := fun e => F.ne (List.length_eq_zero_iff.1 e)
  have hn : namesOf gs (ts ++ [t]) = 8 := by
    unfold namesOf
    rw [if_neg, if_pos]
    · exact .inr (.inr ⟨t, by simp, hg⟩)
    · have h1 : idsOf gs (ts ++ [t]) = idsOf gs ts ++ [t.id] := by simp [idsOf]
      rw [h1, List.nodup_append]
      simp
      refine ⟨F.nd, fun ha => ?_⟩
      have := hid _ ha
      omega
  unfold checkOf
  rw [if_neg h2, if_neg (by simp; omega), if_neg (by simpa [ho] using ⟨F.og, F.ot⟩), hn]
  rfl
end Go.Proofs.Sc
namespace Go.Proofs.Sc
set_option linter.unusedVariables false
set_option linter.unusedSimpArgs false
open Go.Proofs.Bm

def renG (a : Int) (g : G) : G := ⟨g.id + a, if g.parent = 0 then 0 else g.parent + a, g.weight, g.period, g.quota, g.used⟩
def renT (a : Int) (t : T) : T := ⟨t.id + a, t.group + a, t.weight, t.cores, t.asleep, t.ran, t.v, t.rem⟩
theorem within1_iff {n m : Int} : within1 n m = true ↔ 1 ≤ n ∧ n ≤ m := by simp [within1]
theorem oddG_id {g : G} (h : oddG g = false) : within1 g.id 1048576 = true := by
  cases hw : within1 g.id 1048576 with
  | true => rfl
  | false => simp [oddG, hw] at h
theorem oddT_id {g : T} (h : oddT g = false) : within1 g.id 1048576 = true := by
  cases hw : within1 g.id 1048576 with
  | true => rfl
  | false => simp [oddT, hw] at h
theorem gids_ren (a : Int) (gs : List G) : gids (gs.map (renG a)) = (gids gs).map (· + a) := by simp [gids, renG]
theorem ids_ren (a : Int) (gs : List G) (ts : List T) : idsOf (gs.map (renG a)) (ts.map (renT a)) = (idsOf gs ts).map (· + a) := by simp [idsOf, renG, renT, Function.comp_def]
theorem nodup_add (a : Int) {l : List Int} (h : l.Nodup) : (l.map (· + a)).Nodup := by
  unfold List.Nodup at h ⊢
  rw [List.pairwise_map]
  exact h.imp (fun h e => h (by omega))
theorem mem_add {a k : Int} {l : List Int} : k + a ∈ l.map (· + a) ↔ k ∈ l := by
  rw [List.mem_map]
  exact ⟨fun ⟨x, hx, e⟩ => by rw [show k = x by omega]; exact hx, fun h => ⟨k, h, rfl⟩⟩
section
variable {gs : List G} {ts : List T} {a : Int}
theorem id_pos (F : Fine gs ts) {k : Int} (hk : k ∈ gids gs) : 1 ≤ k := by
  obtain ⟨g, hg, rfl⟩ := List.mem_map.1 hk
  exact F.tree.ne g hg
theorem up_in (F : Fine gs ts) {k : Int} (hk : k ∈ gids gs) (h : up gs k ≠ 0) : up gs k ∈ gids gs := by
  obtain ⟨g, hg, rfl⟩ := List.mem_map.1 hk
  rw [up_mem F.ndg hg] at h ⊢
  exact F.par g hg h
theorem ndg_ren (F : Fine gs ts) : (gids (gs.map (renG a))).Nodup := by rw [gids_ren]; exact nodup_add a F.ndg
theorem up_ren (F : Fine gs ts) {k : Int} (hk : k ∈ gids gs) : up (gs.map (renG a)) (k + a) = if up gs k = 0 then 0 else up gs k + a := by
  obtain ⟨g, hg, rfl⟩ := List.mem_map.1 hk
  have h1 := up_mem (ndg_ren (a := a) F) (List.mem_map.2 ⟨g, hg, rfl⟩)
  rw [show (renG a g).id = g.id + a from rfl] at h1
  rw [h1, up_mem F.ndg hg]; rfl
theorem climb_ren (F : Fine gs ts) (h0 : 0 ≤ a) : ∀ n k, k ∈ gids gs → climb (up (gs.map (renG a))) n (k + a) = ((climb (up gs) n k).1, (climb (up gs) n k).2 + a)
  | 0, k, _ => rfl
  | n + 1, k, hk => by
    have hu := up_ren (a := a) F hk
    unfold climb
    by_cases e : up gs k = 0
    · rw [if_pos e] at hu; rw [if_pos hu, if_pos e]
    · rw [if_neg e] at hu
      have h1 := id_pos F (up_in F hk e)
      rw [if_neg (by rw [hu]; omega), if_neg e, hu, climb_ren F h0 n _ (up_in F hk e)]
theorem head_ren (F : Fine gs ts) : headId (gs.map (renG a)) = headId gs + a := by
  obtain ⟨g, t, rfl⟩ := List.exists_cons_of_ne_nil F.ne
  rfl
theorem steps_ren (F : Fine gs ts) (h0 : 0 ≤ a) {k : Int} (hk : k ∈ gids gs) : stepsOf (gs.map (renG a)) (k + a) = stepsOf gs k := by
  unfold stepsOf
  rw [List.length_map, climb_ren F h0 _ _ hk, head_ren F]
  have e : ((climb (up gs) (gs.length + 1) k).2 + a ≠ headId gs + a) ↔ ((climb (up gs) (gs.length + 1) k).2 ≠ headId gs) := by
    constructor
    · intro h h1; exact h (by rw [h1])
    · intro h h1; exact h (by omega)
  simp only [e]
theorem kids_ren (h0 : 0 ≤ a) {k : Int} (hk : 1 ≤ k) : kidsS (gs.map (renG a)) (k + a) = (kidsS gs k).map (renG a) := by
  unfold kidsS
  rw [List.map_mergeSort (s := fun a b : G => decide (a.id ≤ b.id))]
  · congr 1
    unfold kidsOf
    rw [List.filter_map]
    congr 1
    apply List.filter_congr
    intro g hg
    have e1 : (renG a g).parent = k + a ↔ g.parent = k := by
      show (if g.parent = 0 then 0 else g.parent + a) = k + a ↔ _
      split <;> omega
    exact decide_eq_decide.2 e1
  · intro x _ y _
    simp [renG]
theorem walk_ren (F : Fine gs ts) (h0 : 0 ≤ a) : ∀ n g, g ∈ gs → walk (gs.map (renG a)) n (renG a g) = (walk gs n g).map (renG a)
  | 0, g, _ => rfl
  | n + 1, g, hg => by
    unfold walk
    rw [List.map_cons, show (renG a g).id = g.id + a from rfl, kids_ren h0 (F.tree.ne g hg), List.map_map, List.map_flatten, List.map_map]
    congr 2
    apply List.map_congr_left
    intro c hc
    exact walk_ren F h0 n c (mem_kids.1 hc).1
theorem tall_ren (F : Fine gs ts) (h0 : 0 ≤ a) : tallOf (gs.map (renG a)) = tallOf gs := by
  unfold tallOf
  rw [List.map_map]
  congr 1
  apply List.map_congr_left
  intro g hg
  exact steps_ren F h0 (List.mem_map.2 ⟨g, hg, rfl⟩)
/-- WHAT IS RENAMED CAN BE -/
theorem names_law (F : Fine gs ts) (h0 : 0 ≤ a) (hm : ∀ k ∈ idsOf gs ts, k + a ≤ 1048576) : Fine (gs.map (renG a)) (ts.map (renT a)) := by
  have Y := F.tree
  refine ⟨by simpa using F.ne, by simpa using F.lg, by simpa using F.lt, ?_, ?_, ?_, ?_, ?_, ?_, ?_, ?_, ?_, by rw [tall_ren F h0]; exact F.ta⟩
  · intro g hg
    obtain ⟨x, hx, rfl⟩ := List.mem_map.1 hg
    have h1 := F.og x hx
    have h2 := hm x.id (by unfold idsOf; rw [List.mem_append]; exact .inl (List.mem_map.2 ⟨x, hx, rfl⟩))
    have w0 := oddG_id h1
    have w1 : within1 (x.id + a) 1048576 = true := within1_iff.2 (by have := within1_iff.1 w0; omega)
    have e : oddG (renG a x) = (!within1 (x.id + a) 1048576 || !within1 x.weight 1048576 || !bandRight x) := rfl
    have e0 : oddG x = (!within1 x.id 1048576 || !within1 x.weight 1048576 || !bandRight x) := rfl
    rw [e, w1]; rw [e0, w0] at h1; exact h1
  · intro t ht
    obtain ⟨x, hx, rfl⟩ := List.mem_map.1 ht
    have h1 := F.ot x hx
    have h2 := hm x.id (by unfold idsOf; rw [List.mem_append]; exact .inr (List.mem_map.2 ⟨x, hx, rfl⟩))
    have w0 := oddT_id h1
    have w1 : within1 (x.id + a) 1048576 = true := within1_iff.2 (by have := within1_iff.1 w0; omega)
    have e : oddT (renT a x) = (!within1 (x.id + a) 1048576 || !within1 x.weight 1048576 || decide (x.cores = 0) || decide (x.ran < 0) || decide (1099511627776 < x.ran) || !paceRight x.v x.rem x.weight) := rfl
    have e0 : oddT x = (!within1 x.id 1048576 || !within1 x.weight 1048576 || decide (x.cores = 0) || decide (x.ran < 0) || decide (1099511627776 < x.ran) || !paceRight x.v x.rem x.weight) := rfl
    rw [e, w1]; rw [e0, w0] at h1; exact h1
  · rw [ids_ren]; exact nodup_add a F.nd
  · have hp := F.hp
    obtain ⟨g, t, rfl⟩ := List.exists_cons_of_ne_nil F.ne
    have hp : g.parent = 0 := hp
    show (if g.parent = 0 then 0 else g.parent + a) = 0
    rw [if_pos hp]
  · intro g hg hp
    obtain ⟨x, hx, rfl⟩ := List.mem_map.1 hg
    have hx0 : x.parent ≠ 0 := fun e => hp (by simp [renG, e])
    rw [gids_ren, show (renG a x).parent = x.parent + a by simp [renG, hx0], mem_add]
    exact F.par x hx hx0
  · intro t ht
    obtain ⟨x, hx, rfl⟩ := List.mem_map.1 ht
    rw [gids_ren, show (renT a x).group = x.group + a from rfl, mem_add]
    exact F.grp x hx
  · unfold wholeOf
    rw [tailPlain_eq (ndg_ren F)]
    simp only [Bool.and_eq_true, List.all_eq_true]
    constructor
    · intro g hg
      rw [← List.map_tail] at hg
      obtain ⟨x, hx, rfl⟩ := List.mem_map.1 hg
      have h1 := Y.tl x hx
      have h2 := id_pos F (F.par x (List.mem_of_mem_tail hx) h1)
      simp [renG, h1]
      omega
    · intro g hg
      obtain ⟨x, hx, rfl⟩ := List.mem_map.1 hg
      rw [show (renG a x).id = x.id + a from rfl, steps_ren F h0 (List.mem_map.2 ⟨x, hx, rfl⟩)]
      simpa using Y.st x hx
  · have hun := F.un
    obtain ⟨g, t, rfl⟩ := List.exists_cons_of_ne_nil F.ne
    show walk ((g :: t).map (renG a)) (((g :: t).map (renG a)).length + 1) (renG a g) = _
    have hun : walk (g :: t) ((g :: t).length + 1) g = g :: t := hun
    rw [walk_ren F h0 _ g (by simp), List.length_map, hun]
  · unfold sortT
    rw [← List.map_mergeSort (r := fun a b : T => decide (a.id ≤ b.id))]
    · rw [show ts.mergeSort (fun a b : T => decide (a.id ≤ b.id)) = ts from F.so]
    · intro x _ y _; simp [renT]
theorem ren_ren (F : Fine gs ts) {b : Int} (h0 : 0 ≤ a) (hb : 0 ≤ b) : (gs.map (renG a)).map (renG b) = gs.map (renG (a + b)) := by
  rw [List.map_map]
  apply List.map_congr_left
  intro g hg
  have h1 : g.parent ≠ 0 → 1 ≤ g.parent := fun e => id_pos F (F.par g hg e)
  rw [G.ext_iff']
  refine ⟨?_, ?_, rfl, rfl, rfl, rfl⟩
  · show g.id + a + b = g.id + (a + b); omega
  · show (if (if g.parent = 0 then 0 else g.parent + a) = 0 then 0 else (if g.parent = 0 then 0 else g.parent + a) + b) = (if g.parent = 0 then 0 else g.parent + (a + b))
    by_cases e : g.parent = 0
    · simp [e]
    · have := h1 e
      simp only [e, if_false]
      rw [if_neg (by omega)]; omega
theorem renT_renT (b : Int) : (ts.map (renT a)).map (renT b) = ts.map (renT (a + b)) := by
  rw [List.map_map]
  apply List.map_congr_left
  intro t _
  simp only [Function.comp, renT, T.mk.injEq]
  exact ⟨by omega, by omega, trivial, trivial, trivial, trivial, trivial, trivial⟩
end
/-- what the program makes: the first group's parent stays -/
def renL (a : Int) : List G → List G
  | [] => []
  | g :: gs => ⟨g.id + a, g.parent, g.weight, g.period, g.quota, g.used⟩ :: gs.map fun g => ⟨g.id + a, g.parent + a, g.weight, g.period, g.quota, g.used⟩
theorem renL_eq {gs : List G} {ts : List T} (F : Fine gs ts) (a : Int) : renL a gs = gs.map (renG a) := by
  have hp := F.hp
  have Y := F.tree
  obtain ⟨g, t, rfl⟩ := List.exists_cons_of_ne_nil F.ne
  have hp : g.parent = 0 := hp
  have Y := Y.tl
  show (⟨g.id + a, g.parent, g.weight, g.period, g.quota, g.used⟩ : G) :: t.map (fun g => ⟨g.id + a, g.parent + a, g.weight, g.period, g.quota, g.used⟩) = renG a g :: t.map (renG a)
  congr 1
  · rw [G.ext_iff']; simp [renG, hp]
  · apply List.map_congr_left
    intro x hx
    have := Y x hx
    rw [G.ext_iff']; simp [renG, this]
/-- Rename: what it makes, and what is wrong -/
def renameOf (gs : List G) (ts : List T) (by_ : Int) : Int × List G × List T :=
  if by_ < 0 ∨ 1048576 < by_ then (1, [], []) else if checkOf gs ts ≠ 0 then (checkOf gs ts, [], []) else if 1048576 < (idsOf gs ts).foldl max 0 + by_ then (6, [], []) else (0, renL by_ gs, ts.map (renT by_))
end Go.Proofs.Sc
