/- SceneNames: the plain law. -/
import Derived.Test.YtpnjhffnlafabaaRnB
import Derived.Test.YtpnjhffnlafabaaScUs
namespace Go.Proofs.Ytpnjhffnlafabaa.Sn
set_option linter.unusedVariables false
set_option linter.unusedSimpArgs false
open Go.RowKit Go.Sort Go.Shelf Go.Lib Go.Proofs.Bk Go.Proofs.Bm Go.Proofs.Op Go.Proofs.Sc Go.Proofs.Kf Go.Proofs.YtpnjhffnlafabaaW.PrintWords Go.Proofs.Ytpnjhffnlafabaa.PSceneOrders Go.Proofs.Ytpnjhffnlafabaa.St

theorem check_ne6 (gs : List G) (ts : List T) : checkOf gs ts ≠ 6 := by
  unfold checkOf
  split
  · decide
  split
  · decide
  split
  · decide
  split
  · unfold namesOf
    split
    · decide
    · split <;> decide
  split
  · decide
  split <;> decide
theorem ren_err {gs : List G} {ts : List T} {a e : Int} {gs' : List G} {ts' : List T} (h0 : 0 ≤ a) (h1 : a ≤ 1048576) (h : (e, gs', ts') = renameOf gs ts a) (he : e ≠ 0) : gs' = [] ∧ ts' = [] ∧ (e = 6 ↔ checkOf gs ts = 0) := by
  unfold renameOf at h
  rw [if_neg (by omega)] at h
  by_cases hc : checkOf gs ts = 0
  · rw [if_neg (fun h => h hc)] at h
    split at h
    · cases h; exact ⟨rfl, rfl, by simp [hc]⟩
    · cases h; exact absurd rfl he
  · rw [if_pos hc] at h
    cases h
    exact ⟨rfl, rfl, ⟨fun h => absurd h (check_ne6 gs ts), fun h => absurd h hc⟩⟩
theorem ren_len {gs : List G} {ts : List T} {a e : Int} {gs' : List G} {ts' : List T} (h : (e, gs', ts') = renameOf gs ts a) : gs'.length ≤ gs.length ∧ ts'.length ≤ ts.length := by
  unfold renameOf at h
  split at h
  · cases h; simp
  split at h
  · cases h; simp
  split at h
  · cases h; simp
  · cases h
    refine ⟨?_, by simp⟩
    cases gs <;> simp [renL]
theorem foldl_add (a : Int) : ∀ (l : List Int) (x : Int), (l.map (· + a)).foldl max (x + a) = l.foldl max x + a
  | [], x => rfl
  | y :: l, x => by
    rw [List.map_cons, List.foldl_cons, List.foldl_cons, show max (x + a) (y + a) = max x y + a by omega]
    exact foldl_add a l _
theorem foldl_add0 {a : Int} (h0 : 0 ≤ a) {l : List Int} (hne : l ≠ []) (h : ∀ k ∈ l, 1 ≤ k) : (l.map (· + a)).foldl max 0 = l.foldl max 0 + a := by
  cases l with
  | nil => exact absurd rfl hne
  | cons x l =>
    have := h x (by simp)
    rw [List.map_cons, List.foldl_cons, List.foldl_cons, show max 0 (x + a) = x + a by omega, show max 0 x = x by omega]
    exact foldl_add a l x
theorem ids_pos {gs : List G} {ts : List T} (F : Fine gs ts) : ∀ k ∈ idsOf gs ts, 1 ≤ k ∧ k ≤ 1048576 := by
  intro k hk
  rcases List.mem_append.1 hk with h | h
  · obtain ⟨x, hx, rfl⟩ := List.mem_map.1 h
    exact within1_iff.1 (oddG_id (F.og x hx))
  · obtain ⟨x, hx, rfl⟩ := List.mem_map.1 h
    exact within1_iff.1 (oddT_id (F.ot x hx))
theorem ids_ne {gs : List G} {ts : List T} (F : Fine gs ts) : idsOf gs ts ≠ [] := by
  have := F.ne
  cases gs with
  | nil => exact absurd rfl this
  | cons g gs => simp [idsOf]
theorem ren_ok {gs : List G} {ts : List T} {a : Int} {gs' : List G} {ts' : List T} (h : (0, gs', ts') = renameOf gs ts a) : Fine gs ts ∧ 0 ≤ a ∧ (∀ k ∈ idsOf gs ts, k + a ≤ 1048576) ∧ gs' = gs.map (renG a) ∧ ts' = ts.map (renT a) := by
  unfold renameOf at h
  split at h
  · cases h
  rename_i h1
  by_cases hc : checkOf gs ts = 0
  · rw [if_neg (fun h => h hc)] at h
    have F := (fine_iff _ _).1 hc
    split at h
    · cases h
    · rename_i h3
      obtain ⟨-, h4, h5⟩ := Prod.mk.inj h |>.imp id Prod.mk.inj
      refine ⟨F, by omega, fun k hk => ?_, by rw [h4, renL_eq F], h5⟩
      have := foldl_max_mem (idsOf gs ts) 0 k hk
      omega
  · rw [if_pos hc] at h
    exact absurd (Prod.mk.inj h).1.symm hc
where
  foldl_max_mem : ∀ (l : List Int) (a : Int), ∀ k ∈ l, k ≤ l.foldl max a
    | [], a, k, h => by simp at h
    | x :: l, a, k, h => by
      rw [List.foldl_cons]
      rcases List.mem_cons.1 h with rfl | h
      · have := foldl_ge l (max a k); omega
      · exact foldl_max_mem l _ k h
theorem ren_two {gs : List G} {ts : List T} (F : Fine gs ts) {a b : Int} (h0 : 0 ≤ a) (h1 : 0 ≤ b) (h2 : a + b ≤ 1048576) (hm : ∀ k ∈ idsOf gs ts, k + a ≤ 1048576) :
    renameOf (gs.map (renG a)) (ts.map (renT a)) b = renameOf gs ts (a + b) := by
  have F' := names_law F h0 hm
  unfold renameOf
  rw [if_neg (show ¬ (b < 0 ∨ 1048576 < b) by omega), if_neg (show ¬ (a + b < 0 ∨ 1048576 < a + b) by omega), (fine_iff _ _).2 F', (fine_iff _ _).2 F, if_neg (show ¬ ((0 : Int) ≠ 0) from fun h => h rfl), if_neg (show ¬ ((0 : Int) ≠ 0) from fun h => h rfl), ids_ren, foldl_add0 h0 (ids_ne F) (fun k hk => (ids_pos F k hk).1), renL_eq F', renL_eq F, ren_ren F h0 h1, renT_renT,
    show (idsOf gs ts).foldl max 0 + a + b = (idsOf gs ts).foldl max 0 + (a + b) by omega]
theorem renSL_ok {xs : List SG} {ts : List ST} {a : Int} (F : Fine (xs.map gOf) (ts.map tOf)) (h0 : 0 ≤ a) (h1 : a ≤ 1048576) (ho : ∀ x ∈ xs, okG x) : ∀ x ∈ renSL a xs, okG x := by
  have wf : ∀ z : Int, -9223372036854775808 ≤ z → z ≤ 9223372036854775807 → (Lit.int .i64 z).wf = true := fun z p q => by simp [Lit.wf, IntKind.min, IntKind.max, IntKind.signed, IntKind.bits]; omega
  have key : ∀ x ∈ xs, ∀ b : Bool, okG (renS a b x) := by
    intro x hx b
    have o := ho x hx
    have hg : gOf x ∈ xs.map gOf := List.mem_map.2 ⟨x, hx, rfl⟩
    have i1 : 1 ≤ x.f0 ∧ x.f0 ≤ 1048576 := within1_iff.1 (oddG_id (F.og _ hg))
    have i2 : x.f1 = 0 ∨ (1 ≤ x.f1 ∧ x.f1 ≤ 1048576) := by
      by_cases h : x.f1 = 0
      · exact .inl h
      · obtain ⟨y, hy, hye⟩ := List.mem_map.1 (F.par _ hg h)
        have := within1_iff.1 (oddG_id (F.og y hy))
        rw [hye] at this; exact .inr this
    refine ⟨wf _ (by show _ ≤ x.f0 + a; omega) (by show x.f0 + a ≤ _; omega), ?_, o.2.2.1, o.2.2.2⟩
    cases b
    · exact wf _ (by show _ ≤ x.f1 + a; omega) (by show x.f1 + a ≤ _; omega)
    · exact o.2.1
  intro x hx
  cases xs with
  | nil => cases hx
  | cons y ys =>
    rcases List.mem_cons.1 hx with rfl | hx
    · exact key y (by simp) true
    · obtain ⟨z, hz, rfl⟩ := List.mem_map.1 hx
      exact key z (by simp [hz]) false
end Go.Proofs.Ytpnjhffnlafabaa.Sn
