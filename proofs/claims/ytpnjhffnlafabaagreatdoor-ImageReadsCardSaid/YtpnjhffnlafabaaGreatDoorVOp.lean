/- Reading a law's arguments as plain Lean values, by the kinds of their types. -/
import Derived.Test.YtpnjhffnlafabaaGreatDoorVW
import Derived.WalkKit
import Derived.ProofKit
import Derived.Deep.Slices
namespace Go.Proofs.Op
set_option linter.unusedVariables false
set_option linter.unusedSimpArgs false
open Go.RowKit Go.Proofs.YtpnjhffnlafabaaGreatDoorW.PrintWords
def Opens {α : Type} (P : Program) (t : TypeId) (d : Kd α) (ok : α → Prop) : Prop :=
  ∀ {H : Type} {enc : TypeId × Value → H} {w : World} {base : Nat} {sp : Nat → Bool} {held : Bool} {fuel : Nat} {cs : List Value} {x : DataW H × List MemPlace},
    DataW.trod enc P w base sp held fuel t cs = some x → ∃ a, d.K w a cs ∧ ok a
theorem Opens.int {P : Program} {t : TypeId} {k : IntKind} (ht : P.underlying t = some (.int k)) : Opens P t (Kd.int k) (fun n => (Lit.int k n).wf = true) := by
  intro H enc w base sp held fuel cs x h
  obtain ⟨n, rfl, _, hw⟩ := DataW.trod_int ht h
  exact ⟨n, rfl, hw⟩
theorem Opens.bool {P : Program} {t : TypeId} (ht : P.underlying t = some .bool) : Opens P t Kd.bool (fun _ => True) := by
  intro H enc w base sp held fuel cs x h
  obtain ⟨n, rfl, _⟩ := DataW.trod_bool ht h
  exact ⟨n, rfl, trivial⟩
theorem Opens.string {P : Program} {t : TypeId} (ht : P.underlying t = some .string) : Opens P t Kd.string (fun s => s.size ≤ maxLen) := by
  intro H enc w base sp held fuel cs x h
  obtain ⟨n, rfl, _, hs⟩ := DataW.trod_string ht h
  exact ⟨n, rfl, hs⟩
theorem choose_list {α : Type} {p : Nat → α → Prop} : ∀ n, (∀ i, i < n → ∃ a, p i a) → ∃ l : List α, l.length = n ∧ ∀ i a, l[i]? = some a → p i a
  | 0, _ => ⟨[], rfl, fun i a h => by simp at h⟩
  | n + 1, h => by
    obtain ⟨l, hl, hp⟩ := choose_list n (fun i hi => h i (by omega))
    obtain ⟨a, ha⟩ := h n (by omega)
    refine ⟨l ++ [a], by simp [hl], fun i b hb => ?_⟩
    by_cases e : i < l.length
    · rw [List.getElem?_append_left e] at hb; exact hp i b hb
    · rw [List.getElem?_append_right (by omega)] at hb
      have : i - l.length = 0 := by
        cases hk : i - l.length with
        | zero => rfl
        | succ k => rw [hk] at hb; simp at hb
      rw [this] at hb; simp at hb; subst hb
      have : i = n := by omega
      subst this; exact ha
theorem Opens.slice {α : Type} {P : Program} {t e : TypeId} {d : Kd α} {ok : α → Prop} (ht : P.underlying t = some (.slice e)) (hc : P.cellsOf e = d.sz) (h : Opens P e d ok) :
    Opens P t (Kd.slice e d) (fun l => ∀ x ∈ l, ok x) := by
  intro H enc w base sp held fuel cs x hx
  rcases Deep.open_slice ht hx with ⟨rfl, _⟩ | ⟨a, len, cap, m, n, D, Pl, rfl, _, hl, hm, hmm, _, hi⟩
  · exact ⟨[], ⟨none, 0, rfl, Nat.le_refl _, Kd.C_nil _ _⟩, by simp⟩
  · have hle : len ≤ m := by rw [hmm]; split <;> omega
    obtain ⟨l, hlen, hp⟩ := choose_list (p := fun i (y : α) => (∃ c, c.length = d.sz ∧ d.K w y c ∧ ∀ j u, c[j]? = some u → w.cell? (a.add (i * d.sz + j)) = some u) ∧ ok y) len (fun i hi' => by
      obtain ⟨cs', h1, h2⟩ := hi i (by omega)
      obtain ⟨y, hy, hok⟩ := h h2
      obtain ⟨_, h4, h5⟩ := World.cells?_some h1
      refine ⟨y, ⟨cs', d.K_len hy, hy, fun j u hj => ?_⟩, hok⟩
      have hjl : j < cs'.length := (List.getElem?_eq_some_iff.1 hj).1
      have h6 := h5 j (by rw [h4] at hjl; exact hjl)
      rw [hj] at h6
      rw [hc] at h6
      rw [← Addr.add_add]
      exact h6)
    unfold maxLen at hm
    refine ⟨l, ⟨some a, cap, by rw [hlen], by omega, rfl, by omega, fun _ => ⟨a, rfl, fun j p hj => (hp j p hj).1⟩⟩, fun x hx => ?_⟩
    obtain ⟨i, hi2⟩ := List.mem_iff_getElem?.1 hx
    exact (hp i x hi2).2
def OpensF {α : Type} (P : Program) (fs : List Field) (off : Nat) (d : Kd α) (ok : α → Prop) : Prop :=
  ∀ {H : Type} {r : TypeId → List Value → Option (DataW H × List MemPlace)} {w : World} {cs : List Value} {xs : List (DataW H × List MemPlace)},
    (∀ f ∈ fs, ∀ (α : Type) (d : Kd α) (ok : α → Prop) cs' x, Opens P f.type d ok → r f.type cs' = some x → ∃ a, d.K w a cs' ∧ ok a) →
    cs.length = off + d.sz → fs.mapM (fun f => r f.type ((cs.drop f.offset).take (P.cellsOf f.type))) = some xs → ∃ a, d.K w a (cs.drop off) ∧ ok a
theorem OpensF.one {α : Type} {P : Program} {f : Field} {off : Nat} {d : Kd α} {ok : α → Prop} (ho : f.offset = off) (hc : P.cellsOf f.type = d.sz) (h : Opens P f.type d ok) : OpensF P [f] off d ok := by
  intro H r w cs xs hr hl hm
  simp only [List.mapM_cons, List.mapM_nil, Option.bind_eq_bind, Option.pure_def] at hm
  obtain ⟨y, hy, _⟩ := Option.bind_eq_some_iff.1 hm
  obtain ⟨a, ha, hk⟩ := hr f (by simp) _ d ok _ y h hy
  refine ⟨a, ?_, hk⟩
  rw [ho, hc, List.take_of_length_le (by rw [List.length_drop]; omega)] at ha
  exact ha
theorem OpensF.cons {α β : Type} {P : Program} {f : Field} {fs : List Field} {off : Nat} {d : Kd α} {ok : α → Prop} {d2 : Kd β} {ok2 : β → Prop} (ho : f.offset = off) (hc : P.cellsOf f.type = d.sz) (h : Opens P f.type d ok)
    (h2 : OpensF P fs (off + d.sz) d2 ok2) : OpensF P (f :: fs) off (Kd.pair d d2) (fun x => ok x.1 ∧ ok2 x.2) := by
  intro H r w cs xs hr hl hm
  simp only [List.mapM_cons, Option.bind_eq_bind, Option.pure_def] at hm
  obtain ⟨y, hy, hm⟩ := Option.bind_eq_some_iff.1 hm
  obtain ⟨ys, hys, _⟩ := Option.bind_eq_some_iff.1 hm
  obtain ⟨a, ha, hk⟩ := hr f (by simp) _ d ok _ y h hy
  have hl' : cs.length = off + d.sz + d2.sz := by rw [hl]; show off + (d.sz + d2.sz) = _; omega
  obtain ⟨b, hb, hkb⟩ := h2 (fun g hg => hr g (by simp [hg])) hl' hys
  refine ⟨(a, b), ⟨_, _, ?_, ha, hb⟩, hk, hkb⟩
  rw [ho, hc, ← List.drop_drop, List.take_append_drop]
theorem Opens.struct {α β : Type} {P : Program} {t : TypeId} {fs : Array Field} {d : Kd β} {ok : β → Prop} (f : α → β) (g : β → α) (hfg : ∀ b, f (g b) = b) (ht : P.underlying t = some (.struct fs)) (hc : P.cellsOf t = d.sz) (h : OpensF P fs.toList 0 d ok) :
    Opens P t (Kd.iso d f) (fun a => ok (f a)) := by
  intro H enc w base sp held fuel cs x hx
  cases fuel with
  | zero => simp [DataW.trod] at hx
  | succ n =>
    rw [DataW.trod_step] at hx
    unfold DataW.trodStep at hx
    rw [ht] at hx
    simp only at hx
    split at hx
    · rename_i hl
      obtain ⟨xs, hxs, _⟩ := Option.map_eq_some_iff.1 hx
      obtain ⟨b, hb, hk⟩ := h (r := DataW.trod enc P w base sp held n) (w := w) (fun f _ α d ok cs' x ho hr => ho hr) (by rw [hl, hc]; omega) hxs
      rw [List.drop_zero] at hb
      exact ⟨g b, by show d.K w (f (g b)) cs; rw [hfg]; exact hb, by show ok (f (g b)); rw [hfg]; exact hk⟩
    · cases hx
theorem slice_of_K {α : Type} {e : Nat} {d : Kd α} {w : World} {l : List α} {v : Value} (h : (Kd.slice e d).K w l [v]) : ∃ A c, v = .slice A l.length c ∧ l.length ≤ c ∧ d.C w A l.length l := by
  obtain ⟨A, c, he, hl, hr⟩ := h
  exact ⟨A, c, by simpa using he, hl, hr⟩
theorem opens_Trod {α : Type} {P : Program} {t : TypeId} {d : Kd α} {ok : α → Prop} (h : Opens P t d ok) {H : Type} {enc : TypeId × Value → H} {w : World} {base : Nat} {sp : Nat → Bool} {held : Bool} {v : Value} {x : DataW H} {ps : List MemPlace}
    (hx : DataW.Trod enc P w base sp held t v x ps) : ∃ a, d.K w a v.cells.toList ∧ ok a := by
  obtain ⟨fuel, hf⟩ := hx
  exact h hf
end Go.Proofs.Op
