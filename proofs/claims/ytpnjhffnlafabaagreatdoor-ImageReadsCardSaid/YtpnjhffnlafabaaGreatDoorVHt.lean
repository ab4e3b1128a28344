/- A statement that draws its order, one of whose last operations stores: its reads are held by a condition on the world up to that store. -/
import Derived.StillTail
import Derived.Deep.RegionHeld3
import Derived.WalkKit
namespace Go.Proofs.Ht
set_option linter.unusedVariables false
set_option linter.unusedSimpArgs false
section
variable {P : Program} {ops : Array Oper} {Q : Exit → Act → World → Prop} {md : Region.Mode} {S : World → Prop} {n : Nat} {L : Array Bool → Act → World → Prop}
def Hd (P : Program) (md : Region.Mode) (ops : Array Oper) (Q : Exit → Act → World → Prop) (S : World → Prop) (n : Nat) (L : Array Bool → Act → World → Prop) : Nat → Array Bool → Act → World → Prop
  | 0, listed, a, w => L listed a w
  | f + 1, listed, a, w => Region.ready md ops listed ≠ [] ∧ ∀ i ∈ Region.ready md ops listed, i < n ∧ wpOp P ops Q i (fun a' w' => S w' ∧ Hd P md ops Q S n L f (listed.setIfInBounds i true) a' w') a w
theorem any_of_hd {g : Nat} (hL : ∀ listed a w, L listed a w → wpAny P md ops Q g listed a w) : ∀ (f : Nat) (listed : Array Bool) (a : Act) (w : World), Hd P md ops Q S n L f listed a w → wpAny P md ops Q (f + g) listed a w
  | 0, listed, a, w, h => by rw [Nat.zero_add]; exact hL _ _ _ h
  | f + 1, listed, a, w, h => by
    rw [show f + 1 + g = (f + g) + 1 by omega]
    exact ⟨fun h0 => absurd h0 h.1, fun i hi => wpOp_mono (fun a' w' h' => any_of_hd hL f _ a' w' h'.2) (h.2 i hi).2⟩
theorem first {i : Nat} {oi : Oper} {v : Value} (hi : ops[i]? = some oi) (hsel : ∀ (j : Nat) (o : Oper) cs b, ops[j]? = some o → o.op ≠ .select cs b)
    (hQ : ∀ c a w, Q (.panic c) (a.put oi.dst v) w → Q (.panic c) a w)
    (hs : Region.sinkB md ops n = true) (hc : Region.chainB md ops n = true) (hn : n < ops.size) (hin : i < n)
    (hdone : ∀ listed a w, L listed a w → ∀ j ∈ Region.ready md ops listed, n ≤ j) :
    ∀ (f : Nat) (listed : Array Bool) (a : Act) (w : World), HeadInv md ops n listed →
      (∀ j oj, ops[j]? = some oj → j ≠ i → listed.getD j true = false → (∀ e ∈ oj.after, Region.binds md e = true → e.on ≠ i) → oi.apart ops oj = true) →
      i ∈ Region.ready md ops listed → YieldsIf P ops S oi v a → S w →
      Hd P md ops Q S n L f (listed.setIfInBounds i true) (a.put oi.dst v) w → Hd P md ops Q S n L (f + 1) listed a w := by
  intro f
  induction f with
  | zero =>
    intro listed a w inv _ hr hy hS H
    have hun := (mem_ready.1 hr).1
    refine ⟨fun h => (by rw [h] at hr; cases hr), fun j hj => ?_⟩
    have hjn : j < n := by
      rcases Nat.lt_or_ge j n with h | h
      · exact h
      · exact absurd hj (tail_waits hs hc hn inv _ i rfl hin hun j h)
    refine ⟨hjn, ?_⟩
    by_cases hji : j = i
    · subst hji; exact hy.wpOp hi hS ⟨hS, H⟩
    · have := hdone _ _ _ H j (ready_mono hj hji)
      omega
  | succ f ih =>
    intro listed a w inv hfree hr hy hS H
    have hun := (mem_ready.1 hr).1
    refine ⟨fun h => (by rw [h] at hr; cases hr), fun j hj => ?_⟩
    have hjn : j < n := by
      rcases Nat.lt_or_ge j n with h | h
      · exact h
      · exact absurd hj (tail_waits hs hc hn inv _ i rfl hin hun j h)
    refine ⟨hjn, ?_⟩
    by_cases hji : j = i
    · subst hji; exact hy.wpOp hi hS ⟨hS, H⟩
    · have h1 := (H.2 j (ready_mono hj hji)).2
      obtain ⟨hjun, oj, hoj, hall⟩ := mem_ready.1 hj
      have hnot : ∀ e ∈ oj.after, Region.binds md e = true → e.on ≠ i := fun e he hb heq => by
        have h1 := hall e he hb
        rw [heq, getD_both hun] at h1
        cases h1
      have h2 := wpOp_putIf hoj (hfree j oj hoj hji hjun hnot) (fun cs b => hsel i oi cs b hi) (fun cs b => hsel j oj cs b hoj) hQ hy h1
      refine wpOp_mono (fun a' w' h3 => ⟨h3.2.1, ih (listed.setIfInBounds j true) a' w' (inv.set hj hjn) (fun k ok hk hki hu hno => ?_) (ready_mono hr (Ne.symm hji)) h3.1 h3.2.1 ?_⟩) h2
      · refine hfree k ok hk hki ?_ hno
        by_cases hjk : j = k
        · subst hjk; exact hjun
        · rw [getD_set_ne true hjk] at hu; exact hu
      · rw [Array.setIfInBounds_comm _ _ hji]
        exact h3.2.2
structure Form (md : Region.Mode) (ops : Array Oper) (n : Nat) : Prop where
  sel : Region.noSelect ops = true
  lt : n < ops.size
  sink : Region.sinkB md ops n = true
  chain : Region.chainB md ops n = true
def formB (md : Region.Mode) (ops : Array Oper) (n : Nat) : Bool := Region.noSelect ops && decide (n < ops.size) && Region.sinkB md ops n && Region.chainB md ops n
theorem form_of {md : Region.Mode} {ops : Array Oper} {n : Nat} (h : formB md ops n = true) : Form md ops n := by
  simp only [formB, Bool.and_eq_true, decide_eq_true_eq] at h
  exact ⟨h.1.1.1, h.1.1.2, h.1.2, h.2⟩
def Tl (P : Program) (md : Region.Mode) (ops : Array Oper) (Q : Exit → Act → World → Prop) (n : Nat) (t : List Oper) (listed : Array Bool) (a : Act) (w : World) : Prop := Region.seqB md ops (ops.size - n) n listed = true ∧ wpList P ops Q t a w
structure Hx (P : Program) (md : Region.Mode) (ops : Array Oper) (Q : Exit → Act → World → Prop) (S : World → Prop) (n : Nat) (t : List Oper) (l : List Oper) (k : Nat) (listed : Array Bool) (a : Act) (w : World) : Prop where
  out : Form md ops n → (∀ j, j < l.length → l[j]? = ops[k + j]?) → k + l.length = n → HeadInv md ops n listed → Hd P md ops Q S n (Tl P md ops Q n t) l.length listed a w
theorem tl_ready {t : List Oper} {listed : Array Bool} {a : Act} {w : World} (h : Tl P md ops Q n t listed a w) : ∀ j ∈ Region.ready md ops listed, n ≤ j := seqB_ready h.1
theorem Hx.done {t : List Oper} {k : Nat} {listed : Array Bool} {a : Act} {w : World} (hB : Region.seqB md ops (ops.size - n) n listed = true) (h : wpList P ops Q t a w) : Hx P md ops Q S n t [] k listed a w :=
  ⟨fun _ _ _ _ => ⟨hB, h⟩⟩
theorem Hx.take {t l : List Oper} {o : Oper} {k : Nat} {listed : Array Bool} {a : Act} {w : World} {v : Value} (hr : (Region.ready md ops listed).contains k = true) (hf : Region.free md ops listed k = true)
    (hQ : ∀ c a w, Q (.panic c) (a.put o.dst v) w → Q (.panic c) a w) (hS : S w) (hy : YieldsIf P ops S o v a)
    (h : Hx P md ops Q S n t l (k + 1) (listed.setIfInBounds k true) (a.put o.dst v) w) : Hx P md ops Q S n t (o :: l) k listed a w :=
  ⟨fun F hl hk inv => by
    have h0 : ops[k]? = some o := by simpa using (hl 0 (by simp)).symm
    have hkn : k < n := by simp only [List.length_cons] at hk; omega
    have hr' : k ∈ Region.ready md ops listed := by simpa using hr
    exact first h0 (Region.noSelect_spec F.sel) hQ F.sink F.chain F.lt hkn (fun _ _ _ hT => tl_ready hT) l.length listed a w inv (Region.free_spec h0 hf) hr' hy hS
      (h.out F (fun j hj => by have := hl (j + 1) (by simp; omega); simpa [Nat.add_assoc, Nat.add_comm 1 j] using this) (by simp only [List.length_cons] at hk; omega) (inv.set hr' hkn))⟩
def Then (K : Act → World → Prop) (Q : Exit → Act → World → Prop) : Exit → Act → World → Prop
  | .normal, a, w => K a w
  | e, a, w => Q e a w
theorem op_of_list {o : Oper} {k : Nat} {a : Act} {w : World} {K : Act → World → Prop} (h0 : ops[k]? = some o) (h : wpList P ops (Then K Q) [o] a w) : wpOp P ops Q k K a w := by
  unfold wpOp
  simp only [h0]
  have h : if Region.wanted o (yielded ops a.tmps) then o.wp P a w (fun a w => K a w) (Then K Q) ∨ (o.asks P a w ∧ LetsOut (Then K Q)) else K (a.put o.dst undef) w := h
  split
  · rename_i hw
    rw [if_pos hw] at h
    rcases h with h | ⟨h1, h2⟩
    · refine .inl ?_
      unfold Oper.wp at h ⊢
      generalize (execOp a.eval o).run P w = r at h ⊢
      cases r with
      | ok x w' =>
        cases x <;> first | exact h | (simp only [Oper.upon] at h ⊢; exact h) | skip
        all_goals
          simp only [Oper.upon] at h ⊢
          refine Calls.mono h ?_
          rintro e w'' he
          cases e <;> exact he
      | halt x w' => cases x <;> exact h
    · exact .inr ⟨h1, h2⟩
  · rename_i hw
    rw [if_neg hw] at h
    exact h
theorem Hx.effect {t l : List Oper} {o : Oper} {k : Nat} {listed : Array Bool} {a : Act} {w : World} (hr : Region.ready md ops listed = [k])
    (h : wpList P ops (Then (fun a' w' => S w' ∧ Hx P md ops Q S n t l (k + 1) (listed.setIfInBounds k true) a' w') Q) [o] a w) : Hx P md ops Q S n t (o :: l) k listed a w :=
  ⟨fun F hl hk inv => by
    have h0 : ops[k]? = some o := by simpa using (hl 0 (by simp)).symm
    have hkn : k < n := by simp only [List.length_cons] at hk; omega
    refine ⟨fun h1 => (by rw [h1] at hr; cases hr), fun i hi => ?_⟩
    have hik : i = k := by rw [hr] at hi; simpa using hi
    subst hik
    refine ⟨hkn, wpOp_mono (fun a' w' h' => ⟨h'.1, ?_⟩) (op_of_list h0 h)⟩
    exact h'.2.out F (fun j hj => by have := hl (j + 1) (by simp; omega); simpa [Nat.add_assoc, Nat.add_comm 1 j] using this) (by simp only [List.length_cons] at hk; omega) (inv.set hi hkn)⟩
end
theorem begin_ {P : Program} {Q : Exit → Act → World → Prop} {id : Nat} {a : Act} {w : World} {l : List Oper} (n : Nat) (S : World → Prop) (hm : P.follows .mixedOrders = true) (hB : formB .any l.toArray n = true)
    (h : Hx P .any l.toArray Q S n (l.drop n) (l.take n) 0 (Array.replicate l.toArray.size false) a w.drew) : (Code.region id l.toArray true).wp P Q a w := by
  have F := form_of hB
  have hn' : n < l.length := by simpa using F.lt
  have htl : (l.take n).length = n := by simp; omega
  have hdl : (l.drop n).length = l.toArray.size - n := by simp
  have inv0 : HeadInv .any l.toArray n (Array.replicate l.toArray.size false) :=
    ⟨by simp, fun j oj _ hl => (by rw [getD_replicate_false] at hl; cases hl), fun t _ ht => getD_in (by simpa using ht) (getD_replicate_false _ _)⟩
  have H := h.out F (fun j hj => by
    have hj' : j < n := by rw [htl] at hj; exact hj
    simp [hj']) (by simpa using htl) inv0
  refine wp_region_any hm ?_
  have := any_of_hd (g := l.toArray.size - n) (fun listed a' w' hL => by
    have := wpAny_of_seq (md := .any) (Q' := Q) (l.drop n) n listed a' w' (fun j => by simp [List.getElem?_drop]) (by rw [hdl]; exact hL.1) hL.2
    rwa [hdl] at this) _ _ _ _ H
  rw [htl, show n + (l.toArray.size - n) = l.toArray.size by have := F.lt; omega] at this
  exact this
theorem begin2 {P : Program} {Q : Exit → Act → World → Prop} {id : Nat} {a : Act} {w : World} {l : List Oper} (n : Nat) (S : World → Prop) (hm : P.follows .mixedOrders = true) (hB : formB .any l.toArray n = true) (hS : S w.drew)
    (h : S w.drew → Hx P .any l.toArray Q S n (l.drop n) (l.take n) 0 (Array.replicate l.toArray.size false) a w.drew) : (Code.region id l.toArray true).wp P Q a w := begin_ n S hm hB (h hS)
end Go.Proofs.Ht
