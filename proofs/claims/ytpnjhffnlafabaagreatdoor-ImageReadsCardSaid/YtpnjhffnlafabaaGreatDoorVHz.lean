/- A drawn region whose reads are held by a condition, its operations named by their numbers: reads of any number may be taken ahead of an effect. -/
import Derived.Test.YtpnjhffnlafabaaGreatDoorVHt
namespace Go.Proofs.Ht
set_option linter.unusedVariables false
set_option linter.unusedSimpArgs false
/-! ### in any order: an operation is named by its number -/
section
variable {P : Program} {md : Region.Mode} {ops : Array Oper} {Q : Exit → Act → World → Prop} {S : World → Prop} {n : Nat}
structure Hz (P : Program) (md : Region.Mode) (ops : Array Oper) (Q : Exit → Act → World → Prop) (S : World → Prop) (n : Nat) (t : List Oper) (f : Nat) (listed : Array Bool) (a : Act) (w : World) : Prop where
  out : Form md ops n → HeadInv md ops n listed → Hd P md ops Q S n (Tl P md ops Q n t) f listed a w
theorem Hz.done {t : List Oper} {listed : Array Bool} {a : Act} {w : World} (hB : Region.seqB md ops (ops.size - n) n listed = true) (h : wpList P ops Q t a w) : Hz P md ops Q S n t 0 listed a w :=
  ⟨fun _ _ => ⟨hB, h⟩⟩
theorem Hz.take (i : Nat) {t : List Oper} {o : Oper} {f : Nat} {listed : Array Bool} {a : Act} {w : World} {v : Value} (h0 : ops[i]? = some o) (hin : i < n) (hr : (Region.ready md ops listed).contains i = true) (hf : Region.free md ops listed i = true)
    (hQ : ∀ c a w, Q (.panic c) (a.put o.dst v) w → Q (.panic c) a w) (hS : S w) (hy : YieldsIf P ops S o v a)
    (h : Hz P md ops Q S n t f (listed.setIfInBounds i true) (a.put o.dst v) w) : Hz P md ops Q S n t (f + 1) listed a w :=
  ⟨fun F inv => by
    have hr' : i ∈ Region.ready md ops listed := by simpa using hr
    exact first h0 (Region.noSelect_spec F.sel) hQ F.sink F.chain F.lt hin (fun _ _ _ hT => tl_ready hT) f listed a w inv (Region.free_spec h0 hf) hr' hy hS (h.out F (inv.set hr' hin))⟩
theorem Hz.effect (i : Nat) {t : List Oper} {o : Oper} {f : Nat} {listed : Array Bool} {a : Act} {w : World} (h0 : ops[i]? = some o) (hin : i < n) (hr : Region.ready md ops listed = [i])
    (h : wpList P ops (Then (fun a' w' => S w' ∧ Hz P md ops Q S n t f (listed.setIfInBounds i true) a' w') Q) [o] a w) : Hz P md ops Q S n t (f + 1) listed a w :=
  ⟨fun F inv => by
    refine ⟨fun h1 => (by rw [h1] at hr; cases hr), fun k hk => ?_⟩
    have hki : k = i := by rw [hr] at hk; simpa using hk
    subst hki
    exact ⟨hin, wpOp_mono (fun a' w' h' => ⟨h'.1, h'.2.out F (inv.set hk hin)⟩) (op_of_list h0 h)⟩⟩
theorem Hz.effectAt (i : Nat) {t : List Oper} {f : Nat} {listed : Array Bool} {a : Act} {w : World} (h0 : i < ops.size) (hin : i < n) (hr : Region.ready md ops listed = [i])
    (h : wpList P ops (Then (fun a' w' => S w' ∧ Hz P md ops Q S n t f (listed.setIfInBounds i true) a' w') Q) [ops[i]] a w) : Hz P md ops Q S n t (f + 1) listed a w :=
  Hz.effect i (Array.getElem?_eq_getElem h0) hin hr h
end
theorem beginZ {P : Program} {Q : Exit → Act → World → Prop} {id : Nat} {a : Act} {w : World} {l : List Oper} (n : Nat) (S : World → Prop) (hm : P.follows .mixedOrders = true) (hB : formB .any l.toArray n = true) (hS : S w.drew)
    (h : S w.drew → Hz P .any l.toArray Q S n (l.drop n) n (Array.replicate l.toArray.size false) a w.drew) : (Code.region id l.toArray true).wp P Q a w := by
  have F := form_of hB
  have hn' : n < l.length := by simpa using F.lt
  have hdl : (l.drop n).length = l.toArray.size - n := by simp
  have inv0 : HeadInv .any l.toArray n (Array.replicate l.toArray.size false) :=
    ⟨by simp, fun j oj _ hl => (by rw [getD_replicate_false] at hl; cases hl), fun t _ ht => getD_in (by simpa using ht) (getD_replicate_false _ _)⟩
  have H := (h hS).out F inv0
  refine wp_region_any hm ?_
  have := any_of_hd (g := l.toArray.size - n) (fun listed a' w' hL => by
    have := wpAny_of_seq (md := .any) (Q' := Q) (l.drop n) n listed a' w' (fun j => by simp [List.getElem?_drop]) (by rw [hdl]; exact hL.1) hL.2
    rwa [hdl] at this) _ _ _ _ H
  rw [show n + (l.toArray.size - n) = l.toArray.size by have := F.lt; omega] at this
  exact this
end Go.Proofs.Ht
