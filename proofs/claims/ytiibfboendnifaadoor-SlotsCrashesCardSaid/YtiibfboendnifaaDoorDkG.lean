/- Crash of package disk. -/
import Derived.Test.YtiibfboendnifaaDoorDkF
namespace Go.Proofs.YtiibfboendnifaaDoor.Dk
set_option linter.unusedVariables false
set_option linter.unusedSimpArgs false
open Go.RowKit Go.Proofs.Bk Go.Proofs.Bm Go.Proofs.YtiibfboendnifaaDoorW.PrintWords

theorem keys_adel {α : Type} (l : List (Int × α)) (k : Int) : (adel l k).map (·.1) = (l.map (·.1)).erase k := by
  induction l with
  | nil => rfl
  | cons p l ih =>
    unfold adel
    rw [List.map_cons, List.erase_cons]
    by_cases h : p.1 = k
    · rw [if_pos h, if_pos (by simpa using h)]
    · rw [if_neg h, if_neg (by simpa using h), List.map_cons, ih]
theorem mem_adel {α : Type} (l : List (Int × α)) (k : Int) : ∀ p ∈ adel l k, p ∈ l := by
  induction l with
  | nil => intro p hp; exact hp
  | cons q l ih =>
    intro p hp
    unfold adel at hp
    split at hp
    · simp [hp]
    · rcases List.mem_cons.1 hp with rfl | hp
      · simp
      · simp [ih p hp]
theorem aget_of_mem {α : Type} {l : List (Int × α)} {k : Int} (h : k ∈ l.map (·.1)) : ∃ v, aget l k = some v := by
  cases e : aget l k with
  | none => exact ((aget_none_iff l k).1 e h).elim
  | some v => exact ⟨v, rfl⟩

/-- one sector that waits: kept, or not, and it waits no longer -/
def Dsk.one (D : Dsk) (keep : Bool) (i : Int) : Dsk := { D with kept := if keep then D.kept.set i.toNat ((aget D.waits i).getD zeros) else D.kept, waits := adel D.waits i }
def crash1 (keep : List Bool) : Dsk → List Int → Nat → Dsk
  | D, [], _ => D
  | D, i :: is, n => crash1 keep (D.one (keep.getD n false) i) is (n + 1)
def Dsk.crash (D : Dsk) (keep : List Bool) : Dsk := { crash1 keep D D.wts 0 with left := -1 }

theorem IsDisk.gone {w : World} {B K M : Nat} {D : Dsk} (h : IsDisk w B K M D) {ob : Obj} {i : Int} (hm : IMap .i64 secV (bset w M ob) M (adel D.waits i)) :
    IsDisk (bset w M ob) B K M { D with waits := adel D.waits i } :=
  ⟨(bset_other w h.bm ob).trans h.blk, (bset_other w h.km ob).trans h.kblk, hm, h.bk, h.bm, h.km, h.few, h.secs, fun p hp => h.wsec p (mem_adel _ _ p hp), h.lft⟩

/-- a row of the caller's, in no block of F -/
structure CG {α : Type} (d : Kd α) (F : Nat → Prop) (w : World) (A : Option Addr) (n : Nat) (xs : List α) : Prop where
  c : d.C w A n xs
  far : ∀ ad, A = some ad → 0 < n → ¬ F ad.block
theorem CG.keep {α : Type} {enc : α → Value} {h1 : ∀ x, (enc x).oneCell' = true} {F G : Nat → Prop} {w w' : World} {A : Option Addr} {n : Nat} {xs : List α} (h : CG (Kd.scalar enc h1) F w A n xs) (hk : KeepF G w w') (hG : ∀ i, G i → F i) : CG (Kd.scalar enc h1) F w' A n xs := by
  refine ⟨⟨h.c.1, h.c.2.1, fun hn => ?_⟩, h.far⟩
  obtain ⟨ad, e, hc⟩ := h.c.2.2 hn
  refine ⟨ad, e, fun j p hj => ?_⟩
  obtain ⟨c, h1, h2, h3⟩ := hc j p hj
  refine ⟨c, h1, h2, fun i u hu => ?_⟩
  have h4 := h3 i u hu
  have hb : (ad.add (j * (Kd.scalar enc (by assumption)).sz + i)).block = ad.block := by unfold Addr.add; split <;> rfl
  have hlt := World.block_lt_of_cell? w _ h4
  rw [hb] at hlt
  exact (World.cell?_of_block (w := w) (w' := w') (by rw [hb]; exact hk.block _ hlt (fun hg => h.far ad e hn (hG _ hg)))).trans h4

theorem wpStill_lookup_imap {α : Type} {enc : α → Value} {P : Program} {w : World} {kt et : TypeId} {q : IntKind} {ops : Array Oper} {rest : List Oper} {o : Oper} {a : Act} {Q : Act → Prop}
    (hg : o.guard = none) (m x : Operand) (t : TypeId) (hop : o.op = Op.lookup t m x false)
    (ht : P.underlying t = some (.map kt et)) (hk : P.underlying kt = some (.int q)) {z : Value} (hz : (zeroValue et).run P w = .ok z w) (b : Nat) (l : List (Int × α)) (k : Int)
    (hm : a.eval m = .map (some b)) (hx : a.eval x = .int q k) (h : IMap q enc w b l) (hK : wpStill P ops w Q rest (a.put o.dst (((aget l k).map enc).getD z))) :
    wpStill P ops w Q (o :: rest) a := by
  refine wpStill_value hg ?_ hK
  simp [execOp, hop, hm, hx, run_lookup_imap ht hk hz h k]

def CrashPost (B K M : Nat) (D : Dsk) (keep : List Bool) (w : World) (e : Ending) (w' : World) : Prop :=
  e = .returned (.tuple #[]) ∧ IsDisk w' B K M (D.crash keep) ∧ KeepF (FD B K M) w w'

set_option maxHeartbeats 4000000 in
set_option maxRecDepth 100000 in
theorem Crash_calls (B K M : Nat) (D : Dsk) (A : Option Addr) (n c : Nat) (keep : List Bool) (w : World) (h : IsDisk w B K M D) (hr : CG Kd.bool (FD B K M) w A n keep) :
    Calls Tryd.prog 23 #[.pointer (some ⟨B, 0, none⟩), .slice A n c] w (CrashPost B K M D keep w) := by
  have hkn : Aside0 (keep.length = n) := ⟨hr.c.1⟩
  have hkb := hr.c.2.1
  have hlw := h.lts
  have H := Aside0.mk h
  have HR := Aside0.mk hr
  have fin : Aside0 (∀ w' Dn, crash1 keep Dn [] D.wts.length = crash1 keep D D.wts 0 → IsDisk w' B K M Dn → KeepF (FD B K M) w w' → CrashPost B K M D keep w (.returned (.tuple #[])) (w'.setCell ⟨B, 2, none⟩ (.int .i64 (-1)))) := ⟨fun w' Dn he h1 h2 => by
    refine ⟨rfl, ?_, h2.trans (KeepF.setCell _ _ _) (fun i _ hi => .inl hi)⟩
    have := h1.setLeft (-1) (by omega)
    unfold Dsk.crash
    rw [← he]
    exact this⟩
  have hm512 := h.waits_len
  obtain ⟨m, hm⟩ : ∃ m, D.waits.length = m := ⟨_, rfl⟩
  rw [hm] at hm512
  have hml : Aside0 (D.wts.length = m) := ⟨by rw [D.wts_length, hm]⟩
  replace hlw := Aside0.mk hlw
  clear h hr
  go_enter Tryd.func23, Tryd.ntmps23
  go_wp2_with (go_at_call 20; refine (Waits_calls B K M D _ H.out).mono ?_; rintro e w1 ⟨v, rfl, ⟨A1, c1, rfl, hc1, hf1⟩, hb1⟩; rw [hm] at hc1 ⊢)
  have hws : CG (Kd.int .i64) (FD B K M) w1 A1 m D.wts := ⟨hc1, fun ad e _ hg => by have := hf1 ad e; have := hlw.out; unfold FD at hg; omega⟩
  have h1 : IsDisk w1 B K M D := H.out.below hb1
  have hK1 : KeepF (FD B K M) w w1 := KeepF.of_below hb1
  have hR1 := CG.keep HR.out hK1 (fun _ h => h)
  replace hws := Aside0.mk hws; replace h1 := Aside0.mk h1; replace hK1 := Aside0.mk hK1; replace hR1 := Aside0.mk hR1; replace hm := Aside0.mk hm; replace hc1 := Aside0.mk hc1; replace hf1 := Aside0.mk hf1; replace hb1 := Aside0.mk hb1
  go_loopw [9] (fun i wr => ∃ (k : Nat) (Dn : Dsk), i = .int .i64 k ∧ k ≤ m ∧ Aside0 (IsDisk wr B K M Dn) ∧ Aside0 (KeepF (FD B K M) w wr) ∧ Aside0 (CG Kd.bool (FD B K M) wr A n keep) ∧ Aside0 (CG (Kd.int .i64) (FD B K M) wr A1 m D.wts) ∧
      Aside0 (crash1 keep Dn (D.wts.drop k) k = crash1 keep D D.wts 0) ∧ Aside0 ((Dn.waits.map (·.1)).Perm (D.wts.drop k)))
    (fun i _ => m - (intOf i).toNat)
  case atStart =>
    refine ⟨0, D, rfl, Nat.zero_le _, h1, hK1, hR1, hws, ⟨by rw [List.drop_zero]⟩, ⟨?_⟩⟩
    rw [List.drop_zero]; exact (List.mergeSort_perm _ _).symm
  case round =>
    obtain ⟨k, Dn, rfl, hk, hD, hK, hR, hW, hE, hP⟩ := hrel
    by_cases hlt : k < m
    · have p1 : 0 ≤ (k : Int) := by omega
      have q1 : (k : Int) < (m : Int) := by omega
      obtain ⟨ad, rfl, x1⟩ := Kd.at_int hW.out.c k p1 q1
      rw [Int.toNat_natCast] at x1
      have hcons : Aside0 (D.wts.drop k = rd D.wts k :: D.wts.drop (k + 1)) := ⟨by
        rw [List.drop_eq_getElem_cons (by rw [hml.out]; exact hlt)]; congr 1
        unfold rd; rw [List.getD_eq_getElem?_getD, Int.toNat_natCast, List.getElem?_eq_getElem (by rw [hml.out]; exact hlt)]; rfl⟩
      obtain ⟨i, hi⟩ : ∃ i, rd D.wts k = i := ⟨_, rfl⟩
      rw [hi] at x1 hcons
      have hmem : i ∈ Dn.waits.map (·.1) := hP.out.mem_iff.2 (by rw [hcons.out]; simp)
      obtain ⟨v, hv⟩ := aget_of_mem hmem
      have hvm := (aget_some_iff hD.out.mp.nodup i v).1 hv
      have hsec := hD.out.wsec _ hvm
      have hvs : Aside0 (Sec v) := ⟨hsec.1⟩
      obtain ⟨i1, i2⟩ := hsec.2
      dsimp only at i1 i2
      have hP' : Aside0 (((adel Dn.waits i).map (·.1)).Perm (D.wts.drop (k + 1))) := ⟨by
        have := hP.out.erase i
        rw [hcons.out, List.erase_cons_head] at this
        rw [keys_adel]; exact this⟩
      have hE' : Aside0 (crash1 keep (Dn.one (keep.getD k false) i) (D.wts.drop (k + 1)) (k + 1) = crash1 keep D D.wts 0) := ⟨by
        have := hE.out
        rw [hcons.out] at this; exact this⟩
      replace hmem := Aside0.mk hmem; replace hvm := Aside0.mk hvm; replace hv := Aside0.mk hv; replace hi := Aside0.mk hi
      replace hsec := trivial
      have c1' := hD.out.c1
      by_cases hb : keep.getD k false = true
      · have hkn' : k < n := by
          apply Decidable.byContradiction; intro hc
          rw [List.getD_eq_getElem?_getD, List.getElem?_eq_none (by rw [hkn.out]; omega)] at hb; cases hb
        have q2 : (k : Int) < (n : Int) := by omega
        obtain ⟨ad2, rfl, x2⟩ := Kd.at_bool hR.out.c k p1 q2
        rw [Int.toNat_natCast, show rdOf false keep k = true from by unfold rdOf; rw [Int.toNat_natCast]; exact hb] at x2
        have c0' := hD.out.c0
        obtain ⟨z, hz⟩ : ∃ z, Dn.kept.length = z := ⟨_, rfl⟩
        rw [hz] at c0' i2
        replace hz := Aside0.mk hz; replace hb := Aside0.mk hb
        go_wp2
        go_still_tail 12, (by kernel_rfl)
        refine wpStill_lookup_imap (enc := secV) (q := .i64) rfl _ _ 68 rfl Tryd.underlying68 Tryd.underlying3 (zero_sector _) M Dn.waits i rfl rfl (show IMap .i64 secV wr.drew M Dn.waits from hD.out.mp) ?_
        rw [hv.out]
        simp only [Option.map_some, Option.getD_some]
        repeat still_step
        refine wpStill_nil ?_
        change wpList _ _ _ _ _ wr.drew
        have hkl : i.toNat < Dn.kept.length := by rw [hz.out]; omega
        refine wpList_store_midB rfl _ _ _ rfl K (i.toNat * 64) (byt v) rfl rfl 84 (keptCells Dn.kept) (show wr.drew.heap[K]? = _ from hD.out.kblk) ?k6 ?k7 byt_one ?_
        case k6 => rw [byt_length, hvs.out.1]; exact size_sector
        case k7 => rw [keptCells_length _ hD.out.secs, byt_length, hvs.out.1]; omega
        have hD4 := (hD.out.drewN 1).setKept hkl hvs.out
        change IsDisk (wr.drew.setRow K (splice (keptCells Dn.kept) (i.toNat * 64) (byt v)).toArray) B K M { Dn with kept := Dn.kept.set i.toNat v } at hD4
        have hk4 : KeepF (fun i => i = K) wr (wr.drew.setRow K (splice (keptCells Dn.kept) (i.toNat * 64) (byt v)).toArray) := (KeepF.drew (KeepF.refl _ wr)).trans (F' := fun i => i = K) (KeepF.setRow _ _ _) (fun _ _ h => h)
        obtain ⟨U, hU⟩ : ∃ U, wr.drew.setRow K (splice (keptCells Dn.kept) (i.toNat * 64) (byt v)).toArray = U := ⟨_, rfl⟩
        rw [hU] at hD4 hk4 ⊢
        have c1u := hD4.c1
        replace hD4 := Aside0.mk hD4; replace hk4 := Aside0.mk hk4; replace hkl := Aside0.mk hkl; replace hU := Aside0.mk hU
        go_wp2_with ((with_reducible refine gate_op (.call ⟨.builtin .delete, #[.tmp 39, .tmp 40], #[68, 3]⟩) rfl ?_); refine wpList_delete_imap (enc := secV) (q := .i64) rfl _ _ 68 _ rfl Tryd.underlying68 Tryd.underlying3 M Dn.waits i rfl rfl hD4.out.mp ?_; intro ob hob; replace hob := Aside0.mk hob)
        have hkk : KeepF (FD B K M) wr (bset U M ob) := (hk4.out.mono (fun i e => .inr (.inl e))).trans (F' := fun i => i = M) (KeepF.bset _ _ _) (fun i _ e => .inr (.inr e))
        have hD5 : IsDisk (bset U M ob) B K M (Dn.one (keep.getD k false) i) := by
          have := hD4.out.gone hob.out
          unfold Dsk.one
          rw [hb.out, if_pos rfl, hv.out]
          exact this
        have hK5 := hK.out.trans hkk (fun i _ e => e)
        have hR5 := CG.keep hR.out hkk (fun _ h => h)
        have hW5 := CG.keep hW.out hkk (fun _ h => h)
        replace hkk := Aside0.mk hkk; replace hD5 := Aside0.mk hD5; replace hK5 := Aside0.mk hK5; replace hR5 := Aside0.mk hR5; replace hW5 := Aside0.mk hW5
        go_roundw
        case rel => exact ⟨k + 1, Dn.one (keep.getD k false) i, by simp, by omega, hD5, hK5, hR5, hW5, hE', hP'⟩
        case measure => show m - (((k : Int) + 1)).toNat < m - ((k : Int)).toNat; omega
      · have hb' : Aside0 (keep.getD k false = false) := ⟨by simpa using hb⟩
        clear hb
        by_cases hkn' : k < n
        · have q2 : (k : Int) < (n : Int) := by omega
          obtain ⟨ad2, rfl, x2⟩ := Kd.at_bool hR.out.c k p1 q2
          rw [Int.toNat_natCast, show rdOf false keep k = false from by unfold rdOf; rw [Int.toNat_natCast]; exact hb'.out] at x2
          go_wp2_with ((with_reducible refine gate_op (.call ⟨.builtin .delete, #[.tmp 39, .tmp 40], #[68, 3]⟩) rfl ?_); refine wpList_delete_imap (enc := secV) (q := .i64) rfl _ _ 68 _ rfl Tryd.underlying68 Tryd.underlying3 M Dn.waits i rfl rfl hD.out.mp ?_; intro ob hob; replace hob := Aside0.mk hob)
          have hkk : KeepF (FD B K M) wr (bset wr M ob) := (KeepF.bset _ _ _).mono (fun i e => .inr (.inr e))
          have hD5 : IsDisk (bset wr M ob) B K M (Dn.one (keep.getD k false) i) := by
            have := hD.out.gone hob.out
            unfold Dsk.one
            rw [hb'.out, if_neg (by decide)]
            exact this
          have hK5 := hK.out.trans hkk (fun i _ e => e)
          have hR5 := CG.keep hR.out hkk (fun _ h => h)
          have hW5 := CG.keep hW.out hkk (fun _ h => h)
          replace hkk := Aside0.mk hkk; replace hD5 := Aside0.mk hD5; replace hK5 := Aside0.mk hK5; replace hR5 := Aside0.mk hR5; replace hW5 := Aside0.mk hW5
          go_roundw
          case rel => exact ⟨k + 1, Dn.one (keep.getD k false) i, by simp, by omega, hD5, hK5, hR5, hW5, hE', hP'⟩
          case measure => show m - (((k : Int) + 1)).toNat < m - ((k : Int)).toNat; omega
        · have q2 : ¬ (k : Int) < (n : Int) := by omega
          go_wp2_with ((with_reducible refine gate_op (.call ⟨.builtin .delete, #[.tmp 39, .tmp 40], #[68, 3]⟩) rfl ?_); refine wpList_delete_imap (enc := secV) (q := .i64) rfl _ _ 68 _ rfl Tryd.underlying68 Tryd.underlying3 M Dn.waits i rfl rfl hD.out.mp ?_; intro ob hob; replace hob := Aside0.mk hob)
          have hkk : KeepF (FD B K M) wr (bset wr M ob) := (KeepF.bset _ _ _).mono (fun i e => .inr (.inr e))
          have hD5 : IsDisk (bset wr M ob) B K M (Dn.one (keep.getD k false) i) := by
            have := hD.out.gone hob.out
            unfold Dsk.one
            rw [hb'.out, if_neg (by decide)]
            exact this
          have hK5 := hK.out.trans hkk (fun i _ e => e)
          have hR5 := CG.keep hR.out hkk (fun _ h => h)
          have hW5 := CG.keep hW.out hkk (fun _ h => h)
          replace hkk := Aside0.mk hkk; replace hD5 := Aside0.mk hD5; replace hK5 := Aside0.mk hK5; replace hR5 := Aside0.mk hR5; replace hW5 := Aside0.mk hW5
          go_roundw
          case rel => exact ⟨k + 1, Dn.one (keep.getD k false) i, by simp, by omega, hD5, hK5, hR5, hW5, hE', hP'⟩
          case measure => show m - (((k : Int) + 1)).toNat < m - ((k : Int)).toNat; omega
    · have hkm : k = m := by omega
      have hz : Aside0 (D.wts.drop k = []) := ⟨List.drop_of_length_le (by rw [hml.out]; omega)⟩
      have c2 := hD.out.fz 2
      have c2' := hD.out.c2
      go_wp2
      go_end0
      refine fin.out wr Dn ?_ hD.out hK.out
      have := hE.out
      rw [hz.out] at this
      rw [hml.out, ← hkm]
      exact this
end Go.Proofs.YtiibfboendnifaaDoor.Dk
