/- slices.SortStableFunc and slices.Clone at a scene's tasks. -/
import Derived.Test.YtpnjhffnlafabaaGreatDoorVStC
import Derived.Test.YtpnjhffnlafabaaGreatDoorVSc2
import Derived.Test.YtpnjhffnlafabaaGreatDoorVSc1
namespace Go.Proofs.YtpnjhffnlafabaaGreatDoor.Sn
set_option linter.unusedVariables false
set_option linter.unusedSimpArgs false
open Go.RowKit Go.Sort Go.Shelf Go.Lib Go.Proofs.Bk Go.Proofs.Bm Go.Proofs.Op Go.Proofs.Sc Go.Proofs.Kf Go.Proofs.YtpnjhffnlafabaaGreatDoorW.PrintWords Go.Proofs.YtpnjhffnlafabaaGreatDoor.PImageBack Go.Proofs.YtpnjhffnlafabaaGreatDoor.St
section
variable {α : Type} [Inhabited α] {enc : α → List Value} {k : Nat}
theorem flat_at {d : Array α} (hk : ∀ x, (enc x).length = k) {j i : Nat} (hj : j < d.size) (hi : i < k) : (flatK enc k d)[j * k + i]! = (enc d[j]!)[i]! ∧ j * k + i < d.size * k := by
  have h : j * k + i < d.size * k := by
    have := Nat.mul_le_mul_right k (show j + 1 ≤ d.size from hj)
    rw [Nat.succ_mul] at this; omega
  refine ⟨?_, h⟩
  rw [get_flatK enc k d _ h]
  rw [show (j * k + i) / k = j by rw [Nat.mul_comm, Nat.mul_add_div (by omega), Nat.div_eq_of_lt hi, Nat.add_zero],
    show (j * k + i) % k = i by rw [Nat.mul_comm, Nat.mul_add_mod, Nat.mod_eq_of_lt hi]]
theorem holdsK_at {w : World} {g off : Nat} {d : Array α} (hk : ∀ x, (enc x).length = k) (h : HoldsK enc k w g off d) {j i : Nat} {u : Value} (hj : j < d.size) (hu : (enc d[j]!)[i]? = some u) : w.cell? ⟨g, off + j * k + i, none⟩ = some u := by
  have hi : i < k := by have := (List.getElem?_eq_some_iff.1 hu).1; rw [hk] at this; exact this
  obtain ⟨h1, h2⟩ := flat_at (enc := enc) (d := d) hk hj hi
  have h3 := (h (j * k + i) (by rw [size_flatK]; exact h2)).1
  rw [h1] at h3
  rw [Nat.add_assoc, h3]
  have : (enc d[j]!)[i]! = u := by rw [getElem!_def, hu]
  rw [this]; rfl
theorem C_holds {κ : Kd α} (hk : ∀ x, (enc x).length = κ.sz) (hK : ∀ w x, κ.K w x (enc x)) {w : World} {g : Nat} {xs : List α} (h : HoldsK enc κ.sz w g 0 xs.toArray) (hn : xs.length ≤ 9223372036854775807) : κ.C w (some ⟨g, 0, none⟩) xs.length xs := by
  refine ⟨rfl, hn, fun _ => ⟨_, rfl, fun j p hp => ⟨enc p, hk p, hK w p, fun i u hu => ?_⟩⟩⟩
  have hj : j < xs.length := (List.getElem?_eq_some_iff.1 hp).1
  rw [add_at, ← Nat.add_assoc]
  refine holdsK_at hk h (by simpa using hj) ?_
  rw [show xs.toArray[j]! = p by rw [getElem!_def]; simp [hp]]; exact hu
theorem own_holds {w : World} {base e : Nat} {v : Value} {d : Array α} (h : w.ownsRow base e k v d.size (flatK enc k d).toList) :
    (v = .slice none 0 0 ∧ d.size = 0) ∨ ∃ g cap, v = .slice (some ⟨g, 0, none⟩) d.size cap ∧ base ≤ g ∧ g < w.heap.size ∧ d.size ≤ cap ∧ HoldsK enc k w g 0 d := by
  rcases h.2 with h | ⟨g, cap, cur, rfl, h1, h2, h3, _, _, h6⟩
  · exact .inl h
  · refine .inr ⟨g, cap, rfl, h1, Kf.lt_row h2, h3, fun j hj => ⟨?_, by simp [World.frozen?, h2]⟩⟩
    rw [size_flatK] at hj
    have h7 : (cur.toList.take (d.size * k))[j]? = (flatK enc k d).toList[j]? := by rw [h6]
    rw [List.getElem?_take_of_lt hj] at h7
    simp only [World.cell?, h2, Nat.zero_add, Option.isSome_none, Bool.false_eq_true, if_false]
    rw [← Array.getElem?_toList, h7, Array.getElem?_toList, getElem!_pos _ _ (by rw [size_flatK]; exact hj)]
    exact Array.getElem?_eq_getElem _
theorem below_sortK {w : World} {g n : Nat} {d : Array α} {os : Array Obj} (hg : g < w.heap.size) : Below g w (sortWorldK enc k w g 0 n d os) := by
  unfold sortWorldK putRowK
  refine ⟨rfl, rfl, rfl, by simp [putRow, mapBlock, Sort.ahead], fun j hj => ?_⟩
  have hk : j < w.heap.size := by omega
  rw [heap_grow_old _ _ (by simpa [putRow, mapBlock, Sort.ahead] using hk)]
  simp [putRow, mapBlock, Sort.ahead, Array.getElem?_modify, show g ≠ j by omega]
end
theorem tC_len (x : ST) : (tC x).length = 8 := rfl
theorem tC_one (x : ST) : ∀ v ∈ tC x, v.oneCell' = true := fun v hv => by
  simp [tC] at hv; rcases hv with rfl | rfl | rfl | rfl | rfl | rfl | rfl | rfl <;> rfl
def cfT (x y : ST) : Int := Lib.compareInt x.f0 y.f0
theorem ltT (x y : ST) : ltOf cfT x y = decide (x.f0 < y.f0) := by
  unfold ltOf cfT Lib.compareInt
  by_cases h1 : x.f0 < y.f0
  · simp [h1]
  · by_cases h2 : y.f0 < x.f0 <;> simp [h1, h2]
theorem swoT : SWO (ltOf cfT) where
  irrefl x := by rw [ltT]; simp
  trans x y z h1 h2 := by rw [ltT] at *; simp at *; omega
  ntrans x y z h1 h2 := by rw [ltT] at *; simp at *; omega
set_option maxHeartbeats 2000000 in
theorem orderCmp (x y : ST) (w : World) : Calls Tryz.prog 82 #[.agg (tC x).toArray, .agg (tC y).toArray] w fun e w' => e = .returned (.int .i64 (cfT x y)) ∧ ∃ q os', w' = grow (w.drewN q) os' := by
  show Calls Tryz.prog 82 #[.agg ([.int .i64 x.f0, .int .i64 x.f1, .int .i64 x.f2, .int .u64 x.f3, .bool x.f4, .int .i64 x.f5, .int .i64 x.f6.f0, .int .i64 x.f6.f1] : List Value).toArray, .agg ([.int .i64 y.f0, .int .i64 y.f1, .int .i64 y.f2, .int .u64 y.f3, .bool y.f4, .int .i64 y.f5, .int .i64 y.f6.f0, .int .i64 y.f6.f1] : List Value).toArray] w fun e w' => e = .returned (.int .i64 (Lib.compareInt x.f0 y.f0)) ∧ ∃ q os', w' = grow (w.drewN q) os'
  have hcon := fun W => Tryz.cmp_Compare_int x.f0 y.f0 W
  generalize Lib.compareInt x.f0 y.f0 = r at hcon ⊢
  go_enter Tryz.func82, Tryz.ntmps82
  go_wp2_with (go_at_call 83; refine (hcon _).mono ?_; rintro e w' ⟨rfl, rfl⟩)
  go_ret
  exact ⟨rfl, 0, _, by rw [alloc_eq_grow, alloc_eq_grow, grow_grow]; rfl⟩
theorem orderLays (g off n : Nat) (w : World) : CmpLays Tryz.prog 82 #[] tC 8 cfT g off n w := fun _ _ _ _ x y => orderCmp x y _
theorem sorted_list {ts ys : List ST} (hp : PermIn 0 ts.length ts.toArray ys.toArray) (hs : SortedIn (ltOf cfT) 0 ts.length ys.toArray) (hnd : (ts.map (·.f0)).Nodup) : ys.map tOf = sortT (ts.map tOf) ∧ ys.Perm ts := by
  have hl : ys.length = ts.length := by simpa using hp.1
  have h1 : ys.Perm ts := by
    have := hp.2.2
    rw [show ts.toArray.extract 0 ts.length = ts.toArray by simp, show ys.toArray.extract 0 ts.length = ys.toArray by rw [← hl]; simp] at this
    exact this
  have h2 : (ys.map tOf).Pairwise fun a b => a.id ≤ b.id := by
    rw [List.pairwise_map, List.pairwise_iff_getElem]
    intro i j hi hj hij
    have := hs i j (Nat.zero_le _) hij (by omega)
    rw [ltT, getElem!_pos _ _ (by simpa using hj), getElem!_pos _ _ (by simpa using hi)] at this
    simp at this
    exact this
  refine ⟨?_, h1⟩
  rw [← sortT_id h2]
  exact sortT_perm (h1.symm.map tOf) (by rw [List.map_map]; exact hnd)
def StablePost (g : Nat) (ts : List ST) (w : World) (e : Ending) (w' : World) : Prop :=
  e = .returned (.tuple #[]) ∧ ∃ ys : List ST, ys.map tOf = sortT (ts.map tOf) ∧ ys.Perm ts ∧ HoldsK tC 8 w' g 0 ys.toArray ∧ Below g w w'
set_option maxHeartbeats 2000000 in
theorem SortStable_calls (g cap : Nat) (ts : List ST) (w : World) (hg : g < w.heap.size) (hH : HoldsK tC 8 w g 0 ts.toArray) (hsz : ts.length < 1152921504606846976) (hnd : (ts.map (·.f0)).Nodup) :
    Calls Tryz.prog 81 #[.slice (some ⟨g, 0, none⟩) ts.length cap, .func (.func 82) #[] #[]] w (StablePost g ts w) := by
  have eg : ∀ args w, (callFunc 82 args).run Tryz.prog w = .ok (.enter 82 args) w := enters_of Tryz.func82 (by kernel_rfl) rfl
  have hc := stable_calls tC w g 0 cap ts.length ts.toArray 8 rfl ⟨tC_len, tC_one, hH, hg⟩ (by simp) hsz cfT 82 #[] (orderLays g 0 ts.length w) eg swoT ts.toArray w (by simp) (SWK.start hH)
  replace hH := Aside0.mk hH; replace hnd := Aside0.mk hnd; replace hc := Aside0.mk hc
  go_enter Tryz.func81, Tryz.ntmps81
  go_wp2_with fail
  with_reducible refine hc.out.mono ?_
  rintro e w' ⟨d', rfl, ⟨n, os, rfl⟩, hP, hQ⟩
  go_wp2_with fail
  go_end0
  obtain ⟨ys, rfl⟩ : ∃ ys : List ST, d' = ys.toArray := ⟨d'.toList, by simp⟩
  obtain ⟨h1, h2⟩ := sorted_list hP hQ hnd.out
  exact ⟨rfl, ys, h1, h2, holdsK_sortWorldK tC 8 w g 0 n ts.toArray ys.toArray os hg hH.out (by simpa using h2.length_eq), below_sortK hg⟩
set_option maxHeartbeats 2000000 in
theorem SortStable_none (p : Option Addr) (cap : Nat) (fv : Value) (w : World) :
    Calls Tryz.prog 81 #[.slice p 0 cap, fv] w fun e w' => e = .returned (.tuple #[]) ∧ w' = w := by
  have hc : Calls Tryz.prog 97 #[.slice p 0 cap, .int .i64 0, fv] w fun e w' => e = .returned (.tuple #[]) ∧ w' = w := by
    have hi : ∀ w, Calls Tryz.prog 119 #[.slice p 0 cap, .int .i64 0, .int .i64 0, fv] w fun e w' => e = .returned (.tuple #[]) ∧ w' = w := fun w => AnyF.insertionSortCmpFunc_none Tryz.isT p cap fv w
    have mixed := Tryz.isT.mixed
    go_enter Tryz.func97, Tryz.ntmps97
    go_wp2_with fail
    refine wp_loop_rounds 1 ?_
    rw [rounds_succ]
    go_wp2_with fail
    with_reducible refine (hi w).mono ?_
    rintro e w' ⟨rfl, rfl⟩
    go_wp2_with fail
    refine wp_loop_rounds 1 ?_
    rw [rounds_succ]
    go_wp2_with fail
    go_end0
    exact ⟨rfl, rfl⟩
  go_enter Tryz.func81, Tryz.ntmps81
  go_wp2_with fail
  with_reducible refine hc.mono ?_
  rintro e w' ⟨rfl, rfl⟩
  go_wp2_with fail
  go_end0
  exact ⟨rfl, rfl⟩
/-! slices.Clone -/
theorem infoT : (Tryz.prog.info? 59).map (fun i => (i.zero, i.size, i.bytes)) = some (some (.agg #[.int .i64 0, .int .i64 0, .int .i64 0, .int .u64 0, .bool false, .int .i64 0, .int .i64 0, .int .i64 0]), 8, 64) := by kernel_rfl
def ClonePost (ts : List ST) (w : World) (e : Ending) (w' : World) : Prop :=
  ∃ v, e = .returned v ∧ ((v = .slice none 0 0 ∧ ts = []) ∨ ∃ g cap, v = .slice (some ⟨g, 0, none⟩) ts.length cap ∧ w.heap.size ≤ g ∧ g < w'.heap.size ∧ ts.length ≤ cap ∧ HoldsK tC 8 w' g 0 ts.toArray) ∧ Below w.heap.size w w'
set_option maxRecDepth 100000 in
theorem Clone_calls (A : Option Addr) (n c : Nat) (ts : List ST) (w : World) (hT : kT.C w A n ts) (hA : ∀ ad, A = some ad → ad.spot = none) (hn : n ≤ 1099511627776) :
    Calls Tryz.prog 80 #[.slice A n c] w (ClonePost ts w) := by
  obtain rfl := hT.1
  rcases A with _ | ⟨b, off, sp⟩
  · refine Calls.mono (AnyE.slices_Clone_nil Tryz.clT ts.length c w) ?_
    rintro e w' ⟨rfl, rfl⟩
    have h0 : ts = [] := by
      by_cases h : 0 < ts.length
      · obtain ⟨b, off, h1, _⟩ := T_at hT h; cases h1
      · exact List.length_eq_zero_iff.1 (by omega)
    exact ⟨_, rfl, .inl ⟨rfl, h0⟩, Below.refl _ _⟩
  · obtain rfl : sp = none := hA _ rfl
    have hi := infoT
    cases hf : Tryz.prog.info? 59 with
    | none => rw [hf] at hi; cases hi
    | some i0 =>
      rw [hf] at hi
      simp only [Option.map_some, Option.some.injEq, Prod.mk.injEq] at hi
      obtain ⟨z1, z2, z3⟩ := hi
      have hl : (flatK tC 8 ts.toArray).toList.length = ts.length * 8 := by simp
      have hcell : ∀ j u, (flatK tC 8 ts.toArray).toList[j]? = some u → w.cell? ⟨b, off + j, none⟩ = some u := by
        intro j u hu
        have hj : j < ts.length * 8 := by have := (List.getElem?_eq_some_iff.1 hu).1; rw [hl] at this; exact this
        obtain ⟨b', off', e1, _, h2⟩ := T_at hT (by omega)
        injection e1 with e1
        injection e1 with e1 e2
        subst e1
        subst e2
        have h3 := h2 (j / 8) (by omega) (j % 8) u ?_
        · rw [← h3]; congr 2; omega
        · have h4 := get_flatK tC 8 ts.toArray j (by simpa using hj)
          rw [Array.getElem?_toList, Array.getElem?_eq_getElem (by rw [size_flatK]; simpa using hj)] at hu
          rw [getElem!_pos _ _ (by rw [size_flatK]; simpa using hj)] at h4
          rw [h4] at hu
          injection hu with hu
          have h5 : j % 8 < (tC ts[j / 8]!).length := by rw [tC_len]; omega
          rw [List.getElem?_eq_getElem h5]
          rw [← hu, show ts.toArray[j / 8]! = ts[j / 8]! by rw [getElem!_def, getElem!_def]; simp, getElem!_pos (tC ts[j / 8]!) (j % 8) h5]
      have hone : ∀ u ∈ (flatK tC 8 ts.toArray).toList, u.oneCell' = true := by
        intro u hu
        obtain ⟨j, hj, rfl⟩ := List.getElem_of_mem hu
        rw [hl] at hj
        have h4 := get_flatK tC 8 ts.toArray j (by simpa using hj)
        rw [getElem!_pos _ _ (by rw [size_flatK]; simpa using hj)] at h4
        rw [Array.getElem_toList, h4, getElem!_pos _ _ (by rw [tC_len]; omega)]
        exact tC_one _ _ (List.getElem_mem _)
      refine Calls.mono (AnyE.slices_Clone Tryz.clT i0 _ 8 64 hf z1 z2 z3 rfl (by omega) Tryz.sizeOf59 b off ts.length c (flatK tC 8 ts.toArray).toList w hl (by unfold maxLen; omega) (by omega) hcell hone) ?_
      rintro e w' ⟨v, rfl, ho, _, hb⟩
      refine ⟨v, rfl, ?_, hb⟩
      rcases own_holds (d := ts.toArray) (by simpa using ho) with ⟨h1, h2⟩ | ⟨g, cap, h1, h2, h3, h4, h5⟩
      · exact .inl ⟨h1, List.length_eq_zero_iff.1 (by simpa using h2)⟩
      · exact .inr ⟨g, cap, by simpa using h1, h2, h3, by simpa using h4, h5⟩
end Go.Proofs.YtpnjhffnlafabaaGreatDoor.Sn
