/- share.Ahead, called, tells the plain function ahead. -/
import Derived.Test.YtoljhicemcjbkaaShA
namespace Go.Proofs.Ytoljhicemcjbkaa.Sh
set_option linter.unusedVariables false
set_option linter.unusedSimpArgs false
open Go.RowKit Go.Proofs.YtoljhicemcjbkaaW.PrintWords Go.Proofs.YtoljhicemcjbkaaW.PrintLast Go.Proofs.YtoljhicemcjbkaaW.PrintMore PShareTells

def wt (ws : List Int) (i : Nat) : Int := if ws.length ≤ i then 1 else mx 1 (mn (rd ws i) 1048576)
def ct (n : Int) : Int := mx 0 (mn n 1099511627776)
theorem wt_bd (ws : List Int) (i : Nat) : 1 ≤ wt ws i ∧ wt ws i ≤ 1048576 := by
  unfold wt; split
  · omega
  · unfold mx mn; (repeat' split) <;> omega
theorem ct_bd (n : Int) : 0 ≤ ct n ∧ ct n ≤ 1099511627776 := by unfold ct mx mn; (repeat' split) <;> omega
def gap (cs ws : List Int) (i k : Nat) : Int := wt ws k * ct (rd cs i) - wt ws i * ct (rd cs k)
theorem mul_bd {a b : Int} (h1 : 1 ≤ a ∧ a ≤ 1048576) (h2 : 0 ≤ b ∧ b ≤ 1099511627776) : 0 ≤ a * b ∧ a * b ≤ 1152921504606846976 := by
  refine ⟨Int.mul_nonneg (by omega) h2.1, ?_⟩
  calc a * b ≤ 1048576 * 1099511627776 := Int.mul_le_mul h1.2 h2.2 h2.1 (by omega)
    _ = 1152921504606846976 := by decide
theorem gap_bd (cs ws : List Int) (i k : Nat) : -1152921504606846976 ≤ gap cs ws i k ∧ gap cs ws i k ≤ 1152921504606846976 := by
  have h1 := mul_bd (wt_bd ws k) (ct_bd (rd cs i))
  have h2 := mul_bd (wt_bd ws i) (ct_bd (rd cs k))
  unfold gap; omega
def step (cs ws : List Int) (i : Nat) (m : Int) (k : Nat) : Int := if i ≠ k ∧ gap cs ws i k > 0 then mx m (gap cs ws i k / wt ws k) else m
def row (cs ws : List Int) (i : Nat) : Nat → Nat → Int → Int
  | 0, _, m => m
  | d + 1, j, m => row cs ws i d (j + 1) (step cs ws i m j)
def all (cs ws : List Int) : Nat → Nat → Int → Int
  | 0, _, m => m
  | d + 1, i, m => all cs ws d (i + 1) (row cs ws i cs.length 0 m)
def ahead (cs ws : List Int) : Int := all cs ws cs.length 0 0

theorem wrap_all {x : Int} (h0 : -9223372036854775808 ≤ x) (h1 : x ≤ 9223372036854775807) : wrap64 x = x := by unfold wrap64; omega
theorem weight_f (ws : List Int) (i : Nat) : share_weight.f ws i = some (wt ws i) := by
  unfold share_weight.f wt
  by_cases h : ws.length ≤ i
  · rw [if_pos (by omega), if_pos h]
  · rw [if_neg (by omega), if_pos (by omega), if_pos (by omega), if_neg h]
theorem count_f (n : Int) : share_count.f n = some (ct n) := rfl
theorem div_bd {g w : Int} (h0 : 0 ≤ g) (h1 : g ≤ 1152921504606846976) (hw : 1 ≤ w) : 0 ≤ g / w ∧ g / w ≤ 1152921504606846976 := by
  refine ⟨Int.ediv_nonneg h0 (by omega), Int.le_trans (Int.ediv_le_self _ h0) h1⟩

theorem l1_eval (cs ws : List Int) (i : Nat) : ∀ (d j : Nat) (m : Int) (k : Nat), j + d = cs.length → (cs.length : Int) ≤ 9223372036854775807 →
    share_Ahead.l1 (k + d + 1) cs ws m i (rd cs i) cs cs.length i cs cs.length j = share_Ahead.l0 k cs ws (row cs ws i d j m) cs cs.length (wrap64 (i + 1)) := by
  intro d
  induction d with
  | zero =>
    intro j m k hj hn
    simp only [share_Ahead.l1, row, Nat.add_zero]
    rw [if_neg (by omega)]
  | succ d ih =>
    intro j m k hj hn
    have hw := wt_bd ws j
    have h1 := mul_bd (wt_bd ws j) (ct_bd (rd cs i))
    have h2 := mul_bd (wt_bd ws i) (ct_bd (rd cs j))
    obtain ⟨K, hK⟩ : ∃ K, k + d + 1 = K := ⟨_, rfl⟩
    have ih' := fun j m => ih j m k
    rw [hK] at ih'
    rw [show k + (d + 1) + 1 = K + 1 by omega]
    clear ih
    simp only [share_Ahead.l1]
    rw [if_pos (by omega), if_pos (by omega), if_pos (by omega), weight_f, Option.bind_some, weight_f, Option.bind_some, count_f, Option.bind_some, count_f, Option.bind_some]
    rw [wrap_all (by omega) (by omega : wt ws j * ct (rd cs i) ≤ _), wrap_all (by omega) (by omega : wt ws i * ct (rd cs j) ≤ _)]
    rw [show wt ws j * ct (rd cs i) - wt ws i * ct (rd cs j) = gap cs ws i j from rfl]
    have hg := gap_bd cs ws i j
    rw [wrap_all (by omega) (by omega : gap cs ws i j ≤ _), wrap_all (by omega) (by omega : (j : Int) + 1 ≤ _)]
    have ej : ((j : Int) + 1) = ((j + 1 : Nat) : Int) := by omega
    rw [ej]
    have hrow : ∀ m', step cs ws i m j = m' → row cs ws i (d + 1) j m = row cs ws i d (j + 1) m' := fun m' h => by simp only [row]; rw [h]
    by_cases hij : i = j
    · rw [if_pos (by omega), ih' (j + 1) m (by omega) hn, hrow m (by unfold step; rw [if_neg (by omega)])]
    · rw [if_neg (by omega)]
      by_cases hpos : gap cs ws i j > 0
      · have hd := div_bd (by omega) hg.2 hw.1
        rw [if_pos hpos, if_neg (by omega), Int.tdiv_eq_ediv_of_nonneg (by omega), wrap_all (by omega) (by omega), ih' (j + 1) _ (by omega) hn, hrow _ (by unfold step; rw [if_pos ⟨hij, hpos⟩])]
      · rw [if_neg hpos, ih' (j + 1) m (by omega) hn, hrow m (by unfold step; rw [if_neg (by omega)])]

theorem l0_eval (cs ws : List Int) : ∀ (d i : Nat) (m : Int) (k : Nat), i + d = cs.length → (cs.length : Int) ≤ 9223372036854775807 →
    share_Ahead.l0 (k + d * (cs.length + 2) + 1) cs ws m cs cs.length i = some (all cs ws d i m) := by
  intro d
  induction d with
  | zero =>
    intro i m k hi hn
    simp only [share_Ahead.l0, all, Nat.zero_mul, Nat.add_zero]
    rw [if_neg (by omega)]
  | succ d ih =>
    intro i m k hi hn
    have e : k + (d + 1) * (cs.length + 2) + 1 = ((k + d * (cs.length + 2) + 1) + cs.length + 1) + 1 := by rw [Nat.succ_mul]; omega
    rw [e]
    obtain ⟨K, hK⟩ : ∃ K, (k + d * (cs.length + 2) + 1) + cs.length + 1 = K := ⟨_, rfl⟩
    rw [hK]
    simp only [share_Ahead.l0]
    rw [← hK, if_pos (by omega), if_pos (by omega), if_pos (by omega)]
    refine (l1_eval cs ws i cs.length 0 m _ (by omega) hn).trans ?_
    rw [wrap_all (by omega) (by omega : (i : Int) + 1 ≤ _)]
    exact ih (i + 1) _ k (by omega) hn

theorem ahead_f (cs ws : List Int) (hn : (cs.length : Int) ≤ 9223372036854775807) : ∃ K, share_Ahead.f K cs ws = some (ahead cs ws) :=
  ⟨0 + cs.length * (cs.length + 2) + 1, by unfold share_Ahead.f; exact l0_eval cs ws cs.length 0 0 0 (by omega) hn⟩

/-- share.Ahead, called. -/
theorem Ahead_calls (A0 : Option Addr) (n0 c0 : Nat) (l0 : List Int) (A1 : Option Addr) (n1 c1 : Nat) (l1 : List Int) (w : World) (hr0 : Kd.C (Kd.int .i64) w A0 n0 l0) (hc0 : n0 ≤ c0) (hr1 : Kd.C (Kd.int .i64) w A1 n1 l1) (hc1 : n1 ≤ c1) :
    Calls Try.prog 9 #[.slice A0 n0 c0, .slice A1 n1 c1] w fun e w' => e = .returned (.int .i64 (ahead l0 l1)) ∧ Below w.heap.size w w' := by
  obtain rfl := hr0.1
  obtain rfl := hr1.1
  have hl := hr0.2.1
  obtain ⟨K, h⟩ := ahead_f l0 l1 (by omega)
  exact share_Ahead.calls K A0 c0 l0 A1 c1 l1 _ w hr0 hc0 hr1 hc1 h

def counts (xs ids : List Int) : List Int := ids.map fun id => (xs.count id : Int)
theorem Counts_calls (A0 : Option Addr) (n0 c0 : Nat) (l0 : List Int) (A1 : Option Addr) (n1 c1 : Nat) (l1 : List Int) (w : World) (hr0 : Kd.C (Kd.int .i64) w A0 n0 l0) (hc0 : n0 ≤ c0) (hr1 : Kd.C (Kd.int .i64) w A1 n1 l1) (hc1 : n1 ≤ c1) (hl : n1 ≤ 17592186044416) :
    Calls Try.prog 7 #[.slice A0 n0 c0, .slice A1 n1 c1] w fun e w' => ∃ A c, e = .returned (.slice A n1 c) ∧ n1 ≤ c ∧ Kd.C (Kd.int .i64) w' A n1 (counts l0 l1) ∧ Below w.heap.size w w' := by
  obtain rfl := hr0.1
  obtain rfl := hr1.1
  refine (share_Counts.calls A0 c0 l0 A1 c1 l1 _ w hr0 hc0 hr1 hc1 (by unfold share_Counts.f; rw [if_pos hl])).mono ?_
  rintro e w' ⟨v, rfl, hR, hB⟩
  obtain ⟨A, c, rfl, h1, h2⟩ := Kd.R_reads hR
  rw [List.length_map] at h1 h2
  exact ⟨A, c, by rw [List.length_map], h1, h2, hB⟩

end Go.Proofs.Ytoljhicemcjbkaa.Sh
