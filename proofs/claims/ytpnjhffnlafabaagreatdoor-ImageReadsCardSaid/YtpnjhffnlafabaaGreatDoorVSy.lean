/- The stable sort's merging (symMerge, rotate) as plain Lean: what is sorted in two parts is sorted as a whole behind it. -/
import Derived.Sort.LotA
namespace Go.Proofs.Sy
set_option linter.unusedVariables false
set_option linter.unusedSimpArgs false
open Go.Sort
variable {α : Type} [Inhabited α]
def swapR (a b : Nat) : Nat → Array α → Array α
  | 0, d => d
  | n + 1, d => swp (swapR a b n d) (a + n) (b + n)
theorem swapR_size (a b n : Nat) (d : Array α) : (swapR a b n d).size = d.size := by
  induction n with
  | zero => rfl
  | succ n ih => unfold swapR; rw [swp_size, ih]
theorem swapR_get (a b n : Nat) (d : Array α) (hab : a + n ≤ b) (hb : b + n ≤ d.size) (k : Nat) :
    (swapR a b n d)[k]! = if a ≤ k ∧ k < a + n then d[k - a + b]! else if b ≤ k ∧ k < b + n then d[k - b + a]! else d[k]! := by
  induction n generalizing k with
  | zero => unfold swapR; rw [if_neg (by omega), if_neg (by omega)]
  | succ n ih =>
    have ih := fun k => ih (by omega) (by omega) k
    unfold swapR
    rw [swp_get _ (by rw [swapR_size]; omega) (by rw [swapR_size]; omega)]
    by_cases h1 : k = b + n
    · subst h1
      rw [if_pos rfl, ih, if_neg (by omega), if_neg (by omega), if_neg (by omega), if_pos (by omega)]
      congr 1; omega
    · rw [if_neg h1]
      by_cases h2 : k = a + n
      · subst h2
        rw [if_pos rfl, ih, if_neg (by omega), if_neg (by omega), if_pos (by omega)]
        congr 1; omega
      · rw [if_neg h2, ih]
        by_cases h3 : a ≤ k ∧ k < a + n
        · rw [if_pos h3, if_pos (by omega)]
        · rw [if_neg h3]
          by_cases h4 : b ≤ k ∧ k < b + n
          · rw [if_pos h4, if_neg (by omega), if_pos (by omega)]
          · rw [if_neg h4, if_neg (by omega), if_neg (by omega)]
theorem swapR_perm (lo hi a b n : Nat) (d : Array α) (hl : lo ≤ a) (hab : a + n ≤ b) (hb : b + n ≤ hi) (hh : hi ≤ d.size) : PermIn lo hi d (swapR a b n d) := by
  induction n with
  | zero => exact permIn_refl d lo hi
  | succ n ih =>
    unfold swapR
    exact permIn_trans _ _ _ _ _ (ih (by omega) (by omega)) (swp_permIn _ lo hi _ _ (by omega) (by omega) (by omega) (by omega) (by rw [swapR_size]; exact hh))
def rotF (a m b : Nat) (d : Array α) (k : Nat) : α := if a ≤ k ∧ k < a + (b - m) then d[k + (m - a)]! else if a + (b - m) ≤ k ∧ k < b then d[k - (b - m)]! else d[k]!
theorem rotF_more {m i j : Nat} {d : Array α} (hi : i ≤ m) (hj : 0 < j) (hij : j < i) (hm : m + j ≤ d.size) (k : Nat) :
    rotF (m - (i - j)) m (m + j) (swapR (m - i) m j d) k = rotF (m - i) m (m + j) d k := by
  have g := fun k => swapR_get (m - i) m j d (by omega) (by omega) k
  unfold rotF
  rw [g, g, g]
  by_cases h1 : k < m - i
  · rw [if_neg (by omega), if_neg (by omega), if_neg (by omega), if_neg (by omega), if_neg (by omega), if_neg (by omega)]
  · by_cases h2 : m + j ≤ k
    · rw [if_neg (by omega), if_neg (by omega), if_neg (by omega), if_neg (by omega), if_neg (by omega), if_neg (by omega)]
    · by_cases h3 : k < m - i + j
      · rw [if_neg (by omega), if_neg (by omega), if_pos (by omega), if_pos (by omega)]
        congr 1; omega
      · by_cases h4 : k < m - (i - j) + j
        · rw [if_pos (by omega), if_neg (by omega), if_pos (by omega), if_neg (by omega), if_pos (by omega)]
          congr 1; omega
        · rw [if_neg (by omega), if_pos (by omega), if_neg (by omega), if_neg (by omega), if_neg (by omega), if_pos (by omega)]
theorem rotF_less {m i j : Nat} {d : Array α} (hi : i ≤ m) (hi0 : 0 < i) (hij : i < j) (hm : m + j ≤ d.size) (k : Nat) :
    rotF (m - i) m (m + (j - i)) (swapR (m - i) (m + j - i) i d) k = rotF (m - i) m (m + j) d k := by
  have g := fun k => swapR_get (m - i) (m + j - i) i d (by omega) (by omega) k
  unfold rotF
  rw [g, g, g]
  by_cases h1 : k < m - i
  · rw [if_neg (by omega), if_neg (by omega), if_neg (by omega), if_neg (by omega), if_neg (by omega), if_neg (by omega)]
  · by_cases h2 : m + j ≤ k
    · rw [if_neg (by omega), if_neg (by omega), if_neg (by omega), if_neg (by omega), if_neg (by omega), if_neg (by omega)]
    · by_cases h3 : k < m + j - i - i
      · rw [if_pos (by omega), if_neg (by omega), if_neg (by omega), if_pos (by omega)]
      · by_cases h4 : k < m + j - i
        · rw [if_neg (by omega), if_pos (by omega), if_pos (by omega), if_pos (by omega)]
          congr 1; omega
        · rw [if_neg (by omega), if_neg (by omega), if_neg (by omega), if_pos (by omega), if_neg (by omega), if_pos (by omega)]
          try (congr 1; omega)
theorem rotF_same {m i : Nat} {d : Array α} (hi : i ≤ m) (hm : m + i ≤ d.size) (k : Nat) : (swapR (m - i) m i d)[k]! = rotF (m - i) m (m + i) d k := by
  rw [swapR_get (m - i) m i d (by omega) (by omega) k]
  unfold rotF
  by_cases h3 : m - i ≤ k ∧ k < m - i + i
  · rw [if_pos h3, if_pos (by omega)]; congr 1; omega
  · rw [if_neg h3]
    by_cases h4 : m ≤ k ∧ k < m + i
    · rw [if_pos h4, if_neg (by omega), if_pos (by omega)]; congr 1; omega
    · rw [if_neg h4, if_neg (by omega), if_neg (by omega)]
theorem rotF_none {a m b : Nat} {d : Array α} (h : ¬ (a < m ∧ m < b)) (ha : a ≤ m) (hb : m ≤ b) (k : Nat) : rotF a m b d k = d[k]! := by
  unfold rotF
  by_cases h1 : a = m
  · subst h1
    by_cases h2 : a ≤ k ∧ k < a + (b - a)
    · rw [if_pos h2]; congr 1; omega
    · rw [if_neg h2, if_neg (by omega)]
  · rw [if_neg (by omega)]
    by_cases h2 : a + (b - m) ≤ k ∧ k < b
    · rw [if_pos h2]; congr 1; omega
    · rw [if_neg h2]
def up (a : Nat) : Nat → Array α → Array α
  | 0, d => d
  | n + 1, d => swp (up a n d) (a + n) (a + n + 1)
theorem up_size (a n : Nat) (d : Array α) : (up a n d).size = d.size := by
  induction n with
  | zero => rfl
  | succ n ih => unfold up; rw [swp_size, ih]
theorem up_get (a n : Nat) (d : Array α) (h : a + n < d.size) (k : Nat) : (up a n d)[k]! = if a ≤ k ∧ k < a + n then d[k + 1]! else if k = a + n then d[a]! else d[k]! := by
  induction n generalizing k with
  | zero =>
    unfold up; rw [if_neg (by omega)]
    by_cases h1 : k = a + 0
    · rw [if_pos h1, h1]; rfl
    · rw [if_neg h1]
  | succ n ih =>
    have ih := fun k => ih (by omega) k
    unfold up
    rw [swp_get _ (by rw [up_size]; omega) (by rw [up_size]; omega)]
    by_cases h1 : k = a + n + 1
    · subst h1
      rw [if_pos rfl, ih, if_neg (by omega), if_pos rfl, if_neg (by omega), if_pos (by omega)]
    · rw [if_neg h1]
      by_cases h2 : k = a + n
      · subst h2
        rw [if_pos rfl, ih, if_neg (by omega), if_neg (by omega), if_pos (by omega)]
      · rw [if_neg h2, ih]
        by_cases h3 : a ≤ k ∧ k < a + n
        · rw [if_pos h3, if_pos (by omega)]
        · rw [if_neg h3, if_neg h2, if_neg (by omega), if_neg (by omega)]
theorem up_perm (lo hi a n : Nat) (d : Array α) (hl : lo ≤ a) (hh : a + n < hi) (hs : hi ≤ d.size) : PermIn lo hi d (up a n d) := by
  induction n with
  | zero => exact permIn_refl d lo hi
  | succ n ih =>
    unfold up
    exact permIn_trans _ _ _ _ _ (ih (by omega)) (swp_permIn _ lo hi _ _ (by omega) (by omega) (by omega) (by omega) (by rw [up_size]; exact hs))
def dn (m : Nat) : Nat → Array α → Array α
  | 0, d => d
  | n + 1, d => swp (dn m n d) (m - n) (m - n - 1)
theorem dn_size (a n : Nat) (d : Array α) : (dn a n d).size = d.size := by
  induction n with
  | zero => rfl
  | succ n ih => unfold dn; rw [swp_size, ih]
theorem dn_get (m n : Nat) (d : Array α) (h : n ≤ m) (hm : m < d.size) (k : Nat) : (dn m n d)[k]! = if k = m - n then d[m]! else if m - n < k ∧ k ≤ m then d[k - 1]! else d[k]! := by
  induction n generalizing k with
  | zero =>
    unfold dn
    by_cases h1 : k = m - 0
    · rw [if_pos h1, h1]; rfl
    · rw [if_neg h1, if_neg (by omega)]
  | succ n ih =>
    have ih := fun k => ih (by omega) k
    unfold dn
    rw [swp_get _ (by rw [dn_size]; omega) (by rw [dn_size]; omega)]
    by_cases h1 : k = m - n - 1
    · subst h1
      rw [if_pos rfl, ih, if_pos rfl, if_pos (by omega)]
    · rw [if_neg h1]
      by_cases h2 : k = m - n
      · subst h2
        rw [if_pos rfl, ih, if_neg (by omega), if_neg (by omega), if_neg (by omega), if_pos (by omega)]
      · rw [if_neg h2, ih, if_neg h2, if_neg (show ¬ k = m - (n + 1) by omega)]
        by_cases h3 : m - n < k ∧ k ≤ m
        · rw [if_pos h3, if_pos (by omega)]
        · rw [if_neg h3, if_neg (by omega)]
theorem dn_perm (lo hi m n : Nat) (d : Array α) (h : n ≤ m) (hl : lo + n ≤ m) (hh : m < hi) (hs : hi ≤ d.size) : PermIn lo hi d (dn m n d) := by
  induction n with
  | zero => exact permIn_refl d lo hi
  | succ n ih =>
    unfold dn
    exact permIn_trans _ _ _ _ _ (ih (by omega) (by omega)) (swp_permIn _ lo hi _ _ (by omega) (by omega) (by omega) (by omega) (by rw [dn_size]; exact hs))
structure Bs (p : Nat → Bool) (lo hi i j : Nat) : Prop where
  le : lo ≤ i ∧ i ≤ j ∧ j ≤ hi
  yes : ∀ k, lo ≤ k → k < i → p k = true
  no : ∀ k, j ≤ k → k < hi → p k = false
theorem Bs.start (p : Nat → Bool) {lo hi : Nat} (h : lo ≤ hi) : Bs p lo hi lo hi := ⟨by omega, fun k h1 h2 => by omega, fun k h1 h2 => by omega⟩
theorem Bs.right {p : Nat → Bool} {lo hi i j h : Nat} (B : Bs p lo hi i j) (hm : ∀ k k', lo ≤ k → k < k' → k' < hi → p k' = true → p k = true) (h1 : i ≤ h) (h2 : h < j) (hp : p h = true) : Bs p lo hi (h + 1) j :=
  ⟨by have := B.le; omega, fun k a b => by
    rcases Nat.lt_or_ge k h with c | c
    · exact hm k h a c (by have := B.le; omega) hp
    · obtain rfl : k = h := by omega
      exact hp, B.no⟩
theorem Bs.left {p : Nat → Bool} {lo hi i j h : Nat} (B : Bs p lo hi i j) (hm : ∀ k k', lo ≤ k → k < k' → k' < hi → p k' = true → p k = true) (h1 : i ≤ h) (h2 : h < j) (hp : p h = false) : Bs p lo hi i h :=
  ⟨by have := B.le; omega, B.yes, fun k a b => by
    rcases Nat.lt_or_ge h k with c | c
    · cases e : p k with
      | false => rfl
      | true => rw [hm h k (by have := B.le; omega) c b e] at hp; cases hp
    · obtain rfl : k = h := by omega
      exact hp⟩
variable {lt L : α → α → Bool}
def Cross (lt L : α → α → Bool) (a m b : Nat) (d : Array α) : Prop := ∀ i j, a ≤ i → i < m → m ≤ j → j < b → lt d[j]! d[i]! = L d[j]! d[i]!
theorem Cross.self (a m b : Nat) (d : Array α) : Cross lt lt a m b d := fun _ _ _ _ _ _ => rfl
theorem sym_left (hS : SWO L) {a b i : Nat} {d : Array α} (hb : b ≤ d.size) (hab : a + 1 < b) (hR : SortedIn L (a + 1) b d) (hC : Cross lt L a (a + 1) b d)
    (B : Bs (fun h => lt d[h]! d[a]!) (a + 1) b i i) : SortedIn L a b (up a (i - 1 - a) d) := by
  have hle := B.le
  have g := fun k => up_get a (i - 1 - a) d (by omega) k
  have e : a + (i - 1 - a) = i - 1 := by omega
  simp only [e] at g
  intro x y hx hxy hy
  rw [g, g]
  have yes : ∀ h, a + 1 ≤ h → h < i → L d[h]! d[a]! = true := fun h h1 h2 => by rw [← hC a h (by omega) (by omega) (by omega) (by omega)]; exact B.yes h h1 h2
  have no : ∀ h, i ≤ h → h < b → L d[h]! d[a]! = false := fun h h1 h2 => by rw [← hC a h (by omega) (by omega) (by omega) (by omega)]; exact B.no h h1 h2
  by_cases h1 : a ≤ y ∧ y < i - 1
  · rw [if_pos h1, if_pos (by omega)]; exact hR _ _ (by omega) (by omega) (by omega)
  · rw [if_neg h1]
    by_cases h2 : y = i - 1
    · rw [if_pos h2]
      by_cases h3 : a ≤ x ∧ x < i - 1
      · rw [if_pos h3]; exact hS.asymmA (yes _ (by omega) (by omega))
      · omega
    · rw [if_neg h2]
      by_cases h3 : a ≤ x ∧ x < i - 1
      · rw [if_pos h3]; exact hR _ _ (by omega) (by omega) (by omega)
      · rw [if_neg h3]
        by_cases h4 : x = i - 1
        · rw [if_pos h4]; exact no _ (by omega) (by omega)
        · rw [if_neg h4]; exact hR _ _ (by omega) hxy hy
theorem sym_left_mono (hS : SWO L) {a b : Nat} {d : Array α} (hR : SortedIn L (a + 1) b d) (hC : Cross lt L a (a + 1) b d) (k k' : Nat) (h1 : a + 1 ≤ k) (h2 : k < k') (h3 : k' < b) (h : (fun h => lt d[h]! d[a]!) k' = true) : (fun h => lt d[h]! d[a]!) k = true := by
  show lt d[k]! d[a]! = true
  have h : lt d[k']! d[a]! = true := h
  rw [hC a k (by omega) (by omega) (by omega) (by omega)]
  rw [hC a k' (by omega) (by omega) (by omega) (by omega)] at h
  cases e : L d[k]! d[a]! with
  | true => rfl
  | false => rw [hS.ntrans _ _ _ (hR k k' h1 h2 h3) e] at h; cases h
theorem sym_right (hS : SWO L) {a m i : Nat} {d : Array α} (hb : m < d.size) (ham : a < m) (hL : SortedIn L a m d) (hC : Cross lt L a m (m + 1) d)
    (B : Bs (fun h => !lt d[m]! d[h]!) a m i i) : SortedIn L a (m + 1) (dn m (m - i) d) := by
  have hle := B.le
  have g := fun k => dn_get m (m - i) d (by omega) hb k
  have e : m - (m - i) = i := by omega
  simp only [e] at g
  intro x y hx hxy hy
  rw [g, g]
  have yes : ∀ h, a ≤ h → h < i → L d[m]! d[h]! = false := fun h h1 h2 => by rw [← hC h m (by omega) (by omega) (by omega) (by omega)]; simpa using B.yes h h1 h2
  have no : ∀ h, i ≤ h → h < m → L d[m]! d[h]! = true := fun h h1 h2 => by rw [← hC h m (by omega) (by omega) (by omega) (by omega)]; simpa using B.no h h1 h2
  by_cases h1 : y = i
  · rw [if_pos h1, if_neg (by omega), if_neg (by omega)]
    exact yes _ hx (by omega)
  · rw [if_neg h1]
    by_cases h2 : i < y ∧ y ≤ m
    · rw [if_pos h2]
      by_cases h3 : x = i
      · rw [if_pos h3]; exact hS.asymmA (no _ (by omega) (by omega))
      · rw [if_neg h3]
        by_cases h4 : i < x ∧ x ≤ m
        · rw [if_pos h4]; exact hL _ _ (by omega) (by omega) (by omega)
        · rw [if_neg h4]; exact hL _ _ hx (by omega) (by omega)
    · rw [if_neg h2, if_neg (by omega), if_neg (by omega)]
      exact hL _ _ hx hxy (by omega)
theorem sym_right_mono (hS : SWO L) {a m : Nat} {d : Array α} (hL : SortedIn L a m d) (hC : Cross lt L a m (m + 1) d) (k k' : Nat) (h1 : a ≤ k) (h2 : k < k') (h3 : k' < m) (h : (fun h => !lt d[m]! d[h]!) k' = true) : (fun h => !lt d[m]! d[h]!) k = true := by
  have h : (!lt d[m]! d[k']!) = true := h
  show (!lt d[m]! d[k]!) = true
  rw [hC k m (by omega) (by omega) (by omega) (by omega)]
  rw [hC k' m (by omega) (by omega) (by omega) (by omega)] at h
  simp at h ⊢
  exact hS.ntrans _ _ _ h (hL k k' h1 h2 h3)
structure SymB (a m b lo hi : Nat) : Prop where
  ab : a < m ∧ m < b
  at_ : (m > (a + b) / 2 ∧ lo = (a + b) / 2 + m - b ∧ hi = (a + b) / 2) ∨ (m ≤ (a + b) / 2 ∧ lo = a ∧ hi = m)
theorem sym_mono (hS : SWO L) {a m b lo hi : Nat} {d : Array α} (Y : SymB a m b lo hi) (hL : SortedIn L a m d) (hR : SortedIn L m b d) (hC : Cross lt L a m b d)
    (k k' : Nat) (h1 : lo ≤ k) (h2 : k < k') (h3 : k' < hi) (h : (fun c => !lt d[(a + b) / 2 + m - 1 - c]! d[c]!) k' = true) : (fun c => !lt d[(a + b) / 2 + m - 1 - c]! d[c]!) k = true := by
  have h : (!lt d[(a + b) / 2 + m - 1 - k']! d[k']!) = true := h
  show (!lt d[(a + b) / 2 + m - 1 - k]! d[k]!) = true
  obtain ⟨⟨y1, y2⟩, y3⟩ := Y
  have q : (a + b) / 2 * 2 ≤ a + b ∧ a + b < (a + b) / 2 * 2 + 2 := by omega
  generalize (a + b) / 2 = mid at *
  rw [hC k _ (by omega) (by omega) (by omega) (by omega)]
  rw [hC k' _ (by omega) (by omega) (by omega) (by omega)] at h
  simp at h ⊢
  exact hS.ntrans _ _ _ (hS.ntrans _ _ _ (hR (mid + m - 1 - k') (mid + m - 1 - k) (by omega) (by omega) (by omega)) h) (hL k k' (by omega) h2 (by omega))
theorem sym_split (hS : SWO L) {a m b lo hi s mid e : Nat} {d d1 : Array α} (Y : SymB a m b lo hi) (hL : SortedIn L a m d) (hR : SortedIn L m b d) (hC : Cross lt L a m b d)
    (B : Bs (fun c => !lt d[(a + b) / 2 + m - 1 - c]! d[c]!) lo hi s s) (hmid : mid = (a + b) / 2) (he : e = mid + m - s) (hd : ∀ k, d1[k]! = rotF s m e d k) :
    SortedIn L a s d1 ∧ SortedIn L s mid d1 ∧ SortedIn L mid e d1 ∧ SortedIn L e b d1 ∧ Cross lt L a s mid d1 ∧ Cross lt L mid e b d1 ∧ (∀ i j, a ≤ i → i < mid → mid ≤ j → j < b → L d1[j]! d1[i]! = false) ∧ a ≤ s ∧ s ≤ mid ∧ mid ≤ e ∧ e ≤ b ∧ s ≤ m ∧ m ≤ e := by
  obtain ⟨⟨y1, y2⟩, y3⟩ := Y
  obtain ⟨⟨b1, _, b2⟩, yes, no⟩ := B
  have q : mid * 2 ≤ a + b ∧ a + b < mid * 2 + 2 := by omega
  rw [← hmid] at yes no y3
  clear hmid
  have hs : a ≤ s ∧ s ≤ mid ∧ s ≤ m := by omega
  have hee : mid ≤ e ∧ e ≤ b ∧ m ≤ e := by omega
  have g1 : ∀ k, a ≤ k → k < s → d1[k]! = d[k]! := fun k h1 h2 => by rw [hd]; unfold rotF; rw [if_neg (by omega), if_neg (by omega)]
  have g2 : ∀ k, s ≤ k → k < mid → d1[k]! = d[k + (m - s)]! := fun k h1 h2 => by rw [hd]; unfold rotF; rw [if_pos (by omega)]
  have g3 : ∀ k, mid ≤ k → k < e → d1[k]! = d[k - (e - m)]! := fun k h1 h2 => by rw [hd]; unfold rotF; rw [if_neg (by omega), if_pos (by omega)]
  have g4 : ∀ k, e ≤ k → d1[k]! = d[k]! := fun k h1 => by rw [hd]; unfold rotF; rw [if_neg (by omega), if_neg (by omega)]
  refine ⟨?_, ?_, ?_, ?_, ?_, ?_, ?_, hs.1, hs.2.1, hee.1, hee.2.1, hs.2.2, hee.2.2⟩
  · intro i j h1 h2 h3; rw [g1 i h1 (by omega), g1 j (by omega) h3]; exact hL _ _ h1 h2 (by omega)
  · intro i j h1 h2 h3; rw [g2 i h1 (by omega), g2 j (by omega) h3]; exact hR _ _ (by omega) (by omega) (by omega)
  · intro i j h1 h2 h3; rw [g3 i h1 (by omega), g3 j (by omega) h3]; exact hL _ _ (by omega) (by omega) (by omega)
  · intro i j h1 h2 h3; rw [g4 i h1, g4 j (by omega)]; exact hR _ _ (by omega) h2 h3
  · intro i j h1 h2 h3 h4; rw [g1 i h1 h2, g2 j h3 h4]; exact hC _ _ h1 (by omega) (by omega) (by omega)
  · intro i j h1 h2 h3 h4; rw [g3 i h1 h2, g4 j h3]; exact hC _ _ (by omega) (by omega) (by omega) h4
  · intro i j h1 h2 h3 h4
    by_cases c1 : i < s
    · rw [g1 i h1 c1]
      by_cases c2 : j < e
      · rw [g3 j h3 c2]; exact hL _ _ h1 (by omega) (by omega)
      · rw [g4 j (by omega)]
        by_cases c3 : s = lo
        · omega
        · have z := yes (s - 1) (by omega) (by omega)
          have z : (!lt d[mid + m - 1 - (s - 1)]! d[s - 1]!) = true := z
          rw [show mid + m - 1 - (s - 1) = e by omega, hC (s - 1) e (by omega) (by omega) (by omega) (by omega)] at z
          have z : L d[e]! d[s - 1]! = false := by simpa using z
          have z1 : L d[j]! d[s - 1]! = false := by
            by_cases c4 : j = e
            · rw [c4]; exact z
            · exact hS.ntrans _ _ _ (hR e j (by omega) (by omega) h4) z
          by_cases c5 : i = s - 1
          · rw [c5]; exact z1
          · exact hS.ntrans _ _ _ z1 (hL i (s - 1) h1 (by omega) (by omega))
    · rw [g2 i (by omega) h2]
      by_cases c2 : j < e
      · rw [g3 j h3 c2]
        have z := no s (Nat.le_refl _) (by omega)
        have z : (!lt d[mid + m - 1 - s]! d[s]!) = false := z
        rw [show mid + m - 1 - s = e - 1 by omega, hC s (e - 1) (by omega) (by omega) (by omega) (by omega)] at z
        have z : L d[s]! d[e - 1]! = false := hS.asymmA (by simpa using z)
        have z1 : L d[j - (e - m)]! d[e - 1]! = false := by
          by_cases c4 : j - (e - m) = s
          · rw [c4]; exact z
          · exact hS.ntrans _ _ _ (hL s (j - (e - m)) (by omega) (by omega) (by omega)) z
        by_cases c5 : i + (m - s) = e - 1
        · rw [c5]; exact z1
        · exact hS.ntrans _ _ _ z1 (hR (i + (m - s)) (e - 1) (by omega) (by omega) (by omega))
      · rw [g4 j (by omega)]
        exact hR _ _ (by omega) (by omega) h4
theorem sorted_join {a mid b : Nat} {d : Array α} (h1 : SortedIn L a mid d) (h2 : SortedIn L mid b d) (h : ∀ i j, a ≤ i → i < mid → mid ≤ j → j < b → L d[j]! d[i]! = false) : SortedIn L a b d := by
  intro i j hi hij hj
  by_cases c1 : j < mid
  · exact h1 i j hi hij c1
  · by_cases c2 : i < mid
    · exact h i j hi c2 (by omega) hj
    · exact h2 i j (by omega) hij hj
theorem apart_perm {a mid b : Nat} {d d1 d2 : Array α} (hb : b ≤ d.size) (ham : a ≤ mid) (hmb : mid ≤ b) (h : ∀ i j, a ≤ i → i < mid → mid ≤ j → j < b → L d[j]! d[i]! = false) (p1 : PermIn a mid d d1) (p2 : PermIn mid b d1 d2) :
    ∀ i j, a ≤ i → i < mid → mid ≤ j → j < b → L d2[j]! d2[i]! = false := by
  have e1 : ∀ i, mid ≤ i → d1[i]! = d[i]! := fun i hi => p1.2.1 i (.inr hi)
  have e2 : ∀ i, i < mid → d2[i]! = d1[i]! := fun i hi => p2.2.1 i (.inl hi)
  have q1 : ∀ i, a ≤ i → i < mid → ∀ j, mid ≤ j → j < b → L d1[j]! d1[i]! = false := by
    refine permIn_all d d1 a mid (fun x => ∀ j, mid ≤ j → j < b → L d1[j]! x = false) (by omega) p1 ?_
    intro i h1 h2 j h3 h4
    rw [e1 j h3]; exact h i j h1 h2 h3 h4
  intro i j h1 h2 h3 h4
  rw [e2 i h2]
  refine permIn_all d1 d2 mid b (fun x => L x d1[i]! = false) (by rw [p1.1]; exact hb) p2 ?_ j h3 h4
  intro j' h5 h6
  exact q1 i h1 h2 j' h5 h6
theorem SortedIn.outside {a b x y : Nat} {d d1 : Array α} (h : SortedIn L a b d) (p : PermIn x y d d1) (ho : b ≤ x ∨ y ≤ a) : SortedIn L a b d1 := by
  intro i j hi hij hj
  rw [p.2.1 i (by omega), p.2.1 j (by omega)]; exact h i j hi hij hj
theorem Cross.outside {a m b x y : Nat} {d d1 : Array α} (h : Cross lt L a m b d) (p : PermIn x y d d1) (ho : b ≤ x ∨ y ≤ a) : Cross lt L a m b d1 := by
  intro i j hi hij hj hb
  rw [p.2.1 i (by omega), p.2.1 j (by omega)]; exact h i j hi hij hj hb
theorem SortedIn.tiny {a b : Nat} {d : Array α} (h : b ≤ a + 1) : SortedIn L a b d := fun i j h1 h2 h3 => by omega
end Go.Proofs.Sy
