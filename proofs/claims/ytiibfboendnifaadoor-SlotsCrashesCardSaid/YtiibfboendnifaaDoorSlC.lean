/- The check of package crc: in, More, Of, over the table that the program's start lays. -/
import Derived.Test.YtiibfboendnifaaDoorSlB
import Derived.Laws.BitsAllLaws
namespace Go.Proofs.YtiibfboendnifaaDoor.Sl
set_option linter.unusedVariables false
set_option linter.unusedSimpArgs false
open Go.RowKit Go.Proofs.Bk Go.Proofs.Bm Go.Proofs.YtiibfboendnifaaDoor.Dk Go.Proofs.YtiibfboendnifaaDoorW.PrintWords

def halves : List Int := [0, 498536548, 997073096, 651767980, 1994146192, 1802195444, 1303535960, 1342533948, 3988292384, 4027552580, 3604390888, 3412177804, 2607071920, 2262029012, 2685067896, 3183342108]
/-- the table lies in the first block -/
def Tab (w : World) : Prop := ∀ j : Nat, j < 16 → w.cell? ⟨0, j, none⟩ = some (.int .u32 (rd halves j))

theorem wraps_u32 (n : Int) (h₀ : 0 ≤ n) (h₁ : n < 2 ^ 32) : IntKind.u32.wrap n = n := by rw [IntKind.wrap_u32]; omega
theorem and15 (x : Int) (h₀ : 0 ≤ x) (h₁ : x < 4294967296) : bits BinOp.and IntKind.u32 x 15 = x % 16 := bits_mask .u32 32 (by decide) wraps_u32 4 (by decide) x h₀ (by omega)
theorem xor_range (a b : Int) (h1 : 0 ≤ a) (h2 : a < 4294967296) (h3 : 0 ≤ b) (h4 : b < 4294967296) : 0 ≤ bits BinOp.xor IntKind.u32 a b ∧ bits BinOp.xor IntKind.u32 a b < 4294967296 := by
  rw [u32_xor a b h1 h2 h3 h4]
  have : a.toNat ^^^ b.toNat < 2 ^ 32 := Nat.xor_lt_two_pow (by omega) (by omega)
  omega
theorem halves_range (i : Int) : 0 ≤ rd halves i ∧ rd halves i < 4294967296 := by
  unfold rd
  have : ∀ x ∈ halves, 0 ≤ x ∧ x < 4294967296 := by decide
  rw [List.getD_eq_getElem?_getD]
  cases e : halves[i.toNat]? with
  | none => simp
  | some x => exact this x (List.mem_of_getElem? e)
/-- four bits into a register -/
def crcStep (x : Int) : Int := bits BinOp.xor IntKind.u32 (x / 16) (rd halves (x % 16))
def crcIn (c b : Int) : Int := crcStep (crcStep (bits BinOp.xor IntKind.u32 c b))
theorem crcStep_range (x : Int) (h1 : 0 ≤ x) (h2 : x < 4294967296) : 0 ≤ crcStep x ∧ crcStep x < 4294967296 := xor_range _ _ (by omega) (by omega) (halves_range _).1 (halves_range _).2
theorem crcIn_range (c b : Int) (hc : 0 ≤ c ∧ c < 4294967296) (hb : 0 ≤ b ∧ b ≤ 255) : 0 ≤ crcIn c b ∧ crcIn c b < 4294967296 := by
  have h1 := xor_range c b hc.1 hc.2 hb.1 (by omega)
  have h2 := crcStep_range _ h1.1 h1.2
  exact crcStep_range _ h2.1 h2.2
theorem Tab.at_ {w : World} (h : Tab w) (x : Int) (h1 : 0 ≤ x) : w.cell? ⟨0, (x % 16).toNat, none⟩ = some (.int .u32 (rd halves (x % 16))) := by
  have := h (x % 16).toNat (by omega)
  rw [show (((x % 16).toNat : Nat) : Int) = x % 16 by omega] at this
  exact this

set_option maxHeartbeats 4000000 in
theorem in_calls (c b : Int) (w : World) (h : Tab w) (hc : 0 ≤ c ∧ c < 4294967296) (hb : 0 ≤ b ∧ b ≤ 255) :
    Calls Tryd.prog 91 #[.int .u32 c, .int .u8 b] w fun e w' => e = .returned (.int .u32 (crcIn c b)) ∧ w = w' := by
  have hin : Aside0 (crcIn c b = crcStep (crcStep (bits BinOp.xor IntKind.u32 c b))) := ⟨rfl⟩
  have r0 := xor_range c b hc.1 hc.2 hb.1 (by omega)
  obtain ⟨x, hx⟩ : ∃ x, bits BinOp.xor IntKind.u32 c b = x := ⟨_, rfl⟩
  rw [hx] at r0 hin
  have r1 := crcStep_range x r0.1 r0.2
  have a0 := and15 x r0.1 r0.2
  have t0 := h.at_ x r0.1
  have s0 : bits BinOp.xor IntKind.u32 (x / 16) (rd halves (x % 16)) = crcStep x := rfl
  obtain ⟨y, hy⟩ : ∃ y, crcStep x = y := ⟨_, rfl⟩
  rw [hy] at r1 hin s0
  have a1 := and15 y r1.1 r1.2
  have t1 := h.at_ y r1.1
  have s1 : bits BinOp.xor IntKind.u32 (y / 16) (rd halves (y % 16)) = crcStep y := rfl
  obtain ⟨z, hz⟩ : ∃ z, crcStep y = z := ⟨_, rfl⟩
  rw [hz] at hin s1
  obtain ⟨p, hp⟩ : ∃ p, rd halves (x % 16) = p := ⟨_, rfl⟩
  rw [hp] at t0 s0
  obtain ⟨q, hq⟩ : ∃ q, rd halves (y % 16) = q := ⟨_, rfl⟩
  rw [hq] at t1 s1
  obtain ⟨b0, b1⟩ := hb
  obtain ⟨c0, c1⟩ := hc
  obtain ⟨x0, x1⟩ := r0
  obtain ⟨y0, y1⟩ := r1
  clear hy hz hp hq h
  go_enter Tryd.func91, Tryd.ntmps91
  go_wp2_with fail
  go_ret
  exact ⟨by rw [hin.out]; rfl, rfl⟩

theorem unxor (z : Int) (h0 : 0 ≤ z) (h1 : z < 4294967296) : bits BinOp.xor IntKind.u32 IntKind.u32.max z = 4294967295 - z := by
  rw [show IntKind.u32.max = 4294967295 by decide, u32_xor 4294967295 z (by decide) (by decide) h0 h1]
  obtain ⟨n, rfl⟩ : ∃ n : Nat, z = n := ⟨z.toNat, by omega⟩
  rw [Int.toNat_natCast]
  have h : (4294967295 : Nat) ^^^ n = 4294967295 - n := by
    have e1 := BitVec.allOnes_xor (x := BitVec.ofNat 32 n)
    have e2 := congrArg BitVec.toNat e1
    rw [BitVec.toNat_xor, BitVec.toNat_not, BitVec.toNat_allOnes, BitVec.toNat_ofNat, Nat.mod_eq_of_lt (by omega)] at e2
    exact e2
  show (((4294967295 : Nat) ^^^ n : Nat) : Int) = _
  rw [h]; omega
def crcAll (c : Int) (l : List Int) : Int := l.foldl crcIn c
theorem crcAll_range : ∀ (l : List Int) (c : Int), (0 ≤ c ∧ c < 4294967296) → (∀ x ∈ l, 0 ≤ x ∧ x ≤ 255) → 0 ≤ crcAll c l ∧ crcAll c l < 4294967296
  | [], c, hc, _ => hc
  | b :: l, c, hc, h => crcAll_range l _ (crcIn_range c b hc (h b (by simp))) (fun x hx => h x (by simp [hx]))
theorem crcAll_take (l : List Int) (c : Int) (j : Nat) (hj : j < l.length) : crcAll c (l.take (j + 1)) = crcIn (crcAll c (l.take j)) (rd l j) := by
  unfold crcAll
  rw [List.take_add_one, List.getElem?_eq_getElem hj, List.foldl_append]
  unfold rd; rw [Int.toNat_natCast, List.getD_eq_getElem?_getD, List.getElem?_eq_getElem hj]; rfl
def crcMore (c : Int) (l : List Int) : Int := 4294967295 - crcAll (4294967295 - c) l
def crc (l : List Int) : Int := crcMore 0 l
theorem crc_range (l : List Int) (h : ∀ x ∈ l, 0 ≤ x ∧ x ≤ 255) : 0 ≤ crc l ∧ crc l < 4294967296 := by
  have := crcAll_range l (4294967295 - 0) (by omega) h
  unfold crc crcMore
  omega

set_option maxHeartbeats 4000000 in
set_option maxRecDepth 100000 in
theorem More_calls (chk : Int) (A : Option Addr) (n c : Nat) (l : List Int) (w : World) (hT : Tab w) (h : (Kd.int .u8).C w A n l) (hc : 0 ≤ chk ∧ chk < 4294967296) (hb : ∀ x ∈ l, 0 ≤ x ∧ x ≤ 255) :
    Calls Tryd.prog 78 #[.int .u32 chk, .slice A n c] w fun e w' => e = .returned (.int .u32 (crcMore chk l)) ∧ w = w' := by
  have H := Aside0.mk h
  have HT := Aside0.mk hT
  have HB := Aside0.mk hb
  have hn : l.length = n := h.1
  have hn2 := h.2.1
  obtain ⟨hc0, hc1⟩ := hc
  clear h hT hb
  go_enter Tryd.func78, Tryd.ntmps78
  go_wp2_with fail
  refine Gl.scope_jumps 0 (fun a' w' => ∃ (z : Int) (j : Nat) (u7 u8 u9 u10 u11 u12 u13 u14 u15 u16 u17 u18 u19 u20 u21 u22 : Value), a' = { tmps := #[.int .u32 chk, .slice A n c, undef, undef, .int .u32 0, .int .u32 z, .int .i64 j, u7, u8, u9, u10, u11, u12, u13, u14, u15, u16, u17, u18, u19, u20, u21, u22], defers := [] } ∧ j ≤ n ∧ 0 ≤ z ∧ z < 4294967296 ∧ Aside0 (z = crcAll (4294967295 - chk) (l.take j)) ∧ w = w') (fun a' _ => n - (intOf (a'.tmps.getD 6 undef)).toNat) rfl ?_ ?_
  · rintro a' w' ⟨z, j, u7, u8, u9, u10, u11, u12, u13, u14, u15, u16, u17, u18, u19, u20, u21, u22, rfl, hj, hz0, hz1, hz, rfl⟩
    by_cases hjn : j = n
    · subst hjn
      have hx := unxor z hz0 hz1
      go_wp2_with fail
      go_ret
      refine ⟨?_, rfl⟩
      rw [List.take_of_length_le (by omega)] at hz
      unfold crcMore
      rw [← hz.out]; rfl
    · have hjn' : (((j : Nat) : Int) == ((n : Nat) : Int)) = false := by simp; omega
      have p1 : 0 ≤ (j : Int) := by omega
      have q1 : (j : Int) < (n : Int) := by omega
      obtain ⟨ad, rfl, x1⟩ := Kd.at_int H.out j p1 q1
      rw [Int.toNat_natCast] at x1
      have hb2 : 0 ≤ rd l j ∧ rd l j ≤ 255 := HB.out _ (by unfold rd; rw [Int.toNat_natCast, List.getD_eq_getElem?_getD, List.getElem?_eq_getElem (by omega)]; exact List.getElem_mem _)
      have hr := crcIn_range z (rd l j) ⟨hz0, hz1⟩ hb2
      have hst := Aside0.mk (crcAll_take l (4294967295 - chk) j (by omega))
      obtain ⟨b, hbe⟩ : ∃ b, rd l j = b := ⟨_, rfl⟩
      rw [hbe] at x1 hb2 hr hst
      replace hbe := Aside0.mk hbe; replace hr := Aside0.mk hr; replace hb2 := Aside0.mk hb2
      go_wp2_with fail
      refine (in_calls z b w HT.out ⟨hz0, hz1⟩ hb2.out).mono ?_
      rintro e w' ⟨rfl, rfl⟩
      go_wp2_with fail
      rw [show (j : Int) + 1 = ((j + 1 : Nat) : Int) by omega]
      go_step3
      refine ⟨rfl, ⟨crcIn z b, j + 1, _, _, _, _, _, _, _, _, _, _, _, _, _, _, _, _, rfl, by omega, hr.out.1, hr.out.2, ⟨by rw [hst.out, hz.out]⟩, rfl⟩, ?_⟩
      show n - ((j + 1 : Nat) : Int).toNat < n - ((j : Nat) : Int).toNat
      omega
  · intro pass
    have hx := unxor chk hc0 hc1
    go_wp2_with fail
    go_step3
    rename_i hK0
    refine hK0 _ _ (pass _ _ ⟨4294967295 - chk, 0, _, _, _, _, _, _, _, _, _, _, _, _, _, _, _, _, rfl, Nat.zero_le _, by omega, by omega, ⟨rfl⟩, rfl⟩)

set_option maxHeartbeats 4000000 in
theorem Of_calls (A : Option Addr) (n c : Nat) (l : List Int) (w : World) (hT : Tab w) (h : (Kd.int .u8).C w A n l) (hb : ∀ x ∈ l, 0 ≤ x ∧ x ≤ 255) :
    Calls Tryd.prog 70 #[.slice A n c] w fun e w' => e = .returned (.int .u32 (crc l)) ∧ w = w' := by
  have H := Aside0.mk h
  have HT := Aside0.mk hT
  have HB := Aside0.mk hb
  clear h hT hb
  go_enter Tryd.func70, Tryd.ntmps70
  go_wp2_with fail
  refine (More_calls 0 A n c l w HT.out H.out (by decide) HB.out).mono ?_
  rintro e w' ⟨rfl, rfl⟩
  go_wp2_with fail
  go_ret
  exact ⟨rfl, rfl⟩
end Go.Proofs.YtiibfboendnifaaDoor.Sl
