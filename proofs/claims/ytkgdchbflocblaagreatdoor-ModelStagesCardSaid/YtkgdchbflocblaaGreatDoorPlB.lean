/- Plain laws of the length of an escaped text. No program in sight. Conditions: none. -/
import Derived.Test.YtkgdchbflocblaaGreatDoorPlA
namespace Go.Sof

def keyL : Bytes := [13, 10, 9, 39, 34, 62, 60, 38]
def keyAt (i : Nat) : UInt8 := keyL.getD i 0
def isSp (c : UInt8) : Bool := keyL.contains c
def xlen (c : UInt8) : Nat := (escB c).length

theorem esc_fin : ∀ x : Fin 256, (isSp (UInt8.ofNat x.val) = false → escB (UInt8.ofNat x.val) = [UInt8.ofNat x.val]) ∧ (isSp (UInt8.ofNat x.val) = true → 4 ≤ xlen (UInt8.ofNat x.val) ∧ xlen (UInt8.ofNat x.val) ≤ 6) := by decide +kernel
theorem esc_plain (c : UInt8) (h : isSp c = false) : escB c = [c] := by
  have := (esc_fin ⟨c.toNat, c.toNat_lt⟩).1; simp only [UInt8.ofNat_toNat] at this; exact this h
theorem esc_sp (c : UInt8) (h : isSp c = true) : 4 ≤ xlen c ∧ xlen c ≤ 6 := by
  have := (esc_fin ⟨c.toNat, c.toNat_lt⟩).2; simp only [UInt8.ofNat_toNat] at this; exact this h
theorem xlen_plain (c : UInt8) (h : isSp c = false) : xlen c = 1 := by unfold xlen; rw [esc_plain c h]; rfl

theorem key_sp (i : Nat) (h : i < 8) : isSp (keyAt i) = true := by
  have : ∀ j : Fin 8, isSp (keyAt j.val) = true := by decide +kernel
  exact this ⟨i, h⟩

def gr (l : Bytes) : Nat → Nat
  | 0 => 0
  | k + 1 => gr l k + l.count (keyAt k) * (xlen (keyAt k) - 1)
def anyK (l : Bytes) : Nat → Bool
  | 0 => false
  | k + 1 => anyK l k || (l.count (keyAt k) != 0)

theorem gr_nil (k : Nat) : gr [] k = 0 := by
  induction k with
  | zero => rfl
  | succ k ih => simp [gr, ih]
def g1 (c : UInt8) : Nat → Nat
  | 0 => 0
  | k + 1 => g1 c k + if c = keyAt k then xlen (keyAt k) - 1 else 0
theorem gr_cons (c : UInt8) (l : Bytes) (k : Nat) : gr (c :: l) k = gr l k + g1 c k := by
  induction k with
  | zero => rfl
  | succ k ih =>
    simp only [gr, g1, ih, List.count_cons]
    by_cases h : c = keyAt k
    · rw [if_pos h, h]; simp [Nat.add_mul]; omega
    · have : (c == keyAt k) = false := by simpa using h
      rw [if_neg h, this]; simp; omega
theorem g1_fin : ∀ x : Fin 256, 1 + g1 (UInt8.ofNat x.val) 8 = xlen (UInt8.ofNat x.val) := by decide +kernel
theorem g1_xlen (c : UInt8) : 1 + g1 c 8 = xlen c := by
  have := g1_fin ⟨c.toNat, c.toNat_lt⟩; simp only [UInt8.ofNat_toNat] at this; exact this

theorem escL_cons (c : UInt8) (l : Bytes) : escL (c :: l) = escB c ++ escL l := by simp [escL]
theorem escL_len (l : Bytes) : (escL l).length = l.length + gr l 8 := by
  induction l with
  | nil => rw [gr_nil]; rfl
  | cons c t ih =>
    rw [escL_cons, List.length_append, ih, gr_cons, List.length_cons]
    have := g1_xlen c
    unfold xlen at this
    omega

theorem count_zero_iff (l : Bytes) (c : UInt8) : (l.count c != 0) = l.any (· == c) := by
  induction l with
  | nil => rfl
  | cons b t ih =>
    rw [List.any_cons, ← ih, List.count_cons]
    by_cases h : (b == c) = true
    · simp [h]
    · have : (b == c) = false := by simpa using h
      simp [this]
theorem anyK_eq (l : Bytes) (k : Nat) : anyK l k = l.any fun c => (List.range k).any fun i => c == keyAt i := by
  induction k with
  | zero => simp [anyK]
  | succ k ih =>
    rw [anyK, ih, count_zero_iff, List.range_succ]
    rw [Bool.eq_iff_iff]
    simp only [Bool.or_eq_true, List.any_eq_true, List.any_append, List.any_cons, List.any_nil, Bool.or_false]
    constructor
    · rintro (⟨c, hc, h⟩ | ⟨c, hc, h⟩)
      · exact ⟨c, hc, Or.inl h⟩
      · exact ⟨c, hc, Or.inr h⟩
    · rintro ⟨c, hc, h | h⟩
      · exact Or.inl ⟨c, hc, h⟩
      · exact Or.inr ⟨c, hc, h⟩
theorem sp_fin : ∀ x : Fin 256, ((List.range 8).any fun i => UInt8.ofNat x.val == keyAt i) = isSp (UInt8.ofNat x.val) := by decide +kernel
theorem anyK_sp (l : Bytes) : anyK l 8 = l.any isSp := by
  have e : (fun c => (List.range 8).any fun i => c == keyAt i) = isSp := by
    funext c
    have := sp_fin ⟨c.toNat, c.toNat_lt⟩; simp only [UInt8.ofNat_toNat] at this; exact this
  rw [anyK_eq, e]
theorem escL_none (l : Bytes) (h : l.any isSp = false) : escL l = l := by
  induction l with
  | nil => rfl
  | cons c t ih =>
    rw [List.any_cons, Bool.or_eq_false_iff] at h
    rw [escL_cons, esc_plain c h.1, ih h.2]; rfl

theorem escL_take_succ (l : Bytes) (k : Nat) (h : k < l.length) : escL (l.take (k + 1)) = escL (l.take k) ++ escB (l.getD k 0) := by
  rw [List.take_succ_eq_append_getElem h, escL_append, List.getD_eq_getElem?_getD, List.getElem?_eq_getElem h]
  simp [escL]
theorem any_take_succ (l : Bytes) (k : Nat) (h : k < l.length) : (l.take (k + 1)).any isSp = ((l.take k).any isSp || isSp (l.getD k 0)) := by
  rw [List.take_succ_eq_append_getElem h, List.any_append, List.getD_eq_getElem?_getD, List.getElem?_eq_getElem h]
  simp
theorem escL_ge (l : Bytes) : l.length ≤ (escL l).length := by rw [escL_len]; omega
theorem xlen_le (c : UInt8) : 1 ≤ xlen c ∧ xlen c ≤ 6 := by
  cases h : isSp c with
  | true => have := esc_sp c h; omega
  | false => rw [xlen_plain c h]; omega
theorem escL_le (l : Bytes) : (escL l).length ≤ 6 * l.length := by
  induction l with
  | nil => simp [escL]
  | cons c t ih =>
    rw [escL_cons, List.length_append, List.length_cons]
    have := (xlen_le c).2
    unfold xlen at this
    omega
theorem escL_take_le (l : Bytes) (k : Nat) : (escL (l.take k)).length + (l.length - k) ≤ (escL l).length := by
  have h : escL l = escL (l.take k) ++ escL (l.drop k) := by rw [← escL_append, List.take_append_drop]
  rw [h, List.length_append]
  have := escL_ge (l.drop k)
  rw [List.length_drop] at this
  omega
theorem escL_take_le2 (l : Bytes) (k : Nat) (h : k < l.length) : (escL (l.take k)).length + xlen (l.getD k 0) ≤ (escL l).length := by
  have h1 := escL_take_le l (k + 1)
  rw [escL_take_succ l k h, List.length_append] at h1
  unfold xlen; omega
theorem gr_le (l : Bytes) (k : Nat) (h : k ≤ 8) : gr l k ≤ gr l 8 := by
  have mono : ∀ j, gr l k ≤ gr l (k + j) := by
    intro j
    induction j with
    | zero => exact Nat.le_refl _
    | succ j ih => exact Nat.le_trans ih (by show _ ≤ gr l (k + j) + _; omega)
  have := mono (8 - k)
  rwa [show k + (8 - k) = 8 from by omega] at this
end Go.Sof
