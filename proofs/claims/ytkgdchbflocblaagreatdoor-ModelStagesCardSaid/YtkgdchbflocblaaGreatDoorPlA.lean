/- Plain functions on lists of bytes: what package chars computes, and the laws of it; no program in sight. Conditions: none. -/
import Derived.Lib.DecodeN
import GoSem.Core.Utf8
namespace Go.Sof
open Go.Lib
abbrev Bytes := List UInt8

/-- may a sign stand in XML? -/
def signB (r : Nat) : Bool := r == 9 || r == 10 || r == 13 || (decide (32 ≤ r) && decide (r ≤ 0xD7FF)) || (decide (0xE000 ≤ r) && decide (r ≤ 0xFFFD)) || (decide (0x10000 ≤ r) && decide (r ≤ 0x10FFFF))

/-- the byte at a place, 0 beyond the end. -/
def byN (l : Bytes) (i : Nat) : Nat := (l.getD i 0).toNat
theorem byN_lt (l : Bytes) (i : Nat) : byN l i < 256 := (l.getD i 0).toNat_lt

/-- the model's decode at the head of a list. -/
def dec (l : Bytes) : Nat × Nat := decodeN l.length (byN l 0) (byN l 1) (byN l 2) (byN l 3)

/-- the width of the good sign that a list begins with; 0: none. -/
def wid (l : Bytes) : Nat := if ((dec l).1 = 65533 ∧ (dec l).2 = 1) ∨ signB (dec l).1 = false then 0 else (dec l).2

theorem dec_pos (l : Bytes) : 1 ≤ (dec l).2 ∧ (dec l).2 ≤ 4 := by
  unfold dec decodeN; repeat' split
  all_goals simp

theorem dec_le (l : Bytes) (h : l ≠ []) : (dec l).2 ≤ l.length := by
  have : 1 ≤ l.length := by cases l <;> simp_all
  unfold dec decodeN; repeat' split
  all_goals simp
  all_goals omega

theorem wid_le (l : Bytes) (h : l ≠ []) : wid l ≤ l.length := by
  unfold wid; split
  · omega
  · exact dec_le l h
theorem wid_le4 (l : Bytes) : wid l ≤ 4 := by
  unfold wid; split
  · omega
  · exact (dec_pos l).2

/-- as the reference has it. -/
def firstL (l : Bytes) : Nat × Nat :=
  let b := byN l 0
  if b < 0x80 then (if signB b then (b, 1) else (0, 0))
  else if 0xC0 ≤ b ∧ b < 0xE0 then
    (if l.length < 2 then (0, 0) else if byN l 1 < 0x80 ∨ 0xC0 ≤ byN l 1 then (0, 0)
     else let r := (b - 0xC0) * 64 + byN l 1 - 0x80
      if r < 0x80 ∨ signB r = false then (0, 0) else (r, 2))
  else if 0xE0 ≤ b ∧ b < 0xF0 then
    (if l.length < 3 then (0, 0) else if byN l 1 < 0x80 ∨ 0xC0 ≤ byN l 1 then (0, 0) else if byN l 2 < 0x80 ∨ 0xC0 ≤ byN l 2 then (0, 0)
     else let r := ((b - 0xE0) * 64 + byN l 1 - 0x80) * 64 + byN l 2 - 0x80
      if r < 0x800 ∨ signB r = false then (0, 0) else (r, 3))
  else if 0xF0 ≤ b ∧ b < 0xF8 then
    (if l.length < 4 then (0, 0) else if byN l 1 < 0x80 ∨ 0xC0 ≤ byN l 1 then (0, 0) else if byN l 2 < 0x80 ∨ 0xC0 ≤ byN l 2 then (0, 0) else if byN l 3 < 0x80 ∨ 0xC0 ≤ byN l 3 then (0, 0)
     else let r := (((b - 0xF0) * 64 + byN l 1 - 0x80) * 64 + byN l 2 - 0x80) * 64 + byN l 3 - 0x80
      if r < 0x10000 ∨ signB r = false then (0, 0) else (r, 4))
  else (0, 0)

theorem signB_eq (r : Nat) : signB r = decide (r = 9 ∨ r = 10 ∨ r = 13 ∨ (32 ≤ r ∧ r ≤ 0xD7FF) ∨ (0xE000 ≤ r ∧ r ≤ 0xFFFD) ∨ (0x10000 ≤ r ∧ r ≤ 0x10FFFF)) := by
  rw [Bool.eq_iff_iff]; simp [signB]; omega

set_option maxRecDepth 100000 in
set_option maxHeartbeats 4000000 in
/-- the reference's look and the model's decode meet. -/
theorem firstL_wid (l : Bytes) (h : l ≠ []) : (firstL l).2 = wid l := by
  have hl : 1 ≤ l.length := by cases l <;> simp_all
  have h0 := byN_lt l 0; have h1 := byN_lt l 1; have h2 := byN_lt l 2; have h3 := byN_lt l 3
  unfold firstL wid dec decodeN
  generalize byN l 0 = b0 at *; generalize byN l 1 = b1 at *; generalize byN l 2 = b2 at *; generalize byN l 3 = b3 at *
  generalize l.length = n at *
  simp only [signB_eq, decide_eq_false_iff_not, decide_eq_true_eq]
  by_cases c0 : b0 < 128
  · simp only [c0, if_true]
    by_cases c : (b0 = 9 ∨ b0 = 10 ∨ b0 = 13 ∨ (32 ≤ b0 ∧ b0 ≤ 0xD7FF) ∨ (0xE000 ≤ b0 ∧ b0 ≤ 0xFFFD) ∨ (0x10000 ≤ b0 ∧ b0 ≤ 0x10FFFF))
    · rw [if_pos c, if_neg (by omega)]
    · rw [if_neg c, if_pos (by omega)]
  · simp only [c0, if_false]
    by_cases c2 : 192 ≤ b0 ∧ b0 < 224
    · rw [if_pos c2]
      by_cases k : n < 2 ∨ b1 < 128 ∨ 192 ≤ b1
      · have e1 : ¬ (b0 / 32 = 6 ∧ 1 < n ∧ b1 / 64 = 2) := by omega
        have e2 : ¬ (b0 / 16 = 14 ∧ (1 < n ∧ b1 / 64 = 2) ∧ 2 < n ∧ b2 / 64 = 2) := by omega
        have e3 : ¬ (b0 / 8 = 30 ∧ (1 < n ∧ b1 / 64 = 2) ∧ (2 < n ∧ b2 / 64 = 2) ∧ 3 < n ∧ b3 / 64 = 2) := by omega
        rw [if_neg e1, if_neg e2, if_neg e3]
        simp only [true_and, true_or, if_true]
        repeat' split
        all_goals first | rfl | (exfalso; omega)
      · have e1 : b0 / 32 = 6 ∧ 1 < n ∧ b1 / 64 = 2 := by omega
        rw [if_pos e1]
        have ev : (b0 - 192) * 64 + b1 - 128 = b0 % 32 * 64 + b1 % 64 := by omega
        rw [ev]
        generalize b0 % 32 * 64 + b1 % 64 = r at *
        repeat' split
        all_goals first | rfl | (exfalso; omega) | (simp only at *; omega)
    · rw [if_neg c2]
      by_cases c3 : 224 ≤ b0 ∧ b0 < 240
      · rw [if_pos c3]
        have e1 : ¬ (b0 / 32 = 6 ∧ 1 < n ∧ b1 / 64 = 2) := by omega
        rw [if_neg e1]
        by_cases k : n < 3 ∨ b1 < 128 ∨ 192 ≤ b1 ∨ b2 < 128 ∨ 192 ≤ b2
        · have e2 : ¬ (b0 / 16 = 14 ∧ (1 < n ∧ b1 / 64 = 2) ∧ 2 < n ∧ b2 / 64 = 2) := by omega
          have e3 : ¬ (b0 / 8 = 30 ∧ (1 < n ∧ b1 / 64 = 2) ∧ (2 < n ∧ b2 / 64 = 2) ∧ 3 < n ∧ b3 / 64 = 2) := by omega
          rw [if_neg e2, if_neg e3]
          simp only [true_and, true_or, if_true]
          repeat' split
          all_goals first | rfl | (exfalso; omega)
        · have e2 : b0 / 16 = 14 ∧ (1 < n ∧ b1 / 64 = 2) ∧ 2 < n ∧ b2 / 64 = 2 := by omega
          rw [if_pos e2]
          have ev : ((b0 - 224) * 64 + b1 - 128) * 64 + b2 - 128 = b0 % 16 * 4096 + b1 % 64 * 64 + b2 % 64 := by omega
          rw [ev]
          generalize b0 % 16 * 4096 + b1 % 64 * 64 + b2 % 64 = r at *
          repeat' split
          all_goals first | rfl | (exfalso; omega) | (simp only at *; omega)
      · rw [if_neg c3]
        have e1 : ¬ (b0 / 32 = 6 ∧ 1 < n ∧ b1 / 64 = 2) := by omega
        have e2 : ¬ (b0 / 16 = 14 ∧ (1 < n ∧ b1 / 64 = 2) ∧ 2 < n ∧ b2 / 64 = 2) := by omega
        rw [if_neg e1, if_neg e2]
        by_cases c4 : 240 ≤ b0 ∧ b0 < 248
        · rw [if_pos c4]
          by_cases k : n < 4 ∨ b1 < 128 ∨ 192 ≤ b1 ∨ b2 < 128 ∨ 192 ≤ b2 ∨ b3 < 128 ∨ 192 ≤ b3
          · have e3 : ¬ (b0 / 8 = 30 ∧ (1 < n ∧ b1 / 64 = 2) ∧ (2 < n ∧ b2 / 64 = 2) ∧ 3 < n ∧ b3 / 64 = 2) := by omega
            rw [if_neg e3]
            simp only [true_and, true_or, if_true]
            repeat' split
            all_goals first | rfl | (exfalso; omega)
          · have e3 : b0 / 8 = 30 ∧ (1 < n ∧ b1 / 64 = 2) ∧ (2 < n ∧ b2 / 64 = 2) ∧ 3 < n ∧ b3 / 64 = 2 := by omega
            rw [if_pos e3]
            have ev : (((b0 - 240) * 64 + b1 - 128) * 64 + b2 - 128) * 64 + b3 - 128 = b0 % 8 * 262144 + b1 % 64 * 4096 + b2 % 64 * 64 + b3 % 64 := by omega
            rw [ev]
            generalize b0 % 8 * 262144 + b1 % 64 * 4096 + b2 % 64 * 64 + b3 % 64 = r at *
            repeat' split
            all_goals first | rfl | (exfalso; omega) | (simp only at *; omega)
        · have e3 : ¬ (b0 / 8 = 30 ∧ (1 < n ∧ b1 / 64 = 2) ∧ (2 < n ∧ b2 / 64 = 2) ∧ 3 < n ∧ b3 / 64 = 2) := by omega
          rw [if_neg c4, if_neg e3]
          simp
end Go.Sof
namespace Go.Sof
open Go.Lib

def letterB (b : Nat) : Bool := (decide (97 ≤ b) && decide (b ≤ 122)) || (decide (65 ≤ b) && decide (b ≤ 90)) || b == 95
def nameCh (b : UInt8) : Bool := letterB b.toNat || (decide (48 ≤ b.toNat) && decide (b.toNat ≤ 57))
def nameB (l : Bytes) : Bool := !l.isEmpty && decide (l.length ≤ 32) && letterB (byN l 0) && l.all nameCh

def badF : Nat → Bytes → Option Nat
  | 0, _ => none
  | f + 1, l => if l = [] then none else if wid l = 0 then some 0 else (badF f (l.drop (wid l))).map (· + wid l)
def bad (l : Bytes) : Option Nat := badF l.length l
def badI (l : Bytes) : Int := match bad l with | none => -1 | some k => (k : Int)

theorem badF_enough : ∀ (f : Nat) (l : Bytes), l.length ≤ f → badF f l = bad l := by
  intro f
  induction f using Nat.strongRecOn with
  | _ f ih =>
    intro l hl
    unfold bad
    cases f with
    | zero => have : l = [] := List.eq_nil_of_length_eq_zero (by omega); subst this; rfl
    | succ f =>
      cases l with
      | nil => rfl
      | cons x t =>
        simp only [List.length_cons, badF]
        split
        · rfl
        split
        · rfl
        · rename_i hw
          have hlen : ((x :: t).drop (wid (x :: t))).length ≤ t.length := by
            simp only [List.length_drop, List.length_cons]; omega
          have hlf : t.length ≤ f := by simpa using hl
          by_cases hft : t.length = f
          · rw [hft]
          · rw [ih f (by omega) _ (by omega), ih t.length (by omega) _ hlen]

theorem bad_nil : bad [] = none := rfl
theorem bad_step (l : Bytes) (h : l ≠ []) : bad l = if wid l = 0 then some 0 else (bad (l.drop (wid l))).map (· + wid l) := by
  cases l with
  | nil => exact absurd rfl h
  | cons x t =>
    have e : bad (x :: t) = badF (t.length + 1) (x :: t) := rfl
    rw [e]; unfold badF
    rw [if_neg (by simp)]
    split
    · rfl
    · rw [badF_enough]
      simp only [List.length_drop, List.length_cons]; omega

theorem bad_lt : ∀ (n : Nat) (l : Bytes), l.length ≤ n → ∀ k, bad l = some k → k < l.length := by
  intro n
  induction n with
  | zero => intro l hl k hk; have : l = [] := List.eq_nil_of_length_eq_zero (by omega); subst this; cases hk
  | succ n ih =>
    intro l hl k hk
    by_cases h : l = []
    · subst h; cases hk
    · rw [bad_step l h] at hk
      have hp : 0 < l.length := by cases l <;> simp_all
      split at hk
      · cases hk; exact hp
      · cases hb : bad (l.drop (wid l)) with
        | none => rw [hb] at hk; cases hk
        | some j =>
          rw [hb] at hk
          have := ih (l.drop (wid l)) (by simp; omega) j hb
          simp at hk this
          omega

/-! ### stability of the first sign -/
theorem byN_append (l m : Bytes) (i : Nat) (h : i < l.length) : byN (l ++ m) i = byN l i := by
  unfold byN
  simp only [List.getD_eq_getElem?_getD, List.getElem?_append_left h]

theorem byN_take (l : Bytes) (k i : Nat) (h : i < k) : byN (l.take k) i = byN l i := by
  unfold byN
  simp only [List.getD_eq_getElem?_getD, List.getElem?_take_of_lt h]

set_option maxRecDepth 100000 in
theorem decodeN_agree (n k b0 b1 b2 b3 c1 c2 c3 w : Nat) (hw : (decodeN n b0 b1 b2 b3).2 = w) (hne : decodeN n b0 b1 b2 b3 ≠ (65533, 1))
    (hk : w ≤ k) (e1 : 1 < w → c1 = b1) (e2 : 2 < w → c2 = b2) (e3 : 3 < w → c3 = b3) :
    decodeN k b0 c1 c2 c3 = decodeN n b0 b1 b2 b3 := by
  unfold decodeN at hw hne ⊢
  by_cases c0 : b0 < 128
  · simp [c0]
  · rw [if_neg c0] at hw hne ⊢
    rw [if_neg c0]
    by_cases d1 : b0 / 32 = 6 ∧ 1 < n ∧ b1 / 64 = 2
    · rw [if_pos d1] at hw hne ⊢
      by_cases t : b0 % 32 * 64 + b1 % 64 ≥ 128
      · rw [if_pos t] at hw ⊢
        simp only at hw; subst hw
        obtain rfl := e1 (by omega)
        rw [if_pos (by omega), if_pos t]
      · rw [if_neg t] at hne; exact absurd rfl hne
    · rw [if_neg d1] at hw hne ⊢
      by_cases d2 : b0 / 16 = 14 ∧ (1 < n ∧ b1 / 64 = 2) ∧ 2 < n ∧ b2 / 64 = 2
      · rw [if_pos d2] at hw hne ⊢
        by_cases t : b0 % 16 * 4096 + b1 % 64 * 64 + b2 % 64 ≥ 2048 ∧ (b0 % 16 * 4096 + b1 % 64 * 64 + b2 % 64 < 55296 ∨ 57344 ≤ b0 % 16 * 4096 + b1 % 64 * 64 + b2 % 64 ∧ b0 % 16 * 4096 + b1 % 64 * 64 + b2 % 64 ≤ 1114111)
        · rw [if_pos t] at hw ⊢
          simp only at hw; subst hw
          obtain rfl := e1 (by omega)
          obtain rfl := e2 (by omega)
          rw [if_neg (by omega), if_pos (by omega), if_pos t]
        · rw [if_neg t] at hne; exact absurd rfl hne
      · rw [if_neg d2] at hw hne ⊢
        by_cases d3 : b0 / 8 = 30 ∧ (1 < n ∧ b1 / 64 = 2) ∧ (2 < n ∧ b2 / 64 = 2) ∧ 3 < n ∧ b3 / 64 = 2
        · rw [if_pos d3] at hw hne ⊢
          by_cases t : b0 % 8 * 262144 + b1 % 64 * 4096 + b2 % 64 * 64 + b3 % 64 ≥ 65536 ∧ (b0 % 8 * 262144 + b1 % 64 * 4096 + b2 % 64 * 64 + b3 % 64 < 55296 ∨ 57344 ≤ b0 % 8 * 262144 + b1 % 64 * 4096 + b2 % 64 * 64 + b3 % 64 ∧ b0 % 8 * 262144 + b1 % 64 * 4096 + b2 % 64 * 64 + b3 % 64 ≤ 1114111)
          · rw [if_pos t] at hw ⊢
            simp only at hw; subst hw
            obtain rfl := e1 (by omega)
            obtain rfl := e2 (by omega)
            obtain rfl := e3 (by omega)
            rw [if_neg (by omega), if_neg (by omega), if_pos (by omega), if_pos t]
          · rw [if_neg t] at hne; exact absurd rfl hne
        · rw [if_neg d3] at hne; exact absurd rfl hne

theorem wid_ne (l : Bytes) (hw : wid l ≠ 0) : wid l = (dec l).2 ∧ dec l ≠ (65533, 1) := by
  unfold wid at hw ⊢
  split
  · rename_i h; rw [if_pos h] at hw; exact absurd rfl hw
  · rename_i h
    refine ⟨rfl, fun e => h (Or.inl ?_)⟩
    rw [e]; exact ⟨rfl, rfl⟩

/-- lists that agree on the first sign's bytes begin with the same sign. -/
theorem wid_agree (l m : Bytes) (hw : wid l ≠ 0) (hm : wid l ≤ m.length) (h : ∀ i, i < wid l → byN m i = byN l i) : wid m = wid l ∧ dec m = dec l := by
  obtain ⟨h1, h2⟩ := wid_ne l hw
  have key : dec m = dec l := by
    have h0 := h 0 (by omega)
    unfold dec at h1 h2 ⊢
    rw [h0]
    exact decodeN_agree _ _ _ _ _ _ _ _ _ (wid l) h1.symm h2 hm (h 1) (h 2) (h 3)
  refine ⟨?_, key⟩
  unfold wid; rw [key]

theorem wid_append (l m : Bytes) (h : l ≠ []) (hw : wid l ≠ 0) : wid (l ++ m) = wid l :=
  (wid_agree l (l ++ m) hw (by have := wid_le l h; simp; omega) fun i hi => byN_append l m i (by have := wid_le l h; omega)).1

theorem wid_take (l : Bytes) (h : l ≠ []) (hw : wid l ≠ 0) : wid (l.take (wid l)) = wid l :=
  (wid_agree l (l.take (wid l)) hw (by have := wid_le l h; simp; omega) fun i hi => byN_take l _ i hi).1

/-- Bad, parted between signs. -/
theorem bad_append : ∀ (n : Nat) (l m : Bytes), l.length ≤ n → bad l = none → bad (l ++ m) = (bad m).map (· + l.length) := by
  intro n
  induction n with
  | zero => intro l m hl _; have : l = [] := List.eq_nil_of_length_eq_zero (by omega); subst this; simp
  | succ n ih =>
    intro l m hl hb
    by_cases h : l = []
    · subst h; simp
    · have hp : 0 < l.length := by cases l <;> simp_all
      rw [bad_step l h] at hb
      split at hb
      · cases hb
      · rename_i hw
        have hle := wid_le l h
        have hb' : bad (l.drop (wid l)) = none := by
          cases hx : bad (l.drop (wid l)) with
          | none => rfl
          | some j => rw [hx] at hb; cases hb
        have hd : (l ++ m).drop (wid l) = l.drop (wid l) ++ m := by rw [List.drop_append_of_le_length hle]
        rw [bad_step (l ++ m) (by simp [h]), wid_append l m h hw, if_neg hw, hd, ih _ m (by simp; omega) hb']
        cases bad m with
        | none => rfl
        | some j => simp; omega

/-- parted at the first sign. -/
theorem bad_take_none (l : Bytes) (h : l ≠ []) (hw : wid l ≠ 0) : bad (l.take (wid l)) = none := by
  have hle := wid_le l h
  have hne : l.take (wid l) ≠ [] := by
    intro e
    have := congrArg List.length e
    rw [List.length_take, List.length_nil] at this; omega
  rw [bad_step _ hne, wid_take l h hw, if_neg hw]
  have : (l.take (wid l)).drop (wid l) = [] := by
    apply List.eq_nil_of_length_eq_zero; simp
  rw [this]; rfl

/-! ### Escape -/
def escB (b : UInt8) : Bytes :=
  if b = 38 then [38, 97, 109, 112, 59] else if b = 60 then [38, 108, 116, 59] else if b = 62 then [38, 103, 116, 59]
  else if b = 34 then [38, 113, 117, 111, 116, 59] else if b = 39 then [38, 97, 112, 111, 115, 59]
  else if b = 9 then [38, 35, 57, 59] else if b = 10 then [38, 35, 49, 48, 59] else if b = 13 then [38, 35, 49, 51, 59] else [b]
def escL (l : Bytes) : Bytes := l.flatMap escB
/-- Escape: the text and the error's number. -/
def escR (l : Bytes) : Bytes × Int := if bad l = none then (escL l, 0) else ([], 6)

theorem escL_append (l m : Bytes) : escL (l ++ m) = escL l ++ escL m := by simp [escL]

/-! ### Unescape -/
def hexV (b : Nat) : Nat := if 48 ≤ b ∧ b ≤ 57 then b - 48 else if 97 ≤ b ∧ b ≤ 102 then b - 97 + 10 else if 65 ≤ b ∧ b ≤ 70 then b - 65 + 10 else 99
def numV (base : Nat) (l : Bytes) : Nat := l.foldl (fun n c => n * base + hexV c.toNat) 0
def utf (r : Nat) : Bytes := (Utf8.encode (r : Int)).data.toList
def numE (base : Nat) (l : Bytes) : Option Bytes :=
  if l = [] ∨ 8 < l.length ∨ l.any (fun c => decide (base ≤ hexV c.toNat)) = true then none
  else if signB (numV base l) then some (utf (numV base l)) else none
def entity (l : Bytes) : Option Bytes :=
  if l = [97, 109, 112] then some [38] else if l = [108, 116] then some [60] else if l = [103, 116] then some [62]
  else if l = [113, 117, 111, 116] then some [34] else if l = [97, 112, 111, 115] then some [39]
  else match l with
    | 35 :: 120 :: u => numE 16 u
    | 35 :: t => numE 10 t
    | _ => none
def nameOf (l : Bytes) : Bytes := l.takeWhile (· != 59)

/-- Unescape of a rest: the text; or the place (from this rest's head) and the error's number. -/
def unF : Nat → Bytes → Except (Nat × Int) Bytes
  | 0, _ => .ok []
  | f + 1, l => match l with
    | [] => .ok []
    | b :: t =>
      if b = 60 then .error (0, 6)
      else if b = 38 then
        (if (59 : UInt8) ∈ t then
          match entity (nameOf t) with
          | none => .error (0, 7)
          | some x => (match unF f (t.drop ((nameOf t).length + 1)) with
            | .ok y => .ok (x ++ y)
            | .error (k, e) => .error (k + ((nameOf t).length + 2), e))
        else .error (0, 7))
      else if wid l = 0 then .error (0, 6)
      else (match unF f (l.drop (wid l)) with
        | .ok y => .ok (l.take (wid l) ++ y)
        | .error (k, e) => .error (k + wid l, e))
def un (l : Bytes) : Except (Nat × Int) Bytes := unF l.length l
/-- Unescape as Go returns it: text, place, error. -/
def unR (l : Bytes) : Bytes × Nat × Int := match un l with | .ok y => (y, 0, 0) | .error (k, e) => ([], k, e)

theorem unF_enough : ∀ (f : Nat) (l : Bytes), l.length ≤ f → unF f l = un l := by
  intro f
  induction f using Nat.strongRecOn with
  | _ f ih =>
    intro l hl
    unfold un
    cases f with
    | zero => have : l = [] := List.eq_nil_of_length_eq_zero (by omega); subst this; rfl
    | succ f =>
      cases l with
      | nil => rfl
      | cons b t =>
        have hlf : t.length ≤ f := by simpa using hl
        have e1 : ∀ k, 1 ≤ k → unF f ((b :: t).drop k) = unF t.length ((b :: t).drop k) := by
          intro k hk
          have hlen : ((b :: t).drop k).length ≤ t.length := by simp only [List.length_drop, List.length_cons]; omega
          by_cases hft : t.length = f
          · rw [hft]
          · rw [ih f (by omega) _ (by omega), ih t.length (by omega) _ hlen]
        have e2 : ∀ k, unF f (t.drop k) = unF t.length (t.drop k) := fun k => by
          have := e1 (k + 1) (by omega)
          simpa using this
        simp only [List.length_cons, unF]
        rw [e2]
        by_cases hw : wid (b :: t) = 0
        · simp only [if_pos hw]
        · rw [e1 _ (by omega)]

def unStep (l : Bytes) : Except (Nat × Int) Bytes := match l with
    | [] => .ok []
    | b :: t =>
      if b = 60 then .error (0, 6)
      else if b = 38 then
        (if (59 : UInt8) ∈ t then
          match entity (nameOf t) with
          | none => .error (0, 7)
          | some x => (match un (t.drop ((nameOf t).length + 1)) with
            | .ok y => .ok (x ++ y)
            | .error (k, e) => .error (k + ((nameOf t).length + 2), e))
        else .error (0, 7))
      else if wid l = 0 then .error (0, 6)
      else (match un (l.drop (wid l)) with
        | .ok y => .ok (l.take (wid l) ++ y)
        | .error (k, e) => .error (k + wid l, e))
theorem un_step (l : Bytes) : un l = unStep l := by
  cases l with
  | nil => rfl
  | cons b t =>
    have e : un (b :: t) = unF (t.length + 1) (b :: t) := rfl
    rw [e]
    simp only [unF, unStep]
    rw [unF_enough t.length (t.drop _) (by simp)]
    by_cases hw : wid (b :: t) = 0
    · simp only [if_pos hw]
    · rw [unF_enough t.length ((b :: t).drop _) (by simp only [List.length_drop, List.length_cons]; omega)]
end Go.Sof
namespace Go.Sof
open Go.Lib

theorem wid_bytes (l : Bytes) (hw : wid l ≠ 0) : (wid l = 1 ∧ signB (byN l 0) = true ∧ byN l 0 < 128) ∨ (1 < wid l ∧ ∀ i, i < wid l → 128 ≤ byN l i) := by
  have hs : signB (dec l).1 = true := by
    unfold wid at hw
    cases h : signB (dec l).1 with
    | true => rfl
    | false => rw [if_pos (Or.inr h)] at hw; exact absurd rfl hw
  obtain ⟨h1, h2⟩ := wid_ne l hw
  rw [h1]
  clear h1 hw
  revert hs h2
  unfold dec decodeN
  intro hs h2
  by_cases c0 : byN l 0 < 128
  · rw [if_pos c0] at hs ⊢
    exact Or.inl ⟨rfl, hs, c0⟩
  · right
    rw [if_neg c0] at h2 ⊢
    by_cases d1 : byN l 0 / 32 = 6 ∧ 1 < l.length ∧ byN l 1 / 64 = 2
    · rw [if_pos d1] at h2 ⊢
      split at h2
      · rename_i t; rw [if_pos t]
        refine ⟨by simp, fun i hi => ?_⟩
        simp only at hi
        match i, hi with
        | 0, _ => omega
        | 1, _ => omega
      · exact absurd rfl h2
    · rw [if_neg d1] at h2 ⊢
      by_cases d2 : byN l 0 / 16 = 14 ∧ (1 < l.length ∧ byN l 1 / 64 = 2) ∧ 2 < l.length ∧ byN l 2 / 64 = 2
      · rw [if_pos d2] at h2 ⊢
        split at h2
        · rename_i t; rw [if_pos t]
          refine ⟨by simp, fun i hi => ?_⟩
          simp only at hi
          match i, hi with
          | 0, _ => omega
          | 1, _ => omega
          | 2, _ => omega
        · exact absurd rfl h2
      · rw [if_neg d2] at h2 ⊢
        by_cases d3 : byN l 0 / 8 = 30 ∧ (1 < l.length ∧ byN l 1 / 64 = 2) ∧ (2 < l.length ∧ byN l 2 / 64 = 2) ∧ 3 < l.length ∧ byN l 3 / 64 = 2
        · rw [if_pos d3] at h2 ⊢
          split at h2
          · rename_i t; rw [if_pos t]
            refine ⟨by simp, fun i hi => ?_⟩
            simp only at hi
            match i, hi with
            | 0, _ => omega
            | 1, _ => omega
            | 2, _ => omega
            | 3, _ => omega
          · exact absurd rfl h2
        · rw [if_neg d3] at h2; exact absurd rfl h2

theorem byN_cons_zero (b : UInt8) (t : Bytes) : byN (b :: t) 0 = b.toNat := rfl

/-- induction over the signs of a good text. -/
theorem good_ind {P : Bytes → Prop} (h0 : P []) (h1 : ∀ (b : UInt8) (t : Bytes), signB b.toNat = true → b.toNat < 128 → bad t = none → P t → P (b :: t))
    (h2 : ∀ (u t : Bytes), u ≠ [] → (∀ b ∈ u, 128 ≤ b.toNat) → wid u = u.length → bad t = none → P t → P (u ++ t)) : ∀ l, bad l = none → P l := by
  have key : ∀ (n : Nat) (l : Bytes), l.length ≤ n → bad l = none → P l := by
    intro n
    induction n with
    | zero => intro l hl _; have : l = [] := List.eq_nil_of_length_eq_zero (by omega); subst this; exact h0
    | succ n ih =>
      intro l hl hb
      by_cases h : l = []
      · subst h; exact h0
      · have hp : 0 < l.length := by cases l <;> simp_all
        rw [bad_step l h] at hb
        split at hb
        · cases hb
        · rename_i hw
          have hle := wid_le l h
          have hb' : bad (l.drop (wid l)) = none := by
            cases hx : bad (l.drop (wid l)) with
            | none => rfl
            | some j => rw [hx] at hb; cases hb
          have hr := ih (l.drop (wid l)) (by simp; omega) hb'
          rcases wid_bytes l hw with ⟨hw1, hs, hlt⟩ | ⟨hw1, hall⟩
          · rw [hw1] at hb' hr
            cases l with
            | nil => exact absurd rfl h
            | cons b t => exact h1 b t hs hlt hb' hr
          · have e := List.take_append_drop (wid l) l
            have hlen : (l.take (wid l)).length = wid l := by rw [List.length_take]; omega
            rw [← e]
            refine h2 _ _ ?_ ?_ ?_ hb' hr
            · intro e'; rw [e'] at hlen; simp at hlen; omega
            · intro b hb2
              obtain ⟨i, hi, rfl⟩ := List.getElem_of_mem hb2
              rw [hlen] at hi
              have := hall i hi
              rw [← byN_take l (wid l) i hi] at this
              unfold byN at this
              rw [List.getD_eq_getElem?_getD, List.getElem?_eq_getElem (by omega)] at this
              exact this
            · rw [wid_take l h hw, hlen]
  exact fun l => key l.length l (Nat.le_refl _)

theorem good_bytes : ∀ l, bad l = none → ∀ b ∈ l, b.toNat = 9 ∨ b.toNat = 10 ∨ b.toNat = 13 ∨ 32 ≤ b.toNat := by
  refine good_ind (P := fun l => ∀ b ∈ l, b.toNat = 9 ∨ b.toNat = 10 ∨ b.toNat = 13 ∨ 32 ≤ b.toNat) (by simp) ?_ ?_
  · intro b t hs hlt _ ih c hc
    rcases List.mem_cons.1 hc with rfl | hc
    · rw [signB_eq] at hs; simp at hs; omega
    · exact ih c hc
  · intro u t _ hu _ _ ih c hc
    rcases List.mem_append.1 hc with hc | hc
    · have := hu c hc; omega
    · exact ih c hc

theorem u8_of (b c : UInt8) (h : b.toNat = c.toNat) : b = c := UInt8.toNat_inj.1 h

/-- what is escaped has none of the signs that may not stand. -/
theorem escL_clean (l : Bytes) (h : bad l = none) : ∀ b ∈ escL l, b ≠ 60 ∧ b ≠ 62 ∧ b ≠ 34 ∧ b ≠ 39 ∧ 32 ≤ b.toNat := by
  intro b hb
  unfold escL at hb
  obtain ⟨c, hc, hb⟩ := List.mem_flatMap.1 hb
  have hg := good_bytes l h c hc
  unfold escB at hb
  repeat' split at hb
  case isFalse =>
    rename_i n1 n2 n3 n4 n5 n6 n7 n8
    simp at hb; subst hb
    refine ⟨n2, n3, n4, n5, ?_⟩
    rcases hg with h | h | h | h
    · exact absurd (u8_of b 9 h) n6
    · exact absurd (u8_of b 10 h) n7
    · exact absurd (u8_of b 13 h) n8
    · exact h
  all_goals
    simp at hb
    rcases hb with h | h | h | h | h | h
    all_goals first | (subst h; decide) | (rcases h with h | h <;> (subst h; decide)) | decide

theorem escB_plain (b : UInt8) (h : 128 ≤ b.toNat) : escB b = [b] := by
  have n : ∀ c : UInt8, c.toNat < 128 → b ≠ c := fun c hc e => by subst e; omega
  unfold escB
  rw [if_neg (n _ (by decide)), if_neg (n _ (by decide)), if_neg (n _ (by decide)), if_neg (n _ (by decide)), if_neg (n _ (by decide)), if_neg (n _ (by decide)), if_neg (n _ (by decide)), if_neg (n _ (by decide))]

theorem escL_plain (u : Bytes) (h : ∀ b ∈ u, 128 ≤ b.toNat) : escL u = u := by
  induction u with
  | nil => rfl
  | cons b t ih =>
    have : escL (b :: t) = escB b ++ escL t := by simp [escL]
    rw [this, escB_plain b (h b (by simp)), ih fun c hc => h c (by simp [hc])]
    rfl

theorem un_nil : un [] = .ok [] := rfl

theorem un_amp (nm x X : Bytes) (hn : ∀ b ∈ nm, b ≠ 59) (he : entity nm = some x) : un (38 :: (nm ++ 59 :: X)) = (match un X with | .ok y => .ok (x ++ y) | .error (k, e) => .error (k + (nm.length + 2), e)) := by
  have e1 : nameOf (nm ++ 59 :: X) = nm := by
    unfold nameOf
    rw [List.takeWhile_append_of_pos (by intro a ha; simp [hn a ha])]
    simp
  have e2 : (nm ++ 59 :: X).drop (nm.length + 1) = X := by
    rw [show nm ++ 59 :: X = (nm ++ [59]) ++ X from by simp, List.drop_left' (by simp)]
  rw [un_step]
  simp only [unStep]
  rw [if_neg (by decide), if_pos trivial, if_pos (by simp), e1, he]
  simp only []
  rw [e2]
  all_goals (cases un X <;> rfl)

theorem un_sign (u X : Bytes) (hu : u ≠ []) (h60 : u.head hu ≠ 60) (h38 : u.head hu ≠ 38) (hw : wid u = u.length) :
    un (u ++ X) = (match un X with | .ok y => .ok (u ++ y) | .error (k, e) => .error (k + u.length, e)) := by
  have hne : wid u ≠ 0 := by rw [hw]; intro e; exact hu (List.eq_nil_of_length_eq_zero e)
  have hwa := wid_append u X hu hne
  rw [hw] at hwa
  rw [un_step]
  cases u with
  | nil => exact absurd rfl hu
  | cons b t =>
    simp only [List.head_cons] at h60 h38
    simp only [List.cons_append] at hwa ⊢
    simp only [unStep]
    rw [if_neg h60, if_neg h38, hwa, if_neg (by simp)]
    rw [show b :: (t ++ X) = (b :: t) ++ X from rfl, List.drop_left' rfl, List.take_left' rfl]
    all_goals (cases un X <;> rfl)

theorem wid_one (b : UInt8) (hs : signB b.toNat = true) (hlt : b.toNat < 128) : wid [b] = 1 := by
  have hd : dec [b] = (b.toNat, 1) := by
    unfold dec decodeN; rw [byN_cons_zero, if_pos hlt]
  unfold wid; rw [hd]
  rw [if_neg]
  simp only [not_or]
  exact ⟨by omega, by simp [hs]⟩

/-- what is escaped stands for itself. -/
theorem un_escL : ∀ l, bad l = none → un (escL l) = .ok l := by
  refine good_ind (P := fun l => un (escL l) = .ok l) rfl ?_ ?_
  · intro b t hs hlt _ ih
    have e : escL (b :: t) = escB b ++ escL t := by simp [escL]
    rw [e]
    unfold escB
    split
    · rename_i h; subst h
      have := un_amp [97, 109, 112] [38] (escL t) (by decide) (by decide)
      rw [ih] at this; exact this
    split
    · rename_i h; subst h
      have := un_amp [108, 116] [60] (escL t) (by decide) (by decide)
      rw [ih] at this; exact this
    split
    · rename_i h; subst h
      have := un_amp [103, 116] [62] (escL t) (by decide) (by decide)
      rw [ih] at this; exact this
    split
    · rename_i h; subst h
      have := un_amp [113, 117, 111, 116] [34] (escL t) (by decide) (by decide)
      rw [ih] at this; exact this
    split
    · rename_i h; subst h
      have := un_amp [97, 112, 111, 115] [39] (escL t) (by decide) (by decide)
      rw [ih] at this; exact this
    split
    · rename_i h; subst h
      have := un_amp [35, 57] [9] (escL t) (by decide) (by decide +kernel)
      rw [ih] at this; exact this
    split
    · rename_i h; subst h
      have := un_amp [35, 49, 48] [10] (escL t) (by decide) (by decide +kernel)
      rw [ih] at this; exact this
    split
    · rename_i h; subst h
      have := un_amp [35, 49, 51] [13] (escL t) (by decide) (by decide +kernel)
      rw [ih] at this; exact this
    · rename_i n1 n2 n3 n4 n5 n6 n7 n8
      have := un_sign [b] (escL t) (by simp) (by simpa using n2) (by simpa using n1) (by rw [wid_one b hs hlt]; rfl)
      rw [ih] at this; exact this
  · intro u t hu hall hw _ ih
    rw [escL_append, escL_plain u hall]
    have hh : 128 ≤ (u.head hu).toNat := hall _ (List.head_mem hu)
    have n : ∀ c : UInt8, c.toNat < 128 → u.head hu ≠ c := fun c hc e => by rw [e] at hh; omega
    rw [un_sign u (escL t) hu (n 60 (by decide)) (n 38 (by decide)) hw, ih]
end Go.Sof
namespace Go.Sof
open Go.Lib

theorem sign_bounds (r : Nat) (h : signB r = true) : r ≤ 0x10FFFF ∧ ¬ (0xD800 ≤ r ∧ r < 0xE000) ∧ r ≠ 0xFFFE ∧ 9 ≤ r := by
  rw [signB_eq] at h; simp at h; omega

theorem valid_of_sign (r : Nat) (h : signB r = true) : Utf8.valid (r : Int) = true := by
  have := sign_bounds r h
  unfold Utf8.valid; simp; omega

set_option maxRecDepth 1000000 in
theorem utf_eq (r : Nat) (h : signB r = true) : utf r =
    if r < 0x80 then [UInt8.ofNat r] else if r < 0x800 then [UInt8.ofNat (0xC0 + r / 64), UInt8.ofNat (0x80 + r % 64)]
    else if r < 0x10000 then [UInt8.ofNat (0xE0 + r / 4096), UInt8.ofNat (0x80 + r / 64 % 64), UInt8.ofNat (0x80 + r % 64)]
    else [UInt8.ofNat (0xF0 + r / 262144), UInt8.ofNat (0x80 + r / 4096 % 64), UInt8.ofNat (0x80 + r / 64 % 64), UInt8.ofNat (0x80 + r % 64)] := by
  unfold utf Utf8.encode
  simp only [valid_of_sign r h, if_true, Int.toNat_natCast]
  by_cases c1 : r < 128
  · simp only [c1, if_true]
  · by_cases c2 : r < 2048
    · simp only [c1, c2, if_true, if_false]
    · by_cases c3 : r < 65536
      · simp only [c1, c2, c3, if_true, if_false]
      · simp only [c1, c2, c3, if_false]

theorem ofNat_toNat (n : Nat) (h : n < 256) : (UInt8.ofNat n).toNat = n := by
  simp [UInt8.toNat_ofNat']; omega

theorem dec_utf (r : Nat) (h : signB r = true) : dec (utf r) = (r, (utf r).length) := by
  have hb := sign_bounds r h
  rw [utf_eq r h]
  by_cases c1 : r < 0x80
  · rw [if_pos c1]
    have e0 : byN [UInt8.ofNat r] 0 = r := by rw [byN_cons_zero, ofNat_toNat _ (by omega)]
    unfold dec decodeN; rw [e0, if_pos c1]; rfl
  rw [if_neg c1]
  by_cases c2 : r < 0x800
  · rw [if_pos c2]
    have e0 : byN [UInt8.ofNat (0xC0 + r / 64), UInt8.ofNat (0x80 + r % 64)] 0 = 0xC0 + r / 64 := ofNat_toNat _ (by omega)
    have e1 : byN [UInt8.ofNat (0xC0 + r / 64), UInt8.ofNat (0x80 + r % 64)] 1 = 0x80 + r % 64 := ofNat_toNat _ (by omega)
    unfold dec decodeN; rw [e0, e1]
    generalize hl : [UInt8.ofNat (0xC0 + r / 64), UInt8.ofNat (0x80 + r % 64)] = L
    have hn : L.length = 2 := by rw [← hl]; rfl
    rw [hn, if_neg (by omega), if_pos (by omega), if_pos (by omega)]
    exact Prod.ext (by simp only; omega) rfl
  rw [if_neg c2]
  by_cases c3 : r < 0x10000
  · rw [if_pos c3]
    generalize hl : [UInt8.ofNat (0xE0 + r / 4096), UInt8.ofNat (0x80 + r / 64 % 64), UInt8.ofNat (0x80 + r % 64)] = L
    have hn : L.length = 3 := by rw [← hl]; rfl
    have e0 : byN L 0 = 0xE0 + r / 4096 := by rw [← hl]; exact ofNat_toNat _ (by omega)
    have e1 : byN L 1 = 0x80 + r / 64 % 64 := by rw [← hl]; exact ofNat_toNat _ (by omega)
    have e2 : byN L 2 = 0x80 + r % 64 := by rw [← hl]; exact ofNat_toNat _ (by omega)
    unfold dec decodeN; rw [e0, e1, e2, hn]
    have ev : (0xE0 + r / 4096) % 16 * 4096 + (0x80 + r / 64 % 64) % 64 * 64 + (0x80 + r % 64) % 64 = r := by omega
    rw [ev, if_neg (by omega), if_neg (by omega), if_pos (by omega), if_pos (by omega)]
  · rw [if_neg c3]
    generalize hl : [UInt8.ofNat (0xF0 + r / 262144), UInt8.ofNat (0x80 + r / 4096 % 64), UInt8.ofNat (0x80 + r / 64 % 64), UInt8.ofNat (0x80 + r % 64)] = L
    have hn : L.length = 4 := by rw [← hl]; rfl
    have e0 : byN L 0 = 0xF0 + r / 262144 := by rw [← hl]; exact ofNat_toNat _ (by omega)
    have e1 : byN L 1 = 0x80 + r / 4096 % 64 := by rw [← hl]; exact ofNat_toNat _ (by omega)
    have e2 : byN L 2 = 0x80 + r / 64 % 64 := by rw [← hl]; exact ofNat_toNat _ (by omega)
    have e3 : byN L 3 = 0x80 + r % 64 := by rw [← hl]; exact ofNat_toNat _ (by omega)
    unfold dec decodeN; rw [e0, e1, e2, e3, hn]
    have ev : (0xF0 + r / 262144) % 8 * 262144 + (0x80 + r / 4096 % 64) % 64 * 4096 + (0x80 + r / 64 % 64) % 64 * 64 + (0x80 + r % 64) % 64 = r := by omega
    rw [ev, if_neg (by omega), if_neg (by omega), if_neg (by omega), if_pos (by omega), if_pos (by omega)]

theorem utf_ne (r : Nat) (h : signB r = true) : utf r ≠ [] := by
  rw [utf_eq r h]; repeat' split
  all_goals simp

theorem utf_len (r : Nat) (h : signB r = true) : (utf r).length ≤ 4 := by
  rw [utf_eq r h]; repeat' split
  all_goals simp

/-- a sign's bytes are good. -/
theorem bad_utf (r : Nat) (h : signB r = true) : bad (utf r) = none := by
  have hd := dec_utf r h
  have hb := sign_bounds r h
  have hw : wid (utf r) = (utf r).length := by
    unfold wid; rw [hd]
    rw [if_neg]
    simp only [not_or, not_and]
    refine ⟨fun e1 e2 => ?_, by simp [h]⟩
    subst e1
    rw [utf_eq 65533 h] at e2
    simp at e2
  have hp : (utf r).length ≠ 0 := fun e => utf_ne r h (List.eq_nil_of_length_eq_zero e)
  have := bad_take_none (utf r) (utf_ne r h) (by rw [hw]; exact hp)
  rwa [hw, List.take_length] at this

/-! ### numbers by their digits -/
def digB (d : Nat) : UInt8 := if d < 10 then UInt8.ofNat (48 + d) else UInt8.ofNat (87 + d)
theorem digB_toNat (d : Nat) (h : d < 16) : (digB d).toNat = if d < 10 then 48 + d else 87 + d := by
  unfold digB; split <;> exact ofNat_toNat _ (by omega)
theorem hexV_digB (d : Nat) (h : d < 16) : hexV (digB d).toNat = d := by
  rw [digB_toNat d h]; unfold hexV; repeat' split
  all_goals omega

theorem numV_foldl (base : Nat) (l : Bytes) : ∀ n, l.foldl (fun n c => n * base + hexV c.toNat) n = n * base ^ l.length + numV base l := by
  unfold numV
  induction l with
  | nil => intro n; simp
  | cons b t ih =>
    intro n
    simp only [List.foldl_cons, List.length_cons, Nat.zero_mul, Nat.zero_add]
    rw [ih, ih (hexV b.toNat), Nat.add_mul, Nat.mul_assoc, ← Nat.pow_succ', Nat.add_assoc]

theorem numV_cons (base : Nat) (b : UInt8) (t : Bytes) : numV base (b :: t) = hexV b.toNat * base ^ t.length + numV base t := by
  have := numV_foldl base t (hexV b.toNat)
  unfold numV at this ⊢
  simp only [List.foldl_cons, Nat.zero_mul, Nat.zero_add]
  exact this

/-- what the loop that writes a number holds: so much is written, so much is left. -/
structure Digs (base k x : Nat) (acc : Bytes) : Prop where
  val : x * base ^ acc.length + numV base acc = k
  dig : ∀ c ∈ acc, hexV c.toNat < base
  len : acc.length ≤ 7
  any : acc ≠ [] ∨ x = k

theorem Digs.start (base k : Nat) : Digs base k k [] := ⟨by simp [numV], by simp, by simp, Or.inr rfl⟩

theorem Digs.next {base k x : Nat} {acc : Bytes} (h : Digs base k x acc) (hb : base = 10 ∨ base = 16) (hk : k < 1179648) (hx : 0 < x ∨ acc = []) :
    Digs base k (x / base) (digB (x % base) :: acc) := by
  have hbp : 0 < base := by omega
  have hm : x % base < base := Nat.mod_lt _ hbp
  have hd : hexV (digB (x % base)).toNat = x % base := hexV_digB _ (by omega)
  refine ⟨?_, ?_, ?_, Or.inl (by simp)⟩
  · rw [numV_cons, hd, List.length_cons, Nat.pow_succ, ← h.val]
    have e : x * base ^ acc.length = (x / base * base + x % base) * base ^ acc.length := by rw [Nat.mul_comm (x / base) base, Nat.div_add_mod]
    rw [e, Nat.add_mul, Nat.mul_assoc, Nat.mul_comm base (base ^ acc.length)]
    omega
  · intro c hc
    rcases List.mem_cons.1 hc with rfl | hc
    · rw [hd]; exact hm
    · exact h.dig c hc
  · rcases hx with hx | hx
    · have hv := h.val
      simp only [List.length_cons]
      have hle : base ^ acc.length ≤ k := by
        have := Nat.le_mul_of_pos_left (base ^ acc.length) hx
        omega
      have h7 : acc.length < 7 := by
        rcases Nat.lt_or_ge acc.length 7 with h' | h'
        · exact h'
        · exfalso
          have h1 : base ^ 7 ≤ base ^ acc.length := Nat.pow_le_pow_right hbp h'
          rcases hb with rfl | rfl <;> omega
      omega
    · subst hx; simp

theorem Digs.done {base k : Nat} {acc : Bytes} (h : Digs base k 0 acc) : numV base acc = k := by have := h.val; omega

theorem numE_digs {base k : Nat} {acc : Bytes} (h : Digs base k 0 acc) (hne : acc ≠ []) : numE base acc = if signB k then some (utf k) else none := by
  unfold numE
  rw [if_neg, h.done]
  simp only [not_or]
  refine ⟨hne, by have := h.len; omega, ?_⟩
  simp only [List.any_eq_true, decide_eq_true_eq, not_exists, not_and]
  intro c hc hb
  have := h.dig c hc; omega

theorem hexV_ne (c : UInt8) (h : hexV c.toNat < 10) : c ≠ 120 ∧ c ≠ 59 := by
  refine ⟨fun e => ?_, fun e => ?_⟩ <;> (subst e; revert h; decide)
theorem hexV_ne16 (c : UInt8) (h : hexV c.toNat < 16) : c ≠ 120 ∧ c ≠ 59 := by
  refine ⟨fun e => ?_, fun e => ?_⟩ <;> (subst e; revert h; decide)

theorem entity_dec (acc : Bytes) (h : ∀ c ∈ acc, hexV c.toNat < 10) : entity (35 :: acc) = numE 10 acc := by
  unfold entity
  rw [if_neg (by simp), if_neg (by simp), if_neg (by simp), if_neg (by simp), if_neg (by simp)]
  split
  · rename_i u e
    cases e
    exact absurd rfl (hexV_ne 120 (h 120 (by simp))).1
  · rename_i t _ e
    cases e; rfl
  · rename_i h1 h2; exact absurd rfl (h2 acc)
theorem entity_hex (acc : Bytes) : entity (35 :: 120 :: acc) = numE 16 acc := by
  unfold entity
  rw [if_neg (by simp), if_neg (by simp), if_neg (by simp), if_neg (by simp), if_neg (by simp)]
  rfl

theorem un_amp_none (nm X : Bytes) (hn : ∀ b ∈ nm, b ≠ 59) (he : entity nm = none) : un (38 :: (nm ++ 59 :: X)) = .error (0, 7) := by
  have e1 : nameOf (nm ++ 59 :: X) = nm := by
    unfold nameOf
    rw [List.takeWhile_append_of_pos (by intro a ha; simp [hn a ha])]
    simp
  rw [un_step]
  simp only [unStep]
  rw [if_neg (by decide), if_pos trivial, if_pos (by simp), e1, he]

/-- the sign that a number says. -/
theorem un_number (hex : Bool) (k : Nat) (acc : Bytes) (h : Digs (if hex then 16 else 10) k 0 acc) (hne : acc ≠ []) :
    unR (38 :: 35 :: ((if hex then 120 :: acc else acc) ++ [59])) = if signB k then (utf k, 0, 0) else ([], 0, 7) := by
  have hent : entity (35 :: (if hex then 120 :: acc else acc)) = if signB k then some (utf k) else none := by
    cases hex with
    | true => rw [if_pos rfl, entity_hex]; exact numE_digs h hne
    | false => simp only [Bool.false_eq_true, if_false] at *; rw [entity_dec acc h.dig]; exact numE_digs h hne
  have hn : ∀ b ∈ (35 :: (if hex then 120 :: acc else acc) : Bytes), b ≠ 59 := by
    intro b hb
    rcases List.mem_cons.1 hb with rfl | hb
    · decide
    cases hex with
    | true =>
      simp only [if_true] at hb h
      rcases List.mem_cons.1 hb with rfl | hb
      · decide
      · exact (hexV_ne16 b (h.dig b hb)).2
    | false =>
      simp only [Bool.false_eq_true, if_false] at hb h
      exact (hexV_ne b (h.dig b hb)).2
  unfold unR
  have e : (38 :: 35 :: ((if hex then 120 :: acc else acc) ++ [59]) : Bytes) = 38 :: ((35 :: (if hex then 120 :: acc else acc)) ++ 59 :: []) := by simp
  rw [e]
  by_cases hs : signB k = true
  · rw [if_pos hs] at hent ⊢
    rw [un_amp _ _ [] hn hent, un_nil]; simp
  · rw [if_neg hs] at hent ⊢
    rw [un_amp_none _ [] hn hent]
end Go.Sof
