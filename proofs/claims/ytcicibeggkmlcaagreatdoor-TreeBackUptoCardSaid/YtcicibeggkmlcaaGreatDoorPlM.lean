/- Plain mathematics of marks: what a text's marks are, what any marks are as a text, and the laws on both; no program in sight. Conditions: none. -/
import Derived.Test.YtcicibeggkmlcaaGreatDoorPlAJ2
import Derived.Lib.IndexMore
import Derived.Lib.SlTrimSet
namespace Go.Sof
open Go.Lib

structure PAttr where
  name : Bytes
  value : Bytes
structure PMark where
  kind : Int
  pos : Int
  name : Bytes
  attrs : List PAttr
  text : Bytes
instance : Inhabited PAttr := ⟨⟨[], []⟩⟩
instance : Inhabited PMark := ⟨⟨0, 0, [], [], []⟩⟩
abbrev Err := Nat × Int

def whites : Bytes := [32, 9, 13, 10]
def skipN (l : Bytes) : Nat := (l.takeWhile (whites.contains ·)).length
def nmC (b : UInt8) : Bool := nameB [97, b]
def nameP (l : Bytes) : Bytes := if nameB (l.takeWhile nmC) = true then l.takeWhile nmC else []
def idx (l sep : Bytes) : Option Nat := if 0 ≤ Lib.index l sep then some (Lib.index l sep).toNat else none

/-- an attribute; 'error none': the tag is wrong. -/
def attrP (l : Bytes) : Except (Option Err) (PAttr × Nat) :=
  if nameP l = [] then .error none
  else if hasPrefix (l.drop (nameP l).length) [61] = false then .error none
  else if hasPrefix (l.drop ((nameP l).length + 1)) [34] = false then .error none
  else match idx (l.drop ((nameP l).length + 2)) [34] with
    | none => .error none
    | some i => match un ((l.drop ((nameP l).length + 2)).take i) with
      | .error (k, e) => .error (some ((nameP l).length + 2 + k, e))
      | .ok t => .ok (⟨nameP l, t⟩, (nameP l).length + 2 + i + 1)

def attrsP : Nat → Bytes → Nat → List PAttr → Except Err (List PAttr × Nat)
  | 0, _, _, _ => .error (0, 8)
  | f + 1, l, c, as =>
    if skipN (l.drop c) = 0 ∨ l.length ≤ c + skipN (l.drop c) ∨ hasPrefix (l.drop (c + skipN (l.drop c))) [62] = true ∨ hasPrefix (l.drop (c + skipN (l.drop c))) [47] = true then .ok (as, c + skipN (l.drop c))
    else match attrP (l.drop (c + skipN (l.drop c))) with
      | .error none => .error (0, 8)
      | .error (some (k, e)) => .error (c + skipN (l.drop c) + k, e)
      | .ok (a, n) => if as.any (fun b => b.name == a.name) = true then .error (0, 8) else attrsP f l (c + skipN (l.drop c) + n) (as ++ [a])

/-- what ends a tag: the kind and the bytes. -/
def endP (l : Bytes) (c : Nat) : Option (Int × Nat) :=
  if hasPrefix (l.drop c) [47] = true then (if hasPrefix (l.drop (c + 1)) [62] = true then some (4, c + 2) else none)
  else if hasPrefix (l.drop c) [62] = true then some (1, c + 1) else none

def closeP (l : Bytes) : Except Err (PMark × Nat) :=
  if nameP (l.drop 2) = [] then .error (0, 8)
  else if hasPrefix (l.drop (2 + (nameP (l.drop 2)).length + skipN (l.drop (2 + (nameP (l.drop 2)).length)))) [62] = true
    then .ok (⟨2, 0, nameP (l.drop 2), [], []⟩, 2 + (nameP (l.drop 2)).length + skipN (l.drop (2 + (nameP (l.drop 2)).length)) + 1)
    else .error (0, 8)

def openP (l : Bytes) : Except Err (PMark × Nat) :=
  if nameP (l.drop 1) = [] then .error (0, 8)
  else match attrsP 65537 l (1 + (nameP (l.drop 1)).length) [] with
    | .error x => .error x
    | .ok (as, c) => match endP l c with
      | none => .error (0, 8)
      | some (kd, n) => .ok (⟨kd, 0, nameP (l.drop 1), as, []⟩, n)

def tagP (l : Bytes) : Except Err (PMark × Nat) := if hasPrefix (l.drop 1) [47] = true then closeP l else openP l

def charsP (l : Bytes) : Except Err (PMark × Nat) :=
  match un (l.takeWhile (· != 60)) with
  | .error x => .error x
  | .ok t => .ok (⟨3, 0, [], [], t⟩, (l.takeWhile (· != 60)).length)

def commentP (l : Bytes) : Except Err Nat :=
  match idx (l.drop 4) [45, 45] with
  | none => .error (0, 8)
  | some i => if hasPrefix (l.drop (4 + i + 2)) [62] = false then .error (0, 8)
    else match bad ((l.drop 4).take i) with
      | some k => .error (4 + k, 6)
      | none => .ok (4 + i + 3)

def dataP (l : Bytes) : Except Err (PMark × Nat) :=
  match idx (l.drop 9) [93, 93, 62] with
  | none => .error (0, 8)
  | some i => match bad ((l.drop 9).take i) with
    | some k => .error (9 + k, 6)
    | none => .ok (⟨3, 0, [], [], (l.drop 9).take i⟩, 9 + i + 3)

def someM : Except Err (PMark × Nat) → Except Err (Option PMark × Nat)
  | .error x => .error x
  | .ok (m, n) => .ok (some m, n)
def noneM : Except Err Nat → Except Err (Option PMark × Nat)
  | .error x => .error x
  | .ok n => .ok (none, n)

def stepP (l : Bytes) : Except Err (Option PMark × Nat) :=
  if hasPrefix l [60] = false then someM (charsP l)
  else if hasPrefix l [60, 33, 45, 45] = true then noneM (commentP l)
  else if hasPrefix l [60, 33, 91, 67, 68, 65, 84, 65, 91] = true then someM (dataP l)
  else someM (tagP l)

def atPos (p : Nat) : Option PMark → List PMark
  | none => []
  | some m => [{ m with pos := (p : Int) }]

def marksP : Nat → Bytes → Nat → Except Err (List PMark)
  | 0, _, _ => .ok []
  | f + 1, l, p =>
    if l = [] then .ok [] else match stepP l with
      | .error (k, e) => .error (p + k, e)
      | .ok (m, n) => match marksP f (l.drop n) (p + n) with
        | .error x => .error x
        | .ok r => .ok (atPos p m ++ r)

def marks (l : Bytes) : Except Err (List PMark) := if 65536 < l.length then .error (0, 10) else marksP 65537 l 0

/-! ### a text's first bytes -/
theorem tw_take (p : UInt8 → Bool) : ∀ (l : Bytes) (k : Nat), (l.takeWhile p).length ≤ k → (l.take k).takeWhile p = l.takeWhile p
  | [], k, _ => by simp
  | a :: t, k, h => by
    cases hp : p a with
    | false => cases k with
      | zero => simp [hp]
      | succ k => simp [hp]
    | true =>
      simp only [List.takeWhile_cons, hp, if_true, List.length_cons] at h
      obtain ⟨k', rfl⟩ : ∃ k', k = k' + 1 := ⟨k - 1, by omega⟩
      simp only [List.take_succ_cons, List.takeWhile_cons, hp, if_true]
      rw [tw_take p t k' (by omega)]

theorem tw_le (p : UInt8 → Bool) (l : Bytes) : (l.takeWhile p).length ≤ l.length := (List.takeWhile_prefix p).length_le

theorem hp_iff (l p : Bytes) : hasPrefix l p = true ↔ p <+: l := by unfold hasPrefix; exact List.isPrefixOf_iff_prefix
theorem hp_len {l p : Bytes} (h : hasPrefix l p = true) : p.length ≤ l.length := ((hp_iff l p).1 h).length_le
theorem hp_take (l p : Bytes) (k : Nat) (h : p.length ≤ k) : hasPrefix (l.take k) p = hasPrefix l p := by
  rw [Bool.eq_iff_iff, hp_iff, hp_iff, List.prefix_take_iff]
  exact ⟨fun x => x.1, fun x => ⟨x, h⟩⟩
theorem hp_drop_take (l p : Bytes) (c k : Nat) (h : c + p.length ≤ k) : hasPrefix ((l.take k).drop c) p = hasPrefix (l.drop c) p := by
  rw [List.drop_take]; exact hp_take _ _ _ (by omega)
theorem hp_drop_lt {l : Bytes} {b : UInt8} {c : Nat} (h : hasPrefix (l.drop c) [b] = true) : c < l.length := by
  have := hp_len h; simp at this; omega

theorem occ_take (l sep : Bytes) (j k : Nat) (h : j + sep.length ≤ k) : occAt (l.take k) sep j = occAt l sep j := hp_drop_take l sep j k h

theorem idx_some {l sep : Bytes} {i : Nat} (h : idx l sep = some i) : Lib.index l sep = i ∧ i + sep.length ≤ l.length ∧ occAt l sep i = true ∧ (∀ j, j < i → occAt l sep j = false) := by
  unfold idx at h
  split at h
  · rename_i h0
    have hr := index_room l sep h0
    rcases index_spec l sep with ⟨h1, _⟩ | ⟨n, h1, h2, h3, h4⟩
    · omega
    · rw [h1] at h hr
      simp only [Int.toNat_natCast, Option.some.injEq] at h
      subst h
      exact ⟨h1, by omega, h3, h4⟩
  · simp at h
theorem idx_of {l sep : Bytes} {i : Nat} (hi : i ≤ l.length) (h : occAt l sep i = true) (hn : ∀ j, j < i → occAt l sep j = false) : idx l sep = some i := by
  unfold idx
  rw [index_first hi h hn, if_pos (by omega)]; simp

theorem idx_take {l sep : Bytes} {i : Nat} (h : idx l sep = some i) (k : Nat) (hk : i + sep.length ≤ k) : idx (l.take k) sep = some i := by
  obtain ⟨_, h2, h3, h4⟩ := idx_some h
  refine idx_of (by rw [List.length_take]; omega) (by rw [occ_take _ _ _ _ hk]; exact h3) (fun j hj => ?_)
  rw [occ_take _ _ _ _ (by omega)]; exact h4 j hj

theorem nameP_le (l : Bytes) : (nameP l).length ≤ l.length := by
  unfold nameP; split
  · exact tw_le _ _
  · simp
theorem nameP_tw {l : Bytes} (h : nameP l ≠ []) : nameP l = l.takeWhile nmC := by
  unfold nameP at h ⊢; split
  · rfl
  · rename_i h'; rw [if_neg h'] at h; exact absurd rfl h
theorem nameP_take {l : Bytes} (h : nameP l ≠ []) (k : Nat) (hk : (nameP l).length ≤ k) : nameP (l.take k) = nameP l := by
  rw [nameP_tw h] at hk
  unfold nameP; rw [tw_take _ _ _ hk]
theorem skipN_take (l : Bytes) (k : Nat) (hk : skipN l ≤ k) : skipN (l.take k) = skipN l := by unfold skipN at hk ⊢; rw [tw_take _ _ _ hk]
theorem skipN_le (l : Bytes) : skipN l ≤ l.length := tw_le _ _

theorem attrP_iff (l : Bytes) (a : PAttr) (n : Nat) : attrP l = .ok (a, n) ↔ nameP l ≠ [] ∧ a.name = nameP l ∧ hasPrefix (l.drop (nameP l).length) [61] = true ∧ hasPrefix (l.drop ((nameP l).length + 1)) [34] = true ∧
    ∃ i, idx (l.drop ((nameP l).length + 2)) [34] = some i ∧ un ((l.drop ((nameP l).length + 2)).take i) = .ok a.value ∧ n = (nameP l).length + 2 + i + 1 := by
  unfold attrP
  by_cases h1 : nameP l = []
  · simp [h1]
  rw [if_neg h1]
  cases h2 : hasPrefix (l.drop (nameP l).length) [61] with
  | false => simp
  | true =>
    cases h3 : hasPrefix (l.drop ((nameP l).length + 1)) [34] with
    | false => simp
    | true =>
      simp only [Bool.true_eq_false, if_false]
      cases h4 : idx (l.drop ((nameP l).length + 2)) [34] with
      | none => simp
      | some i =>
        simp only
        cases h5 : un ((l.drop ((nameP l).length + 2)).take i) with
        | error x => obtain ⟨k, e⟩ := x; simp [h5]
        | ok t =>
          obtain ⟨an, av⟩ := a
          constructor
          · intro h
            simp only [Except.ok.injEq, Prod.mk.injEq, PAttr.mk.injEq] at h
            obtain ⟨⟨rfl, rfl⟩, rfl⟩ := h
            exact ⟨h1, rfl, trivial, trivial, i, rfl, h5, rfl⟩
          · rintro ⟨_, hn, _, _, j, hj, hu, rfl⟩
            simp only [Option.some.injEq] at hj
            subst hj
            rw [h5] at hu
            simp only [Except.ok.injEq] at hu hn
            subst hu; rw [hn]

theorem attrP_take {l : Bytes} {a : PAttr} {n : Nat} (h : attrP l = .ok (a, n)) (k : Nat) (hk : n ≤ k) : attrP (l.take k) = .ok (a, n) := by
  obtain ⟨h1, h2, h3, h4, i, h5, h6, rfl⟩ := (attrP_iff l a n).1 h
  have hn := nameP_take h1 k (by omega)
  refine (attrP_iff _ _ _).2 ?_
  rw [hn]
  refine ⟨h1, h2, ?_, ?_, i, ?_, ?_, rfl⟩
  · rw [hp_drop_take _ _ _ _ (by simp; omega)]; exact h3
  · rw [hp_drop_take _ _ _ _ (by simp; omega)]; exact h4
  · rw [List.drop_take]; exact idx_take h5 _ (by simp; omega)
  · rw [List.drop_take, List.take_take, Nat.min_eq_left (by omega)]; exact h6
theorem attrP_len {l : Bytes} {a : PAttr} {n : Nat} (h : attrP l = .ok (a, n)) : 0 < n ∧ n ≤ l.length := by
  obtain ⟨h1, h2, h3, h4, i, h5, h6, rfl⟩ := (attrP_iff l a n).1 h
  have := (idx_some h5).2.1
  have h7 := hp_drop_lt h4
  simp at this; omega

theorem attrsP_le : ∀ (f : Nat) (l : Bytes) (c : Nat) (as : List PAttr) (as' : List PAttr) (c' : Nat), attrsP f l c as = .ok (as', c') → c ≤ c'
  | 0, _, _, _, _, _, h => by simp [attrsP] at h
  | f + 1, l, c, as, as', c', h => by
    unfold attrsP at h
    split at h
    · simp only [Except.ok.injEq, Prod.mk.injEq] at h; omega
    · cases ha : attrP (l.drop (c + skipN (l.drop c))) with
      | error x => rw [ha] at h; cases x with
        | none => simp at h
        | some x => obtain ⟨k, e⟩ := x; simp at h
      | ok x =>
        obtain ⟨a, n⟩ := x
        rw [ha] at h
        simp only at h
        split at h
        · simp at h
        · have := attrsP_le f _ _ _ _ _ h; omega

theorem attrsP_take : ∀ (f : Nat) (l : Bytes) (c : Nat) (as : List PAttr) (as' : List PAttr) (c' k : Nat), attrsP f l c as = .ok (as', c') → c' < k → c' < l.length → attrsP f (l.take k) c as = .ok (as', c')
  | 0, _, _, _, _, _, _, h, _, _ => by simp [attrsP] at h
  | f + 1, l, c, as, as', c', k, h, hk, hl => by
    have hle := attrsP_le _ _ _ _ _ _ h
    unfold attrsP at h ⊢
    have hs : c + skipN (l.drop c) ≤ c' := by
      split at h
      · simp only [Except.ok.injEq, Prod.mk.injEq] at h; omega
      · cases ha : attrP (l.drop (c + skipN (l.drop c))) with
        | error x => rw [ha] at h; cases x with
          | none => simp at h
          | some x => obtain ⟨k, e⟩ := x; simp at h
        | ok x =>
          obtain ⟨a, n⟩ := x
          rw [ha] at h
          simp only at h
          split at h
          · simp at h
          · have := attrsP_le f _ _ _ _ _ h; omega
    have es : skipN ((l.take k).drop c) = skipN (l.drop c) := by rw [List.drop_take]; exact skipN_take _ _ (by omega)
    rw [es]
    generalize c + skipN (l.drop c) = c1 at *
    rw [hp_drop_take _ _ _ _ (by simp; omega), hp_drop_take _ _ _ _ (by simp; omega)]
    have hlen : (l.take k).length ≤ c1 ↔ l.length ≤ c1 := by rw [List.length_take]; omega
    split at h
    · rename_i hc; rw [if_pos (hc.imp id fun hc => hc.imp hlen.2 id)]; exact h
    · rename_i hc; rw [if_neg (fun hx => hc (hx.imp id fun hc => hc.imp hlen.1 id))]
      cases ha : attrP (l.drop c1) with
      | error x => rw [ha] at h; cases x with
        | none => simp at h
        | some x => obtain ⟨k, e⟩ := x; simp at h
      | ok x =>
        obtain ⟨a, n⟩ := x
        rw [ha] at h
        simp only at h
        split at h
        · simp at h
        · rename_i hd
          have hn := attrsP_le f _ _ _ _ _ h
          rw [List.drop_take, attrP_take ha _ (by omega)]
          simp only
          rw [if_neg hd]
          exact attrsP_take f _ _ _ _ _ k h hk hl

theorem endP_take {l : Bytes} {c n : Nat} {kd : Int} (h : endP l c = some (kd, n)) (k : Nat) (hk : n ≤ k) : endP (l.take k) c = some (kd, n) ∧ c < n ∧ n ≤ l.length := by
  unfold endP at h ⊢
  cases h1 : hasPrefix (l.drop c) [47] with
  | true =>
    rw [h1, if_pos rfl] at h
    cases h2 : hasPrefix (l.drop (c + 1)) [62] with
    | true =>
      rw [h2, if_pos rfl] at h
      simp only [Option.some.injEq, Prod.mk.injEq] at h
      have := hp_drop_lt h2
      obtain ⟨rfl, rfl⟩ := h
      rw [hp_drop_take _ _ _ _ (by simp; omega), hp_drop_take _ _ _ _ (by simp; omega), h1, h2]
      exact ⟨rfl, by omega, by omega⟩
    | false => rw [h2] at h; simp at h
  | false =>
    rw [h1] at h
    simp only [Bool.false_eq_true, if_false] at h
    cases h2 : hasPrefix (l.drop c) [62] with
    | true =>
      rw [h2, if_pos rfl] at h
      simp only [Option.some.injEq, Prod.mk.injEq] at h
      have := hp_drop_lt h2
      obtain ⟨rfl, rfl⟩ := h
      rw [hp_drop_take _ _ _ _ (by simp; omega), h1, if_neg (by simp), hp_drop_take _ _ _ _ (by simp; omega), h2]
      exact ⟨rfl, by omega, by omega⟩
    | false => rw [h2] at h; simp at h

theorem closeP_take {l : Bytes} {m : PMark} {n : Nat} (h : closeP l = .ok (m, n)) (k : Nat) (hk : n ≤ k) : closeP (l.take k) = .ok (m, n) ∧ 2 < n ∧ n ≤ l.length := by
  unfold closeP at h ⊢
  split at h
  · simp at h
  rename_i h1
  split at h
  · rename_i h2
    simp only [Except.ok.injEq, Prod.mk.injEq] at h
    obtain ⟨rfl, rfl⟩ := h
    have hl := hp_drop_lt h2
    have e1 : nameP ((l.take k).drop 2) = nameP (l.drop 2) := by rw [List.drop_take]; exact nameP_take h1 _ (by omega)
    have e2 : skipN ((l.take k).drop (2 + (nameP (l.drop 2)).length)) = skipN (l.drop (2 + (nameP (l.drop 2)).length)) := by rw [List.drop_take]; exact skipN_take _ _ (by omega)
    rw [e1, e2, if_neg h1, hp_drop_take _ _ _ _ (by simp; omega), if_pos h2]
    exact ⟨rfl, by omega, by omega⟩
  · simp at h

theorem openP_take {l : Bytes} {m : PMark} {n : Nat} (h : openP l = .ok (m, n)) (k : Nat) (hk : n ≤ k) : openP (l.take k) = .ok (m, n) ∧ 1 < n ∧ n ≤ l.length := by
  unfold openP at h ⊢
  split at h
  · simp at h
  rename_i h1
  cases ha : attrsP 65537 l (1 + (nameP (l.drop 1)).length) [] with
  | error x => rw [ha] at h; simp at h
  | ok x =>
    obtain ⟨as, c⟩ := x
    rw [ha] at h
    simp only at h
    cases he : endP l c with
    | none => rw [he] at h; simp at h
    | some x =>
      obtain ⟨kd, n'⟩ := x
      rw [he] at h
      simp only [Except.ok.injEq, Prod.mk.injEq] at h
      obtain ⟨rfl, rfl⟩ := h
      have hc := attrsP_le _ _ _ _ _ _ ha
      obtain ⟨t1, t2, t3⟩ := endP_take he k hk
      have e1 : nameP ((l.take k).drop 1) = nameP (l.drop 1) := by rw [List.drop_take]; exact nameP_take h1 _ (by omega)
      rw [e1, if_neg h1, attrsP_take _ _ _ _ _ _ k ha (by omega) (by omega)]
      simp only
      rw [t1]
      exact ⟨rfl, by omega, t3⟩

theorem tagP_take {l : Bytes} {m : PMark} {n : Nat} (h : tagP l = .ok (m, n)) (k : Nat) (hk : n ≤ k) : tagP (l.take k) = .ok (m, n) ∧ 1 < n ∧ n ≤ l.length := by
  unfold tagP at h ⊢
  cases h1 : hasPrefix (l.drop 1) [47] with
  | true =>
    rw [h1, if_pos rfl] at h
    obtain ⟨t1, t2, t3⟩ := closeP_take h k hk
    rw [hp_drop_take _ _ _ _ (by simp; omega), h1, if_pos rfl]
    exact ⟨t1, by omega, t3⟩
  | false =>
    rw [h1] at h
    simp only [Bool.false_eq_true, if_false] at h
    obtain ⟨t1, t2, t3⟩ := openP_take h k hk
    rw [hp_drop_take _ _ _ _ (by simp; omega), h1]
    simp only [Bool.false_eq_true, if_false]
    exact ⟨t1, by omega, t3⟩

theorem charsP_take {l : Bytes} {m : PMark} {n : Nat} (h : charsP l = .ok (m, n)) (k : Nat) (hk : n ≤ k) : charsP (l.take k) = .ok (m, n) ∧ n = (l.takeWhile (· != 60)).length := by
  unfold charsP at h ⊢
  cases hu : un (l.takeWhile (· != 60)) with
  | error x => rw [hu] at h; simp at h
  | ok t =>
    rw [hu] at h
    simp only [Except.ok.injEq, Prod.mk.injEq] at h
    obtain ⟨rfl, rfl⟩ := h
    rw [tw_take _ _ _ hk, hu]
    exact ⟨rfl, rfl⟩

theorem commentP_take {l : Bytes} {n : Nat} (h : commentP l = .ok n) (k : Nat) (hk : n ≤ k) : commentP (l.take k) = .ok n ∧ 4 < n ∧ n ≤ l.length := by
  unfold commentP at h ⊢
  cases hi : idx (l.drop 4) [45, 45] with
  | none => rw [hi] at h; simp at h
  | some i =>
    rw [hi] at h
    simp only at h
    split at h
    · simp at h
    rename_i h1
    cases hb : bad ((l.drop 4).take i) with
    | some j => rw [hb] at h; simp at h
    | none =>
      rw [hb] at h
      simp only [Except.ok.injEq] at h
      subst h
      have := hp_drop_lt (Bool.not_eq_false _ ▸ h1 : hasPrefix (l.drop (4 + i + 2)) [62] = true)
      rw [List.drop_take, idx_take hi _ (by simp; omega)]
      simp only
      rw [hp_drop_take _ _ _ _ (by simp; omega), if_neg h1, List.take_take, Nat.min_eq_left (by omega), hb]
      exact ⟨rfl, by omega, by omega⟩

theorem dataP_take {l : Bytes} {m : PMark} {n : Nat} (h : dataP l = .ok (m, n)) (k : Nat) (hk : n ≤ k) : dataP (l.take k) = .ok (m, n) ∧ 9 < n ∧ n ≤ l.length := by
  unfold dataP at h ⊢
  cases hi : idx (l.drop 9) [93, 93, 62] with
  | none => rw [hi] at h; simp at h
  | some i =>
    rw [hi] at h
    simp only at h
    cases hb : bad ((l.drop 9).take i) with
    | some j => rw [hb] at h; simp at h
    | none =>
      rw [hb] at h
      simp only [Except.ok.injEq, Prod.mk.injEq] at h
      obtain ⟨rfl, rfl⟩ := h
      have := (idx_some hi).2.1
      simp at this
      rw [List.drop_take, idx_take hi _ (by simp; omega)]
      simp only
      rw [List.take_take, Nat.min_eq_left (by omega), hb]
      exact ⟨rfl, by omega, by omega⟩

theorem tw_pos {l : Bytes} (hl : l ≠ []) (h : hasPrefix l [60] = false) : 0 < (l.takeWhile (· != 60)).length := by
  cases l with
  | nil => exact absurd rfl hl
  | cons b t =>
    have hb : (b != 60) = true := by
      cases hb : (b != 60) with
      | true => rfl
      | false =>
        have : b = 60 := by simpa using hb
        subst this
        rw [(hp_iff _ _).2 (by simp)] at h; exact absurd h (by simp)
    simp [hb]

theorem someM_ok {x : Except Err (PMark × Nat)} {m : Option PMark} {n : Nat} (h : someM x = .ok (m, n)) : ∃ m', x = .ok (m', n) ∧ m = some m' := by
  cases x with
  | error e => simp [someM] at h
  | ok y => obtain ⟨a, b⟩ := y; simp only [someM, Except.ok.injEq, Prod.mk.injEq] at h; obtain ⟨rfl, rfl⟩ := h; exact ⟨a, rfl, rfl⟩
theorem noneM_ok {x : Except Err Nat} {m : Option PMark} {n : Nat} (h : noneM x = .ok (m, n)) : x = .ok n ∧ m = none := by
  cases x with
  | error e => simp [noneM] at h
  | ok y => simp only [noneM, Except.ok.injEq, Prod.mk.injEq] at h; obtain ⟨rfl, rfl⟩ := h; exact ⟨rfl, rfl⟩
theorem someM_err {x : Except Err (PMark × Nat)} {e : Err} (h : someM x = .error e) : x = .error e := by
  cases x with
  | error e => simpa [someM] using h
  | ok y => obtain ⟨a, b⟩ := y; simp [someM] at h
theorem noneM_err {x : Except Err Nat} {e : Err} (h : noneM x = .error e) : x = .error e := by
  cases x with
  | error e => simpa [noneM] using h
  | ok y => simp [noneM] at h

/-- a mark hangs on its own bytes alone. -/
theorem stepP_take {l : Bytes} (hl : l ≠ []) {m : Option PMark} {n : Nat} (h : stepP l = .ok (m, n)) : 0 < n ∧ n ≤ l.length ∧ ∀ k, n ≤ k → stepP (l.take k) = .ok (m, n) := by
  unfold stepP at h
  cases h1 : hasPrefix l [60] with
  | false =>
    rw [h1, if_pos rfl] at h
    obtain ⟨m', hx, rfl⟩ := someM_ok h
    have hn := (charsP_take hx n (Nat.le_refl _)).2
    have hp := tw_pos hl h1
    refine ⟨by omega, by rw [hn]; exact tw_le _ _, fun k hk => ?_⟩
    unfold stepP
    rw [hp_take _ _ _ (by simp; omega), h1, if_pos rfl, (charsP_take hx k hk).1]
    rfl
  | true =>
    rw [h1] at h
    simp only [Bool.true_eq_false, if_false] at h
    cases h2 : hasPrefix l [60, 33, 45, 45] with
    | true =>
      rw [h2, if_pos rfl] at h
      obtain ⟨hx, rfl⟩ := noneM_ok h
      obtain ⟨_, t2, t3⟩ := commentP_take hx n (Nat.le_refl _)
      refine ⟨by omega, t3, fun k hk => ?_⟩
      unfold stepP
      rw [hp_take _ _ _ (by simp; omega), hp_take _ _ _ (by simp; omega), h1, h2]
      simp only [Bool.true_eq_false, if_false, if_true]
      rw [(commentP_take hx k hk).1]
      rfl
    | false =>
      rw [h2] at h
      simp only [Bool.false_eq_true, if_false] at h
      cases h3 : hasPrefix l [60, 33, 91, 67, 68, 65, 84, 65, 91] with
      | true =>
        rw [h3, if_pos rfl] at h
        obtain ⟨m', hx, rfl⟩ := someM_ok h
        obtain ⟨_, t2, t3⟩ := dataP_take hx n (Nat.le_refl _)
        refine ⟨by omega, t3, fun k hk => ?_⟩
        unfold stepP
        rw [hp_take _ _ _ (by simp; omega), hp_take _ _ _ (by simp; omega), hp_take _ _ _ (by simp; omega), h1, h2, h3]
        simp only [Bool.true_eq_false, Bool.false_eq_true, if_false, if_true]
        rw [(dataP_take hx k hk).1]
        rfl
      | false =>
        rw [h3] at h
        simp only [Bool.false_eq_true, if_false] at h
        obtain ⟨m', hx, rfl⟩ := someM_ok h
        obtain ⟨_, t2, t3⟩ := tagP_take hx n (Nat.le_refl _)
        refine ⟨by omega, t3, fun k hk => ?_⟩
        have q2 : hasPrefix (l.take k) [60, 33, 45, 45] = false := by
          cases hq : hasPrefix (l.take k) [60, 33, 45, 45] with
          | false => rfl
          | true =>
            have := ((hp_iff _ _).1 hq).trans (List.take_prefix k l)
            rw [(hp_iff _ _).2 this] at h2; exact absurd h2 (by simp)
        have q3 : hasPrefix (l.take k) [60, 33, 91, 67, 68, 65, 84, 65, 91] = false := by
          cases hq : hasPrefix (l.take k) [60, 33, 91, 67, 68, 65, 84, 65, 91] with
          | false => rfl
          | true =>
            have := ((hp_iff _ _).1 hq).trans (List.take_prefix k l)
            rw [(hp_iff _ _).2 this] at h3; exact absurd h3 (by simp)
        unfold stepP
        rw [hp_take _ _ _ (by simp; omega), h1, q2, q3]
        simp only [Bool.true_eq_false, Bool.false_eq_true, if_false]
        rw [(tagP_take hx k hk).1]
        rfl
end Go.Sof
