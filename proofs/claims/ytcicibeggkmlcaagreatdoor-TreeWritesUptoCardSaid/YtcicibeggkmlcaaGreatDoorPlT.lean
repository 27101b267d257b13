/- Plain mathematics of trees: the tree that marks are, the marks that a tree is, how great it is; no program in sight. Conditions: none. -/
import Derived.Test.YtcicibeggkmlcaaGreatDoorPlO
namespace Go.Sof
open Go.Lib

inductive PNode where
  | mk (name : Bytes) (pos : Int) (attrs : List PAttr) (kids : List PNode) (text : Bytes)
namespace PNode
def name : PNode → Bytes | .mk a _ _ _ _ => a
def pos : PNode → Int | .mk _ a _ _ _ => a
def attrs : PNode → List PAttr | .mk _ _ a _ _ => a
def kids : PNode → List PNode | .mk _ _ _ a _ => a
def text : PNode → Bytes | .mk _ _ _ _ a => a
end PNode
instance : Inhabited PNode := ⟨.mk [] 0 [] [] []⟩
abbrev TErr := Int × Int

def blankB (s : Bytes) : Bool := s.all (whites.contains ·)

/-! ### the tree of marks -/
mutual
def nodeP : Nat → Int → Nat → Nat → PMark → List PMark → Except TErr (PNode × List PMark × Nat)
  | 0, _, _, _, _, _ => .error (0, 0)
  | f + 1, E, d, c, m, r =>
    if 64 < d then .error (m.pos, 9)
    else if 4096 < c + 1 then .error (m.pos, 10)
    else if m.kind = 4 then .ok (.mk m.name m.pos m.attrs [] [], r, c + 1)
    else loopP f E d (c + 1) m [] [] r
def loopP : Nat → Int → Nat → Nat → PMark → List PNode → Bytes → List PMark → Except TErr (PNode × List PMark × Nat)
  | 0, _, _, _, _, _, _, _ => .error (0, 0)
  | _ + 1, E, _, _, _, _, _, [] => .error (E, 8)
  | f + 1, E, d, c, m, ks, tx, x :: r =>
    if x.kind = 3 then loopP f E d c m ks (tx ++ x.text) r
    else if x.kind = 2 then
      (if x.name ≠ m.name then .error (x.pos, 8)
      else if ks ≠ [] ∧ blankB tx = false then .error (m.pos, 8)
      else .ok (.mk m.name m.pos m.attrs ks (if ks = [] then tx else []), r, c))
    else match nodeP f E (d + 1) c x r with
      | .error e => .error e
      | .ok (k, r', c') => loopP f E d c' m (ks ++ [k]) tx r'
end
/-- marks that are white are passed over. -/
def skipW : List PMark → List PMark
  | [] => []
  | m :: r => if m.kind = 3 ∧ blankB m.text = true then skipW r else m :: r
def treeP (E : Int) (ms : List PMark) : Except TErr PNode :=
  match skipW ms with
  | [] => .error (E, 8)
  | m :: r => if m.kind ≠ 1 ∧ m.kind ≠ 4 then .error (m.pos, 8)
    else match nodeP (2 * r.length + 2) E 1 0 m r with
      | .error e => .error e
      | .ok (n, r', _) => match skipW r' with
        | [] => .ok n
        | x :: _ => .error (x.pos, 8)
def parseT (s : Bytes) : Except TErr PNode :=
  match marks s with
  | .error (k, e) => .error (k, e)
  | .ok ms => treeP s.length ms

/-! ### the marks of a tree -/
mutual
def tmk : PNode → Nat → Nat → Option (List PMark)
  | .mk nm _ ats ks tx, d, k =>
    if 64 < d ∨ 8192 < k ∨ (ks ≠ [] ∧ tx ≠ []) then none
    else if ks = [] ∧ tx = [] then some [⟨4, 0, nm, ats, []⟩]
    else match tmkL ks (d + 1) (k + 1) with
      | none => none
      | some l => some (⟨1, 0, nm, ats, []⟩ :: (l ++ ((if tx = [] then [] else [⟨3, 0, [], [], tx⟩]) ++ [⟨2, 0, nm, [], []⟩])))
def tmkL : List PNode → Nat → Nat → Option (List PMark)
  | [], _, _ => some []
  | n :: r, d, k => match tmk n d k with
    | none => none
    | some l => match tmkL r d (k + l.length) with
      | none => none
      | some l' => some (l ++ l')
end
mutual
def rmk : PNode → Nat → Int → Option (List PMark × Int)
  | .mk nm _ ats ks tx, d, left =>
    if 64 < d ∨ left - 1 < 0 ∨ (ks ≠ [] ∧ tx ≠ []) then none
    else if ks = [] ∧ tx = [] then some ([⟨4, 0, nm, ats, []⟩], left - 1)
    else match rmkL ks (d + 1) (left - 1) with
      | none => none
      | some (l, q) => some (⟨1, 0, nm, ats, []⟩ :: (l ++ ((if tx = [] then [] else [⟨3, 0, [], [], tx⟩]) ++ [⟨2, 0, nm, [], []⟩])), q)
def rmkL : List PNode → Nat → Int → Option (List PMark × Int)
  | [], _, q => some ([], q)
  | n :: r, d, q => match rmk n d q with
    | none => none
    | some (l, q') => match rmkL r d q' with
      | none => none
      | some (l', q'') => some (l ++ l', q'')
end
mutual
def tsize : PNode → Nat
  | .mk _ _ _ ks _ => 1 + tsizeL ks
def tsizeL : List PNode → Nat
  | [] => 0
  | n :: r => tsize n + tsizeL r
end
mutual
/-- as the program counts. -/
def sizeC : PNode → Nat
  | .mk _ _ _ ks _ => sizeCL ks 1
def sizeCL : List PNode → Nat → Nat
  | [], s => s
  | n :: r, s => if 4096 < s then s else sizeCL r (s + sizeC n)
end
mutual
def bigP : PNode → Nat → Int → Int
  | .mk _ _ _ ks _, d, q => if 80 < d then -1 else bigL ks (d + 1) (q - 1)
def bigL : List PNode → Nat → Int → Int
  | [], _, q => q
  | n :: r, d, q => if q < 0 then q else bigL r d (bigP n d q)
end
def textT (n : PNode) : Except Int Bytes :=
  match tmk n 1 0 with
  | none => .error 2
  | some l => if 4096 < sizeC n then .error 2 else textP l
def rtextT (n : PNode) : Except Int Bytes :=
  match rmk n 1 4096 with
  | none => .error 2
  | some (l, _) => textP l

/-! ### laws -/
theorem tsize_pos (n : PNode) : 1 ≤ tsize n := by cases n; unfold tsize; omega
mutual
theorem tmk_len : ∀ (n : PNode) (d k : Nat) (l : List PMark), tmk n d k = some l → l.length ≤ 3 * tsize n ∧ 1 ≤ l.length
  | .mk nm ps ats ks tx, d, k, l, h => by
    unfold tmk at h
    split at h
    · simp at h
    · split at h
      · simp only [Option.some.injEq] at h; subst h; simp [tsize]; omega
      · split at h
        · simp at h
        · next l0 h0 =>
          simp only [Option.some.injEq] at h; subst h
          have := tmkL_len ks _ _ _ h0
          simp only [List.length_cons, List.length_append, tsize, List.length_nil]
          split <;> simp <;> omega
theorem tmkL_len : ∀ (ks : List PNode) (d k : Nat) (l : List PMark), tmkL ks d k = some l → l.length ≤ 3 * tsizeL ks
  | [], d, k, l, h => by simp only [tmkL, Option.some.injEq] at h; subst h; simp
  | n :: r, d, k, l, h => by
    unfold tmkL at h
    split at h
    · simp at h
    · next l1 h1 =>
      split at h
      · simp at h
      · next l2 h2 =>
        simp only [Option.some.injEq] at h; subst h
        have e1 := tmk_len n _ _ _ h1
        have e2 := tmkL_len r _ _ _ h2
        rw [List.length_append, tsizeL]; omega
end
mutual
theorem rmk_eq : ∀ (n : PNode) (d k : Nat) (q : Int), (tsize n : Int) ≤ q → k + 3 * tsize n ≤ 8192 → rmk n d q = (tmk n d k).map (fun l => (l, q - tsize n))
  | .mk nm ps ats ks tx, d, k, q, hq, hk => by
    have hs : tsize (.mk nm ps ats ks tx) = 1 + tsizeL ks := by rw [tsize]
    unfold rmk tmk
    by_cases h1 : 64 < d ∨ (ks ≠ [] ∧ tx ≠ [])
    · rw [if_pos (by rcases h1 with h | h <;> simp [h]), if_pos (by rcases h1 with h | h <;> simp [h])]; rfl
    · have n1 : ¬(64 < d ∨ q - 1 < 0 ∨ ks ≠ [] ∧ tx ≠ []) := fun h => h.elim (fun h => h1 (.inl h)) (fun h => h.elim (fun h => absurd h (by omega)) (fun h => h1 (.inr h)))
      have n2 : ¬(64 < d ∨ 8192 < k ∨ ks ≠ [] ∧ tx ≠ []) := fun h => h.elim (fun h => h1 (.inl h)) (fun h => h.elim (fun h => absurd h (by omega)) (fun h => h1 (.inr h)))
      rw [if_neg n1, if_neg n2]
      by_cases h2 : ks = [] ∧ tx = []
      · rw [if_pos h2, if_pos h2]
        obtain ⟨rfl, rfl⟩ := h2
        simp [tsize, tsizeL]
      · rw [if_neg h2, if_neg h2, rmkL_eq ks (d + 1) (k + 1) (q - 1) (by omega) (by omega)]
        cases tmkL ks (d + 1) (k + 1) with
        | none => rfl
        | some l => simp only [Option.map_some, hs]; congr 2; omega
theorem rmkL_eq : ∀ (ks : List PNode) (d k : Nat) (q : Int), (tsizeL ks : Int) ≤ q → k + 3 * tsizeL ks ≤ 8192 → rmkL ks d q = (tmkL ks d k).map (fun l => (l, q - tsizeL ks))
  | [], d, k, q, _, _ => by simp [rmkL, tmkL, tsizeL]
  | n :: r, d, k, q, hq, hk => by
    have hs : tsizeL (n :: r) = tsize n + tsizeL r := by rw [tsizeL]
    unfold rmkL tmkL
    rw [rmk_eq n d k q (by omega) (by omega)]
    cases h1 : tmk n d k with
    | none => rfl
    | some l =>
      have e1 := tmk_len n _ _ _ h1
      simp only [Option.map_some]
      rw [rmkL_eq r d (k + l.length) (q - tsize n) (by omega) (by omega)]
      cases tmkL r d (k + l.length) with
      | none => rfl
      | some l' => simp only [Option.map_some, hs]; congr 2; omega
end
mutual
theorem bigP_size : ∀ (n : PNode) (d : Nat) (q : Int), 0 ≤ bigP n d q → bigP n d q = q - tsize n
  | .mk nm ps ats ks tx, d, q, h => by
    have hs : tsize (.mk nm ps ats ks tx) = 1 + tsizeL ks := by rw [tsize]
    unfold bigP at h ⊢
    split at h
    · omega
    · next hd => rw [if_neg hd, bigL_size ks _ _ h, hs]; omega
theorem bigL_size : ∀ (ks : List PNode) (d : Nat) (q : Int), 0 ≤ bigL ks d q → bigL ks d q = q - tsizeL ks
  | [], d, q, h => by simp [bigL, tsizeL]
  | n :: r, d, q, h => by
    have hs : tsizeL (n :: r) = tsize n + tsizeL r := by rw [tsizeL]
    unfold bigL at h ⊢
    split at h
    · omega
    · next hd =>
      have h1 := bigL_size r _ _ h
      have h2 : 0 ≤ bigP n d q := by omega
      rw [if_neg hd, h1, bigP_size n d q h2, hs]; omega
end
theorem bigL_neg : ∀ (ks : List PNode) (d : Nat) (q : Int), q < 0 → bigL ks d q = q
  | [], _, _, _ => by simp [bigL]
  | n :: r, d, q, h => by simp [bigL, h]
mutual
theorem bigP_le : ∀ (n : PNode) (d : Nat) (q : Int), 0 ≤ q → -1 ≤ bigP n d q ∧ bigP n d q ≤ q
  | .mk nm ps ats ks tx, d, q, hq => by
    unfold bigP
    split
    · omega
    · have := bigL_le ks (d + 1) (q - 1) (by omega); omega
theorem bigL_le : ∀ (ks : List PNode) (d : Nat) (q : Int), -1 ≤ q → -1 ≤ bigL ks d q ∧ bigL ks d q ≤ q
  | [], d, q, h => by simp [bigL]; omega
  | n :: r, d, q, h => by
    unfold bigL
    split
    · omega
    · have h1 := bigP_le n d q (by omega)
      have h2 := bigL_le r d (bigP n d q) (by omega)
      omega
end
mutual
theorem sizeC_eq : ∀ (n : PNode), (sizeC n = tsize n ∧ sizeC n ≤ 4096) ∨ (4096 < sizeC n ∧ 4096 < tsize n)
  | .mk nm ps ats ks tx => by
    have hs : tsize (.mk nm ps ats ks tx) = 1 + tsizeL ks := by rw [tsize]
    unfold sizeC
    have := sizeCL_eq ks 1
    omega
theorem sizeCL_eq : ∀ (ks : List PNode) (s : Nat), (sizeCL ks s = s + tsizeL ks ∧ sizeCL ks s ≤ 4096) ∨ (4096 < sizeCL ks s ∧ 4096 < s + tsizeL ks)
  | [], s => by simp [sizeCL, tsizeL]; omega
  | n :: r, s => by
    have hs : tsizeL (n :: r) = tsize n + tsizeL r := by rw [tsizeL]
    unfold sizeCL
    split
    · omega
    · have h1 := sizeC_eq n
      have h2 := sizeCL_eq r (s + sizeC n)
      omega
end
mutual
theorem sizeC_le : ∀ (n : PNode), sizeC n ≤ tsize n
  | .mk nm ps ats ks tx => by
    have hs : tsize (.mk nm ps ats ks tx) = 1 + tsizeL ks := by rw [tsize]
    unfold sizeC
    have := sizeCL_le ks 1
    omega
theorem sizeCL_le : ∀ (ks : List PNode) (s : Nat), sizeCL ks s ≤ s + tsizeL ks
  | [], s => by simp [sizeCL, tsizeL]
  | n :: r, s => by
    have hs : tsizeL (n :: r) = tsize n + tsizeL r := by rw [tsizeL]
    unfold sizeCL
    split
    · omega
    · have h1 := sizeC_le n
      have h2 := sizeCL_le r (s + sizeC n)
      omega
end
/-- the two texts of a tree that is not great are one. -/
theorem textT_eq (n : PNode) (h : 0 ≤ bigP n 1 500) : rtextT n = textT n := by
  have h1 := bigP_size n 1 500 h
  have h2 := sizeC_le n
  unfold rtextT textT
  rw [rmk_eq n 1 0 4096 (by omega) (by omega)]
  cases tmk n 1 0 with
  | none => rfl
  | some l => simp only [Option.map_some]; rw [if_neg (by omega)]
end Go.Sof
