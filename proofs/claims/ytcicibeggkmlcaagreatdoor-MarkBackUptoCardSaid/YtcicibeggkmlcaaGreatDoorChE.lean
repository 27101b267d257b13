/- The walk of chars.entity. Conditions: the library's tables lie as they are laid. -/
import Derived.Test.YtcicibeggkmlcaaGreatDoorChD
import Derived.Shelf.Strings.SlTrimAscii
namespace Go.Proofs.YtcicibeggkmlcaaGreatDoor
open Go.RowKit Go.Sof

def decSet : Bytes := [48, 49, 50, 51, 52, 53, 54, 55, 56, 57]
def hexSet : Bytes := [48, 49, 50, 51, 52, 53, 54, 55, 56, 57, 97, 98, 99, 100, 101, 102, 65, 66, 67, 68, 69, 70]
theorem decSet_iff : ∀ x : Fin 256, decSet.contains (UInt8.ofNat x.val) = decide (hexV x.val < 10) := by decide +kernel
theorem hexSet_iff : ∀ x : Fin 256, hexSet.contains (UInt8.ofNat x.val) = decide (hexV x.val < 16) := by decide +kernel
theorem decSet_c (c : UInt8) : decSet.contains c = decide (hexV c.toNat < 10) := by
  have := decSet_iff ⟨c.toNat, c.toNat_lt⟩; simpa using this
theorem hexSet_c (c : UInt8) : hexSet.contains c = decide (hexV c.toNat < 16) := by
  have := hexSet_iff ⟨c.toNat, c.toNat_lt⟩; simpa using this

theorem dropWhile_nil {p : UInt8 → Bool} : ∀ l : Bytes, l.dropWhile p = [] ↔ ∀ c ∈ l, p c = true := by
  intro l
  induction l with
  | nil => simp
  | cons b t ih =>
    rw [List.dropWhile_cons]
    by_cases h : p b = true
    · rw [if_pos h, ih]; simp [h]
    · rw [if_neg h]; simp [h]
theorem dropWhile_mem {p : UInt8 → Bool} : ∀ (l : Bytes) (c : UInt8), c ∈ l → p c = false → c ∈ l.dropWhile p := by
  intro l
  induction l with
  | nil => intro c hc; cases hc
  | cons b t ih =>
    intro c hc hp
    rw [List.dropWhile_cons]
    by_cases h : p b = true
    · rw [if_pos h]
      rcases List.mem_cons.1 hc with rfl | hc
      · rw [h] at hp; cases hp
      · exact ih c hc hp
    · rw [if_neg h]; exact hc
theorem trimS_nil (l cs : Bytes) : Lib.trimS l cs = [] ↔ ∀ c ∈ l, cs.contains c = true := by
  unfold Lib.trimS Lib.trimLeftS Lib.trimRightS
  rw [dropWhile_nil]
  constructor
  · intro h c hc
    cases hp : cs.contains c with
    | true => rfl
    | false =>
      have h1 := dropWhile_mem (p := (cs.contains ·)) l.reverse c (by simpa using hc) hp
      have := h c (by simpa using h1)
      rw [hp] at this; exact this
  · intro h c hc
    have h1 := List.mem_reverse.1 hc
    exact h c (by have := List.dropWhile_sublist (cs.contains ·) |>.subset h1; simpa using this)

/-- what stands behind the sharp. -/
def hashOf (l : Bytes) : Bytes := Lib.trimPrefix l [35]
def isHash (l : Bytes) : Bool := Lib.hasPrefix l [35]
def hexOf (l : Bytes) : Bytes := Lib.trimPrefix (hashOf l) [120]
def isHex (l : Bytes) : Bool := Lib.hasPrefix (hashOf l) [120]

def headIs (l : Bytes) (c : UInt8) : Bool := match l with | [] => false | b :: _ => b == c
theorem hasPrefix_one (l : Bytes) (c : UInt8) : Lib.hasPrefix l [c] = headIs l c := by
  unfold Lib.hasPrefix headIs
  cases l with
  | nil => rfl
  | cons b t =>
    simp only [List.isPrefixOf, Bool.and_true]
    exact BEq.comm

theorem entity_rest (l : Bytes) (h1 : l ≠ [97, 109, 112]) (h2 : l ≠ [108, 116]) (h3 : l ≠ [103, 116]) (h4 : l ≠ [113, 117, 111, 116]) (h5 : l ≠ [97, 112, 111, 115]) :
    entity l = if isHash l = false then none else numE (if isHex l then 16 else 10) (hexOf l) := by
  unfold entity
  rw [if_neg h1, if_neg h2, if_neg h3, if_neg h4, if_neg h5]
  unfold isHash hexOf isHex hashOf Lib.trimPrefix
  simp only [hasPrefix_one]
  cases l with
  | nil => rfl
  | cons b t =>
    by_cases hb : b = 35
    · subst hb
      rw [show headIs (35 :: t) 35 = true from by simp [headIs]]
      simp only [if_true, List.length_cons, List.length_nil, Nat.zero_add, List.drop_succ_cons, List.drop_zero]
      cases t with
      | nil => rfl
      | cons c u =>
        by_cases hc : c = 120
        · subst hc
          rw [show headIs (120 :: u) 120 = true from by simp [headIs]]
          simp
        · rw [show headIs (c :: u) 120 = false from by simp [headIs, hc]]
          simp only [Bool.false_eq_true, if_false]
          split
          · rename_i u' e; cases e; exact absurd rfl hc
          · rename_i t' _ e; cases e; simp
          · rename_i hx hy; exact absurd rfl (hy _)
    · rw [show headIs (b :: t) 35 = false from by simp [headIs, hb]]
      simp only [if_true]
      split
      · rename_i u' e; cases e; exact absurd rfl hb
      · rename_i t' e; cases e; exact absurd rfl hb
      · rfl

theorem numE_none (base : Nat) (l : Bytes) (h : l = [] ∨ 8 < l.length ∨ ¬ ∀ c ∈ l, hexV c.toNat < base) : numE base l = none := by
  unfold numE
  rw [if_pos]
  rcases h with h | h | h
  · exact Or.inl h
  · exact Or.inr (Or.inl h)
  · right; right
    simp only [List.any_eq_true, decide_eq_true_eq]
    apply Classical.byContradiction
    intro hn
    exact h fun c hc => Nat.lt_of_not_le fun hle => hn ⟨c, hc, hle⟩
theorem numE_some (base : Nat) (l : Bytes) (h1 : l ≠ []) (h2 : l.length ≤ 8) (h3 : ∀ c ∈ l, hexV c.toNat < base) : numE base l = if signB (numV base l) then some (utf (numV base l)) else none := by
  unfold numE
  rw [if_neg]
  simp only [not_or]
  refine ⟨h1, by omega, ?_⟩
  simp only [List.any_eq_true, decide_eq_true_eq, not_exists, not_and]
  intro c hc hb
  have := h3 c hc; omega

/-- what entity returns. -/
def entV (o : Option Bytes) : Value := match o with | none => .tuple #[.string ⟨#[]⟩, .bool false] | some t => .tuple #[.string ⟨t.toArray⟩, .bool true]

theorem eqStr_ne (s : ByteArray) (l : Bytes) (h : s.data.toList ≠ l) : (s.toList == l) = false := by rw [Lib.toList_data]; simpa using h
theorem ba_of (s : ByteArray) (l : Bytes) (h : s.data.toList = l) : s = ⟨l.toArray⟩ := by obtain ⟨⟨l'⟩⟩ := s; simp at h; rw [h]

theorem trim_c (base : Nat) (s cutset : ByteArray) (w : World) (hs : s.size ≤ 9223372036854775807) (hb : (base = 10 ∧ cutset.data.toList = decSet) ∨ (base = 16 ∧ cutset.data.toList = hexSet)) :
    Calls Tryz.prog 76 #[.string s, .string cutset] w fun e w' => e = .returned (.string ⟨(Lib.trimS s.data.toList cutset.data.toList).toArray⟩) ∧ Below w.heap.size w w' :=
  Tryz.strings_Trim_asc s cutset w hs (by
    have : cutset.size = cutset.data.toList.length := rfl
    rw [this]; rcases hb with ⟨_, hb⟩ | ⟨_, hb⟩ <;> (rw [hb]; decide +kernel)) (by
    intro j b hj
    rcases hb with ⟨_, hb⟩ | ⟨_, hb⟩
    · rw [hb] at hj
      exact (show ∀ x ∈ decSet, x.toNat < 128 from by decide) b (List.mem_of_getElem? hj)
    · rw [hb] at hj
      exact (show ∀ x ∈ hexSet, x.toNat < 128 from by decide) b (List.mem_of_getElem? hj))

theorem trim_dec (s cutset : ByteArray) (w : World) (hs : s.size ≤ 9223372036854775807) (hb : cutset.data.toList = decSet) :
    Calls Tryz.prog 76 #[.string s, .string cutset] w fun e w' => e = .returned (.string ⟨(Lib.trimS s.data.toList decSet).toArray⟩) ∧ Below w.heap.size w w' := by
  rw [← hb]; exact trim_c 10 s cutset w hs (Or.inl ⟨rfl, hb⟩)
theorem trim_hex (s cutset : ByteArray) (w : World) (hs : s.size ≤ 9223372036854775807) (hb : cutset.data.toList = hexSet) :
    Calls Tryz.prog 76 #[.string s, .string cutset] w fun e w' => e = .returned (.string ⟨(Lib.trimS s.data.toList hexSet).toArray⟩) ∧ Below w.heap.size w w' := by
  rw [← hb]; exact trim_c 16 s cutset w hs (Or.inr ⟨rfl, hb⟩)

theorem digits_of (base : Nat) (set : Bytes) (h : ∀ c, set.contains c = decide (hexV c.toNat < base)) (l : Bytes) : Lib.trimS l set = [] ↔ ∀ c ∈ l, hexV c.toNat < base := by
  rw [trimS_nil]
  constructor
  · intro hh c hc; have := hh c hc; rw [h] at this; simpa using this
  · intro hh c hc; rw [h]; simpa using hh c hc

theorem ba_eta (b : ByteArray) : (⟨b.data.toList.toArray⟩ : ByteArray) = b := by obtain ⟨⟨l⟩⟩ := b; rfl
set_option maxRecDepth 1000000 in
theorem utf_enc (n : Nat) : (⟨(utf n).toArray⟩ : ByteArray) = Utf8.encode (n : Int) := by
  unfold utf; exact ba_eta _

set_option maxRecDepth 100000 in
/-- the five names. -/
theorem entity_five (s : ByteArray) (w : World) (h : s.data.toList = [97, 109, 112] ∨ s.data.toList = [108, 116] ∨ s.data.toList = [103, 116] ∨ s.data.toList = [113, 117, 111, 116] ∨ s.data.toList = [97, 112, 111, 115]) :
    Calls Tryz.prog 50 #[.string s] w fun e w' => e = .returned (entV (entity s.data.toList)) ∧ Below w.heap.size w w' := by
  rcases h with h | h | h | h | h
  · rw [h, ba_of s _ h, show entity [97, 109, 112] = some [38] from by decide +kernel, show entV (some [38]) = .tuple #[.string ⟨#[38]⟩, .bool true] from rfl]
    go_enter Tryz.func50, Tryz.ntmps50
    go_wp2_with fail
    go_ret2
    exact ⟨rfl, Below.refl _ _⟩
  · rw [h, ba_of s _ h, show entity [108, 116] = some [60] from by decide +kernel, show entV (some [60]) = .tuple #[.string ⟨#[60]⟩, .bool true] from rfl]
    go_enter Tryz.func50, Tryz.ntmps50
    go_wp2_with fail
    go_ret2
    exact ⟨rfl, Below.refl _ _⟩
  · rw [h, ba_of s _ h, show entity [103, 116] = some [62] from by decide +kernel, show entV (some [62]) = .tuple #[.string ⟨#[62]⟩, .bool true] from rfl]
    go_enter Tryz.func50, Tryz.ntmps50
    go_wp2_with fail
    go_ret2
    exact ⟨rfl, Below.refl _ _⟩
  · rw [h, ba_of s _ h, show entity [113, 117, 111, 116] = some [34] from by decide +kernel, show entV (some [34]) = .tuple #[.string ⟨#[34]⟩, .bool true] from rfl]
    go_enter Tryz.func50, Tryz.ntmps50
    go_wp2_with fail
    go_ret2
    exact ⟨rfl, Below.refl _ _⟩
  · rw [h, ba_of s _ h, show entity [97, 112, 111, 115] = some [39] from by decide +kernel, show entV (some [39]) = .tuple #[.string ⟨#[39]⟩, .bool true] from rfl]
    go_enter Tryz.func50, Tryz.ntmps50
    go_wp2_with fail
    go_ret2
    exact ⟨rfl, Below.refl _ _⟩
end Go.Proofs.YtcicibeggkmlcaaGreatDoor
