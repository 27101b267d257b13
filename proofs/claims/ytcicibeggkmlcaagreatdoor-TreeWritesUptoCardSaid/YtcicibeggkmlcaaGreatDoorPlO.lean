/- Plain mathematics of marks: marks as a text, and that text read again. Conditions: none. -/
import Derived.Test.YtcicibeggkmlcaaGreatDoorPlN
namespace Go.Sof
open Go.Lib

def attrT (a : PAttr) : Bytes := 32 :: (a.name ++ 61 :: 34 :: (escL a.value ++ [34]))
def attrsT (as : List PAttr) : Bytes := as.flatMap attrT
/-- the attributes of a tag as a text: those behind 'seen'. -/
def oneA : List PAttr → List PAttr → Bytes → Option Bytes
  | _, [], out => some out
  | seen, a :: r, out => if bad a.value ≠ none ∨ nameB a.name = false ∨ seen.any (fun b => b.name == a.name) = true then none else oneA (seen ++ [a]) r (out ++ attrT a)
def endT (kd : Int) : Bytes := if kd = 4 then [47, 62] else [62]
def oneP (m : PMark) : Option Bytes :=
  if m.kind = 3 then (if bad m.text = none ∧ m.name = [] ∧ m.attrs = [] then some (escL m.text) else none)
  else if nameB m.name = false ∨ m.text ≠ [] ∨ m.kind < 1 ∨ 4 < m.kind ∨ m.kind = 2 ∧ m.attrs ≠ [] then none
  else if m.kind = 2 then some (60 :: 47 :: (m.name ++ [62]))
  else match oneA [] m.attrs (60 :: m.name) with
    | none => none
    | some o => some (o ++ endT m.kind)
def textF : List PMark → Bytes → Bool → Except Int Bytes
  | [], out, full => if full = true then .error 10 else .ok out
  | m :: r, out, full => match oneP m with
    | none => .error 2
    | some s => if full = true ∨ 65536 < out.length + s.length then textF r out true else textF r (out ++ s) false
def textP (ms : List PMark) : Except Int Bytes := textF ms [] false
/-- as Go returns it. -/
def textR (ms : List PMark) : Bytes × Int := match textP ms with | .ok t => (t, 0) | .error e => ([], e)

theorem textF_full : ∀ (ms : List PMark) (out T : Bytes), textF ms out true ≠ .ok T
  | [], _, _ => by simp [textF]
  | m :: r, out, T => by
    unfold textF
    cases oneP m with
    | none => simp
    | some s => simp only [true_or, if_true]; exact textF_full r out T

theorem textF_ok : ∀ (ms : List PMark) (out T : Bytes), out.length ≤ 65536 → textF ms out false = .ok T → T.length ≤ 65536 ∧ ∃ ss : List Bytes, ms.map oneP = ss.map some ∧ T = out ++ ss.flatten
  | [], out, T, ho, h => by
    simp only [textF, Bool.false_eq_true, if_false, Except.ok.injEq] at h
    subst h
    exact ⟨ho, [], rfl, by simp⟩
  | m :: r, out, T, ho, h => by
    unfold textF at h
    cases hs : oneP m with
    | none => rw [hs] at h; simp at h
    | some s =>
      rw [hs] at h
      simp only [Bool.false_eq_true, false_or] at h
      split at h
      · exact absurd h (textF_full _ _ _)
      · rename_i hl
        obtain ⟨h1, ss, h2, h3⟩ := textF_ok r (out ++ s) T (by simp; omega) h
        exact ⟨h1, s :: ss, by simp [hs, h2], by simp [h3]⟩

/-! ### names -/
theorem nameB_all {nm : Bytes} (h : nameB nm = true) : ∀ b ∈ nm, nmC b = true := by
  intro b hb
  unfold nameB at h
  simp only [Bool.and_eq_true, List.all_eq_true] at h
  have := h.2 b hb
  unfold nmC nameB
  simp only [List.all_cons, List.all_nil, this, Bool.and_true]
  exact (by decide : (true && decide ((2 : Nat) ≤ 32) && letterB 97 && nameCh 97) = true)
theorem nameB_ne {nm : Bytes} (h : nameB nm = true) : nm ≠ [] := by
  rintro rfl; simp [nameB] at h
theorem nmC_61 : nmC 61 = false := by decide
theorem nmC_32 : nmC 32 = false := by decide
theorem nmC_47 : nmC 47 = false := by decide
theorem nmC_62 : nmC 62 = false := by decide
theorem nmC_33 : nmC 33 = false := by decide
theorem nmC_9 : nmC 9 = false := by decide
theorem nmC_10 : nmC 10 = false := by decide
theorem nmC_13 : nmC 13 = false := by decide

theorem nameP_app {nm r : Bytes} (h : nameB nm = true) (hr : ∃ b t, r = b :: t ∧ nmC b = false) : nameP (nm ++ r) = nm := by
  obtain ⟨b, t, rfl, hb⟩ := hr
  have e : (nm ++ b :: t).takeWhile nmC = nm := by
    rw [List.takeWhile_append_of_pos (nameB_all h)]
    simp [hb]
  unfold nameP
  rw [e, if_pos h]

/-- a name's first byte is none of the signs that stand about names. -/
theorem name_head {nm : Bytes} (h : nameB nm = true) : ∃ b t, nm = b :: t ∧ b ≠ 61 ∧ b ≠ 32 ∧ b ≠ 47 ∧ b ≠ 62 ∧ b ≠ 33 ∧ b ≠ 9 ∧ b ≠ 10 ∧ b ≠ 13 := by
  cases nm with
  | nil => exact absurd rfl (nameB_ne h)
  | cons b t =>
    have hb := nameB_all h b (by simp)
    refine ⟨b, t, rfl, ?_, ?_, ?_, ?_, ?_, ?_, ?_, ?_⟩ <;> (rintro rfl; revert hb)
    · rw [nmC_61]; simp
    · rw [nmC_32]; simp
    · rw [nmC_47]; simp
    · rw [nmC_62]; simp
    · rw [nmC_33]; simp
    · rw [nmC_9]; simp
    · rw [nmC_10]; simp
    · rw [nmC_13]; simp

theorem hp_one (b c : UInt8) (t : Bytes) : hasPrefix (b :: t) [c] = (c == b) := by simp [hasPrefix, List.isPrefixOf]
theorem hp_one_ne {b c : UInt8} (t : Bytes) (h : b ≠ c) : hasPrefix (b :: t) [c] = false := by rw [hp_one, beq_eq_false_iff_ne]; exact fun e => h e.symm
theorem hp_one_eq (b : UInt8) (t : Bytes) : hasPrefix (b :: t) [b] = true := by rw [hp_one]; simp

theorem idx_app (u t : Bytes) (c : UInt8) (h : ∀ b ∈ u, b ≠ c) : idx (u ++ c :: t) [c] = some u.length := by
  refine idx_of (by simp) ?_ (fun j hj => ?_)
  · unfold occAt; rw [List.drop_left]; simp
  · unfold occAt
    rw [List.drop_append_of_le_length (by omega)]
    cases hd : u.drop j with
    | nil => have := congrArg List.length hd; simp at this; omega
    | cons b v =>
      have hb : b ∈ u := List.mem_of_mem_drop (hd ▸ List.mem_cons_self)
      have := h b hb
      simp only [List.cons_append, List.isPrefixOf, Bool.and_true]
      rw [beq_eq_false_iff_ne]; exact fun e => this e.symm

theorem attrT_len (a : PAttr) : (attrT a).length = a.name.length + (escL a.value).length + 4 := by simp [attrT]; omega

theorem attrP_text (a : PAttr) (r : Bytes) (hn : nameB a.name = true) (hv : bad a.value = none) : attrP (a.name ++ 61 :: 34 :: (escL a.value ++ 34 :: r)) = .ok (a, (attrT a).length - 1) := by
  have e1 : nameP (a.name ++ 61 :: 34 :: (escL a.value ++ 34 :: r)) = a.name := nameP_app hn ⟨61, _, rfl, nmC_61⟩
  have d0 : (a.name ++ 61 :: 34 :: (escL a.value ++ 34 :: r)).drop a.name.length = 61 :: 34 :: (escL a.value ++ 34 :: r) := List.drop_left
  have d1 : (a.name ++ 61 :: 34 :: (escL a.value ++ 34 :: r)).drop (a.name.length + 1) = 34 :: (escL a.value ++ 34 :: r) := by rw [← List.drop_drop, d0]; rfl
  have d2 : (a.name ++ 61 :: 34 :: (escL a.value ++ 34 :: r)).drop (a.name.length + 2) = escL a.value ++ 34 :: r := by rw [← List.drop_drop, d0]; rfl
  refine (attrP_iff _ _ _).2 ?_
  rw [e1, d0, d1, d2]
  refine ⟨nameB_ne hn, rfl, hp_one_eq _ _, hp_one_eq _ _, (escL a.value).length, idx_app _ _ _ (fun b hb => (escL_clean _ hv b hb).2.2.1), ?_, by rw [attrT_len]; omega⟩
  rw [List.take_left]
  exact un_escL _ hv

theorem skipN_zero {b : UInt8} {t : Bytes} (h : whites.contains b = false) : skipN (b :: t) = 0 := by unfold skipN; rw [List.takeWhile_cons, h]; rfl
theorem skipN_one {b : UInt8} {t : Bytes} (h : whites.contains b = false) : skipN (32 :: b :: t) = 1 := by
  unfold skipN
  rw [List.takeWhile_cons, show whites.contains (32 : UInt8) = true from by decide, List.takeWhile_cons, h]; rfl
theorem white_not {b : UInt8} (h : b ≠ 32 ∧ b ≠ 9 ∧ b ≠ 10 ∧ b ≠ 13) : whites.contains b = false := by
  simp [whites, h]

theorem attrsP_text : ∀ (as2 : List PAttr) (f : Nat) (l : Bytes) (c : Nat) (as : List PAttr) (b : UInt8) (t out o : Bytes), l.drop c = attrsT as2 ++ b :: t → (b = 47 ∨ b = 62) → as2.length < f → oneA as as2 out = some o →
    attrsP f l c as = .ok (as ++ as2, c + (attrsT as2).length) ∧ o = out ++ attrsT as2
  | _, 0, _, _, _, _, _, _, _, _, _, h, _ => by omega
  | [], f + 1, l, c, as, b, t, out, o, hd, hb, _, ho => by
    have hd' : l.drop c = b :: t := hd
    have hw : whites.contains b = false := by rcases hb with rfl | rfl <;> decide
    refine ⟨?_, ?_⟩
    · unfold attrsP
      rw [hd', skipN_zero hw, if_pos (Or.inl rfl)]
      simp [attrsT]
    · simp only [oneA, Option.some.injEq] at ho; simp [attrsT, ho]
  | a :: as2, f + 1, l, c, as, b, t, out, o, hd, hb, hf, ho => by
    unfold oneA at ho
    split at ho
    · simp at ho
    rename_i hok
    simp only [not_or, Bool.not_eq_false, Bool.not_eq_true, ne_eq, Classical.not_not] at hok
    obtain ⟨hv, hn, hdup⟩ := hok
    obtain ⟨nb, nt, hnm, n1⟩ := name_head hn
    have hd0 : l.drop c = 32 :: (a.name ++ 61 :: 34 :: (escL a.value ++ 34 :: (attrsT as2 ++ b :: t))) := by
      rw [hd]; simp [attrsT, attrT]
    have hd1 : l.drop (c + 1) = a.name ++ 61 :: 34 :: (escL a.value ++ 34 :: (attrsT as2 ++ b :: t)) := by rw [← List.drop_drop, hd0]; rfl
    have hsk : skipN (l.drop c) = 1 := by rw [hd0, hnm]; exact skipN_one (white_not ⟨n1.2.1, n1.2.2.2.2.2.1, n1.2.2.2.2.2.2.1, n1.2.2.2.2.2.2.2⟩)
    have hx : ∀ z, nb ≠ z → hasPrefix (l.drop (c + 1)) [z] = false := fun z hz => by rw [hd1, hnm]; exact hp_one_ne _ hz
    have hl : ¬ l.length ≤ c + 1 := by
      intro hl
      have := congrArg List.length hd1
      simp only [List.length_drop, List.length_append, List.length_cons] at this
      omega
    have hat := attrP_text a (attrsT as2 ++ b :: t) hn hv
    have hlen := attrT_len a
    have hd2 : l.drop (c + 1 + ((attrT a).length - 1)) = attrsT as2 ++ b :: t := by
      have e : c + 1 + ((attrT a).length - 1) = c + (attrT a).length := by omega
      rw [e, ← List.drop_drop, hd]
      have : attrsT (a :: as2) ++ b :: t = attrT a ++ (attrsT as2 ++ b :: t) := by simp [attrsT]
      rw [this, List.drop_left]
    obtain ⟨u1, u2⟩ := attrsP_text as2 f l (c + 1 + ((attrT a).length - 1)) (as ++ [a]) b t (out ++ attrT a) o hd2 hb (by simpa using hf) ho
    refine ⟨?_, by rw [u2]; simp [attrsT]⟩
    unfold attrsP
    rw [hsk, if_neg (by rw [hx 62 n1.2.2.2.1, hx 47 n1.2.2.1]; simp; omega), hd1, hat]
    simp only
    rw [if_neg (by rw [hdup]; simp), u1]
    simp only [attrsT, List.flatMap_cons, List.length_append, List.append_assoc, List.cons_append, List.nil_append, Except.ok.injEq, Prod.mk.injEq, true_and]
    omega

theorem endP_text (l : Bytes) (c : Nat) (kd : Int) (t : Bytes) (hk : kd = 1 ∨ kd = 4) (h : l.drop c = endT kd ++ t) : endP l c = some (kd, c + (endT kd).length) := by
  unfold endP
  have h1 : l.drop (c + 1) = (endT kd ++ t).drop 1 := by rw [← List.drop_drop, h]
  rw [h, h1]
  rcases hk with rfl | rfl
  · rw [show endT 1 = [62] from rfl]
    simp only [List.cons_append, List.nil_append]
    rw [hp_one_ne _ (by decide), if_neg (by simp), if_pos (hp_one_eq _ _)]; simp
  · rw [show endT 4 = [47, 62] from rfl]
    simp only [List.cons_append, List.nil_append, List.drop_succ_cons, List.drop_zero]
    rw [if_pos (hp_one_eq _ _), if_pos (hp_one_eq _ _)]; simp

theorem oneA_len : ∀ (as2 as : List PAttr) (out o : Bytes), oneA as as2 out = some o → as2.length ≤ (attrsT as2).length
  | [], _, _, _, _ => by simp
  | a :: as2, as, out, o, h => by
    unfold oneA at h
    split at h
    · simp at h
    have := oneA_len as2 _ _ _ h
    have := attrT_len a
    simp only [attrsT, List.flatMap_cons, List.length_append, List.length_cons] at *
    omega

/-- a tag's text is that tag. -/
theorem tagP_text (m : PMark) (s T : Bytes) (hk : m.kind ≠ 3) (h : oneP m = some s) (hs : s.length ≤ 65536) : tagP (s ++ T) = .ok (strip m, s.length) ∧
    ∃ b t, s = 60 :: b :: t ∧ b ≠ 33 := by
  unfold oneP at h
  rw [if_neg hk] at h
  split at h
  · simp at h
  rename_i hok
  simp only [not_or, Bool.not_eq_false, ne_eq, Classical.not_not] at hok
  obtain ⟨hn, htx, hk1, hk4, hcl⟩ := hok
  obtain ⟨nb, nt, hnm, n1⟩ := name_head hn
  split at h
  · rename_i hk2
    have has : m.attrs = [] := Classical.byContradiction fun hne => hcl ⟨hk2, hne⟩
    simp only [Option.some.injEq] at h
    subst h
    refine ⟨?_, 47, _, rfl, by decide⟩
    have d1 : ((60 :: 47 :: (m.name ++ [62]) : Bytes) ++ T).drop 1 = 47 :: (m.name ++ 62 :: T) := by simp
    have d2 : ((60 :: 47 :: (m.name ++ [62]) : Bytes) ++ T).drop 2 = m.name ++ 62 :: T := by simp
    have e1 : nameP (m.name ++ 62 :: T) = m.name := nameP_app hn ⟨62, _, rfl, nmC_62⟩
    have d3 : ((60 :: 47 :: (m.name ++ [62]) : Bytes) ++ T).drop (2 + m.name.length) = 62 :: T := by rw [← List.drop_drop, d2, List.drop_left]
    unfold tagP
    rw [d1, hp_one_eq, if_pos rfl]
    unfold closeP
    rw [d2, e1, if_neg (nameB_ne hn), d3, skipN_zero (by decide), Nat.add_zero, d3, hp_one_eq, if_pos rfl]
    simp only [Except.ok.injEq, Prod.mk.injEq, strip, has, htx, hk2, true_and]
    simp only [List.length_cons, List.length_append, List.length_nil]
    omega
  · rename_i hk2
    cases ho : oneA [] m.attrs (60 :: m.name) with
    | none => rw [ho] at h; simp at h
    | some o =>
      rw [ho] at h
      simp only [Option.some.injEq] at h
      have hkd : m.kind = 1 ∨ m.kind = 4 := by omega
      obtain ⟨eb, et, heT, heb⟩ : ∃ b t, endT m.kind ++ T = b :: t ∧ (b = 47 ∨ b = 62) := by
        rcases hkd with e | e <;> rw [e]
        · exact ⟨62, T, rfl, Or.inr rfl⟩
        · exact ⟨47, 62 :: T, rfl, Or.inl rfl⟩
      have key : ∀ l : Bytes, l = 60 :: (m.name ++ (attrsT m.attrs ++ (endT m.kind ++ T))) → (attrsT m.attrs).length ≤ 65536 → tagP l = .ok (strip m, 1 + m.name.length + (attrsT m.attrs).length + (endT m.kind).length) := by
        intro l hl hlen
        have d1 : l.drop 1 = m.name ++ (attrsT m.attrs ++ (endT m.kind ++ T)) := by rw [hl]; rfl
        have e1 : nameP (l.drop 1) = m.name := by
          rw [d1]
          refine nameP_app hn ?_
          cases has : m.attrs with
          | nil => refine ⟨eb, et, by rw [heT]; rfl, ?_⟩; rcases heb with rfl | rfl <;> decide
          | cons a r => exact ⟨32, (attrT a).tail ++ (attrsT r ++ (endT m.kind ++ T)), by simp [attrsT, attrT], nmC_32⟩
        have d2 : l.drop (1 + m.name.length) = attrsT m.attrs ++ eb :: et := by rw [← List.drop_drop, d1, List.drop_left, heT]
        have d3 : l.drop (1 + m.name.length + (attrsT m.attrs).length) = endT m.kind ++ T := by rw [← List.drop_drop, d2, List.drop_left, heT]
        unfold tagP
        rw [show hasPrefix (l.drop 1) [47] = false from by rw [d1, hnm]; exact hp_one_ne _ n1.2.2.1]
        simp only [Bool.false_eq_true, if_false]
        have hle := oneA_len _ _ _ _ ho
        obtain ⟨u1, _⟩ := attrsP_text m.attrs 65537 l (1 + m.name.length) [] eb et _ _ d2 heb (by omega) ho
        unfold openP
        rw [e1, if_neg (nameB_ne hn), u1]
        simp only
        rw [endP_text _ _ _ _ hkd d3]
        simp only [List.nil_append, strip, htx]
      have hoT : o = 60 :: m.name ++ attrsT m.attrs := by
        have hle := oneA_len _ _ _ _ ho
        exact (attrsP_text m.attrs (m.attrs.length + 1) (attrsT m.attrs ++ 47 :: []) 0 [] 47 [] _ _ rfl (Or.inl rfl) (Nat.lt_succ_self _) ho).2
      have hs2 : s = 60 :: (m.name ++ (attrsT m.attrs ++ endT m.kind)) := by rw [← h, hoT]; simp
      refine ⟨?_, nb, nt ++ (attrsT m.attrs ++ endT m.kind), by rw [hs2, hnm]; simp, n1.2.2.2.2.1⟩
      rw [key (s ++ T) (by rw [hs2]; simp) (by rw [hs2] at hs; simp only [List.length_cons, List.length_append] at hs; omega)]
      rw [hs2]
      simp only [List.length_cons, List.length_append, Except.ok.injEq, Prod.mk.injEq, true_and]
      omega

theorem stepP_tag (m : PMark) (s T : Bytes) (hk : m.kind ≠ 3) (h : oneP m = some s) (hs : s.length ≤ 65536) : stepP (s ++ T) = .ok (some (strip m), s.length) ∧ ∃ t, s = 60 :: t := by
  obtain ⟨h1, b, t, h2, h3⟩ := tagP_text m s T hk h hs
  refine ⟨?_, b :: t, h2⟩
  have e1 : hasPrefix (s ++ T) [60] = true := by rw [h2]; exact hp_one_eq _ _
  have e2 : hasPrefix (s ++ T) [60, 33, 45, 45] = false := by
    rw [h2]; simp only [hasPrefix, List.cons_append, List.isPrefixOf]
    rw [show ((33 : UInt8) == b) = false from by rw [beq_eq_false_iff_ne]; exact fun e => h3 e.symm]; simp
  have e3 : hasPrefix (s ++ T) [60, 33, 91, 67, 68, 65, 84, 65, 91] = false := by
    rw [h2]; simp only [hasPrefix, List.cons_append, List.isPrefixOf]
    rw [show ((33 : UInt8) == b) = false from by rw [beq_eq_false_iff_ne]; exact fun e => h3 e.symm]; simp
  unfold stepP
  rw [e1, e2, e3, h1]
  simp [someM]

theorem escL_ne {t : Bytes} (h : t ≠ []) : escL t ≠ [] := by
  cases t with
  | nil => exact absurd rfl h
  | cons b u =>
    intro e
    have : escB b ++ escL u = [] := by simpa [escL] using e
    have hb := (List.append_eq_nil_iff.1 this).1
    unfold escB at hb
    repeat' split at hb
    all_goals simp at hb

theorem stepP_chars (m : PMark) (s T : Bytes) (hk : m.kind = 3) (h : oneP m = some s) (ht : m.text ≠ []) (hT : T = [] ∨ ∃ t, T = 60 :: t) : stepP (s ++ T) = .ok (some (strip m), s.length) ∧ s ≠ [] := by
  unfold oneP at h
  rw [if_pos hk] at h
  split at h
  · rename_i hok
    obtain ⟨hb, hn, ha⟩ := hok
    simp only [Option.some.injEq] at h
    subst h
    have hne := escL_ne ht
    have hcl : ∀ b ∈ escL m.text, (b != 60) = true := fun b hbm => by have := (escL_clean _ hb b hbm).1; simpa using this
    have e1 : (escL m.text ++ T).takeWhile (· != 60) = escL m.text := by
      rw [List.takeWhile_append_of_pos hcl]
      rcases hT with rfl | ⟨t, rfl⟩ <;> simp
    have e2 : hasPrefix (escL m.text ++ T) [60] = false := by
      cases he : escL m.text with
      | nil => exact absurd he hne
      | cons b t =>
        have := hcl b (by rw [he]; simp)
        exact hp_one_ne _ (by simpa using this)
    refine ⟨?_, hne⟩
    unfold stepP
    rw [e2, if_pos rfl]
    unfold charsP
    rw [e1, un_escL _ hb]
    simp only [someM, strip, hk, hn, ha]
  · simp at h

/-- such marks as a text says back: no text is empty, none stands behind another. -/
def Few (ms : List PMark) : Prop := ∀ (i : Nat) (m : PMark), ms[i]? = some m → m.kind = 3 → m.text ≠ [] ∧ ∀ x, ms[i + 1]? = some x → x.kind ≠ 3

theorem Few.tail {m : PMark} {r : List PMark} (h : Few (m :: r)) : Few r := fun i x hi hk => h (i + 1) x (by simpa using hi) hk
theorem Few.nil : Few [] := fun i m h => by simp at h
theorem Few.snoc {ms : List PMark} {m : PMark} (h : Few ms) (h1 : m.kind = 3 → m.text ≠ [] ∧ ∀ x, ms.getLast? = some x → x.kind ≠ 3) : Few (ms ++ [m]) := by
  intro i x hi hk
  by_cases hlt : i < ms.length
  · rw [List.getElem?_append_left hlt] at hi
    obtain ⟨h2, h3⟩ := h i x hi hk
    refine ⟨h2, fun y hy => ?_⟩
    by_cases hlt2 : i + 1 < ms.length
    · rw [List.getElem?_append_left hlt2] at hy; exact h3 y hy
    · have e : i + 1 = ms.length := by omega
      rw [e, List.getElem?_concat_length] at hy
      simp only [Option.some.injEq] at hy
      subst hy
      intro hk2
      refine (h1 hk2).2 x ?_ hk
      rw [List.getLast?_eq_getElem?, show ms.length - 1 = i from by omega]; exact hi
  · have hle : i < (ms ++ [m]).length := by
      rcases Nat.lt_or_ge i (ms ++ [m]).length with h' | h'
      · exact h'
      · rw [List.getElem?_eq_none h'] at hi; simp at hi
    have e : i = ms.length := by simp at hle; omega
    subst e
    rw [List.getElem?_concat_length] at hi
    simp only [Option.some.injEq] at hi
    subst hi
    refine ⟨(h1 hk).1, fun y hy => ?_⟩
    rw [List.getElem?_eq_none (by simp)] at hy; simp at hy

theorem marksP_text : ∀ (ms : List PMark) (ss : List Bytes) (f p : Nat), ms.map oneP = ss.map some → Few ms → ss.flatten.length ≤ 65536 → ss.flatten.length < f → ∃ ms', marksP f ss.flatten p = .ok ms' ∧ ms'.map strip = ms.map strip
  | [], ss, f, p, h, _, _, _ => by
    have : ss = [] := by simpa using h.symm
    subst this
    exact ⟨[], marksP_nil f p, rfl⟩
  | m :: r, ss, f, p, h, hfew, hl, hf => by
    cases ss with
    | nil => simp at h
    | cons s ss =>
      simp only [List.map_cons, List.cons.injEq] at h
      obtain ⟨h1, h2⟩ := h
      obtain ⟨f', rfl⟩ : ∃ f', f = f' + 1 := ⟨f - 1, by omega⟩
      simp only [List.flatten_cons, List.length_append] at hl hf
      have step : stepP (s ++ ss.flatten) = .ok (some (strip m), s.length) ∧ s ≠ [] := by
        by_cases hk : m.kind = 3
        · obtain ⟨t1, t2⟩ := hfew 0 m rfl hk
          refine stepP_chars m s _ hk h1 t1 ?_
          cases r with
          | nil => have : ss = [] := by simpa using h2.symm
                   subst this; exact Or.inl rfl
          | cons x r' =>
            cases ss with
            | nil => simp at h2
            | cons s' ss' =>
              simp only [List.map_cons, List.cons.injEq] at h2
              simp only [List.flatten_cons, List.length_append] at hl
              obtain ⟨_, t, ht⟩ := stepP_tag x s' [] (t2 x rfl) h2.1 (by omega)
              exact Or.inr ⟨t ++ ss'.flatten, by simp [ht]⟩
        · obtain ⟨u1, t, u2⟩ := stepP_tag m s ss.flatten hk h1 (by omega)
          exact ⟨u1, by rw [u2]; simp⟩
      have hsl : 0 < s.length := List.length_pos_iff.2 step.2
      obtain ⟨r', e1, e2⟩ := marksP_text r ss f' (p + s.length) h2 hfew.tail (by omega) (by omega)
      refine ⟨{ strip m with pos := (p : Int) } :: r', ?_, ?_⟩
      · rw [List.flatten_cons, marksP_step (by simp [step.2]) step.1, List.drop_left, e1]; rfl
      · simp only [List.map_cons, e2]; rfl

/-- MarkBack, in plain words. -/
theorem marks_back (ms : List PMark) (T : Bytes) (hf : Few ms) (h : textP ms = .ok T) : T.length ≤ 65536 ∧ ∃ ms', marks T = .ok ms' ∧ ms'.map strip = ms.map strip := by
  obtain ⟨h1, ss, h2, h3⟩ := textF_ok ms [] T (by simp) h
  simp only [List.nil_append] at h3
  subst h3
  obtain ⟨ms', e1, e2⟩ := marksP_text ms ss 65537 0 h2 hf h1 (by omega)
  exact ⟨h1, ms', by unfold marks; rw [if_neg (by omega)]; exact e1, e2⟩
end Go.Sof
