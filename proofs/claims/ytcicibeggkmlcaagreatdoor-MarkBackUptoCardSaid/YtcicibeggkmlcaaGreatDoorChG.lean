/- The walk of chars.Unescape. Conditions: the library's tables lie as they are laid; the text is shorter than 2^31 bytes. -/
import Derived.Test.YtcicibeggkmlcaaGreatDoorChF
import Derived.Lib.IndexLaws
namespace Go.Proofs.YtcicibeggkmlcaaGreatDoor
open Go.RowKit Go.Sof

theorem IsBuilderF_keep {T e : TypeId} {B b : Nat} {bs : List Value} {w w' : World} (h : Lib.IsBuilderF T e B b bs w) (hb : Below w.heap.size w w') : Lib.IsBuilderF T e B b bs w' := by
  have key : ∀ p, Lib.BuilderAtF T e B b p bs w → Lib.BuilderAtF T e B b p bs w' := by
    rintro p ⟨hB, v, hbk, hown, hne⟩
    refine ⟨hB, v, (hb.block b (Array.getElem?_eq_some_iff.1 hbk).1).trans hbk, ⟨hown.1, ?_⟩, hne⟩
    rcases hown.2 with hn | ⟨g, cap, cur, fz, hv, hbg, hg, rest⟩
    · exact .inl hn
    · exact .inr ⟨g, cap, cur, fz, hv, hbg, (hb.block g (Array.getElem?_eq_some_iff.1 hg).1).trans hg, rest⟩
  exact h.imp (key _) (key _)

theorem below_drewN (w : World) (n : Nat) : Below w.heap.size w (w.drewN n) := ⟨rfl, rfl, rfl, Nat.le_refl _, fun _ _ => rfl⟩

/-- strings.Cut at a world that is in order. -/
theorem cut_c (s sep : ByteArray) (w : World) (h : WOK w) (hs : s.size ≤ 2147483648) :
    Calls Tryz.prog 49 #[.string s, .string sep] w fun e w' => e = .returned (.tuple #[.string ⟨(Lib.cut s.data.toList sep.data.toList).1.toArray⟩, .string ⟨(Lib.cut s.data.toList sep.data.toList).2.1.toArray⟩, .bool (Lib.cut s.data.toList sep.data.toList).2.2]) ∧ Below w.heap.size w w' := by
  obtain ⟨m, hm⟩ := h.2
  refine (Tryz.strings_Cut s sep m w (by omega) hm).mono ?_
  rintro e w' ⟨he, n, rfl⟩
  exact ⟨he, below_drewN w n⟩

theorem index_one : ∀ (t : Bytes) (c : UInt8), Lib.index t [c] = if c ∈ t then (((t.takeWhile (· != c)).length : Nat) : Int) else -1 := by
  intro t c
  induction t with
  | nil => rfl
  | cons b u ih =>
    unfold Lib.index
    by_cases hb : c = b
    · subst hb
      simp [List.isPrefixOf]
    · have h1 : ([c].isPrefixOf (b :: u)) = false := by simp [List.isPrefixOf, hb]
      rw [h1, ih]
      simp only [Bool.false_eq_true, if_false, List.mem_cons, hb, false_or]
      by_cases hm : c ∈ u
      · rw [if_pos hm, if_pos hm, List.takeWhile_cons]
        have hb' : (b != c) = true := by simpa using fun e => hb e.symm
        rw [if_pos hb', List.length_cons, if_neg]
        all_goals (simp; try omega)
      · rw [if_neg hm, if_neg hm]; rfl

theorem takeWhile_take : ∀ (t : Bytes) (p : UInt8 → Bool), t.take (t.takeWhile p).length = t.takeWhile p := by
  intro t p
  induction t with
  | nil => rfl
  | cons b u ih =>
    rw [List.takeWhile_cons]
    by_cases h : p b = true
    · rw [if_pos h, List.length_cons, List.take_succ_cons, ih]
    · rw [if_neg h]; rfl

theorem cut_one (t : Bytes) (c : UInt8) : Lib.cut t [c] = if c ∈ t then (t.takeWhile (· != c), t.drop ((t.takeWhile (· != c)).length + 1), true) else (t, [], false) := by
  unfold Lib.cut
  rw [index_one]
  by_cases h : c ∈ t
  · rw [if_pos h, if_pos h, if_pos (by omega)]
    simp only [Int.toNat_natCast, List.length_cons, List.length_nil, Nat.zero_add]
    rw [takeWhile_take]
  · rw [if_neg h, if_neg h]; rfl

/-! ### entity's results as parts -/
def entS (o : Option Bytes) : ByteArray := match o with | none => ⟨#[]⟩ | some t => ⟨t.toArray⟩
def entB (o : Option Bytes) : Bool := o.isSome
theorem entV_eq (o : Option Bytes) : entV o = .tuple #[.string (entS o), .bool (entB o)] := by cases o <;> rfl

theorem numE_len (base : Nat) (l t : Bytes) (h : numE base l = some t) : t.length ≤ 4 ∧ l ≠ [] := by
  unfold numE at h
  split at h
  · cases h
  · rename_i hn
    split at h
    · rename_i hs
      rw [← Option.some.inj h]
      exact ⟨utf_len _ hs, fun e => hn (Or.inl e)⟩
    · cases h
theorem entity_len (l t : Bytes) (h : entity l = some t) : t.length ≤ 4 ∧ 2 ≤ l.length := by
  by_cases h1 : l = [97, 109, 112]
  · have e : entity [97, 109, 112] = some [38] := by decide +kernel
    rw [h1, e] at h; rw [h1, ← Option.some.inj h]; simp
  by_cases h2 : l = [108, 116]
  · have e : entity [108, 116] = some [60] := by decide +kernel
    rw [h2, e] at h; rw [h2, ← Option.some.inj h]; simp
  by_cases h3 : l = [103, 116]
  · have e : entity [103, 116] = some [62] := by decide +kernel
    rw [h3, e] at h; rw [h3, ← Option.some.inj h]; simp
  by_cases h4 : l = [113, 117, 111, 116]
  · have e : entity [113, 117, 111, 116] = some [34] := by decide +kernel
    rw [h4, e] at h; rw [h4, ← Option.some.inj h]; simp
  by_cases h5 : l = [97, 112, 111, 115]
  · have e : entity [97, 112, 111, 115] = some [39] := by decide +kernel
    rw [h5, e] at h; rw [h5, ← Option.some.inj h]; simp
  rw [entity_rest l h1 h2 h3 h4 h5] at h
  cases hh : isHash l with
  | false => rw [hh] at h; cases h
  | true =>
    rw [hh] at h
    simp only [Bool.true_eq_false, if_false] at h
    have hn := numE_len _ _ _ h
    refine ⟨hn.1, ?_⟩
    have hp := List.length_pos_iff.2 hn.2
    have a1 := cut_len (hashOf l) [120]
    have a2 : (hashOf l).length + 1 ≤ l.length := by
      unfold hashOf Lib.trimPrefix
      unfold isHash at hh
      rw [if_pos hh]
      cases l with
      | nil => unfold Lib.hasPrefix at hh; simp [List.isPrefixOf] at hh
      | cons b u => simp
    unfold hexOf at hp
    omega

/-- what the loop of Unescape has: so much is read, so much is written. -/
structure UnAt (l : Bytes) (p : Nat) (o : Bytes) : Prop where
  le : p ≤ l.length
  len : o.length ≤ p
  eq : un l = match un (l.drop p) with | .ok y => .ok (o ++ y) | .error (k, e) => .error (k + p, e)
theorem UnAt.start (l : Bytes) : UnAt l 0 [] := ⟨Nat.zero_le _, Nat.le_refl _, by rw [List.drop_zero]; cases un l <;> simp⟩
theorem UnAt.err {l : Bytes} {p : Nat} {o : Bytes} (h : UnAt l p o) {k : Nat} {e : Int} (he : un (l.drop p) = .error (k, e)) : unR l = ([], k + p, e) := by
  unfold unR; rw [h.eq, he]
theorem UnAt.fin {l : Bytes} {p : Nat} {o : Bytes} (h : UnAt l p o) (hp : l.length ≤ p) : unR l = (o, 0, 0) := by
  unfold unR; rw [h.eq, List.drop_eq_nil_of_le hp, un_nil]; simp
theorem UnAt.next {l : Bytes} {p : Nat} {o : Bytes} (h : UnAt l p o) {n : Nat} {x : Bytes} (hn : p + n ≤ l.length) (hx : x.length ≤ n)
    (he : un (l.drop p) = match un ((l.drop p).drop n) with | .ok y => .ok (x ++ y) | .error (k, e) => .error (k + n, e)) : UnAt l (p + n) (o ++ x) := by
  refine ⟨hn, by have := h.len; simp; omega, ?_⟩
  rw [h.eq, he, List.drop_drop]
  cases un (l.drop (p + n)) with
  | ok y => simp
  | error ke => simp; omega

theorem un_lt {l t : Bytes} (h : l = 60 :: t) : un l = .error (0, 6) := by
  subst h; rw [un_step]; simp only [unStep]; rfl
theorem un_and {l t : Bytes} (h : l = 38 :: t) : un l = if (59 : UInt8) ∈ t then (match entity (nameOf t) with | none => .error (0, 7) | some x => (match un (t.drop ((nameOf t).length + 1)) with | .ok y => .ok (x ++ y) | .error (k, e) => .error (k + ((nameOf t).length + 2), e))) else .error (0, 7) := by
  subst h; rw [un_step]; simp only [unStep]; rfl
theorem un_other {l t : Bytes} {b : UInt8} (h : l = b :: t) (h1 : b ≠ 60) (h2 : b ≠ 38) : un l = if wid l = 0 then .error (0, 6) else (match un (l.drop (wid l)) with | .ok y => .ok (l.take (wid l) ++ y) | .error (k, e) => .error (k + wid l, e)) := by
  subst h; rw [un_step]; simp only [unStep]; rw [if_neg h1, if_neg h2]; rfl

/-- the first sign alone: Good just if it is a good sign. -/
theorem bad_dec_take (l : Bytes) (h : l ≠ []) : bad (l.take (dec l).2) = none ↔ wid l ≠ 0 := by
  have hp := dec_pos l
  have hle := dec_le l h
  constructor
  · intro hb hw
    have hne : l.take (dec l).2 ≠ [] := by
      intro e
      have := congrArg List.length e
      rw [List.length_take, List.length_nil] at this; omega
    rw [bad_step _ hne] at hb
    have hw' : wid (l.take (dec l).2) = 0 := by
      by_cases he : dec l = (65533, 1)
      · have e1 : (dec l).2 = 1 := by rw [he]
        rw [e1]
        cases l with
        | nil => exact absurd rfl h
        | cons b t =>
          rw [List.take_succ_cons, List.take_zero]
          have hb0 : ¬ b.toNat < 128 := by
            intro hlt
            have : dec (b :: t) = (b.toNat, 1) := by unfold dec Lib.decodeN; rw [byN_cons_zero, if_pos hlt]
            rw [this] at he
            have := congrArg Prod.fst he
            simp at this; omega
          have hd : dec [b] = (65533, 1) := by
            unfold dec Lib.decodeN
            rw [byN_cons_zero, if_neg hb0, if_neg (by simp), if_neg (by simp), if_neg (by simp)]
          unfold wid; rw [hd]; simp
      · have hd : dec (l.take (dec l).2) = dec l := by
          have e0 := byN_take l (dec l).2 0 (by omega)
          generalize hK : (dec l).2 = K at *
          unfold dec at hK he ⊢
          rw [e0]
          exact decodeN_agree _ _ _ _ _ _ _ _ _ K hK he (by rw [List.length_take]; omega) (byN_take l K 1) (byN_take l K 2) (byN_take l K 3)
        unfold wid at hw ⊢; rw [hd]; exact hw
    rw [if_pos hw'] at hb; cases hb
  · intro hw
    have := (wid_ne l hw).1
    rw [← this]; exact bad_take_none l h hw

/-- Unescape's results. -/
def unV (r : Bytes × Nat × Int) : Value := .tuple #[.string ⟨r.1.toArray⟩, .int .i64 r.2.1, .int .i64 r.2.2]
end Go.Proofs.YtcicibeggkmlcaaGreatDoor
