/- Plain mathematics of marks: a text in two parts, and places of what is wrong. Conditions: none. -/
import Derived.Test.YtcicibeggkmlcaaGreatDoorPlM
namespace Go.Sof
open Go.Lib

def addPos (d : Nat) (m : PMark) : PMark := { m with pos := m.pos + (d : Int) }
def strip (m : PMark) : PMark := { m with pos := 0 }

theorem marksP_step {l : Bytes} (hl : l ≠ []) {m : Option PMark} {n : Nat} (h : stepP l = .ok (m, n)) (f p : Nat) :
    marksP (f + 1) l p = match marksP f (l.drop n) (p + n) with | .error x => .error x | .ok r => .ok (atPos p m ++ r) := by
  simp only [marksP, if_neg hl, h] <;> cases marksP f (l.drop n) (p + n) <;> rfl
theorem marksP_stop {l : Bytes} (hl : l ≠ []) {k : Nat} {e : Int} (h : stepP l = .error (k, e)) (f p : Nat) : marksP (f + 1) l p = .error (p + k, e) := by
  simp only [marksP, if_neg hl, h]
theorem marksP_nil (f p : Nat) : marksP f [] p = .ok [] := by cases f <;> simp [marksP]

theorem marksP_fuel : ∀ (f g : Nat) (l : Bytes) (p : Nat), l.length < f → l.length < g → marksP f l p = marksP g l p
  | 0, _, _, _, h, _ => by omega
  | _, 0, _, _, _, h => by omega
  | f + 1, g + 1, l, p, hf, hg => by
    by_cases hl : l = []
    · subst hl; rw [marksP_nil, marksP_nil]
    cases h : stepP l with
    | error x => obtain ⟨k, e⟩ := x; rw [marksP_stop hl h, marksP_stop hl h]
    | ok x =>
      obtain ⟨m, n⟩ := x
      obtain ⟨h1, h2, _⟩ := stepP_take hl h
      rw [marksP_step hl h, marksP_step hl h, marksP_fuel f g (l.drop n) (p + n) (by simp; omega) (by simp; omega)]

theorem take_ne {l : Bytes} (hl : l ≠ []) {k : Nat} (hk : 0 < k) : l.take k ≠ [] := by
  cases l with
  | nil => exact absurd rfl hl
  | cons a t => obtain ⟨k', rfl⟩ : ∃ k', k = k' + 1 := ⟨k - 1, by omega⟩; simp

theorem marksP_parts : ∀ (f : Nat) (l : Bytes) (p : Nat) (ms : List PMark), l.length < f → marksP f l p = .ok ms → ∀ (n : Nat) (hn : n < ms.length), ∃ q : Nat, (ms[n]'hn).pos = ((p + q : Nat) : Int) ∧ q < l.length ∧
    ∀ f1 f2, q < f1 → l.length - q < f2 → marksP f1 (l.take q) p = .ok (ms.take n) ∧ marksP f2 (l.drop q) (p + q) = .ok (ms.drop n)
  | 0, l, _, _, h, _, _, _ => by omega
  | f + 1, l, p, ms, hf, h, n, hn => by
    by_cases hl : l = []
    · subst hl; rw [marksP_nil] at h; cases h; simp at hn
    have hlp : 0 < l.length := List.length_pos_iff.2 hl
    cases hs : stepP l with
    | error x => obtain ⟨k, e⟩ := x; rw [marksP_stop hl hs] at h; cases h
    | ok x =>
      obtain ⟨m, k⟩ := x
      obtain ⟨k1, k2, k3⟩ := stepP_take hl hs
      have h0 := h
      rw [marksP_step hl hs] at h
      cases hr : marksP f (l.drop k) (p + k) with
      | error x => rw [hr] at h; cases h
      | ok r =>
        rw [hr] at h
        simp only [Except.ok.injEq] at h
        have hlen : (l.drop k).length = l.length - k := by simp
        -- the later parts
        have later : ∀ (n' : Nat) (hn' : n' < r.length), n = n' + (atPos p m).length → ∃ q : Nat, (r[n']'hn').pos = ((p + q : Nat) : Int) ∧ q < l.length ∧
            ∀ f1 f2, q < f1 → l.length - q < f2 → marksP f1 (l.take q) p = .ok (ms.take n) ∧ marksP f2 (l.drop q) (p + q) = .ok (ms.drop n) := by
          intro n' hn' e
          obtain ⟨q, e1, e2, e3⟩ := marksP_parts f (l.drop k) (p + k) r (by omega) hr n' hn'
          refine ⟨k + q, by rw [e1, Nat.add_assoc], by omega, fun f1 f2 g1 g2 => ?_⟩
          obtain ⟨f1', rfl⟩ : ∃ f', f1 = f' + 1 := ⟨f1 - 1, by omega⟩
          obtain ⟨u1, u2⟩ := e3 f1' f2 (by omega) (by omega)
          rw [marksP_step (take_ne hl (by omega)) (k3 (k + q) (by omega)), List.drop_take, show k + q - k = q from by omega, u1]
          refine ⟨?_, ?_⟩
          · simp only
            rw [← h, e, Nat.add_comm n', List.take_length_add_append]
          · rw [← List.drop_drop, ← Nat.add_assoc, u2, ← h, e, Nat.add_comm n', List.drop_length_add_append]
        cases m with
        | none =>
          have h' : r = ms := h
          subst h'
          exact later n hn rfl
        | some m0 =>
          have h' : { m0 with pos := (p : Int) } :: r = ms := h
          cases n with
          | zero =>
            subst h'
            refine ⟨0, rfl, hlp, fun f1 f2 g1 g2 => ?_⟩
            rw [List.take_zero, marksP_nil, List.drop_zero, Nat.add_zero, marksP_fuel f2 (f + 1) l p (by omega) hf, h0]
            exact ⟨rfl, rfl⟩
          | succ n' =>
            have hn' : n' < r.length := by rw [← h'] at hn; simpa using hn
            obtain ⟨q, e1, e2⟩ := later n' hn' rfl
            refine ⟨q, ?_, e2⟩
            subst h'
            exact e1

theorem marksP_shift (d : Nat) : ∀ (f : Nat) (l : Bytes) (p : Nat), marksP f l (p + d) = match marksP f l p with | .ok ms => .ok (ms.map (addPos d)) | .error (k, e) => .error (k + d, e)
  | 0, _, _ => rfl
  | f + 1, l, p => by
    by_cases hl : l = []
    · subst hl; rw [marksP_nil, marksP_nil]; rfl
    cases hs : stepP l with
    | error x => obtain ⟨k, e⟩ := x; rw [marksP_stop hl hs, marksP_stop hl hs]; simp only; rw [Nat.add_right_comm]
    | ok x =>
      obtain ⟨m, k⟩ := x
      rw [marksP_step hl hs, marksP_step hl hs, Nat.add_right_comm p d k, marksP_shift d f (l.drop k) (p + k)]
      cases marksP f (l.drop k) (p + k) with
      | error x => rfl
      | ok r =>
        simp only [List.map_append]
        cases m with
        | none => rfl
        | some m0 => simp only [atPos, addPos, List.map_cons, List.map_nil, Int.natCast_add]

theorem strip_addPos (d : Nat) (ms : List PMark) : (ms.map (addPos d)).map strip = ms.map strip := by simp [Function.comp_def, strip, addPos]

/-- MarkParts, in plain words. -/
theorem marks_parts (s : Bytes) (hs : s.length ≤ 65536) (ms : List PMark) (h : marks s = .ok ms) (n : Nat) (hn : n < ms.length) : ∃ q : Nat, (ms[n]'hn).pos = (q : Int) ∧ q < s.length ∧ marks (s.take q) = .ok (ms.take n) ∧
    ∃ ms2, marks (s.drop q) = .ok ms2 ∧ ms2.map (addPos q) = ms.drop n := by
  have h1 : marksP 65537 s 0 = .ok ms := by unfold marks at h; rwa [if_neg (by omega)] at h
  obtain ⟨q, e1, e2, e3⟩ := marksP_parts 65537 s 0 ms (by omega) h1 n hn
  obtain ⟨u1, u2⟩ := e3 65537 65537 (by omega) (by omega)
  refine ⟨q, by rw [e1]; simp, e2, ?_, ?_⟩
  · unfold marks; rw [if_neg (by rw [List.length_take]; omega), u1]
  · rw [Nat.add_comm 0 q, Nat.add_comm q 0, marksP_shift q 65537 (s.drop q) 0] at u2
    unfold marks; rw [if_neg (by rw [List.length_drop]; omega)]
    cases hm : marksP 65537 (s.drop q) 0 with
    | error x => rw [hm] at u2; obtain ⟨k, e⟩ := x; simp at u2
    | ok ms2 => rw [hm] at u2; simp only [Except.ok.injEq] at u2; exact ⟨ms2, rfl, u2⟩

/-! ### places -/
theorem un_err : ∀ (n : Nat) (l : Bytes), l.length ≤ n → ∀ k e, un l = .error (k, e) → k < l.length ∧ (e = 6 ∨ e = 7)
  | 0, l, h, k, e, hu => by
    have : l = [] := List.eq_nil_of_length_eq_zero (by omega)
    subst this; cases hu
  | n + 1, l, h, k, e, hu => by
    rw [un_step] at hu
    unfold unStep at hu
    cases l with
    | nil => cases hu
    | cons b t =>
      simp only at hu
      split at hu
      · simp only [Except.error.injEq, Prod.mk.injEq] at hu; obtain ⟨rfl, rfl⟩ := hu; simp
      split at hu
      · split at hu
        · rename_i hb hm
          cases he : entity (nameOf t) with
          | none => rw [he] at hu; simp only [Except.error.injEq, Prod.mk.injEq] at hu; obtain ⟨rfl, rfl⟩ := hu; simp
          | some x =>
            rw [he] at hu
            simp only at hu
            cases hd : un (t.drop ((nameOf t).length + 1)) with
            | ok y => rw [hd] at hu; simp at hu
            | error y =>
              obtain ⟨k', e'⟩ := y
              rw [hd] at hu
              simp only [Except.error.injEq, Prod.mk.injEq] at hu
              obtain ⟨rfl, rfl⟩ := hu
              have hlen : t.length ≤ n := by simpa using h
              have := un_err n (t.drop ((nameOf t).length + 1)) (by simp; omega) k' e' hd
              refine ⟨?_, this.2⟩
              have h1 := this.1
              simp only [List.length_drop, List.length_cons] at h1 ⊢
              omega
        · simp only [Except.error.injEq, Prod.mk.injEq] at hu; obtain ⟨rfl, rfl⟩ := hu; simp
      split at hu
      · simp only [Except.error.injEq, Prod.mk.injEq] at hu; obtain ⟨rfl, rfl⟩ := hu; simp
      rename_i hw
      cases hd : un ((b :: t).drop (wid (b :: t))) with
      | ok y => rw [hd] at hu; simp at hu
      | error y =>
        obtain ⟨k', e'⟩ := y
        rw [hd] at hu
        simp only [Except.error.injEq, Prod.mk.injEq] at hu
        obtain ⟨rfl, rfl⟩ := hu
        have := un_err n ((b :: t).drop (wid (b :: t))) (by simp only [List.length_drop]; omega) k' e' hd
        refine ⟨?_, this.2⟩
        have h1 := this.1
        simp only [List.length_drop] at h1
        omega

def ErrIn (l : Bytes) (k : Nat) (e : Int) : Prop := (e = 6 ∨ e = 7) ∧ k < l.length ∨ e = 8 ∧ k = 0

theorem attrP_err {l : Bytes} {k : Nat} {e : Int} (h : attrP l = .error (some (k, e))) : (e = 6 ∨ e = 7) ∧ k < l.length := by
  unfold attrP at h
  split at h
  · simp at h
  split at h
  · simp at h
  split at h
  · simp at h
  cases hi : idx (l.drop ((nameP l).length + 2)) [34] with
  | none => rw [hi] at h; simp at h
  | some i =>
    rw [hi] at h
    simp only at h
    cases hu : un ((l.drop ((nameP l).length + 2)).take i) with
    | ok t => rw [hu] at h; simp at h
    | error x =>
      obtain ⟨k', e'⟩ := x
      rw [hu] at h
      simp only [Except.error.injEq, Option.some.injEq, Prod.mk.injEq] at h
      obtain ⟨rfl, rfl⟩ := h
      obtain ⟨u1, u2⟩ := un_err _ _ (Nat.le_refl _) _ _ hu
      have := (idx_some hi).2.1
      simp only [List.length_take, List.length_drop] at u1 this
      exact ⟨u2, by omega⟩

theorem attrsP_err : ∀ (f : Nat) (l : Bytes) (c : Nat) (as : List PAttr) (k : Nat) (e : Int), attrsP f l c as = .error (k, e) → ErrIn l k e
  | 0, _, _, _, _, _, h => by simp only [attrsP, Except.error.injEq, Prod.mk.injEq] at h; obtain ⟨rfl, rfl⟩ := h; exact Or.inr ⟨rfl, rfl⟩
  | f + 1, l, c, as, k, e, h => by
    unfold attrsP at h
    split at h
    · simp at h
    cases ha : attrP (l.drop (c + skipN (l.drop c))) with
    | error x =>
      rw [ha] at h
      cases x with
      | none => simp only [Except.error.injEq, Prod.mk.injEq] at h; obtain ⟨rfl, rfl⟩ := h; exact Or.inr ⟨rfl, rfl⟩
      | some x =>
        obtain ⟨k', e'⟩ := x
        simp only [Except.error.injEq, Prod.mk.injEq] at h
        obtain ⟨rfl, rfl⟩ := h
        obtain ⟨u1, u2⟩ := attrP_err ha
        simp only [List.length_drop] at u2
        exact Or.inl ⟨u1, by omega⟩
    | ok x =>
      obtain ⟨a, n⟩ := x
      rw [ha] at h
      simp only at h
      split at h
      · simp only [Except.error.injEq, Prod.mk.injEq] at h; obtain ⟨rfl, rfl⟩ := h; exact Or.inr ⟨rfl, rfl⟩
      · exact attrsP_err f _ _ _ _ _ h

theorem tagP_err {l : Bytes} {k : Nat} {e : Int} (h : tagP l = .error (k, e)) : ErrIn l k e := by
  have z : ∀ {k : Nat} {e : Int} {X : Type}, (Except.error (0, 8) : Except Err X) = .error (k, e) → ErrIn l k e := by
    intro k e X h
    simp only [Except.error.injEq, Prod.mk.injEq] at h; obtain ⟨rfl, rfl⟩ := h; exact Or.inr ⟨rfl, rfl⟩
  unfold tagP at h
  split at h
  · unfold closeP at h
    split at h
    · exact z h
    split at h
    · simp at h
    · exact z h
  · unfold openP at h
    split at h
    · exact z h
    cases ha : attrsP 65537 l (1 + (nameP (l.drop 1)).length) [] with
    | error x =>
      rw [ha] at h
      obtain ⟨k', e'⟩ := x
      simp only [Except.error.injEq, Prod.mk.injEq] at h
      obtain ⟨rfl, rfl⟩ := h
      exact attrsP_err _ _ _ _ _ _ ha
    | ok x =>
      obtain ⟨as, c⟩ := x
      rw [ha] at h
      simp only at h
      cases he : endP l c with
      | none => rw [he] at h; exact z h
      | some y => obtain ⟨kd, n⟩ := y; rw [he] at h; simp at h

theorem stepP_err {l : Bytes} {k : Nat} {e : Int} (h : stepP l = .error (k, e)) : (e = 6 ∨ e = 7) ∧ k < l.length ∨ e = 8 ∧ k = 0 ∧ hasPrefix l [60] = true := by
  unfold stepP at h
  cases h1 : hasPrefix l [60] with
  | false =>
    rw [h1, if_pos rfl] at h
    have h := someM_err h
    unfold charsP at h
    cases hu : un (l.takeWhile (· != 60)) with
    | ok t => rw [hu] at h; simp at h
    | error x =>
      obtain ⟨k', e'⟩ := x
      rw [hu] at h
      simp only [Except.error.injEq, Prod.mk.injEq] at h
      obtain ⟨rfl, rfl⟩ := h
      obtain ⟨u1, u2⟩ := un_err _ _ (Nat.le_refl _) _ _ hu
      have := tw_le (· != 60) l
      exact Or.inl ⟨u2, by omega⟩
  | true =>
    rw [h1] at h
    simp only [Bool.true_eq_false, if_false] at h
    have go : ErrIn l k e → (e = 6 ∨ e = 7) ∧ k < l.length ∨ e = 8 ∧ k = 0 ∧ true = true := fun x => x.imp id (fun y => ⟨y.1, y.2, rfl⟩)
    apply go
    split at h
    · have h := noneM_err h
      unfold commentP at h
      cases hi : idx (l.drop 4) [45, 45] with
      | none => rw [hi] at h; simp only [Except.error.injEq, Prod.mk.injEq] at h; obtain ⟨rfl, rfl⟩ := h; exact Or.inr ⟨rfl, rfl⟩
      | some i =>
        rw [hi] at h
        simp only at h
        split at h
        · simp only [Except.error.injEq, Prod.mk.injEq] at h; obtain ⟨rfl, rfl⟩ := h; exact Or.inr ⟨rfl, rfl⟩
        cases hb : bad ((l.drop 4).take i) with
        | none => rw [hb] at h; simp at h
        | some j =>
          rw [hb] at h
          simp only [Except.error.injEq, Prod.mk.injEq] at h
          obtain ⟨rfl, rfl⟩ := h
          have := bad_lt _ _ (Nat.le_refl _) _ hb
          simp only [List.length_take, List.length_drop] at this
          exact Or.inl ⟨Or.inl rfl, by omega⟩
    split at h
    · have h := someM_err h
      unfold dataP at h
      cases hi : idx (l.drop 9) [93, 93, 62] with
      | none => rw [hi] at h; simp only [Except.error.injEq, Prod.mk.injEq] at h; obtain ⟨rfl, rfl⟩ := h; exact Or.inr ⟨rfl, rfl⟩
      | some i =>
        rw [hi] at h
        simp only at h
        cases hb : bad ((l.drop 9).take i) with
        | none => rw [hb] at h; simp at h
        | some j =>
          rw [hb] at h
          simp only [Except.error.injEq, Prod.mk.injEq] at h
          obtain ⟨rfl, rfl⟩ := h
          have := bad_lt _ _ (Nat.le_refl _) _ hb
          simp only [List.length_take, List.length_drop] at this
          exact Or.inl ⟨Or.inl rfl, by omega⟩
    · exact tagP_err (someM_err h)

theorem marksP_err : ∀ (f : Nat) (l : Bytes) (p k : Nat) (e : Int), l.length < f → marksP f l p = .error (k, e) → ∃ q, k = p + q ∧ q < l.length ∧
    ((e = 6 ∨ e = 7) ∨ e = 8 ∧ hasPrefix (l.drop q) [60] = true ∧ ∀ f1, q < f1 → ∃ ms, marksP f1 (l.take q) p = .ok ms)
  | 0, l, _, _, _, h, _ => by omega
  | f + 1, l, p, k, e, hf, h => by
    by_cases hl : l = []
    · subst hl; rw [marksP_nil] at h; cases h
    have hlp : 0 < l.length := List.length_pos_iff.2 hl
    cases hs : stepP l with
    | error x =>
      obtain ⟨k', e'⟩ := x
      rw [marksP_stop hl hs] at h
      simp only [Except.error.injEq, Prod.mk.injEq] at h
      obtain ⟨rfl, rfl⟩ := h
      rcases stepP_err hs with ⟨h1, h2⟩ | ⟨h1, rfl, h3⟩
      · exact ⟨k', rfl, h2, Or.inl h1⟩
      · exact ⟨0, rfl, hlp, Or.inr ⟨h1, h3, fun f1 _ => ⟨[], by rw [List.take_zero, marksP_nil]⟩⟩⟩
    | ok x =>
      obtain ⟨m, n⟩ := x
      obtain ⟨k1, k2, k3⟩ := stepP_take hl hs
      rw [marksP_step hl hs] at h
      cases hr : marksP f (l.drop n) (p + n) with
      | ok r => rw [hr] at h; simp at h
      | error x =>
        rw [hr] at h
        simp only [Except.error.injEq] at h
        subst h
        obtain ⟨q, e1, e2, e3⟩ := marksP_err f (l.drop n) (p + n) k e (by simp; omega) hr
        simp only [List.length_drop] at e2
        refine ⟨n + q, by omega, by omega, e3.imp id fun ⟨g1, g2, g3⟩ => ⟨g1, by rw [← List.drop_drop]; exact g2, fun f1 hf1 => ?_⟩⟩
        obtain ⟨f1', rfl⟩ : ∃ f', f1 = f' + 1 := ⟨f1 - 1, by omega⟩
        obtain ⟨ms, hms⟩ := g3 f1' (by omega)
        rw [marksP_step (take_ne hl (by omega)) (k3 (n + q) (by omega)), List.drop_take, show n + q - n = q from by omega, hms]
        exact ⟨_, rfl⟩

/-- MarkPlaces, in plain words. -/
theorem marks_places (s : Bytes) (k : Nat) (e : Int) (h : marks s = .error (k, e)) : (e = 10 ∧ 65536 < s.length ∧ k = 0) ∨
    s.length ≤ 65536 ∧ k < s.length ∧ ((e = 6 ∨ e = 7) ∨ e = 8 ∧ hasPrefix (s.drop k) [60] = true ∧ ∃ ms, marks (s.take k) = .ok ms) := by
  unfold marks at h
  by_cases hs : 65536 < s.length
  · rw [if_pos hs] at h
    simp only [Except.error.injEq, Prod.mk.injEq] at h
    exact Or.inl ⟨h.2.symm, hs, h.1.symm⟩
  · rw [if_neg hs] at h
    obtain ⟨q, e1, e2, e3⟩ := marksP_err _ _ _ _ _ (by omega) h
    have e1 : k = q := by omega
    subst e1
    refine Or.inr ⟨by omega, e2, e3.imp id fun ⟨g1, g2, g3⟩ => ⟨g1, g2, ?_⟩⟩
    obtain ⟨ms, hms⟩ := g3 65537 (by omega)
    exact ⟨ms, by unfold marks; rw [if_neg (by rw [List.length_take]; omega)]; exact hms⟩
end Go.Sof
