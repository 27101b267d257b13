/- Plain mathematics of marks: how long the texts of a text's marks are. Conditions: none. -/
import Derived.Test.YtcicibeggkmlcaaGreatDoorPlU
namespace Go.Sof
open Go.Lib

theorem numE_len {base : Nat} {l x : Bytes} (h : numE base l = some x) : x.length ≤ 4 := by
  unfold numE at h
  split at h
  · simp at h
  · split at h
    · next hs => simp only [Option.some.injEq] at h; subst h; exact utf_len _ hs
    · simp at h
theorem entity_len {l x : Bytes} (h : entity l = some x) : x.length ≤ 4 := by
  unfold entity at h
  split at h
  · simp only [Option.some.injEq] at h; subst h; simp
  split at h
  · simp only [Option.some.injEq] at h; subst h; simp
  split at h
  · simp only [Option.some.injEq] at h; subst h; simp
  split at h
  · simp only [Option.some.injEq] at h; subst h; simp
  split at h
  · simp only [Option.some.injEq] at h; subst h; simp
  split at h
  · exact numE_len h
  · exact numE_len h
  · simp at h
theorem un_len : ∀ (n : Nat) (l t : Bytes), l.length ≤ n → un l = .ok t → t.length ≤ 4 * l.length
  | 0, l, t, h, hu => by
    have : l = [] := List.eq_nil_of_length_eq_zero (by omega)
    subst this
    have : t = [] := by rw [un_nil] at hu; simpa using hu.symm
    subst this; simp
  | n + 1, l, t, h, hu => by
    rw [un_step] at hu
    unfold unStep at hu
    cases l with
    | nil => simp only [Except.ok.injEq] at hu; subst hu; simp
    | cons b r =>
      simp only at hu
      have hlen : r.length ≤ n := by simpa using h
      split at hu
      · simp at hu
      split at hu
      · split at hu
        · cases he : entity (nameOf r) with
          | none => rw [he] at hu; simp at hu
          | some x =>
            rw [he] at hu
            simp only at hu
            have hx := entity_len he
            cases hd : un (r.drop ((nameOf r).length + 1)) with
            | error y => obtain ⟨k', e'⟩ := y; rw [hd] at hu; simp at hu
            | ok y =>
              rw [hd] at hu
              simp only [Except.ok.injEq] at hu
              subst hu
              have := un_len n (r.drop ((nameOf r).length + 1)) y (by simp; omega) hd
              simp only [List.length_append, List.length_drop, List.length_cons] at this ⊢
              omega
        · simp at hu
      split at hu
      · simp at hu
      rename_i hw
      cases hd : un ((b :: r).drop (wid (b :: r))) with
      | error y => obtain ⟨k', e'⟩ := y; rw [hd] at hu; simp at hu
      | ok y =>
        rw [hd] at hu
        simp only [Except.ok.injEq] at hu
        subst hu
        have hwl := wid_le (b :: r) (by simp)
        have := un_len n ((b :: r).drop (wid (b :: r))) y (by simp only [List.length_drop, List.length_cons] at *; omega) hd
        simp only [List.length_append, List.length_drop, List.length_cons, List.length_take] at this hwl ⊢
        omega
theorem tagP_textnil {l : Bytes} {m : PMark} {n : Nat} (h : tagP l = .ok (m, n)) : m.text = [] := by
  unfold tagP at h
  split at h
  · unfold closeP at h
    split at h
    · simp at h
    split at h
    · simp only [Except.ok.injEq, Prod.mk.injEq] at h; obtain ⟨rfl, rfl⟩ := h; rfl
    · simp at h
  · unfold openP at h
    split at h
    · simp at h
    cases ha : attrsP 65537 l (1 + (nameP (l.drop 1)).length) [] with
    | error x => rw [ha] at h; simp at h
    | ok x =>
      obtain ⟨al, c⟩ := x
      rw [ha] at h
      simp only at h
      cases he : endP l c with
      | none => rw [he] at h; simp at h
      | some x =>
        obtain ⟨kd, n'⟩ := x
        rw [he] at h
        simp only [Except.ok.injEq, Prod.mk.injEq] at h
        obtain ⟨rfl, rfl⟩ := h
        rfl
theorem stepP_text {l : Bytes} {m : PMark} {n : Nat} (h : stepP l = .ok (some m, n)) : m.text.length ≤ 4 * l.length := by
  unfold stepP at h
  split at h
  · obtain ⟨m', hx, hm⟩ := someM_ok h
    cases hm
    unfold charsP at hx
    split at hx
    · simp at hx
    · next t ht =>
      simp only [Except.ok.injEq, Prod.mk.injEq] at hx; obtain ⟨rfl, rfl⟩ := hx
      have h1 := un_len _ _ _ (Nat.le_refl _) ht
      have h2 : (l.takeWhile (· != 60)).length ≤ l.length := (List.takeWhile_sublist _).length_le
      show t.length ≤ _
      omega
  split at h
  · have := (noneM_ok h).2; simp at this
  split at h
  · obtain ⟨m', hx, hm⟩ := someM_ok h
    cases hm
    unfold dataP at hx
    split at hx
    · simp at hx
    split at hx
    · simp at hx
    · simp only [Except.ok.injEq, Prod.mk.injEq] at hx; obtain ⟨rfl, rfl⟩ := hx
      simp only [List.length_take, List.length_drop]; omega
  · obtain ⟨m', hx, hm⟩ := someM_ok h
    cases hm
    rw [tagP_textnil hx]; simp
theorem marksP_sizes : ∀ (f : Nat) (l : Bytes) (p : Nat) (ms : List PMark), marksP f l p = .ok ms → ms.length ≤ l.length ∧ ∀ m ∈ ms, m.text.length ≤ 4 * l.length
  | 0, l, p, ms, h => by simp only [marksP, Except.ok.injEq] at h; subst h; simp
  | f + 1, l, p, ms, h => by
    by_cases hl : l = []
    · subst hl; rw [marksP_nil] at h; cases h; simp
    cases hs : stepP l with
    | error x => obtain ⟨k, e⟩ := x; rw [marksP_stop hl hs] at h; cases h
    | ok x =>
      obtain ⟨m, n⟩ := x
      obtain ⟨h1, h2, _⟩ := stepP_take hl hs
      rw [marksP_step hl hs] at h
      cases hr : marksP f (l.drop n) (p + n) with
      | error x => rw [hr] at h; simp at h
      | ok r =>
        rw [hr] at h
        simp only [Except.ok.injEq] at h
        obtain ⟨e1, e2⟩ := marksP_sizes f _ _ _ hr
        rw [List.length_drop] at e1 e2
        subst h
        cases m with
        | none => exact ⟨by show r.length ≤ _; omega, fun x hx => by have := e2 x hx; omega⟩
        | some m0 =>
          refine ⟨by show r.length + 1 ≤ _; omega, fun x hx => ?_⟩
          rcases List.mem_cons.1 hx with rfl | hx
          · have := stepP_text hs
            show m0.text.length ≤ _; omega
          · have := e2 x hx; omega
/-- what marks.Marks tells of a text: few marks, short ones, at their places. -/
theorem marks_sizes {s : Bytes} {ms : List PMark} (h : marks s = .ok ms) : s.length ≤ 65536 ∧ ms.length ≤ 65536 ∧ (∀ m ∈ ms, m.text.length ≤ 262144) ∧ ∀ m ∈ ms, 0 ≤ m.pos := by
  have h0 : s.length ≤ 65536 := by
    unfold marks at h
    split at h
    · simp at h
    · omega
  have h1 : marksP 65537 s 0 = .ok ms := by unfold marks at h; rwa [if_neg (by omega)] at h
  have h2 := marksP_sizes _ _ _ _ h1
  refine ⟨h0, by omega, fun m hm => by have := h2.2 m hm; omega, fun m hm => ?_⟩
  obtain ⟨i, hi, rfl⟩ := List.getElem_of_mem hm
  obtain ⟨q, hq, _⟩ := marks_parts s h0 ms h i hi
  rw [hq]; omega
end Go.Sof
