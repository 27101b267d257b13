/- Plain facts of two trees that are one or not. Conditions: none. -/
import Derived.Test.YtcicibeggkmlcaaGreatDoorPlU
namespace Go.Sof
open Go.Lib

mutual
/-- how many attributes a tree has. -/
def asize : PNode → Nat
  | .mk _ _ ats ks _ => ats.length + asizeL ks
def asizeL : List PNode → Nat
  | [] => 0
  | n :: r => asize n + asizeL r
end
theorem asizeL_mem : ∀ (ks : List PNode) (k : PNode), k ∈ ks → asize k ≤ asizeL ks
  | [], k, h => by simp at h
  | n :: r, k, h => by
    rw [asizeL]
    rcases List.mem_cons.1 h with rfl | h
    · omega
    · have := asizeL_mem r k h; omega

theorem sameL_true : ∀ (a b : List PNode), a.length = b.length → (∀ (i : Nat) (h : i < a.length) (h' : i < b.length), sameB (a[i]'h) (b[i]'h') = true) → sameL a b = true
  | [], [], _, _ => by simp [sameL]
  | [], _ :: _, h, _ => by simp at h
  | _ :: _, [], h, _ => by simp at h
  | n :: r, m :: s, h, hi => by
    rw [sameL, Bool.and_eq_true]
    exact ⟨hi 0 (by simp) (by simp), sameL_true r s (by simpa using h) (fun i h1 h2 => hi (i + 1) (by simpa using h1) (by simpa using h2))⟩
theorem sameL_at : ∀ (a b : List PNode), sameL a b = true → a.length = b.length ∧ ∀ (i : Nat) (h : i < a.length) (h' : i < b.length), sameB (a[i]'h) (b[i]'h') = true
  | [], [], _ => ⟨rfl, fun i h => absurd h (by simp)⟩
  | [], _ :: _, h => by simp [sameL] at h
  | _ :: _, [], h => by simp [sameL] at h
  | n :: r, m :: s, h => by
    rw [sameL, Bool.and_eq_true] at h
    obtain ⟨h1, h2⟩ := sameL_at r s h.2
    refine ⟨by simp [h1], fun i h3 h4 => ?_⟩
    cases i with
    | zero => exact h.1
    | succ i => exact h2 i (by simpa using h3) (by simpa using h4)
theorem same_true {nm1 nm2 : Bytes} {p1 p2 : Int} {a1 a2 : List PAttr} {k1 k2 : List PNode} {t1 t2 : Bytes} (hn : nm1 = nm2) (ht : t1 = t2) (ha : a1 = a2) (hk : sameL k1 k2 = true) : sameB (.mk nm1 p1 a1 k1 t1) (.mk nm2 p2 a2 k2 t2) = true := by
  subst hn ht ha
  simp [sameB, PNode.name, PNode.text, PNode.attrs, PNode.kids, hk, attrsB_iff]
theorem same_false {nm1 nm2 : Bytes} {p1 p2 : Int} {a1 a2 : List PAttr} {k1 k2 : List PNode} {t1 t2 : Bytes} (h : nm1 ≠ nm2 ∨ t1 ≠ t2 ∨ a1 ≠ a2 ∨ sameL k1 k2 = false) : sameB (.mk nm1 p1 a1 k1 t1) (.mk nm2 p2 a2 k2 t2) = false := by
  cases hs : sameB (.mk nm1 p1 a1 k1 t1) (.mk nm2 p2 a2 k2 t2) with
  | false => rfl
  | true =>
    simp only [sameB, PNode.name, PNode.text, PNode.attrs, PNode.kids, Bool.and_eq_true, beq_iff_eq, attrsB_iff] at hs
    obtain ⟨⟨⟨h1, h2⟩, h3⟩, h4⟩ := hs
    rcases h with h | h | h | h
    · exact absurd h1 h
    · exact absurd h2 h
    · exact absurd h3 h
    · rw [h4] at h; exact absurd h (by simp)
theorem sameL_len {a b : List PNode} (h : a.length ≠ b.length) : sameL a b = false := by
  cases hs : sameL a b with
  | false => rfl
  | true => exact absurd (sameL_at a b hs).1 h
theorem sameL_false {a b : List PNode} (i : Nat) (h : i < a.length) (h' : i < b.length) (he : sameB (a[i]'h) (b[i]'h') = false) : sameL a b = false := by
  cases hs : sameL a b with
  | false => rfl
  | true => have := (sameL_at a b hs).2 i h h'; rw [he] at this; exact absurd this (by simp)
theorem placesL_true : ∀ (a b : List PNode), a.length = b.length → (∀ (i : Nat) (h : i < a.length) (h' : i < b.length), placesB (a[i]'h) (b[i]'h') = true) → placesL a b = true
  | [], [], _, _ => by simp [placesL]
  | [], _ :: _, h, _ => by simp at h
  | _ :: _, [], h, _ => by simp at h
  | n :: r, m :: s, h, hi => by
    rw [placesL, Bool.and_eq_true]
    exact ⟨hi 0 (by simp) (by simp), placesL_true r s (by simpa using h) (fun i h1 h2 => hi (i + 1) (by simpa using h1) (by simpa using h2))⟩
end Go.Sof
