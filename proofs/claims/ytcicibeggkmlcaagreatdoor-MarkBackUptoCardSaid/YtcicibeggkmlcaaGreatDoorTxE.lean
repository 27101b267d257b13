/- mark.one whole; mark.Text. Conditions: the tables lie as they are laid; the marks are no greater than a bulk. -/
import Derived.Test.YtcicibeggkmlcaaGreatDoorTxD
namespace Go.Proofs.YtcicibeggkmlcaaGreatDoor
open Go.RowKit Go.Sof

/-- how great a mark may be. -/
structure MkSz (m : PMark) : Prop where
  name : m.name.length ≤ 2097152
  text : m.text.length ≤ 2097152
  attrs : m.attrs.length ≤ 2097152
  all : (attrsT m.attrs).length ≤ 16777216
  each : ∀ a ∈ m.attrs, a.value.length ≤ 2097152 ∧ a.name.length ≤ 2097152

theorem one_all (w : World) (m : PMark) (p : Option Addr) (c : Nat) (hw : WOK w) (hz : MkSz m) (hcap : m.attrs.length ≤ c)
    (hf : ∀ (j : Nat) (hj : j < m.attrs.length), ∃ b o, p = some ⟨b, o, none⟩ ∧ w.cell? ⟨b, o + j * 2, none⟩ = some (.string ⟨(m.attrs[j]'hj).name.toArray⟩) ∧ w.cell? ⟨b, o + j * 2 + 1, none⟩ = some (.string ⟨(m.attrs[j]'hj).value.toArray⟩)) :
    Calls Tryz.prog 54 #[.agg #[.int .i64 m.kind, .int .i64 m.pos, .string ⟨m.name.toArray⟩, .slice p m.attrs.length c, .string ⟨m.text.toArray⟩]] w fun en w' => OnePost (oneP m) en ∧ Below w.heap.size w w' := by
  obtain ⟨K, P, N, al, T⟩ := m
  obtain ⟨z1, z2, z3, z4, z5⟩ := hz
  simp only at z1 z2 z3 z4 z5 hcap hf ⊢
  by_cases h3 : K = 3
  · subst h3; exact one_t w P N T p c al hw z2 z3
  · have hP : oneP ⟨K, P, N, al, T⟩ = if nameB N = false ∨ T ≠ [] ∨ K < 1 ∨ 4 < K ∨ K = 2 ∧ al ≠ [] then none
        else if K = 2 then some (60 :: 47 :: (N ++ [62]))
        else match oneA [] al (60 :: N) with
          | none => none
          | some o => some (o ++ endT K) := by
      unfold oneP
      simp only
      rw [if_neg h3]
      cases oneA [] al (60 :: N) <;> rfl
    by_cases hbad : nameB N = false ∨ T ≠ [] ∨ K < 1 ∨ 4 < K ∨ K = 2 ∧ al ≠ []
    · rw [hP, if_pos hbad]
      refine one_b w K P N T p c al.length h3 z3 _ _ _ _ rfl rfl rfl rfl ?_
      rcases hbad with h | h | h | h | ⟨h, h'⟩
      · exact .inl h
      · exact .inr (.inl (by simpa using h))
      · exact .inr (.inr (.inl (decide_eq_true h)))
      · exact .inr (.inr (.inr (.inl (decide_eq_true h))))
      · exact .inr (.inr (.inr (.inr ⟨h, List.length_pos_iff.2 h'⟩)))
    · rw [hP, if_neg hbad]
      simp only [not_or, Bool.not_eq_false, ne_eq, Classical.not_not] at hbad
      obtain ⟨h1, rfl, h4, h5, h6⟩ := hbad
      by_cases h2 : K = 2
      · subst h2
        have ha : al = [] := Classical.byContradiction fun h => h6 ⟨rfl, h⟩
        subst ha
        rw [if_pos rfl]
        exact one_c2 w P N p c h1 z1
      · rw [if_neg h2]
        have := one_o w K P N p c al hw (by omega) h1 z1 z3 z4 z5 hcap hf _ rfl
        cases hx : oneA [] al (60 :: N) with
        | none => rw [hx] at this; exact this
        | some o => rw [hx] at this; exact this
end Go.Proofs.YtcicibeggkmlcaaGreatDoor
