/- Marks whose attributes lie in an older world; a row of them. Conditions: none. -/
import Derived.Test.YtcicibeggkmlcaaGreatDoorLmX
namespace Go.Proofs.YtcicibeggkmlcaaGreatDoor
open Go.RowKit Go.Sof

def AttrsC (w : World) (av : Value) (al : List PAttr) : Prop := ∃ pa ca, av = .slice pa al.length ca ∧ al.length ≤ ca ∧ AttrsF w pa al
/-- the cells of marks whose attributes lie in another's memory. -/
def MarksX (w : World) : List PMark → List Value → Prop
  | [], xs => xs = []
  | m :: r, xs => ∃ av ys, xs = mkCell m av ++ ys ∧ AttrsC w av m.attrs ∧ MarksX w r ys
theorem MarksX.snoc {w : World} : ∀ {ms : List PMark} {xs : List Value} {m : PMark} {av : Value}, MarksX w ms xs → AttrsC w av m.attrs → MarksX w (ms ++ [m]) (xs ++ mkCell m av)
  | [], xs, m, av, h, ha => by have h' : xs = [] := h; subst h'; exact ⟨av, [], by simp, ha, rfl⟩
  | m0 :: r, xs, m, av, h, ha => by
    obtain ⟨av0, ys, rfl, h2, h3⟩ := h
    exact ⟨av0, ys ++ mkCell m av, by simp, h2, h3.snoc ha⟩
theorem MarksX.at {w : World} : ∀ {ms : List PMark} {xs : List Value}, MarksX w ms xs → ∀ (i : Nat) (hi : i < ms.length), ∃ av, AttrsC w av (ms[i]'hi).attrs ∧ ∀ j, j < 5 → xs[i * 5 + j]? = (mkCell (ms[i]'hi) av)[j]?
  | [], _, _, i, hi => by simp at hi
  | m :: r, xs, h, 0, _ => by
    obtain ⟨av, ys, rfl, ha, _⟩ := h
    refine ⟨av, ha, fun j hj => ?_⟩
    rw [Nat.zero_mul, Nat.zero_add, List.getElem?_append_left (by simp [mkCell]; omega)]; rfl
  | m :: r, xs, h, i + 1, hi => by
    obtain ⟨av, ys, rfl, _, h3⟩ := h
    obtain ⟨av', ha, hj⟩ := MarksX.at h3 i (by simpa using hi)
    refine ⟨av', ha, fun j hj' => ?_⟩
    rw [List.getElem?_append_right (by simp [mkCell]; omega), show (i + 1) * 5 + j - (mkCell m av).length = i * 5 + j from by simp [mkCell]; omega]
    exact hj j hj'
theorem AttrsF.below {w w' : World} {p : Option Addr} {al : List PAttr} (h : AttrsF w p al) (hb : Below w.heap.size w w') : AttrsF w' p al := fun j hj => by
  obtain ⟨b, o, e, c0, c1⟩ := h j hj
  exact ⟨b, o, e, cell_keep hb c0, cell_keep hb c1⟩
/-- an own row of such marks, to be read. -/
theorem marksX_form {w : World} {B e n : Nat} {v : Value} {xs : List Value} (h : w.ownsRow B e 5 v n xs) : ∃ p c, v = .slice p n c ∧ n ≤ c := by
  rcases h.2 with ⟨hv, h0⟩ | ⟨g, cap, cur, hv, _, hg, hcap, _, _, ht⟩
  · subst h0; exact ⟨none, 0, hv, Nat.le_refl _⟩
  · exact ⟨_, cap, hv, hcap⟩
theorem marksX_read {w w0 : World} {B : Nat} {p : Option Addr} {c : Nat} {ms : List PMark} {xs : List Value} (hb : Below w0.heap.size w0 w) (h : w.ownsRow B 41 5 (.slice p ms.length c) ms.length xs) (hm : MarksX w0 ms xs) : MarksC w p ms := by
  rcases h.2 with ⟨hv, h0⟩ | ⟨g, cap, cur, hv, _, hg, hcap, _, _, ht⟩
  · intro i hi; omega
  · simp only [Value.slice.injEq] at hv
    obtain ⟨rfl, -, rfl⟩ := hv
    intro i hi
    obtain ⟨av, ⟨pa, ca, rfl, hca, hf⟩, hj⟩ := hm.at i hi
    have key : ∀ j u, j < 5 → (mkCell (ms[i]'hi) (.slice pa (ms[i]'hi).attrs.length ca))[j]? = some u → w.cell? ⟨g, 0 + i * 5 + j, none⟩ = some u := by
      intro j u hj5 hu
      have h1 := hj j hj5
      rw [hu, ← ht, List.getElem?_take] at h1
      split at h1
      · rw [Array.getElem?_toList] at h1
        unfold World.cell?; rw [hg]
        simpa using h1
      · simp at h1
    exact ⟨g, 0, rfl, key 0 _ (by omega) rfl, key 1 _ (by omega) rfl, key 2 _ (by omega) rfl, key 4 _ (by omega) rfl, pa, ca, key 3 _ (by omega) rfl, hca, hf.below hb⟩
end Go.Proofs.YtcicibeggkmlcaaGreatDoor
