/- The walk of slices.ContainsFunc over attributes, with the reader's own closure. Conditions: the attributes lie in memory. -/
import Derived.Test.YtcicibeggkmlcaaGreatDoorMkG
namespace Go.Proofs.YtcicibeggkmlcaaGreatDoor
open Go.RowKit Go.Sof

set_option maxRecDepth 1000000 in
set_option maxHeartbeats 1000000 in
theorem same_c (w : World) (A : Nat) (X N Y : Bytes) (h : w.cell? ⟨A, 0, none⟩ = some (.string ⟨N.toArray⟩)) :
    Calls Tryz.prog 89 #[.agg #[.string ⟨X.toArray⟩, .string ⟨Y.toArray⟩], .pointer (some ⟨A, 0, none⟩)] w fun en w' => en = .returned (.bool (X == N)) ∧ Below w.heap.size w w' := by
  have hl := World.block_lt_of_cell? w _ h
  go_enter Tryz.func89, Tryz.ntmps89
  go_wp2_with fail
  go_ret
  exact ⟨rfl, (Below.refl _ w).alloc (Nat.le_refl _) _⟩

set_option maxRecDepth 1000000 in
set_option maxHeartbeats 1000000 in
theorem idxf_c (w : World) (A b n c : Nat) (al : List PAttr) (N : Bytes) (h : w.cell? ⟨A, 0, none⟩ = some (.string ⟨N.toArray⟩)) (hn : al.length = n) (hb : n ≤ 65537)
    (hc : ∀ j (hj : j < al.length), w.cell? ⟨b, j * 2, none⟩ = some (.string ⟨(al[j]'hj).name.toArray⟩) ∧ w.cell? ⟨b, j * 2 + 1, none⟩ = some (.string ⟨(al[j]'hj).value.toArray⟩)) :
    Calls Tryz.prog 68 #[.slice (some ⟨b, 0, none⟩) n c, .func (.func 89) #[] #[.pointer (some ⟨A, 0, none⟩)]] w fun en w' => (∃ i : Int, en = .returned (.int .i64 i) ∧ decide (0 ≤ i) = al.any (fun x => x.name == N)) ∧ Below w.heap.size w w' := by
  go_enter Tryz.func68, Tryz.ntmps68
  go_wp2_with fail
  go_loopg [8] n (fun g i wr => Below w.heap.size w wr ∧ ∃ k : Nat, k ≤ n ∧ g = n - k ∧ i = .int .i64 k ∧ ∀ j (hj : j < al.length), j < k → (al[j]'hj).name ≠ N)
  case atStart => exact ⟨Below.refl _ _, 0, Nat.zero_le _, rfl, rfl, fun j _ hj => absurd hj (by omega)⟩
  case round =>
    obtain ⟨hb1, k, hk, hg, rfl, ha⟩ := hrel
    have hcell : ∀ (a : Addr) (v : Value), w.cell? a = some v → wr.cell? a = some v := fun a v ha => (hb1.cell (p := a) (World.block_lt_of_cell? w a ha)).trans ha
    have hA := hcell _ _ h
    by_cases hlt : k < n
    · have hka : k < al.length := by omega
      have e0 := hcell _ _ (hc k hka).1
      have e1 := hcell _ _ (hc k hka).2
      obtain ⟨x, hx⟩ : ∃ x, x = al[k]'hka := ⟨_, rfl⟩
      rw [← hx] at e0 e1
      obtain ⟨bb, hbb⟩ : ∃ bb, bb = (x.name == N) := ⟨_, rfl⟩
      have hcl := same_c wr A x.name N x.value hA
      rw [← hbb] at hcl
      have HK := Lib.hid (And.intro hb1 (And.intro hg ha)); clear hb1 hg ha hcell hc h
      have HX := Lib.hid (And.intro hx hbb); clear hx hbb
      have HN := Lib.hid hn; clear hn
      cases bb with
      | true =>
        go_wp2_with (first | (go_at_call 89; refine hcl.mono ?_; rintro en w2 ⟨rfl, b2⟩))
        go_ret
        refine ⟨⟨k, rfl, ?_⟩, HK.out.1.trans (b2.mono HK.out.1.size)⟩
        have : al.any (fun x => x.name == N) = true := by
          rw [List.any_eq_true]
          exact ⟨x, by rw [HX.out.1]; exact List.getElem_mem _, HX.out.2.symm⟩
        rw [this]; simp
      | false =>
        go_wp2_with (first | (go_at_call 89; refine hcl.mono ?_; rintro en w2 ⟨rfl, b2⟩))
        go_roundg (n - (k + 1))
        case measure => have := HK.out.2.1; omega
        case rel =>
          refine ⟨HK.out.1.trans (b2.mono HK.out.1.size), k + 1, by omega, rfl, by go_num, fun j hj hjk => ?_⟩
          by_cases hjk2 : j < k
          · exact HK.out.2.2 j hj hjk2
          · obtain rfl : j = k := by omega
            rw [← HX.out.1]
            intro e
            have := HX.out.2
            rw [e] at this; simp at this
    · obtain rfl : k = n := by omega
      have HK := Lib.hid (And.intro hb1 ha); clear hb1 hg ha hcell hc h
      have HN := Lib.hid hn; clear hn
      go_wp2_with fail
      go_ret
      refine ⟨⟨-1, rfl, ?_⟩, HK.out.1⟩
      have : al.any (fun x => x.name == N) = false := by
        rw [List.any_eq_false]
        intro x hx
        obtain ⟨j, hj, rfl⟩ := List.getElem_of_mem hx
        simpa using HK.out.2 j hj (by rw [HN.out] at hj; exact hj)
      rw [this]; rfl

set_option maxRecDepth 1000000 in
theorem idxf_nil (w : World) (f : Value) :
    Calls Tryz.prog 68 #[.slice none 0 0, f] w fun en w' => en = .returned (.int .i64 (-1)) ∧ Below w.heap.size w w' := by
  go_enter Tryz.func68, Tryz.ntmps68
  go_wp2_with fail
  go_loopg [8] 0 (fun g i wr => wr = w ∧ i = .int .i64 0)
  case atStart => exact ⟨rfl, rfl⟩
  case round =>
    obtain ⟨rfl, rfl⟩ := hrel
    go_wp2_with fail
    go_ret
    exact ⟨rfl, Below.refl _ _⟩

/-- 'ContainsFunc' over a row of attributes of the call's own. -/
theorem own_attrs {w : World} {B : Nat} {av : Value} {al : List PAttr} (h : w.ownsRow B 58 2 av al.length (attrCells al)) :
    (al = [] ∧ av = .slice none 0 0) ∨ ∃ g cap, av = .slice (some ⟨g, 0, none⟩) al.length cap ∧ B ≤ g ∧ g < w.heap.size ∧ (∃ cur, w.heap[g]? = some (.cells cur 58 (0, 0)) ∧ ∀ j u, (attrCells al)[j]? = some u → cur[0 + j]? = some u) := by
  rcases h.2 with ⟨hv, h0⟩ | ⟨g, cap, cur, hv, hb, hg, _, _, _, ht⟩
  · exact .inl ⟨List.eq_nil_of_length_eq_zero h0, hv⟩
  · refine .inr ⟨g, cap, hv, hb, (Array.getElem?_eq_some_iff.1 hg).1, cur, hg, fun j u hj => ?_⟩
    rw [← ht, List.getElem?_take] at hj
    split at hj
    · rw [Nat.zero_add, ← Array.getElem?_toList]; exact hj
    · simp at hj
theorem attrCells_at : ∀ (al : List PAttr) (j : Nat) (hj : j < al.length), (attrCells al)[j * 2]? = some (.string ⟨(al[j]'hj).name.toArray⟩) ∧ (attrCells al)[j * 2 + 1]? = some (.string ⟨(al[j]'hj).value.toArray⟩)
  | [], _, h => by simp at h
  | a :: r, 0, _ => ⟨rfl, rfl⟩
  | a :: r, j + 1, h => by
    have := attrCells_at r j (by simpa using h)
    have e : attrCells (a :: r) = .string ⟨a.name.toArray⟩ :: .string ⟨a.value.toArray⟩ :: attrCells r := rfl
    rw [e, show (j + 1) * 2 = j * 2 + 2 from by omega, show j * 2 + 2 + 1 = j * 2 + 1 + 2 from by omega]
    exact this

set_option maxRecDepth 1000000 in
set_option maxHeartbeats 1000000 in
theorem cont_c (w : World) (A B : Nat) (av : Value) (al : List PAttr) (N : Bytes) (h : w.cell? ⟨A, 0, none⟩ = some (.string ⟨N.toArray⟩)) (hb : al.length ≤ 65537) (ho : w.ownsRow B 58 2 av al.length (attrCells al)) :
    Calls Tryz.prog 80 #[av, .func (.func 89) #[] #[.pointer (some ⟨A, 0, none⟩)]] w fun en w' => en = .returned (.bool (al.any (fun x => x.name == N))) ∧ Below w.heap.size w w' := by
  rcases own_attrs ho with ⟨rfl, rfl⟩ | ⟨g, cap, rfl, _, hgl, cur, hg, hcur⟩
  · clear ho
    go_enter Tryz.func80, Tryz.ntmps80
    go_wp2_with (first | (go_at_call 68; refine (idxf_nil w _).mono ?_; rintro en w2 ⟨rfl, b2⟩))
    go_ret
    exact ⟨rfl, b2⟩
  · have hi := idxf_c w A g al.length cap al N h rfl hb (fun j hj => by
      have hcc := attrCells_at al j hj
      have h1 := hcur _ _ hcc.1
      have h2 := hcur _ _ hcc.2
      rw [Nat.zero_add] at h1 h2
      unfold World.cell?; rw [hg]
      exact ⟨by simpa using h1, by simpa using h2⟩)
    obtain ⟨bb, hbb⟩ : ∃ bb, bb = al.any (fun x => x.name == N) := ⟨_, rfl⟩
    rw [← hbb] at hi ⊢
    clear hbb hcur
    go_enter Tryz.func80, Tryz.ntmps80
    go_wp2_with (first | (go_at_call 68; refine hi.mono ?_; rintro en w2 ⟨⟨i, rfl, hib⟩, b2⟩))
    go_ret
    exact ⟨rfl, b2⟩
end Go.Proofs.YtcicibeggkmlcaaGreatDoor
