/- The walks of writing marks: ContainsFunc with the closure of mark.one. Conditions: the attributes lie in memory. (Printed by gen_txa.py.) -/
import Derived.Test.YtcicibeggkmlcaaGreatDoorLmS
import Derived.Test.YtcicibeggkmlcaaGreatDoorRpD
namespace Go.Proofs.YtcicibeggkmlcaaGreatDoor
open Go.RowKit Go.Sof

set_option maxRecDepth 1000000 in
set_option maxHeartbeats 1000000 in
theorem same1_c (w : World) (A : Nat) (X N Y : Bytes) (h : w.cell? ⟨A, 0, none⟩ = some (.string ⟨N.toArray⟩)) :
    Calls Tryz.prog 81 #[.agg #[.string ⟨X.toArray⟩, .string ⟨Y.toArray⟩], .pointer (some ⟨A, 0, none⟩)] w fun en w' => en = .returned (.bool (X == N)) ∧ Below w.heap.size w w' := by
  have hl := World.block_lt_of_cell? w _ h
  go_enter Tryz.func81, Tryz.ntmps81
  go_wp2_with fail
  go_ret
  exact ⟨rfl, (Below.refl _ w).alloc (Nat.le_refl _) _⟩

set_option maxRecDepth 1000000 in
set_option maxHeartbeats 1000000 in
theorem idxf1_c (w : World) (A b o n c : Nat) (al : List PAttr) (N : Bytes) (h : w.cell? ⟨A, 0, none⟩ = some (.string ⟨N.toArray⟩)) (hn : al.length = n) (hb : n ≤ 2097152)
    (hc : ∀ j (hj : j < al.length), w.cell? ⟨b, o + j * 2, none⟩ = some (.string ⟨(al[j]'hj).name.toArray⟩) ∧ w.cell? ⟨b, o + j * 2 + 1, none⟩ = some (.string ⟨(al[j]'hj).value.toArray⟩)) :
    Calls Tryz.prog 68 #[.slice (some ⟨b, o, none⟩) n c, .func (.func 81) #[] #[.pointer (some ⟨A, 0, none⟩)]] w fun en w' => (∃ i : Int, en = .returned (.int .i64 i) ∧ decide (0 ≤ i) = al.any (fun x => x.name == N)) ∧ Below w.heap.size w w' := by
  go_enter Tryz.func68, Tryz.ntmps68
  go_wp2_with fail
  go_loopg [8] n (fun g i wr => Below w.heap.size w wr ∧ ∃ k : Nat, k ≤ n ∧ g = n - k ∧ i = .int .i64 k ∧ ∀ j (hj : j < al.length), j < k → (al[j]'hj).name ≠ N)
  case atStart => exact ⟨Below.refl _ _, 0, Nat.zero_le _, rfl, rfl, fun j _ hj => absurd hj (by omega)⟩
  case round =>
    obtain ⟨hb1, k, hk, hg, rfl, ha⟩ := hrel
    have hcell : ∀ (a : Addr) (v : Value), w.cell? a = some v → wr.cell? a = some v := fun a v ha => (hb1.cell (p := a) (World.block_lt_of_cell? w a ha)).trans ha
    have hA := hcell _ _ h
    by_cases hlt : k < n
    · have hka : k < al.length := by omega
      have e0 := hcell _ _ (hc k hka).1
      have e1 := hcell _ _ (hc k hka).2
      obtain ⟨x, hx⟩ : ∃ x, x = al[k]'hka := ⟨_, rfl⟩
      rw [← hx] at e0 e1
      obtain ⟨bb, hbb⟩ : ∃ bb, bb = (x.name == N) := ⟨_, rfl⟩
      have hcl := same1_c wr A x.name N x.value hA
      rw [← hbb] at hcl
      have HK := Lib.hid (And.intro hb1 (And.intro hg ha)); clear hb1 hg ha hcell hc h
      have HX := Lib.hid (And.intro hx hbb); clear hx hbb
      have HN := Lib.hid hn; clear hn
      cases bb with
      | true =>
        go_wp2_with (first | (go_at_call 81; refine hcl.mono ?_; rintro en w2 ⟨rfl, b2⟩))
        go_ret
        refine ⟨⟨k, rfl, ?_⟩, HK.out.1.trans (b2.mono HK.out.1.size)⟩
        have : al.any (fun x => x.name == N) = true := by
          rw [List.any_eq_true]
          exact ⟨x, by rw [HX.out.1]; exact List.getElem_mem _, HX.out.2.symm⟩
        rw [this]; simp
      | false =>
        go_wp2_with (first | (go_at_call 81; refine hcl.mono ?_; rintro en w2 ⟨rfl, b2⟩))
        go_roundg (n - (k + 1))
        case measure => have := HK.out.2.1; omega
        case rel =>
          refine ⟨HK.out.1.trans (b2.mono HK.out.1.size), k + 1, by omega, rfl, by go_num, fun j hj hjk => ?_⟩
          by_cases hjk2 : j < k
          · exact HK.out.2.2 j hj hjk2
          · obtain rfl : j = k := by omega
            rw [← HX.out.1]
            intro e
            have := HX.out.2
            rw [e] at this; simp at this
    · obtain rfl : k = n := by omega
      have HK := Lib.hid (And.intro hb1 ha); clear hb1 hg ha hcell hc h
      have HN := Lib.hid hn; clear hn
      go_wp2_with fail
      go_ret
      refine ⟨⟨-1, rfl, ?_⟩, HK.out.1⟩
      have : al.any (fun x => x.name == N) = false := by
        rw [List.any_eq_false]
        intro x hx
        obtain ⟨j, hj, rfl⟩ := List.getElem_of_mem hx
        simpa using HK.out.2 j hj (by rw [HN.out] at hj; exact hj)
      rw [this]; rfl


set_option maxRecDepth 1000000 in
set_option maxHeartbeats 1000000 in
/-- 'ContainsFunc' over the first attributes. -/
theorem cont1_c (w : World) (A : Nat) (p : Option Addr) (n c : Nat) (al : List PAttr) (N : Bytes) (h : w.cell? ⟨A, 0, none⟩ = some (.string ⟨N.toArray⟩)) (hb : al.length ≤ 2097152) (hn : n ≤ al.length)
    (hc : ∀ (j : Nat) (hj : j < al.length), ∃ b o, p = some ⟨b, o, none⟩ ∧ w.cell? ⟨b, o + j * 2, none⟩ = some (.string ⟨(al[j]'hj).name.toArray⟩) ∧ w.cell? ⟨b, o + j * 2 + 1, none⟩ = some (.string ⟨(al[j]'hj).value.toArray⟩)) :
    Calls Tryz.prog 80 #[.slice p n c, .func (.func 81) #[] #[.pointer (some ⟨A, 0, none⟩)]] w fun en w' => en = .returned (.bool ((al.take n).any (fun x => x.name == N))) ∧ Below w.heap.size w w' := by
  by_cases h0 : n = 0
  · subst h0
    rw [List.take_zero, List.any_nil]
    clear hc
    have hi : Calls Tryz.prog 68 #[.slice p 0 c, .func (.func 81) #[] #[.pointer (some ⟨A, 0, none⟩)]] w fun en w' => en = .returned (.int .i64 (-1)) ∧ Below w.heap.size w w' := by
      go_enter Tryz.func68, Tryz.ntmps68
      go_wp2_with fail
      go_loopg [8] 0 (fun g i wr => wr = w ∧ i = .int .i64 0)
      case atStart => exact ⟨rfl, rfl⟩
      case round =>
        obtain ⟨rfl, rfl⟩ := hrel
        go_wp2_with fail
        go_ret
        exact ⟨rfl, Below.refl _ _⟩
    go_enter Tryz.func80, Tryz.ntmps80
    go_wp2_with (first | (go_at_call 68; refine hi.mono ?_; rintro en w2 ⟨rfl, b2⟩))
    go_ret
    exact ⟨rfl, b2⟩
  · obtain ⟨b, o, rfl, _⟩ := hc 0 (by omega)
    have hi := idxf1_c w A b o n c (al.take n) N h (by rw [List.length_take]; omega) (by omega) (fun j hj => by
      rw [List.length_take] at hj
      obtain ⟨b', o', e, h1, h2⟩ := hc j (by omega)
      simp only [Option.some.injEq, Addr.mk.injEq] at e
      obtain ⟨rfl, rfl, _⟩ := e
      rw [List.getElem_take]
      exact ⟨h1, h2⟩)
    obtain ⟨bb, hbb⟩ : ∃ bb, bb = (al.take n).any (fun x => x.name == N) := ⟨_, rfl⟩
    rw [← hbb] at hi ⊢
    clear hbb hc
    go_enter Tryz.func80, Tryz.ntmps80
    go_wp2_with (first | (go_at_call 68; refine hi.mono ?_; rintro en w2 ⟨⟨i, rfl, hib⟩, b2⟩))
    go_ret
    exact ⟨rfl, b2⟩

/-- a mark in a block of its own. -/
def Mk5 (w : World) (b : Nat) (K P : Int) (N : Bytes) (av : Value) (T : Bytes) : Prop := w.heap[b]? = some (.cells #[.int .i64 K, .int .i64 P, .string ⟨N.toArray⟩, av, .string ⟨T.toArray⟩] 41 (0, 0))
theorem Mk5.new (w : World) (K P : Int) (N : Bytes) (av : Value) (T : Bytes) : Mk5 (w.alloc (.cells #[.int .i64 K, .int .i64 P, .string ⟨N.toArray⟩, av, .string ⟨T.toArray⟩] 41)) w.heap.size K P N av T := heap_alloc_new w _
theorem Mk5.below {w w' : World} {b : Nat} {K P : Int} {N T : Bytes} {av : Value} (h : Mk5 w b K P N av T) (hb : Below w.heap.size w w') : Mk5 w' b K P N av T := (hb.block b (Array.getElem?_eq_some_iff.1 h).1).trans h
theorem Mk5.c0 {w : World} {b : Nat} {K P : Int} {N T : Bytes} {av : Value} (h : Mk5 w b K P N av T) : w.cell? ⟨b, 0, none⟩ = some (.int .i64 K) := by unfold Mk5 at h; unfold World.cell?; rw [h]; rfl
theorem Mk5.c2 {w : World} {b : Nat} {K P : Int} {N T : Bytes} {av : Value} (h : Mk5 w b K P N av T) : w.cell? ⟨b, 2, none⟩ = some (.string ⟨N.toArray⟩) := by unfold Mk5 at h; unfold World.cell?; rw [h]; rfl
theorem Mk5.c3 {w : World} {b : Nat} {K P : Int} {N T : Bytes} {av : Value} (h : Mk5 w b K P N av T) : w.cell? ⟨b, 3, none⟩ = some av := by unfold Mk5 at h; unfold World.cell?; rw [h]; rfl
theorem Mk5.c4 {w : World} {b : Nat} {K P : Int} {N T : Bytes} {av : Value} (h : Mk5 w b K P N av T) : w.cell? ⟨b, 4, none⟩ = some (.string ⟨T.toArray⟩) := by unfold Mk5 at h; unfold World.cell?; rw [h]; rfl
end Go.Proofs.YtcicibeggkmlcaaGreatDoor
