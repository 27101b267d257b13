/- The walks of writing marks: ContainsFunc with the closure of mark.one. Conditions: the attributes lie in memory. (Printed by gen_txa.py.) The walk of mark.one, at a text. Conditions: the tables lie as they are laid. The walk of mark.one, at an element's marks. Conditions: the tables lie as they are laid; the mark is no greater than a bulk of 2^21. The walk of mark.one, where an element begins; mark.one whole. Conditions: as in the text before. mark.one whole; mark.Text. Conditions: the tables lie as they are laid; the marks are no greater than a bulk. The walk of mark.Text. Conditions: the tables lie as they are laid; the marks lie in memory and are no greater than a bulk. -/
import Derived.Test.YtcicibeggkmlcaaGreatDoorLmS
import Derived.Test.YtcicibeggkmlcaaGreatDoorRpD
namespace Go.Proofs.YtcicibeggkmlcaaGreatDoor
open Go.RowKit Go.Sof

set_option maxRecDepth 1000000 in
set_option maxHeartbeats 1000000 in
theorem same1_c (w : World) (A : Nat) (X N Y : Bytes) (h : w.cell? ⟨A, 0, none⟩ = some (.string ⟨N.toArray⟩)) :
    Calls Tryz.prog 81 #[.agg #[.string ⟨X.toArray⟩, .string ⟨Y.toArray⟩], .pointer (some ⟨A, 0, none⟩)] w fun en w' => en = .returned (.bool (X == N)) ∧ Below w.heap.size w w' := by
  have hl := World.block_lt_of_cell? w _ h
  go_enter Tryz.func81, Tryz.ntmps81
  go_wp2_with fail
  go_ret
  exact ⟨rfl, (Below.refl _ w).alloc (Nat.le_refl _) _⟩

set_option maxRecDepth 1000000 in
set_option maxHeartbeats 1000000 in
theorem idxf1_c (w : World) (A b o n c : Nat) (al : List PAttr) (N : Bytes) (h : w.cell? ⟨A, 0, none⟩ = some (.string ⟨N.toArray⟩)) (hn : al.length = n) (hb : n ≤ 2097152)
    (hc : ∀ j (hj : j < al.length), w.cell? ⟨b, o + j * 2, none⟩ = some (.string ⟨(al[j]'hj).name.toArray⟩) ∧ w.cell? ⟨b, o + j * 2 + 1, none⟩ = some (.string ⟨(al[j]'hj).value.toArray⟩)) :
    Calls Tryz.prog 68 #[.slice (some ⟨b, o, none⟩) n c, .func (.func 81) #[] #[.pointer (some ⟨A, 0, none⟩)]] w fun en w' => (∃ i : Int, en = .returned (.int .i64 i) ∧ decide (0 ≤ i) = al.any (fun x => x.name == N)) ∧ Below w.heap.size w w' := by
  go_enter Tryz.func68, Tryz.ntmps68
  go_wp2_with fail
  go_loopg [8] n (fun g i wr => Below w.heap.size w wr ∧ ∃ k : Nat, k ≤ n ∧ g = n - k ∧ i = .int .i64 k ∧ ∀ j (hj : j < al.length), j < k → (al[j]'hj).name ≠ N)
  case atStart => exact ⟨Below.refl _ _, 0, Nat.zero_le _, rfl, rfl, fun j _ hj => absurd hj (by omega)⟩
  case round =>
    obtain ⟨hb1, k, hk, hg, rfl, ha⟩ := hrel
    have hcell : ∀ (a : Addr) (v : Value), w.cell? a = some v → wr.cell? a = some v := fun a v ha => (hb1.cell (p := a) (World.block_lt_of_cell? w a ha)).trans ha
    have hA := hcell _ _ h
    by_cases hlt : k < n
    · have hka : k < al.length := by omega
      have e0 := hcell _ _ (hc k hka).1
      have e1 := hcell _ _ (hc k hka).2
      obtain ⟨x, hx⟩ : ∃ x, x = al[k]'hka := ⟨_, rfl⟩
      rw [← hx] at e0 e1
      obtain ⟨bb, hbb⟩ : ∃ bb, bb = (x.name == N) := ⟨_, rfl⟩
      have hcl := same1_c wr A x.name N x.value hA
      rw [← hbb] at hcl
      have HK := Lib.hid (And.intro hb1 (And.intro hg ha)); clear hb1 hg ha hcell hc h
      have HX := Lib.hid (And.intro hx hbb); clear hx hbb
      have HN := Lib.hid hn; clear hn
      cases bb with
      | true =>
        go_wp2_with (first | (go_at_call 81; refine hcl.mono ?_; rintro en w2 ⟨rfl, b2⟩))
        go_ret
        refine ⟨⟨k, rfl, ?_⟩, HK.out.1.trans (b2.mono HK.out.1.size)⟩
        have : al.any (fun x => x.name == N) = true := by
          rw [List.any_eq_true]
          exact ⟨x, by rw [HX.out.1]; exact List.getElem_mem _, HX.out.2.symm⟩
        rw [this]; simp
      | false =>
        go_wp2_with (first | (go_at_call 81; refine hcl.mono ?_; rintro en w2 ⟨rfl, b2⟩))
        go_roundg (n - (k + 1))
        case measure => have := HK.out.2.1; omega
        case rel =>
          refine ⟨HK.out.1.trans (b2.mono HK.out.1.size), k + 1, by omega, rfl, by go_num, fun j hj hjk => ?_⟩
          by_cases hjk2 : j < k
          · exact HK.out.2.2 j hj hjk2
          · obtain rfl : j = k := by omega
            rw [← HX.out.1]
            intro e
            have := HX.out.2
            rw [e] at this; simp at this
    · obtain rfl : k = n := by omega
      have HK := Lib.hid (And.intro hb1 ha); clear hb1 hg ha hcell hc h
      have HN := Lib.hid hn; clear hn
      go_wp2_with fail
      go_ret
      refine ⟨⟨-1, rfl, ?_⟩, HK.out.1⟩
      have : al.any (fun x => x.name == N) = false := by
        rw [List.any_eq_false]
        intro x hx
        obtain ⟨j, hj, rfl⟩ := List.getElem_of_mem hx
        simpa using HK.out.2 j hj (by rw [HN.out] at hj; exact hj)
      rw [this]; rfl


set_option maxRecDepth 1000000 in
set_option maxHeartbeats 1000000 in
/-- 'ContainsFunc' over the first attributes. -/
theorem cont1_c (w : World) (A : Nat) (p : Option Addr) (n c : Nat) (al : List PAttr) (N : Bytes) (h : w.cell? ⟨A, 0, none⟩ = some (.string ⟨N.toArray⟩)) (hb : al.length ≤ 2097152) (hn : n ≤ al.length)
    (hc : ∀ (j : Nat) (hj : j < al.length), ∃ b o, p = some ⟨b, o, none⟩ ∧ w.cell? ⟨b, o + j * 2, none⟩ = some (.string ⟨(al[j]'hj).name.toArray⟩) ∧ w.cell? ⟨b, o + j * 2 + 1, none⟩ = some (.string ⟨(al[j]'hj).value.toArray⟩)) :
    Calls Tryz.prog 80 #[.slice p n c, .func (.func 81) #[] #[.pointer (some ⟨A, 0, none⟩)]] w fun en w' => en = .returned (.bool ((al.take n).any (fun x => x.name == N))) ∧ Below w.heap.size w w' := by
  by_cases h0 : n = 0
  · subst h0
    rw [List.take_zero, List.any_nil]
    clear hc
    have hi : Calls Tryz.prog 68 #[.slice p 0 c, .func (.func 81) #[] #[.pointer (some ⟨A, 0, none⟩)]] w fun en w' => en = .returned (.int .i64 (-1)) ∧ Below w.heap.size w w' := by
      go_enter Tryz.func68, Tryz.ntmps68
      go_wp2_with fail
      go_loopg [8] 0 (fun g i wr => wr = w ∧ i = .int .i64 0)
      case atStart => exact ⟨rfl, rfl⟩
      case round =>
        obtain ⟨rfl, rfl⟩ := hrel
        go_wp2_with fail
        go_ret
        exact ⟨rfl, Below.refl _ _⟩
    go_enter Tryz.func80, Tryz.ntmps80
    go_wp2_with (first | (go_at_call 68; refine hi.mono ?_; rintro en w2 ⟨rfl, b2⟩))
    go_ret
    exact ⟨rfl, b2⟩
  · obtain ⟨b, o, rfl, _⟩ := hc 0 (by omega)
    have hi := idxf1_c w A b o n c (al.take n) N h (by rw [List.length_take]; omega) (by omega) (fun j hj => by
      rw [List.length_take] at hj
      obtain ⟨b', o', e, h1, h2⟩ := hc j (by omega)
      simp only [Option.some.injEq, Addr.mk.injEq] at e
      obtain ⟨rfl, rfl, _⟩ := e
      rw [List.getElem_take]
      exact ⟨h1, h2⟩)
    obtain ⟨bb, hbb⟩ : ∃ bb, bb = (al.take n).any (fun x => x.name == N) := ⟨_, rfl⟩
    rw [← hbb] at hi ⊢
    clear hbb hc
    go_enter Tryz.func80, Tryz.ntmps80
    go_wp2_with (first | (go_at_call 68; refine hi.mono ?_; rintro en w2 ⟨⟨i, rfl, hib⟩, b2⟩))
    go_ret
    exact ⟨rfl, b2⟩

/-- a mark in a block of its own. -/
def Mk5 (w : World) (b : Nat) (K P : Int) (N : Bytes) (av : Value) (T : Bytes) : Prop := w.heap[b]? = some (.cells #[.int .i64 K, .int .i64 P, .string ⟨N.toArray⟩, av, .string ⟨T.toArray⟩] 41 (0, 0))
theorem Mk5.new (w : World) (K P : Int) (N : Bytes) (av : Value) (T : Bytes) : Mk5 (w.alloc (.cells #[.int .i64 K, .int .i64 P, .string ⟨N.toArray⟩, av, .string ⟨T.toArray⟩] 41)) w.heap.size K P N av T := heap_alloc_new w _
theorem Mk5.below {w w' : World} {b : Nat} {K P : Int} {N T : Bytes} {av : Value} (h : Mk5 w b K P N av T) (hb : Below w.heap.size w w') : Mk5 w' b K P N av T := (hb.block b (Array.getElem?_eq_some_iff.1 h).1).trans h
theorem Mk5.c0 {w : World} {b : Nat} {K P : Int} {N T : Bytes} {av : Value} (h : Mk5 w b K P N av T) : w.cell? ⟨b, 0, none⟩ = some (.int .i64 K) := by unfold Mk5 at h; unfold World.cell?; rw [h]; rfl
theorem Mk5.c2 {w : World} {b : Nat} {K P : Int} {N T : Bytes} {av : Value} (h : Mk5 w b K P N av T) : w.cell? ⟨b, 2, none⟩ = some (.string ⟨N.toArray⟩) := by unfold Mk5 at h; unfold World.cell?; rw [h]; rfl
theorem Mk5.c3 {w : World} {b : Nat} {K P : Int} {N T : Bytes} {av : Value} (h : Mk5 w b K P N av T) : w.cell? ⟨b, 3, none⟩ = some av := by unfold Mk5 at h; unfold World.cell?; rw [h]; rfl
theorem Mk5.c4 {w : World} {b : Nat} {K P : Int} {N T : Bytes} {av : Value} (h : Mk5 w b K P N av T) : w.cell? ⟨b, 4, none⟩ = some (.string ⟨T.toArray⟩) := by unfold Mk5 at h; unfold World.cell?; rw [h]; rfl
end Go.Proofs.YtcicibeggkmlcaaGreatDoor

namespace Go.Proofs.YtcicibeggkmlcaaGreatDoor
open Go.RowKit Go.Sof

/-- what one returns: the text and true, or something and false. -/
def OnePost (x : Option Bytes) (en : Ending) : Prop :=
  match x with
  | some s => en = .returned (.tuple #[.string ⟨s.toArray⟩, .bool true])
  | none => ∃ X, en = .returned (.tuple #[.string X, .bool false])

set_option maxRecDepth 1000000 in
set_option maxHeartbeats 1000000 in
theorem one_t (w : World) (P : Int) (N T : Bytes) (p : Option Addr) (c : Nat) (al : List PAttr) (hw : WOK w) (hT : T.length ≤ 2097152) (hal : al.length ≤ 2097152) :
    Calls Tryz.prog 54 #[.agg #[.int .i64 3, .int .i64 P, .string ⟨N.toArray⟩, .slice p al.length c, .string ⟨T.toArray⟩]] w fun en w' => OnePost (oneP ⟨3, P, N, al, T⟩) en ∧ Below w.heap.size w w' := by
  have hc := fun W hW => escape_c ⟨T.toArray⟩ W hW (by show (List.toArray T).size ≤ _; simp; omega)
  rw [show (ByteArray.mk T.toArray).data.toList = T from rfl] at hc
  have hone : oneP ⟨3, P, N, al, T⟩ = if bad T = none ∧ N = [] ∧ al = [] then some (escL T) else none := rfl
  have hE := Mk5.new w 3 P N (.slice p al.length c) T
  have HE := Lib.hid hE; clear hE
  have HW := Lib.hid hw; clear hw
  cases hb : bad T with
  | some j =>
    rw [hone, if_neg (by rw [hb]; simp)]
    rw [show escR T = ([], 6) from by unfold escR; rw [if_neg (by rw [hb]; simp)], show escV ([], 6) = .tuple #[.string ⟨#[]⟩, .int .i64 6] from rfl] at hc
    have HC := Lib.hid hc; clear hc hone hb
    obtain ⟨na, hna⟩ : ∃ na, na = al.length := ⟨_, rfl⟩
    rw [← hna] at HE hal ⊢
    clear hna
    go_enter Tryz.func54, Tryz.ntmps54
    go_wp2_with (first
      | (go_at_call 23; refine (HC.out _ (HW.out.below ((Below.refl _ w).alloc (Nat.le_refl _) _))).mono ?_; rintro en w2 ⟨rfl, b2⟩; have h2 := HE.out.below b2; have c2 := h2.c2; have c3 := h2.c3; clear h2))
    go_quiet (fail)
    go_wp2_with fail
    go_ret2
    exact ⟨⟨_, rfl⟩, (((Below.refl _ w).alloc (Nat.le_refl _) _).trans (b2.mono (by simp))).trans ⟨rfl, rfl, rfl, Nat.le_refl _, fun _ _ => rfl⟩⟩
  | none =>
    rw [show escR T = (escL T, 0) from by unfold escR; rw [if_pos hb], show escV (escL T, 0) = .tuple #[.string ⟨(escL T).toArray⟩, .int .i64 0] from rfl] at hc
    obtain ⟨X, hX⟩ : ∃ X : ByteArray, X = ⟨(escL T).toArray⟩ := ⟨_, rfl⟩
    rw [← hX] at hc
    have HC := Lib.hid hc; clear hc
    have HX := Lib.hid hX; clear hX
    by_cases hn : N = []
    · by_cases ha : al = []
      · rw [hone, if_pos ⟨hb, hn, ha⟩]
        have hn2 : N.isEmpty = true := by rw [hn]; rfl
        have hz : al.length = 0 := by rw [ha]; rfl
        clear hone hb hn ha
        have HO := Lib.hid (show OnePost (some (escL T)) (.returned (.tuple #[.string X, .bool true])) from by rw [HX.out]; rfl)
        generalize OnePost (some (escL T)) = Q at *
        rw [hz] at HE ⊢
        go_enter Tryz.func54, Tryz.ntmps54
        go_wp2_with (first
          | (go_at_call 23; refine (HC.out _ (HW.out.below ((Below.refl _ w).alloc (Nat.le_refl _) _))).mono ?_; rintro en w2 ⟨rfl, b2⟩; have h2 := HE.out.below b2; have c2 := h2.c2; have c3 := h2.c3; clear h2))
        go_quiet (fail)
        go_wp2_with fail
        go_ret2
        exact ⟨HO.out, (((Below.refl _ w).alloc (Nat.le_refl _) _).trans (b2.mono (by simp))).trans ⟨rfl, rfl, rfl, Nat.le_refl _, fun _ _ => rfl⟩⟩
      · rw [hone, if_neg (fun h => ha h.2.2)]
        have hn2 : N.isEmpty = true := by rw [hn]; rfl
        have hz : ((al.length : Int) == 0) = false := by rw [beq_eq_false_iff_ne]; have := List.length_pos_iff.2 ha; omega
        obtain ⟨na, hna⟩ : ∃ na, na = al.length := ⟨_, rfl⟩
        rw [← hna] at HE hal hz ⊢
        have hz2 : ¬ (na = 0) := by rw [hna]; have := List.length_pos_iff.2 ha; omega
        clear hone hb hn ha hna
        go_enter Tryz.func54, Tryz.ntmps54
        go_wp2_with (first
          | (go_at_call 23; refine (HC.out _ (HW.out.below ((Below.refl _ w).alloc (Nat.le_refl _) _))).mono ?_; rintro en w2 ⟨rfl, b2⟩; have h2 := HE.out.below b2; have c2 := h2.c2; have c3 := h2.c3; clear h2))
        go_quiet (fail)
        go_wp2_with fail
        go_ret2
        exact ⟨⟨_, rfl⟩, (((Below.refl _ w).alloc (Nat.le_refl _) _).trans (b2.mono (by simp))).trans ⟨rfl, rfl, rfl, Nat.le_refl _, fun _ _ => rfl⟩⟩
    · rw [hone, if_neg (fun h => hn h.2.1)]
      have hn2 : N.isEmpty = false := by simpa using hn
      obtain ⟨na, hna⟩ : ∃ na, na = al.length := ⟨_, rfl⟩
      rw [← hna] at HE hal ⊢
      clear hone hb hn hna
      go_enter Tryz.func54, Tryz.ntmps54
      go_wp2_with (first
        | (go_at_call 23; refine (HC.out _ (HW.out.below ((Below.refl _ w).alloc (Nat.le_refl _) _))).mono ?_; rintro en w2 ⟨rfl, b2⟩; have h2 := HE.out.below b2; have c2 := h2.c2; have c3 := h2.c3; clear h2))
      go_quiet (fail)
      go_wp2_with fail
      go_ret2
      exact ⟨⟨_, rfl⟩, (((Below.refl _ w).alloc (Nat.le_refl _) _).trans (b2.mono (by simp))).trans ⟨rfl, rfl, rfl, Nat.le_refl _, fun _ _ => rfl⟩⟩
end Go.Proofs.YtcicibeggkmlcaaGreatDoor

namespace Go.Proofs.YtcicibeggkmlcaaGreatDoor
open Go.RowKit Go.Sof

set_option maxRecDepth 1000000 in
set_option maxHeartbeats 1000000 in
/-- a mark that may not be. -/
theorem one_b (w : World) (K P : Int) (N T : Bytes) (p : Option Addr) (c na : Nat) (h3 : K ≠ 3) (hna : na ≤ 2097152) (b1 b2 b3 b4 : Bool) (hb1 : nameB N = b1) (hb2 : T.isEmpty = b2) (hb3 : decide (K < 1) = b3) (hb4 : decide (4 < K) = b4)
    (h : b1 = false ∨ b2 = false ∨ b3 = true ∨ b4 = true ∨ (K = 2 ∧ 0 < na)) :
    Calls Tryz.prog 54 #[.agg #[.int .i64 K, .int .i64 P, .string ⟨N.toArray⟩, .slice p na c, .string ⟨T.toArray⟩]] w fun en w' => OnePost none en ∧ Below w.heap.size w w' := by
  have hc := fun W => name_c ⟨N.toArray⟩ W
  rw [show (ByteArray.mk N.toArray).data.toList = N from rfl, hb1] at hc
  have n3 : (K == 3) = false := by rw [beq_eq_false_iff_ne]; exact h3
  have HE := Lib.hid (Mk5.new w K P N (.slice p na c) T)
  have HC := Lib.hid hc; clear hc hb1
  cases b1 with
  | false =>
    go_enter Tryz.func54, Tryz.ntmps54
    go_wp2_with (first | (go_at_call 21; refine (HC.out _).mono ?_; rintro en w2 ⟨rfl, c2⟩))
    go_ret2
    exact ⟨⟨_, rfl⟩, ((Below.refl _ w).alloc (Nat.le_refl _) _).trans (c2.mono (by simp))⟩
  | true =>
    cases b2 with
    | false =>
      go_enter Tryz.func54, Tryz.ntmps54
      go_wp2_with (first | (go_at_call 21; refine (HC.out _).mono ?_; rintro en w2 ⟨rfl, c2⟩; have h2 := HE.out.below c2; have m4 := h2.c4; clear h2))
      go_ret2
      exact ⟨⟨_, rfl⟩, ((Below.refl _ w).alloc (Nat.le_refl _) _).trans (c2.mono (by simp))⟩
    | true =>
      cases b3 with
      | true =>
        have hK : K < 1 := of_decide_eq_true hb3
        go_enter Tryz.func54, Tryz.ntmps54
        go_wp2_with (first | (go_at_call 21; refine (HC.out _).mono ?_; rintro en w2 ⟨rfl, c2⟩; have h2 := HE.out.below c2; have m4 := h2.c4; have m0 := h2.c0; clear h2))
        go_ret2
        exact ⟨⟨_, rfl⟩, ((Below.refl _ w).alloc (Nat.le_refl _) _).trans (c2.mono (by simp))⟩
      | false =>
        have hK : 1 ≤ K := by have := of_decide_eq_false hb3; omega
        cases b4 with
        | true =>
          have hK2 : 4 < K := of_decide_eq_true hb4
          go_enter Tryz.func54, Tryz.ntmps54
          go_wp2_with (first | (go_at_call 21; refine (HC.out _).mono ?_; rintro en w2 ⟨rfl, c2⟩; have h2 := HE.out.below c2; have m4 := h2.c4; have m0 := h2.c0; clear h2))
          go_ret2
          exact ⟨⟨_, rfl⟩, ((Below.refl _ w).alloc (Nat.le_refl _) _).trans (c2.mono (by simp))⟩
        | false =>
          obtain ⟨rfl, hpos⟩ : K = 2 ∧ 0 < na := by simpa using h
          have hposI : (0 : Int) < (na : Int) := by omega
          clear h h3 n3 hb3 hb4 hK
          go_enter Tryz.func54, Tryz.ntmps54
          go_wp2_with (first | (go_at_call 21; refine (HC.out _).mono ?_; rintro en w2 ⟨rfl, c2⟩; have h2 := HE.out.below c2; have m4 := h2.c4; have m0 := h2.c0; have m3 := h2.c3; clear h2))
          go_ret2
          exact ⟨⟨_, rfl⟩, ((Below.refl _ w).alloc (Nat.le_refl _) _).trans (c2.mono (by simp))⟩

set_option maxRecDepth 1000000 in
set_option maxHeartbeats 1000000 in
/-- where an element ends. -/
theorem one_c2 (w : World) (P : Int) (N : Bytes) (p : Option Addr) (c : Nat) (hb1 : nameB N = true) (hl : N.length ≤ 2097152) :
    Calls Tryz.prog 54 #[.agg #[.int .i64 2, .int .i64 P, .string ⟨N.toArray⟩, .slice p 0 c, .string ⟨#[]⟩]] w fun en w' => OnePost (some (60 :: 47 :: (N ++ [62]))) en ∧ Below w.heap.size w w' := by
  have hc := fun W => name_c ⟨N.toArray⟩ W
  rw [show (ByteArray.mk N.toArray).data.toList = N from rfl, hb1] at hc
  have HE := Lib.hid (Mk5.new w 2 P N (.slice p 0 c) [])
  have HC := Lib.hid hc; clear hc hb1
  have HO := Lib.hid (show OnePost (some (60 :: 47 :: (N ++ [62]))) (.returned (.tuple #[.string (ByteArray.mk #[60, 47] ++ ByteArray.mk N.toArray ++ ByteArray.mk #[62]), .bool true])) from by
    have e : ByteArray.mk #[60, 47] ++ ByteArray.mk N.toArray ++ ByteArray.mk #[62] = ⟨(60 :: 47 :: (N ++ [62])).toArray⟩ := by apply ByteArray.ext; simp
    rw [e]; rfl)
  generalize OnePost (some (60 :: 47 :: (N ++ [62]))) = Q at *
  go_enter Tryz.func54, Tryz.ntmps54
  go_wp2_with (first | (go_at_call 21; refine (HC.out _).mono ?_; rintro en w2 ⟨rfl, c2⟩; have h2 := HE.out.below c2; have m4 := h2.c4; have m0 := h2.c0; have m3 := h2.c3; have m2 := h2.c2; clear h2))
  go_ret2
  exact ⟨HO.out, ((Below.refl _ w).alloc (Nat.le_refl _) _).trans (c2.mono (by simp))⟩
end Go.Proofs.YtcicibeggkmlcaaGreatDoor

namespace Go.Proofs.YtcicibeggkmlcaaGreatDoor
open Go.RowKit Go.Sof

def addE (K : Int) : Option Bytes → Option Bytes
  | none => none
  | some o => some (o ++ endT K)
theorem attrsT_take_le (al : List PAttr) (k : Nat) : (attrsT (al.take k)).length ≤ (attrsT al).length := by
  have : attrsT al = attrsT (al.take k) ++ attrsT (al.drop k) := by unfold attrsT; rw [← List.flatMap_append, List.take_append_drop]
  rw [this, List.length_append]; omega
theorem attrsT_snoc (al : List PAttr) (k : Nat) (h : k < al.length) : attrsT (al.take (k + 1)) = attrsT (al.take k) ++ attrT (al[k]'h) := by
  rw [List.take_succ_eq_append_getElem h]; unfold attrsT; rw [List.flatMap_append]; simp
theorem endT_one {K : Int} (h : K = 1) : endT K = [62] := by subst h; rfl
theorem cat_attr (O N V : Bytes) : ByteArray.mk O.toArray ++ (ByteArray.mk #[32] ++ ByteArray.mk N.toArray ++ ByteArray.mk #[61, 34] ++ ByteArray.mk V.toArray ++ ByteArray.mk #[34]) = ByteArray.mk (O ++ (32 :: (N ++ 61 :: 34 :: (V ++ [34])))).toArray := by
  apply ByteArray.ext; simp

set_option maxRecDepth 1000000 in
set_option maxHeartbeats 4000000 in
theorem one_o (w : World) (K P : Int) (N : Bytes) (p : Option Addr) (c : Nat) (al : List PAttr) (hw : WOK w) (hK : K = 1 ∨ K = 4) (hb1 : nameB N = true) (hl : N.length ≤ 2097152) (hal : al.length ≤ 2097152) (hat : (attrsT al).length ≤ 16777216) (hv : ∀ a ∈ al, a.value.length ≤ 2097152 ∧ a.name.length ≤ 2097152) (hcap : al.length ≤ c)
    (hf : ∀ (j : Nat) (hj : j < al.length), ∃ b o, p = some ⟨b, o, none⟩ ∧ w.cell? ⟨b, o + j * 2, none⟩ = some (.string ⟨(al[j]'hj).name.toArray⟩) ∧ w.cell? ⟨b, o + j * 2 + 1, none⟩ = some (.string ⟨(al[j]'hj).value.toArray⟩))
    (X : Option Bytes) (hX : oneA [] al (60 :: N) = X) :
    Calls Tryz.prog 54 #[.agg #[.int .i64 K, .int .i64 P, .string ⟨N.toArray⟩, .slice p al.length c, .string ⟨#[]⟩]] w fun en w' => OnePost (addE K X) en ∧ Below w.heap.size w w' := by
  have hc := fun W => name_c ⟨N.toArray⟩ W
  rw [show (ByteArray.mk N.toArray).data.toList = N from rfl, hb1] at hc
  obtain ⟨na, hna⟩ : ∃ na, na = al.length := ⟨_, rfl⟩
  rw [← hna] at hal hcap ⊢
  have HE := Lib.hid (Mk5.new w K P N (.slice p na c) [])
  have HC := Lib.hid hc; clear hc hb1
  have HF := Lib.hid (And.intro hf (And.intro hX (And.intro hna (And.intro hat hv)))); clear hf hX hna hat hv
  have HW := Lib.hid hw; clear hw
  have k3 : (K == 3) = false := by rw [beq_eq_false_iff_ne]; omega
  have k1 : decide (K < 1) = false := decide_eq_false (by omega)
  have k4 : decide (4 < K) = false := decide_eq_false (by omega)
  have k2 : (K == 2) = false := by rw [beq_eq_false_iff_ne]; omega
  have hcI : (na : Int) ≤ (c : Int) := by omega
  go_enter Tryz.func54, Tryz.ntmps54
  go_wp2_with (first | (go_at_call 21; refine (HC.out _).mono ?_; rintro en w2 ⟨rfl, b2⟩; have h2 := HE.out.below b2; have m4 := h2.c4; have m0 := h2.c0; have m3 := h2.c3; have m2 := h2.c2; have H2 := Lib.hid h2; clear h2))
  go_loopg [6, 77] na (fun g o i wr => Below w.heap.size w wr ∧ Mk5 wr w.heap.size K P N (.slice p na c) [] ∧ w.heap.size < wr.heap.size ∧ ∃ k : Nat, k ≤ na ∧ g = na - k ∧ i = .int .i64 k ∧ o = .string ⟨(60 :: N ++ attrsT (al.take k)).toArray⟩ ∧ oneA (al.take k) (al.drop k) (60 :: N ++ attrsT (al.take k)) = X)
  case atStart =>
    refine ⟨((Below.refl _ w).alloc (Nat.le_refl _) _).trans (b2.mono (by simp)), H2.out, (Array.getElem?_eq_some_iff.1 H2.out).1, 0, Nat.zero_le _, rfl, rfl, ?_, ?_⟩
    · congr 1; apply ByteArray.ext; simp [attrsT]
    · rw [List.take_zero, List.drop_zero]; simpa [attrsT] using HF.out.2.1
  case round =>
    obtain ⟨hb, hm5, hsz, k, hk, hg, rfl, rfl, hx⟩ := hrel
    have hOl : (60 :: N ++ attrsT (al.take k)).length ≤ 20971520 := by
      have h1 := attrsT_take_le al k
      have h2 := HF.out.2.2.2.1
      rw [List.length_append, List.length_cons]; omega
    by_cases hlt : k < na
    · have hka : k < al.length := by rw [← HF.out.2.2.1]; exact hlt
      obtain ⟨b, o, rfl, e0, e1⟩ := HF.out.1 k hka
      have hvk := HF.out.2.2.2.2 _ (List.getElem_mem hka)
      have hsn := attrsT_snoc al k hka
      have htk := List.take_succ_eq_append_getElem hka
      rw [List.drop_eq_getElem_cons hka] at hx
      obtain ⟨a, ha⟩ : ∃ a, a = al[k]'hka := ⟨_, rfl⟩
      rw [← ha] at e0 e1 hvk hsn htk hx
      have e0' := cell_keep hb e0
      have e1' := cell_keep hb e1
      have hesc := fun W hW => escape_c ⟨a.value.toArray⟩ W hW (by show (List.toArray a.value).size ≤ _; simp; omega)
      rw [show (ByteArray.mk a.value.toArray).data.toList = a.value from rfl] at hesc
      have hnm := fun W => name_c ⟨a.name.toArray⟩ W
      rw [show (ByteArray.mk a.name.toArray).data.toList = a.name from rfl] at hnm
      have hkI : (k : Int) ≤ (c : Int) := by omega
      have hkI2 : (k : Int) < (na : Int) := by omega
      obtain ⟨O, hO⟩ : ∃ O, O = 60 :: N ++ attrsT (al.take k) := ⟨_, rfl⟩
      rw [← hO] at hx hOl ⊢
      have HB := Lib.hid (And.intro hb (And.intro hm5 hsz)); clear hb hm5
      have HG := Lib.hid (And.intro hg (And.intro hsn (And.intro htk hO))); clear hg hsn htk hO ha
      have hna2 := hvk.2
      have hwr := Lib.hid (show WOK wr from HW.out.below HB.out.1)
      cases hbv : bad a.value with
      | some j =>
        have hX1 : X = none := by rw [← hx]; unfold oneA; rw [if_pos (Or.inl (by rw [hbv]; simp))]
        subst hX1
        rw [show escR a.value = ([], 6) from by unfold escR; rw [if_neg (by rw [hbv]; simp)], show escV ([], 6) = .tuple #[.string ⟨#[]⟩, .int .i64 6] from rfl] at hesc
        have HH := Lib.hid hesc; clear hesc hnm hx hbv hvk
        go_wp2_with (first
          | (go_at_call 23; refine (HH.out _ (hwr.out.below ((Below.refl _ wr).alloc (Nat.le_refl _) _))).mono ?_; rintro en w3 ⟨rfl, b3⟩))
        go_ret2
        exact ⟨⟨_, rfl⟩, HB.out.1.trans (((Below.refl _ wr).alloc (Nat.le_refl _) _).trans (b3.mono (by simp)) |>.mono HB.out.1.size)⟩
      | none =>
        rw [show escR a.value = (escL a.value, 0) from by unfold escR; rw [if_pos hbv], show escV (escL a.value, 0) = .tuple #[.string ⟨(escL a.value).toArray⟩, .int .i64 0] from rfl] at hesc
        have hel := escL_le a.value
        obtain ⟨V, hV⟩ : ∃ V, V = escL a.value := ⟨_, rfl⟩
        rw [← hV] at hesc hel
        cases hnb : nameB a.name with
        | false =>
          have hX1 : X = none := by rw [← hx]; unfold oneA; rw [if_pos (Or.inr (Or.inl hnb))]
          subst hX1
          rw [hnb] at hnm
          have HH := Lib.hid (And.intro hesc hnm); clear hesc hnm hx hbv hvk hnb hV
          go_wp2_with (first
            | (go_at_call 23; refine (HH.out.1 _ (hwr.out.below ((Below.refl _ wr).alloc (Nat.le_refl _) _))).mono ?_; rintro en w3 ⟨rfl, b3⟩; have s0 := ((St2.new wr ⟨a.name.toArray⟩ ⟨a.value.toArray⟩).below b3).c0)
            | (go_at_call 21; refine (HH.out.2 _).mono ?_; rintro en w4 ⟨rfl, b4⟩))
          go_ret2
          exact ⟨⟨_, rfl⟩, HB.out.1.trans (((((Below.refl _ wr).alloc (Nat.le_refl _) _).trans (b3.mono (by simp))).trans (b4.mono (by have := b3.size; simp at this ⊢; omega))).mono HB.out.1.size)⟩
        | true =>
          rw [hnb] at hnm
          have hVl : V.length ≤ 12582912 := by have := hvk.1; omega
          have hct := fun W => cont1_c W wr.heap.size (some ⟨b, o, none⟩) k c al a.name
          have hfA : ∀ W, Below w.heap.size w W → ∀ (j : Nat) (hj : j < al.length), ∃ b' o', (some ⟨b, o, none⟩ : Option Addr) = some ⟨b', o', none⟩ ∧ W.cell? ⟨b', o' + j * 2, none⟩ = some (.string ⟨(al[j]'hj).name.toArray⟩) ∧ W.cell? ⟨b', o' + j * 2 + 1, none⟩ = some (.string ⟨(al[j]'hj).value.toArray⟩) := fun W hW j hj => by
            obtain ⟨b', o', e, h1, h2⟩ := HF.out.1 j hj
            exact ⟨b', o', e, cell_keep hW h1, cell_keep hW h2⟩
          obtain ⟨dup, hdup⟩ : ∃ dup, dup = (al.take k).any (fun x => x.name == a.name) := ⟨_, rfl⟩
          rw [← hdup] at hct
          have hx2 : (if dup = true then none else oneA (al.take (k + 1)) (al.drop (k + 1)) (O ++ attrT a)) = X := by
            rw [← hx, HG.out.2.2.1]
            have e : oneA (al.take k) (a :: al.drop (k + 1)) O = if bad a.value ≠ none ∨ nameB a.name = false ∨ (al.take k).any (fun b => b.name == a.name) = true then none else oneA (al.take k ++ [a]) (al.drop (k + 1)) (O ++ attrT a) := rfl
            rw [e, hbv, hnb, ← hdup]
            cases dup <;> simp
          have HH := Lib.hid (And.intro hesc (And.intro hnm (And.intro hct (And.intro hfA (And.intro hx2 hV))))); clear hesc hnm hx hbv hvk hnb hct hdup hfA hx2 hV
          cases dup with
          | true =>
            have hX1 : X = none := by rw [← HH.out.2.2.2.2.1]; rfl
            subst hX1
            go_wp2_with (first
              | (go_at_call 23; refine (HH.out.1 _ (hwr.out.below ((Below.refl _ wr).alloc (Nat.le_refl _) _))).mono ?_; rintro en w3 ⟨rfl, b3⟩; have s0 := ((St2.new wr ⟨a.name.toArray⟩ ⟨a.value.toArray⟩).below b3).c0)
              | (go_at_call 21; refine (HH.out.2.1 _).mono ?_; rintro en w4 ⟨rfl, b4⟩; have t0 := cell_keep b4 s0; have t3 := ((((HB.out.2.1.below ((Below.refl _ wr).alloc (Nat.le_refl _) _)).below b3)).below b4).c3; have BA := Lib.hid (HB.out.1.trans (((((Below.refl _ wr).alloc (Nat.le_refl _) _).trans (b3.mono (by simp))).trans (b4.mono (by have := b3.size; simp at this ⊢; omega))).mono HB.out.1.size)))
              | (go_at_call 80; refine (HH.out.2.2.1 _ t0 (by have := HF.out.2.2.1; omega) (by have := HF.out.2.2.1; omega) (HH.out.2.2.2.1 _ BA.out)).mono ?_; rintro en w5 ⟨rfl, b5⟩))
            go_ret2
            exact ⟨⟨_, rfl⟩, BA.out.trans (b5.mono BA.out.size)⟩
          | false =>
            have hX1 : oneA (al.take (k + 1)) (al.drop (k + 1)) (O ++ attrT a) = X := HH.out.2.2.2.2.1
            have HX1 := Lib.hid hX1; clear hX1
            go_wp2_with (first
              | (go_at_call 23; refine (HH.out.1 _ (hwr.out.below ((Below.refl _ wr).alloc (Nat.le_refl _) _))).mono ?_; rintro en w3 ⟨rfl, b3⟩; have s0 := ((St2.new wr ⟨a.name.toArray⟩ ⟨a.value.toArray⟩).below b3).c0)
              | (go_at_call 21; refine (HH.out.2.1 _).mono ?_; rintro en w4 ⟨rfl, b4⟩; have t0 := cell_keep b4 s0; have hM4 := (((HB.out.2.1.below ((Below.refl _ wr).alloc (Nat.le_refl _) _)).below b3)).below b4; have t3 := hM4.c3; have M4 := Lib.hid hM4; clear hM4; have BA := Lib.hid (HB.out.1.trans (((((Below.refl _ wr).alloc (Nat.le_refl _) _).trans (b3.mono (by simp))).trans (b4.mono (by have := b3.size; simp at this ⊢; omega))).mono HB.out.1.size)))
              | (go_at_call 80; refine (HH.out.2.2.1 _ t0 (by have := HF.out.2.2.1; omega) (by have := HF.out.2.2.1; omega) (HH.out.2.2.2.1 _ BA.out)).mono ?_; rintro en w5 ⟨rfl, b5⟩; have u0 := cell_keep b5 t0))
            go_roundg (na - (k + 1))
            case measure => have := HG.out.1; omega
            case rel =>
              have e1 : 60 :: N ++ attrsT (al.take (k + 1)) = O ++ attrT a := by rw [HG.out.2.1, HG.out.2.2.2, List.append_assoc]
              refine ⟨BA.out.trans (b5.mono BA.out.size), M4.out.below b5, ?_, k + 1, by omega, rfl, by go_num, ?_, ?_⟩
              · have := (Array.getElem?_eq_some_iff.1 (M4.out.below b5)).1; exact this
              · rw [e1, cat_attr]
                unfold attrT
                rw [HH.out.2.2.2.2.2]
              · rw [e1]; exact HX1.out
    · obtain rfl : k = na := by omega
      have hX1 : some (60 :: N ++ attrsT (al.take k)) = X := by
        rw [← hx, List.drop_of_length_le (by rw [← HF.out.2.2.1]; exact Nat.le_refl _)]; rfl
      subst hX1
      have hkI : decide ((k : Int) < (k : Int)) = false := decide_eq_false (by omega)
      have n0 := hm5.c0
      obtain ⟨O, hO⟩ : ∃ O, O = 60 :: N ++ attrsT (al.take k) := ⟨_, rfl⟩
      rw [← hO] at hOl ⊢
      have HB := Lib.hid hb
      have HOO := Lib.hid hO; clear hb hm5 hx hO
      rcases hK with rfl | rfl
      · have HO := Lib.hid (show OnePost (addE 1 (some O)) (.returned (.tuple #[.string (ByteArray.mk O.toArray ++ ByteArray.mk #[62]), .bool true])) from by
          rw [show ByteArray.mk O.toArray ++ ByteArray.mk #[62] = ByteArray.mk (O ++ [62]).toArray from by apply ByteArray.ext; simp]; rfl)
        go_wp2_with fail
        go_ret2
        rw [← HOO.out]
        exact ⟨HO.out, HB.out⟩
      · have HO := Lib.hid (show OnePost (addE 4 (some O)) (.returned (.tuple #[.string (ByteArray.mk O.toArray ++ ByteArray.mk #[47] ++ ByteArray.mk #[62]), .bool true])) from by
          rw [show ByteArray.mk O.toArray ++ ByteArray.mk #[47] ++ ByteArray.mk #[62] = ByteArray.mk (O ++ [47, 62]).toArray from by apply ByteArray.ext; simp]; rfl)
        go_wp2_with fail
        go_ret2
        rw [← HOO.out]
        exact ⟨HO.out, HB.out⟩
end Go.Proofs.YtcicibeggkmlcaaGreatDoor

namespace Go.Proofs.YtcicibeggkmlcaaGreatDoor
open Go.RowKit Go.Sof

/-- how great a mark may be. -/
structure MkSz (m : PMark) : Prop where
  name : m.name.length ≤ 2097152
  text : m.text.length ≤ 2097152
  attrs : m.attrs.length ≤ 2097152
  all : (attrsT m.attrs).length ≤ 16777216
  each : ∀ a ∈ m.attrs, a.value.length ≤ 2097152 ∧ a.name.length ≤ 2097152

theorem one_all (w : World) (m : PMark) (p : Option Addr) (c : Nat) (hw : WOK w) (hz : MkSz m) (hcap : m.attrs.length ≤ c)
    (hf : ∀ (j : Nat) (hj : j < m.attrs.length), ∃ b o, p = some ⟨b, o, none⟩ ∧ w.cell? ⟨b, o + j * 2, none⟩ = some (.string ⟨(m.attrs[j]'hj).name.toArray⟩) ∧ w.cell? ⟨b, o + j * 2 + 1, none⟩ = some (.string ⟨(m.attrs[j]'hj).value.toArray⟩)) :
    Calls Tryz.prog 54 #[.agg #[.int .i64 m.kind, .int .i64 m.pos, .string ⟨m.name.toArray⟩, .slice p m.attrs.length c, .string ⟨m.text.toArray⟩]] w fun en w' => OnePost (oneP m) en ∧ Below w.heap.size w w' := by
  obtain ⟨K, P, N, al, T⟩ := m
  obtain ⟨z1, z2, z3, z4, z5⟩ := hz
  simp only at z1 z2 z3 z4 z5 hcap hf ⊢
  by_cases h3 : K = 3
  · subst h3; exact one_t w P N T p c al hw z2 z3
  · have hP : oneP ⟨K, P, N, al, T⟩ = if nameB N = false ∨ T ≠ [] ∨ K < 1 ∨ 4 < K ∨ K = 2 ∧ al ≠ [] then none
        else if K = 2 then some (60 :: 47 :: (N ++ [62]))
        else match oneA [] al (60 :: N) with
          | none => none
          | some o => some (o ++ endT K) := by
      unfold oneP
      simp only
      rw [if_neg h3]
      cases oneA [] al (60 :: N) <;> rfl
    by_cases hbad : nameB N = false ∨ T ≠ [] ∨ K < 1 ∨ 4 < K ∨ K = 2 ∧ al ≠ []
    · rw [hP, if_pos hbad]
      refine one_b w K P N T p c al.length h3 z3 _ _ _ _ rfl rfl rfl rfl ?_
      rcases hbad with h | h | h | h | ⟨h, h'⟩
      · exact .inl h
      · exact .inr (.inl (by simpa using h))
      · exact .inr (.inr (.inl (decide_eq_true h)))
      · exact .inr (.inr (.inr (.inl (decide_eq_true h))))
      · exact .inr (.inr (.inr (.inr ⟨h, List.length_pos_iff.2 h'⟩)))
    · rw [hP, if_neg hbad]
      simp only [not_or, Bool.not_eq_false, ne_eq, Classical.not_not] at hbad
      obtain ⟨h1, rfl, h4, h5, h6⟩ := hbad
      by_cases h2 : K = 2
      · subst h2
        have ha : al = [] := Classical.byContradiction fun h => h6 ⟨rfl, h⟩
        subst ha
        rw [if_pos rfl]
        exact one_c2 w P N p c h1 z1
      · rw [if_neg h2]
        have := one_o w K P N p c al hw (by omega) h1 z1 z3 z4 z5 hcap hf _ rfl
        cases hx : oneA [] al (60 :: N) with
        | none => rw [hx] at this; exact this
        | some o => rw [hx] at this; exact this
end Go.Proofs.YtcicibeggkmlcaaGreatDoor

namespace Go.Proofs.YtcicibeggkmlcaaGreatDoor
open Go.RowKit Go.Sof

/-- a mark, to be read whole: its attributes' slice has its capacity. -/
def MarkC (w : World) (g o : Nat) (m : PMark) : Prop :=
  w.cell? ⟨g, o, none⟩ = some (.int .i64 m.kind) ∧ w.cell? ⟨g, o + 1, none⟩ = some (.int .i64 m.pos) ∧ w.cell? ⟨g, o + 2, none⟩ = some (.string ⟨m.name.toArray⟩) ∧ w.cell? ⟨g, o + 4, none⟩ = some (.string ⟨m.text.toArray⟩) ∧
    ∃ pa ca, w.cell? ⟨g, o + 3, none⟩ = some (.slice pa m.attrs.length ca) ∧ m.attrs.length ≤ ca ∧
      ∀ (j : Nat) (hj : j < m.attrs.length), ∃ b q, pa = some ⟨b, q, none⟩ ∧ w.cell? ⟨b, q + j * 2, none⟩ = some (.string ⟨(m.attrs[j]'hj).name.toArray⟩) ∧ w.cell? ⟨b, q + j * 2 + 1, none⟩ = some (.string ⟨(m.attrs[j]'hj).value.toArray⟩)
def MarksC (w : World) (p : Option Addr) (ms : List PMark) : Prop := ∀ (i : Nat) (hi : i < ms.length), ∃ g o, p = some ⟨g, o, none⟩ ∧ MarkC w g (o + i * 5) (ms[i]'hi)
theorem MarkC.below {w w' : World} {g o : Nat} {m : PMark} (h : MarkC w g o m) (hb : Below w.heap.size w w') : MarkC w' g o m := by
  obtain ⟨h0, h1, h2, h4, pa, ca, h3, hc, hf⟩ := h
  refine ⟨cell_keep hb h0, cell_keep hb h1, cell_keep hb h2, cell_keep hb h4, pa, ca, cell_keep hb h3, hc, fun j hj => ?_⟩
  obtain ⟨b, q, e, e1, e2⟩ := hf j hj
  exact ⟨b, q, e, cell_keep hb e1, cell_keep hb e2⟩
theorem MarksC.below {w w' : World} {p : Option Addr} {ms : List PMark} (h : MarksC w p ms) (hb : Below w.heap.size w w') : MarksC w' p ms := fun i hi => by
  obtain ⟨g, o, e, hm⟩ := h i hi
  exact ⟨g, o, e, hm.below hb⟩

theorem oneA_eq : ∀ (al seen : List PAttr) (out o : Bytes), oneA seen al out = some o → o = out ++ attrsT al
  | [], _, out, o, h => by simp only [oneA, Option.some.injEq] at h; simp [attrsT, h]
  | a :: r, seen, out, o, h => by
    unfold oneA at h
    split at h
    · simp at h
    · rw [oneA_eq r _ _ _ h]; simp [attrsT]
theorem oneP_len {m : PMark} {s : Bytes} (hz : MkSz m) (h : oneP m = some s) : s.length ≤ 20971520 := by
  unfold oneP at h
  split at h
  · split at h
    · simp only [Option.some.injEq] at h
      have := escL_le m.text
      have := hz.text
      rw [← h]; omega
    · simp at h
  split at h
  · simp at h
  split at h
  · simp only [Option.some.injEq] at h
    have := hz.name
    rw [← h]; simp; omega
  · cases ho : oneA [] m.attrs (60 :: m.name) with
    | none => rw [ho] at h; simp at h
    | some o =>
      rw [ho] at h
      simp only [Option.some.injEq] at h
      have e := oneA_eq _ _ _ _ ho
      have h1 := hz.name
      have h2 := hz.all
      have h3 : (endT m.kind).length ≤ 2 := by unfold endT; split <;> simp
      rw [← h, e]
      simp only [List.length_append, List.length_cons]
      omega

def TextPost (x : Except Int Bytes) (en : Ending) : Prop :=
  match x with
  | .ok t => en = .returned (.tuple #[.string ⟨t.toArray⟩, .int .i64 0])
  | .error e => en = .returned (.tuple #[.string ⟨#[]⟩, .int .i64 e])

set_option maxRecDepth 1000000 in
set_option maxHeartbeats 4000000 in
theorem text_c (w : World) (p : Option Addr) (c : Nat) (ms : List PMark) (hw : WOK w) (hl : ms.length ≤ 2097152) (hz : ∀ m ∈ ms, MkSz m) (hm : MarksC w p ms) (X : Except Int Bytes) (hX : textP ms = X) :
    Calls Tryz.prog 28 #[.slice p ms.length c] w fun en w' => TextPost X en ∧ Below w.heap.size w w' := by
  obtain ⟨n, hn⟩ : ∃ n, n = ms.length := ⟨_, rfl⟩
  rw [← hn] at hl ⊢
  have HF := Lib.hid (And.intro hm (And.intro hz (And.intro hX hn))); clear hm hz hX hn
  have HW := Lib.hid hw; clear hw
  go_enter Tryz.func28, Tryz.ntmps28
  go_wp2_with fail
  go_loopg [5, 12] n (fun g f i wr => Below w.heap.size w wr ∧ w.heap.size < wr.heap.size ∧ ∃ (k : Nat) (O : Bytes) (fb : Bool), k ≤ n ∧ g = n - k ∧ i = .int .i64 k ∧ f = .bool fb ∧ O.length ≤ 65536 ∧ Lib.IsBuilderF 71 5 w.heap.size w.heap.size (Lib.byteCells O) wr ∧ textF (ms.drop k) O fb = X)
  case atStart => exact ⟨(Below.refl _ w).alloc (Nat.le_refl _) _, by simp, 0, [], false, Nat.zero_le _, rfl, rfl, rfl, by simp, fresh_builder w, HF.out.2.2.1⟩
  case round =>
    obtain ⟨hb, hsz, k, O, fb, hk, hg, rfl, rfl, hO, hbu, hx⟩ := hrel
    by_cases hlt : k < n
    · have hka : k < ms.length := by rw [← HF.out.2.2.2]; exact hlt
      obtain ⟨g, o, rfl, hmc⟩ := HF.out.1 k hka
      have hzk := HF.out.2.1 _ (List.getElem_mem hka)
      rw [List.drop_eq_getElem_cons hka] at hx
      generalize ms[k]'hka = m at *
      obtain ⟨e0, e1, e2, e4, pa, ca, e3, hca, hfa⟩ := hmc.below hb
      have hone := fun W (hW : WOK W) (hB : Below wr.heap.size wr W) => one_all W m pa ca hW hzk hca (fun j hj => by
        obtain ⟨b, q, e, d1, d2⟩ := hfa j hj
        exact ⟨b, q, e, cell_keep hB d1, cell_keep hB d2⟩)
      have hstep : textF (m :: ms.drop (k + 1)) O fb = match oneP m with
          | none => .error 2
          | some s => if fb = true ∨ 65536 < O.length + s.length then textF (ms.drop (k + 1)) O true else textF (ms.drop (k + 1)) (O ++ s) false := rfl
      rw [hstep] at hx
      have hkI : (k : Int) < (n : Int) := by omega
      have hwr := Lib.hid (show WOK wr from HW.out.below hb)
      have HB := Lib.hid (And.intro hb (And.intro hbu (And.intro hsz hg))); clear hb hbu hsz hg hmc hfa hstep
      cases ho : oneP m with
      | none =>
        rw [ho] at hx hone
        simp only at hx
        subst hx
        have HC := Lib.hid hone; clear hone ho
        go_wp2_with (first
          | (go_at_call 54; refine (HC.out _ (hwr.out.below ((Below.refl _ wr).alloc (Nat.le_refl _) _)) ((Below.refl _ wr).alloc (Nat.le_refl _) _)).mono ?_; rintro en w2 ⟨⟨Y, rfl⟩, b2⟩))
        go_ret2
        exact ⟨rfl, HB.out.1.trans ((((Below.refl _ wr).alloc (Nat.le_refl _) _).trans (b2.mono (by simp))).mono HB.out.1.size)⟩
      | some t =>
        have htl := oneP_len hzk ho
        rw [ho] at hx hone
        simp only at hx
        obtain ⟨S, hS⟩ : ∃ S : ByteArray, S = ⟨t.toArray⟩ := ⟨_, rfl⟩
        have hSs : S.size = t.length := by rw [hS]; show (List.toArray t).size = _; simp
        have hSl : S.data.toList = t := by rw [hS]
        have hone2 : ∀ W, WOK W → Below wr.heap.size wr W → Calls Tryz.prog 54 #[.agg #[.int .i64 m.kind, .int .i64 m.pos, .string ⟨m.name.toArray⟩, .slice pa m.attrs.length ca, .string ⟨m.text.toArray⟩]] W fun en w' => en = .returned (.tuple #[.string S, .bool true]) ∧ Below W.heap.size W w' := fun W h1 h2 => by
          have := hone W h1 h2
          rw [hS]; exact this
        have hSz : S.size ≤ 20971520 := by omega
        have HC := Lib.hid (And.intro hone2 hSl); clear hone hone2 ho hS hSl
        have hlen := Tryz.Builder_Len_f w.heap.size w.heap.size (Lib.byteCells O)
        rw [Lib.byteCells_length] at hlen
        have HL := Lib.hid hlen; clear hlen
        cases fb with
        | true =>
          rw [if_pos (Or.inl rfl)] at hx
          have HX := Lib.hid (And.intro hx hSs); clear hx hSs
          go_wp2_with (first
            | (go_at_call 54; refine (HC.out.1 _ (hwr.out.below ((Below.refl _ wr).alloc (Nat.le_refl _) _)) ((Below.refl _ wr).alloc (Nat.le_refl _) _)).mono ?_; rintro en w2 ⟨rfl, b2⟩))
          go_roundg (n - (k + 1))
          case measure => have := HB.out.2.2.2; omega
          case rel =>
            have hbb : Below wr.heap.size wr w2 := ((Below.refl _ wr).alloc (Nat.le_refl _) _).trans (b2.mono (by simp))
            exact ⟨HB.out.1.trans (hbb.mono HB.out.1.size), by have := HB.out.2.2.1; have := hbb.size; omega, k + 1, O, true, by omega, rfl, by go_num, rfl, hO, IsBuilderF_keep HB.out.2.1 hbb, HX.out.1⟩
        | false =>
          by_cases hbig : 65536 < O.length + t.length
          · rw [if_pos (Or.inr hbig)] at hx
            have hbI : (65536 : Int) < (O.length : Int) + (S.size : Int) := by omega
            have HX := Lib.hid (And.intro hx hSs); clear hx hSs hbig
            go_wp2_with (first
              | (go_at_call 54; refine (HC.out.1 _ (hwr.out.below ((Below.refl _ wr).alloc (Nat.le_refl _) _)) ((Below.refl _ wr).alloc (Nat.le_refl _) _)).mono ?_; rintro en w2 ⟨rfl, b2⟩; have hbb : Below wr.heap.size wr w2 := (((Below.refl _ wr).alloc (Nat.le_refl _) _).trans (b2.mono (by simp))))
              | (go_at_call 55; refine (HL.out _ (IsBuilderF_keep HB.out.2.1 hbb)).mono ?_; rintro en w3 ⟨rfl, rfl⟩))
            go_roundg (n - (k + 1))
            case measure => have := HB.out.2.2.2; omega
            case rel =>
              exact ⟨HB.out.1.trans (hbb.mono HB.out.1.size), by have := HB.out.2.2.1; have := hbb.size; omega, k + 1, O, true, by omega, rfl, by go_num, rfl, hO, IsBuilderF_keep HB.out.2.1 hbb, HX.out.1⟩
          · rw [if_neg (by simpa using hbig)] at hx
            have hbD : decide ((65536 : Int) < (O.length : Int) + (S.size : Int)) = false := decide_eq_false (by omega)
            have hbN : O.length + S.size ≤ 65536 := by omega
            have HX := Lib.hid (And.intro hx hSs); clear hx hSs hbig
            go_wp2_with (first
              | (go_at_call 54; refine (HC.out.1 _ (hwr.out.below ((Below.refl _ wr).alloc (Nat.le_refl _) _)) ((Below.refl _ wr).alloc (Nat.le_refl _) _)).mono ?_; rintro en w2 ⟨rfl, b2⟩; have hbb : Below wr.heap.size wr w2 := (((Below.refl _ wr).alloc (Nat.le_refl _) _).trans (b2.mono (by simp))))
              | (go_at_call 55; refine (HL.out _ (IsBuilderF_keep HB.out.2.1 hbb)).mono ?_; rintro en w3 ⟨rfl, rfl⟩)
              | (go_at_call 51; refine (WriteString_c w.heap.size w.heap.size O S _ (IsBuilderF_keep HB.out.2.1 hbb) (by omega) (by have := HB.out.2.2.1; have := hbb.size; omega)).mono ?_; rintro en w4 ⟨rfl, hbu4, b4, _⟩))
            go_roundg (n - (k + 1))
            case measure => have := HB.out.2.2.2; omega
            case rel =>
              rw [HC.out.2] at hbu4
              exact ⟨(HB.out.1.trans (hbb.mono HB.out.1.size)).trans b4, by have := HB.out.2.2.1; have := hbb.size; have := b4.size; omega, k + 1, O ++ t, false, by omega, rfl, by go_num, rfl, by rw [List.length_append]; have := HX.out.2; omega, hbu4, HX.out.1⟩
    · obtain rfl : k = n := by omega
      have hkI : decide ((k : Int) < (k : Int)) = false := decide_eq_false (by omega)
      rw [List.drop_of_length_le (by rw [← HF.out.2.2.2]; exact Nat.le_refl _)] at hx
      have HB := Lib.hid (And.intro hb (And.intro hbu hsz)); clear hb hbu hsz hg
      cases fb with
      | true =>
        have hx' : X = .error 10 := hx.symm
        subst hx'
        go_wp2_with fail
        go_ret2
        exact ⟨rfl, HB.out.1⟩
      | false =>
        have hx' : X = .ok O := hx.symm
        subst hx'
        go_wp2_with (first
          | (go_at_call 52; refine (String_c w.heap.size w.heap.size O wr HB.out.2.1 (Nat.le_of_lt HB.out.2.2)).mono ?_; rintro en w2 ⟨rfl, _, b2⟩))
        go_ret2
        exact ⟨rfl, HB.out.1.trans b2⟩
end Go.Proofs.YtcicibeggkmlcaaGreatDoor
