/- The walk of mark.one, at an element's marks. Conditions: the tables lie as they are laid; the mark is no greater than a bulk of 2^21. -/
import Derived.Test.YtcicibeggkmlcaaGreatDoorTxB
namespace Go.Proofs.YtcicibeggkmlcaaGreatDoor
open Go.RowKit Go.Sof

set_option maxRecDepth 1000000 in
set_option maxHeartbeats 1000000 in
/-- a mark that may not be. -/
theorem one_b (w : World) (K P : Int) (N T : Bytes) (p : Option Addr) (c na : Nat) (h3 : K ≠ 3) (hna : na ≤ 2097152) (b1 b2 b3 b4 : Bool) (hb1 : nameB N = b1) (hb2 : T.isEmpty = b2) (hb3 : decide (K < 1) = b3) (hb4 : decide (4 < K) = b4)
    (h : b1 = false ∨ b2 = false ∨ b3 = true ∨ b4 = true ∨ (K = 2 ∧ 0 < na)) :
    Calls Tryz.prog 54 #[.agg #[.int .i64 K, .int .i64 P, .string ⟨N.toArray⟩, .slice p na c, .string ⟨T.toArray⟩]] w fun en w' => OnePost none en ∧ Below w.heap.size w w' := by
  have hc := fun W => name_c ⟨N.toArray⟩ W
  rw [show (ByteArray.mk N.toArray).data.toList = N from rfl, hb1] at hc
  have n3 : (K == 3) = false := by rw [beq_eq_false_iff_ne]; exact h3
  have HE := Lib.hid (Mk5.new w K P N (.slice p na c) T)
  have HC := Lib.hid hc; clear hc hb1
  cases b1 with
  | false =>
    go_enter Tryz.func54, Tryz.ntmps54
    go_wp2_with (first | (go_at_call 21; refine (HC.out _).mono ?_; rintro en w2 ⟨rfl, c2⟩))
    go_ret2
    exact ⟨⟨_, rfl⟩, ((Below.refl _ w).alloc (Nat.le_refl _) _).trans (c2.mono (by simp))⟩
  | true =>
    cases b2 with
    | false =>
      go_enter Tryz.func54, Tryz.ntmps54
      go_wp2_with (first | (go_at_call 21; refine (HC.out _).mono ?_; rintro en w2 ⟨rfl, c2⟩; have h2 := HE.out.below c2; have m4 := h2.c4; clear h2))
      go_ret2
      exact ⟨⟨_, rfl⟩, ((Below.refl _ w).alloc (Nat.le_refl _) _).trans (c2.mono (by simp))⟩
    | true =>
      cases b3 with
      | true =>
        have hK : K < 1 := of_decide_eq_true hb3
        go_enter Tryz.func54, Tryz.ntmps54
        go_wp2_with (first | (go_at_call 21; refine (HC.out _).mono ?_; rintro en w2 ⟨rfl, c2⟩; have h2 := HE.out.below c2; have m4 := h2.c4; have m0 := h2.c0; clear h2))
        go_ret2
        exact ⟨⟨_, rfl⟩, ((Below.refl _ w).alloc (Nat.le_refl _) _).trans (c2.mono (by simp))⟩
      | false =>
        have hK : 1 ≤ K := by have := of_decide_eq_false hb3; omega
        cases b4 with
        | true =>
          have hK2 : 4 < K := of_decide_eq_true hb4
          go_enter Tryz.func54, Tryz.ntmps54
          go_wp2_with (first | (go_at_call 21; refine (HC.out _).mono ?_; rintro en w2 ⟨rfl, c2⟩; have h2 := HE.out.below c2; have m4 := h2.c4; have m0 := h2.c0; clear h2))
          go_ret2
          exact ⟨⟨_, rfl⟩, ((Below.refl _ w).alloc (Nat.le_refl _) _).trans (c2.mono (by simp))⟩
        | false =>
          obtain ⟨rfl, hpos⟩ : K = 2 ∧ 0 < na := by simpa using h
          have hposI : (0 : Int) < (na : Int) := by omega
          clear h h3 n3 hb3 hb4 hK
          go_enter Tryz.func54, Tryz.ntmps54
          go_wp2_with (first | (go_at_call 21; refine (HC.out _).mono ?_; rintro en w2 ⟨rfl, c2⟩; have h2 := HE.out.below c2; have m4 := h2.c4; have m0 := h2.c0; have m3 := h2.c3; clear h2))
          go_ret2
          exact ⟨⟨_, rfl⟩, ((Below.refl _ w).alloc (Nat.le_refl _) _).trans (c2.mono (by simp))⟩

set_option maxRecDepth 1000000 in
set_option maxHeartbeats 1000000 in
/-- where an element ends. -/
theorem one_c2 (w : World) (P : Int) (N : Bytes) (p : Option Addr) (c : Nat) (hb1 : nameB N = true) (hl : N.length ≤ 2097152) :
    Calls Tryz.prog 54 #[.agg #[.int .i64 2, .int .i64 P, .string ⟨N.toArray⟩, .slice p 0 c, .string ⟨#[]⟩]] w fun en w' => OnePost (some (60 :: 47 :: (N ++ [62]))) en ∧ Below w.heap.size w w' := by
  have hc := fun W => name_c ⟨N.toArray⟩ W
  rw [show (ByteArray.mk N.toArray).data.toList = N from rfl, hb1] at hc
  have HE := Lib.hid (Mk5.new w 2 P N (.slice p 0 c) [])
  have HC := Lib.hid hc; clear hc hb1
  have HO := Lib.hid (show OnePost (some (60 :: 47 :: (N ++ [62]))) (.returned (.tuple #[.string (ByteArray.mk #[60, 47] ++ ByteArray.mk N.toArray ++ ByteArray.mk #[62]), .bool true])) from by
    have e : ByteArray.mk #[60, 47] ++ ByteArray.mk N.toArray ++ ByteArray.mk #[62] = ⟨(60 :: 47 :: (N ++ [62])).toArray⟩ := by apply ByteArray.ext; simp
    rw [e]; rfl)
  generalize OnePost (some (60 :: 47 :: (N ++ [62]))) = Q at *
  go_enter Tryz.func54, Tryz.ntmps54
  go_wp2_with (first | (go_at_call 21; refine (HC.out _).mono ?_; rintro en w2 ⟨rfl, c2⟩; have h2 := HE.out.below c2; have m4 := h2.c4; have m0 := h2.c0; have m3 := h2.c3; have m2 := h2.c2; clear h2))
  go_ret2
  exact ⟨HO.out, ((Below.refl _ w).alloc (Nat.le_refl _) _).trans (c2.mono (by simp))⟩
end Go.Proofs.YtcicibeggkmlcaaGreatDoor
