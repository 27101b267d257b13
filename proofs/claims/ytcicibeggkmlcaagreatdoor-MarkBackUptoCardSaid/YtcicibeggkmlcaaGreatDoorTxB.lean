/- The walk of mark.one, at a text. Conditions: the tables lie as they are laid. -/
import Derived.Test.YtcicibeggkmlcaaGreatDoorTxA
namespace Go.Proofs.YtcicibeggkmlcaaGreatDoor
open Go.RowKit Go.Sof

/-- what one returns: the text and true, or something and false. -/
def OnePost (x : Option Bytes) (en : Ending) : Prop :=
  match x with
  | some s => en = .returned (.tuple #[.string ⟨s.toArray⟩, .bool true])
  | none => ∃ X, en = .returned (.tuple #[.string X, .bool false])

set_option maxRecDepth 1000000 in
set_option maxHeartbeats 1000000 in
theorem one_t (w : World) (P : Int) (N T : Bytes) (p : Option Addr) (c : Nat) (al : List PAttr) (hw : WOK w) (hT : T.length ≤ 2097152) (hal : al.length ≤ 2097152) :
    Calls Tryz.prog 54 #[.agg #[.int .i64 3, .int .i64 P, .string ⟨N.toArray⟩, .slice p al.length c, .string ⟨T.toArray⟩]] w fun en w' => OnePost (oneP ⟨3, P, N, al, T⟩) en ∧ Below w.heap.size w w' := by
  have hc := fun W hW => escape_c ⟨T.toArray⟩ W hW (by show (List.toArray T).size ≤ _; simp; omega)
  rw [show (ByteArray.mk T.toArray).data.toList = T from rfl] at hc
  have hone : oneP ⟨3, P, N, al, T⟩ = if bad T = none ∧ N = [] ∧ al = [] then some (escL T) else none := rfl
  have hE := Mk5.new w 3 P N (.slice p al.length c) T
  have HE := Lib.hid hE; clear hE
  have HW := Lib.hid hw; clear hw
  cases hb : bad T with
  | some j =>
    rw [hone, if_neg (by rw [hb]; simp)]
    rw [show escR T = ([], 6) from by unfold escR; rw [if_neg (by rw [hb]; simp)], show escV ([], 6) = .tuple #[.string ⟨#[]⟩, .int .i64 6] from rfl] at hc
    have HC := Lib.hid hc; clear hc hone hb
    obtain ⟨na, hna⟩ : ∃ na, na = al.length := ⟨_, rfl⟩
    rw [← hna] at HE hal ⊢
    clear hna
    go_enter Tryz.func54, Tryz.ntmps54
    go_wp2_with (first
      | (go_at_call 23; refine (HC.out _ (HW.out.below ((Below.refl _ w).alloc (Nat.le_refl _) _))).mono ?_; rintro en w2 ⟨rfl, b2⟩; have h2 := HE.out.below b2; have c2 := h2.c2; have c3 := h2.c3; clear h2))
    go_quiet (fail)
    go_wp2_with fail
    go_ret2
    exact ⟨⟨_, rfl⟩, (((Below.refl _ w).alloc (Nat.le_refl _) _).trans (b2.mono (by simp))).trans ⟨rfl, rfl, rfl, Nat.le_refl _, fun _ _ => rfl⟩⟩
  | none =>
    rw [show escR T = (escL T, 0) from by unfold escR; rw [if_pos hb], show escV (escL T, 0) = .tuple #[.string ⟨(escL T).toArray⟩, .int .i64 0] from rfl] at hc
    obtain ⟨X, hX⟩ : ∃ X : ByteArray, X = ⟨(escL T).toArray⟩ := ⟨_, rfl⟩
    rw [← hX] at hc
    have HC := Lib.hid hc; clear hc
    have HX := Lib.hid hX; clear hX
    by_cases hn : N = []
    · by_cases ha : al = []
      · rw [hone, if_pos ⟨hb, hn, ha⟩]
        have hn2 : N.isEmpty = true := by rw [hn]; rfl
        have hz : al.length = 0 := by rw [ha]; rfl
        clear hone hb hn ha
        have HO := Lib.hid (show OnePost (some (escL T)) (.returned (.tuple #[.string X, .bool true])) from by rw [HX.out]; rfl)
        generalize OnePost (some (escL T)) = Q at *
        rw [hz] at HE ⊢
        go_enter Tryz.func54, Tryz.ntmps54
        go_wp2_with (first
          | (go_at_call 23; refine (HC.out _ (HW.out.below ((Below.refl _ w).alloc (Nat.le_refl _) _))).mono ?_; rintro en w2 ⟨rfl, b2⟩; have h2 := HE.out.below b2; have c2 := h2.c2; have c3 := h2.c3; clear h2))
        go_quiet (fail)
        go_wp2_with fail
        go_ret2
        exact ⟨HO.out, (((Below.refl _ w).alloc (Nat.le_refl _) _).trans (b2.mono (by simp))).trans ⟨rfl, rfl, rfl, Nat.le_refl _, fun _ _ => rfl⟩⟩
      · rw [hone, if_neg (fun h => ha h.2.2)]
        have hn2 : N.isEmpty = true := by rw [hn]; rfl
        have hz : ((al.length : Int) == 0) = false := by rw [beq_eq_false_iff_ne]; have := List.length_pos_iff.2 ha; omega
        obtain ⟨na, hna⟩ : ∃ na, na = al.length := ⟨_, rfl⟩
        rw [← hna] at HE hal hz ⊢
        have hz2 : ¬ (na = 0) := by rw [hna]; have := List.length_pos_iff.2 ha; omega
        clear hone hb hn ha hna
        go_enter Tryz.func54, Tryz.ntmps54
        go_wp2_with (first
          | (go_at_call 23; refine (HC.out _ (HW.out.below ((Below.refl _ w).alloc (Nat.le_refl _) _))).mono ?_; rintro en w2 ⟨rfl, b2⟩; have h2 := HE.out.below b2; have c2 := h2.c2; have c3 := h2.c3; clear h2))
        go_quiet (fail)
        go_wp2_with fail
        go_ret2
        exact ⟨⟨_, rfl⟩, (((Below.refl _ w).alloc (Nat.le_refl _) _).trans (b2.mono (by simp))).trans ⟨rfl, rfl, rfl, Nat.le_refl _, fun _ _ => rfl⟩⟩
    · rw [hone, if_neg (fun h => hn h.2.1)]
      have hn2 : N.isEmpty = false := by simpa using hn
      obtain ⟨na, hna⟩ : ∃ na, na = al.length := ⟨_, rfl⟩
      rw [← hna] at HE hal ⊢
      clear hone hb hn hna
      go_enter Tryz.func54, Tryz.ntmps54
      go_wp2_with (first
        | (go_at_call 23; refine (HC.out _ (HW.out.below ((Below.refl _ w).alloc (Nat.le_refl _) _))).mono ?_; rintro en w2 ⟨rfl, b2⟩; have h2 := HE.out.below b2; have c2 := h2.c2; have c3 := h2.c3; clear h2))
      go_quiet (fail)
      go_wp2_with fail
      go_ret2
      exact ⟨⟨_, rfl⟩, (((Below.refl _ w).alloc (Nat.le_refl _) _).trans (b2.mono (by simp))).trans ⟨rfl, rfl, rfl, Nat.le_refl _, fun _ _ => rfl⟩⟩
end Go.Proofs.YtcicibeggkmlcaaGreatDoor
