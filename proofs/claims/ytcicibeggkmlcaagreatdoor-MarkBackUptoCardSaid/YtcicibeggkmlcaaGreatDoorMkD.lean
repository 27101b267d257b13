/- The walks of the reader of marks: comment, chars. Conditions: as in the text before. -/
import Derived.Test.YtcicibeggkmlcaaGreatDoorMkC
namespace Go.Proofs.YtcicibeggkmlcaaGreatDoor
open Go.RowKit Go.Sof

theorem hp_get (s : ByteArray) (q : Nat) (h : q < s.size) (b : UInt8) : Lib.hasPrefix (s.data.toList.drop q) [b] = (b == s[q]'h) := by
  rw [get_cons s q h]; exact hp_one _ _ _
theorem hp_past (s : ByteArray) (q : Nat) (h : s.size ≤ q) (b : UInt8) : Lib.hasPrefix (s.data.toList.drop q) [b] = false := by
  rw [List.drop_of_length_le (by rw [show s.data.toList.length = s.size from Array.length_toList]; exact h)]; rfl

def CommentPost (R : Nat) (s : ByteArray) (p : Nat) (ms : List PMark) (x : Except Err Nat) (w' : World) : Prop :=
  match x with
  | .ok n => RS w' R s (p + n) ms
  | .error (k, e) => RF w' R s (p + k) e

set_option maxRecDepth 1000000 in
set_option maxHeartbeats 1000000 in
theorem comment_c (w : World) (R : Nat) (s : ByteArray) (p : Nat) (ms : List PMark) (h : RS w R s p ms) (hs : s.size ≤ 65536) (hp : p + 4 ≤ s.size) (hw : WOK w) :
    Calls Tryz.prog 58 #[.pointer (some ⟨R, 0, none⟩)] w fun en w' => en = .returned (.tuple #[]) ∧ CommentPost R s p ms (commentP (s.data.toList.drop p)) w' ∧ Below R w w' := by
  obtain ⟨out, xs, h1, h2, h3, h4⟩ := h
  have hXl := Lib.extract_to_end s (p + 4)
  have c0 := h1.c0
  have c1 := h1.c1
  have hp1 : (p : Int) + 4 ≤ (s.size : Int) := by omega
  unfold commentP
  simp only [List.drop_drop]
  cases hi : idx (s.data.toList.drop (p + 4)) [45, 45] with
  | none =>
    obtain ⟨B, Z, hBs, hq⟩ := cut_no (s.extract (p + 4) s.size) ⟨#[45, 45]⟩ w hw (by simp; omega) (by rw [hXl]; exact hi)
    have hB2 : B.size ≤ 65536 := by rw [hBs]; simp; omega
    have HC := Lib.hid hq; clear hq hi hXl hBs
    have H := Lib.hid h1; clear h1 h2 h3 h4
    go_enter Tryz.func58, Tryz.ntmps58
    go_wp2_with fail
    go_quiet (first | (go_at_call 49; refine (HC.out _)))
    go_wp2_with (first | (go_at_call 83; refine (fail_c _ R s p out 0 (H.out.drewN nq) _ _).mono ?_; rintro en w2 ⟨rfl, hr, hg⟩))
    refine bodyPost_ret (results_none rfl _ _ _) rfl ?_
    exact ⟨rfl, ⟨p, out, hr⟩, below_grown ((grown_drewN w nq _).trans hg) (Nat.le_refl _) (Nat.le_of_lt H.out.lt)⟩
  | some i =>
    obtain ⟨B, Z, hBl, hBs, hq⟩ := cut_ok (s.extract (p + 4) s.size) ⟨#[45, 45]⟩ w hw (by simp; omega) i (by rw [hXl]; exact hi)
    rw [hXl] at hBl
    have hi2 := (idx_some hi).2.1
    simp only [List.length_drop, List.length_cons, List.length_nil, show s.data.toList.length = s.size from Array.length_toList] at hi2
    have hb := fun W hW => bad_c B W hW (by omega)
    simp only
    rw [← hBl]
    have H := Lib.hid (show RT w R s p out xs ms from ⟨h1, h2, h3⟩); clear h1 h2 h3
    have HW := Lib.hid hw; clear hw
    by_cases hlt : p + (4 + i + 2) < s.size
    · rw [hp_get s _ hlt]
      obtain ⟨c, hc⟩ : ∃ c, c = s[p + (4 + i + 2)]'hlt := ⟨_, rfl⟩
      have hix : s[p + 4 + i + 2]'(by omega) = c := by rw [hc]; congr 1; omega
      rw [← hc]
      have hl1 : (p : Int) + 4 + (i : Int) + 2 < (s.size : Int) := by omega
      by_cases h62 : c = 62
      · subst h62
        rw [show ((62 : UInt8) == 62) = true from rfl, if_neg (by simp)]
        cases hbd : bad B.data.toList with
        | some j =>
          rw [show badI B.data.toList = (j : Int) from by unfold badI; rw [hbd]] at hb
          have hj := bad_lt _ _ (Nat.le_refl _) _ hbd
          rw [show B.data.toList.length = B.size from Array.length_toList, hBs] at hj
          have HC := Lib.hid (And.intro hq hb); clear hq hb hi hXl hBl hbd hc
          go_enter Tryz.func58, Tryz.ntmps58
          go_wp2_with fail
          go_quiet (first | (go_at_call 49; refine (HC.out.1 _)))
          go_wp2_with (first
            | (go_at_call 17; refine (HC.out.2 _ (HW.out.drewN nq)).mono ?_; rintro en w2 ⟨rfl, b2⟩; have hr2 := ((H.out.drewN nq).below b2).1; have d1 := hr2.c1)
            | (go_at_call 83; refine (fail_c _ R s p out 0 hr2 _ _).mono ?_; rintro en w3 ⟨rfl, hr, hg⟩))
          refine bodyPost_ret (results_none rfl _ _ _) rfl ?_
          refine ⟨rfl, ⟨p, out, ?_⟩, below_grown (((grown_drewN w nq _).trans (grown_below b2 _)).trans hg) (Nat.le_refl _) (Nat.le_of_lt H.out.1.lt)⟩
          rw [show ((p + (4 + j) : Nat) : Int) = (p : Int) + 4 + (j : Int) from by omega]
          exact hr
        | none =>
          rw [show badI B.data.toList = -1 from by unfold badI; rw [hbd]] at hb
          have HC := Lib.hid (And.intro hq hb); clear hq hb hi hXl hBl hbd hc
          go_enter Tryz.func58, Tryz.ntmps58
          go_wp2_with fail
          go_quiet (first | (go_at_call 49; refine (HC.out.1 _)))
          go_wp2_with (first
            | (go_at_call 17; refine (HC.out.2 _ (HW.out.drewN nq)).mono ?_; rintro en w2 ⟨rfl, b2⟩; have hr2 := (H.out.drewN nq).below b2; have d1 := hr2.1.c1; have f1 := hr2.1.fz 1; have H2 := Lib.hid hr2; clear hr2))
          go_end0
          exact ⟨rfl, (H2.out.grown (grown_set _ _ _ _) (H2.out.1.set1 _ _ (by first | (simp; done) | (simp; omega)))).rs (by omega), below_grown (((grown_drewN w nq _).trans (grown_below b2 _)).trans (grown_set _ _ _ _)) (Nat.le_refl _) (Nat.le_of_lt H.out.1.lt)⟩
      · rw [show ((62 : UInt8) == c) = false from by rw [beq_eq_false_iff_ne]; exact fun e => h62 e.symm, if_pos rfl]
        have n1 := ne_u8 c 62 62 rfl h62
        have n2 : ((c.toNat : Int) != 62) = true := by unfold bne; rw [n1]; rfl
        have HC := Lib.hid hq; clear hq hb hi hXl hBl hc
        go_enter Tryz.func58, Tryz.ntmps58
        go_wp2_with fail
        go_quiet (first | (go_at_call 49; refine (HC.out _)))
        go_wp2_with (first | (go_at_call 83; refine (fail_c _ R s p out 0 (H.out.1.drewN nq) _ _).mono ?_; rintro en w2 ⟨rfl, hr, hg⟩))
        refine bodyPost_ret (results_none rfl _ _ _) rfl ?_
        exact ⟨rfl, ⟨p, out, hr⟩, below_grown ((grown_drewN w nq _).trans hg) (Nat.le_refl _) (Nat.le_of_lt H.out.1.lt)⟩
    · rw [hp_past s _ (by omega), if_pos rfl]
      have hl1 : (s.size : Int) ≤ (p : Int) + 4 + (i : Int) + 2 := by omega
      have HC := Lib.hid hq; clear hq hb hi hXl hBl
      go_enter Tryz.func58, Tryz.ntmps58
      go_wp2_with fail
      go_quiet (first | (go_at_call 49; refine (HC.out _)))
      go_wp2_with (first | (go_at_call 83; refine (fail_c _ R s p out 0 (H.out.1.drewN nq) _ _).mono ?_; rintro en w2 ⟨rfl, hr, hg⟩))
      refine bodyPost_ret (results_none rfl _ _ _) rfl ?_
      exact ⟨rfl, ⟨p, out, hr⟩, below_grown ((grown_drewN w nq _).trans hg) (Nat.le_refl _) (Nat.le_of_lt H.out.1.lt)⟩
end Go.Proofs.YtcicibeggkmlcaaGreatDoor
