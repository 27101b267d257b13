/- The walks of the reader of marks: data, comment, chars. Conditions: the reader lies in memory as it is made; the text has at most 65536 bytes; the tables lie as they are laid. -/
import Derived.Test.YtcicibeggkmlcaaGreatDoorMkB
namespace Go.Proofs.YtcicibeggkmlcaaGreatDoor
open Go.RowKit Go.Sof

theorem cut_some {l sep : Bytes} {i : Nat} (h : idx l sep = some i) : Lib.cut l sep = (l.take i, l.drop (i + sep.length), true) := by
  unfold idx at h; unfold Lib.cut
  split at h
  · rename_i h0
    simp only [Option.some.injEq] at h
    rw [if_pos h0, h]
  · simp at h
theorem cut_none {l sep : Bytes} (h : idx l sep = none) : Lib.cut l sep = (l, [], false) := by
  unfold idx at h; unfold Lib.cut
  split at h
  · simp at h
  · rename_i h0; rw [if_neg h0]

/-- strings.Cut, among other reads. -/
theorem cut_q (s sep : ByteArray) (w : World) (h : WOK w) (hs : s.size ≤ 2147483648) (n : Nat) :
    Calls Tryz.prog 49 #[.string s, .string sep] (w.drewN n) fun e w' => e = .returned (.tuple #[.string ⟨(Lib.cut s.data.toList sep.data.toList).1.toArray⟩, .string ⟨(Lib.cut s.data.toList sep.data.toList).2.1.toArray⟩, .bool (Lib.cut s.data.toList sep.data.toList).2.2]) ∧ ∃ m, w' = w.drewN m := by
  obtain ⟨m, hm⟩ := h.2
  exact Calls.quiet_of (Tryz.strings_Cut s sep m (w.drewN n) (by omega) hm)

theorem cut_ok (X sep : ByteArray) (w : World) (h : WOK w) (hs : X.size ≤ 2147483648) (i : Nat) (hi : idx X.data.toList sep.data.toList = some i) :
    ∃ B Z : ByteArray, B.data.toList = X.data.toList.take i ∧ B.size = i ∧ ∀ n, Calls Tryz.prog 49 #[.string X, .string sep] (w.drewN n) fun e w' => e = .returned (.tuple #[.string B, .string Z, .bool true]) ∧ ∃ m, w' = w.drewN m := by
  refine ⟨⟨(X.data.toList.take i).toArray⟩, ⟨(X.data.toList.drop (i + sep.data.toList.length)).toArray⟩, rfl, ?_, fun n => ?_⟩
  · have := (idx_some hi).2.1
    show (List.toArray _).size = i
    simp only [List.size_toArray, List.length_take]; omega
  · have := cut_q X sep w h hs n
    rw [cut_some hi] at this
    exact this
theorem cut_no (X sep : ByteArray) (w : World) (h : WOK w) (hs : X.size ≤ 2147483648) (hi : idx X.data.toList sep.data.toList = none) :
    ∃ B Z : ByteArray, B.size = X.size ∧ ∀ n, Calls Tryz.prog 49 #[.string X, .string sep] (w.drewN n) fun e w' => e = .returned (.tuple #[.string B, .string Z, .bool false]) ∧ ∃ m, w' = w.drewN m := by
  refine ⟨⟨X.data.toList.toArray⟩, ⟨#[]⟩, by rw [ba_eta], fun n => ?_⟩
  have := cut_q X sep w h hs n
  rw [cut_none hi] at this
  exact this

theorem WOK.drewN {w : World} (h : WOK w) (n : Nat) : WOK (w.drewN n) := h

def DataPost (R : Nat) (s : ByteArray) (p : Nat) (ms : List PMark) (x : Except Err (PMark × Nat)) (w' : World) : Prop :=
  match x with
  | .ok (m, n) => RS w' R s (p + n) (ms ++ [{ m with pos := (p : Int) }])
  | .error (k, e) => RF w' R s (p + k) e

set_option maxRecDepth 1000000 in
set_option maxHeartbeats 600000 in
theorem data_c (w : World) (R : Nat) (s : ByteArray) (p : Nat) (ms : List PMark) (h : RS w R s p ms) (hs : s.size ≤ 65536) (hp : p + 9 ≤ s.size) (hw : WOK w) :
    Calls Tryz.prog 59 #[.pointer (some ⟨R, 0, none⟩)] w fun en w' => en = .returned (.tuple #[]) ∧ DataPost R s p ms (dataP (s.data.toList.drop p)) w' ∧ Below R w w' := by
  obtain ⟨out, xs, h1, h2, h3, h4⟩ := h
  have hXl := Lib.extract_to_end s (p + 9)
  have c0 := h1.c0
  have c1 := h1.c1
  have hp1 : (p : Int) + 9 ≤ (s.size : Int) := by omega
  unfold dataP
  rw [List.drop_drop]
  cases hi : idx (s.data.toList.drop (p + 9)) [93, 93, 62] with
  | none =>
    obtain ⟨B, Z, _, hq⟩ := cut_no (s.extract (p + 9) s.size) ⟨#[93, 93, 62]⟩ w hw (by simp; omega) (by rw [hXl]; exact hi)
    have HC := Lib.hid hq; clear hq hi hXl
    have H := Lib.hid h1; clear h1 h2 h3 h4
    go_enter Tryz.func59, Tryz.ntmps59
    go_wp2_with fail
    go_quiet (first | (go_at_call 49; refine (HC.out _)))
    go_wp2_with (first | (go_at_call 83; refine (fail_c _ R s p out 0 (H.out.drewN nq) p 8).mono ?_; rintro en w2 ⟨rfl, hr, hg⟩))
    refine bodyPost_ret (results_none rfl _ _ _) rfl ?_
    exact ⟨rfl, ⟨p, out, hr⟩, below_grown ((grown_drewN w nq _).trans hg) (Nat.le_refl _) (Nat.le_of_lt H.out.lt)⟩
  | some i =>
    obtain ⟨B, Z, hBl, hBs, hq⟩ := cut_ok (s.extract (p + 9) s.size) ⟨#[93, 93, 62]⟩ w hw (by simp; omega) i (by rw [hXl]; exact hi)
    rw [hXl] at hBl
    have hi2 := (idx_some hi).2.1
    simp only [List.length_drop, List.length_cons, List.length_nil, show s.data.toList.length = s.size from Array.length_toList] at hi2
    have hb := fun W hW => bad_c B W hW (by omega)
    simp only
    rw [← hBl]
    cases hbd : bad B.data.toList with
    | some j =>
      rw [show badI B.data.toList = (j : Int) from by unfold badI; rw [hbd]] at hb
      have hj := bad_lt _ _ (Nat.le_refl _) _ hbd
      rw [show B.data.toList.length = B.size from Array.length_toList, hBs] at hj
      have HC := Lib.hid (And.intro hq hb); clear hq hb hi hXl hBl hbd
      have H := Lib.hid h1; clear h1 h2 h3 h4
      have HW := Lib.hid hw; clear hw
      go_enter Tryz.func59, Tryz.ntmps59
      go_wp2_with fail
      go_quiet (first | (go_at_call 49; refine (HC.out.1 _)))
      go_wp2_with (first
        | (go_at_call 17; refine (HC.out.2 _ (HW.out.drewN nq)).mono ?_; rintro en w2 ⟨rfl, b2⟩; have hr2 := (H.out.drewN nq).below b2; have d1 := hr2.c1)
        | (go_at_call 83; refine (fail_c _ R s p out 0 hr2 _ _).mono ?_; rintro en w3 ⟨rfl, hr, hg⟩))
      refine bodyPost_ret (results_none rfl _ _ _) rfl ?_
      refine ⟨rfl, ⟨p, out, ?_⟩, below_grown (((grown_drewN w nq _).trans (grown_below b2 _)).trans hg) (Nat.le_refl _) (Nat.le_of_lt H.out.lt)⟩
      rw [show ((p + (9 + j) : Nat) : Int) = (p : Int) + 9 + (j : Int) from by omega]
      exact hr
    | none =>
      rw [show badI B.data.toList = -1 from by unfold badI; rw [hbd]] at hb
      have HC := Lib.hid (And.intro hq hb); clear hq hb hi hXl hBl hbd
      have H := Lib.hid (And.intro h1 (And.intro h2 (And.intro h3 h4))); clear h1 h2 h3 h4
      have HW := Lib.hid hw; clear hw
      go_enter Tryz.func59, Tryz.ntmps59
      go_wp2_with fail
      go_quiet (first | (go_at_call 49; refine (HC.out.1 _)))
      go_wp2_with (first
        | (go_at_call 17; refine (HC.out.2 _ (HW.out.drewN nq)).mono ?_; rintro en w2 ⟨rfl, b2⟩; have hr2 := (H.out.1.drewN nq).below b2; have d1 := hr2.c1; have d2 := hr2.c2))
      obtain ⟨i0, z0, by0, hi0, hz0, hs0, hb0, hc0, hbl⟩ := info_mark
      have IM := Lib.hid (And.intro hi0 (And.intro hz0 (And.intro hs0 (And.intro hb0 hc0)))); clear hi0 hz0 hs0 hb0 hc0
      have ht2 := (show RT w R s p out xs ms from ⟨H.out.1, H.out.2.1, H.out.2.2.1⟩).drewN nq |>.below b2
      have hRlt := ht2.1.lt
      have HT := Lib.hid ht2; clear ht2
      have hN1 : ms.length + 1 ≤ maxLen := by have := H.out.2.2.2; unfold maxLen; omega
      have hN2 : (ms.length + 1) * by0 ≤ 140737488355328 := by
        have := H.out.2.2.2
        exact Nat.le_trans (Nat.mul_le_mul (show ms.length + 1 ≤ 65537 by omega) hbl) (by omega)
      have HN := Lib.hid (And.intro hN1 hN2); clear hN1 hN2
      go_region_law (refine step_append_own rfl (.tmp 46) (.tmp 53) 35 rfl (R + 1) 41 i0 z0 5 by0 Tryz.underlying35 IM.out.1 IM.out.2.1 IM.out.2.2.1 IM.out.2.2.2.1 IM.out.2.2.2.2 (by decide) out ms.length xs (by simp [Act.eval, Act.put]) (ownsRow_below HT.out.2.1 (((Below.refl _ w2).drew).alloc (Nat.le_refl _) _)) ⟨w2.heap.size, 0, none⟩ 1 1 (mkCell ⟨3, p, [], [], B.data.toList⟩ (.slice none 0 0)) (by simp [Act.eval, Act.put]) rfl (cells_new _ _ _) (mkCell_one _ _ rfl) HN.out.1 HN.out.2 (by have := HT.out.1.lt; simp; omega) ?_; intro v4 w4 hown4 hgrow4; obtain ⟨g4, cap4, rfl⟩ := row_form hown4; have ha4 := HT.out.after (((Below.refl _ w2).drew).alloc (Nat.le_refl _) _) hgrow4; have hc4 := ha4.1.c2; have hc41 := ha4.1.c1; have hf4 := ha4.1.fz 2; have hf41 := ha4.1.fz 1; have hp4 := HT.out.push (((Below.refl _ w2).drew).alloc (Nat.le_refl _) _) hgrow4 (Or.inl ⟨rfl, rfl⟩) hown4; have HP := Lib.hid (And.intro hp4.1 hp4.2); clear ha4 hp4 hown4 hgrow4)
      all_goals go_wp2_with fail
      all_goals go_end0
      all_goals refine ⟨rfl, (HP.out.1.grown (grown_set _ _ _ _) (HP.out.1.1.set1 _ _ (by first | (simp; done) | (simp; omega)))).rs (by have := H.out.2.2.2; simp; omega), ?_⟩
      all_goals exact (below_grown ((grown_drewN w nq (some R)).trans (grown_below b2 _)) (Nat.le_refl _) (Nat.le_of_lt H.out.1.lt)).trans (HP.out.2.setCell (Nat.le_refl _) _)
end Go.Proofs.YtcicibeggkmlcaaGreatDoor
