/- The walk of the reader of marks: chars. Conditions: as in the text before. (Printed by gen_mke.py.) -/
import Derived.Test.YtcicibeggkmlcaaGreatDoorMkBJ3
namespace Go.Proofs.YtcicibeggkmlcaaGreatDoor
open Go.RowKit Go.Sof

theorem indexByte_tw : ∀ (t : Bytes) (c : UInt8), Lib.indexByte t c = if c ∈ t then (((t.takeWhile (· != c)).length : Nat) : Int) else -1 := by
  intro t c
  induction t with
  | nil => rfl
  | cons b u ih =>
    unfold Lib.indexByte
    by_cases hb : b = c
    · subst hb; simp
    · have h1 : (b == c) = false := by simpa using hb
      have h2 : (b != c) = true := by simpa using hb
      rw [h1, ih]
      simp only [Bool.false_eq_true, if_false, List.mem_cons, List.takeWhile_cons, h2, if_true, List.length_cons]
      by_cases hm : c ∈ u
      · simp only [hm, or_true, if_true]
        have : ((((u.takeWhile (· != c)).length : Nat) : Int) == -1) = false := by rw [beq_eq_false_iff_ne]; omega
        rw [this]; simp
      · have h3 : ¬ (c = b ∨ c ∈ u) := fun h => h.elim (fun h => hb h.symm) hm
        rw [if_neg hm, if_neg h3]; rfl
theorem tw_all (t : Bytes) (c : UInt8) (h : c ∉ t) : t.takeWhile (· != c) = t := by
  have hall : ∀ b ∈ t, (b != c) = true := fun b hb => by
    have : b ≠ c := fun e => h (e ▸ hb)
    simpa using this
  have := List.takeWhile_append_of_pos (p := (· != c)) (l₁ := t) (l₂ := []) hall
  simpa using this

set_option maxRecDepth 1000000 in
set_option maxHeartbeats 1000000 in
theorem ch_err1 (w : World) (R : Nat) (s : ByteArray) (p : Nat) (ms : List PMark) (out : Value) (xs : List Value) (T : Nat) (k : Nat) (h : RT w R s p out xs ms) (h4 : ms.length ≤ p) (hs : s.size ≤ 65536) (hp : p < s.size) (hw : WOK w) (hT1 : p + T ≤ s.size) (hTp : 0 < T) (hk : k < T)
    (hi : ∀ W, Calls Tryz.prog 82 #[.string (s.extract p s.size), .int .u8 60] W fun e w' => e = .returned (.int .i64 T) ∧ w' = W)
    (hu : ∀ W, WOK W → Calls Tryz.prog 25 #[.string (s.extract p (p + T))] W fun e w' => e = .returned (.tuple #[.string ⟨#[]⟩, .int .i64 k, .int .i64 6]) ∧ Below W.heap.size W w') :
    Calls Tryz.prog 56 #[.pointer (some ⟨R, 0, none⟩)] w fun en w' => en = .returned (.tuple #[]) ∧ DataPost R s p ms (.error (k, 6)) w' ∧ Below R w w' := by
  have c0 := h.1.c0
  have c1 := h.1.c1
  have hp1 : (p : Int) ≤ (s.size : Int) := by omega
  have hT1' : (p : Int) + (T : Int) ≤ (s.size : Int) := by omega
  have hT2 : (p : Int) ≤ (p : Int) + (T : Int) := by omega
  have hwr : IntKind.i64.wrap ((p : Int) + (T : Int)) = (p : Int) + (T : Int) := by rw [IntKind.wrap_i64]; omega
  have hk1 : (p : Int) + (k : Int) ≤ (s.size : Int) := by omega
  have H := Lib.hid h; clear h
  have HM := Lib.hid h4; clear h4
  have HW := Lib.hid hw; clear hw
  have HC := Lib.hid (And.intro hi hu); clear hi hu
  go_enter Tryz.func56, Tryz.ntmps56
  go_wp2_with fail
  go_quiet (first | (go_at_call 82; refine Calls.quiet_of_same (HC.out.1 _)))
  go_wp2_with fail
  have HTT := Lib.hid (show RT (w.drewN nq) R s p out xs ms from (H.out.drewN nq))
  have HWW := Lib.hid (show WOK (w.drewN nq) from HW.out)
  have HGG := Lib.hid (show w.grownBy (w.drewN nq) (some R) from grown_drewN w nq _)
  generalize (w.drewN nq) = wq at *
  have q0 := HTT.out.1.c0
  have q1 := HTT.out.1.c1
  go_region_held3 (fun w' => w'.cell? ⟨R, 0, none⟩ = some (.string s) ∧ w'.cell? ⟨R, 1, none⟩ = some (.int .i64 p)) (first | exact ⟨q0, q1⟩ | exact ⟨k0, k1⟩) (first | (go_at_call 25; refine (HC.out.2 _ (show WOK wq.drew from HWW.out)).mono ?_; rintro en w2 ⟨rfl, b2⟩; have ht2 := RT.below (w := wq.drew) (HTT.out.below ((Below.refl _ wq).drew)) b2; have k0 := ht2.1.c0; have k1 := ht2.1.c1; have HT2 := Lib.hid ht2; clear ht2))
  go_wp2_with (first | (go_at_call 83; refine (fail_c _ R s p out 0 HT2.out.1 _ _).mono ?_; rintro en w3 ⟨rfl, hr, hg⟩))
  refine bodyPost_ret (results_none rfl _ _ _) rfl ?_
  refine ⟨rfl, ⟨p, out, ?_⟩, below_grown ((((HGG.out.trans (grown_drew wq _)).trans (grown_below b2 _))).trans hg) (Nat.le_refl _) (Nat.le_of_lt H.out.1.lt)⟩
  exact hr

set_option maxRecDepth 1000000 in
set_option maxHeartbeats 1000000 in
theorem ch_err2 (w : World) (R : Nat) (s : ByteArray) (p : Nat) (ms : List PMark) (out : Value) (xs : List Value) (T : Nat) (k : Nat) (h : RT w R s p out xs ms) (h4 : ms.length ≤ p) (hs : s.size ≤ 65536) (hp : p < s.size) (hw : WOK w) (hT1 : p + T ≤ s.size) (hTp : 0 < T) (hk : k < T)
    (hi : ∀ W, Calls Tryz.prog 82 #[.string (s.extract p s.size), .int .u8 60] W fun e w' => e = .returned (.int .i64 T) ∧ w' = W)
    (hu : ∀ W, WOK W → Calls Tryz.prog 25 #[.string (s.extract p (p + T))] W fun e w' => e = .returned (.tuple #[.string ⟨#[]⟩, .int .i64 k, .int .i64 7]) ∧ Below W.heap.size W w') :
    Calls Tryz.prog 56 #[.pointer (some ⟨R, 0, none⟩)] w fun en w' => en = .returned (.tuple #[]) ∧ DataPost R s p ms (.error (k, 7)) w' ∧ Below R w w' := by
  have c0 := h.1.c0
  have c1 := h.1.c1
  have hp1 : (p : Int) ≤ (s.size : Int) := by omega
  have hT1' : (p : Int) + (T : Int) ≤ (s.size : Int) := by omega
  have hT2 : (p : Int) ≤ (p : Int) + (T : Int) := by omega
  have hwr : IntKind.i64.wrap ((p : Int) + (T : Int)) = (p : Int) + (T : Int) := by rw [IntKind.wrap_i64]; omega
  have hk1 : (p : Int) + (k : Int) ≤ (s.size : Int) := by omega
  have H := Lib.hid h; clear h
  have HM := Lib.hid h4; clear h4
  have HW := Lib.hid hw; clear hw
  have HC := Lib.hid (And.intro hi hu); clear hi hu
  go_enter Tryz.func56, Tryz.ntmps56
  go_wp2_with fail
  go_quiet (first | (go_at_call 82; refine Calls.quiet_of_same (HC.out.1 _)))
  go_wp2_with fail
  have HTT := Lib.hid (show RT (w.drewN nq) R s p out xs ms from (H.out.drewN nq))
  have HWW := Lib.hid (show WOK (w.drewN nq) from HW.out)
  have HGG := Lib.hid (show w.grownBy (w.drewN nq) (some R) from grown_drewN w nq _)
  generalize (w.drewN nq) = wq at *
  have q0 := HTT.out.1.c0
  have q1 := HTT.out.1.c1
  go_region_held3 (fun w' => w'.cell? ⟨R, 0, none⟩ = some (.string s) ∧ w'.cell? ⟨R, 1, none⟩ = some (.int .i64 p)) (first | exact ⟨q0, q1⟩ | exact ⟨k0, k1⟩) (first | (go_at_call 25; refine (HC.out.2 _ (show WOK wq.drew from HWW.out)).mono ?_; rintro en w2 ⟨rfl, b2⟩; have ht2 := RT.below (w := wq.drew) (HTT.out.below ((Below.refl _ wq).drew)) b2; have k0 := ht2.1.c0; have k1 := ht2.1.c1; have HT2 := Lib.hid ht2; clear ht2))
  go_wp2_with (first | (go_at_call 83; refine (fail_c _ R s p out 0 HT2.out.1 _ _).mono ?_; rintro en w3 ⟨rfl, hr, hg⟩))
  refine bodyPost_ret (results_none rfl _ _ _) rfl ?_
  refine ⟨rfl, ⟨p, out, ?_⟩, below_grown ((((HGG.out.trans (grown_drew wq _)).trans (grown_below b2 _))).trans hg) (Nat.le_refl _) (Nat.le_of_lt H.out.1.lt)⟩
  exact hr

set_option maxRecDepth 1000000 in
set_option maxHeartbeats 1000000 in
theorem ch_err3 (w : World) (R : Nat) (s : ByteArray) (p : Nat) (ms : List PMark) (out : Value) (xs : List Value) (T : Nat) (k : Nat) (h : RT w R s p out xs ms) (h4 : ms.length ≤ p) (hs : s.size ≤ 65536) (hp : p < s.size) (hw : WOK w) (hT1 : p + T ≤ s.size) (hTp : 0 < T) (hk : k < T) (hTe : T = s.size - p)
    (hi : ∀ W, Calls Tryz.prog 82 #[.string (s.extract p s.size), .int .u8 60] W fun e w' => e = .returned (.int .i64 (-1)) ∧ w' = W)
    (hu : ∀ W, WOK W → Calls Tryz.prog 25 #[.string (s.extract p (p + T))] W fun e w' => e = .returned (.tuple #[.string ⟨#[]⟩, .int .i64 k, .int .i64 6]) ∧ Below W.heap.size W w') :
    Calls Tryz.prog 56 #[.pointer (some ⟨R, 0, none⟩)] w fun en w' => en = .returned (.tuple #[]) ∧ DataPost R s p ms (.error (k, 6)) w' ∧ Below R w w' := by
  have c0 := h.1.c0
  have c1 := h.1.c1
  have hp1 : (p : Int) ≤ (s.size : Int) := by omega
  have hT1' : (p : Int) + (T : Int) ≤ (s.size : Int) := by omega
  have hT2 : (p : Int) ≤ (p : Int) + (T : Int) := by omega
  have hwr : IntKind.i64.wrap ((p : Int) + (T : Int)) = (p : Int) + (T : Int) := by rw [IntKind.wrap_i64]; omega
  have hTe2 : (s.size : Int) - (p : Int) = (T : Int) := by omega
  clear hTe
  have hk1 : (p : Int) + (k : Int) ≤ (s.size : Int) := by omega
  have H := Lib.hid h; clear h
  have HM := Lib.hid h4; clear h4
  have HW := Lib.hid hw; clear hw
  have HC := Lib.hid (And.intro hi hu); clear hi hu
  go_enter Tryz.func56, Tryz.ntmps56
  go_wp2_with fail
  go_quiet (first | (go_at_call 82; refine Calls.quiet_of_same (HC.out.1 _)))
  go_wp2_with fail
  obtain ⟨nq1, hnq1⟩ : ∃ n, n = nq := ⟨_, rfl⟩
  rw [← hnq1]
  clear hnq1 nq
  go_quiet (fail)
  go_wp2_with fail
  have HTT := Lib.hid (show RT ((w.drewN nq1).drewN nq) R s p out xs ms from ((H.out.drewN nq1).drewN nq))
  have HWW := Lib.hid (show WOK ((w.drewN nq1).drewN nq) from HW.out)
  have HGG := Lib.hid (show w.grownBy ((w.drewN nq1).drewN nq) (some R) from (grown_drewN w nq1 _).trans (grown_drewN _ nq _))
  generalize ((w.drewN nq1).drewN nq) = wq at *
  have q0 := HTT.out.1.c0
  have q1 := HTT.out.1.c1
  go_region_held3 (fun w' => w'.cell? ⟨R, 0, none⟩ = some (.string s) ∧ w'.cell? ⟨R, 1, none⟩ = some (.int .i64 p)) (first | exact ⟨q0, q1⟩ | exact ⟨k0, k1⟩) (first | (go_at_call 25; refine (HC.out.2 _ (show WOK wq.drew from HWW.out)).mono ?_; rintro en w2 ⟨rfl, b2⟩; have ht2 := RT.below (w := wq.drew) (HTT.out.below ((Below.refl _ wq).drew)) b2; have k0 := ht2.1.c0; have k1 := ht2.1.c1; have HT2 := Lib.hid ht2; clear ht2))
  go_wp2_with (first | (go_at_call 83; refine (fail_c _ R s p out 0 HT2.out.1 _ _).mono ?_; rintro en w3 ⟨rfl, hr, hg⟩))
  refine bodyPost_ret (results_none rfl _ _ _) rfl ?_
  refine ⟨rfl, ⟨p, out, ?_⟩, below_grown ((((HGG.out.trans (grown_drew wq _)).trans (grown_below b2 _))).trans hg) (Nat.le_refl _) (Nat.le_of_lt H.out.1.lt)⟩
  exact hr

set_option maxRecDepth 1000000 in
set_option maxHeartbeats 1000000 in
theorem ch_err4 (w : World) (R : Nat) (s : ByteArray) (p : Nat) (ms : List PMark) (out : Value) (xs : List Value) (T : Nat) (k : Nat) (h : RT w R s p out xs ms) (h4 : ms.length ≤ p) (hs : s.size ≤ 65536) (hp : p < s.size) (hw : WOK w) (hT1 : p + T ≤ s.size) (hTp : 0 < T) (hk : k < T) (hTe : T = s.size - p)
    (hi : ∀ W, Calls Tryz.prog 82 #[.string (s.extract p s.size), .int .u8 60] W fun e w' => e = .returned (.int .i64 (-1)) ∧ w' = W)
    (hu : ∀ W, WOK W → Calls Tryz.prog 25 #[.string (s.extract p (p + T))] W fun e w' => e = .returned (.tuple #[.string ⟨#[]⟩, .int .i64 k, .int .i64 7]) ∧ Below W.heap.size W w') :
    Calls Tryz.prog 56 #[.pointer (some ⟨R, 0, none⟩)] w fun en w' => en = .returned (.tuple #[]) ∧ DataPost R s p ms (.error (k, 7)) w' ∧ Below R w w' := by
  have c0 := h.1.c0
  have c1 := h.1.c1
  have hp1 : (p : Int) ≤ (s.size : Int) := by omega
  have hT1' : (p : Int) + (T : Int) ≤ (s.size : Int) := by omega
  have hT2 : (p : Int) ≤ (p : Int) + (T : Int) := by omega
  have hwr : IntKind.i64.wrap ((p : Int) + (T : Int)) = (p : Int) + (T : Int) := by rw [IntKind.wrap_i64]; omega
  have hTe2 : (s.size : Int) - (p : Int) = (T : Int) := by omega
  clear hTe
  have hk1 : (p : Int) + (k : Int) ≤ (s.size : Int) := by omega
  have H := Lib.hid h; clear h
  have HM := Lib.hid h4; clear h4
  have HW := Lib.hid hw; clear hw
  have HC := Lib.hid (And.intro hi hu); clear hi hu
  go_enter Tryz.func56, Tryz.ntmps56
  go_wp2_with fail
  go_quiet (first | (go_at_call 82; refine Calls.quiet_of_same (HC.out.1 _)))
  go_wp2_with fail
  obtain ⟨nq1, hnq1⟩ : ∃ n, n = nq := ⟨_, rfl⟩
  rw [← hnq1]
  clear hnq1 nq
  go_quiet (fail)
  go_wp2_with fail
  have HTT := Lib.hid (show RT ((w.drewN nq1).drewN nq) R s p out xs ms from ((H.out.drewN nq1).drewN nq))
  have HWW := Lib.hid (show WOK ((w.drewN nq1).drewN nq) from HW.out)
  have HGG := Lib.hid (show w.grownBy ((w.drewN nq1).drewN nq) (some R) from (grown_drewN w nq1 _).trans (grown_drewN _ nq _))
  generalize ((w.drewN nq1).drewN nq) = wq at *
  have q0 := HTT.out.1.c0
  have q1 := HTT.out.1.c1
  go_region_held3 (fun w' => w'.cell? ⟨R, 0, none⟩ = some (.string s) ∧ w'.cell? ⟨R, 1, none⟩ = some (.int .i64 p)) (first | exact ⟨q0, q1⟩ | exact ⟨k0, k1⟩) (first | (go_at_call 25; refine (HC.out.2 _ (show WOK wq.drew from HWW.out)).mono ?_; rintro en w2 ⟨rfl, b2⟩; have ht2 := RT.below (w := wq.drew) (HTT.out.below ((Below.refl _ wq).drew)) b2; have k0 := ht2.1.c0; have k1 := ht2.1.c1; have HT2 := Lib.hid ht2; clear ht2))
  go_wp2_with (first | (go_at_call 83; refine (fail_c _ R s p out 0 HT2.out.1 _ _).mono ?_; rintro en w3 ⟨rfl, hr, hg⟩))
  refine bodyPost_ret (results_none rfl _ _ _) rfl ?_
  refine ⟨rfl, ⟨p, out, ?_⟩, below_grown ((((HGG.out.trans (grown_drew wq _)).trans (grown_below b2 _))).trans hg) (Nat.le_refl _) (Nat.le_of_lt H.out.1.lt)⟩
  exact hr

set_option maxRecDepth 1000000 in
set_option maxHeartbeats 1000000 in
theorem ch_ok1 (w : World) (R : Nat) (s : ByteArray) (p : Nat) (ms : List PMark) (out : Value) (xs : List Value) (T : Nat) (B : ByteArray) (h : RT w R s p out xs ms) (h4 : ms.length ≤ p) (hs : s.size ≤ 65536) (hp : p < s.size) (hw : WOK w) (hT1 : p + T ≤ s.size) (hTp : 0 < T)
    (hi : ∀ W, Calls Tryz.prog 82 #[.string (s.extract p s.size), .int .u8 60] W fun e w' => e = .returned (.int .i64 T) ∧ w' = W)
    (hu : ∀ W, WOK W → Calls Tryz.prog 25 #[.string (s.extract p (p + T))] W fun e w' => e = .returned (.tuple #[.string B, .int .i64 0, .int .i64 0]) ∧ Below W.heap.size W w') :
    Calls Tryz.prog 56 #[.pointer (some ⟨R, 0, none⟩)] w fun en w' => en = .returned (.tuple #[]) ∧ DataPost R s p ms (.ok (⟨3, 0, [], [], B.data.toList⟩, T)) w' ∧ Below R w w' := by
  have c0 := h.1.c0
  have c1 := h.1.c1
  have hp1 : (p : Int) ≤ (s.size : Int) := by omega
  have hT1' : (p : Int) + (T : Int) ≤ (s.size : Int) := by omega
  have hT2 : (p : Int) ≤ (p : Int) + (T : Int) := by omega
  have hwr : IntKind.i64.wrap ((p : Int) + (T : Int)) = (p : Int) + (T : Int) := by rw [IntKind.wrap_i64]; omega
  have hN1 : ms.length + 1 ≤ maxLen := by unfold maxLen; omega
  obtain ⟨i0, z0, by0, hi0, hz0, hs0, hb0, hc0, hbl⟩ := info_mark
  have IM := Lib.hid (And.intro hi0 (And.intro hz0 (And.intro hs0 (And.intro hb0 hc0)))); clear hi0 hz0 hs0 hb0 hc0
  have hN2 : (ms.length + 1) * by0 ≤ 140737488355328 := Nat.le_trans (Nat.mul_le_mul (show ms.length + 1 ≤ 65537 by omega) hbl) (by omega)
  have HN := Lib.hid (And.intro hN1 hN2); clear hN1 hN2
  have H := Lib.hid h; clear h
  have HM := Lib.hid h4; clear h4
  have HW := Lib.hid hw; clear hw
  have HC := Lib.hid (And.intro hi hu); clear hi hu
  go_enter Tryz.func56, Tryz.ntmps56
  go_wp2_with fail
  go_quiet (first | (go_at_call 82; refine Calls.quiet_of_same (HC.out.1 _)))
  go_wp2_with fail
  have HTT := Lib.hid (show RT (w.drewN nq) R s p out xs ms from (H.out.drewN nq))
  have HWW := Lib.hid (show WOK (w.drewN nq) from HW.out)
  have HGG := Lib.hid (show w.grownBy (w.drewN nq) (some R) from grown_drewN w nq _)
  generalize (w.drewN nq) = wq at *
  have q0 := HTT.out.1.c0
  have q1 := HTT.out.1.c1
  go_region_held3 (fun w' => w'.cell? ⟨R, 0, none⟩ = some (.string s) ∧ w'.cell? ⟨R, 1, none⟩ = some (.int .i64 p)) (first | exact ⟨q0, q1⟩ | exact ⟨k0, k1⟩) (first | (go_at_call 25; refine (HC.out.2 _ (show WOK wq.drew from HWW.out)).mono ?_; rintro en w2 ⟨rfl, b2⟩; have ht2 := RT.below (w := wq.drew) (HTT.out.below ((Below.refl _ wq).drew)) b2; have k0 := ht2.1.c0; have k1 := ht2.1.c1; have HT2 := Lib.hid ht2; clear ht2))
  go_wp2_with fail
  have d1 := HT2.out.1.c1
  have d2 := HT2.out.1.c2
  have hRlt := HT2.out.1.lt
  go_region_law (refine step_append_own rfl (.tmp 63) (.tmp 70) 35 rfl (R + 1) 41 i0 z0 5 by0 Tryz.underlying35 IM.out.1 IM.out.2.1 IM.out.2.2.1 IM.out.2.2.2.1 IM.out.2.2.2.2 (by decide) out ms.length xs (by simp [Act.eval]) (ownsRow_below HT2.out.2.1 (((Below.refl _ w2).drew).alloc (Nat.le_refl _) _)) ⟨w2.heap.size, 0, none⟩ 1 1 (mkCell ⟨3, p, [], [], B.data.toList⟩ (.slice none 0 0)) (by simp [Act.eval]) rfl (cells_new _ _ _) (mkCell_one _ _ rfl) HN.out.1 HN.out.2 (by have := HT2.out.1.lt; simp; omega) ?_; intro v4 w4 hown4 hgrow4; obtain ⟨g4, cap4, rfl⟩ := row_form hown4; have ha4 := HT2.out.after (((Below.refl _ w2).drew).alloc (Nat.le_refl _) _) hgrow4; have hc4 := ha4.1.c2; have hc41 := ha4.1.c1; have hf4 := ha4.1.fz 2; have hf41 := ha4.1.fz 1; have hp4 := HT2.out.push (((Below.refl _ w2).drew).alloc (Nat.le_refl _) _) hgrow4 (Or.inl ⟨rfl, rfl⟩) hown4; have HP := Lib.hid (And.intro hp4.1 hp4.2); clear ha4 hp4 hown4 hgrow4)
  all_goals go_wp2_with fail
  all_goals go_end0
  all_goals refine ⟨rfl, (HP.out.1.grown (grown_set _ _ _ _) (HP.out.1.1.set1 _ _ (by first | (simp; done) | (simp; omega)))).rs (by have := HM.out; simp; omega), ?_⟩
  all_goals exact (below_grown ((HGG.out.trans (grown_drew wq _)).trans (grown_below b2 (some R))) (Nat.le_refl _) (Nat.le_of_lt H.out.1.lt)).trans (HP.out.2.setCell (Nat.le_refl _) _)

set_option maxRecDepth 1000000 in
set_option maxHeartbeats 1000000 in
theorem ch_ok2 (w : World) (R : Nat) (s : ByteArray) (p : Nat) (ms : List PMark) (out : Value) (xs : List Value) (T : Nat) (B : ByteArray) (h : RT w R s p out xs ms) (h4 : ms.length ≤ p) (hs : s.size ≤ 65536) (hp : p < s.size) (hw : WOK w) (hT1 : p + T ≤ s.size) (hTp : 0 < T) (hTe : T = s.size - p)
    (hi : ∀ W, Calls Tryz.prog 82 #[.string (s.extract p s.size), .int .u8 60] W fun e w' => e = .returned (.int .i64 (-1)) ∧ w' = W)
    (hu : ∀ W, WOK W → Calls Tryz.prog 25 #[.string (s.extract p (p + T))] W fun e w' => e = .returned (.tuple #[.string B, .int .i64 0, .int .i64 0]) ∧ Below W.heap.size W w') :
    Calls Tryz.prog 56 #[.pointer (some ⟨R, 0, none⟩)] w fun en w' => en = .returned (.tuple #[]) ∧ DataPost R s p ms (.ok (⟨3, 0, [], [], B.data.toList⟩, T)) w' ∧ Below R w w' := by
  have c0 := h.1.c0
  have c1 := h.1.c1
  have hp1 : (p : Int) ≤ (s.size : Int) := by omega
  have hT1' : (p : Int) + (T : Int) ≤ (s.size : Int) := by omega
  have hT2 : (p : Int) ≤ (p : Int) + (T : Int) := by omega
  have hwr : IntKind.i64.wrap ((p : Int) + (T : Int)) = (p : Int) + (T : Int) := by rw [IntKind.wrap_i64]; omega
  have hTe2 : (s.size : Int) - (p : Int) = (T : Int) := by omega
  clear hTe
  have hN1 : ms.length + 1 ≤ maxLen := by unfold maxLen; omega
  obtain ⟨i0, z0, by0, hi0, hz0, hs0, hb0, hc0, hbl⟩ := info_mark
  have IM := Lib.hid (And.intro hi0 (And.intro hz0 (And.intro hs0 (And.intro hb0 hc0)))); clear hi0 hz0 hs0 hb0 hc0
  have hN2 : (ms.length + 1) * by0 ≤ 140737488355328 := Nat.le_trans (Nat.mul_le_mul (show ms.length + 1 ≤ 65537 by omega) hbl) (by omega)
  have HN := Lib.hid (And.intro hN1 hN2); clear hN1 hN2
  have H := Lib.hid h; clear h
  have HM := Lib.hid h4; clear h4
  have HW := Lib.hid hw; clear hw
  have HC := Lib.hid (And.intro hi hu); clear hi hu
  go_enter Tryz.func56, Tryz.ntmps56
  go_wp2_with fail
  go_quiet (first | (go_at_call 82; refine Calls.quiet_of_same (HC.out.1 _)))
  go_wp2_with fail
  obtain ⟨nq1, hnq1⟩ : ∃ n, n = nq := ⟨_, rfl⟩
  rw [← hnq1]
  clear hnq1 nq
  go_quiet (fail)
  go_wp2_with fail
  have HTT := Lib.hid (show RT ((w.drewN nq1).drewN nq) R s p out xs ms from ((H.out.drewN nq1).drewN nq))
  have HWW := Lib.hid (show WOK ((w.drewN nq1).drewN nq) from HW.out)
  have HGG := Lib.hid (show w.grownBy ((w.drewN nq1).drewN nq) (some R) from (grown_drewN w nq1 _).trans (grown_drewN _ nq _))
  generalize ((w.drewN nq1).drewN nq) = wq at *
  have q0 := HTT.out.1.c0
  have q1 := HTT.out.1.c1
  go_region_held3 (fun w' => w'.cell? ⟨R, 0, none⟩ = some (.string s) ∧ w'.cell? ⟨R, 1, none⟩ = some (.int .i64 p)) (first | exact ⟨q0, q1⟩ | exact ⟨k0, k1⟩) (first | (go_at_call 25; refine (HC.out.2 _ (show WOK wq.drew from HWW.out)).mono ?_; rintro en w2 ⟨rfl, b2⟩; have ht2 := RT.below (w := wq.drew) (HTT.out.below ((Below.refl _ wq).drew)) b2; have k0 := ht2.1.c0; have k1 := ht2.1.c1; have HT2 := Lib.hid ht2; clear ht2))
  go_wp2_with fail
  have d1 := HT2.out.1.c1
  have d2 := HT2.out.1.c2
  have hRlt := HT2.out.1.lt
  go_region_law (refine step_append_own rfl (.tmp 63) (.tmp 70) 35 rfl (R + 1) 41 i0 z0 5 by0 Tryz.underlying35 IM.out.1 IM.out.2.1 IM.out.2.2.1 IM.out.2.2.2.1 IM.out.2.2.2.2 (by decide) out ms.length xs (by simp [Act.eval]) (ownsRow_below HT2.out.2.1 (((Below.refl _ w2).drew).alloc (Nat.le_refl _) _)) ⟨w2.heap.size, 0, none⟩ 1 1 (mkCell ⟨3, p, [], [], B.data.toList⟩ (.slice none 0 0)) (by simp [Act.eval]) rfl (cells_new _ _ _) (mkCell_one _ _ rfl) HN.out.1 HN.out.2 (by have := HT2.out.1.lt; simp; omega) ?_; intro v4 w4 hown4 hgrow4; obtain ⟨g4, cap4, rfl⟩ := row_form hown4; have ha4 := HT2.out.after (((Below.refl _ w2).drew).alloc (Nat.le_refl _) _) hgrow4; have hc4 := ha4.1.c2; have hc41 := ha4.1.c1; have hf4 := ha4.1.fz 2; have hf41 := ha4.1.fz 1; have hp4 := HT2.out.push (((Below.refl _ w2).drew).alloc (Nat.le_refl _) _) hgrow4 (Or.inl ⟨rfl, rfl⟩) hown4; have HP := Lib.hid (And.intro hp4.1 hp4.2); clear ha4 hp4 hown4 hgrow4)
  all_goals go_wp2_with fail
  all_goals go_end0
  all_goals refine ⟨rfl, (HP.out.1.grown (grown_set _ _ _ _) (HP.out.1.1.set1 _ _ (by first | (simp; done) | (simp; omega)))).rs (by have := HM.out; simp; omega), ?_⟩
  all_goals exact (below_grown ((HGG.out.trans (grown_drew wq _)).trans (grown_below b2 (some R))) (Nat.le_refl _) (Nat.le_of_lt H.out.1.lt)).trans (HP.out.2.setCell (Nat.le_refl _) _)

theorem chars_c (w : World) (R : Nat) (s : ByteArray) (p : Nat) (ms : List PMark) (h : RS w R s p ms) (hs : s.size ≤ 65536) (hp : p < s.size) (hT0 : Lib.hasPrefix (s.data.toList.drop p) [60] = false) (hw : WOK w) :
    Calls Tryz.prog 56 #[.pointer (some ⟨R, 0, none⟩)] w fun en w' => en = .returned (.tuple #[]) ∧ DataPost R s p ms (charsP (s.data.toList.drop p)) w' ∧ Below R w w' := by
  obtain ⟨out, xs, h1, h2, h3, h4⟩ := h
  have hXl := Lib.extract_to_end s p
  have hi := fun W => Tryz.strings_IndexByte (s.extract p s.size) 60 W
  rw [hXl, show (60 : Int).toNat.toUInt8 = 60 from rfl, indexByte_tw] at hi
  obtain ⟨T, hT⟩ : ∃ T, T = ((s.data.toList.drop p).takeWhile (· != 60)).length := ⟨_, rfl⟩
  have hdl : (s.data.toList.drop p).length = s.size - p := by rw [List.length_drop]; rfl
  have hTl : p + T ≤ s.size := by have := tw_le (· != 60) (s.data.toList.drop p); omega
  have hTp : 0 < T := by
    have := tw_pos (l := s.data.toList.drop p) (by intro e; rw [e] at hdl; simp at hdl; omega) hT0
    rw [hT]; exact this
  rw [← hT] at hi
  have hml := mid_list s p T
  rw [hT, tw_eq, ← hT] at hml
  have hu := fun W hW => unescape_c (s.extract p (p + T)) W hW (by simp; omega)
  rw [hml] at hu
  unfold charsP
  rw [← hT]
  cases hun : un ((s.data.toList.drop p).takeWhile (· != 60)) with
  | error x =>
    obtain ⟨k, e⟩ := x
    obtain ⟨hk, he⟩ := un_err _ _ (Nat.le_refl _) _ _ hun
    rw [← hT] at hk
    rw [show unR ((s.data.toList.drop p).takeWhile (· != 60)) = ([], k, e) from by unfold unR; rw [hun], show unV ([], k, e) = .tuple #[.string ⟨#[]⟩, .int .i64 k, .int .i64 e] from rfl] at hu
    by_cases hm : (60 : UInt8) ∈ s.data.toList.drop p
    · rw [if_pos hm] at hi
      rcases he with rfl | rfl
      · exact ch_err1 w R s p ms out xs T k ⟨h1, h2, h3⟩ h4 hs hp hw hTl hTp hk hi hu
      · exact ch_err2 w R s p ms out xs T k ⟨h1, h2, h3⟩ h4 hs hp hw hTl hTp hk hi hu
    · rw [if_neg hm] at hi
      have hTe : T = s.size - p := by rw [hT, tw_all _ _ hm, hdl]
      rcases he with rfl | rfl
      · exact ch_err3 w R s p ms out xs T k ⟨h1, h2, h3⟩ h4 hs hp hw hTl hTp hk hTe hi hu
      · exact ch_err4 w R s p ms out xs T k ⟨h1, h2, h3⟩ h4 hs hp hw hTl hTp hk hTe hi hu
  | ok t =>
    rw [show unR ((s.data.toList.drop p).takeWhile (· != 60)) = (t, 0, 0) from by unfold unR; rw [hun], show unV (t, 0, 0) = .tuple #[.string ⟨t.toArray⟩, .int .i64 0, .int .i64 0] from rfl] at hu
    by_cases hm : (60 : UInt8) ∈ s.data.toList.drop p
    · rw [if_pos hm] at hi
      exact ch_ok1 w R s p ms out xs T ⟨t.toArray⟩ ⟨h1, h2, h3⟩ h4 hs hp hw hTl hTp hi hu
    · rw [if_neg hm] at hi
      have hTe : T = s.size - p := by rw [hT, tw_all _ _ hm, hdl]
      exact ch_ok2 w R s p ms out xs T ⟨t.toArray⟩ ⟨h1, h2, h3⟩ h4 hs hp hw hTl hTp hTe hi hu
end Go.Proofs.YtcicibeggkmlcaaGreatDoor
