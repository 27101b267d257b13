/- The walk of the reader of marks: tag, where an element ends, and where no name stands. Conditions: as in the text before. The walk of the reader of marks: tag, where an element ends. Conditions: as in the text before. (Printed by gen_mkl.py.) -/
import Derived.Test.YtcicibeggkmlcaaGreatDoorMkJ
namespace Go.Proofs.YtcicibeggkmlcaaGreatDoor
open Go.RowKit Go.Sof

set_option maxRecDepth 1000000 in
set_option maxHeartbeats 2000000 in
theorem tag_n (w : World) (R : Nat) (s : ByteArray) (p : Nat) (out : Value) (h : Rd w R s p out 0 0) (hs : s.size ≤ 65536) (hp : p + 1 ≤ s.size)
    (hbc : Lib.hasPrefix (s.data.toList.drop (p + 1)) [47] = false) (hN : nameP (s.data.toList.drop (p + 1)) = []) :
    Calls Tryz.prog 60 #[.pointer (some ⟨R, 0, none⟩)] w fun en w' => en = .returned (.tuple #[]) ∧ RF w' R s p 8 ∧ Below R w w' := by
  have hnm := fun W hW => nm_c W R s (p + 1) out 0 0 hW hs (by omega)
  rw [hN] at hnm
  have c1 := h.c1
  have f1 := h.fz 1
  have hRl := h.lt
  have hpI : (p : Int) + 1 ≤ (s.size : Int) := by omega
  have HC := Lib.hid (And.intro hnm hbc); clear hnm hbc hN
  have H := Lib.hid h; clear h
  go_enter Tryz.func60, Tryz.ntmps60
  go_wp2_with (first
    | (go_at_call 85; have T1 := TG.start (q' := p + 1) (frm := p) H.out ((p : Int) + 1) (by omega) 1; refine (take_f ⟨#[47]⟩ (by decide) _ R s (p + 1) out 0 0 T1.rd hs (by omega) HC.out.2).mono ?_; rintro en w2 ⟨rfl, hr2, hg2⟩; have ht2 := T1.grown hr2 hg2; have T2 := Lib.hid ht2; clear ht2 hr2 hg2 T1)
    | (go_at_call 86; refine (HC.out.1 _ T2.out.rd).mono ?_; rintro en w3 ⟨rfl, hr3, hg3⟩; have ht3 := T2.out.grown hr3 hg3; have a2 := ht3.m2; have a3 := ht3.fz 2; have T3 := Lib.hid (ht3.name []); clear ht3 hr3 hg3)
    | (go_at_call 83; have gd := T3; clear gd; refine (fail_c _ R s _ out 0 T3.out.rd _ _).mono ?_; rintro en w9 ⟨rfl, hr9, hg9⟩))
  refine bodyPost_ret (results_none rfl _ _ _) rfl ?_
  exact ⟨rfl, ⟨_, _, hr9⟩, (below_grown T3.out.g (Nat.le_refl _) (Nat.le_of_lt hRl)).trans (below_grown hg9 (Nat.le_refl _) (Nat.le_of_lt T3.out.rd.lt))⟩

set_option maxRecDepth 1000000 in
set_option maxHeartbeats 2000000 in
theorem tag_m (w : World) (R : Nat) (s : ByteArray) (p : Nat) (out : Value) (h : Rd w R s p out 0 0) (hs : s.size ≤ 65536) (hp : p + 2 ≤ s.size)
    (hbc : Lib.hasPrefix (s.data.toList.drop (p + 1)) [47] = true) (hN : nameP (s.data.toList.drop (p + 2)) = []) :
    Calls Tryz.prog 60 #[.pointer (some ⟨R, 0, none⟩)] w fun en w' => en = .returned (.tuple #[]) ∧ RF w' R s p 8 ∧ Below R w w' := by
  have hnm := fun W hW => nm_c W R s (p + 2) out 0 0 hW hs (by omega)
  rw [hN] at hnm
  have c1 := h.c1
  have f1 := h.fz 1
  have hRl := h.lt
  have hpI : (p : Int) + 1 ≤ (s.size : Int) := by omega
  have HC := Lib.hid (And.intro hnm hbc); clear hnm hbc hN
  have H := Lib.hid h; clear h
  go_enter Tryz.func60, Tryz.ntmps60
  go_wp2_with (first
    | (go_at_call 85; have T1 := TG.start (q' := p + 1) (frm := p) H.out ((p : Int) + 1) (by omega) 1; refine (take_t ⟨#[47]⟩ (by decide) _ R s (p + 1) out 0 0 T1.rd hs (by omega) HC.out.2).mono ?_; rintro en w2 ⟨rfl, hr2, hg2⟩; have ht2 := T1.grown hr2 hg2; have b2 := ht2.m0; have b3 := ht2.fz 0; have T2 := Lib.hid (ht2.kind 2); clear ht2 hr2 hg2 T1)
    | (go_at_call 86; refine (HC.out.1 _ T2.out.rd).mono ?_; rintro en w3 ⟨rfl, hr3, hg3⟩; have ht3 := T2.out.grown hr3 hg3; have a2 := ht3.m2; have a3 := ht3.fz 2; have T3 := Lib.hid (ht3.name []); clear ht3 hr3 hg3)
    | (go_at_call 83; have gd := T3; clear gd; refine (fail_c _ R s _ out 0 T3.out.rd _ _).mono ?_; rintro en w9 ⟨rfl, hr9, hg9⟩))
  refine bodyPost_ret (results_none rfl _ _ _) rfl ?_
  exact ⟨rfl, ⟨_, _, hr9⟩, (below_grown T3.out.g (Nat.le_refl _) (Nat.le_of_lt hRl)).trans (below_grown hg9 (Nat.le_refl _) (Nat.le_of_lt T3.out.rd.lt))⟩
end Go.Proofs.YtcicibeggkmlcaaGreatDoor

namespace Go.Proofs.YtcicibeggkmlcaaGreatDoor
open Go.RowKit Go.Sof

set_option maxRecDepth 1000000 in
set_option maxHeartbeats 8000000 in
theorem tag_z (w : World) (R : Nat) (s : ByteArray) (p : Nat) (ms : List PMark) (out : Value) (xs : List Value) (N : Bytes) (h : RT w R s p out xs ms) (h4 : ms.length ≤ p) (hs : s.size ≤ 65536) (hp : p + 2 + N.length ≤ s.size) (hw : WOK w) (hR : Globs R)
    (hbc : Lib.hasPrefix (s.data.toList.drop (p + 1)) [47] = true) (hN : nameP (s.data.toList.drop (p + 2)) = N) (hne : N.isEmpty = false) :
    Calls Tryz.prog 60 #[.pointer (some ⟨R, 0, none⟩)] w fun en w' => en = .returned (.tuple #[]) ∧ DataPost R s p ms (closeP (s.data.toList.drop p)) w' ∧ Below R w w' := by
  have hnm := fun W hW => nm_c W R s (p + 2) out 0 0 hW hs (by omega)
  have hcl : closeP (s.data.toList.drop p) = if Lib.hasPrefix (s.data.toList.drop (p + (2 + N.length + skipN (s.data.toList.drop (p + (2 + N.length)))))) [62] = true then .ok (⟨2, 0, N, [], []⟩, 2 + N.length + skipN (s.data.toList.drop (p + (2 + N.length))) + 1) else .error (0, 8) := by
    have hne' : N ≠ [] := by intro e; rw [e] at hne; simp at hne
    unfold closeP
    simp only [List.drop_drop, hN]
    rw [if_neg hne']
  rw [hN] at hnm
  have c1 := h.1.c1
  have f1 := h.1.fz 1
  have hRl := h.1.lt
  have hpI : (p : Int) + 1 ≤ (s.size : Int) := by omega
  obtain ⟨c, hc⟩ : ∃ c, c = 2 + N.length := ⟨_, rfl⟩
  have hpc : p + c ≤ s.size := by omega
  rw [← hc] at hcl
  obtain ⟨n, hn⟩ : ∃ n, n = skipN (s.data.toList.drop (p + c)) := ⟨_, rfl⟩
  rw [← hn] at hcl
  have hsl : s.data.toList.length = s.size := Array.length_toList
  have hnl : p + c + n ≤ s.size := by
    have := skipN_le (s.data.toList.drop (p + c))
    rw [List.length_drop, hsl, ← hn] at this; omega
  rw [show p + (c + n) = p + c + n from by omega] at hcl
  have HC := Lib.hid (And.intro hnm (And.intro hbc (And.intro hn h4))); clear hnm hbc hn h4 hN hsl
  have HCL := Lib.hid (And.intro hcl hc); clear hcl hc
  have HW := Lib.hid (And.intro hw hR); clear hw hR
  have H := Lib.hid h; clear h
  have HAV := Lib.hid (show (Value.slice none 0 0).oneCell' = true from rfl)
  rw [HCL.out.1]
  cases b62 : Lib.hasPrefix (s.data.toList.drop (p + c + n)) [62] with
  | true =>
    rw [if_pos rfl]
    go_enter Tryz.func60, Tryz.ntmps60
    go_wp2_with (first
      | (go_at_call 85; have T1 := TG.start (q' := p + 1) (frm := p) H.out.1 ((p : Int) + 1) (by omega) 1; refine (take_t ⟨#[47]⟩ (by decide) _ R s (p + 1) out 0 0 T1.rd hs (by omega) HC.out.2.1).mono ?_; rintro en w2 ⟨rfl, hr2, hg2⟩; have ht2 := T1.grown hr2 hg2; have b2 := ht2.m0; have b3 := ht2.fz 0; have T2 := Lib.hid (ht2.kind 2); clear ht2 hr2 hg2 T1)
      | (go_at_call 86; refine (HC.out.1 _ T2.out.rd).mono ?_; rintro en w3 ⟨rfl, hr3, hg3⟩; have ht3 := T2.out.grown hr3 hg3; have a2 := ht3.m2; have a3 := ht3.fz 2; have T3 := Lib.hid (ht3.name N); clear ht3 hr3 hg3))
    go_loopg [4, 5] 1 (fun g a ok wr => g = 1 ∧ TG w wr R s (p + c) out 0 0 2 p N (.slice none 0 0) [])
    case atStart =>
      refine ⟨rfl, ?_⟩
      have t3 := T3.out
      rw [HCL.out.2, show p + (2 + N.length) = p + 2 + N.length from by omega]
      exact t3
    case round =>
      obtain ⟨_, htg⟩ := hrel
      have m0 := htg.m0
      have hsk2 := skip_c wr.drew R s (p + c) out 0 0 (htg.below ((Below.refl _ wr).drew)).rd hs hpc
      rw [← HC.out.2.2.1] at hsk2
      have TT := Lib.hid htg; clear htg
      by_cases h0 : n = 0
      · rw [show decide (n ≠ 0) = false from by simpa using h0] at hsk2
        have HS := Lib.hid hsk2; clear hsk2
        go_wp2_with fail
        refine wp_region_two (by kernel_rfl) (by kernel_rfl) (by kernel_rfl) (by kernel_rfl) (by kernel_rfl) rfl rfl ?_
        go_simp
        go_at_call 87
        refine HS.out.mono ?_
        rintro en w5 ⟨rfl, hr5, hg5⟩
        have ht5 := (TT.out.below ((Below.refl _ wr).drew)).grown hr5 hg5
        have k0 := ht5.m0
        have k1 := ht5.rd.c0
        have k2 := ht5.rd.c1
        have T5 := Lib.hid ht5
        clear ht5 hr5 hg5
        dsimp only
        try simp only [Act.put, List.setIfInBounds_toArray, List.set_cons_zero, List.set_cons_succ]
        repeat (go_big_quiet_step (fail))
        refine wpQuiet_nil ?_
        intro nq
        have t6 := T5.out.drewN nq
        have m6 := t6.m0
        have T6 := Lib.hid t6
        clear t6
        generalize w5.drewN nq = w6 at *
        go_wp2_with (first
          | (go_at_call 85; have gd := T6; clear gd; refine (take_t ⟨#[62]⟩ (by decide) _ R s (p + c + n) out 0 0 T6.out.rd hs (by omega) b62).mono ?_; rintro en w8 ⟨rfl, hr8, hg8⟩; have ht8 := T6.out.grown hr8 hg8; have m8 := ht8.m0; have mf8 := ht8.fz 0; have T8 := Lib.hid ht8; clear ht8 hr8 hg8))
        have RTT := Lib.hid (T8.out.rt H.out)
        have o2 := T8.out.rd.c2
        have m_0 := T8.out.m0
        have m_1 := T8.out.m1
        have m_2 := T8.out.m2
        have m_3 := T8.out.m3
        have m_4 := T8.out.m4
        have hRl2 := T8.out.rd.lt
        have hMl2 := T8.out.sz
        obtain ⟨i0, z0, by0, hi0, hz0', hs0, hb0, hc0, hbl⟩ := info_mark
        have IM := Lib.hid (And.intro hi0 (And.intro hz0' (And.intro hs0 (And.intro hb0 hc0)))); clear hi0 hz0' hs0 hb0 hc0
        have hN1 : ms.length + 1 ≤ maxLen := by have := HC.out.2.2.2; unfold maxLen; omega
        have hN2 : (ms.length + 1) * by0 ≤ 140737488355328 := by
          have := HC.out.2.2.2
          exact Nat.le_trans (Nat.mul_le_mul (show ms.length + 1 ≤ 65537 by omega) hbl) (by omega)
        have HN := Lib.hid (And.intro hN1 hN2); clear hN1 hN2
        go_region_law (refine step_append_own rfl (.tmp 113) (.tmp 115) 35 rfl (R + 1) 41 i0 z0 5 by0 Tryz.underlying35 IM.out.1 IM.out.2.1 IM.out.2.2.1 IM.out.2.2.2.1 IM.out.2.2.2.2 (by decide) out ms.length xs (by simp [Act.eval]) (ownsRow_below RTT.out.2.1 (((Below.refl _ w8).drew).alloc (Nat.le_refl _) _)) ⟨w8.heap.size, 0, none⟩ 1 1 (mkCell ⟨2, p, N, [], []⟩ (.slice none 0 0)) (by simp [Act.eval]) rfl (cells_new _ _ _) (mkCell_one _ _ HAV.out) HN.out.1 HN.out.2 (by have := RTT.out.1.lt; simp; omega) ?_; intro v4 w4 hown4 hgrow4; obtain ⟨g4, cap4, rfl⟩ := row_form hown4; have ha4 := RTT.out.after (((Below.refl _ w8).drew).alloc (Nat.le_refl _) _) hgrow4; have hc4 := ha4.1.c2; have hf4 := ha4.1.fz 2; have hp4 := RTT.out.push (((Below.refl _ w8).drew).alloc (Nat.le_refl _) _) hgrow4 (m := ⟨2, p, N, [], []⟩) T8.out.attrs hown4; have HP := Lib.hid (And.intro hp4.1 hp4.2); clear ha4 hp4 hown4 hgrow4)
        all_goals go_wp2_with fail
        all_goals go_end0
        all_goals refine ⟨rfl, ?_, (below_grown T8.out.g (Nat.le_refl _) (Nat.le_of_lt hRl)).trans HP.out.2⟩
        all_goals have hrs := HP.out.1.rs (by have := HC.out.2.2.2; have e1 : (ByteArray.mk #[62]).size = 1 := rfl; rw [List.length_append, List.length_singleton]; omega)
        all_goals rw [show p + c + n + (ByteArray.mk #[62]).size = p + (c + n + 1) from by rw [show (ByteArray.mk #[62]).size = 1 from rfl]; omega] at hrs
        all_goals exact hrs
      · rw [show decide (n ≠ 0) = true from by simpa using h0] at hsk2
        have HS := Lib.hid hsk2; clear hsk2
        go_wp2_with fail
        refine wp_region_two (by kernel_rfl) (by kernel_rfl) (by kernel_rfl) (by kernel_rfl) (by kernel_rfl) rfl rfl ?_
        go_simp
        go_at_call 87
        refine HS.out.mono ?_
        rintro en w5 ⟨rfl, hr5, hg5⟩
        have ht5 := (TT.out.below ((Below.refl _ wr).drew)).grown hr5 hg5
        have k0 := ht5.m0
        have k1 := ht5.rd.c0
        have k2 := ht5.rd.c1
        have T5 := Lib.hid ht5
        clear ht5 hr5 hg5
        dsimp only
        try simp only [Act.put, List.setIfInBounds_toArray, List.set_cons_zero, List.set_cons_succ]
        repeat (go_big_quiet_step (fail))
        refine wpQuiet_nil ?_
        intro nq
        have t6 := T5.out.drewN nq
        have m6 := t6.m0
        have T6 := Lib.hid t6
        clear t6
        generalize w5.drewN nq = w6 at *
        go_wp2_with (first
          | (go_at_call 85; have gd := T6; clear gd; refine (take_t ⟨#[62]⟩ (by decide) _ R s (p + c + n) out 0 0 T6.out.rd hs (by omega) b62).mono ?_; rintro en w8 ⟨rfl, hr8, hg8⟩; have ht8 := T6.out.grown hr8 hg8; have m8 := ht8.m0; have mf8 := ht8.fz 0; have T8 := Lib.hid ht8; clear ht8 hr8 hg8))
        have RTT := Lib.hid (T8.out.rt H.out)
        have o2 := T8.out.rd.c2
        have m_0 := T8.out.m0
        have m_1 := T8.out.m1
        have m_2 := T8.out.m2
        have m_3 := T8.out.m3
        have m_4 := T8.out.m4
        have hRl2 := T8.out.rd.lt
        have hMl2 := T8.out.sz
        obtain ⟨i0, z0, by0, hi0, hz0', hs0, hb0, hc0, hbl⟩ := info_mark
        have IM := Lib.hid (And.intro hi0 (And.intro hz0' (And.intro hs0 (And.intro hb0 hc0)))); clear hi0 hz0' hs0 hb0 hc0
        have hN1 : ms.length + 1 ≤ maxLen := by have := HC.out.2.2.2; unfold maxLen; omega
        have hN2 : (ms.length + 1) * by0 ≤ 140737488355328 := by
          have := HC.out.2.2.2
          exact Nat.le_trans (Nat.mul_le_mul (show ms.length + 1 ≤ 65537 by omega) hbl) (by omega)
        have HN := Lib.hid (And.intro hN1 hN2); clear hN1 hN2
        go_region_law (refine step_append_own rfl (.tmp 113) (.tmp 115) 35 rfl (R + 1) 41 i0 z0 5 by0 Tryz.underlying35 IM.out.1 IM.out.2.1 IM.out.2.2.1 IM.out.2.2.2.1 IM.out.2.2.2.2 (by decide) out ms.length xs (by simp [Act.eval]) (ownsRow_below RTT.out.2.1 (((Below.refl _ w8).drew).alloc (Nat.le_refl _) _)) ⟨w8.heap.size, 0, none⟩ 1 1 (mkCell ⟨2, p, N, [], []⟩ (.slice none 0 0)) (by simp [Act.eval]) rfl (cells_new _ _ _) (mkCell_one _ _ HAV.out) HN.out.1 HN.out.2 (by have := RTT.out.1.lt; simp; omega) ?_; intro v4 w4 hown4 hgrow4; obtain ⟨g4, cap4, rfl⟩ := row_form hown4; have ha4 := RTT.out.after (((Below.refl _ w8).drew).alloc (Nat.le_refl _) _) hgrow4; have hc4 := ha4.1.c2; have hf4 := ha4.1.fz 2; have hp4 := RTT.out.push (((Below.refl _ w8).drew).alloc (Nat.le_refl _) _) hgrow4 (m := ⟨2, p, N, [], []⟩) T8.out.attrs hown4; have HP := Lib.hid (And.intro hp4.1 hp4.2); clear ha4 hp4 hown4 hgrow4)
        all_goals go_wp2_with fail
        all_goals go_end0
        all_goals refine ⟨rfl, ?_, (below_grown T8.out.g (Nat.le_refl _) (Nat.le_of_lt hRl)).trans HP.out.2⟩
        all_goals have hrs := HP.out.1.rs (by have := HC.out.2.2.2; have e1 : (ByteArray.mk #[62]).size = 1 := rfl; rw [List.length_append, List.length_singleton]; omega)
        all_goals rw [show p + c + n + (ByteArray.mk #[62]).size = p + (c + n + 1) from by rw [show (ByteArray.mk #[62]).size = 1 from rfl]; omega] at hrs
        all_goals exact hrs
  | false =>
    rw [if_neg (by simp)]
    go_enter Tryz.func60, Tryz.ntmps60
    go_wp2_with (first
      | (go_at_call 85; have T1 := TG.start (q' := p + 1) (frm := p) H.out.1 ((p : Int) + 1) (by omega) 1; refine (take_t ⟨#[47]⟩ (by decide) _ R s (p + 1) out 0 0 T1.rd hs (by omega) HC.out.2.1).mono ?_; rintro en w2 ⟨rfl, hr2, hg2⟩; have ht2 := T1.grown hr2 hg2; have b2 := ht2.m0; have b3 := ht2.fz 0; have T2 := Lib.hid (ht2.kind 2); clear ht2 hr2 hg2 T1)
      | (go_at_call 86; refine (HC.out.1 _ T2.out.rd).mono ?_; rintro en w3 ⟨rfl, hr3, hg3⟩; have ht3 := T2.out.grown hr3 hg3; have a2 := ht3.m2; have a3 := ht3.fz 2; have T3 := Lib.hid (ht3.name N); clear ht3 hr3 hg3))
    go_loopg [4, 5] 1 (fun g a ok wr => g = 1 ∧ TG w wr R s (p + c) out 0 0 2 p N (.slice none 0 0) [])
    case atStart =>
      refine ⟨rfl, ?_⟩
      have t3 := T3.out
      rw [HCL.out.2, show p + (2 + N.length) = p + 2 + N.length from by omega]
      exact t3
    case round =>
      obtain ⟨_, htg⟩ := hrel
      have m0 := htg.m0
      have hsk2 := skip_c wr.drew R s (p + c) out 0 0 (htg.below ((Below.refl _ wr).drew)).rd hs hpc
      rw [← HC.out.2.2.1] at hsk2
      have TT := Lib.hid htg; clear htg
      by_cases h0 : n = 0
      · rw [show decide (n ≠ 0) = false from by simpa using h0] at hsk2
        have HS := Lib.hid hsk2; clear hsk2
        go_wp2_with fail
        refine wp_region_two (by kernel_rfl) (by kernel_rfl) (by kernel_rfl) (by kernel_rfl) (by kernel_rfl) rfl rfl ?_
        go_simp
        go_at_call 87
        refine HS.out.mono ?_
        rintro en w5 ⟨rfl, hr5, hg5⟩
        have ht5 := (TT.out.below ((Below.refl _ wr).drew)).grown hr5 hg5
        have k0 := ht5.m0
        have k1 := ht5.rd.c0
        have k2 := ht5.rd.c1
        have T5 := Lib.hid ht5
        clear ht5 hr5 hg5
        dsimp only
        try simp only [Act.put, List.setIfInBounds_toArray, List.set_cons_zero, List.set_cons_succ]
        repeat (go_big_quiet_step (fail))
        refine wpQuiet_nil ?_
        intro nq
        have t6 := T5.out.drewN nq
        have m6 := t6.m0
        have T6 := Lib.hid t6
        clear t6
        generalize w5.drewN nq = w6 at *
        go_wp2_with (first
          | (go_at_call 83; have gd := T8; clear gd; refine (fail_c _ R s _ out 0 T8.out.rd _ _).mono ?_; rintro en w9 ⟨rfl, hr9, hg9⟩)
          | (go_at_call 85; have gd := T6; clear gd; refine (take_f ⟨#[62]⟩ (by decide) _ R s (p + c + n) out 0 0 T6.out.rd hs (by omega) b62).mono ?_; rintro en w8 ⟨rfl, hr8, hg8⟩; have ht8 := T6.out.grown hr8 hg8; have m8 := ht8.m0; have mf8 := ht8.fz 0; have T8 := Lib.hid ht8; clear ht8 hr8 hg8))
        refine bodyPost_ret (results_none rfl _ _ _) rfl ?_
        exact ⟨rfl, ⟨_, _, hr9⟩, (below_grown T8.out.g (Nat.le_refl _) (Nat.le_of_lt hRl)).trans (below_grown hg9 (Nat.le_refl _) (Nat.le_of_lt T8.out.rd.lt))⟩
      · rw [show decide (n ≠ 0) = true from by simpa using h0] at hsk2
        have HS := Lib.hid hsk2; clear hsk2
        go_wp2_with fail
        refine wp_region_two (by kernel_rfl) (by kernel_rfl) (by kernel_rfl) (by kernel_rfl) (by kernel_rfl) rfl rfl ?_
        go_simp
        go_at_call 87
        refine HS.out.mono ?_
        rintro en w5 ⟨rfl, hr5, hg5⟩
        have ht5 := (TT.out.below ((Below.refl _ wr).drew)).grown hr5 hg5
        have k0 := ht5.m0
        have k1 := ht5.rd.c0
        have k2 := ht5.rd.c1
        have T5 := Lib.hid ht5
        clear ht5 hr5 hg5
        dsimp only
        try simp only [Act.put, List.setIfInBounds_toArray, List.set_cons_zero, List.set_cons_succ]
        repeat (go_big_quiet_step (fail))
        refine wpQuiet_nil ?_
        intro nq
        have t6 := T5.out.drewN nq
        have m6 := t6.m0
        have T6 := Lib.hid t6
        clear t6
        generalize w5.drewN nq = w6 at *
        go_wp2_with (first
          | (go_at_call 83; have gd := T8; clear gd; refine (fail_c _ R s _ out 0 T8.out.rd _ _).mono ?_; rintro en w9 ⟨rfl, hr9, hg9⟩)
          | (go_at_call 85; have gd := T6; clear gd; refine (take_f ⟨#[62]⟩ (by decide) _ R s (p + c + n) out 0 0 T6.out.rd hs (by omega) b62).mono ?_; rintro en w8 ⟨rfl, hr8, hg8⟩; have ht8 := T6.out.grown hr8 hg8; have m8 := ht8.m0; have mf8 := ht8.fz 0; have T8 := Lib.hid ht8; clear ht8 hr8 hg8))
        refine bodyPost_ret (results_none rfl _ _ _) rfl ?_
        exact ⟨rfl, ⟨_, _, hr9⟩, (below_grown T8.out.g (Nat.le_refl _) (Nat.le_of_lt hRl)).trans (below_grown hg9 (Nat.le_refl _) (Nat.le_of_lt T8.out.rd.lt))⟩
end Go.Proofs.YtcicibeggkmlcaaGreatDoor
