/- The walk of the reader of marks: tag, where an element begins. Conditions: as in the text before. (Printed by gen_mkj.py.) -/
import Derived.Test.YtcicibeggkmlcaaGreatDoorMkGJ3
namespace Go.Proofs.YtcicibeggkmlcaaGreatDoor
open Go.RowKit Go.Sof

def openR (l N : Bytes) (X : Except Err (List PAttr × Nat)) : Except Err (PMark × Nat) :=
  match X with
  | .error x => .error x
  | .ok (al, c) => match endP l c with
    | none => .error (0, 8)
    | some (kd, n) => .ok (⟨kd, 0, N, al, []⟩, n)

theorem ap_stop {l : Bytes} {c n : Nat} {al : List PAttr} {f : Nat} (hn : n = skipN (l.drop c)) (h : n = 0 ∨ l.length ≤ c + n ∨ Lib.hasPrefix (l.drop (c + n)) [62] = true ∨ Lib.hasPrefix (l.drop (c + n)) [47] = true) : attrsP (f + 1) l c al = .ok (al, c + n) := by
  subst hn; simp only [attrsP]; rw [if_pos h]
theorem ap_go {l : Bytes} {c n : Nat} {al : List PAttr} {f : Nat} (hn : n = skipN (l.drop c)) (h0 : n ≠ 0) (h1 : c + n < l.length) (h2 : Lib.hasPrefix (l.drop (c + n)) [62] = false) (h3 : Lib.hasPrefix (l.drop (c + n)) [47] = false) :
    attrsP (f + 1) l c al = match attrP (l.drop (c + n)) with
      | .error none => .error (0, 8)
      | .error (some (k, e)) => .error (c + n + k, e)
      | .ok (a, m) => if al.any (fun b => b.name == a.name) = true then .error (0, 8) else attrsP f l (c + n + m) (al ++ [a]) := by
  subst hn
  have hc : ¬ (skipN (l.drop c) = 0 ∨ l.length ≤ c + skipN (l.drop c) ∨ Lib.hasPrefix (l.drop (c + skipN (l.drop c))) [62] = true ∨ Lib.hasPrefix (l.drop (c + skipN (l.drop c))) [47] = true) := by
    rw [h2, h3]; simp; omega
  simp only [attrsP]; rw [if_neg hc]
  cases attrP (l.drop (c + skipN (l.drop c))) with
  | error x => cases x <;> rfl
  | ok x => rfl
theorem row_one {w : World} {B e size n : Nat} {v : Value} {xs : List Value} (h : w.ownsRow B e size v n xs) : v.oneCell' = true := by
  rcases h.2 with ⟨hv, _⟩ | ⟨g, cap, cur, hv, _⟩ <;> (rw [hv]; rfl)

set_option maxRecDepth 1000000 in
set_option maxHeartbeats 8000000 in
theorem tag_o (w : World) (R : Nat) (s : ByteArray) (p : Nat) (ms : List PMark) (out : Value) (xs : List Value) (N : Bytes) (X : Except Err (List PAttr × Nat)) (h : RT w R s p out xs ms) (h4 : ms.length ≤ p) (hs : s.size ≤ 65536) (hp : p + 1 + N.length ≤ s.size) (hw : WOK w) (hR : Globs R)
    (hbc : Lib.hasPrefix (s.data.toList.drop (p + 1)) [47] = false) (hN : nameP (s.data.toList.drop (p + 1)) = N) (hne : N.isEmpty = false) (hX : attrsP 65537 (s.data.toList.drop p) (1 + N.length) [] = X) :
    Calls Tryz.prog 60 #[.pointer (some ⟨R, 0, none⟩)] w fun en w' => en = .returned (.tuple #[]) ∧ DataPost R s p ms (openR (s.data.toList.drop p) N X) w' ∧ Below R w w' := by
  have hnm := fun W hW => nm_c W R s (p + 1) out 0 0 hW hs (by omega)
  rw [hN] at hnm
  have c1 := h.1.c1
  have f1 := h.1.fz 1
  have hRl := h.1.lt
  have hpI : (p : Int) + 1 ≤ (s.size : Int) := by omega
  have HC := Lib.hid (And.intro hnm (And.intro hbc (And.intro hX h4))); clear hnm hbc hX h4 hN
  have HW := Lib.hid (And.intro hw hR); clear hw hR
  have H := Lib.hid h; clear h
  go_enter Tryz.func60, Tryz.ntmps60
  go_wp2_with (first
    | (go_at_call 85; have T1 := TG.start (q' := p + 1) (frm := p) H.out.1 ((p : Int) + 1) (by omega) 1; refine (take_f ⟨#[47]⟩ (by decide) _ R s (p + 1) out 0 0 T1.rd hs (by omega) HC.out.2.1).mono ?_; rintro en w2 ⟨rfl, hr2, hg2⟩; have ht2 := T1.grown hr2 hg2; have T2 := Lib.hid ht2; clear ht2 hr2 hg2 T1)
    | (go_at_call 86; refine (HC.out.1 _ T2.out.rd).mono ?_; rintro en w3 ⟨rfl, hr3, hg3⟩; have ht3 := T2.out.grown hr3 hg3; have a2 := ht3.m2; have a3 := ht3.fz 2; have T3 := Lib.hid ht3; clear ht3 hr3 hg3))
  have T4 := Lib.hid (T3.out.name N)
  go_loopg [4, 5] 65537 (fun g a ok wr => ∃ (av : Value) (al : List PAttr) (c : Nat), TG w wr R s (p + c) out 0 0 1 p N av al ∧ attrsP g (s.data.toList.drop p) c al = X ∧ p + c ≤ s.size ∧ s.size - (p + c) < g ∧ al.length ≤ c)
  case atStart =>
    refine ⟨.slice none 0 0, [], 1 + N.length, ?_, HC.out.2.2.1, by omega, by omega, by simp⟩
    rw [show p + (1 + N.length) = p + 1 + N.length from by omega]
    exact T4.out
  case round =>
    obtain ⟨av, al, c, htg, hx, hpc, hg, hal⟩ := hrel
    have hsl : s.data.toList.length = s.size := Array.length_toList
    have m0 := htg.m0
    have r0 := htg.rd.c0
    have hav := row_one htg.own
    have HAV := Lib.hid hav; clear hav
    have hsk2 := skip_c wr.drew R s (p + c) out 0 0 (htg.below ((Below.refl _ wr).drew)).rd hs hpc
    obtain ⟨n, hn⟩ : ∃ n, n = skipN (s.data.toList.drop (p + c)) := ⟨_, rfl⟩
    have hnl : p + c + n ≤ s.size := by
      have := skipN_le (s.data.toList.drop (p + c))
      rw [List.length_drop, hsl, ← hn] at this; omega
    rw [← hn] at hsk2
    have hn' : n = skipN ((s.data.toList.drop p).drop c) := by rw [List.drop_drop]; exact hn
    have hll : (s.data.toList.drop p).length = s.size - p := by rw [List.length_drop, hsl]
    have hdd : (s.data.toList.drop p).drop (c + n) = s.data.toList.drop (p + c + n) := by rw [List.drop_drop]; congr 1; omega
    have hdd1 : (s.data.toList.drop p).drop (c + n + 1) = s.data.toList.drop (p + c + n + 1) := by rw [List.drop_drop]; congr 1; omega
    obtain ⟨gk', hgk⟩ : ∃ g', gk = g' + 1 := ⟨gk - 1, by omega⟩
    rw [hgk] at hx
    have TT := Lib.hid htg; clear htg
    have HLL := Lib.hid (And.intro hn (And.intro hn' (And.intro hll (And.intro hdd (And.intro hdd1 hsl))))); clear hn hn' hll hdd hdd1 hsl
    have HG := Lib.hid (And.intro hg (And.intro hgk hal)); clear hg hgk hal
    have HX := Lib.hid hx; clear hx
    by_cases h0 : n = 0
    · -- no white sign
      have hX1 := (HX.out.symm.trans (ap_stop HLL.out.2.1 (Or.inl h0)))
      subst hX1
      rw [show decide (n ≠ 0) = false from by simpa using h0] at hsk2
      have HS := Lib.hid hsk2; clear hsk2
      cases b47 : Lib.hasPrefix (s.data.toList.drop (p + c + n)) [47] with
      | true =>
        have hlt47 := hp_drop_lt b47
        rw [HLL.out.2.2.2.2.2] at hlt47
        cases b62 : Lib.hasPrefix (s.data.toList.drop (p + c + n + 1)) [62] with
        | true =>
          go_wp2_with fail
          refine wp_region_two (by kernel_rfl) (by kernel_rfl) (by kernel_rfl) (by kernel_rfl) (by kernel_rfl) rfl rfl ?_
          go_simp
          go_at_call 87
          refine HS.out.mono ?_
          rintro en w5 ⟨rfl, hr5, hg5⟩
          have ht5 := (TT.out.below ((Below.refl _ wr).drew)).grown hr5 hg5
          have k0 := ht5.m0
          have k1 := ht5.rd.c0
          have k2 := ht5.rd.c1
          have T5 := Lib.hid ht5
          clear ht5 hr5 hg5
          dsimp only
          try simp only [Act.put, List.setIfInBounds_toArray, List.set_cons_zero, List.set_cons_succ]
          repeat (go_big_quiet_step (fail))
          refine wpQuiet_nil ?_
          intro nq
          have t6 := T5.out.drewN nq
          have m6 := t6.m0
          have T6 := Lib.hid t6
          clear t6
          generalize w5.drewN nq = w6 at *
          go_wp2_with (first
            | (go_at_call 85; have gd := T7; clear gd; refine (take_t ⟨#[62]⟩ (by decide) _ R s (p + c + n + 1) out 0 0 (T7.out.kind 4).rd hs (by omega) b62).mono ?_; rintro en w8 ⟨rfl, hr8, hg8⟩; have ht8 := (T7.out.kind 4).grown hr8 hg8; have m8 := ht8.m0; have mf8 := ht8.fz 0; have T8 := Lib.hid ht8; clear ht8 hr8 hg8)
            | (go_at_call 85; have gd := T6; clear gd; refine (take_t ⟨#[47]⟩ (by decide) _ R s (p + c + n) out 0 0 T6.out.rd hs (by omega) b47).mono ?_; rintro en w7 ⟨rfl, hr7, hg7⟩; have ht7 := T6.out.grown hr7 hg7; have m7 := ht7.m0; have mf7 := ht7.fz 0; have T7 := Lib.hid ht7; clear ht7 hr7 hg7))
          have RTT := Lib.hid (T8.out.rt H.out)
          have o2 := T8.out.rd.c2
          have m_0 := T8.out.m0
          have m_1 := T8.out.m1
          have m_2 := T8.out.m2
          have m_3 := T8.out.m3
          have m_4 := T8.out.m4
          have hRl2 := T8.out.rd.lt
          have hMl2 := T8.out.sz
          obtain ⟨i0, z0, by0, hi0, hz0', hs0, hb0, hc0, hbl⟩ := info_mark
          have IM := Lib.hid (And.intro hi0 (And.intro hz0' (And.intro hs0 (And.intro hb0 hc0)))); clear hi0 hz0' hs0 hb0 hc0
          have hN1 : ms.length + 1 ≤ maxLen := by have := HC.out.2.2.2; unfold maxLen; omega
          have hN2 : (ms.length + 1) * by0 ≤ 140737488355328 := by
            have := HC.out.2.2.2
            exact Nat.le_trans (Nat.mul_le_mul (show ms.length + 1 ≤ 65537 by omega) hbl) (by omega)
          have HN := Lib.hid (And.intro hN1 hN2); clear hN1 hN2
          go_region_law (refine step_append_own rfl (.tmp 113) (.tmp 115) 35 rfl (R + 1) 41 i0 z0 5 by0 Tryz.underlying35 IM.out.1 IM.out.2.1 IM.out.2.2.1 IM.out.2.2.2.1 IM.out.2.2.2.2 (by decide) out ms.length xs (by simp [Act.eval]) (ownsRow_below RTT.out.2.1 (((Below.refl _ w8).drew).alloc (Nat.le_refl _) _)) ⟨w8.heap.size, 0, none⟩ 1 1 (mkCell ⟨4, p, N, al, []⟩ av) (by simp [Act.eval]) rfl (cells_new _ _ _) (mkCell_one _ _ HAV.out) HN.out.1 HN.out.2 (by have := RTT.out.1.lt; simp; omega) ?_; intro v4 w4 hown4 hgrow4; obtain ⟨g4, cap4, rfl⟩ := row_form hown4; have ha4 := RTT.out.after (((Below.refl _ w8).drew).alloc (Nat.le_refl _) _) hgrow4; have hc4 := ha4.1.c2; have hf4 := ha4.1.fz 2; have hp4 := RTT.out.push (((Below.refl _ w8).drew).alloc (Nat.le_refl _) _) hgrow4 (m := ⟨4, p, N, al, []⟩) T8.out.attrs hown4; have HP := Lib.hid (And.intro hp4.1 hp4.2); clear ha4 hp4 hown4 hgrow4)
          all_goals go_wp2_with fail
          all_goals go_end0
          all_goals rw [show openR (s.data.toList.drop p) N (.ok (al, c + n)) = .ok (⟨4, 0, N, al, []⟩, c + n + 2) from by
            unfold openR; simp only; rw [show endP (s.data.toList.drop p) (c + n) = some (4, c + n + 2) from by unfold endP; rw [HLL.out.2.2.2.1, HLL.out.2.2.2.2.1, b47, b62]; rfl]]
          all_goals refine ⟨rfl, ?_, (below_grown T8.out.g (Nat.le_refl _) (Nat.le_of_lt hRl)).trans HP.out.2⟩
          all_goals have hrs := HP.out.1.rs (by have := HC.out.2.2.2; have e1 : (ByteArray.mk #[62]).size = 1 := rfl; rw [List.length_append, List.length_singleton]; omega)
          all_goals rw [show p + c + n + 1 + (ByteArray.mk #[62]).size = p + (c + n + 2) from by rw [show (ByteArray.mk #[62]).size = 1 from rfl]; omega] at hrs
          all_goals exact hrs
        | false =>
          go_wp2_with fail
          refine wp_region_two (by kernel_rfl) (by kernel_rfl) (by kernel_rfl) (by kernel_rfl) (by kernel_rfl) rfl rfl ?_
          go_simp
          go_at_call 87
          refine HS.out.mono ?_
          rintro en w5 ⟨rfl, hr5, hg5⟩
          have ht5 := (TT.out.below ((Below.refl _ wr).drew)).grown hr5 hg5
          have k0 := ht5.m0
          have k1 := ht5.rd.c0
          have k2 := ht5.rd.c1
          have T5 := Lib.hid ht5
          clear ht5 hr5 hg5
          dsimp only
          try simp only [Act.put, List.setIfInBounds_toArray, List.set_cons_zero, List.set_cons_succ]
          repeat (go_big_quiet_step (fail))
          refine wpQuiet_nil ?_
          intro nq
          have t6 := T5.out.drewN nq
          have m6 := t6.m0
          have T6 := Lib.hid t6
          clear t6
          generalize w5.drewN nq = w6 at *
          go_wp2_with (first
            | (go_at_call 83; have gd := T8; clear gd; refine (fail_c _ R s _ out 0 T8.out.rd _ _).mono ?_; rintro en w9 ⟨rfl, hr9, hg9⟩)
            | (go_at_call 85; have gd := T7; clear gd; refine (take_f ⟨#[62]⟩ (by decide) _ R s (p + c + n + 1) out 0 0 (T7.out.kind 4).rd hs (by omega) b62).mono ?_; rintro en w8 ⟨rfl, hr8, hg8⟩; have ht8 := (T7.out.kind 4).grown hr8 hg8; have m8 := ht8.m0; have mf8 := ht8.fz 0; have T8 := Lib.hid ht8; clear ht8 hr8 hg8)
            | (go_at_call 85; have gd := T6; clear gd; refine (take_t ⟨#[47]⟩ (by decide) _ R s (p + c + n) out 0 0 T6.out.rd hs (by omega) b47).mono ?_; rintro en w7 ⟨rfl, hr7, hg7⟩; have ht7 := T6.out.grown hr7 hg7; have m7 := ht7.m0; have mf7 := ht7.fz 0; have T7 := Lib.hid ht7; clear ht7 hr7 hg7))
          refine bodyPost_ret (results_none rfl _ _ _) rfl ?_
          have hop : openR (s.data.toList.drop p) N (.ok (al, c + n)) = .error (0, 8) := by
            unfold openR; simp only; rw [show endP (s.data.toList.drop p) (c + n) = none from by unfold endP; rw [HLL.out.2.2.2.1, b47, HLL.out.2.2.2.2.1, b62]; rfl]
          rw [hop]
          exact ⟨rfl, ⟨_, _, hr9⟩, (below_grown T8.out.g (Nat.le_refl _) (Nat.le_of_lt hRl)).trans (below_grown hg9 (Nat.le_refl _) (Nat.le_of_lt T8.out.rd.lt))⟩
      | false =>
        cases b62 : Lib.hasPrefix (s.data.toList.drop (p + c + n)) [62] with
        | true =>
          go_wp2_with fail
          refine wp_region_two (by kernel_rfl) (by kernel_rfl) (by kernel_rfl) (by kernel_rfl) (by kernel_rfl) rfl rfl ?_
          go_simp
          go_at_call 87
          refine HS.out.mono ?_
          rintro en w5 ⟨rfl, hr5, hg5⟩
          have ht5 := (TT.out.below ((Below.refl _ wr).drew)).grown hr5 hg5
          have k0 := ht5.m0
          have k1 := ht5.rd.c0
          have k2 := ht5.rd.c1
          have T5 := Lib.hid ht5
          clear ht5 hr5 hg5
          dsimp only
          try simp only [Act.put, List.setIfInBounds_toArray, List.set_cons_zero, List.set_cons_succ]
          repeat (go_big_quiet_step (fail))
          refine wpQuiet_nil ?_
          intro nq
          have t6 := T5.out.drewN nq
          have m6 := t6.m0
          have T6 := Lib.hid t6
          clear t6
          generalize w5.drewN nq = w6 at *
          go_wp2_with (first
            | (go_at_call 85; have gd := T7; clear gd; refine (take_t ⟨#[62]⟩ (by decide) _ R s (p + c + n) out 0 0 T7.out.rd hs (by omega) b62).mono ?_; rintro en w8 ⟨rfl, hr8, hg8⟩; have ht8 := T7.out.grown hr8 hg8; have m8 := ht8.m0; have mf8 := ht8.fz 0; have T8 := Lib.hid ht8; clear ht8 hr8 hg8)
            | (go_at_call 85; have gd := T6; clear gd; refine (take_f ⟨#[47]⟩ (by decide) _ R s (p + c + n) out 0 0 T6.out.rd hs (by omega) b47).mono ?_; rintro en w7 ⟨rfl, hr7, hg7⟩; have ht7 := T6.out.grown hr7 hg7; have m7 := ht7.m0; have mf7 := ht7.fz 0; have T7 := Lib.hid ht7; clear ht7 hr7 hg7))
          have RTT := Lib.hid (T8.out.rt H.out)
          have o2 := T8.out.rd.c2
          have m_0 := T8.out.m0
          have m_1 := T8.out.m1
          have m_2 := T8.out.m2
          have m_3 := T8.out.m3
          have m_4 := T8.out.m4
          have hRl2 := T8.out.rd.lt
          have hMl2 := T8.out.sz
          obtain ⟨i0, z0, by0, hi0, hz0', hs0, hb0, hc0, hbl⟩ := info_mark
          have IM := Lib.hid (And.intro hi0 (And.intro hz0' (And.intro hs0 (And.intro hb0 hc0)))); clear hi0 hz0' hs0 hb0 hc0
          have hN1 : ms.length + 1 ≤ maxLen := by have := HC.out.2.2.2; unfold maxLen; omega
          have hN2 : (ms.length + 1) * by0 ≤ 140737488355328 := by
            have := HC.out.2.2.2
            exact Nat.le_trans (Nat.mul_le_mul (show ms.length + 1 ≤ 65537 by omega) hbl) (by omega)
          have HN := Lib.hid (And.intro hN1 hN2); clear hN1 hN2
          go_region_law (refine step_append_own rfl (.tmp 113) (.tmp 115) 35 rfl (R + 1) 41 i0 z0 5 by0 Tryz.underlying35 IM.out.1 IM.out.2.1 IM.out.2.2.1 IM.out.2.2.2.1 IM.out.2.2.2.2 (by decide) out ms.length xs (by simp [Act.eval]) (ownsRow_below RTT.out.2.1 (((Below.refl _ w8).drew).alloc (Nat.le_refl _) _)) ⟨w8.heap.size, 0, none⟩ 1 1 (mkCell ⟨1, p, N, al, []⟩ av) (by simp [Act.eval]) rfl (cells_new _ _ _) (mkCell_one _ _ HAV.out) HN.out.1 HN.out.2 (by have := RTT.out.1.lt; simp; omega) ?_; intro v4 w4 hown4 hgrow4; obtain ⟨g4, cap4, rfl⟩ := row_form hown4; have ha4 := RTT.out.after (((Below.refl _ w8).drew).alloc (Nat.le_refl _) _) hgrow4; have hc4 := ha4.1.c2; have hf4 := ha4.1.fz 2; have hp4 := RTT.out.push (((Below.refl _ w8).drew).alloc (Nat.le_refl _) _) hgrow4 (m := ⟨1, p, N, al, []⟩) T8.out.attrs hown4; have HP := Lib.hid (And.intro hp4.1 hp4.2); clear ha4 hp4 hown4 hgrow4)
          all_goals go_wp2_with fail
          all_goals go_end0
          all_goals rw [show openR (s.data.toList.drop p) N (.ok (al, c + n)) = .ok (⟨1, 0, N, al, []⟩, c + n + 1) from by
            unfold openR; simp only; rw [show endP (s.data.toList.drop p) (c + n) = some (1, c + n + 1) from by unfold endP; rw [HLL.out.2.2.2.1, b47]; simp only [Bool.false_eq_true, if_false]; rw [b62]; rfl]]
          all_goals refine ⟨rfl, ?_, (below_grown T8.out.g (Nat.le_refl _) (Nat.le_of_lt hRl)).trans HP.out.2⟩
          all_goals have hrs := HP.out.1.rs (by have := HC.out.2.2.2; have e1 : (ByteArray.mk #[62]).size = 1 := rfl; rw [List.length_append, List.length_singleton]; omega)
          all_goals rw [show p + c + n + (ByteArray.mk #[62]).size = p + (c + n + 1) from by rw [show (ByteArray.mk #[62]).size = 1 from rfl]; omega] at hrs
          all_goals exact hrs
        | false =>
          go_wp2_with fail
          refine wp_region_two (by kernel_rfl) (by kernel_rfl) (by kernel_rfl) (by kernel_rfl) (by kernel_rfl) rfl rfl ?_
          go_simp
          go_at_call 87
          refine HS.out.mono ?_
          rintro en w5 ⟨rfl, hr5, hg5⟩
          have ht5 := (TT.out.below ((Below.refl _ wr).drew)).grown hr5 hg5
          have k0 := ht5.m0
          have k1 := ht5.rd.c0
          have k2 := ht5.rd.c1
          have T5 := Lib.hid ht5
          clear ht5 hr5 hg5
          dsimp only
          try simp only [Act.put, List.setIfInBounds_toArray, List.set_cons_zero, List.set_cons_succ]
          repeat (go_big_quiet_step (fail))
          refine wpQuiet_nil ?_
          intro nq
          have t6 := T5.out.drewN nq
          have m6 := t6.m0
          have T6 := Lib.hid t6
          clear t6
          generalize w5.drewN nq = w6 at *
          go_wp2_with (first
            | (go_at_call 83; have gd := T8; clear gd; refine (fail_c _ R s _ out 0 T8.out.rd _ _).mono ?_; rintro en w9 ⟨rfl, hr9, hg9⟩)
            | (go_at_call 85; have gd := T7; clear gd; refine (take_f ⟨#[62]⟩ (by decide) _ R s (p + c + n) out 0 0 T7.out.rd hs (by omega) b62).mono ?_; rintro en w8 ⟨rfl, hr8, hg8⟩; have ht8 := T7.out.grown hr8 hg8; have m8 := ht8.m0; have mf8 := ht8.fz 0; have T8 := Lib.hid ht8; clear ht8 hr8 hg8)
            | (go_at_call 85; have gd := T6; clear gd; refine (take_f ⟨#[47]⟩ (by decide) _ R s (p + c + n) out 0 0 T6.out.rd hs (by omega) b47).mono ?_; rintro en w7 ⟨rfl, hr7, hg7⟩; have ht7 := T6.out.grown hr7 hg7; have m7 := ht7.m0; have mf7 := ht7.fz 0; have T7 := Lib.hid ht7; clear ht7 hr7 hg7))
          refine bodyPost_ret (results_none rfl _ _ _) rfl ?_
          have hop : openR (s.data.toList.drop p) N (.ok (al, c + n)) = .error (0, 8) := by
            unfold openR; simp only; rw [show endP (s.data.toList.drop p) (c + n) = none from by unfold endP; rw [HLL.out.2.2.2.1, b47]; simp only [Bool.false_eq_true, if_false]; rw [b62]; rfl]
          rw [hop]
          exact ⟨rfl, ⟨_, _, hr9⟩, (below_grown T8.out.g (Nat.le_refl _) (Nat.le_of_lt hRl)).trans (below_grown hg9 (Nat.le_refl _) (Nat.le_of_lt T8.out.rd.lt))⟩
    · have h0' : decide (n ≠ 0) = true := by simpa using h0
      rw [h0'] at hsk2
      have HS := Lib.hid hsk2; clear hsk2 h0'
      by_cases he : p + c + n < s.size
      · have heI : (p : Int) + (c : Int) + (n : Int) < (s.size : Int) := by omega
        have hz0 : 0 ≤ (p : Int) + (c : Int) + (n : Int) := by omega
        obtain ⟨b, hb⟩ : ∃ b, s[p + c + n]'he = b := ⟨_, rfl⟩
        by_cases h62 : b = 62
        · have b62 : Lib.hasPrefix (s.data.toList.drop (p + c + n)) [62] = true := by rw [hp_get s _ he, hb, h62]; rfl
          have b47 : Lib.hasPrefix (s.data.toList.drop (p + c + n)) [47] = false := by rw [hp_get s _ he, hb, h62]; rfl
          have hX1 := (HX.out.symm.trans (ap_stop HLL.out.2.1 (Or.inr (Or.inr (Or.inl (by rw [HLL.out.2.2.2.1]; exact b62))))))
          subst hX1
          subst h62
          go_wp2_with fail
          refine wp_region_two (by kernel_rfl) (by kernel_rfl) (by kernel_rfl) (by kernel_rfl) (by kernel_rfl) rfl rfl ?_
          go_simp
          go_at_call 87
          refine HS.out.mono ?_
          rintro en w5 ⟨rfl, hr5, hg5⟩
          have ht5 := (TT.out.below ((Below.refl _ wr).drew)).grown hr5 hg5
          have k0 := ht5.m0
          have k1 := ht5.rd.c0
          have k2 := ht5.rd.c1
          have T5 := Lib.hid ht5
          clear ht5 hr5 hg5
          dsimp only
          try simp only [Act.put, List.setIfInBounds_toArray, List.set_cons_zero, List.set_cons_succ]
          repeat (go_big_quiet_step (fail))
          refine wpQuiet_nil ?_
          intro nq
          have t6 := T5.out.drewN nq
          have m6 := t6.m0
          have T6 := Lib.hid t6
          clear t6
          generalize w5.drewN nq = w6 at *
          go_wp2_with (first
            | (go_at_call 85; have gd := T7; clear gd; refine (take_t ⟨#[62]⟩ (by decide) _ R s (p + c + n) out 0 0 T7.out.rd hs (by omega) b62).mono ?_; rintro en w8 ⟨rfl, hr8, hg8⟩; have ht8 := T7.out.grown hr8 hg8; have m8 := ht8.m0; have mf8 := ht8.fz 0; have T8 := Lib.hid ht8; clear ht8 hr8 hg8)
            | (go_at_call 85; have gd := T6; clear gd; refine (take_f ⟨#[47]⟩ (by decide) _ R s (p + c + n) out 0 0 T6.out.rd hs (by omega) b47).mono ?_; rintro en w7 ⟨rfl, hr7, hg7⟩; have ht7 := T6.out.grown hr7 hg7; have m7 := ht7.m0; have mf7 := ht7.fz 0; have T7 := Lib.hid ht7; clear ht7 hr7 hg7))
          have RTT := Lib.hid (T8.out.rt H.out)
          have o2 := T8.out.rd.c2
          have m_0 := T8.out.m0
          have m_1 := T8.out.m1
          have m_2 := T8.out.m2
          have m_3 := T8.out.m3
          have m_4 := T8.out.m4
          have hRl2 := T8.out.rd.lt
          have hMl2 := T8.out.sz
          obtain ⟨i0, z0, by0, hi0, hz0', hs0, hb0, hc0, hbl⟩ := info_mark
          have IM := Lib.hid (And.intro hi0 (And.intro hz0' (And.intro hs0 (And.intro hb0 hc0)))); clear hi0 hz0' hs0 hb0 hc0
          have hN1 : ms.length + 1 ≤ maxLen := by have := HC.out.2.2.2; unfold maxLen; omega
          have hN2 : (ms.length + 1) * by0 ≤ 140737488355328 := by
            have := HC.out.2.2.2
            exact Nat.le_trans (Nat.mul_le_mul (show ms.length + 1 ≤ 65537 by omega) hbl) (by omega)
          have HN := Lib.hid (And.intro hN1 hN2); clear hN1 hN2
          go_region_law (refine step_append_own rfl (.tmp 113) (.tmp 115) 35 rfl (R + 1) 41 i0 z0 5 by0 Tryz.underlying35 IM.out.1 IM.out.2.1 IM.out.2.2.1 IM.out.2.2.2.1 IM.out.2.2.2.2 (by decide) out ms.length xs (by simp [Act.eval]) (ownsRow_below RTT.out.2.1 (((Below.refl _ w8).drew).alloc (Nat.le_refl _) _)) ⟨w8.heap.size, 0, none⟩ 1 1 (mkCell ⟨1, p, N, al, []⟩ av) (by simp [Act.eval]) rfl (cells_new _ _ _) (mkCell_one _ _ HAV.out) HN.out.1 HN.out.2 (by have := RTT.out.1.lt; simp; omega) ?_; intro v4 w4 hown4 hgrow4; obtain ⟨g4, cap4, rfl⟩ := row_form hown4; have ha4 := RTT.out.after (((Below.refl _ w8).drew).alloc (Nat.le_refl _) _) hgrow4; have hc4 := ha4.1.c2; have hf4 := ha4.1.fz 2; have hp4 := RTT.out.push (((Below.refl _ w8).drew).alloc (Nat.le_refl _) _) hgrow4 (m := ⟨1, p, N, al, []⟩) T8.out.attrs hown4; have HP := Lib.hid (And.intro hp4.1 hp4.2); clear ha4 hp4 hown4 hgrow4)
          all_goals go_wp2_with fail
          all_goals go_end0
          all_goals rw [show openR (s.data.toList.drop p) N (.ok (al, c + n)) = .ok (⟨1, 0, N, al, []⟩, c + n + 1) from by
            unfold openR; simp only; rw [show endP (s.data.toList.drop p) (c + n) = some (1, c + n + 1) from by unfold endP; rw [HLL.out.2.2.2.1, b47]; simp only [Bool.false_eq_true, if_false]; rw [b62]; rfl]]
          all_goals refine ⟨rfl, ?_, (below_grown T8.out.g (Nat.le_refl _) (Nat.le_of_lt hRl)).trans HP.out.2⟩
          all_goals have hrs := HP.out.1.rs (by have := HC.out.2.2.2; have e1 : (ByteArray.mk #[62]).size = 1 := rfl; rw [List.length_append, List.length_singleton]; omega)
          all_goals rw [show p + c + n + (ByteArray.mk #[62]).size = p + (c + n + 1) from by rw [show (ByteArray.mk #[62]).size = 1 from rfl]; omega] at hrs
          all_goals exact hrs
        · have n1 := ne_u8 b 62 62 rfl h62
          have n2 : ((b.toNat : Int) != 62) = true := by unfold bne; rw [n1]; rfl
          have b62 : Lib.hasPrefix (s.data.toList.drop (p + c + n)) [62] = false := by rw [hp_get s _ he, hb, beq_eq_false_iff_ne]; exact fun e => h62 e.symm
          by_cases h47 : b = 47
          · have b47 : Lib.hasPrefix (s.data.toList.drop (p + c + n)) [47] = true := by rw [hp_get s _ he, hb, h47]; rfl
            have hX1 := (HX.out.symm.trans (ap_stop HLL.out.2.1 (Or.inr (Or.inr (Or.inr (by rw [HLL.out.2.2.2.1]; exact b47))))))
            subst hX1
            subst h47
            clear n1 n2
            have hlt47 := hp_drop_lt b47
            rw [HLL.out.2.2.2.2.2] at hlt47
            cases b62' : Lib.hasPrefix (s.data.toList.drop (p + c + n + 1)) [62] with
            | true =>
              clear b62
              have b62 := b62'
              clear b62'
              go_wp2_with fail
              refine wp_region_two (by kernel_rfl) (by kernel_rfl) (by kernel_rfl) (by kernel_rfl) (by kernel_rfl) rfl rfl ?_
              go_simp
              go_at_call 87
              refine HS.out.mono ?_
              rintro en w5 ⟨rfl, hr5, hg5⟩
              have ht5 := (TT.out.below ((Below.refl _ wr).drew)).grown hr5 hg5
              have k0 := ht5.m0
              have k1 := ht5.rd.c0
              have k2 := ht5.rd.c1
              have T5 := Lib.hid ht5
              clear ht5 hr5 hg5
              dsimp only
              try simp only [Act.put, List.setIfInBounds_toArray, List.set_cons_zero, List.set_cons_succ]
              repeat (go_big_quiet_step (fail))
              refine wpQuiet_nil ?_
              intro nq
              have t6 := T5.out.drewN nq
              have m6 := t6.m0
              have T6 := Lib.hid t6
              clear t6
              generalize w5.drewN nq = w6 at *
              go_wp2_with (first
                | (go_at_call 85; have gd := T7; clear gd; refine (take_t ⟨#[62]⟩ (by decide) _ R s (p + c + n + 1) out 0 0 (T7.out.kind 4).rd hs (by omega) b62).mono ?_; rintro en w8 ⟨rfl, hr8, hg8⟩; have ht8 := (T7.out.kind 4).grown hr8 hg8; have m8 := ht8.m0; have mf8 := ht8.fz 0; have T8 := Lib.hid ht8; clear ht8 hr8 hg8)
                | (go_at_call 85; have gd := T6; clear gd; refine (take_t ⟨#[47]⟩ (by decide) _ R s (p + c + n) out 0 0 T6.out.rd hs (by omega) b47).mono ?_; rintro en w7 ⟨rfl, hr7, hg7⟩; have ht7 := T6.out.grown hr7 hg7; have m7 := ht7.m0; have mf7 := ht7.fz 0; have T7 := Lib.hid ht7; clear ht7 hr7 hg7))
              have RTT := Lib.hid (T8.out.rt H.out)
              have o2 := T8.out.rd.c2
              have m_0 := T8.out.m0
              have m_1 := T8.out.m1
              have m_2 := T8.out.m2
              have m_3 := T8.out.m3
              have m_4 := T8.out.m4
              have hRl2 := T8.out.rd.lt
              have hMl2 := T8.out.sz
              obtain ⟨i0, z0, by0, hi0, hz0', hs0, hb0, hc0, hbl⟩ := info_mark
              have IM := Lib.hid (And.intro hi0 (And.intro hz0' (And.intro hs0 (And.intro hb0 hc0)))); clear hi0 hz0' hs0 hb0 hc0
              have hN1 : ms.length + 1 ≤ maxLen := by have := HC.out.2.2.2; unfold maxLen; omega
              have hN2 : (ms.length + 1) * by0 ≤ 140737488355328 := by
                have := HC.out.2.2.2
                exact Nat.le_trans (Nat.mul_le_mul (show ms.length + 1 ≤ 65537 by omega) hbl) (by omega)
              have HN := Lib.hid (And.intro hN1 hN2); clear hN1 hN2
              go_region_law (refine step_append_own rfl (.tmp 113) (.tmp 115) 35 rfl (R + 1) 41 i0 z0 5 by0 Tryz.underlying35 IM.out.1 IM.out.2.1 IM.out.2.2.1 IM.out.2.2.2.1 IM.out.2.2.2.2 (by decide) out ms.length xs (by simp [Act.eval]) (ownsRow_below RTT.out.2.1 (((Below.refl _ w8).drew).alloc (Nat.le_refl _) _)) ⟨w8.heap.size, 0, none⟩ 1 1 (mkCell ⟨4, p, N, al, []⟩ av) (by simp [Act.eval]) rfl (cells_new _ _ _) (mkCell_one _ _ HAV.out) HN.out.1 HN.out.2 (by have := RTT.out.1.lt; simp; omega) ?_; intro v4 w4 hown4 hgrow4; obtain ⟨g4, cap4, rfl⟩ := row_form hown4; have ha4 := RTT.out.after (((Below.refl _ w8).drew).alloc (Nat.le_refl _) _) hgrow4; have hc4 := ha4.1.c2; have hf4 := ha4.1.fz 2; have hp4 := RTT.out.push (((Below.refl _ w8).drew).alloc (Nat.le_refl _) _) hgrow4 (m := ⟨4, p, N, al, []⟩) T8.out.attrs hown4; have HP := Lib.hid (And.intro hp4.1 hp4.2); clear ha4 hp4 hown4 hgrow4)
              all_goals go_wp2_with fail
              all_goals go_end0
              all_goals rw [show openR (s.data.toList.drop p) N (.ok (al, c + n)) = .ok (⟨4, 0, N, al, []⟩, c + n + 2) from by
                unfold openR; simp only; rw [show endP (s.data.toList.drop p) (c + n) = some (4, c + n + 2) from by unfold endP; rw [HLL.out.2.2.2.1, HLL.out.2.2.2.2.1, b47, b62]; rfl]]
              all_goals refine ⟨rfl, ?_, (below_grown T8.out.g (Nat.le_refl _) (Nat.le_of_lt hRl)).trans HP.out.2⟩
              all_goals have hrs := HP.out.1.rs (by have := HC.out.2.2.2; have e1 : (ByteArray.mk #[62]).size = 1 := rfl; rw [List.length_append, List.length_singleton]; omega)
              all_goals rw [show p + c + n + 1 + (ByteArray.mk #[62]).size = p + (c + n + 2) from by rw [show (ByteArray.mk #[62]).size = 1 from rfl]; omega] at hrs
              all_goals exact hrs
            | false =>
              clear b62
              have b62 := b62'
              clear b62'
              go_wp2_with fail
              refine wp_region_two (by kernel_rfl) (by kernel_rfl) (by kernel_rfl) (by kernel_rfl) (by kernel_rfl) rfl rfl ?_
              go_simp
              go_at_call 87
              refine HS.out.mono ?_
              rintro en w5 ⟨rfl, hr5, hg5⟩
              have ht5 := (TT.out.below ((Below.refl _ wr).drew)).grown hr5 hg5
              have k0 := ht5.m0
              have k1 := ht5.rd.c0
              have k2 := ht5.rd.c1
              have T5 := Lib.hid ht5
              clear ht5 hr5 hg5
              dsimp only
              try simp only [Act.put, List.setIfInBounds_toArray, List.set_cons_zero, List.set_cons_succ]
              repeat (go_big_quiet_step (fail))
              refine wpQuiet_nil ?_
              intro nq
              have t6 := T5.out.drewN nq
              have m6 := t6.m0
              have T6 := Lib.hid t6
              clear t6
              generalize w5.drewN nq = w6 at *
              go_wp2_with (first
                | (go_at_call 83; have gd := T8; clear gd; refine (fail_c _ R s _ out 0 T8.out.rd _ _).mono ?_; rintro en w9 ⟨rfl, hr9, hg9⟩)
                | (go_at_call 85; have gd := T7; clear gd; refine (take_f ⟨#[62]⟩ (by decide) _ R s (p + c + n + 1) out 0 0 (T7.out.kind 4).rd hs (by omega) b62).mono ?_; rintro en w8 ⟨rfl, hr8, hg8⟩; have ht8 := (T7.out.kind 4).grown hr8 hg8; have m8 := ht8.m0; have mf8 := ht8.fz 0; have T8 := Lib.hid ht8; clear ht8 hr8 hg8)
                | (go_at_call 85; have gd := T6; clear gd; refine (take_t ⟨#[47]⟩ (by decide) _ R s (p + c + n) out 0 0 T6.out.rd hs (by omega) b47).mono ?_; rintro en w7 ⟨rfl, hr7, hg7⟩; have ht7 := T6.out.grown hr7 hg7; have m7 := ht7.m0; have mf7 := ht7.fz 0; have T7 := Lib.hid ht7; clear ht7 hr7 hg7))
              refine bodyPost_ret (results_none rfl _ _ _) rfl ?_
              have hop : openR (s.data.toList.drop p) N (.ok (al, c + n)) = .error (0, 8) := by
                unfold openR; simp only; rw [show endP (s.data.toList.drop p) (c + n) = none from by unfold endP; rw [HLL.out.2.2.2.1, b47, HLL.out.2.2.2.2.1, b62]; rfl]
              rw [hop]
              exact ⟨rfl, ⟨_, _, hr9⟩, (below_grown T8.out.g (Nat.le_refl _) (Nat.le_of_lt hRl)).trans (below_grown hg9 (Nat.le_refl _) (Nat.le_of_lt T8.out.rd.lt))⟩
          · have n3 := ne_u8 b 47 47 rfl h47
            have n4 : ((b.toNat : Int) != 47) = true := by unfold bne; rw [n3]; rfl
            have b47 : Lib.hasPrefix (s.data.toList.drop (p + c + n)) [47] = false := by rw [hp_get s _ he, hb, beq_eq_false_iff_ne]; exact fun e => h47 e.symm
            have hgo := (HX.out.symm.trans (ap_go HLL.out.2.1 h0 (by rw [HLL.out.2.2.1]; omega) (by rw [HLL.out.2.2.2.1]; exact b62) (by rw [HLL.out.2.2.2.1]; exact b47)))
            rw [HLL.out.2.2.2.1] at hgo
            clear b62 b47
            have t6a : ∀ W, TG w W R s (p + c + n) out 0 0 1 p N av al → _ := fun W hW => attr_c W R s (p + c + n) p out hW.rd hs hnl (hW.wok HW.out.1 HW.out.2) HW.out.2
            have hlim := fun a m (hm : attrP (s.data.toList.drop (p + c + n)) = .ok (a, m)) => attrP_len hm
            cases hat : attrP (s.data.toList.drop (p + c + n)) with
            | error x =>
              rw [hat] at t6a hgo
              clear hlim
              have HAT := Lib.hid t6a; clear t6a hat
              cases x with
              | none =>
                simp only at hgo
                subst hgo
                go_wp2_with fail
                refine wp_region_two (by kernel_rfl) (by kernel_rfl) (by kernel_rfl) (by kernel_rfl) (by kernel_rfl) rfl rfl ?_
                go_simp
                go_at_call 87
                refine HS.out.mono ?_
                rintro en w5 ⟨rfl, hr5, hg5⟩
                have ht5 := (TT.out.below ((Below.refl _ wr).drew)).grown hr5 hg5
                have k0 := ht5.m0
                have k1 := ht5.rd.c0
                have k2 := ht5.rd.c1
                have T5 := Lib.hid ht5
                clear ht5 hr5 hg5
                dsimp only
                try simp only [Act.put, List.setIfInBounds_toArray, List.set_cons_zero, List.set_cons_succ]
                repeat (go_big_quiet_step (fail))
                refine wpQuiet_nil ?_
                intro nq
                have t6 := T5.out.drewN nq
                have m6 := t6.m0
                have T6 := Lib.hid t6
                clear t6
                generalize w5.drewN nq = w6 at *
                go_wp2_with (first
                  | (go_at_call 88; refine (HAT.out _ T6.out).mono ?_; rintro en w7 ⟨⟨⟨x, y, rfl⟩, q7, hr7⟩, hg7⟩))
                refine bodyPost_ret (results_none rfl _ _ _) rfl ?_
                exact ⟨rfl, ⟨_, _, hr7.alloc _⟩, (below_grown T6.out.g (Nat.le_refl _) (Nat.le_of_lt hRl)).trans (below_grown (hg7.trans (grown_alloc w7 _ _)) (Nat.le_refl _) (Nat.le_of_lt T6.out.rd.lt))⟩
              | some x =>
                obtain ⟨k, e⟩ := x
                simp only at hgo
                subst hgo
                go_wp2_with fail
                refine wp_region_two (by kernel_rfl) (by kernel_rfl) (by kernel_rfl) (by kernel_rfl) (by kernel_rfl) rfl rfl ?_
                go_simp
                go_at_call 87
                refine HS.out.mono ?_
                rintro en w5 ⟨rfl, hr5, hg5⟩
                have ht5 := (TT.out.below ((Below.refl _ wr).drew)).grown hr5 hg5
                have k0 := ht5.m0
                have k1 := ht5.rd.c0
                have k2 := ht5.rd.c1
                have T5 := Lib.hid ht5
                clear ht5 hr5 hg5
                dsimp only
                try simp only [Act.put, List.setIfInBounds_toArray, List.set_cons_zero, List.set_cons_succ]
                repeat (go_big_quiet_step (fail))
                refine wpQuiet_nil ?_
                intro nq
                have t6 := T5.out.drewN nq
                have m6 := t6.m0
                have T6 := Lib.hid t6
                clear t6
                generalize w5.drewN nq = w6 at *
                go_wp2_with (first
                  | (go_at_call 88; refine (HAT.out _ T6.out).mono ?_; rintro en w7 ⟨⟨⟨x, y, rfl⟩, q7, hr7⟩, hg7⟩))
                refine bodyPost_ret (results_none rfl _ _ _) rfl ?_
                refine ⟨rfl, ⟨q7, out, ?_⟩, (below_grown T6.out.g (Nat.le_refl _) (Nat.le_of_lt hRl)).trans (below_grown (hg7.trans (grown_alloc w7 _ _)) (Nat.le_refl _) (Nat.le_of_lt T6.out.rd.lt))⟩
                rw [show p + (c + n + k) = p + c + n + k from by omega]
                exact hr7.alloc _
            | ok x =>
              obtain ⟨a, m⟩ := x
              rw [hat] at t6a hgo
              obtain ⟨hm0, hml⟩ := hlim a m hat
              rw [List.length_drop, HLL.out.2.2.2.2.2] at hml
              clear hlim
              have HAT := Lib.hid t6a; clear t6a hat
              simp only at hgo
              cases hdup : al.any (fun b => b.name == a.name) with
              | true =>
                rw [hdup, if_pos rfl] at hgo
                subst hgo
                have HD := Lib.hid hdup; clear hdup
                go_wp2_with fail
                refine wp_region_two (by kernel_rfl) (by kernel_rfl) (by kernel_rfl) (by kernel_rfl) (by kernel_rfl) rfl rfl ?_
                go_simp
                go_at_call 87
                refine HS.out.mono ?_
                rintro en w5 ⟨rfl, hr5, hg5⟩
                have ht5 := (TT.out.below ((Below.refl _ wr).drew)).grown hr5 hg5
                have k0 := ht5.m0
                have k1 := ht5.rd.c0
                have k2 := ht5.rd.c1
                have T5 := Lib.hid ht5
                clear ht5 hr5 hg5
                dsimp only
                try simp only [Act.put, List.setIfInBounds_toArray, List.set_cons_zero, List.set_cons_succ]
                repeat (go_big_quiet_step (fail))
                refine wpQuiet_nil ?_
                intro nq
                have t6 := T5.out.drewN nq
                have m6 := t6.m0
                have T6 := Lib.hid t6
                clear t6
                generalize w5.drewN nq = w6 at *
                go_wp2_with (first
                  | (go_at_call 80; have gd := T7; clear gd; have hct := cont_c _ w7.heap.size (w.heap.size + 1) av al a.name (St2.new w7 ⟨a.name.toArray⟩ ⟨a.value.toArray⟩).c0 (by have := HG.out.2.2; omega) (T7.out.below ((Below.refl _ w7).alloc (Nat.le_refl _) _)).own; rw [HD.out] at hct; refine hct.mono ?_; rintro en w8 ⟨rfl, b8⟩; have t8 := (T7.out.below ((Below.refl _ w7).alloc (Nat.le_refl _) _)).below b8; have n8 := t8.m3; have n8f := t8.fz 3; have a8 := ((St2.new w7 ⟨a.name.toArray⟩ ⟨a.value.toArray⟩).below b8).c0; have a9 := ((St2.new w7 ⟨a.name.toArray⟩ ⟨a.value.toArray⟩).below b8).c1; have T8 := Lib.hid t8; clear t8 hct)
                  | (go_at_call 88; refine (HAT.out _ T6.out).mono ?_; rintro en w7 ⟨⟨rfl, hr7⟩, hg7⟩; have t7 := T6.out.grown hr7 hg7; have n7 := t7.m3; have n7f := t7.fz 3; have n7l := t7.sz; have T7 := Lib.hid t7; clear t7 hr7 hg7)
                  | (go_at_call 83; have gd := T8; clear gd; refine (fail_c _ R s _ out 0 T8.out.rd _ _).mono ?_; rintro en w9 ⟨rfl, hr9, hg9⟩))
                refine bodyPost_ret (results_none rfl _ _ _) rfl ?_
                exact ⟨rfl, ⟨_, _, hr9⟩, (below_grown T8.out.g (Nat.le_refl _) (Nat.le_of_lt hRl)).trans (below_grown hg9 (Nat.le_refl _) (Nat.le_of_lt T8.out.rd.lt))⟩
              | false =>
                rw [hdup, if_neg (by simp)] at hgo
                obtain ⟨i0, z0, by0, hi0, hz0', hs0, hb0, hc0, hbl⟩ := info_attr
                have IA := Lib.hid (And.intro hi0 (And.intro hz0' (And.intro hs0 (And.intro hb0 hc0)))); clear hi0 hz0' hs0 hb0 hc0
                have hN1 : al.length + 1 ≤ maxLen := by have := HG.out.2.2; unfold maxLen; omega
                have hN2 : (al.length + 1) * by0 ≤ 140737488355328 := by
                  have := HG.out.2.2
                  exact Nat.le_trans (Nat.mul_le_mul (show al.length + 1 ≤ 65537 by omega) hbl) (by omega)
                have HNA := Lib.hid (And.intro hN1 hN2); clear hN1 hN2
                have HGO := Lib.hid hgo; clear hgo
                have HD := Lib.hid hdup; clear hdup
                go_wp2_with fail
                refine wp_region_two (by kernel_rfl) (by kernel_rfl) (by kernel_rfl) (by kernel_rfl) (by kernel_rfl) rfl rfl ?_
                go_simp
                go_at_call 87
                refine HS.out.mono ?_
                rintro en w5 ⟨rfl, hr5, hg5⟩
                have ht5 := (TT.out.below ((Below.refl _ wr).drew)).grown hr5 hg5
                have k0 := ht5.m0
                have k1 := ht5.rd.c0
                have k2 := ht5.rd.c1
                have T5 := Lib.hid ht5
                clear ht5 hr5 hg5
                dsimp only
                try simp only [Act.put, List.setIfInBounds_toArray, List.set_cons_zero, List.set_cons_succ]
                repeat (go_big_quiet_step (fail))
                refine wpQuiet_nil ?_
                intro nq
                have t6 := T5.out.drewN nq
                have m6 := t6.m0
                have T6 := Lib.hid t6
                clear t6
                generalize w5.drewN nq = w6 at *
                go_wp2_with (first
                  | (go_at_call 80; have gd := T7; clear gd; have hct := cont_c _ w7.heap.size (w.heap.size + 1) av al a.name (St2.new w7 ⟨a.name.toArray⟩ ⟨a.value.toArray⟩).c0 (by have := HG.out.2.2; omega) (T7.out.below ((Below.refl _ w7).alloc (Nat.le_refl _) _)).own; rw [HD.out] at hct; refine hct.mono ?_; rintro en w8 ⟨rfl, b8⟩; have t8 := (T7.out.below ((Below.refl _ w7).alloc (Nat.le_refl _) _)).below b8; have n8 := t8.m3; have n8f := t8.fz 3; have a8 := ((St2.new w7 ⟨a.name.toArray⟩ ⟨a.value.toArray⟩).below b8).c0; have a9 := ((St2.new w7 ⟨a.name.toArray⟩ ⟨a.value.toArray⟩).below b8).c1; have T8 := Lib.hid t8; clear t8 hct)
                  | (go_at_call 88; refine (HAT.out _ T6.out).mono ?_; rintro en w7 ⟨⟨rfl, hr7⟩, hg7⟩; have t7 := T6.out.grown hr7 hg7; have n7 := t7.m3; have n7f := t7.fz 3; have n7l := t7.sz; have T7 := Lib.hid t7; clear t7 hr7 hg7)
                  | (at_builtin; refine wpList_append_own _ rfl (.tmp 90) (.tmp 92) 39 rfl (w.heap.size + 1) 58 i0 z0 2 by0 Tryz.underlying39 IA.out.1 IA.out.2.1 IA.out.2.2.1 IA.out.2.2.2.1 IA.out.2.2.2.2 (by decide) av al.length (attrCells al) rfl (ownsRow_below T8.out.own ((Below.refl _ w8).alloc (Nat.le_refl _) _)) ⟨w8.heap.size, 0, none⟩ 1 1 (attrCell a) rfl rfl ?c1 ?c2 ?c3 ?c4 ?c5 ?_))
                case c1 => exact cells_new _ _ _
                case c2 => intro u hu; simp only [attrCell, List.mem_cons, List.not_mem_nil, or_false] at hu; rcases hu with rfl | rfl <;> rfl
                case c3 => exact HNA.out.1
                case c4 => exact HNA.out.2
                case c5 => have := T8.out.sz; simp; omega
                intro v4 w4 hown4 hgrow4 _
                obtain ⟨g4, cap4, rfl⟩ := row_form hown4
                have h9 := T8.out.attr ((Below.refl _ w8).alloc (Nat.le_refl _) _) hgrow4 hown4
                have n9 := h9.2.2.1
                have n9f := h9.2.2.2
                have T9 := Lib.hid h9.1
                clear h9 hown4 hgrow4
                go_wp2_with fail
                go_roundg gk'
                case measure => have := HG.out.2.1; omega
                case rel =>
                  refine ⟨.slice (some ⟨g4, 0, none⟩) (al.length + 1) cap4, al ++ [a], c + n + m, ?_, HGO.out.symm, by omega, by have := HG.out.1; have := HG.out.2.1; omega, by have := HG.out.2.2; rw [List.length_append, List.length_singleton]; omega⟩
                  rw [show p + (c + n + m) = p + c + n + m from by omega]
                  exact T9.out
      · have heF : decide ((p : Int) + (c : Int) + (n : Int) < (s.size : Int)) = false := decide_eq_false (by omega)
        have b62 := hp_past s (p + c + n) (by omega) 62
        have b47 := hp_past s (p + c + n) (by omega) 47
        have hX1 := (HX.out.symm.trans (ap_stop HLL.out.2.1 (Or.inr (Or.inl (by rw [HLL.out.2.2.1]; omega)))))
        subst hX1
        go_wp2_with fail
        refine wp_region_two (by kernel_rfl) (by kernel_rfl) (by kernel_rfl) (by kernel_rfl) (by kernel_rfl) rfl rfl ?_
        go_simp
        go_at_call 87
        refine HS.out.mono ?_
        rintro en w5 ⟨rfl, hr5, hg5⟩
        have ht5 := (TT.out.below ((Below.refl _ wr).drew)).grown hr5 hg5
        have k0 := ht5.m0
        have k1 := ht5.rd.c0
        have k2 := ht5.rd.c1
        have T5 := Lib.hid ht5
        clear ht5 hr5 hg5
        dsimp only
        try simp only [Act.put, List.setIfInBounds_toArray, List.set_cons_zero, List.set_cons_succ]
        repeat (go_big_quiet_step (fail))
        refine wpQuiet_nil ?_
        intro nq
        have t6 := T5.out.drewN nq
        have m6 := t6.m0
        have T6 := Lib.hid t6
        clear t6
        generalize w5.drewN nq = w6 at *
        go_wp2_with (first
          | (go_at_call 83; have gd := T8; clear gd; refine (fail_c _ R s _ out 0 T8.out.rd _ _).mono ?_; rintro en w9 ⟨rfl, hr9, hg9⟩)
          | (go_at_call 85; have gd := T7; clear gd; refine (take_f ⟨#[62]⟩ (by decide) _ R s (p + c + n) out 0 0 T7.out.rd hs (by omega) b62).mono ?_; rintro en w8 ⟨rfl, hr8, hg8⟩; have ht8 := T7.out.grown hr8 hg8; have m8 := ht8.m0; have mf8 := ht8.fz 0; have T8 := Lib.hid ht8; clear ht8 hr8 hg8)
          | (go_at_call 85; have gd := T6; clear gd; refine (take_f ⟨#[47]⟩ (by decide) _ R s (p + c + n) out 0 0 T6.out.rd hs (by omega) b47).mono ?_; rintro en w7 ⟨rfl, hr7, hg7⟩; have ht7 := T6.out.grown hr7 hg7; have m7 := ht7.m0; have mf7 := ht7.fz 0; have T7 := Lib.hid ht7; clear ht7 hr7 hg7))
        refine bodyPost_ret (results_none rfl _ _ _) rfl ?_
        have hop : openR (s.data.toList.drop p) N (.ok (al, c + n)) = .error (0, 8) := by
          unfold openR; simp only; rw [show endP (s.data.toList.drop p) (c + n) = none from by unfold endP; rw [HLL.out.2.2.2.1, b47]; simp only [Bool.false_eq_true, if_false]; rw [b62]; rfl]
        rw [hop]
        exact ⟨rfl, ⟨_, _, hr9⟩, (below_grown T8.out.g (Nat.le_refl _) (Nat.le_of_lt hRl)).trans (below_grown hg9 (Nat.le_refl _) (Nat.le_of_lt T8.out.rd.lt))⟩
end Go.Proofs.YtcicibeggkmlcaaGreatDoor
