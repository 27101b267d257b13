/- The walk of the reader of marks: tag, where an element ends, and where no name stands. Conditions: as in the text before. -/
import Derived.Test.YtcicibeggkmlcaaGreatDoorMkJ
namespace Go.Proofs.YtcicibeggkmlcaaGreatDoor
open Go.RowKit Go.Sof

set_option maxRecDepth 1000000 in
set_option maxHeartbeats 2000000 in
theorem tag_n (w : World) (R : Nat) (s : ByteArray) (p : Nat) (out : Value) (h : Rd w R s p out 0 0) (hs : s.size ≤ 65536) (hp : p + 1 ≤ s.size)
    (hbc : Lib.hasPrefix (s.data.toList.drop (p + 1)) [47] = false) (hN : nameP (s.data.toList.drop (p + 1)) = []) :
    Calls Tryz.prog 60 #[.pointer (some ⟨R, 0, none⟩)] w fun en w' => en = .returned (.tuple #[]) ∧ RF w' R s p 8 ∧ Below R w w' := by
  have hnm := fun W hW => nm_c W R s (p + 1) out 0 0 hW hs (by omega)
  rw [hN] at hnm
  have c1 := h.c1
  have f1 := h.fz 1
  have hRl := h.lt
  have hpI : (p : Int) + 1 ≤ (s.size : Int) := by omega
  have HC := Lib.hid (And.intro hnm hbc); clear hnm hbc hN
  have H := Lib.hid h; clear h
  go_enter Tryz.func60, Tryz.ntmps60
  go_wp2_with (first
    | (go_at_call 85; have T1 := TG.start (q' := p + 1) (frm := p) H.out ((p : Int) + 1) (by omega) 1; refine (take_f ⟨#[47]⟩ (by decide) _ R s (p + 1) out 0 0 T1.rd hs (by omega) HC.out.2).mono ?_; rintro en w2 ⟨rfl, hr2, hg2⟩; have ht2 := T1.grown hr2 hg2; have T2 := Lib.hid ht2; clear ht2 hr2 hg2 T1)
    | (go_at_call 86; refine (HC.out.1 _ T2.out.rd).mono ?_; rintro en w3 ⟨rfl, hr3, hg3⟩; have ht3 := T2.out.grown hr3 hg3; have a2 := ht3.m2; have a3 := ht3.fz 2; have T3 := Lib.hid (ht3.name []); clear ht3 hr3 hg3)
    | (go_at_call 83; have gd := T3; clear gd; refine (fail_c _ R s _ out 0 T3.out.rd _ _).mono ?_; rintro en w9 ⟨rfl, hr9, hg9⟩))
  refine bodyPost_ret (results_none rfl _ _ _) rfl ?_
  exact ⟨rfl, ⟨_, _, hr9⟩, (below_grown T3.out.g (Nat.le_refl _) (Nat.le_of_lt hRl)).trans (below_grown hg9 (Nat.le_refl _) (Nat.le_of_lt T3.out.rd.lt))⟩

set_option maxRecDepth 1000000 in
set_option maxHeartbeats 2000000 in
theorem tag_m (w : World) (R : Nat) (s : ByteArray) (p : Nat) (out : Value) (h : Rd w R s p out 0 0) (hs : s.size ≤ 65536) (hp : p + 2 ≤ s.size)
    (hbc : Lib.hasPrefix (s.data.toList.drop (p + 1)) [47] = true) (hN : nameP (s.data.toList.drop (p + 2)) = []) :
    Calls Tryz.prog 60 #[.pointer (some ⟨R, 0, none⟩)] w fun en w' => en = .returned (.tuple #[]) ∧ RF w' R s p 8 ∧ Below R w w' := by
  have hnm := fun W hW => nm_c W R s (p + 2) out 0 0 hW hs (by omega)
  rw [hN] at hnm
  have c1 := h.c1
  have f1 := h.fz 1
  have hRl := h.lt
  have hpI : (p : Int) + 1 ≤ (s.size : Int) := by omega
  have HC := Lib.hid (And.intro hnm hbc); clear hnm hbc hN
  have H := Lib.hid h; clear h
  go_enter Tryz.func60, Tryz.ntmps60
  go_wp2_with (first
    | (go_at_call 85; have T1 := TG.start (q' := p + 1) (frm := p) H.out ((p : Int) + 1) (by omega) 1; refine (take_t ⟨#[47]⟩ (by decide) _ R s (p + 1) out 0 0 T1.rd hs (by omega) HC.out.2).mono ?_; rintro en w2 ⟨rfl, hr2, hg2⟩; have ht2 := T1.grown hr2 hg2; have b2 := ht2.m0; have b3 := ht2.fz 0; have T2 := Lib.hid (ht2.kind 2); clear ht2 hr2 hg2 T1)
    | (go_at_call 86; refine (HC.out.1 _ T2.out.rd).mono ?_; rintro en w3 ⟨rfl, hr3, hg3⟩; have ht3 := T2.out.grown hr3 hg3; have a2 := ht3.m2; have a3 := ht3.fz 2; have T3 := Lib.hid (ht3.name []); clear ht3 hr3 hg3)
    | (go_at_call 83; have gd := T3; clear gd; refine (fail_c _ R s _ out 0 T3.out.rd _ _).mono ?_; rintro en w9 ⟨rfl, hr9, hg9⟩))
  refine bodyPost_ret (results_none rfl _ _ _) rfl ?_
  exact ⟨rfl, ⟨_, _, hr9⟩, (below_grown T3.out.g (Nat.le_refl _) (Nat.le_of_lt hRl)).trans (below_grown hg9 (Nat.le_refl _) (Nat.le_of_lt T3.out.rd.lt))⟩
end Go.Proofs.YtcicibeggkmlcaaGreatDoor
