/- The walk of the law MarkPlaces. Conditions: the tables lie as they are laid; the text has at most 2^31 bytes. -/
import Derived.Test.YtcicibeggkmlcaaDoorLmA
namespace Go.Proofs.YtcicibeggkmlcaaDoor
open Go.RowKit Go.Sof

theorem ext_head (s : ByteArray) (k : Nat) : (s.extract 0 k).data.toList = s.data.toList.take k := by
  rw [Lib.extract_data]; simp

set_option maxRecDepth 1000000 in
set_option maxHeartbeats 4000000 in
theorem places_c (w : World) (s : ByteArray) (hs : s.size ≤ 2147483648) (h : WOK w) : Calls Tryd.prog 4 #[.string s] w fun e w' => e = .returned (.bool true) ∧ Below w.heap.size w w' := by
  have hc := fun W hW => marks_c W s hs hW
  cases hm : marks s.data.toList with
  | ok ms =>
    rw [hm] at hc
    have HC := Lib.hid hc; clear hc hm
    have HW := Lib.hid h; clear h
    go_enter Tryd.func4, Tryd.ntmps4
    go_wp2_with (first
      | (go_at_call 5; refine (HC.out _ HW.out).mono ?_; rintro en w1 ⟨⟨out, xs, rfl, ho, hmm⟩, b1⟩; clear ho hmm)
      | (go_at_call 6; first | (have gd := b2; clear gd; refine (awm_c _ (HW.out.below b2)).mono ?_; rintro en w3 ⟨rfl, b3'⟩; have b3 := b2.trans (b3'.mono b2.size); clear b3') | (refine (awm_c _ (HW.out.below b1)).mono ?_; rintro en w2 ⟨rfl, b2'⟩; have b2 := b1.trans (b2'.mono b1.size); clear b2')))
    go_ret
    exact ⟨rfl, b3⟩
  | error x =>
    obtain ⟨k, e⟩ := x
    rw [hm] at hc
    have hp := marks_places _ k e hm
    rw [show s.data.toList.length = s.size from Array.length_toList] at hp
    have HW := Lib.hid h; clear h
    rcases hp with ⟨rfl, hbig, rfl⟩ | ⟨hsm, hk, h67 | ⟨rfl, h60, ms, hms⟩⟩
    · have hI : (65536 : Int) < (s.size : Int) := by omega
      have hI2 : ¬ ((s.size : Int) < 0) := by omega
      have HC := Lib.hid hc; clear hc hm
      go_enter Tryd.func4, Tryd.ntmps4
      go_wp2_with (first
        | (go_at_call 5; refine (HC.out _ HW.out).mono ?_; rintro en w1 ⟨rfl, b1⟩)
        | (go_at_call 6; refine (awm_c _ (HW.out.below b1)).mono ?_; rintro en w2 ⟨rfl, b2'⟩; have b2 := b1.trans (b2'.mono b1.size); clear b2'))
      go_ret
      exact ⟨rfl, b2⟩
    · have hkI : (k : Int) < (s.size : Int) := by omega
      have hkI2 : (k : Int) ≤ (s.size : Int) := by omega
      have HC := Lib.hid hc; clear hc hm
      rcases h67 with rfl | rfl
      · go_enter Tryd.func4, Tryd.ntmps4
        go_wp2_with (first
          | (go_at_call 5; refine (HC.out _ HW.out).mono ?_; rintro en w1 ⟨rfl, b1⟩)
          | (go_at_call 6; refine (awm_c _ (HW.out.below b1)).mono ?_; rintro en w2 ⟨rfl, b2'⟩; have b2 := b1.trans (b2'.mono b1.size); clear b2'))
        go_ret
        exact ⟨rfl, b2⟩
      · go_enter Tryd.func4, Tryd.ntmps4
        go_wp2_with (first
          | (go_at_call 5; refine (HC.out _ HW.out).mono ?_; rintro en w1 ⟨rfl, b1⟩)
          | (go_at_call 6; refine (awm_c _ (HW.out.below b1)).mono ?_; rintro en w2 ⟨rfl, b2'⟩; have b2 := b1.trans (b2'.mono b1.size); clear b2'))
        go_ret
        exact ⟨rfl, b2⟩
    · have hkI : (k : Int) < (s.size : Int) := by omega
      have hkI2 : (k : Int) ≤ (s.size : Int) := by omega
      have hc2 := fun W hW => marks_c W (s.extract 0 k) (by simp; omega) hW
      rw [ext_head, hms] at hc2
      obtain ⟨b, hb⟩ : ∃ b, s[k]'hk = b := ⟨_, rfl⟩
      have hb60 : b = 60 := by
        rw [hp_get s k hk, hb] at h60
        exact (by simpa using h60 : (60 : UInt8) = b).symm
      subst hb60
      have HC := Lib.hid (And.intro hc hc2); clear hc hc2 hm hms h60
      go_enter Tryd.func4, Tryd.ntmps4
      go_wp2_with (first
        | (go_at_call 5; first | (have gd := b2; clear gd; refine (HC.out.2 _ (HW.out.below b2)).mono ?_; rintro en w3 ⟨⟨out, xs, rfl, ho, hmm⟩, b3'⟩; clear ho hmm; have b3 := b2.trans (b3'.mono b2.size); clear b3') | (refine (HC.out.1 _ HW.out).mono ?_; rintro en w1 ⟨rfl, b1⟩))
        | (go_at_call 6; refine (awm_c _ (HW.out.below b1)).mono ?_; rintro en w2 ⟨rfl, b2'⟩; have b2 := b1.trans (b2'.mono b1.size); clear b2'))
      go_ret
      exact ⟨rfl, b3⟩
end Go.Proofs.YtcicibeggkmlcaaDoor
