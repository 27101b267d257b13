/- The walks of the laws of chars: awake, CharsLook, CharsEscape, CharsUnescape. Conditions: the tables lie as they are laid; the text has at most 2^31 bytes. -/
import Derived.Test.YtcicibeggkmlcaaGreatDoorRfF
namespace Go.Proofs.YtcicibeggkmlcaaGreatDoor
open Go.RowKit Go.Sof

theorem aw_1 : escR (ByteArray.mk #[97, 60, 10]).data.toList = ([97, 38, 108, 116, 59, 38, 35, 49, 48, 59], 0) := by decide +kernel
theorem aw_2 : unR (ByteArray.mk #[38, 35, 120, 52, 49, 59, 38, 97, 109, 112, 59]).data.toList = ([65, 38], 0, 0) := by decide +kernel
theorem aw_3 : nameB (ByteArray.mk #[97, 95, 49]).data.toList = true := by decide +kernel
theorem aw_4 : nameB (ByteArray.mk #[49, 97]).data.toList = false := by decide +kernel
theorem aw_5 : decide (bad (ByteArray.mk #[195, 169]).data.toList = none) = true := by decide +kernel
theorem aw_6 : badI (ByteArray.mk #[97, 0]).data.toList = 1 := by decide +kernel

set_option maxRecDepth 1000000 in
set_option maxHeartbeats 4000000 in
theorem awake_c (w : World) (h : WOK w) : Calls Tryz.prog 16 #[] w fun e w' => e = .returned (.bool true) ∧ Below w.heap.size w w' := by
  have c1 := fun W hW => escape_c ⟨#[97, 60, 10]⟩ W hW (by decide)
  have c2 := fun W hW => unescape_c ⟨#[38, 35, 120, 52, 49, 59, 38, 97, 109, 112, 59]⟩ W hW (by decide)
  have c3 := fun W => name_c ⟨#[97, 95, 49]⟩ W
  have c4 := fun W => name_c ⟨#[49, 97]⟩ W
  have c5 := fun W hW => good_c ⟨#[195, 169]⟩ W hW (by decide)
  have c6 := fun W hW => bad_c ⟨#[97, 0]⟩ W hW (by decide)
  rw [aw_1] at c1
  rw [aw_2] at c2
  rw [aw_3] at c3
  rw [aw_4] at c4
  rw [aw_5] at c5
  rw [aw_6] at c6
  rw [show escV ([97, 38, 108, 116, 59, 38, 35, 49, 48, 59], 0) = .tuple #[.string ⟨#[97, 38, 108, 116, 59, 38, 35, 49, 48, 59]⟩, .int .i64 0] from rfl] at c1
  rw [show unV ([65, 38], 0, 0) = .tuple #[.string ⟨#[65, 38]⟩, .int .i64 0, .int .i64 0] from rfl] at c2
  have HC := Lib.hid (And.intro c1 (And.intro c2 (And.intro c3 (And.intro c4 (And.intro c5 c6)))))
  clear c1 c2 c3 c4 c5 c6
  have HW := Lib.hid h; clear h
  go_enter Tryz.func16, Tryz.ntmps16
  go_wp2_with (first
    | (go_at_call 23; refine (HC.out.1 _ HW.out).mono ?_; rintro e w1 ⟨rfl, b1⟩)
    | (go_at_call 25; refine (HC.out.2.1 _ (HW.out.below b1)).mono ?_; rintro e w2 ⟨rfl, b2'⟩; have b2 := b1.trans (b2'.mono b1.size); clear b2')
    | (go_at_call 19; refine (HC.out.2.2.2.2.1 _ (HW.out.below b4)).mono ?_; rintro e w5 ⟨rfl, b5'⟩; have b5 := b4.trans (b5'.mono b4.size); clear b5')
    | (go_at_call 17; refine (HC.out.2.2.2.2.2 _ (HW.out.below b5)).mono ?_; rintro e w6 ⟨rfl, b6'⟩; have b6 := b5.trans (b6'.mono b5.size); clear b6')
    | (go_at_call 21; first | (have b4' := b3; clear b4'; refine (HC.out.2.2.2.1 _).mono ?_; rintro e w4 ⟨rfl, b4'⟩; have b4 := b3.trans (b4'.mono b3.size); clear b4') | (refine (HC.out.2.2.1 _).mono ?_; rintro e w3 ⟨rfl, b3'⟩; have b3 := b2.trans (b3'.mono b2.size); clear b3')))
  go_ret
  exact ⟨rfl, b6⟩

set_option maxRecDepth 1000000 in
set_option maxHeartbeats 4000000 in
theorem look_c (s : ByteArray) (w : World) (h : WOK w) (hs : s.size ≤ 2147483648) : Calls Tryz.prog 3 #[.string s] w fun e w' => e = .returned (.bool true) ∧ Below w.heap.size w w' := by
  have c1 := fun W hW => bad_c s W hW (by omega)
  have c2 := fun W => rbad_c s W (by omega)
  have c3 := fun W hW => good_c s W hW (by omega)
  have c4 := fun W => rgood_c s W (by omega)
  have c5 := fun W => name_c s W
  have c6 := fun W => rname_c s W
  generalize badI s.data.toList = B at *
  generalize decide (bad s.data.toList = none) = G at *
  generalize nameB s.data.toList = N at *
  have HC := Lib.hid (And.intro c1 (And.intro c2 (And.intro c3 (And.intro c4 (And.intro c5 c6)))))
  clear c1 c2 c3 c4 c5 c6
  have HW := Lib.hid h; clear h
  go_enter Tryz.func3, Tryz.ntmps3
  go_wp2_with (first
    | (go_at_call 16; refine (awake_c _ HW.out).mono ?_; rintro e w1 ⟨rfl, b1⟩)
    | (go_at_call 17; refine (HC.out.1 _ (HW.out.below b1)).mono ?_; rintro e w2 ⟨rfl, b2'⟩; have b2 := b1.trans (b2'.mono b1.size); clear b2')
    | (go_at_call 18; refine (HC.out.2.1 _).mono ?_; rintro e w3 ⟨rfl, rfl⟩)
    | (go_at_call 19; refine (HC.out.2.2.1 _ (HW.out.below b2)).mono ?_; rintro e w4 ⟨rfl, b4'⟩; have b4 := b2.trans (b4'.mono b2.size); clear b4')
    | (go_at_call 20; refine (HC.out.2.2.2.1 _).mono ?_; rintro e w5 ⟨rfl, rfl⟩)
    | (go_at_call 21; refine (HC.out.2.2.2.2.1 _).mono ?_; rintro e w6 ⟨rfl, b6'⟩; have b6 := b4.trans (b6'.mono b4.size); clear b6')
    | (go_at_call 22; refine (HC.out.2.2.2.2.2 _).mono ?_; rintro e w7 ⟨rfl, rfl⟩))
  go_ret
  exact ⟨rfl, b6⟩

set_option maxRecDepth 1000000 in
set_option maxHeartbeats 4000000 in
theorem lesc_c (s : ByteArray) (w : World) (h : WOK w) (hs : s.size ≤ 2147483648) : Calls Tryz.prog 4 #[.string s] w fun e w' => e = .returned (.bool true) ∧ Below w.heap.size w w' := by
  have c1 := fun W hW => escape_c s W hW (by omega)
  have c2 := fun W => resc_c s W (by omega)
  generalize escR s.data.toList = r at *
  obtain ⟨a, x⟩ := r
  rw [show escV (a, x) = .tuple #[.string ⟨a.toArray⟩, .int .i64 x] from rfl] at c1 c2
  generalize ByteArray.mk a.toArray = t at *
  have HC := Lib.hid (And.intro c1 c2)
  clear c1 c2
  have HW := Lib.hid h; clear h
  go_enter Tryz.func4, Tryz.ntmps4
  go_wp2_with (first
    | (go_at_call 23; refine (HC.out.1 _ HW.out).mono ?_; rintro e w1 ⟨rfl, b1⟩)
    | (go_at_call 24; refine (HC.out.2 _).mono ?_; rintro e w2 ⟨rfl, rfl⟩)
    | (go_at_call 16; refine (awake_c _ (HW.out.below b1)).mono ?_; rintro e w3 ⟨rfl, b3'⟩; have b3 := b1.trans (b3'.mono b1.size); clear b3'))
  go_ret
  exact ⟨rfl, b3⟩

set_option maxRecDepth 1000000 in
set_option maxHeartbeats 4000000 in
theorem lunesc_c (s : ByteArray) (w : World) (h : WOK w) (hs : s.size ≤ 2147483648) : Calls Tryz.prog 5 #[.string s] w fun e w' => e = .returned (.bool true) ∧ Below w.heap.size w w' := by
  have c1 := fun W hW => unescape_c s W hW (by omega)
  have c2 := fun W => run_c s W (by omega)
  generalize unR s.data.toList = r at *
  obtain ⟨a, n, x⟩ := r
  rw [show unV (a, n, x) = .tuple #[.string ⟨a.toArray⟩, .int .i64 n, .int .i64 x] from rfl] at c1 c2
  generalize ByteArray.mk a.toArray = t at *
  have HC := Lib.hid (And.intro c1 c2)
  clear c1 c2
  have HW := Lib.hid h; clear h
  go_enter Tryz.func5, Tryz.ntmps5
  go_wp2_with (first
    | (go_at_call 25; refine (HC.out.1 _ HW.out).mono ?_; rintro e w1 ⟨rfl, b1⟩)
    | (go_at_call 26; refine (HC.out.2 _).mono ?_; rintro e w2 ⟨rfl, b2'⟩; have b2 := b1.trans (b2'.mono b1.size); clear b2')
    | (go_at_call 16; refine (awake_c _ (HW.out.below b2)).mono ?_; rintro e w3 ⟨rfl, b3'⟩; have b3 := b2.trans (b3'.mono b2.size); clear b3'))
  go_ret
  exact ⟨rfl, b3⟩
end Go.Proofs.YtcicibeggkmlcaaGreatDoor
