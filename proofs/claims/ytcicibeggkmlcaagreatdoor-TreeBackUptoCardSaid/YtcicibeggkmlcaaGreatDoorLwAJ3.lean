/- The walks of the laws of chars: awake, CharsLook, CharsEscape, CharsUnescape. Conditions: the tables lie as they are laid; the text has at most 2^31 bytes. The walks of the laws of chars: CharsBack, CharsParts. Conditions: the tables lie as they are laid; the texts have at most 2^28 bytes. The walk of CharsNumbers. Conditions: the tables lie as they are laid. -/
import Derived.Test.YtcicibeggkmlcaaGreatDoorRfBJ5
namespace Go.Proofs.YtcicibeggkmlcaaGreatDoor
open Go.RowKit Go.Sof

theorem aw_1 : escR (ByteArray.mk #[97, 60, 10]).data.toList = ([97, 38, 108, 116, 59, 38, 35, 49, 48, 59], 0) := by decide +kernel
theorem aw_2 : unR (ByteArray.mk #[38, 35, 120, 52, 49, 59, 38, 97, 109, 112, 59]).data.toList = ([65, 38], 0, 0) := by decide +kernel
theorem aw_3 : nameB (ByteArray.mk #[97, 95, 49]).data.toList = true := by decide +kernel
theorem aw_4 : nameB (ByteArray.mk #[49, 97]).data.toList = false := by decide +kernel
theorem aw_5 : decide (bad (ByteArray.mk #[195, 169]).data.toList = none) = true := by decide +kernel
theorem aw_6 : badI (ByteArray.mk #[97, 0]).data.toList = 1 := by decide +kernel

set_option maxRecDepth 1000000 in
set_option maxHeartbeats 4000000 in
theorem awake_c (w : World) (h : WOK w) : Calls Tryz.prog 16 #[] w fun e w' => e = .returned (.bool true) ∧ Below w.heap.size w w' := by
  have c1 := fun W hW => escape_c ⟨#[97, 60, 10]⟩ W hW (by decide)
  have c2 := fun W hW => unescape_c ⟨#[38, 35, 120, 52, 49, 59, 38, 97, 109, 112, 59]⟩ W hW (by decide)
  have c3 := fun W => name_c ⟨#[97, 95, 49]⟩ W
  have c4 := fun W => name_c ⟨#[49, 97]⟩ W
  have c5 := fun W hW => good_c ⟨#[195, 169]⟩ W hW (by decide)
  have c6 := fun W hW => bad_c ⟨#[97, 0]⟩ W hW (by decide)
  rw [aw_1] at c1
  rw [aw_2] at c2
  rw [aw_3] at c3
  rw [aw_4] at c4
  rw [aw_5] at c5
  rw [aw_6] at c6
  rw [show escV ([97, 38, 108, 116, 59, 38, 35, 49, 48, 59], 0) = .tuple #[.string ⟨#[97, 38, 108, 116, 59, 38, 35, 49, 48, 59]⟩, .int .i64 0] from rfl] at c1
  rw [show unV ([65, 38], 0, 0) = .tuple #[.string ⟨#[65, 38]⟩, .int .i64 0, .int .i64 0] from rfl] at c2
  have HC := Lib.hid (And.intro c1 (And.intro c2 (And.intro c3 (And.intro c4 (And.intro c5 c6)))))
  clear c1 c2 c3 c4 c5 c6
  have HW := Lib.hid h; clear h
  go_enter Tryz.func16, Tryz.ntmps16
  go_wp2_with (first
    | (go_at_call 23; refine (HC.out.1 _ HW.out).mono ?_; rintro e w1 ⟨rfl, b1⟩)
    | (go_at_call 25; refine (HC.out.2.1 _ (HW.out.below b1)).mono ?_; rintro e w2 ⟨rfl, b2'⟩; have b2 := b1.trans (b2'.mono b1.size); clear b2')
    | (go_at_call 19; refine (HC.out.2.2.2.2.1 _ (HW.out.below b4)).mono ?_; rintro e w5 ⟨rfl, b5'⟩; have b5 := b4.trans (b5'.mono b4.size); clear b5')
    | (go_at_call 17; refine (HC.out.2.2.2.2.2 _ (HW.out.below b5)).mono ?_; rintro e w6 ⟨rfl, b6'⟩; have b6 := b5.trans (b6'.mono b5.size); clear b6')
    | (go_at_call 21; first | (have b4' := b3; clear b4'; refine (HC.out.2.2.2.1 _).mono ?_; rintro e w4 ⟨rfl, b4'⟩; have b4 := b3.trans (b4'.mono b3.size); clear b4') | (refine (HC.out.2.2.1 _).mono ?_; rintro e w3 ⟨rfl, b3'⟩; have b3 := b2.trans (b3'.mono b2.size); clear b3')))
  go_ret
  exact ⟨rfl, b6⟩

set_option maxRecDepth 1000000 in
set_option maxHeartbeats 4000000 in
theorem look_c (s : ByteArray) (w : World) (h : WOK w) (hs : s.size ≤ 2147483648) : Calls Tryz.prog 3 #[.string s] w fun e w' => e = .returned (.bool true) ∧ Below w.heap.size w w' := by
  have c1 := fun W hW => bad_c s W hW (by omega)
  have c2 := fun W => rbad_c s W (by omega)
  have c3 := fun W hW => good_c s W hW (by omega)
  have c4 := fun W => rgood_c s W (by omega)
  have c5 := fun W => name_c s W
  have c6 := fun W => rname_c s W
  generalize badI s.data.toList = B at *
  generalize decide (bad s.data.toList = none) = G at *
  generalize nameB s.data.toList = N at *
  have HC := Lib.hid (And.intro c1 (And.intro c2 (And.intro c3 (And.intro c4 (And.intro c5 c6)))))
  clear c1 c2 c3 c4 c5 c6
  have HW := Lib.hid h; clear h
  go_enter Tryz.func3, Tryz.ntmps3
  go_wp2_with (first
    | (go_at_call 16; refine (awake_c _ HW.out).mono ?_; rintro e w1 ⟨rfl, b1⟩)
    | (go_at_call 17; refine (HC.out.1 _ (HW.out.below b1)).mono ?_; rintro e w2 ⟨rfl, b2'⟩; have b2 := b1.trans (b2'.mono b1.size); clear b2')
    | (go_at_call 18; refine (HC.out.2.1 _).mono ?_; rintro e w3 ⟨rfl, rfl⟩)
    | (go_at_call 19; refine (HC.out.2.2.1 _ (HW.out.below b2)).mono ?_; rintro e w4 ⟨rfl, b4'⟩; have b4 := b2.trans (b4'.mono b2.size); clear b4')
    | (go_at_call 20; refine (HC.out.2.2.2.1 _).mono ?_; rintro e w5 ⟨rfl, rfl⟩)
    | (go_at_call 21; refine (HC.out.2.2.2.2.1 _).mono ?_; rintro e w6 ⟨rfl, b6'⟩; have b6 := b4.trans (b6'.mono b4.size); clear b6')
    | (go_at_call 22; refine (HC.out.2.2.2.2.2 _).mono ?_; rintro e w7 ⟨rfl, rfl⟩))
  go_ret
  exact ⟨rfl, b6⟩

set_option maxRecDepth 1000000 in
set_option maxHeartbeats 4000000 in
theorem lesc_c (s : ByteArray) (w : World) (h : WOK w) (hs : s.size ≤ 2147483648) : Calls Tryz.prog 4 #[.string s] w fun e w' => e = .returned (.bool true) ∧ Below w.heap.size w w' := by
  have c1 := fun W hW => escape_c s W hW (by omega)
  have c2 := fun W => resc_c s W (by omega)
  generalize escR s.data.toList = r at *
  obtain ⟨a, x⟩ := r
  rw [show escV (a, x) = .tuple #[.string ⟨a.toArray⟩, .int .i64 x] from rfl] at c1 c2
  generalize ByteArray.mk a.toArray = t at *
  have HC := Lib.hid (And.intro c1 c2)
  clear c1 c2
  have HW := Lib.hid h; clear h
  go_enter Tryz.func4, Tryz.ntmps4
  go_wp2_with (first
    | (go_at_call 23; refine (HC.out.1 _ HW.out).mono ?_; rintro e w1 ⟨rfl, b1⟩)
    | (go_at_call 24; refine (HC.out.2 _).mono ?_; rintro e w2 ⟨rfl, rfl⟩)
    | (go_at_call 16; refine (awake_c _ (HW.out.below b1)).mono ?_; rintro e w3 ⟨rfl, b3'⟩; have b3 := b1.trans (b3'.mono b1.size); clear b3'))
  go_ret
  exact ⟨rfl, b3⟩

set_option maxRecDepth 1000000 in
set_option maxHeartbeats 4000000 in
theorem lunesc_c (s : ByteArray) (w : World) (h : WOK w) (hs : s.size ≤ 2147483648) : Calls Tryz.prog 5 #[.string s] w fun e w' => e = .returned (.bool true) ∧ Below w.heap.size w w' := by
  have c1 := fun W hW => unescape_c s W hW (by omega)
  have c2 := fun W => run_c s W (by omega)
  generalize unR s.data.toList = r at *
  obtain ⟨a, n, x⟩ := r
  rw [show unV (a, n, x) = .tuple #[.string ⟨a.toArray⟩, .int .i64 n, .int .i64 x] from rfl] at c1 c2
  generalize ByteArray.mk a.toArray = t at *
  have HC := Lib.hid (And.intro c1 c2)
  clear c1 c2
  have HW := Lib.hid h; clear h
  go_enter Tryz.func5, Tryz.ntmps5
  go_wp2_with (first
    | (go_at_call 25; refine (HC.out.1 _ HW.out).mono ?_; rintro e w1 ⟨rfl, b1⟩)
    | (go_at_call 26; refine (HC.out.2 _).mono ?_; rintro e w2 ⟨rfl, b2'⟩; have b2 := b1.trans (b2'.mono b1.size); clear b2')
    | (go_at_call 16; refine (awake_c _ (HW.out.below b2)).mono ?_; rintro e w3 ⟨rfl, b3'⟩; have b3 := b2.trans (b3'.mono b2.size); clear b3'))
  go_ret
  exact ⟨rfl, b3⟩
end Go.Proofs.YtcicibeggkmlcaaGreatDoor

namespace Go.Proofs.YtcicibeggkmlcaaGreatDoor
open Go.RowKit Go.Sof

theorem unR_escL (l : Bytes) (h : bad l = none) : unR (escL l) = (l, 0, 0) := by unfold unR; rw [un_escL l h]

set_option maxRecDepth 1000000 in
set_option maxHeartbeats 4000000 in
theorem lback_c (s : ByteArray) (w : World) (h : WOK w) (hs : s.size ≤ 268435456) : Calls Tryz.prog 6 #[.string s] w fun e w' => e = .returned (.bool true) ∧ Below w.heap.size w w' := by
  have c1 := fun W hW => escape_c s W hW (by omega)
  have c3 := fun W hW => good_c s W hW (by omega)
  by_cases hg : bad s.data.toList = none
  · have hr : escR s.data.toList = (escL s.data.toList, 0) := by unfold escR; rw [if_pos hg]
    have hun := unR_escL _ hg
    have hcl := escL_clean _ hg
    have hle := escL_le s.data.toList
    rw [size_list] at hle
    have c2 := fun W hW => unescape_c ⟨(escL s.data.toList).toArray⟩ W hW (by show (escL s.data.toList).toArray.size ≤ _; rw [List.size_toArray]; omega)
    rw [show (ByteArray.mk (escL s.data.toList).toArray).data.toList = escL s.data.toList from rfl, hun, show unV (s.data.toList, 0, 0) = .tuple #[.string ⟨s.data.toList.toArray⟩, .int .i64 0, .int .i64 0] from rfl, ba_eta s] at c2
    rw [hr, show escV (escL s.data.toList, 0) = .tuple #[.string ⟨(escL s.data.toList).toArray⟩, .int .i64 0] from rfl] at c1
    clear hun hr c3 hg
    have hTl : (ByteArray.mk (escL s.data.toList).toArray).data.toList = escL s.data.toList := rfl
    rw [← hTl] at hcl hle
    generalize ByteArray.mk (escL s.data.toList).toArray = T at *
    have hTs : T.size ≤ 1610612736 := by rw [size_list] at hle; omega
    have HC := Lib.hid (And.intro c1 (And.intro c2 hcl))
    clear c1 c2 hcl hTl hle
    have HW := Lib.hid h; clear h
    go_enter Tryz.func6, Tryz.ntmps6
    go_wp2_with (first
      | (go_at_call 23; refine (HC.out.1 _ HW.out).mono ?_; rintro e w1 ⟨rfl, b1⟩)
      | (go_at_call 16; refine (awake_c _ (HW.out.below b1)).mono ?_; rintro e w2 ⟨rfl, b2'⟩; have b2 := b1.trans (b2'.mono b1.size); clear b2')
      | (go_at_call 25; refine (HC.out.2.1 _ (HW.out.below b2)).mono ?_; rintro e w3 ⟨rfl, b3'⟩; have b3 := b2.trans (b3'.mono b2.size); clear b3'))
    go_loopg [8] T.size (fun g i wr => w3 = wr ∧ ∃ k : Nat, k ≤ T.size ∧ g = T.size - k ∧ i = .int .i64 k)
    case atStart => exact ⟨rfl, 0, Nat.zero_le _, rfl, rfl⟩
    case round =>
      obtain ⟨rfl, k, hk, hg, rfl⟩ := hrel
      have HG := Lib.hid hg; clear hg
      by_cases hlt : k < T.size
      · have hx := HC.out.2.2 (T[k]'hlt) (by
          have h' : k < T.data.toList.length := hlt
          have := List.getElem_mem h'
          exact this)
        obtain ⟨c, hc⟩ : ∃ c, T[k]'hlt = c := ⟨_, rfl⟩
        rw [hc] at hx
        have n1 := ne_u8 c 60 60 rfl hx.1
        have n2 := ne_u8 c 62 62 rfl hx.2.1
        have n3 := ne_u8 c 34 34 rfl hx.2.2.1
        have n4 := ne_u8 c 39 39 rfl hx.2.2.2.1
        have n5 : decide ((c.toNat : Int) < 32) = false := by have := hx.2.2.2.2; simp; omega
        clear hx
        go_wp2_with fail
        go_roundg (T.size - (k + 1))
        case measure => have := HG.out; omega
        case rel => exact ⟨rfl, k + 1, by omega, rfl, by go_num⟩
      · obtain rfl : k = T.size := by omega
        go_wp2_with fail
        go_ret
        exact ⟨rfl, b3⟩
  · have hr : escR s.data.toList = ([], 6) := by unfold escR; rw [if_neg hg]
    rw [hr, show escV ([], 6) = .tuple #[.string ⟨#[]⟩, .int .i64 6] from rfl] at c1
    have hgf : decide (bad s.data.toList = none) = false := by simpa using hg
    rw [hgf] at c3
    clear hr hg hgf
    have HC := Lib.hid (And.intro c1 c3)
    clear c1 c3
    have HW := Lib.hid h; clear h
    go_enter Tryz.func6, Tryz.ntmps6
    go_wp2_with (first
      | (go_at_call 23; refine (HC.out.1 _ HW.out).mono ?_; rintro e w1 ⟨rfl, b1⟩)
      | (go_at_call 16; first | (have b3' := b2; clear b3'; refine (awake_c _ (HW.out.below b2)).mono ?_; rintro e w3 ⟨rfl, b3'⟩; have b3 := b2.trans (b3'.mono b2.size); clear b3') | (refine (awake_c _ (HW.out.below b1)).mono ?_; rintro e w2 ⟨rfl, b2'⟩; have b2 := b1.trans (b2'.mono b1.size); clear b2'))
      | (go_at_call 19; refine (HC.out.2 _ (HW.out.below b3)).mono ?_; rintro e w4 ⟨rfl, b4'⟩; have b4 := b3.trans (b4'.mono b3.size); clear b4'))
    go_ret
    exact ⟨rfl, b4⟩

theorem append_list (a b : ByteArray) : (a ++ b).data.toList = a.data.toList ++ b.data.toList := by simp
theorem append_size (a b : ByteArray) : (a ++ b).size = a.size + b.size := by simp

set_option maxRecDepth 1000000 in
set_option maxHeartbeats 4000000 in
theorem lparts_c (a b : ByteArray) (w : World) (h : WOK w) (hs : a.size + b.size ≤ 268435456) : Calls Tryz.prog 7 #[.string a, .string b] w fun e w' => e = .returned (.bool true) ∧ Below w.heap.size w w' := by
  have cg := fun W => rgood_c a W (by omega)
  have HW := Lib.hid h; clear h
  by_cases hg : bad a.data.toList = none
  · rw [show decide (bad a.data.toList = none) = true from by simpa using hg] at cg
    have hap := bad_append _ a.data.toList b.data.toList (Nat.le_refl _) hg
    have c1 := fun W hW => bad_c (a ++ b) W hW (by rw [append_size]; omega)
    have c2 := fun W hW => bad_c b W hW (by omega)
    have c3 := fun W hW => escape_c a W hW (by omega)
    have c4 := fun W hW => escape_c b W hW (by omega)
    have c5 := fun W hW => escape_c (a ++ b) W hW (by rw [append_size]; omega)
    rw [append_list] at c1 c5
    have e3 : escR a.data.toList = (escL a.data.toList, 0) := by unfold escR; rw [if_pos hg]
    rw [e3, show escV (escL a.data.toList, 0) = .tuple #[.string ⟨(escL a.data.toList).toArray⟩, .int .i64 0] from rfl] at c3
    cases hb : bad b.data.toList with
    | none =>
      rw [hb] at hap
      have hap' : bad (a.data.toList ++ b.data.toList) = none := hap
      have e1 : badI (a.data.toList ++ b.data.toList) = -1 := by unfold badI; rw [hap']
      have e2 : badI b.data.toList = -1 := by unfold badI; rw [hb]
      have e4 : escR b.data.toList = (escL b.data.toList, 0) := by unfold escR; rw [if_pos hb]
      have e5 : escR (a.data.toList ++ b.data.toList) = (escL a.data.toList ++ escL b.data.toList, 0) := by unfold escR; rw [if_pos hap', escL_append]
      rw [e1] at c1
      rw [e2] at c2
      rw [e4, show escV (escL b.data.toList, 0) = .tuple #[.string ⟨(escL b.data.toList).toArray⟩, .int .i64 0] from rfl] at c4
      rw [e5, show escV (escL a.data.toList ++ escL b.data.toList, 0) = .tuple #[.string ⟨(escL a.data.toList ++ escL b.data.toList).toArray⟩, .int .i64 0] from rfl, ← cat_ba] at c5
      have l1 := escL_le a.data.toList
      have l2 := escL_le b.data.toList
      rw [size_list] at l1 l2
      have s1 : (ByteArray.mk (escL a.data.toList).toArray).size = (escL a.data.toList).length := by show (List.toArray _).size = _; simp
      have s2 : (ByteArray.mk (escL b.data.toList).toArray).size = (escL b.data.toList).length := by show (List.toArray _).size = _; simp
      generalize ByteArray.mk (escL a.data.toList).toArray = X at *
      generalize ByteArray.mk (escL b.data.toList).toArray = Y at *
      have s1 : X.size ≤ 1610612736 := by omega
      have s2 : Y.size ≤ 1610612736 := by omega
      have HC := Lib.hid (And.intro cg (And.intro c1 (And.intro c2 (And.intro c3 (And.intro c4 c5)))))
      clear cg c1 c2 c3 c4 c5 e1 e2 e3 e4 e5 hap hap' hb hg l1 l2
      go_enter Tryz.func7, Tryz.ntmps7
      go_wp2_with (first
        | (go_at_call 16; refine (awake_c _ HW.out).mono ?_; rintro e w1 ⟨rfl, b1⟩)
        | (go_at_call 20; refine (HC.out.1 _).mono ?_; rintro e w' ⟨rfl, rfl⟩)
        | (go_at_call 17; first | (have b3' := b2; clear b3'; refine (HC.out.2.2.1 _ (HW.out.below b2)).mono ?_; rintro e w3 ⟨rfl, b3'⟩; have b3 := b2.trans (b3'.mono b2.size); clear b3') | (refine (HC.out.2.1 _ (HW.out.below b1)).mono ?_; rintro e w2 ⟨rfl, b2'⟩; have b2 := b1.trans (b2'.mono b1.size); clear b2'))
        | (go_at_call 23; first
          | (have b6' := b5; clear b6'; refine (HC.out.2.2.2.2.2 _ (HW.out.below b5)).mono ?_; rintro e w6 ⟨rfl, b6'⟩; have b6 := b5.trans (b6'.mono b5.size); clear b6')
          | (have b5' := b4; clear b5'; refine (HC.out.2.2.2.2.1 _ (HW.out.below b4)).mono ?_; rintro e w5 ⟨rfl, b5'⟩; have b5 := b4.trans (b5'.mono b4.size); clear b5')
          | (refine (HC.out.2.2.2.1 _ (HW.out.below b3)).mono ?_; rintro e w4 ⟨rfl, b4'⟩; have b4 := b3.trans (b4'.mono b3.size); clear b4')))
      go_ret
      exact ⟨rfl, b6⟩
    | some j =>
      rw [hb] at hap
      have hap' : bad (a.data.toList ++ b.data.toList) = some (j + a.data.toList.length) := hap
      have e1 : badI (a.data.toList ++ b.data.toList) = (a.size : Int) + (j : Int) := by unfold badI; rw [hap', size_list]; simp; omega
      have e2 : badI b.data.toList = (j : Int) := by unfold badI; rw [hb]
      have e4 : escR b.data.toList = ([], 6) := by unfold escR; rw [if_neg (by rw [hb]; simp)]
      have e5 : escR (a.data.toList ++ b.data.toList) = ([], 6) := by unfold escR; rw [if_neg (by rw [hap']; simp)]
      rw [e1] at c1
      rw [e2] at c2
      rw [e4, show escV ([], 6) = .tuple #[.string ⟨#[]⟩, .int .i64 6] from rfl] at c4
      rw [e5, show escV ([], 6) = .tuple #[.string ⟨#[]⟩, .int .i64 6] from rfl] at c5
      have hj := bad_lt _ b.data.toList (Nat.le_refl _) j hb
      rw [size_list] at hj
      generalize ByteArray.mk (escL a.data.toList).toArray = X at *
      have HC := Lib.hid (And.intro cg (And.intro c1 (And.intro c2 (And.intro c3 (And.intro c4 c5)))))
      clear cg c1 c2 c3 c4 c5 e1 e2 e3 e4 e5 hap hap' hb hg
      have n1 : decide ((a.size : Int) + (j : Int) < 0) = false := decide_eq_false (by omega)
      have n2 : decide ((j : Int) < 0) = false := decide_eq_false (by omega)
      have n3 : decide (0 ≤ (a.size : Int) + (j : Int)) = true := decide_eq_true (by omega)
      go_enter Tryz.func7, Tryz.ntmps7
      go_wp2_with (first
        | (go_at_call 16; refine (awake_c _ HW.out).mono ?_; rintro e w1 ⟨rfl, b1⟩)
        | (go_at_call 20; refine (HC.out.1 _).mono ?_; rintro e w' ⟨rfl, rfl⟩)
        | (go_at_call 17; first | (have b3' := b2; clear b3'; refine (HC.out.2.2.1 _ (HW.out.below b2)).mono ?_; rintro e w3 ⟨rfl, b3'⟩; have b3 := b2.trans (b3'.mono b2.size); clear b3') | (refine (HC.out.2.1 _ (HW.out.below b1)).mono ?_; rintro e w2 ⟨rfl, b2'⟩; have b2 := b1.trans (b2'.mono b1.size); clear b2'))
        | (go_at_call 23; first
          | (have b6' := b5; clear b6'; refine (HC.out.2.2.2.2.2 _ (HW.out.below b5)).mono ?_; rintro e w6 ⟨rfl, b6'⟩; have b6 := b5.trans (b6'.mono b5.size); clear b6')
          | (have b5' := b4; clear b5'; refine (HC.out.2.2.2.2.1 _ (HW.out.below b4)).mono ?_; rintro e w5 ⟨rfl, b5'⟩; have b5 := b4.trans (b5'.mono b4.size); clear b5')
          | (refine (HC.out.2.2.2.1 _ (HW.out.below b3)).mono ?_; rintro e w4 ⟨rfl, b4'⟩; have b4 := b3.trans (b4'.mono b3.size); clear b4')))
      go_ret
      exact ⟨rfl, b6⟩
  · rw [show decide (bad a.data.toList = none) = false from by simpa using hg] at cg
    have HC := Lib.hid cg; clear cg hg
    go_enter Tryz.func7, Tryz.ntmps7
    go_wp2_with (first
      | (go_at_call 16; first | (have b2' := b1; clear b2'; refine (awake_c _ (HW.out.below b1)).mono ?_; rintro e w2 ⟨rfl, b2'⟩; have b2 := b1.trans (b2'.mono b1.size); clear b2') | (refine (awake_c _ HW.out).mono ?_; rintro e w1 ⟨rfl, b1⟩))
      | (go_at_call 20; refine (HC.out _).mono ?_; rintro e w' ⟨rfl, rfl⟩))
    go_ret
    exact ⟨rfl, b2⟩
end Go.Proofs.YtcicibeggkmlcaaGreatDoor

namespace Go.Proofs.YtcicibeggkmlcaaGreatDoor
open Go.RowKit Go.Sof

theorem dig_at (d : Nat) (h : d < 16) : (ByteArray.mk #[48, 49, 50, 51, 52, 53, 54, 55, 56, 57, 97, 98, 99, 100, 101, 102])[d]'h = digB d := by
  have : ∀ d : Fin 16, (ByteArray.mk #[48, 49, 50, 51, 52, 53, 54, 55, 56, 57, 97, 98, 99, 100, 101, 102])[d.val]'d.isLt = digB d.val := by decide
  exact this ⟨d, h⟩

/-- the text of a number, and what it stands for. -/
theorem num_un (hex : Bool) (k : Nat) (acc : Bytes) (X : ByteArray) (h : Digs (if hex then 16 else 10) k 0 acc) (hne : acc ≠ []) (hX : X.data.toList = 38 :: 35 :: ((if hex then 120 :: acc else acc) ++ [59])) (w : World) (hw : WOK w) :
    Calls Tryz.prog 25 #[.string X] w fun e w' => e = .returned (unV (if signB k then (utf k, 0, 0) else ([], 0, 7))) ∧ Below w.heap.size w w' := by
  have hs : X.size ≤ 2147483648 := by
    have := congrArg List.length hX
    have h7 := h.len
    have hl : X.data.toList.length = X.size := Array.length_toList
    rw [hl] at this
    cases hex <;> simp at this <;> omega
  have := unescape_c X w hw hs
  rw [hX, un_number hex k acc h hne] at this
  exact this

set_option maxRecDepth 1000000 in
set_option maxHeartbeats 4000000 in
theorem lnum_c (n : Nat) (hn : n < 4294967296) (hex : Bool) (w : World) (h : WOK w) : Calls Tryz.prog 8 #[.int .u32 n, .bool hex] w fun e w' => e = .returned (.bool true) ∧ Below w.heap.size w w' := by
  have HW := Lib.hid h; clear h
  obtain ⟨k, hk⟩ : ∃ k, k = n % 1179648 := ⟨_, rfl⟩
  have hk' : k < 1179648 := by omega
  have KN := Lib.hid (show (n : Int) % 1179648 = (k : Int) from by omega)
  clear hk
  cases hex with
  | false =>
    go_enter Tryz.func8, Tryz.ntmps8
    go_wp2_with fail
    go_loopg [7, 9] 8 (fun g s x wr => Below w.heap.size w wr ∧ ∃ (acc : Bytes) (xx : Nat), Digs 10 k xx acc ∧ s = .string ⟨acc.toArray⟩ ∧ x = .int .i64 xx ∧ g = 8 - acc.length)
    case atStart => exact ⟨Below.refl _ _, [], k, Digs.start _ _, rfl, by rw [KN.out], rfl⟩
    case round =>
      obtain ⟨hb, acc, xx, hd, rfl, rfl, hg⟩ := hrel
      have hxk : xx ≤ k := by
        have h1 := hd.val
        have h2 := Nat.le_mul_of_pos_right xx (Nat.pow_pos (n := acc.length) (show 0 < 10 by omega))
        omega
      have hal : acc.length ≤ 7 := hd.len
      by_cases hx0 : 0 < xx
      · have hdg := hd.next (by omega) hk' (Or.inl hx0)
        have hml : xx % 10 < 16 := by omega
        have hu := dig_at (xx % 10) hml
        obtain ⟨c, hc⟩ : ∃ c, c = digB (xx % 10) := ⟨_, rfl⟩
        rw [← hc] at hu hdg
        obtain ⟨U, hU⟩ : ∃ U : Bytes, U = [c] := ⟨_, rfl⟩
        have cv := back_1 wr U (c.toNat : Int) c.toNat rfl c.toNat_lt (by rw [hU]; simp)
        have hUl : U.length = 1 := by rw [hU]; rfl
        have hq : wrap64 ((xx : Int) / 10) = ((xx / 10 : Nat) : Int) := by rw [IntWalk.wrap64_in _ (by omega)]; simp
        have hrel : ByteArray.mk U.toArray ++ ByteArray.mk acc.toArray = ByteArray.mk (c :: acc).toArray := by rw [cat_ba, hU]; rfl
        have HZ := Lib.hid (And.intro hb (And.intro hdg (And.intro hrel hg))); clear hb hdg hU hg hd hc hrel
        go_wp2_with fail
        go_roundg (8 - (c :: acc).length)
        case measure => have := HZ.out.2.2.2; have := HZ.out.2.1.len; simp only [List.length_cons] at *; omega
        case rel => exact ⟨HZ.out.1.alloc HZ.out.1.size _, c :: acc, xx / 10, HZ.out.2.1, by rw [HZ.out.2.2.1], rfl, rfl⟩
      · obtain rfl : xx = 0 := by omega
        by_cases hne : acc = []
        · subst hne
          have hdg := hd.next (by omega) hk' (Or.inr rfl)
          have hu := dig_at 0 (by omega)
          rw [show 0 % 10 = 0 from rfl] at hdg
          obtain ⟨c, hc⟩ : ∃ c, c = digB 0 := ⟨_, rfl⟩
          rw [← hc] at hu hdg
          obtain ⟨U, hU⟩ : ∃ U : Bytes, U = [c] := ⟨_, rfl⟩
          have cv := back_1 wr U (c.toNat : Int) c.toNat rfl c.toNat_lt (by rw [hU]; simp)
          have hUl : U.length = 1 := by rw [hU]; rfl
          have hrel : ByteArray.mk U.toArray ++ ByteArray.mk #[] = ByteArray.mk [c].toArray := by rw [hU]; apply ByteArray.ext; simp
          have HZ := Lib.hid (And.intro hb (And.intro hdg (And.intro hrel hg))); clear hb hdg hU hg hd hc hrel
          go_wp2_with fail
          go_roundg 7
          case measure => have := HZ.out.2.2.2; simp at this; omega
          case rel => exact ⟨HZ.out.1.alloc HZ.out.1.size _, [c], 0, HZ.out.2.1, by rw [HZ.out.2.2.1], rfl, rfl⟩
        · have hie : acc.isEmpty = false := by simpa using hne
          have hun := fun W hW => num_un false k acc (ByteArray.mk #[38, 35] ++ ByteArray.mk acc.toArray ++ ByteArray.mk #[59]) hd hne (by simp) W hW
          have HZ := Lib.hid hb; clear hb hd hg hne
          cases hsg : signB k with
          | true =>
            obtain ⟨V, hV⟩ : ∃ V, V = utf k := ⟨_, rfl⟩
            rw [hsg, if_pos rfl, ← hV, show unV (V, 0, 0) = .tuple #[.string ⟨V.toArray⟩, .int .i64 0, .int .i64 0] from rfl] at hun
            have henc := (utf_enc k).symm
            rw [← hV, ← KN.out] at henc
            have hVe : V.isEmpty = false := by rw [hV]; simpa using utf_ne k hsg
            have hgd := fun W hW => good_c ⟨V.toArray⟩ W hW (by show (List.toArray V).size ≤ _; have := utf_len k hsg; rw [← hV] at this; simp; omega)
            rw [show decide (bad (ByteArray.mk V.toArray).data.toList = none) = true from by have := bad_utf k hsg; rw [← hV] at this; simpa using this] at hgd
            have hrs := fun W => rsign_b k true hsg W
            rw [← KN.out] at hrs
            have HC := Lib.hid (And.intro hun (And.intro hgd hrs)); clear hun hgd hsg hV hrs
            go_wp2_with (first
              | (go_at_call 25; refine (HC.out.1 _ (HW.out.below HZ.out)).mono ?_; rintro e w2 ⟨rfl, b2'⟩; have b2 := HZ.out.trans (b2'.mono HZ.out.size); clear b2')
              | (go_at_call 16; refine (awake_c _ (HW.out.below b2)).mono ?_; rintro e w3 ⟨rfl, b3'⟩; have b3 := b2.trans (b3'.mono b2.size); clear b3')
              | (go_at_call 27; refine (HC.out.2.2 _).mono ?_; rintro e w4 ⟨rfl, rfl⟩)
              | (go_at_call 19; refine (HC.out.2.1 _ (HW.out.below b3)).mono ?_; rintro e w5 ⟨rfl, b5'⟩; have b5 := b3.trans (b5'.mono b3.size); clear b5'))
            go_ret
            exact ⟨rfl, b5⟩
          | false =>
            rw [hsg, if_neg (by simp), show unV ([], 0, 7) = .tuple #[.string ⟨#[]⟩, .int .i64 0, .int .i64 7] from rfl] at hun
            have hrs := fun W => rsign_b k false hsg W
            rw [← KN.out] at hrs
            have HC := Lib.hid (And.intro hun hrs); clear hun hsg hrs
            go_wp2_with (first
              | (go_at_call 25; refine (HC.out.1 _ (HW.out.below HZ.out)).mono ?_; rintro e w2 ⟨rfl, b2'⟩; have b2 := HZ.out.trans (b2'.mono HZ.out.size); clear b2')
              | (go_at_call 16; refine (awake_c _ (HW.out.below b2)).mono ?_; rintro e w3 ⟨rfl, b3'⟩; have b3 := b2.trans (b3'.mono b2.size); clear b3')
              | (go_at_call 27; refine (HC.out.2 _).mono ?_; rintro e w4 ⟨rfl, rfl⟩))
            go_ret
            exact ⟨rfl, b3⟩
  | true =>
    go_enter Tryz.func8, Tryz.ntmps8
    go_wp2_with fail
    go_loopg [7, 9] 8 (fun g s x wr => Below w.heap.size w wr ∧ ∃ (acc : Bytes) (xx : Nat), Digs 16 k xx acc ∧ s = .string ⟨acc.toArray⟩ ∧ x = .int .i64 xx ∧ g = 8 - acc.length)
    case atStart => exact ⟨Below.refl _ _, [], k, Digs.start _ _, rfl, by rw [KN.out], rfl⟩
    case round =>
      obtain ⟨hb, acc, xx, hd, rfl, rfl, hg⟩ := hrel
      have hxk : xx ≤ k := by
        have h1 := hd.val
        have h2 := Nat.le_mul_of_pos_right xx (Nat.pow_pos (n := acc.length) (show 0 < 16 by omega))
        omega
      have hal : acc.length ≤ 7 := hd.len
      by_cases hx0 : 0 < xx
      · have hdg := hd.next (by omega) hk' (Or.inl hx0)
        have hml : xx % 16 < 16 := by omega
        have hu := dig_at (xx % 16) hml
        obtain ⟨c, hc⟩ : ∃ c, c = digB (xx % 16) := ⟨_, rfl⟩
        rw [← hc] at hu hdg
        obtain ⟨U, hU⟩ : ∃ U : Bytes, U = [c] := ⟨_, rfl⟩
        have cv := back_1 wr U (c.toNat : Int) c.toNat rfl c.toNat_lt (by rw [hU]; simp)
        have hUl : U.length = 1 := by rw [hU]; rfl
        have hq : wrap64 ((xx : Int) / 16) = ((xx / 16 : Nat) : Int) := by rw [IntWalk.wrap64_in _ (by omega)]; simp
        have hrel : ByteArray.mk U.toArray ++ ByteArray.mk acc.toArray = ByteArray.mk (c :: acc).toArray := by rw [cat_ba, hU]; rfl
        have HZ := Lib.hid (And.intro hb (And.intro hdg (And.intro hrel hg))); clear hb hdg hU hg hd hc hrel
        go_wp2_with fail
        go_roundg (8 - (c :: acc).length)
        case measure => have := HZ.out.2.2.2; have := HZ.out.2.1.len; simp only [List.length_cons] at *; omega
        case rel => exact ⟨HZ.out.1.alloc HZ.out.1.size _, c :: acc, xx / 16, HZ.out.2.1, by rw [HZ.out.2.2.1], rfl, rfl⟩
      · obtain rfl : xx = 0 := by omega
        by_cases hne : acc = []
        · subst hne
          have hdg := hd.next (by omega) hk' (Or.inr rfl)
          have hu := dig_at 0 (by omega)
          rw [show 0 % 16 = 0 from rfl] at hdg
          obtain ⟨c, hc⟩ : ∃ c, c = digB 0 := ⟨_, rfl⟩
          rw [← hc] at hu hdg
          obtain ⟨U, hU⟩ : ∃ U : Bytes, U = [c] := ⟨_, rfl⟩
          have cv := back_1 wr U (c.toNat : Int) c.toNat rfl c.toNat_lt (by rw [hU]; simp)
          have hUl : U.length = 1 := by rw [hU]; rfl
          have hrel : ByteArray.mk U.toArray ++ ByteArray.mk #[] = ByteArray.mk [c].toArray := by rw [hU]; apply ByteArray.ext; simp
          have HZ := Lib.hid (And.intro hb (And.intro hdg (And.intro hrel hg))); clear hb hdg hU hg hd hc hrel
          go_wp2_with fail
          go_roundg 7
          case measure => have := HZ.out.2.2.2; simp at this; omega
          case rel => exact ⟨HZ.out.1.alloc HZ.out.1.size _, [c], 0, HZ.out.2.1, by rw [HZ.out.2.2.1], rfl, rfl⟩
        · have hie : acc.isEmpty = false := by simpa using hne
          have hun := fun W hW => num_un true k acc (ByteArray.mk #[38, 35] ++ (ByteArray.mk #[120] ++ ByteArray.mk acc.toArray) ++ ByteArray.mk #[59]) hd hne (by simp) W hW
          have HZ := Lib.hid hb; clear hb hd hg hne
          cases hsg : signB k with
          | true =>
            obtain ⟨V, hV⟩ : ∃ V, V = utf k := ⟨_, rfl⟩
            rw [hsg, if_pos rfl, ← hV, show unV (V, 0, 0) = .tuple #[.string ⟨V.toArray⟩, .int .i64 0, .int .i64 0] from rfl] at hun
            have henc := (utf_enc k).symm
            rw [← hV, ← KN.out] at henc
            have hVe : V.isEmpty = false := by rw [hV]; simpa using utf_ne k hsg
            have hgd := fun W hW => good_c ⟨V.toArray⟩ W hW (by show (List.toArray V).size ≤ _; have := utf_len k hsg; rw [← hV] at this; simp; omega)
            rw [show decide (bad (ByteArray.mk V.toArray).data.toList = none) = true from by have := bad_utf k hsg; rw [← hV] at this; simpa using this] at hgd
            have hrs := fun W => rsign_b k true hsg W
            rw [← KN.out] at hrs
            have HC := Lib.hid (And.intro hun (And.intro hgd hrs)); clear hun hgd hsg hV hrs
            go_wp2_with (first
              | (go_at_call 25; refine (HC.out.1 _ (HW.out.below HZ.out)).mono ?_; rintro e w2 ⟨rfl, b2'⟩; have b2 := HZ.out.trans (b2'.mono HZ.out.size); clear b2')
              | (go_at_call 16; refine (awake_c _ (HW.out.below b2)).mono ?_; rintro e w3 ⟨rfl, b3'⟩; have b3 := b2.trans (b3'.mono b2.size); clear b3')
              | (go_at_call 27; refine (HC.out.2.2 _).mono ?_; rintro e w4 ⟨rfl, rfl⟩)
              | (go_at_call 19; refine (HC.out.2.1 _ (HW.out.below b3)).mono ?_; rintro e w5 ⟨rfl, b5'⟩; have b5 := b3.trans (b5'.mono b3.size); clear b5'))
            go_ret
            exact ⟨rfl, b5⟩
          | false =>
            rw [hsg, if_neg (by simp), show unV ([], 0, 7) = .tuple #[.string ⟨#[]⟩, .int .i64 0, .int .i64 7] from rfl] at hun
            have hrs := fun W => rsign_b k false hsg W
            rw [← KN.out] at hrs
            have HC := Lib.hid (And.intro hun hrs); clear hun hsg hrs
            go_wp2_with (first
              | (go_at_call 25; refine (HC.out.1 _ (HW.out.below HZ.out)).mono ?_; rintro e w2 ⟨rfl, b2'⟩; have b2 := HZ.out.trans (b2'.mono HZ.out.size); clear b2')
              | (go_at_call 16; refine (awake_c _ (HW.out.below b2)).mono ?_; rintro e w3 ⟨rfl, b3'⟩; have b3 := b2.trans (b3'.mono b2.size); clear b3')
              | (go_at_call 27; refine (HC.out.2 _).mono ?_; rintro e w4 ⟨rfl, rfl⟩))
            go_ret
            exact ⟨rfl, b3⟩
end Go.Proofs.YtcicibeggkmlcaaGreatDoor
