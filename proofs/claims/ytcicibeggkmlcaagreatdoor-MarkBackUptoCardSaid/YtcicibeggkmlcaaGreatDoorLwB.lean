/- The walks of the laws of chars: CharsBack, CharsParts. Conditions: the tables lie as they are laid; the texts have at most 2^28 bytes. -/
import Derived.Test.YtcicibeggkmlcaaGreatDoorLwA
namespace Go.Proofs.YtcicibeggkmlcaaGreatDoor
open Go.RowKit Go.Sof

theorem unR_escL (l : Bytes) (h : bad l = none) : unR (escL l) = (l, 0, 0) := by unfold unR; rw [un_escL l h]

set_option maxRecDepth 1000000 in
set_option maxHeartbeats 4000000 in
theorem lback_c (s : ByteArray) (w : World) (h : WOK w) (hs : s.size ≤ 268435456) : Calls Tryz.prog 6 #[.string s] w fun e w' => e = .returned (.bool true) ∧ Below w.heap.size w w' := by
  have c1 := fun W hW => escape_c s W hW (by omega)
  have c3 := fun W hW => good_c s W hW (by omega)
  by_cases hg : bad s.data.toList = none
  · have hr : escR s.data.toList = (escL s.data.toList, 0) := by unfold escR; rw [if_pos hg]
    have hun := unR_escL _ hg
    have hcl := escL_clean _ hg
    have hle := escL_le s.data.toList
    rw [size_list] at hle
    have c2 := fun W hW => unescape_c ⟨(escL s.data.toList).toArray⟩ W hW (by show (escL s.data.toList).toArray.size ≤ _; rw [List.size_toArray]; omega)
    rw [show (ByteArray.mk (escL s.data.toList).toArray).data.toList = escL s.data.toList from rfl, hun, show unV (s.data.toList, 0, 0) = .tuple #[.string ⟨s.data.toList.toArray⟩, .int .i64 0, .int .i64 0] from rfl, ba_eta s] at c2
    rw [hr, show escV (escL s.data.toList, 0) = .tuple #[.string ⟨(escL s.data.toList).toArray⟩, .int .i64 0] from rfl] at c1
    clear hun hr c3 hg
    have hTl : (ByteArray.mk (escL s.data.toList).toArray).data.toList = escL s.data.toList := rfl
    rw [← hTl] at hcl hle
    generalize ByteArray.mk (escL s.data.toList).toArray = T at *
    have hTs : T.size ≤ 1610612736 := by rw [size_list] at hle; omega
    have HC := Lib.hid (And.intro c1 (And.intro c2 hcl))
    clear c1 c2 hcl hTl hle
    have HW := Lib.hid h; clear h
    go_enter Tryz.func6, Tryz.ntmps6
    go_wp2_with (first
      | (go_at_call 23; refine (HC.out.1 _ HW.out).mono ?_; rintro e w1 ⟨rfl, b1⟩)
      | (go_at_call 16; refine (awake_c _ (HW.out.below b1)).mono ?_; rintro e w2 ⟨rfl, b2'⟩; have b2 := b1.trans (b2'.mono b1.size); clear b2')
      | (go_at_call 25; refine (HC.out.2.1 _ (HW.out.below b2)).mono ?_; rintro e w3 ⟨rfl, b3'⟩; have b3 := b2.trans (b3'.mono b2.size); clear b3'))
    go_loopg [8] T.size (fun g i wr => w3 = wr ∧ ∃ k : Nat, k ≤ T.size ∧ g = T.size - k ∧ i = .int .i64 k)
    case atStart => exact ⟨rfl, 0, Nat.zero_le _, rfl, rfl⟩
    case round =>
      obtain ⟨rfl, k, hk, hg, rfl⟩ := hrel
      have HG := Lib.hid hg; clear hg
      by_cases hlt : k < T.size
      · have hx := HC.out.2.2 (T[k]'hlt) (by
          have h' : k < T.data.toList.length := hlt
          have := List.getElem_mem h'
          exact this)
        obtain ⟨c, hc⟩ : ∃ c, T[k]'hlt = c := ⟨_, rfl⟩
        rw [hc] at hx
        have n1 := ne_u8 c 60 60 rfl hx.1
        have n2 := ne_u8 c 62 62 rfl hx.2.1
        have n3 := ne_u8 c 34 34 rfl hx.2.2.1
        have n4 := ne_u8 c 39 39 rfl hx.2.2.2.1
        have n5 : decide ((c.toNat : Int) < 32) = false := by have := hx.2.2.2.2; simp; omega
        clear hx
        go_wp2_with fail
        go_roundg (T.size - (k + 1))
        case measure => have := HG.out; omega
        case rel => exact ⟨rfl, k + 1, by omega, rfl, by go_num⟩
      · obtain rfl : k = T.size := by omega
        go_wp2_with fail
        go_ret
        exact ⟨rfl, b3⟩
  · have hr : escR s.data.toList = ([], 6) := by unfold escR; rw [if_neg hg]
    rw [hr, show escV ([], 6) = .tuple #[.string ⟨#[]⟩, .int .i64 6] from rfl] at c1
    have hgf : decide (bad s.data.toList = none) = false := by simpa using hg
    rw [hgf] at c3
    clear hr hg hgf
    have HC := Lib.hid (And.intro c1 c3)
    clear c1 c3
    have HW := Lib.hid h; clear h
    go_enter Tryz.func6, Tryz.ntmps6
    go_wp2_with (first
      | (go_at_call 23; refine (HC.out.1 _ HW.out).mono ?_; rintro e w1 ⟨rfl, b1⟩)
      | (go_at_call 16; first | (have b3' := b2; clear b3'; refine (awake_c _ (HW.out.below b2)).mono ?_; rintro e w3 ⟨rfl, b3'⟩; have b3 := b2.trans (b3'.mono b2.size); clear b3') | (refine (awake_c _ (HW.out.below b1)).mono ?_; rintro e w2 ⟨rfl, b2'⟩; have b2 := b1.trans (b2'.mono b1.size); clear b2'))
      | (go_at_call 19; refine (HC.out.2 _ (HW.out.below b3)).mono ?_; rintro e w4 ⟨rfl, b4'⟩; have b4 := b3.trans (b4'.mono b3.size); clear b4'))
    go_ret
    exact ⟨rfl, b4⟩

theorem append_list (a b : ByteArray) : (a ++ b).data.toList = a.data.toList ++ b.data.toList := by simp
theorem append_size (a b : ByteArray) : (a ++ b).size = a.size + b.size := by simp

set_option maxRecDepth 1000000 in
set_option maxHeartbeats 4000000 in
theorem lparts_c (a b : ByteArray) (w : World) (h : WOK w) (hs : a.size + b.size ≤ 268435456) : Calls Tryz.prog 7 #[.string a, .string b] w fun e w' => e = .returned (.bool true) ∧ Below w.heap.size w w' := by
  have cg := fun W => rgood_c a W (by omega)
  have HW := Lib.hid h; clear h
  by_cases hg : bad a.data.toList = none
  · rw [show decide (bad a.data.toList = none) = true from by simpa using hg] at cg
    have hap := bad_append _ a.data.toList b.data.toList (Nat.le_refl _) hg
    have c1 := fun W hW => bad_c (a ++ b) W hW (by rw [append_size]; omega)
    have c2 := fun W hW => bad_c b W hW (by omega)
    have c3 := fun W hW => escape_c a W hW (by omega)
    have c4 := fun W hW => escape_c b W hW (by omega)
    have c5 := fun W hW => escape_c (a ++ b) W hW (by rw [append_size]; omega)
    rw [append_list] at c1 c5
    have e3 : escR a.data.toList = (escL a.data.toList, 0) := by unfold escR; rw [if_pos hg]
    rw [e3, show escV (escL a.data.toList, 0) = .tuple #[.string ⟨(escL a.data.toList).toArray⟩, .int .i64 0] from rfl] at c3
    cases hb : bad b.data.toList with
    | none =>
      rw [hb] at hap
      have hap' : bad (a.data.toList ++ b.data.toList) = none := hap
      have e1 : badI (a.data.toList ++ b.data.toList) = -1 := by unfold badI; rw [hap']
      have e2 : badI b.data.toList = -1 := by unfold badI; rw [hb]
      have e4 : escR b.data.toList = (escL b.data.toList, 0) := by unfold escR; rw [if_pos hb]
      have e5 : escR (a.data.toList ++ b.data.toList) = (escL a.data.toList ++ escL b.data.toList, 0) := by unfold escR; rw [if_pos hap', escL_append]
      rw [e1] at c1
      rw [e2] at c2
      rw [e4, show escV (escL b.data.toList, 0) = .tuple #[.string ⟨(escL b.data.toList).toArray⟩, .int .i64 0] from rfl] at c4
      rw [e5, show escV (escL a.data.toList ++ escL b.data.toList, 0) = .tuple #[.string ⟨(escL a.data.toList ++ escL b.data.toList).toArray⟩, .int .i64 0] from rfl, ← cat_ba] at c5
      have l1 := escL_le a.data.toList
      have l2 := escL_le b.data.toList
      rw [size_list] at l1 l2
      have s1 : (ByteArray.mk (escL a.data.toList).toArray).size = (escL a.data.toList).length := by show (List.toArray _).size = _; simp
      have s2 : (ByteArray.mk (escL b.data.toList).toArray).size = (escL b.data.toList).length := by show (List.toArray _).size = _; simp
      generalize ByteArray.mk (escL a.data.toList).toArray = X at *
      generalize ByteArray.mk (escL b.data.toList).toArray = Y at *
      have s1 : X.size ≤ 1610612736 := by omega
      have s2 : Y.size ≤ 1610612736 := by omega
      have HC := Lib.hid (And.intro cg (And.intro c1 (And.intro c2 (And.intro c3 (And.intro c4 c5)))))
      clear cg c1 c2 c3 c4 c5 e1 e2 e3 e4 e5 hap hap' hb hg l1 l2
      go_enter Tryz.func7, Tryz.ntmps7
      go_wp2_with (first
        | (go_at_call 16; refine (awake_c _ HW.out).mono ?_; rintro e w1 ⟨rfl, b1⟩)
        | (go_at_call 20; refine (HC.out.1 _).mono ?_; rintro e w' ⟨rfl, rfl⟩)
        | (go_at_call 17; first | (have b3' := b2; clear b3'; refine (HC.out.2.2.1 _ (HW.out.below b2)).mono ?_; rintro e w3 ⟨rfl, b3'⟩; have b3 := b2.trans (b3'.mono b2.size); clear b3') | (refine (HC.out.2.1 _ (HW.out.below b1)).mono ?_; rintro e w2 ⟨rfl, b2'⟩; have b2 := b1.trans (b2'.mono b1.size); clear b2'))
        | (go_at_call 23; first
          | (have b6' := b5; clear b6'; refine (HC.out.2.2.2.2.2 _ (HW.out.below b5)).mono ?_; rintro e w6 ⟨rfl, b6'⟩; have b6 := b5.trans (b6'.mono b5.size); clear b6')
          | (have b5' := b4; clear b5'; refine (HC.out.2.2.2.2.1 _ (HW.out.below b4)).mono ?_; rintro e w5 ⟨rfl, b5'⟩; have b5 := b4.trans (b5'.mono b4.size); clear b5')
          | (refine (HC.out.2.2.2.1 _ (HW.out.below b3)).mono ?_; rintro e w4 ⟨rfl, b4'⟩; have b4 := b3.trans (b4'.mono b3.size); clear b4')))
      go_ret
      exact ⟨rfl, b6⟩
    | some j =>
      rw [hb] at hap
      have hap' : bad (a.data.toList ++ b.data.toList) = some (j + a.data.toList.length) := hap
      have e1 : badI (a.data.toList ++ b.data.toList) = (a.size : Int) + (j : Int) := by unfold badI; rw [hap', size_list]; simp; omega
      have e2 : badI b.data.toList = (j : Int) := by unfold badI; rw [hb]
      have e4 : escR b.data.toList = ([], 6) := by unfold escR; rw [if_neg (by rw [hb]; simp)]
      have e5 : escR (a.data.toList ++ b.data.toList) = ([], 6) := by unfold escR; rw [if_neg (by rw [hap']; simp)]
      rw [e1] at c1
      rw [e2] at c2
      rw [e4, show escV ([], 6) = .tuple #[.string ⟨#[]⟩, .int .i64 6] from rfl] at c4
      rw [e5, show escV ([], 6) = .tuple #[.string ⟨#[]⟩, .int .i64 6] from rfl] at c5
      have hj := bad_lt _ b.data.toList (Nat.le_refl _) j hb
      rw [size_list] at hj
      generalize ByteArray.mk (escL a.data.toList).toArray = X at *
      have HC := Lib.hid (And.intro cg (And.intro c1 (And.intro c2 (And.intro c3 (And.intro c4 c5)))))
      clear cg c1 c2 c3 c4 c5 e1 e2 e3 e4 e5 hap hap' hb hg
      have n1 : decide ((a.size : Int) + (j : Int) < 0) = false := decide_eq_false (by omega)
      have n2 : decide ((j : Int) < 0) = false := decide_eq_false (by omega)
      have n3 : decide (0 ≤ (a.size : Int) + (j : Int)) = true := decide_eq_true (by omega)
      go_enter Tryz.func7, Tryz.ntmps7
      go_wp2_with (first
        | (go_at_call 16; refine (awake_c _ HW.out).mono ?_; rintro e w1 ⟨rfl, b1⟩)
        | (go_at_call 20; refine (HC.out.1 _).mono ?_; rintro e w' ⟨rfl, rfl⟩)
        | (go_at_call 17; first | (have b3' := b2; clear b3'; refine (HC.out.2.2.1 _ (HW.out.below b2)).mono ?_; rintro e w3 ⟨rfl, b3'⟩; have b3 := b2.trans (b3'.mono b2.size); clear b3') | (refine (HC.out.2.1 _ (HW.out.below b1)).mono ?_; rintro e w2 ⟨rfl, b2'⟩; have b2 := b1.trans (b2'.mono b1.size); clear b2'))
        | (go_at_call 23; first
          | (have b6' := b5; clear b6'; refine (HC.out.2.2.2.2.2 _ (HW.out.below b5)).mono ?_; rintro e w6 ⟨rfl, b6'⟩; have b6 := b5.trans (b6'.mono b5.size); clear b6')
          | (have b5' := b4; clear b5'; refine (HC.out.2.2.2.2.1 _ (HW.out.below b4)).mono ?_; rintro e w5 ⟨rfl, b5'⟩; have b5 := b4.trans (b5'.mono b4.size); clear b5')
          | (refine (HC.out.2.2.2.1 _ (HW.out.below b3)).mono ?_; rintro e w4 ⟨rfl, b4'⟩; have b4 := b3.trans (b4'.mono b3.size); clear b4')))
      go_ret
      exact ⟨rfl, b6⟩
  · rw [show decide (bad a.data.toList = none) = false from by simpa using hg] at cg
    have HC := Lib.hid cg; clear cg hg
    go_enter Tryz.func7, Tryz.ntmps7
    go_wp2_with (first
      | (go_at_call 16; first | (have b2' := b1; clear b2'; refine (awake_c _ (HW.out.below b1)).mono ?_; rintro e w2 ⟨rfl, b2'⟩; have b2 := b1.trans (b2'.mono b1.size); clear b2') | (refine (awake_c _ HW.out).mono ?_; rintro e w1 ⟨rfl, b1⟩))
      | (go_at_call 20; refine (HC.out _).mono ?_; rintro e w' ⟨rfl, rfl⟩))
    go_ret
    exact ⟨rfl, b2⟩
end Go.Proofs.YtcicibeggkmlcaaGreatDoor
