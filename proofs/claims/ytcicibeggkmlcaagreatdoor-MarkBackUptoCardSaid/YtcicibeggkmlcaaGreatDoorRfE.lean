/- The walk of the reference of chars: entity. Conditions: the text is shorter than 2^31 bytes. -/
import Derived.Test.YtcicibeggkmlcaaGreatDoorRfD
namespace Go.Proofs.YtcicibeggkmlcaaGreatDoor
open Go.RowKit Go.Sof

/-- what the loop of entity has: so many digits are read. -/
structure NumTo (base : Nat) (u : Bytes) (j : Nat) : Prop where
  dig : ∀ c ∈ u.take j, hexV c.toNat < base
theorem NumTo.start (base : Nat) (u : Bytes) : NumTo base u 0 := ⟨by simp⟩
theorem NumTo.next {base : Nat} {u : Bytes} {j : Nat} (h : NumTo base u j) (hj : j < u.length) (hc : hexV (u.getD j 0).toNat < base) : NumTo base u (j + 1) := by
  refine ⟨fun c hcm => ?_⟩
  rw [List.take_succ_eq_append_getElem hj, List.mem_append] at hcm
  rcases hcm with hcm | hcm
  · exact h.dig c hcm
  · rw [List.getD_eq_getElem?_getD, List.getElem?_eq_getElem hj] at hc
    simp only [List.mem_singleton] at hcm
    subst hcm; exact hc
theorem NumTo.no {base : Nat} {u : Bytes} {j : Nat} (hj : j < u.length) (hc : ¬ hexV (u.getD j 0).toNat < base) : numE base u = none := by
  refine numE_none _ _ (Or.inr (Or.inr fun h => hc ?_))
  rw [List.getD_eq_getElem?_getD, List.getElem?_eq_getElem hj]
  exact h _ (List.getElem_mem hj)
theorem NumTo.full {base : Nat} {u : Bytes} (h : NumTo base u u.length) (h1 : u ≠ []) (h2 : u.length ≤ 8) : numE base u = if signB (numV base u) then some (utf (numV base u)) else none := by
  refine numE_some _ _ h1 h2 fun c hc => h.dig c ?_
  rw [List.take_length]; exact hc
theorem drop_getD (l : Bytes) (a j : Nat) : (l.drop a).getD j 0 = l.getD (a + j) 0 := by
  simp only [List.getD_eq_getElem?_getD, List.getElem?_drop]

theorem rsign_b (r : Nat) (b : Bool) (hb : signB r = b) (w : World) : Calls Tryz.prog 27 #[.int .i64 r] w fun e w' => e = .returned (.bool b) ∧ w = w' := by
  subst hb; exact rsign_c r w

theorem rent_none : entV none = .tuple #[.string ⟨#[]⟩, .bool false] := rfl
theorem rent_some (t : Bytes) : entV (some t) = .tuple #[.string ⟨t.toArray⟩, .bool true] := rfl

set_option maxRecDepth 1000000 in
set_option maxHeartbeats 8000000 in
theorem rent_10 (s : ByteArray) (w : World) (hs : s.size ≤ 2147483648) (k1 : (s.toList == [97, 109, 112]) = false) (k2 : (s.toList == [108, 116]) = false) (k3 : (s.toList == [103, 116]) = false)
    (k4 : (s.toList == [113, 117, 111, 116]) = false) (k5 : (s.toList == [97, 112, 111, 115]) = false) (h0 : 1 < s.size) (hc0 : s[0] = 35) (hc1 : s[1] ≠ 120) (ne : s.toList.isEmpty = false) :
    Calls Tryz.prog 53 #[.string s] w fun e w' => e = .returned (entV (numE 10 (s.data.toList.drop 1))) ∧ Below w.heap.size w w' := by
  obtain ⟨E, hE⟩ : ∃ E, E = numE 10 (s.data.toList.drop 1) := ⟨_, rfl⟩
  rw [← hE]
  have hul : (s.data.toList.drop 1).length = s.size - 1 := by rw [List.length_drop, size_list]
  have n120 := ne_u8 (s[1]) 120 120 rfl hc1
  by_cases hz : s.size = 1
  · have e0 : E = none := by rw [hE]; exact numE_none _ _ (Or.inl (List.eq_nil_of_length_eq_zero (by omega)))
    clear hE; subst e0
    rw [rent_none]
    go_enter Tryz.func53, Tryz.ntmps53
    go_wp2_with fail
    go_ret2
    exact ⟨rfl, Below.refl _ _⟩
  by_cases h8 : 1 + 8 < s.size
  · have e0 : E = none := by rw [hE]; exact numE_none _ _ (Or.inr (Or.inl (by omega)))
    clear hE; subst e0
    rw [rent_none]
    have h8' : decide (8 < (s.size : Int) - 1) = true := by simp; omega
    have hz' : decide ((s.size : Int) ≤ 1) = false := by simp; omega
    go_enter Tryz.func53, Tryz.ntmps53
    go_wp2_with fail
    go_ret2
    exact ⟨rfl, Below.refl _ _⟩
  have HE := Lib.hid hE; clear hE
  have h8' : decide (8 < (s.size : Int) - 1) = false := by simp; omega
  have hz' : decide ((s.size : Int) ≤ 1) = false := by simp; omega
  go_enter Tryz.func53, Tryz.ntmps53
  go_wp2_with fail
  go_loopg [6, 7] (s.size - 1) (fun g n i wr => w = wr ∧ ∃ j : Nat, 1 + j ≤ s.size ∧ g = s.size - 1 - j ∧ i = .int .i64 (1 + (j : Int)) ∧ n = .int .i64 (numV 10 ((s.data.toList.drop 1).take j)) ∧ NumTo 10 (s.data.toList.drop 1) j)
  case atStart => exact ⟨rfl, 0, by omega, by omega, rfl, rfl, NumTo.start _ _⟩
  case round =>
    obtain ⟨rfl, j, hj, hg, rfl, rfl, hn⟩ := hrel
    have hbound := numV_small 10 (by omega) _ hn.dig (by rw [List.length_take]; omega)
    have HG := Lib.hid (And.intro hg hn); clear hg
    by_cases hlt : 1 + j < s.size
    · have hget := getD_at s (1 + j) hlt
      rw [← drop_getD] at hget
      have htk := numV_take 10 (s.data.toList.drop 1) j (by omega)
      have hnx := hn.next (by omega : j < (s.data.toList.drop 1).length)
      have hno := NumTo.no (base := 10) (by omega : j < (s.data.toList.drop 1).length)
      rw [hget] at htk hnx hno
      obtain ⟨c, hc⟩ : ∃ c, s[1 + j]'hlt = c := ⟨_, rfl⟩
      rw [hc] at htk hnx hno hget
      have hi : ((1 : Int) + (j : Int)).toNat = 1 + j := by omega
      rw [← HE.out] at hno
      have HX := Lib.hid (And.intro htk (And.intro hnx hno)); clear htk hnx hno hn hget
      generalize numV 10 ((s.data.toList.drop 1).take j) = V at *
      by_cases d1 : 48 ≤ c.toNat ∧ c.toNat ≤ 57
      · have hv : hexV c.toNat = c.toNat - 48 := by unfold hexV; rw [if_pos d1]
        have HV := Lib.hid hv; clear hv
        obtain ⟨d1, d2⟩ := d1
        have sb : ((c.toNat : Int) - 48) % 256 = (c.toNat : Int) - 48 := by omega
        go_wp2_with fail
        go_roundg (s.size - 1 - (j + 1))
        case measure => have := HG.out.1; omega
        case rel => exact ⟨rfl, j + 1, by omega, rfl, by go_num, by rw [HX.out.1, HV.out]; go_num, HX.out.2.1 (by rw [HV.out]; omega)⟩
      by_cases d2 : 97 ≤ c.toNat ∧ c.toNat ≤ 102
      · have hv : hexV c.toNat = c.toNat - 97 + 10 := by unfold hexV; rw [if_neg d1, if_pos d2]
        have HV := Lib.hid hv; clear hv
        have sb : ((c.toNat : Int) - 97) % 256 = (c.toNat : Int) - 97 := by omega
        have f48 : decide (48 ≤ (c.toNat : Int)) = true := by simp; omega
        have f57 : decide ((c.toNat : Int) ≤ 57) = false := by simp; omega
        have f97 : decide (97 ≤ (c.toNat : Int)) = true := by simp; omega
        have f102 : decide ((c.toNat : Int) ≤ 102) = true := by simp; omega
        obtain ⟨d2, d3⟩ := d2
        clear d1
        have e0 : E = none := HX.out.2.2 (by rw [HV.out]; omega)
        clear HE; subst e0
        go_wp2_with fail
        go_ret2
        exact ⟨rfl, Below.refl _ _⟩
      by_cases d4 : 65 ≤ c.toNat ∧ c.toNat ≤ 70
      · have hv : hexV c.toNat = c.toNat - 65 + 10 := by unfold hexV; rw [if_neg d1, if_neg d2, if_pos d4]
        have HV := Lib.hid hv; clear hv
        have sb : ((c.toNat : Int) - 65) % 256 = (c.toNat : Int) - 65 := by omega
        have f48 : decide (48 ≤ (c.toNat : Int)) = true := by simp; omega
        have f57 : decide ((c.toNat : Int) ≤ 57) = false := by simp; omega
        have f97 : decide (97 ≤ (c.toNat : Int)) = false := by simp; omega
        have f65 : decide (65 ≤ (c.toNat : Int)) = true := by simp; omega
        have f70 : decide ((c.toNat : Int) ≤ 70) = true := by simp; omega
        obtain ⟨d4, d5⟩ := d4
        clear d1 d2
        have e0 : E = none := HX.out.2.2 (by rw [HV.out]; omega)
        clear HE; subst e0
        go_wp2_with fail
        go_ret2
        exact ⟨rfl, Below.refl _ _⟩
      have hv : hexV c.toNat = 99 := by unfold hexV; rw [if_neg d1, if_neg d2, if_neg d4]
      have e0 : E = none := HX.out.2.2 (by rw [hv]; omega)
      clear HE; subst e0
      clear hv
      by_cases e0 : c.toNat < 48
      · have f48 : decide (48 ≤ (c.toNat : Int)) = false := by simp; omega
        have f97 : decide (97 ≤ (c.toNat : Int)) = false := by simp; omega
        have f65 : decide (65 ≤ (c.toNat : Int)) = false := by simp; omega
        clear d1 d2 d4
        go_wp2_with fail
        go_ret2
        exact ⟨rfl, Below.refl _ _⟩
      by_cases e1 : c.toNat < 65
      · have f48 : decide (48 ≤ (c.toNat : Int)) = true := by simp; omega
        have f57 : decide ((c.toNat : Int) ≤ 57) = false := by simp; omega
        have f97 : decide (97 ≤ (c.toNat : Int)) = false := by simp; omega
        have f65 : decide (65 ≤ (c.toNat : Int)) = false := by simp; omega
        clear d1 d2 d4
        go_wp2_with fail
        go_ret2
        exact ⟨rfl, Below.refl _ _⟩
      by_cases e2 : c.toNat < 97
      · have f48 : decide (48 ≤ (c.toNat : Int)) = true := by simp; omega
        have f57 : decide ((c.toNat : Int) ≤ 57) = false := by simp; omega
        have f97 : decide (97 ≤ (c.toNat : Int)) = false := by simp; omega
        have f65 : decide (65 ≤ (c.toNat : Int)) = true := by simp; omega
        have f70 : decide ((c.toNat : Int) ≤ 70) = false := by simp; omega
        clear d1 d2 d4
        go_wp2_with fail
        go_ret2
        exact ⟨rfl, Below.refl _ _⟩
      have f48 : decide (48 ≤ (c.toNat : Int)) = true := by simp; omega
      have f57 : decide ((c.toNat : Int) ≤ 57) = false := by simp; omega
      have f97 : decide (97 ≤ (c.toNat : Int)) = true := by simp; omega
      have f102 : decide ((c.toNat : Int) ≤ 102) = false := by simp; omega
      have f65 : decide (65 ≤ (c.toNat : Int)) = true := by simp; omega
      have f70 : decide ((c.toNat : Int) ≤ 70) = false := by simp; omega
      clear d1 d2 d4
      go_wp2_with fail
      go_ret2
      exact ⟨rfl, Below.refl _ _⟩
    · obtain rfl : j = s.size - 1 := by omega
      have hr : E = if signB (numV 10 (s.data.toList.drop 1)) then some (utf (numV 10 (s.data.toList.drop 1))) else none := by
        rw [HE.out]; exact NumTo.full (by rw [hul]; exact hn) (fun e => by rw [e] at hul; simp at hul; omega) (by omega)
      rw [List.take_of_length_le (by omega)] at hbound ⊢
      clear HE hn HG
      generalize numV 10 (s.data.toList.drop 1) = V at *
      cases hsg : signB V with
      | false =>
        rw [hsg] at hr
        have e0 : E = none := hr
        clear hr; subst e0
        go_wp2_with (first | (go_at_call 27; refine (rsign_b V false hsg _).mono ?_; rintro e w' ⟨rfl, rfl⟩))
        go_ret2
        exact ⟨rfl, Below.refl _ _⟩
      | true =>
        rw [hsg] at hr
        have e0 : E = some (utf V) := hr
        clear hr
        have hu := fun W => rutf_c V hsg W
        generalize utf V = U at e0 hu
        subst e0
        have HU := Lib.hid hu; clear hu
        go_wp2_with (first | (go_at_call 27; refine (rsign_b V true hsg _).mono ?_; rintro e w' ⟨rfl, rfl⟩) | (go_at_call 79; refine (HU.out _).mono ?_; rintro e w' ⟨rfl, hb2⟩))
        go_ret2
        exact ⟨rfl, hb2⟩

set_option maxRecDepth 1000000 in
set_option maxHeartbeats 8000000 in
theorem rent_16 (s : ByteArray) (w : World) (hs : s.size ≤ 2147483648) (k1 : (s.toList == [97, 109, 112]) = false) (k2 : (s.toList == [108, 116]) = false) (k3 : (s.toList == [103, 116]) = false)
    (k4 : (s.toList == [113, 117, 111, 116]) = false) (k5 : (s.toList == [97, 112, 111, 115]) = false) (h0 : 1 < s.size) (hc0 : s[0] = 35) (hc1 : s[1] = 120) (ne : s.toList.isEmpty = false) :
    Calls Tryz.prog 53 #[.string s] w fun e w' => e = .returned (entV (numE 16 (s.data.toList.drop 2))) ∧ Below w.heap.size w w' := by
  obtain ⟨E, hE⟩ : ∃ E, E = numE 16 (s.data.toList.drop 2) := ⟨_, rfl⟩
  rw [← hE]
  have hul : (s.data.toList.drop 2).length = s.size - 2 := by rw [List.length_drop, size_list]
  skip
  by_cases hz : s.size = 2
  · have e0 : E = none := by rw [hE]; exact numE_none _ _ (Or.inl (List.eq_nil_of_length_eq_zero (by omega)))
    clear hE; subst e0
    rw [rent_none]
    go_enter Tryz.func53, Tryz.ntmps53
    go_wp2_with fail
    go_ret2
    exact ⟨rfl, Below.refl _ _⟩
  by_cases h8 : 2 + 8 < s.size
  · have e0 : E = none := by rw [hE]; exact numE_none _ _ (Or.inr (Or.inl (by omega)))
    clear hE; subst e0
    rw [rent_none]
    have h8' : decide (8 < (s.size : Int) - 2) = true := by simp; omega
    have hz' : decide ((s.size : Int) ≤ 2) = false := by simp; omega
    go_enter Tryz.func53, Tryz.ntmps53
    go_wp2_with fail
    go_ret2
    exact ⟨rfl, Below.refl _ _⟩
  have HE := Lib.hid hE; clear hE
  have h8' : decide (8 < (s.size : Int) - 2) = false := by simp; omega
  have hz' : decide ((s.size : Int) ≤ 2) = false := by simp; omega
  go_enter Tryz.func53, Tryz.ntmps53
  go_wp2_with fail
  go_loopg [6, 7] (s.size - 2) (fun g n i wr => w = wr ∧ ∃ j : Nat, 2 + j ≤ s.size ∧ g = s.size - 2 - j ∧ i = .int .i64 (2 + (j : Int)) ∧ n = .int .i64 (numV 16 ((s.data.toList.drop 2).take j)) ∧ NumTo 16 (s.data.toList.drop 2) j)
  case atStart => exact ⟨rfl, 0, by omega, by omega, rfl, rfl, NumTo.start _ _⟩
  case round =>
    obtain ⟨rfl, j, hj, hg, rfl, rfl, hn⟩ := hrel
    have hbound := numV_small 16 (by omega) _ hn.dig (by rw [List.length_take]; omega)
    have HG := Lib.hid (And.intro hg hn); clear hg
    by_cases hlt : 2 + j < s.size
    · have hget := getD_at s (2 + j) hlt
      rw [← drop_getD] at hget
      have htk := numV_take 16 (s.data.toList.drop 2) j (by omega)
      have hnx := hn.next (by omega : j < (s.data.toList.drop 2).length)
      have hno := NumTo.no (base := 16) (by omega : j < (s.data.toList.drop 2).length)
      rw [hget] at htk hnx hno
      obtain ⟨c, hc⟩ : ∃ c, s[2 + j]'hlt = c := ⟨_, rfl⟩
      rw [hc] at htk hnx hno hget
      have hi : ((2 : Int) + (j : Int)).toNat = 2 + j := by omega
      rw [← HE.out] at hno
      have HX := Lib.hid (And.intro htk (And.intro hnx hno)); clear htk hnx hno hn hget
      generalize numV 16 ((s.data.toList.drop 2).take j) = V at *
      by_cases d1 : 48 ≤ c.toNat ∧ c.toNat ≤ 57
      · have hv : hexV c.toNat = c.toNat - 48 := by unfold hexV; rw [if_pos d1]
        have HV := Lib.hid hv; clear hv
        obtain ⟨d1, d2⟩ := d1
        have sb : ((c.toNat : Int) - 48) % 256 = (c.toNat : Int) - 48 := by omega
        go_wp2_with fail
        go_roundg (s.size - 2 - (j + 1))
        case measure => have := HG.out.1; omega
        case rel => exact ⟨rfl, j + 1, by omega, rfl, by go_num, by rw [HX.out.1, HV.out]; go_num, HX.out.2.1 (by rw [HV.out]; omega)⟩
      by_cases d2 : 97 ≤ c.toNat ∧ c.toNat ≤ 102
      · have hv : hexV c.toNat = c.toNat - 97 + 10 := by unfold hexV; rw [if_neg d1, if_pos d2]
        have HV := Lib.hid hv; clear hv
        have sb : ((c.toNat : Int) - 97) % 256 = (c.toNat : Int) - 97 := by omega
        have f48 : decide (48 ≤ (c.toNat : Int)) = true := by simp; omega
        have f57 : decide ((c.toNat : Int) ≤ 57) = false := by simp; omega
        have f97 : decide (97 ≤ (c.toNat : Int)) = true := by simp; omega
        have f102 : decide ((c.toNat : Int) ≤ 102) = true := by simp; omega
        obtain ⟨d2, d3⟩ := d2
        clear d1
        go_wp2_with fail
        go_roundg (s.size - 2 - (j + 1))
        case measure => have := HG.out.1; omega
        case rel => exact ⟨rfl, j + 1, by omega, rfl, by go_num, by rw [HX.out.1, HV.out]; go_num, HX.out.2.1 (by rw [HV.out]; omega)⟩
      by_cases d4 : 65 ≤ c.toNat ∧ c.toNat ≤ 70
      · have hv : hexV c.toNat = c.toNat - 65 + 10 := by unfold hexV; rw [if_neg d1, if_neg d2, if_pos d4]
        have HV := Lib.hid hv; clear hv
        have sb : ((c.toNat : Int) - 65) % 256 = (c.toNat : Int) - 65 := by omega
        have f48 : decide (48 ≤ (c.toNat : Int)) = true := by simp; omega
        have f57 : decide ((c.toNat : Int) ≤ 57) = false := by simp; omega
        have f97 : decide (97 ≤ (c.toNat : Int)) = false := by simp; omega
        have f65 : decide (65 ≤ (c.toNat : Int)) = true := by simp; omega
        have f70 : decide ((c.toNat : Int) ≤ 70) = true := by simp; omega
        obtain ⟨d4, d5⟩ := d4
        clear d1 d2
        go_wp2_with fail
        go_roundg (s.size - 2 - (j + 1))
        case measure => have := HG.out.1; omega
        case rel => exact ⟨rfl, j + 1, by omega, rfl, by go_num, by rw [HX.out.1, HV.out]; go_num, HX.out.2.1 (by rw [HV.out]; omega)⟩
      have hv : hexV c.toNat = 99 := by unfold hexV; rw [if_neg d1, if_neg d2, if_neg d4]
      have e0 : E = none := HX.out.2.2 (by rw [hv]; omega)
      clear HE; subst e0
      clear hv
      by_cases e0 : c.toNat < 48
      · have f48 : decide (48 ≤ (c.toNat : Int)) = false := by simp; omega
        have f97 : decide (97 ≤ (c.toNat : Int)) = false := by simp; omega
        have f65 : decide (65 ≤ (c.toNat : Int)) = false := by simp; omega
        clear d1 d2 d4
        go_wp2_with fail
        go_ret2
        exact ⟨rfl, Below.refl _ _⟩
      by_cases e1 : c.toNat < 65
      · have f48 : decide (48 ≤ (c.toNat : Int)) = true := by simp; omega
        have f57 : decide ((c.toNat : Int) ≤ 57) = false := by simp; omega
        have f97 : decide (97 ≤ (c.toNat : Int)) = false := by simp; omega
        have f65 : decide (65 ≤ (c.toNat : Int)) = false := by simp; omega
        clear d1 d2 d4
        go_wp2_with fail
        go_ret2
        exact ⟨rfl, Below.refl _ _⟩
      by_cases e2 : c.toNat < 97
      · have f48 : decide (48 ≤ (c.toNat : Int)) = true := by simp; omega
        have f57 : decide ((c.toNat : Int) ≤ 57) = false := by simp; omega
        have f97 : decide (97 ≤ (c.toNat : Int)) = false := by simp; omega
        have f65 : decide (65 ≤ (c.toNat : Int)) = true := by simp; omega
        have f70 : decide ((c.toNat : Int) ≤ 70) = false := by simp; omega
        clear d1 d2 d4
        go_wp2_with fail
        go_ret2
        exact ⟨rfl, Below.refl _ _⟩
      have f48 : decide (48 ≤ (c.toNat : Int)) = true := by simp; omega
      have f57 : decide ((c.toNat : Int) ≤ 57) = false := by simp; omega
      have f97 : decide (97 ≤ (c.toNat : Int)) = true := by simp; omega
      have f102 : decide ((c.toNat : Int) ≤ 102) = false := by simp; omega
      have f65 : decide (65 ≤ (c.toNat : Int)) = true := by simp; omega
      have f70 : decide ((c.toNat : Int) ≤ 70) = false := by simp; omega
      clear d1 d2 d4
      go_wp2_with fail
      go_ret2
      exact ⟨rfl, Below.refl _ _⟩
    · obtain rfl : j = s.size - 2 := by omega
      have hr : E = if signB (numV 16 (s.data.toList.drop 2)) then some (utf (numV 16 (s.data.toList.drop 2))) else none := by
        rw [HE.out]; exact NumTo.full (by rw [hul]; exact hn) (fun e => by rw [e] at hul; simp at hul; omega) (by omega)
      rw [List.take_of_length_le (by omega)] at hbound ⊢
      clear HE hn HG
      generalize numV 16 (s.data.toList.drop 2) = V at *
      cases hsg : signB V with
      | false =>
        rw [hsg] at hr
        have e0 : E = none := hr
        clear hr; subst e0
        go_wp2_with (first | (go_at_call 27; refine (rsign_b V false hsg _).mono ?_; rintro e w' ⟨rfl, rfl⟩))
        go_ret2
        exact ⟨rfl, Below.refl _ _⟩
      | true =>
        rw [hsg] at hr
        have e0 : E = some (utf V) := hr
        clear hr
        have hu := fun W => rutf_c V hsg W
        generalize utf V = U at e0 hu
        subst e0
        have HU := Lib.hid hu; clear hu
        go_wp2_with (first | (go_at_call 27; refine (rsign_b V true hsg _).mono ?_; rintro e w' ⟨rfl, rfl⟩) | (go_at_call 79; refine (HU.out _).mono ?_; rintro e w' ⟨rfl, hb2⟩))
        go_ret2
        exact ⟨rfl, hb2⟩
end Go.Proofs.YtcicibeggkmlcaaGreatDoor
