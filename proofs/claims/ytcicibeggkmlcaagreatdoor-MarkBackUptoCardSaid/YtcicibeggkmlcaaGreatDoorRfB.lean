/- The walks of the reference of chars: Bad, Good, Name, Escape. Conditions: each theorem's own premises. -/
import Derived.Test.YtcicibeggkmlcaaGreatDoorRfA
import Derived.Test.YtcicibeggkmlcaaGreatDoorChH
import Derived.Test.YtcicibeggkmlcaaGreatDoorRpD
namespace Go.Proofs.YtcicibeggkmlcaaGreatDoor
open Go.RowKit Go.Sof

set_option maxRecDepth 100000 in
theorem rbad_c (s : ByteArray) (w : World) (hs : s.size ≤ 4611686018427387904) :
    Calls Tryz.prog 18 #[.string s] w fun e w' => e = .returned (.int .i64 (badI s.data.toList)) ∧ w = w' := by
  obtain ⟨B, hB⟩ : ∃ B, B = badI s.data.toList := ⟨_, rfl⟩
  rw [← hB]
  have HB := Lib.hid hB; clear hB
  go_enter Tryz.func18, Tryz.ntmps18
  go_wp2_with fail
  go_loopg [3] s.size (fun g a wr => w = wr ∧ ∃ p : Nat, p ≤ s.size ∧ g = s.size - p ∧ a = .int .i64 p ∧ BadAt s.data.toList p)
  case atStart => exact ⟨rfl, 0, Nat.zero_le _, rfl, rfl, BadAt.start _⟩
  case round =>
    obtain ⟨rfl, p, hp, hg, rfl, hbad⟩ := hrel
    have HG := Lib.hid hg; clear hg
    by_cases hlt : p < s.size
    · have hne := drop_ne hlt
      have hcall := fun W => first_c (s.extract p s.size) W (by simp; omega)
      rw [Lib.extract_to_end] at hcall
      have hwid := firstL_wid _ hne
      have hle := wid_le _ hne
      rw [List.length_drop, size_list] at hle
      have hstep : wid (s.data.toList.drop p) ≠ 0 → BadAt s.data.toList (p + wid (s.data.toList.drop p)) := hbad.next hne
      have hhit : wid (s.data.toList.drop p) = 0 → badI s.data.toList = (p : Int) := hbad.hit hne
      rw [← hwid] at hle hstep hhit
      generalize firstL (s.data.toList.drop p) = F at *
      obtain ⟨R, K⟩ := F
      dsimp only at *
      have HC := Lib.hid (And.intro hcall (And.intro hstep hhit))
      clear hcall hstep hhit hwid hne hbad
      by_cases hK : K = 0
      · subst hK
        have hr : B = (p : Int) := by rw [HB.out]; exact HC.out.2.2 rfl
        subst hr
        go_wp2_with (go_at_call 45; refine (HC.out.1 _).mono ?_; rintro e w2 ⟨rfl, rfl⟩)
        go_ret
        exact ⟨rfl, rfl⟩
      · have hk : ((K : Int) == 0) = false := beq_eq_false_iff_ne.2 (by omega)
        have HK := Lib.hid hK; clear hK
        go_wp2_with (go_at_call 45; refine (HC.out.1 _).mono ?_; rintro e w2 ⟨rfl, rfl⟩)
        go_roundg (s.size - (p + K))
        case measure => have := HG.out; have := HK.out; omega
        case rel => exact ⟨rfl, p + K, by omega, rfl, by go_num, HC.out.2.1 HK.out⟩
    · have hr : B = -1 := by rw [HB.out]; exact hbad.stop (List.drop_eq_nil_of_le (by show s.size ≤ p; omega))
      subst hr
      go_wp2_with fail
      go_ret
      exact ⟨rfl, rfl⟩

theorem rgood_c (s : ByteArray) (w : World) (hs : s.size ≤ 4611686018427387904) :
    Calls Tryz.prog 20 #[.string s] w fun e w' => e = .returned (.bool (decide (bad s.data.toList = none))) ∧ w = w' := by
  rw [← goodB_iff]
  have hc := rbad_c s w hs
  generalize badI s.data.toList = B at *
  go_enter Tryz.func20, Tryz.ntmps20
  go_wp2_with (first | (go_at_call 18; refine hc.mono ?_; rintro e w2 ⟨rfl, rfl⟩))
  go_ret
  exact ⟨rfl, rfl⟩

theorem cat_ba (o t : Bytes) : (ByteArray.mk o.toArray ++ ByteArray.mk t.toArray) = ByteArray.mk (o ++ t).toArray := by
  apply ByteArray.ext; simp
theorem cat_ba' (o : Bytes) (x : ByteArray) (t : Bytes) (h : x.data = t.toArray) : (ByteArray.mk o.toArray ++ x) = ByteArray.mk (o ++ t).toArray := by
  obtain ⟨d⟩ := x
  simp only at h; subst h
  exact cat_ba o t
theorem esc_round {o E : Bytes} {b : UInt8} (h : E = o ++ escB b) : Value.string (ByteArray.mk o.toArray ++ ByteArray.mk (escB b).toArray) = .string ⟨E.toArray⟩ := by
  rw [cat_ba, h]
theorem getD_at (s : ByteArray) (k : Nat) (h : k < s.size) : s.data.toList.getD k 0 = s[k]'h := by
  have h' : k < s.data.toList.length := h
  rw [List.getD_eq_getElem?_getD, List.getElem?_eq_getElem h']; rfl

/-- what the loop of Escape has. -/
theorem escL_snoc (l : Bytes) (k : Nat) (hk : k < l.length) : escL (l.take (k + 1)) = escL (l.take k) ++ escB (l.getD k 0) := escL_take_succ l k hk

set_option maxRecDepth 1000000 in
set_option maxHeartbeats 4000000 in
theorem resc_c (s : ByteArray) (w : World) (hs : s.size ≤ 2147483648) :
    Calls Tryz.prog 24 #[.string s] w fun e w' => e = .returned (escV (escR s.data.toList)) ∧ w = w' := by
  have HG := Lib.hid (rgood_c s w (by omega))
  have HE : escR s.data.toList = if decide (bad s.data.toList = none) then (escL s.data.toList, 0) else ([], 6) := by unfold escR; simp
  have HE' := Lib.hid HE; clear HE
  cases hgd : decide (bad s.data.toList = none) with
  | false =>
    rw [hgd] at HG HE'
    clear hgd
    go_enter Tryz.func24, Tryz.ntmps24
    go_wp2_with (first | (go_at_call 20; refine HG.out.mono ?_; rintro e w1 ⟨rfl, rfl⟩))
    go_ret2
    exact ⟨by rw [HE'.out]; rfl, rfl⟩
  | true =>
    rw [hgd] at HG HE'
    clear hgd
    have hR : escR s.data.toList = (escL s.data.toList, 0) := HE'.out
    rw [hR]
    clear hR HE'
    go_enter Tryz.func24, Tryz.ntmps24
    go_wp2_with (first | (go_at_call 20; refine HG.out.mono ?_; rintro e w1 ⟨rfl, rfl⟩))
    go_loopg [4, 5] s.size (fun g o i wr => w = wr ∧ ∃ k : Nat, k ≤ s.size ∧ g = s.size - k ∧ i = .int .i64 k ∧ o = .string ⟨(escL (s.data.toList.take k)).toArray⟩)
    case atStart => exact ⟨rfl, 0, Nat.zero_le _, rfl, rfl, rfl⟩
    case round =>
      obtain ⟨rfl, k, hk, hg, rfl, rfl⟩ := hrel
      have HGG := Lib.hid hg; clear hg
      by_cases hlt : k < s.size
      · have hsn := escL_snoc s.data.toList k hlt
        have hcons := get_cons s k hlt
        obtain ⟨b, hb⟩ : ∃ b, s[k]'hlt = b := ⟨_, rfl⟩
        have hol := escL_le (s.data.toList.take k)
        rw [List.length_take, size_list] at hol
        rw [getD_at s k hlt, hb] at hsn
        generalize escL (s.data.toList.take k) = o at *
        have hoB : o.length ≤ 12884901888 := by omega
        have HS := Lib.hid hsn; clear hsn hcons hol
        by_cases h1 : b = 38
        · subst h1
          go_wp2_with fail
          go_roundg (s.size - (k + 1))
          case measure => have := HGG.out; omega
          case rel => exact ⟨rfl, k + 1, by omega, rfl, by go_num, esc_round HS.out⟩
        by_cases h2 : b = 60
        · subst h2
          go_wp2_with fail
          go_roundg (s.size - (k + 1))
          case measure => have := HGG.out; omega
          case rel => exact ⟨rfl, k + 1, by omega, rfl, by go_num, esc_round HS.out⟩
        by_cases h3 : b = 62
        · subst h3
          go_wp2_with fail
          go_roundg (s.size - (k + 1))
          case measure => have := HGG.out; omega
          case rel => exact ⟨rfl, k + 1, by omega, rfl, by go_num, esc_round HS.out⟩
        by_cases h4 : b = 34
        · subst h4
          go_wp2_with fail
          go_roundg (s.size - (k + 1))
          case measure => have := HGG.out; omega
          case rel => exact ⟨rfl, k + 1, by omega, rfl, by go_num, esc_round HS.out⟩
        by_cases h5 : b = 39
        · subst h5
          go_wp2_with fail
          go_roundg (s.size - (k + 1))
          case measure => have := HGG.out; omega
          case rel => exact ⟨rfl, k + 1, by omega, rfl, by go_num, esc_round HS.out⟩
        by_cases h6 : b = 9
        · subst h6
          go_wp2_with fail
          go_roundg (s.size - (k + 1))
          case measure => have := HGG.out; omega
          case rel => exact ⟨rfl, k + 1, by omega, rfl, by go_num, esc_round HS.out⟩
        by_cases h7 : b = 10
        · subst h7
          go_wp2_with fail
          go_roundg (s.size - (k + 1))
          case measure => have := HGG.out; omega
          case rel => exact ⟨rfl, k + 1, by omega, rfl, by go_num, esc_round HS.out⟩
        by_cases h8 : b = 13
        · subst h8
          go_wp2_with fail
          go_roundg (s.size - (k + 1))
          case measure => have := HGG.out; omega
          case rel => exact ⟨rfl, k + 1, by omega, rfl, by go_num, esc_round HS.out⟩
        have n1 := ne_u8 b 38 38 rfl h1
        have n2 := ne_u8 b 60 60 rfl h2
        have n3 := ne_u8 b 62 62 rfl h3
        have n4 := ne_u8 b 34 34 rfl h4
        have n5 := ne_u8 b 39 39 rfl h5
        have n6 := ne_u8 b 9 9 rfl h6
        have n7 := ne_u8 b 10 10 rfl h7
        have n8 := ne_u8 b 13 13 rfl h8
        have hesc : escB b = [b] := by unfold escB; simp only [h1, h2, h3, h4, h5, h6, h7, h8, if_false]
        have hsz : (s.extract k (k + 1)).size = 1 := by simp; omega
        have hext : (s.extract k (k + 1)).data = #[b] := by
          have := mid_list s k 1
          rw [get_cons s k hlt, hb] at this
          exact Array.toList_inj.1 this
        have HX := Lib.hid (And.intro hesc hext); clear hesc hext
        go_wp2_with fail
        go_roundg (s.size - (k + 1))
        case measure => have := HGG.out; omega
        case rel =>
          refine ⟨rfl, k + 1, by omega, rfl, by go_num, ?_⟩
          rw [HS.out, HX.out.1]
          congr 1
          exact cat_ba' o _ [b] HX.out.2
      · obtain rfl : k = s.size := by omega
        rw [List.take_of_length_le (by rw [size_list]; omega)]
        go_wp2_with fail
        go_ret2
        exact ⟨rfl, rfl⟩
end Go.Proofs.YtcicibeggkmlcaaGreatDoor
