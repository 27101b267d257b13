/- The walks of the reference of chars: Bad, Good, Name, Escape. Conditions: each theorem's own premises. The walk of the reference of chars: Name. Conditions: none. The walk of the reference of chars: utf. Conditions: the number is a sign. The walk of the reference of chars: entity. Conditions: the text is shorter than 2^31 bytes. The walks of the reference of chars: entity, Unescape. Conditions: the text has at most 2^31 bytes. -/
import Derived.Test.YtcicibeggkmlcaaGreatDoorRfA
import Derived.Test.YtcicibeggkmlcaaGreatDoorChGJ2
import Derived.Test.YtcicibeggkmlcaaGreatDoorRpD
namespace Go.Proofs.YtcicibeggkmlcaaGreatDoor
open Go.RowKit Go.Sof

set_option maxRecDepth 100000 in
theorem rbad_c (s : ByteArray) (w : World) (hs : s.size ≤ 4611686018427387904) :
    Calls Tryz.prog 18 #[.string s] w fun e w' => e = .returned (.int .i64 (badI s.data.toList)) ∧ w = w' := by
  obtain ⟨B, hB⟩ : ∃ B, B = badI s.data.toList := ⟨_, rfl⟩
  rw [← hB]
  have HB := Lib.hid hB; clear hB
  go_enter Tryz.func18, Tryz.ntmps18
  go_wp2_with fail
  go_loopg [3] s.size (fun g a wr => w = wr ∧ ∃ p : Nat, p ≤ s.size ∧ g = s.size - p ∧ a = .int .i64 p ∧ BadAt s.data.toList p)
  case atStart => exact ⟨rfl, 0, Nat.zero_le _, rfl, rfl, BadAt.start _⟩
  case round =>
    obtain ⟨rfl, p, hp, hg, rfl, hbad⟩ := hrel
    have HG := Lib.hid hg; clear hg
    by_cases hlt : p < s.size
    · have hne := drop_ne hlt
      have hcall := fun W => first_c (s.extract p s.size) W (by simp; omega)
      rw [Lib.extract_to_end] at hcall
      have hwid := firstL_wid _ hne
      have hle := wid_le _ hne
      rw [List.length_drop, size_list] at hle
      have hstep : wid (s.data.toList.drop p) ≠ 0 → BadAt s.data.toList (p + wid (s.data.toList.drop p)) := hbad.next hne
      have hhit : wid (s.data.toList.drop p) = 0 → badI s.data.toList = (p : Int) := hbad.hit hne
      rw [← hwid] at hle hstep hhit
      generalize firstL (s.data.toList.drop p) = F at *
      obtain ⟨R, K⟩ := F
      dsimp only at *
      have HC := Lib.hid (And.intro hcall (And.intro hstep hhit))
      clear hcall hstep hhit hwid hne hbad
      by_cases hK : K = 0
      · subst hK
        have hr : B = (p : Int) := by rw [HB.out]; exact HC.out.2.2 rfl
        subst hr
        go_wp2_with (go_at_call 45; refine (HC.out.1 _).mono ?_; rintro e w2 ⟨rfl, rfl⟩)
        go_ret
        exact ⟨rfl, rfl⟩
      · have hk : ((K : Int) == 0) = false := beq_eq_false_iff_ne.2 (by omega)
        have HK := Lib.hid hK; clear hK
        go_wp2_with (go_at_call 45; refine (HC.out.1 _).mono ?_; rintro e w2 ⟨rfl, rfl⟩)
        go_roundg (s.size - (p + K))
        case measure => have := HG.out; have := HK.out; omega
        case rel => exact ⟨rfl, p + K, by omega, rfl, by go_num, HC.out.2.1 HK.out⟩
    · have hr : B = -1 := by rw [HB.out]; exact hbad.stop (List.drop_eq_nil_of_le (by show s.size ≤ p; omega))
      subst hr
      go_wp2_with fail
      go_ret
      exact ⟨rfl, rfl⟩

theorem rgood_c (s : ByteArray) (w : World) (hs : s.size ≤ 4611686018427387904) :
    Calls Tryz.prog 20 #[.string s] w fun e w' => e = .returned (.bool (decide (bad s.data.toList = none))) ∧ w = w' := by
  rw [← goodB_iff]
  have hc := rbad_c s w hs
  generalize badI s.data.toList = B at *
  go_enter Tryz.func20, Tryz.ntmps20
  go_wp2_with (first | (go_at_call 18; refine hc.mono ?_; rintro e w2 ⟨rfl, rfl⟩))
  go_ret
  exact ⟨rfl, rfl⟩

theorem cat_ba (o t : Bytes) : (ByteArray.mk o.toArray ++ ByteArray.mk t.toArray) = ByteArray.mk (o ++ t).toArray := by
  apply ByteArray.ext; simp
theorem cat_ba' (o : Bytes) (x : ByteArray) (t : Bytes) (h : x.data = t.toArray) : (ByteArray.mk o.toArray ++ x) = ByteArray.mk (o ++ t).toArray := by
  obtain ⟨d⟩ := x
  simp only at h; subst h
  exact cat_ba o t
theorem esc_round {o E : Bytes} {b : UInt8} (h : E = o ++ escB b) : Value.string (ByteArray.mk o.toArray ++ ByteArray.mk (escB b).toArray) = .string ⟨E.toArray⟩ := by
  rw [cat_ba, h]
theorem getD_at (s : ByteArray) (k : Nat) (h : k < s.size) : s.data.toList.getD k 0 = s[k]'h := by
  have h' : k < s.data.toList.length := h
  rw [List.getD_eq_getElem?_getD, List.getElem?_eq_getElem h']; rfl

/-- what the loop of Escape has. -/
theorem escL_snoc (l : Bytes) (k : Nat) (hk : k < l.length) : escL (l.take (k + 1)) = escL (l.take k) ++ escB (l.getD k 0) := escL_take_succ l k hk

set_option maxRecDepth 1000000 in
set_option maxHeartbeats 4000000 in
theorem resc_c (s : ByteArray) (w : World) (hs : s.size ≤ 2147483648) :
    Calls Tryz.prog 24 #[.string s] w fun e w' => e = .returned (escV (escR s.data.toList)) ∧ w = w' := by
  have HG := Lib.hid (rgood_c s w (by omega))
  have HE : escR s.data.toList = if decide (bad s.data.toList = none) then (escL s.data.toList, 0) else ([], 6) := by unfold escR; simp
  have HE' := Lib.hid HE; clear HE
  cases hgd : decide (bad s.data.toList = none) with
  | false =>
    rw [hgd] at HG HE'
    clear hgd
    go_enter Tryz.func24, Tryz.ntmps24
    go_wp2_with (first | (go_at_call 20; refine HG.out.mono ?_; rintro e w1 ⟨rfl, rfl⟩))
    go_ret2
    exact ⟨by rw [HE'.out]; rfl, rfl⟩
  | true =>
    rw [hgd] at HG HE'
    clear hgd
    have hR : escR s.data.toList = (escL s.data.toList, 0) := HE'.out
    rw [hR]
    clear hR HE'
    go_enter Tryz.func24, Tryz.ntmps24
    go_wp2_with (first | (go_at_call 20; refine HG.out.mono ?_; rintro e w1 ⟨rfl, rfl⟩))
    go_loopg [4, 5] s.size (fun g o i wr => w = wr ∧ ∃ k : Nat, k ≤ s.size ∧ g = s.size - k ∧ i = .int .i64 k ∧ o = .string ⟨(escL (s.data.toList.take k)).toArray⟩)
    case atStart => exact ⟨rfl, 0, Nat.zero_le _, rfl, rfl, rfl⟩
    case round =>
      obtain ⟨rfl, k, hk, hg, rfl, rfl⟩ := hrel
      have HGG := Lib.hid hg; clear hg
      by_cases hlt : k < s.size
      · have hsn := escL_snoc s.data.toList k hlt
        have hcons := get_cons s k hlt
        obtain ⟨b, hb⟩ : ∃ b, s[k]'hlt = b := ⟨_, rfl⟩
        have hol := escL_le (s.data.toList.take k)
        rw [List.length_take, size_list] at hol
        rw [getD_at s k hlt, hb] at hsn
        generalize escL (s.data.toList.take k) = o at *
        have hoB : o.length ≤ 12884901888 := by omega
        have HS := Lib.hid hsn; clear hsn hcons hol
        by_cases h1 : b = 38
        · subst h1
          go_wp2_with fail
          go_roundg (s.size - (k + 1))
          case measure => have := HGG.out; omega
          case rel => exact ⟨rfl, k + 1, by omega, rfl, by go_num, esc_round HS.out⟩
        by_cases h2 : b = 60
        · subst h2
          go_wp2_with fail
          go_roundg (s.size - (k + 1))
          case measure => have := HGG.out; omega
          case rel => exact ⟨rfl, k + 1, by omega, rfl, by go_num, esc_round HS.out⟩
        by_cases h3 : b = 62
        · subst h3
          go_wp2_with fail
          go_roundg (s.size - (k + 1))
          case measure => have := HGG.out; omega
          case rel => exact ⟨rfl, k + 1, by omega, rfl, by go_num, esc_round HS.out⟩
        by_cases h4 : b = 34
        · subst h4
          go_wp2_with fail
          go_roundg (s.size - (k + 1))
          case measure => have := HGG.out; omega
          case rel => exact ⟨rfl, k + 1, by omega, rfl, by go_num, esc_round HS.out⟩
        by_cases h5 : b = 39
        · subst h5
          go_wp2_with fail
          go_roundg (s.size - (k + 1))
          case measure => have := HGG.out; omega
          case rel => exact ⟨rfl, k + 1, by omega, rfl, by go_num, esc_round HS.out⟩
        by_cases h6 : b = 9
        · subst h6
          go_wp2_with fail
          go_roundg (s.size - (k + 1))
          case measure => have := HGG.out; omega
          case rel => exact ⟨rfl, k + 1, by omega, rfl, by go_num, esc_round HS.out⟩
        by_cases h7 : b = 10
        · subst h7
          go_wp2_with fail
          go_roundg (s.size - (k + 1))
          case measure => have := HGG.out; omega
          case rel => exact ⟨rfl, k + 1, by omega, rfl, by go_num, esc_round HS.out⟩
        by_cases h8 : b = 13
        · subst h8
          go_wp2_with fail
          go_roundg (s.size - (k + 1))
          case measure => have := HGG.out; omega
          case rel => exact ⟨rfl, k + 1, by omega, rfl, by go_num, esc_round HS.out⟩
        have n1 := ne_u8 b 38 38 rfl h1
        have n2 := ne_u8 b 60 60 rfl h2
        have n3 := ne_u8 b 62 62 rfl h3
        have n4 := ne_u8 b 34 34 rfl h4
        have n5 := ne_u8 b 39 39 rfl h5
        have n6 := ne_u8 b 9 9 rfl h6
        have n7 := ne_u8 b 10 10 rfl h7
        have n8 := ne_u8 b 13 13 rfl h8
        have hesc : escB b = [b] := by unfold escB; simp only [h1, h2, h3, h4, h5, h6, h7, h8, if_false]
        have hsz : (s.extract k (k + 1)).size = 1 := by simp; omega
        have hext : (s.extract k (k + 1)).data = #[b] := by
          have := mid_list s k 1
          rw [get_cons s k hlt, hb] at this
          exact Array.toList_inj.1 this
        have HX := Lib.hid (And.intro hesc hext); clear hesc hext
        go_wp2_with fail
        go_roundg (s.size - (k + 1))
        case measure => have := HGG.out; omega
        case rel =>
          refine ⟨rfl, k + 1, by omega, rfl, by go_num, ?_⟩
          rw [HS.out, HX.out.1]
          congr 1
          exact cat_ba' o _ [b] HX.out.2
      · obtain rfl : k = s.size := by omega
        rw [List.take_of_length_le (by rw [size_list]; omega)]
        go_wp2_with fail
        go_ret2
        exact ⟨rfl, rfl⟩
end Go.Proofs.YtcicibeggkmlcaaGreatDoor

namespace Go.Proofs.YtcicibeggkmlcaaGreatDoor
open Go.RowKit Go.Sof

/-- what the loop of Name has seen. -/
def NameTo (l : Bytes) (k : Nat) : Prop := (l.take k).all nameCh = true ∧ (0 < k → letterB (byN l 0) = true)
theorem NameTo.start (l : Bytes) : NameTo l 0 := ⟨by simp, fun h => absurd h (Nat.lt_irrefl _)⟩
theorem NameTo.letter {l : Bytes} {k : Nat} (h : NameTo l k) (hk : k < l.length) (hc : letterB (byN l k) = true) : NameTo l (k + 1) := by
  refine ⟨?_, fun _ => ?_⟩
  · rw [all_take_succ hk nameCh h.1]; unfold nameCh; unfold byN at hc; rw [hc]; rfl
  · by_cases h0 : k = 0
    · subst h0; exact hc
    · exact h.2 (by omega)
theorem NameTo.digit {l : Bytes} {k : Nat} (h : NameTo l k) (hk : k < l.length) (h0 : k ≠ 0) (h1 : 48 ≤ byN l k) (h2 : byN l k ≤ 57) : NameTo l (k + 1) := by
  refine ⟨?_, fun _ => h.2 (by omega)⟩
  rw [all_take_succ hk nameCh h.1]; unfold byN at h1 h2; generalize l.getD k 0 = c at *; unfold nameCh; simp [h1, h2]
theorem NameTo.no {l : Bytes} {k : Nat} (hk : k < l.length) (h1 : letterB (byN l k) = false) (h2 : k = 0 ∨ byN l k < 48 ∨ 57 < byN l k) : nameB l = false := by
  rcases h2 with rfl | h2
  · unfold nameB; rw [h1]; simp
  · have : nameCh (l.getD k 0) = false := by
      unfold byN at h1 h2; generalize l.getD k 0 = c at *; unfold nameCh; rw [h1]; simp; omega
    have ha : l.all nameCh = false := by
      cases hh : l.all nameCh with
      | false => rfl
      | true =>
        rw [List.all_eq_true] at hh
        rw [List.getD_eq_getElem?_getD, List.getElem?_eq_getElem hk] at this
        have := hh _ (List.getElem_mem hk)
        simp_all
    unfold nameB; rw [ha]; simp
theorem NameTo.full {l : Bytes} (h : NameTo l l.length) (h1 : l ≠ []) (h2 : l.length ≤ 32) : nameB l = true := by
  have hp : 0 < l.length := List.length_pos_iff.2 h1
  have h3 := h.1
  rw [List.take_length] at h3
  unfold nameB
  rw [h3, h.2 hp]
  simp [h1, h2]

theorem letterB_iff (n : Nat) : letterB n = true ↔ (97 ≤ n ∧ n ≤ 122) ∨ (65 ≤ n ∧ n ≤ 90) ∨ n = 95 := by
  unfold letterB; simp; omega

set_option maxRecDepth 100000 in
set_option maxHeartbeats 4000000 in
theorem rname_c (s : ByteArray) (w : World) :
    Calls Tryz.prog 22 #[.string s] w fun e w' => e = .returned (.bool (nameB s.data.toList)) ∧ w = w' := by
  by_cases h0 : s.size = 0
  · have e0 : s = ⟨#[]⟩ := by
      obtain ⟨⟨l⟩⟩ := s
      have : l = [] := List.eq_nil_of_length_eq_zero h0
      rw [this]
    subst e0
    go_enter Tryz.func22, Tryz.ntmps22
    go_wp2
    go_ret
    exact ⟨rfl, rfl⟩
  · have hL : s.data.toList ≠ [] := fun e => h0 (by rw [← size_list, e]; rfl)
    have hne : s.toList.isEmpty = false := by rw [Lib.toList_data]; simpa using hL
    by_cases h32 : 32 < s.size
    · have hr : nameB s.data.toList = false := by
        unfold nameB; rw [size_list]; simp; intro _ h; omega
      rw [hr]
      go_enter Tryz.func22, Tryz.ntmps22
      go_wp2
      go_ret
      exact ⟨rfl, rfl⟩
    · obtain ⟨NB, hNB⟩ : ∃ b, b = nameB s.data.toList := ⟨_, rfl⟩
      rw [← hNB]
      have HN := Lib.hid (And.intro hNB hL); clear hNB hL
      go_enter Tryz.func22, Tryz.ntmps22
      go_wp2_with fail
      go_loopg [3] s.size (fun g i wr => w = wr ∧ ∃ k : Nat, k ≤ s.size ∧ g = s.size - k ∧ i = .int .i64 k ∧ NameTo s.data.toList k)
      case atStart => exact ⟨rfl, 0, Nat.zero_le _, rfl, rfl, NameTo.start _⟩
      case round =>
        obtain ⟨rfl, k, hk, hg, rfl, hat⟩ := hrel
        have HG := Lib.hid (And.intro hg hat); clear hg hat
        by_cases hlt : k < s.size
        · have hbk := byN_get s k hlt
          obtain ⟨b, hb⟩ : ∃ b, s[k]'hlt = b := ⟨_, rfl⟩
          rw [hb] at hbk
          have HB := Lib.hid hbk; clear hbk
          by_cases c1 : 97 ≤ b.toNat ∧ b.toNat ≤ 122
          · obtain ⟨c1, c2⟩ := c1
            go_wp2_with fail
            go_roundg (s.size - (k + 1))
            case measure => have := HG.out.1; omega
            case rel => exact ⟨rfl, k + 1, by omega, rfl, by go_num, HG.out.2.letter hlt (by rw [HB.out, letterB_iff]; omega)⟩
          by_cases c2 : 65 ≤ b.toNat ∧ b.toNat ≤ 90
          · obtain ⟨c2, c3⟩ := c2
            have c4 : decide (97 ≤ (b.toNat : Int)) = false := by simp; omega
            go_wp2_with fail
            go_roundg (s.size - (k + 1))
            case measure => have := HG.out.1; omega
            case rel => exact ⟨rfl, k + 1, by omega, rfl, by go_num, HG.out.2.letter hlt (by rw [HB.out, letterB_iff]; omega)⟩
          by_cases c3 : b.toNat = 95
          · go_wp2_with fail
            go_roundg (s.size - (k + 1))
            case measure => have := HG.out.1; omega
            case rel => exact ⟨rfl, k + 1, by omega, rfl, by go_num, HG.out.2.letter hlt (by rw [HB.out, letterB_iff]; omega)⟩
          have hl : letterB (byN s.data.toList k) = false := by
            rw [HB.out]
            cases hh : letterB b.toNat with
            | false => rfl
            | true => rw [letterB_iff] at hh; omega
          have HL := Lib.hid hl; clear hl
          have n3 : ((b.toNat : Int) == 95) = false := beq_eq_false_iff_ne.2 (by omega)
          have v1 : (decide (97 ≤ (b.toNat : Int)) && decide ((b.toNat : Int) ≤ 122)) = false := by simp; omega
          have v2 : (decide (65 ≤ (b.toNat : Int)) && decide ((b.toNat : Int) ≤ 90)) = false := by simp; omega
          by_cases hd : k = 0 ∨ b.toNat < 48 ∨ 57 < b.toNat
          · have hr : NB = false := by rw [HN.out.1]; exact NameTo.no hlt HL.out (by rw [HB.out]; exact hd)
            subst hr
            go_wp2_with fail
            all_goals first | (go_ret; exact ⟨rfl, rfl⟩) | (exfalso; simp_all; omega)
          · have hd1 : ((k : Int) == 0) = false := beq_eq_false_iff_ne.2 (by omega)
            have hd2 : 48 ≤ b.toNat := by omega
            have hd3 : b.toNat ≤ 57 := by omega
            have hl1 : decide ((b.toNat : Int) < 48) = false := by simp; omega
            have hl2 : decide (57 < (b.toNat : Int)) = false := by simp; omega
            have HD := Lib.hid hd; clear hd c1 c2 c3
            go_wp2_with fail
            go_roundg (s.size - (k + 1))
            case measure => have := HG.out.1; omega
            case rel => exact ⟨rfl, k + 1, by omega, rfl, by go_num, HG.out.2.digit hlt (fun e => HD.out (Or.inl e)) (by rw [HB.out]; exact hd2) (by rw [HB.out]; exact hd3)⟩
        · obtain rfl : k = s.size := by omega
          have hr : NB = true := by rw [HN.out.1]; exact NameTo.full HG.out.2 HN.out.2 (by rw [size_list]; omega)
          subst hr
          go_wp2_with fail
          go_ret
          exact ⟨rfl, rfl⟩
end Go.Proofs.YtcicibeggkmlcaaGreatDoor

namespace Go.Proofs.YtcicibeggkmlcaaGreatDoor
open Go.RowKit Go.Sof

theorem u8_of (a : Nat) (x : Int) (h : (a : Int) = x) (h2 : a < 256) : Value.int .u8 ((UInt8.ofNat a).toNat : Int) = .int .u8 x := by
  rw [← h, UInt8.toNat_ofNat', Nat.mod_eq_of_lt h2]

theorem back_1 (w : World) (U : Bytes) (x : Int) (a : Nat) (h : (a : Int) = x) (h2 : a < 256) (hU : U = [UInt8.ofNat a]) : (convert 32 9 (.slice (some ⟨w.heap.size, 0, none⟩) 1 1)).run Tryz.prog (w.alloc (.cells #[.int .u8 x] 5)) = .ok (.string ⟨U.toArray⟩) (w.alloc (.cells #[.int .u8 x] 5)) := by
  subst hU
  exact run_convert_bytes_back (P := Tryz.prog) (w.alloc (.cells #[.int .u8 x] 5)) 32 9 5 ⟨w.heap.size, 0, none⟩ 1 [UInt8.ofNat a] Tryz.underlying32 Tryz.underlying5 Tryz.underlying9 (by
    intro j hj
    rw [addr_add]; unfold World.cell?; simp only [heap_alloc_new]
    match j, hj with
    | 0, _ => exact congrArg some (u8_of a x h h2).symm)
theorem back_2 (w : World) (U : Bytes) (x y : Int) (a b : Nat) (h : (a : Int) = x) (h2 : a < 256) (k : (b : Int) = y) (k2 : b < 256) (hU : U = [UInt8.ofNat a, UInt8.ofNat b]) : (convert 32 9 (.slice (some ⟨w.heap.size, 0, none⟩) 2 2)).run Tryz.prog (w.alloc (.cells #[.int .u8 x, .int .u8 y] 5)) = .ok (.string ⟨U.toArray⟩) (w.alloc (.cells #[.int .u8 x, .int .u8 y] 5)) := by
  subst hU
  exact run_convert_bytes_back (P := Tryz.prog) (w.alloc (.cells #[.int .u8 x, .int .u8 y] 5)) 32 9 5 ⟨w.heap.size, 0, none⟩ 2 [UInt8.ofNat a, UInt8.ofNat b] Tryz.underlying32 Tryz.underlying5 Tryz.underlying9 (by
    intro j hj
    rw [addr_add]; unfold World.cell?; simp only [heap_alloc_new]
    match j, hj with
    | 0, _ => exact congrArg some (u8_of a x h h2).symm
    | 1, _ => exact congrArg some (u8_of b y k k2).symm)
theorem back_3 (w : World) (U : Bytes) (x y z : Int) (a b c : Nat) (h : (a : Int) = x) (h2 : a < 256) (k : (b : Int) = y) (k2 : b < 256) (l : (c : Int) = z) (l2 : c < 256) (hU : U = [UInt8.ofNat a, UInt8.ofNat b, UInt8.ofNat c]) : (convert 32 9 (.slice (some ⟨w.heap.size, 0, none⟩) 3 3)).run Tryz.prog (w.alloc (.cells #[.int .u8 x, .int .u8 y, .int .u8 z] 5)) = .ok (.string ⟨U.toArray⟩) (w.alloc (.cells #[.int .u8 x, .int .u8 y, .int .u8 z] 5)) := by
  subst hU
  exact run_convert_bytes_back (P := Tryz.prog) (w.alloc (.cells #[.int .u8 x, .int .u8 y, .int .u8 z] 5)) 32 9 5 ⟨w.heap.size, 0, none⟩ 3 [UInt8.ofNat a, UInt8.ofNat b, UInt8.ofNat c] Tryz.underlying32 Tryz.underlying5 Tryz.underlying9 (by
    intro j hj
    rw [addr_add]; unfold World.cell?; simp only [heap_alloc_new]
    match j, hj with
    | 0, _ => exact congrArg some (u8_of a x h h2).symm
    | 1, _ => exact congrArg some (u8_of b y k k2).symm
    | 2, _ => exact congrArg some (u8_of c z l l2).symm)
theorem back_4 (w : World) (U : Bytes) (x y z u : Int) (a b c d : Nat) (h : (a : Int) = x) (h2 : a < 256) (k : (b : Int) = y) (k2 : b < 256) (l : (c : Int) = z) (l2 : c < 256) (m : (d : Int) = u) (m2 : d < 256) (hU : U = [UInt8.ofNat a, UInt8.ofNat b, UInt8.ofNat c, UInt8.ofNat d]) : (convert 32 9 (.slice (some ⟨w.heap.size, 0, none⟩) 4 4)).run Tryz.prog (w.alloc (.cells #[.int .u8 x, .int .u8 y, .int .u8 z, .int .u8 u] 5)) = .ok (.string ⟨U.toArray⟩) (w.alloc (.cells #[.int .u8 x, .int .u8 y, .int .u8 z, .int .u8 u] 5)) := by
  subst hU
  exact run_convert_bytes_back (P := Tryz.prog) (w.alloc (.cells #[.int .u8 x, .int .u8 y, .int .u8 z, .int .u8 u] 5)) 32 9 5 ⟨w.heap.size, 0, none⟩ 4 [UInt8.ofNat a, UInt8.ofNat b, UInt8.ofNat c, UInt8.ofNat d] Tryz.underlying32 Tryz.underlying5 Tryz.underlying9 (by
    intro j hj
    rw [addr_add]; unfold World.cell?; simp only [heap_alloc_new]
    match j, hj with
    | 0, _ => exact congrArg some (u8_of a x h h2).symm
    | 1, _ => exact congrArg some (u8_of b y k k2).symm
    | 2, _ => exact congrArg some (u8_of c z l l2).symm
    | 3, _ => exact congrArg some (u8_of d u m m2).symm)

set_option maxRecDepth 1000000 in
set_option maxHeartbeats 4000000 in
theorem rutf_c (n : Nat) (hn : signB n = true) (w : World) :
    Calls Tryz.prog 79 #[.int .i64 n] w fun e w' => e = .returned (.string ⟨(utf n).toArray⟩) ∧ Below w.heap.size w w' := by
  have hb := sign_bounds n hn
  have hu := utf_eq n hn
  obtain ⟨U, hU⟩ : ∃ U, U = utf n := ⟨_, rfl⟩
  rw [← hU] at hu ⊢
  clear hU hn
  by_cases c1 : n < 128
  · rw [if_pos c1] at hu
    have cv := back_1 w U (n : Int) n rfl (by omega) hu
    clear hu
    go_enter Tryz.func79, Tryz.ntmps79
    go_wp2_with fail
    go_ret
    exact ⟨rfl, (Below.refl _ w).alloc (Nat.le_refl _) _⟩
  rw [if_neg c1] at hu
  by_cases c2 : n < 2048
  · rw [if_pos c2] at hu
    have cv := back_2 w U (192 + (n : Int) / 64) (128 + (n : Int) % 64) (0xC0 + n / 64) (0x80 + n % 64) (by omega) (by omega) (by omega) (by omega) hu
    clear hu
    go_enter Tryz.func79, Tryz.ntmps79
    go_wp2_with fail
    go_ret
    exact ⟨rfl, (Below.refl _ w).alloc (Nat.le_refl _) _⟩
  rw [if_neg c2] at hu
  by_cases c3 : n < 65536
  · rw [if_pos c3] at hu
    have cv := back_3 w U (224 + (n : Int) / 4096) (128 + (n : Int) / 64 % 64) (128 + (n : Int) % 64) (0xE0 + n / 4096) (0x80 + n / 64 % 64) (0x80 + n % 64) (by omega) (by omega) (by omega) (by omega) (by omega) (by omega) hu
    clear hu
    go_enter Tryz.func79, Tryz.ntmps79
    go_wp2_with fail
    go_ret
    exact ⟨rfl, (Below.refl _ w).alloc (Nat.le_refl _) _⟩
  · rw [if_neg c3] at hu
    have cv := back_4 w U (240 + (n : Int) / 262144) (128 + (n : Int) / 4096 % 64) (128 + (n : Int) / 64 % 64) (128 + (n : Int) % 64) (0xF0 + n / 262144) (0x80 + n / 4096 % 64) (0x80 + n / 64 % 64) (0x80 + n % 64) (by omega) (by omega) (by omega) (by omega) (by omega) (by omega) (by omega) (by omega) hu
    clear hu
    go_enter Tryz.func79, Tryz.ntmps79
    go_wp2_with fail
    go_ret
    exact ⟨rfl, (Below.refl _ w).alloc (Nat.le_refl _) _⟩
end Go.Proofs.YtcicibeggkmlcaaGreatDoor

namespace Go.Proofs.YtcicibeggkmlcaaGreatDoor
open Go.RowKit Go.Sof

/-- what the loop of entity has: so many digits are read. -/
structure NumTo (base : Nat) (u : Bytes) (j : Nat) : Prop where
  dig : ∀ c ∈ u.take j, hexV c.toNat < base
theorem NumTo.start (base : Nat) (u : Bytes) : NumTo base u 0 := ⟨by simp⟩
theorem NumTo.next {base : Nat} {u : Bytes} {j : Nat} (h : NumTo base u j) (hj : j < u.length) (hc : hexV (u.getD j 0).toNat < base) : NumTo base u (j + 1) := by
  refine ⟨fun c hcm => ?_⟩
  rw [List.take_succ_eq_append_getElem hj, List.mem_append] at hcm
  rcases hcm with hcm | hcm
  · exact h.dig c hcm
  · rw [List.getD_eq_getElem?_getD, List.getElem?_eq_getElem hj] at hc
    simp only [List.mem_singleton] at hcm
    subst hcm; exact hc
theorem NumTo.no {base : Nat} {u : Bytes} {j : Nat} (hj : j < u.length) (hc : ¬ hexV (u.getD j 0).toNat < base) : numE base u = none := by
  refine numE_none _ _ (Or.inr (Or.inr fun h => hc ?_))
  rw [List.getD_eq_getElem?_getD, List.getElem?_eq_getElem hj]
  exact h _ (List.getElem_mem hj)
theorem NumTo.full {base : Nat} {u : Bytes} (h : NumTo base u u.length) (h1 : u ≠ []) (h2 : u.length ≤ 8) : numE base u = if signB (numV base u) then some (utf (numV base u)) else none := by
  refine numE_some _ _ h1 h2 fun c hc => h.dig c ?_
  rw [List.take_length]; exact hc
theorem drop_getD (l : Bytes) (a j : Nat) : (l.drop a).getD j 0 = l.getD (a + j) 0 := by
  simp only [List.getD_eq_getElem?_getD, List.getElem?_drop]

theorem rsign_b (r : Nat) (b : Bool) (hb : signB r = b) (w : World) : Calls Tryz.prog 27 #[.int .i64 r] w fun e w' => e = .returned (.bool b) ∧ w = w' := by
  subst hb; exact rsign_c r w

theorem rent_none : entV none = .tuple #[.string ⟨#[]⟩, .bool false] := rfl
theorem rent_some (t : Bytes) : entV (some t) = .tuple #[.string ⟨t.toArray⟩, .bool true] := rfl

set_option maxRecDepth 1000000 in
set_option maxHeartbeats 8000000 in
theorem rent_10 (s : ByteArray) (w : World) (hs : s.size ≤ 2147483648) (k1 : (s.toList == [97, 109, 112]) = false) (k2 : (s.toList == [108, 116]) = false) (k3 : (s.toList == [103, 116]) = false)
    (k4 : (s.toList == [113, 117, 111, 116]) = false) (k5 : (s.toList == [97, 112, 111, 115]) = false) (h0 : 1 < s.size) (hc0 : s[0] = 35) (hc1 : s[1] ≠ 120) (ne : s.toList.isEmpty = false) :
    Calls Tryz.prog 53 #[.string s] w fun e w' => e = .returned (entV (numE 10 (s.data.toList.drop 1))) ∧ Below w.heap.size w w' := by
  obtain ⟨E, hE⟩ : ∃ E, E = numE 10 (s.data.toList.drop 1) := ⟨_, rfl⟩
  rw [← hE]
  have hul : (s.data.toList.drop 1).length = s.size - 1 := by rw [List.length_drop, size_list]
  have n120 := ne_u8 (s[1]) 120 120 rfl hc1
  by_cases hz : s.size = 1
  · have e0 : E = none := by rw [hE]; exact numE_none _ _ (Or.inl (List.eq_nil_of_length_eq_zero (by omega)))
    clear hE; subst e0
    rw [rent_none]
    go_enter Tryz.func53, Tryz.ntmps53
    go_wp2_with fail
    go_ret2
    exact ⟨rfl, Below.refl _ _⟩
  by_cases h8 : 1 + 8 < s.size
  · have e0 : E = none := by rw [hE]; exact numE_none _ _ (Or.inr (Or.inl (by omega)))
    clear hE; subst e0
    rw [rent_none]
    have h8' : decide (8 < (s.size : Int) - 1) = true := by simp; omega
    have hz' : decide ((s.size : Int) ≤ 1) = false := by simp; omega
    go_enter Tryz.func53, Tryz.ntmps53
    go_wp2_with fail
    go_ret2
    exact ⟨rfl, Below.refl _ _⟩
  have HE := Lib.hid hE; clear hE
  have h8' : decide (8 < (s.size : Int) - 1) = false := by simp; omega
  have hz' : decide ((s.size : Int) ≤ 1) = false := by simp; omega
  go_enter Tryz.func53, Tryz.ntmps53
  go_wp2_with fail
  go_loopg [6, 7] (s.size - 1) (fun g n i wr => w = wr ∧ ∃ j : Nat, 1 + j ≤ s.size ∧ g = s.size - 1 - j ∧ i = .int .i64 (1 + (j : Int)) ∧ n = .int .i64 (numV 10 ((s.data.toList.drop 1).take j)) ∧ NumTo 10 (s.data.toList.drop 1) j)
  case atStart => exact ⟨rfl, 0, by omega, by omega, rfl, rfl, NumTo.start _ _⟩
  case round =>
    obtain ⟨rfl, j, hj, hg, rfl, rfl, hn⟩ := hrel
    have hbound := numV_small 10 (by omega) _ hn.dig (by rw [List.length_take]; omega)
    have HG := Lib.hid (And.intro hg hn); clear hg
    by_cases hlt : 1 + j < s.size
    · have hget := getD_at s (1 + j) hlt
      rw [← drop_getD] at hget
      have htk := numV_take 10 (s.data.toList.drop 1) j (by omega)
      have hnx := hn.next (by omega : j < (s.data.toList.drop 1).length)
      have hno := NumTo.no (base := 10) (by omega : j < (s.data.toList.drop 1).length)
      rw [hget] at htk hnx hno
      obtain ⟨c, hc⟩ : ∃ c, s[1 + j]'hlt = c := ⟨_, rfl⟩
      rw [hc] at htk hnx hno hget
      have hi : ((1 : Int) + (j : Int)).toNat = 1 + j := by omega
      rw [← HE.out] at hno
      have HX := Lib.hid (And.intro htk (And.intro hnx hno)); clear htk hnx hno hn hget
      generalize numV 10 ((s.data.toList.drop 1).take j) = V at *
      by_cases d1 : 48 ≤ c.toNat ∧ c.toNat ≤ 57
      · have hv : hexV c.toNat = c.toNat - 48 := by unfold hexV; rw [if_pos d1]
        have HV := Lib.hid hv; clear hv
        obtain ⟨d1, d2⟩ := d1
        have sb : ((c.toNat : Int) - 48) % 256 = (c.toNat : Int) - 48 := by omega
        go_wp2_with fail
        go_roundg (s.size - 1 - (j + 1))
        case measure => have := HG.out.1; omega
        case rel => exact ⟨rfl, j + 1, by omega, rfl, by go_num, by rw [HX.out.1, HV.out]; go_num, HX.out.2.1 (by rw [HV.out]; omega)⟩
      by_cases d2 : 97 ≤ c.toNat ∧ c.toNat ≤ 102
      · have hv : hexV c.toNat = c.toNat - 97 + 10 := by unfold hexV; rw [if_neg d1, if_pos d2]
        have HV := Lib.hid hv; clear hv
        have sb : ((c.toNat : Int) - 97) % 256 = (c.toNat : Int) - 97 := by omega
        have f48 : decide (48 ≤ (c.toNat : Int)) = true := by simp; omega
        have f57 : decide ((c.toNat : Int) ≤ 57) = false := by simp; omega
        have f97 : decide (97 ≤ (c.toNat : Int)) = true := by simp; omega
        have f102 : decide ((c.toNat : Int) ≤ 102) = true := by simp; omega
        obtain ⟨d2, d3⟩ := d2
        clear d1
        have e0 : E = none := HX.out.2.2 (by rw [HV.out]; omega)
        clear HE; subst e0
        go_wp2_with fail
        go_ret2
        exact ⟨rfl, Below.refl _ _⟩
      by_cases d4 : 65 ≤ c.toNat ∧ c.toNat ≤ 70
      · have hv : hexV c.toNat = c.toNat - 65 + 10 := by unfold hexV; rw [if_neg d1, if_neg d2, if_pos d4]
        have HV := Lib.hid hv; clear hv
        have sb : ((c.toNat : Int) - 65) % 256 = (c.toNat : Int) - 65 := by omega
        have f48 : decide (48 ≤ (c.toNat : Int)) = true := by simp; omega
        have f57 : decide ((c.toNat : Int) ≤ 57) = false := by simp; omega
        have f97 : decide (97 ≤ (c.toNat : Int)) = false := by simp; omega
        have f65 : decide (65 ≤ (c.toNat : Int)) = true := by simp; omega
        have f70 : decide ((c.toNat : Int) ≤ 70) = true := by simp; omega
        obtain ⟨d4, d5⟩ := d4
        clear d1 d2
        have e0 : E = none := HX.out.2.2 (by rw [HV.out]; omega)
        clear HE; subst e0
        go_wp2_with fail
        go_ret2
        exact ⟨rfl, Below.refl _ _⟩
      have hv : hexV c.toNat = 99 := by unfold hexV; rw [if_neg d1, if_neg d2, if_neg d4]
      have e0 : E = none := HX.out.2.2 (by rw [hv]; omega)
      clear HE; subst e0
      clear hv
      by_cases e0 : c.toNat < 48
      · have f48 : decide (48 ≤ (c.toNat : Int)) = false := by simp; omega
        have f97 : decide (97 ≤ (c.toNat : Int)) = false := by simp; omega
        have f65 : decide (65 ≤ (c.toNat : Int)) = false := by simp; omega
        clear d1 d2 d4
        go_wp2_with fail
        go_ret2
        exact ⟨rfl, Below.refl _ _⟩
      by_cases e1 : c.toNat < 65
      · have f48 : decide (48 ≤ (c.toNat : Int)) = true := by simp; omega
        have f57 : decide ((c.toNat : Int) ≤ 57) = false := by simp; omega
        have f97 : decide (97 ≤ (c.toNat : Int)) = false := by simp; omega
        have f65 : decide (65 ≤ (c.toNat : Int)) = false := by simp; omega
        clear d1 d2 d4
        go_wp2_with fail
        go_ret2
        exact ⟨rfl, Below.refl _ _⟩
      by_cases e2 : c.toNat < 97
      · have f48 : decide (48 ≤ (c.toNat : Int)) = true := by simp; omega
        have f57 : decide ((c.toNat : Int) ≤ 57) = false := by simp; omega
        have f97 : decide (97 ≤ (c.toNat : Int)) = false := by simp; omega
        have f65 : decide (65 ≤ (c.toNat : Int)) = true := by simp; omega
        have f70 : decide ((c.toNat : Int) ≤ 70) = false := by simp; omega
        clear d1 d2 d4
        go_wp2_with fail
        go_ret2
        exact ⟨rfl, Below.refl _ _⟩
      have f48 : decide (48 ≤ (c.toNat : Int)) = true := by simp; omega
      have f57 : decide ((c.toNat : Int) ≤ 57) = false := by simp; omega
      have f97 : decide (97 ≤ (c.toNat : Int)) = true := by simp; omega
      have f102 : decide ((c.toNat : Int) ≤ 102) = false := by simp; omega
      have f65 : decide (65 ≤ (c.toNat : Int)) = true := by simp; omega
      have f70 : decide ((c.toNat : Int) ≤ 70) = false := by simp; omega
      clear d1 d2 d4
      go_wp2_with fail
      go_ret2
      exact ⟨rfl, Below.refl _ _⟩
    · obtain rfl : j = s.size - 1 := by omega
      have hr : E = if signB (numV 10 (s.data.toList.drop 1)) then some (utf (numV 10 (s.data.toList.drop 1))) else none := by
        rw [HE.out]; exact NumTo.full (by rw [hul]; exact hn) (fun e => by rw [e] at hul; simp at hul; omega) (by omega)
      rw [List.take_of_length_le (by omega)] at hbound ⊢
      clear HE hn HG
      generalize numV 10 (s.data.toList.drop 1) = V at *
      cases hsg : signB V with
      | false =>
        rw [hsg] at hr
        have e0 : E = none := hr
        clear hr; subst e0
        go_wp2_with (first | (go_at_call 27; refine (rsign_b V false hsg _).mono ?_; rintro e w' ⟨rfl, rfl⟩))
        go_ret2
        exact ⟨rfl, Below.refl _ _⟩
      | true =>
        rw [hsg] at hr
        have e0 : E = some (utf V) := hr
        clear hr
        have hu := fun W => rutf_c V hsg W
        generalize utf V = U at e0 hu
        subst e0
        have HU := Lib.hid hu; clear hu
        go_wp2_with (first | (go_at_call 27; refine (rsign_b V true hsg _).mono ?_; rintro e w' ⟨rfl, rfl⟩) | (go_at_call 79; refine (HU.out _).mono ?_; rintro e w' ⟨rfl, hb2⟩))
        go_ret2
        exact ⟨rfl, hb2⟩

set_option maxRecDepth 1000000 in
set_option maxHeartbeats 8000000 in
theorem rent_16 (s : ByteArray) (w : World) (hs : s.size ≤ 2147483648) (k1 : (s.toList == [97, 109, 112]) = false) (k2 : (s.toList == [108, 116]) = false) (k3 : (s.toList == [103, 116]) = false)
    (k4 : (s.toList == [113, 117, 111, 116]) = false) (k5 : (s.toList == [97, 112, 111, 115]) = false) (h0 : 1 < s.size) (hc0 : s[0] = 35) (hc1 : s[1] = 120) (ne : s.toList.isEmpty = false) :
    Calls Tryz.prog 53 #[.string s] w fun e w' => e = .returned (entV (numE 16 (s.data.toList.drop 2))) ∧ Below w.heap.size w w' := by
  obtain ⟨E, hE⟩ : ∃ E, E = numE 16 (s.data.toList.drop 2) := ⟨_, rfl⟩
  rw [← hE]
  have hul : (s.data.toList.drop 2).length = s.size - 2 := by rw [List.length_drop, size_list]
  skip
  by_cases hz : s.size = 2
  · have e0 : E = none := by rw [hE]; exact numE_none _ _ (Or.inl (List.eq_nil_of_length_eq_zero (by omega)))
    clear hE; subst e0
    rw [rent_none]
    go_enter Tryz.func53, Tryz.ntmps53
    go_wp2_with fail
    go_ret2
    exact ⟨rfl, Below.refl _ _⟩
  by_cases h8 : 2 + 8 < s.size
  · have e0 : E = none := by rw [hE]; exact numE_none _ _ (Or.inr (Or.inl (by omega)))
    clear hE; subst e0
    rw [rent_none]
    have h8' : decide (8 < (s.size : Int) - 2) = true := by simp; omega
    have hz' : decide ((s.size : Int) ≤ 2) = false := by simp; omega
    go_enter Tryz.func53, Tryz.ntmps53
    go_wp2_with fail
    go_ret2
    exact ⟨rfl, Below.refl _ _⟩
  have HE := Lib.hid hE; clear hE
  have h8' : decide (8 < (s.size : Int) - 2) = false := by simp; omega
  have hz' : decide ((s.size : Int) ≤ 2) = false := by simp; omega
  go_enter Tryz.func53, Tryz.ntmps53
  go_wp2_with fail
  go_loopg [6, 7] (s.size - 2) (fun g n i wr => w = wr ∧ ∃ j : Nat, 2 + j ≤ s.size ∧ g = s.size - 2 - j ∧ i = .int .i64 (2 + (j : Int)) ∧ n = .int .i64 (numV 16 ((s.data.toList.drop 2).take j)) ∧ NumTo 16 (s.data.toList.drop 2) j)
  case atStart => exact ⟨rfl, 0, by omega, by omega, rfl, rfl, NumTo.start _ _⟩
  case round =>
    obtain ⟨rfl, j, hj, hg, rfl, rfl, hn⟩ := hrel
    have hbound := numV_small 16 (by omega) _ hn.dig (by rw [List.length_take]; omega)
    have HG := Lib.hid (And.intro hg hn); clear hg
    by_cases hlt : 2 + j < s.size
    · have hget := getD_at s (2 + j) hlt
      rw [← drop_getD] at hget
      have htk := numV_take 16 (s.data.toList.drop 2) j (by omega)
      have hnx := hn.next (by omega : j < (s.data.toList.drop 2).length)
      have hno := NumTo.no (base := 16) (by omega : j < (s.data.toList.drop 2).length)
      rw [hget] at htk hnx hno
      obtain ⟨c, hc⟩ : ∃ c, s[2 + j]'hlt = c := ⟨_, rfl⟩
      rw [hc] at htk hnx hno hget
      have hi : ((2 : Int) + (j : Int)).toNat = 2 + j := by omega
      rw [← HE.out] at hno
      have HX := Lib.hid (And.intro htk (And.intro hnx hno)); clear htk hnx hno hn hget
      generalize numV 16 ((s.data.toList.drop 2).take j) = V at *
      by_cases d1 : 48 ≤ c.toNat ∧ c.toNat ≤ 57
      · have hv : hexV c.toNat = c.toNat - 48 := by unfold hexV; rw [if_pos d1]
        have HV := Lib.hid hv; clear hv
        obtain ⟨d1, d2⟩ := d1
        have sb : ((c.toNat : Int) - 48) % 256 = (c.toNat : Int) - 48 := by omega
        go_wp2_with fail
        go_roundg (s.size - 2 - (j + 1))
        case measure => have := HG.out.1; omega
        case rel => exact ⟨rfl, j + 1, by omega, rfl, by go_num, by rw [HX.out.1, HV.out]; go_num, HX.out.2.1 (by rw [HV.out]; omega)⟩
      by_cases d2 : 97 ≤ c.toNat ∧ c.toNat ≤ 102
      · have hv : hexV c.toNat = c.toNat - 97 + 10 := by unfold hexV; rw [if_neg d1, if_pos d2]
        have HV := Lib.hid hv; clear hv
        have sb : ((c.toNat : Int) - 97) % 256 = (c.toNat : Int) - 97 := by omega
        have f48 : decide (48 ≤ (c.toNat : Int)) = true := by simp; omega
        have f57 : decide ((c.toNat : Int) ≤ 57) = false := by simp; omega
        have f97 : decide (97 ≤ (c.toNat : Int)) = true := by simp; omega
        have f102 : decide ((c.toNat : Int) ≤ 102) = true := by simp; omega
        obtain ⟨d2, d3⟩ := d2
        clear d1
        go_wp2_with fail
        go_roundg (s.size - 2 - (j + 1))
        case measure => have := HG.out.1; omega
        case rel => exact ⟨rfl, j + 1, by omega, rfl, by go_num, by rw [HX.out.1, HV.out]; go_num, HX.out.2.1 (by rw [HV.out]; omega)⟩
      by_cases d4 : 65 ≤ c.toNat ∧ c.toNat ≤ 70
      · have hv : hexV c.toNat = c.toNat - 65 + 10 := by unfold hexV; rw [if_neg d1, if_neg d2, if_pos d4]
        have HV := Lib.hid hv; clear hv
        have sb : ((c.toNat : Int) - 65) % 256 = (c.toNat : Int) - 65 := by omega
        have f48 : decide (48 ≤ (c.toNat : Int)) = true := by simp; omega
        have f57 : decide ((c.toNat : Int) ≤ 57) = false := by simp; omega
        have f97 : decide (97 ≤ (c.toNat : Int)) = false := by simp; omega
        have f65 : decide (65 ≤ (c.toNat : Int)) = true := by simp; omega
        have f70 : decide ((c.toNat : Int) ≤ 70) = true := by simp; omega
        obtain ⟨d4, d5⟩ := d4
        clear d1 d2
        go_wp2_with fail
        go_roundg (s.size - 2 - (j + 1))
        case measure => have := HG.out.1; omega
        case rel => exact ⟨rfl, j + 1, by omega, rfl, by go_num, by rw [HX.out.1, HV.out]; go_num, HX.out.2.1 (by rw [HV.out]; omega)⟩
      have hv : hexV c.toNat = 99 := by unfold hexV; rw [if_neg d1, if_neg d2, if_neg d4]
      have e0 : E = none := HX.out.2.2 (by rw [hv]; omega)
      clear HE; subst e0
      clear hv
      by_cases e0 : c.toNat < 48
      · have f48 : decide (48 ≤ (c.toNat : Int)) = false := by simp; omega
        have f97 : decide (97 ≤ (c.toNat : Int)) = false := by simp; omega
        have f65 : decide (65 ≤ (c.toNat : Int)) = false := by simp; omega
        clear d1 d2 d4
        go_wp2_with fail
        go_ret2
        exact ⟨rfl, Below.refl _ _⟩
      by_cases e1 : c.toNat < 65
      · have f48 : decide (48 ≤ (c.toNat : Int)) = true := by simp; omega
        have f57 : decide ((c.toNat : Int) ≤ 57) = false := by simp; omega
        have f97 : decide (97 ≤ (c.toNat : Int)) = false := by simp; omega
        have f65 : decide (65 ≤ (c.toNat : Int)) = false := by simp; omega
        clear d1 d2 d4
        go_wp2_with fail
        go_ret2
        exact ⟨rfl, Below.refl _ _⟩
      by_cases e2 : c.toNat < 97
      · have f48 : decide (48 ≤ (c.toNat : Int)) = true := by simp; omega
        have f57 : decide ((c.toNat : Int) ≤ 57) = false := by simp; omega
        have f97 : decide (97 ≤ (c.toNat : Int)) = false := by simp; omega
        have f65 : decide (65 ≤ (c.toNat : Int)) = true := by simp; omega
        have f70 : decide ((c.toNat : Int) ≤ 70) = false := by simp; omega
        clear d1 d2 d4
        go_wp2_with fail
        go_ret2
        exact ⟨rfl, Below.refl _ _⟩
      have f48 : decide (48 ≤ (c.toNat : Int)) = true := by simp; omega
      have f57 : decide ((c.toNat : Int) ≤ 57) = false := by simp; omega
      have f97 : decide (97 ≤ (c.toNat : Int)) = true := by simp; omega
      have f102 : decide ((c.toNat : Int) ≤ 102) = false := by simp; omega
      have f65 : decide (65 ≤ (c.toNat : Int)) = true := by simp; omega
      have f70 : decide ((c.toNat : Int) ≤ 70) = false := by simp; omega
      clear d1 d2 d4
      go_wp2_with fail
      go_ret2
      exact ⟨rfl, Below.refl _ _⟩
    · obtain rfl : j = s.size - 2 := by omega
      have hr : E = if signB (numV 16 (s.data.toList.drop 2)) then some (utf (numV 16 (s.data.toList.drop 2))) else none := by
        rw [HE.out]; exact NumTo.full (by rw [hul]; exact hn) (fun e => by rw [e] at hul; simp at hul; omega) (by omega)
      rw [List.take_of_length_le (by omega)] at hbound ⊢
      clear HE hn HG
      generalize numV 16 (s.data.toList.drop 2) = V at *
      cases hsg : signB V with
      | false =>
        rw [hsg] at hr
        have e0 : E = none := hr
        clear hr; subst e0
        go_wp2_with (first | (go_at_call 27; refine (rsign_b V false hsg _).mono ?_; rintro e w' ⟨rfl, rfl⟩))
        go_ret2
        exact ⟨rfl, Below.refl _ _⟩
      | true =>
        rw [hsg] at hr
        have e0 : E = some (utf V) := hr
        clear hr
        have hu := fun W => rutf_c V hsg W
        generalize utf V = U at e0 hu
        subst e0
        have HU := Lib.hid hu; clear hu
        go_wp2_with (first | (go_at_call 27; refine (rsign_b V true hsg _).mono ?_; rintro e w' ⟨rfl, rfl⟩) | (go_at_call 79; refine (HU.out _).mono ?_; rintro e w' ⟨rfl, hb2⟩))
        go_ret2
        exact ⟨rfl, hb2⟩
end Go.Proofs.YtcicibeggkmlcaaGreatDoor

namespace Go.Proofs.YtcicibeggkmlcaaGreatDoor
open Go.RowKit Go.Sof

theorem rent_five (s : ByteArray) (w : World) (h : s.data.toList = [97, 109, 112] ∨ s.data.toList = [108, 116] ∨ s.data.toList = [103, 116] ∨ s.data.toList = [113, 117, 111, 116] ∨ s.data.toList = [97, 112, 111, 115]) :
    Calls Tryz.prog 53 #[.string s] w fun e w' => e = .returned (entV (entity s.data.toList)) ∧ Below w.heap.size w w' := by
  rcases h with h | h | h | h | h
  · rw [h, ba_of s _ h, show entity [97, 109, 112] = some [38] from by decide +kernel, show entV (some [38]) = .tuple #[.string ⟨#[38]⟩, .bool true] from rfl]
    go_enter Tryz.func53, Tryz.ntmps53
    go_wp2_with fail
    go_ret2
    exact ⟨rfl, Below.refl _ _⟩
  · rw [h, ba_of s _ h, show entity [108, 116] = some [60] from by decide +kernel, show entV (some [60]) = .tuple #[.string ⟨#[60]⟩, .bool true] from rfl]
    go_enter Tryz.func53, Tryz.ntmps53
    go_wp2_with fail
    go_ret2
    exact ⟨rfl, Below.refl _ _⟩
  · rw [h, ba_of s _ h, show entity [103, 116] = some [62] from by decide +kernel, show entV (some [62]) = .tuple #[.string ⟨#[62]⟩, .bool true] from rfl]
    go_enter Tryz.func53, Tryz.ntmps53
    go_wp2_with fail
    go_ret2
    exact ⟨rfl, Below.refl _ _⟩
  · rw [h, ba_of s _ h, show entity [113, 117, 111, 116] = some [34] from by decide +kernel, show entV (some [34]) = .tuple #[.string ⟨#[34]⟩, .bool true] from rfl]
    go_enter Tryz.func53, Tryz.ntmps53
    go_wp2_with fail
    go_ret2
    exact ⟨rfl, Below.refl _ _⟩
  · rw [h, ba_of s _ h, show entity [97, 112, 111, 115] = some [39] from by decide +kernel, show entV (some [39]) = .tuple #[.string ⟨#[39]⟩, .bool true] from rfl]
    go_enter Tryz.func53, Tryz.ntmps53
    go_wp2_with fail
    go_ret2
    exact ⟨rfl, Below.refl _ _⟩

theorem cons_list (s : ByteArray) (h : 0 < s.size) : s.data.toList = s[0] :: s.data.toList.drop 1 := by
  have := get_cons s 0 h
  rwa [List.drop_zero] at this

set_option maxRecDepth 100000 in
theorem rent_c (s : ByteArray) (w : World) (hs : s.size ≤ 2147483648) :
    Calls Tryz.prog 53 #[.string s] w fun e w' => e = .returned (entV (entity s.data.toList)) ∧ Below w.heap.size w w' := by
  by_cases a1 : s.data.toList = [97, 109, 112]
  · exact rent_five s w (Or.inl a1)
  by_cases a2 : s.data.toList = [108, 116]
  · exact rent_five s w (Or.inr (Or.inl a2))
  by_cases a3 : s.data.toList = [103, 116]
  · exact rent_five s w (Or.inr (Or.inr (Or.inl a3)))
  by_cases a4 : s.data.toList = [113, 117, 111, 116]
  · exact rent_five s w (Or.inr (Or.inr (Or.inr (Or.inl a4))))
  by_cases a5 : s.data.toList = [97, 112, 111, 115]
  · exact rent_five s w (Or.inr (Or.inr (Or.inr (Or.inr a5))))
  have k1 := eqStr_ne s _ a1
  have k2 := eqStr_ne s _ a2
  have k3 := eqStr_ne s _ a3
  have k4 := eqStr_ne s _ a4
  have k5 := eqStr_ne s _ a5
  have hent := entity_rest _ a1 a2 a3 a4 a5
  clear a1 a2 a3 a4 a5
  by_cases h0 : s.size = 0
  · have e0 : s = ⟨#[]⟩ := ba_of s [] (List.eq_nil_of_length_eq_zero h0)
    subst e0
    rw [show entity (ByteArray.mk #[]).data.toList = none from by decide +kernel, rent_none]
    clear hent k1 k2 k3 k4 k5
    go_enter Tryz.func53, Tryz.ntmps53
    go_wp2_with fail
    go_ret2
    exact ⟨rfl, Below.refl _ _⟩
  have hcons := cons_list s (by omega)
  have ne : s.toList.isEmpty = false := by rw [Lib.toList_data, hcons]; rfl
  by_cases h35 : s[0]'(by omega) = 35
  · by_cases h1 : s.size = 1
    · have e0 : s = ⟨#[35]⟩ := ba_of s [35] (by
        rw [hcons, h35]
        congr 1
        apply List.eq_nil_of_length_eq_zero; rw [List.length_drop, size_list]; omega)
      subst e0
      rw [show entity (ByteArray.mk #[35]).data.toList = none from by decide +kernel, rent_none]
      clear hent k1 k2 k3 k4 k5 hcons ne h35
      go_enter Tryz.func53, Tryz.ntmps53
      go_wp2_with fail
      go_ret2
      exact ⟨rfl, Below.refl _ _⟩
    · have hcons2 := get_cons s 1 (by omega)
      by_cases hx : s[1]'(by omega) = 120
      · have he : entity s.data.toList = numE 16 (s.data.toList.drop 2) := by
          rw [hcons, h35, hcons2, hx]; exact entity_hex _
        rw [he]
        exact rent_16 s w hs k1 k2 k3 k4 k5 (by omega) h35 hx ne
      · have he : entity s.data.toList = numE 10 (s.data.toList.drop 1) := by
          rw [hent]
          unfold isHash isHex hexOf hashOf Lib.trimPrefix
          simp only [hasPrefix_one]
          rw [hcons, h35, hcons2]
          have e1 : headIs (s[1]'(by omega) :: s.data.toList.drop (1 + 1)) 120 = false := by unfold headIs; simpa using hx
          have e2 : ∀ u : Bytes, headIs (35 :: u) 35 = true := fun u => rfl
          simp [e1, e2]
        rw [he]
        exact rent_10 s w hs k1 k2 k3 k4 k5 (by omega) h35 hx ne
  · have he : entity s.data.toList = none := by
      rw [hent, if_pos]
      unfold isHash; rw [hasPrefix_one, hcons]; unfold headIs; simpa using h35
    rw [he, rent_none]
    have n35 := ne_u8 (s[0]'(by omega)) 35 35 rfl h35
    have hz : 0 < s.size := by omega
    clear hent he hcons h35
    go_enter Tryz.func53, Tryz.ntmps53
    go_wp2_with fail
    go_ret2
    exact ⟨rfl, Below.refl _ _⟩

/-- what the inner loop of Unescape has seen: no ';' so far. -/
def NoSemi (t : Bytes) (j : Nat) : Prop := (59 : UInt8) ∉ t.take j
theorem NoSemi.start (t : Bytes) : NoSemi t 0 := by unfold NoSemi; simp
theorem NoSemi.next {t : Bytes} {j : Nat} (h : NoSemi t j) (hj : j < t.length) (hc : t.getD j 0 ≠ 59) : NoSemi t (j + 1) := by
  unfold NoSemi at *
  rw [List.take_succ_eq_append_getElem hj, List.mem_append]
  rw [List.getD_eq_getElem?_getD, List.getElem?_eq_getElem hj] at hc
  simp at hc ⊢
  exact ⟨by simpa using h, fun e => hc e.symm⟩
theorem NoSemi.full {t : Bytes} (h : NoSemi t t.length) : (59 : UInt8) ∉ t := by unfold NoSemi at h; rwa [List.take_length] at h
theorem NoSemi.hit {t : Bytes} {j : Nat} (h : NoSemi t j) (hj : j < t.length) (hc : t.getD j 0 = 59) : (59 : UInt8) ∈ t ∧ nameOf t = t.take j := by
  rw [List.getD_eq_getElem?_getD, List.getElem?_eq_getElem hj] at hc
  simp at hc
  refine ⟨hc ▸ List.getElem_mem hj, ?_⟩
  unfold nameOf NoSemi at *
  have e := List.take_append_drop j t
  have e2 := List.drop_eq_getElem_cons hj
  rw [hc] at e2
  generalize t.take j = a at *
  rw [← e, e2, List.takeWhile_append_of_pos]
  · simp
  · intro x hx; simp; rintro rfl; exact h hx

set_option maxRecDepth 100000 in
set_option maxHeartbeats 4000000 in
theorem run_c (s : ByteArray) (w : World) (hs : s.size ≤ 2147483648) :
    Calls Tryz.prog 26 #[.string s] w fun e w' => e = .returned (unV (unR s.data.toList)) ∧ Below w.heap.size w w' := by
  obtain ⟨U, hU⟩ : ∃ U, U = unR s.data.toList := ⟨_, rfl⟩
  rw [← hU]
  have HU := Lib.hid hU; clear hU
  go_enter Tryz.func26, Tryz.ntmps26
  go_wp2_with fail
  go_loopg [5, 6] s.size (fun g t i wr => ∃ (p : Nat) (o : Bytes), g = s.size - p ∧ i = .int .i64 p ∧ t = .string ⟨o.toArray⟩ ∧ UnAt s.data.toList p o ∧ Below w.heap.size w wr)
  case atStart => exact ⟨0, [], rfl, rfl, rfl, UnAt.start _, Below.refl _ w⟩
  case round =>
    obtain ⟨p, o, hg, rfl, rfl, hun, hb⟩ := hrel
    have hpl : p ≤ s.size := hun.le
    have hol := hun.len
    have HG := Lib.hid (And.intro hg (And.intro hun hb)); clear hg
    have hsz := hb.size
    by_cases hlt : p < s.size
    · have hcons := get_cons s p hlt
      obtain ⟨b, hbx⟩ : ∃ x, s[p]'hlt = x := ⟨_, rfl⟩
      rw [hbx] at hcons
      have hblt : (b.toNat : Int) < 256 := by have := b.toNat_lt; omega
      by_cases h60 : b = 60
      · subst h60
        have hr := hun.err (un_lt hcons)
        rw [Nat.zero_add, ← HU.out] at hr
        subst hr
        clear hun hcons hb
        go_wp2_with fail
        go_ret3
        exact ⟨rfl, HG.out.2.2⟩
      · have n60 := ne_u8 b 60 60 rfl h60
        by_cases h38 : b = 38
        · subst h38
          have hand := un_and hcons
          have HA := Lib.hid (And.intro hand hun)
          clear hun hcons hb hand n60 h60
          obtain ⟨wo, rfl⟩ : ∃ wo : World, wo = wr := ⟨_, rfl⟩
          go_wp2_with fail
          go_loopg [7] (s.size - p - 1) (fun g i wr => wo = wr ∧ ∃ j : Nat, p + 1 + j ≤ s.size ∧ g = s.size - p - 1 - j ∧ i = .int .i64 ((p : Int) + 1 + (j : Int)) ∧ NoSemi (s.data.toList.drop (p + 1)) j)
          case atStart => exact ⟨rfl, 0, by omega, by omega, by go_num, NoSemi.start _⟩
          case round =>
            obtain ⟨rfl, j, hj, hg2, rfl, hns⟩ := hrel
            have hdl : (s.data.toList.drop (p + 1)).length = s.size - (p + 1) := by rw [List.length_drop, size_list]
            by_cases hlj : p + 1 + j < s.size
            · have hget := getD_at s (p + 1 + j) hlj
              rw [← drop_getD] at hget
              obtain ⟨c, hc⟩ : ∃ c, s[p + 1 + j]'hlj = c := ⟨_, rfl⟩
              rw [hc] at hget
              have hi : ((p : Int) + 1 + (j : Int)).toNat = p + 1 + j := by omega
              by_cases hc59 : c = 59
              · subst hc59
                have hh := hns.hit (by omega) hget
                have hand := HA.out.1
                rw [if_pos hh.1, hh.2] at hand
                have hent := fun W => rent_c (s.extract (p + 1) (p + 1 + j)) W (by simp; omega)
                rw [mid_list, entV_eq] at hent
                have hlen : ((s.data.toList.drop (p + 1)).take j).length = j := by rw [List.length_take]; omega
                have helen := entity_len ((s.data.toList.drop (p + 1)).take j)
                have hdd : (s.data.toList.drop p).drop (j + 2) = (s.data.toList.drop (p + 1)).drop (j + 1) := by
                  rw [List.drop_drop, List.drop_drop]; congr 1; omega
                rw [hlen, ← hdd] at hand
                have hi1 : ((p : Int) + 1).toNat = p + 1 := by omega
                have hne : ((p : Int) + 1 + (j : Int) == (s.size : Int)) = false := beq_eq_false_iff_ne.2 (by omega)
                generalize (s.data.toList.drop (p + 1)).take j = nm at *
                cases hE : entity nm with
                | none =>
                  rw [hE] at hand hent
                  have hr := HA.out.2.err hand
                  rw [Nat.zero_add, ← HU.out] at hr
                  subst hr
                  rw [show entB none = false from rfl] at hent
                  generalize entS none = eS at hent
                  have HC := Lib.hid hent
                  clear hent hE hand helen hdd hget hns hh HA hlen
                  go_wp2_with (first | (go_at_call 53; refine (HC.out _).mono ?_; rintro e w2 ⟨rfl, hb2⟩))
                  go_ret3
                  exact ⟨rfl, HG.out.2.2.trans (hb2.mono hsz)⟩
                | some x =>
                  rw [hE] at hand hent
                  have hxl := helen x hE
                  have hnx := HA.out.2.next (n := j + 2) (x := x) (by rw [size_list]; omega) (by omega) hand
                  rw [show entB (some x) = true from rfl] at hent
                  have hxe : (entS (some x)).data = x.toArray := rfl
                  have hxs : (entS (some x)).size = x.length := by show (entS (some x)).data.size = _; rw [hxe]; simp
                  generalize entS (some x) = eS at hent hxe hxs
                  have HC := Lib.hid (And.intro hent (And.intro hxe hnx))
                  have hob : o.length ≤ 2147483648 := by omega
                  clear hent hE hand helen hdd hget hns hh HA hlen hxe hnx
                  go_wp2_with (first | (go_at_call 53; refine (HC.out.1 _).mono ?_; rintro e w2 ⟨rfl, hb2⟩))
                  go_roundg (s.size - (p + (j + 2)))
                  case measure => have := HG.out.1; omega
                  case rel => exact ⟨p + (j + 2), o ++ x, rfl, by go_num, by rw [cat_ba' o eS x HC.out.2.1], HC.out.2.2, HG.out.2.2.trans (hb2.mono hsz)⟩
              · have n59 := ne_u8 c 59 59 rfl hc59
                have HN := Lib.hid (hns.next (by omega) (by rw [hget]; exact hc59))
                clear hns hget
                go_wp2_with fail
                go_roundg (s.size - p - 1 - (j + 1))
                case measure => omega
                case rel => exact ⟨rfl, j + 1, by omega, rfl, by go_num, HN.out⟩
            · obtain rfl : j = s.size - (p + 1) := by omega
              have hh : (59 : UInt8) ∉ s.data.toList.drop (p + 1) := NoSemi.full (by rw [hdl]; exact hns)
              have hand := HA.out.1
              rw [if_neg hh] at hand
              have hr := HA.out.2.err hand
              rw [Nat.zero_add, ← HU.out] at hr
              subst hr
              have hent := fun W => rent_c (s.extract (p + 1) s.size) W (by simp; omega)
              rw [entV_eq] at hent
              generalize entity (s.extract (p + 1) s.size).data.toList = E at hent
              generalize entB E = eB at hent
              generalize entS E = eS at hent
              have HC := Lib.hid hent
              have hi1 : ((p : Int) + 1).toNat = p + 1 := by omega
              have hi2 : (p : Int) + 1 + ((s.size - (p + 1) : Nat) : Int) = (s.size : Int) := by omega
              clear hent hand hh hns hdl HA
              rw [hi2]
              go_wp2_with (first | (go_at_call 53; refine (HC.out _).mono ?_; rintro e w2 ⟨rfl, hb2⟩))
              go_ret3
              exact ⟨rfl, HG.out.2.2.trans (hb2.mono hsz)⟩
        · have n38 := ne_u8 b 38 38 rfl h38
          have hoth := un_other hcons h60 h38
          have hne := drop_ne hlt
          have hcall := fun W => first_c (s.extract p s.size) W (by simp; omega)
          rw [Lib.extract_to_end] at hcall
          have hwid := firstL_wid _ hne
          have hle := wid_le _ hne
          rw [List.length_drop, size_list] at hle
          rw [← hwid] at hoth hle
          by_cases hK : (firstL (s.data.toList.drop p)).2 = 0
          · rw [if_pos hK] at hoth
            have hr := hun.err hoth
            rw [Nat.zero_add, ← HU.out] at hr
            subst hr
            generalize firstL (s.data.toList.drop p) = F at *
            obtain ⟨R, K⟩ := F
            dsimp only at *
            subst hK
            have HC := Lib.hid hcall
            clear hun hcons hb hcall hwid hne hoth hle
            go_wp2_with (go_at_call 45; refine (HC.out _).mono ?_; rintro e w2 ⟨rfl, rfl⟩)
            go_ret3
            exact ⟨rfl, HG.out.2.2⟩
          · rw [if_neg hK] at hoth
            have hnx := hun.next (n := (firstL (s.data.toList.drop p)).2) (x := List.take (firstL (s.data.toList.drop p)).2 (s.data.toList.drop p)) (by rw [size_list]; omega) (by rw [List.length_take]; omega) hoth
            have hmid := mid_list s p (firstL (s.data.toList.drop p)).2
            generalize firstL (s.data.toList.drop p) = F at *
            obtain ⟨R, K⟩ := F
            dsimp only at *
            have hk : ((K : Int) == 0) = false := beq_eq_false_iff_ne.2 (by omega)
            have hxs : (s.extract p (p + K)).size = K := by simp; omega
            have HC := Lib.hid (And.intro hcall (And.intro hmid (And.intro hnx hK)))
            have hob : o.length ≤ 2147483648 := by omega
            have hi : ((p : Int) + (K : Int)).toNat = p + K := by omega
            clear hun hcons hb hcall hwid hne hoth hmid hnx hK
            go_wp2_with (go_at_call 45; refine (HC.out.1 _).mono ?_; rintro e w2 ⟨rfl, rfl⟩)
            go_roundg (s.size - (p + K))
            case measure => have := HG.out.1; have := HC.out.2.2.2; omega
            case rel => exact ⟨p + K, o ++ List.take K (s.data.toList.drop p), rfl, by go_num, by rw [cat_ba' o _ _ (Array.toList_inj.1 HC.out.2.1)], HC.out.2.2.1, HG.out.2.2⟩
    · have hr := hun.fin (by rw [size_list]; omega)
      rw [← HU.out] at hr
      subst hr
      clear hun
      go_wp2_with fail
      go_ret3
      exact ⟨rfl, hb⟩
end Go.Proofs.YtcicibeggkmlcaaGreatDoor
