/- The walk of the reference of chars: Name. Conditions: none. -/
import Derived.Test.YtcicibeggkmlcaaGreatDoorRfB
namespace Go.Proofs.YtcicibeggkmlcaaGreatDoor
open Go.RowKit Go.Sof

/-- what the loop of Name has seen. -/
def NameTo (l : Bytes) (k : Nat) : Prop := (l.take k).all nameCh = true ∧ (0 < k → letterB (byN l 0) = true)
theorem NameTo.start (l : Bytes) : NameTo l 0 := ⟨by simp, fun h => absurd h (Nat.lt_irrefl _)⟩
theorem NameTo.letter {l : Bytes} {k : Nat} (h : NameTo l k) (hk : k < l.length) (hc : letterB (byN l k) = true) : NameTo l (k + 1) := by
  refine ⟨?_, fun _ => ?_⟩
  · rw [all_take_succ hk nameCh h.1]; unfold nameCh; unfold byN at hc; rw [hc]; rfl
  · by_cases h0 : k = 0
    · subst h0; exact hc
    · exact h.2 (by omega)
theorem NameTo.digit {l : Bytes} {k : Nat} (h : NameTo l k) (hk : k < l.length) (h0 : k ≠ 0) (h1 : 48 ≤ byN l k) (h2 : byN l k ≤ 57) : NameTo l (k + 1) := by
  refine ⟨?_, fun _ => h.2 (by omega)⟩
  rw [all_take_succ hk nameCh h.1]; unfold byN at h1 h2; generalize l.getD k 0 = c at *; unfold nameCh; simp [h1, h2]
theorem NameTo.no {l : Bytes} {k : Nat} (hk : k < l.length) (h1 : letterB (byN l k) = false) (h2 : k = 0 ∨ byN l k < 48 ∨ 57 < byN l k) : nameB l = false := by
  rcases h2 with rfl | h2
  · unfold nameB; rw [h1]; simp
  · have : nameCh (l.getD k 0) = false := by
      unfold byN at h1 h2; generalize l.getD k 0 = c at *; unfold nameCh; rw [h1]; simp; omega
    have ha : l.all nameCh = false := by
      cases hh : l.all nameCh with
      | false => rfl
      | true =>
        rw [List.all_eq_true] at hh
        rw [List.getD_eq_getElem?_getD, List.getElem?_eq_getElem hk] at this
        have := hh _ (List.getElem_mem hk)
        simp_all
    unfold nameB; rw [ha]; simp
theorem NameTo.full {l : Bytes} (h : NameTo l l.length) (h1 : l ≠ []) (h2 : l.length ≤ 32) : nameB l = true := by
  have hp : 0 < l.length := List.length_pos_iff.2 h1
  have h3 := h.1
  rw [List.take_length] at h3
  unfold nameB
  rw [h3, h.2 hp]
  simp [h1, h2]

theorem letterB_iff (n : Nat) : letterB n = true ↔ (97 ≤ n ∧ n ≤ 122) ∨ (65 ≤ n ∧ n ≤ 90) ∨ n = 95 := by
  unfold letterB; simp; omega

set_option maxRecDepth 100000 in
set_option maxHeartbeats 4000000 in
theorem rname_c (s : ByteArray) (w : World) :
    Calls Tryz.prog 22 #[.string s] w fun e w' => e = .returned (.bool (nameB s.data.toList)) ∧ w = w' := by
  by_cases h0 : s.size = 0
  · have e0 : s = ⟨#[]⟩ := by
      obtain ⟨⟨l⟩⟩ := s
      have : l = [] := List.eq_nil_of_length_eq_zero h0
      rw [this]
    subst e0
    go_enter Tryz.func22, Tryz.ntmps22
    go_wp2
    go_ret
    exact ⟨rfl, rfl⟩
  · have hL : s.data.toList ≠ [] := fun e => h0 (by rw [← size_list, e]; rfl)
    have hne : s.toList.isEmpty = false := by rw [Lib.toList_data]; simpa using hL
    by_cases h32 : 32 < s.size
    · have hr : nameB s.data.toList = false := by
        unfold nameB; rw [size_list]; simp; intro _ h; omega
      rw [hr]
      go_enter Tryz.func22, Tryz.ntmps22
      go_wp2
      go_ret
      exact ⟨rfl, rfl⟩
    · obtain ⟨NB, hNB⟩ : ∃ b, b = nameB s.data.toList := ⟨_, rfl⟩
      rw [← hNB]
      have HN := Lib.hid (And.intro hNB hL); clear hNB hL
      go_enter Tryz.func22, Tryz.ntmps22
      go_wp2_with fail
      go_loopg [3] s.size (fun g i wr => w = wr ∧ ∃ k : Nat, k ≤ s.size ∧ g = s.size - k ∧ i = .int .i64 k ∧ NameTo s.data.toList k)
      case atStart => exact ⟨rfl, 0, Nat.zero_le _, rfl, rfl, NameTo.start _⟩
      case round =>
        obtain ⟨rfl, k, hk, hg, rfl, hat⟩ := hrel
        have HG := Lib.hid (And.intro hg hat); clear hg hat
        by_cases hlt : k < s.size
        · have hbk := byN_get s k hlt
          obtain ⟨b, hb⟩ : ∃ b, s[k]'hlt = b := ⟨_, rfl⟩
          rw [hb] at hbk
          have HB := Lib.hid hbk; clear hbk
          by_cases c1 : 97 ≤ b.toNat ∧ b.toNat ≤ 122
          · obtain ⟨c1, c2⟩ := c1
            go_wp2_with fail
            go_roundg (s.size - (k + 1))
            case measure => have := HG.out.1; omega
            case rel => exact ⟨rfl, k + 1, by omega, rfl, by go_num, HG.out.2.letter hlt (by rw [HB.out, letterB_iff]; omega)⟩
          by_cases c2 : 65 ≤ b.toNat ∧ b.toNat ≤ 90
          · obtain ⟨c2, c3⟩ := c2
            have c4 : decide (97 ≤ (b.toNat : Int)) = false := by simp; omega
            go_wp2_with fail
            go_roundg (s.size - (k + 1))
            case measure => have := HG.out.1; omega
            case rel => exact ⟨rfl, k + 1, by omega, rfl, by go_num, HG.out.2.letter hlt (by rw [HB.out, letterB_iff]; omega)⟩
          by_cases c3 : b.toNat = 95
          · go_wp2_with fail
            go_roundg (s.size - (k + 1))
            case measure => have := HG.out.1; omega
            case rel => exact ⟨rfl, k + 1, by omega, rfl, by go_num, HG.out.2.letter hlt (by rw [HB.out, letterB_iff]; omega)⟩
          have hl : letterB (byN s.data.toList k) = false := by
            rw [HB.out]
            cases hh : letterB b.toNat with
            | false => rfl
            | true => rw [letterB_iff] at hh; omega
          have HL := Lib.hid hl; clear hl
          have n3 : ((b.toNat : Int) == 95) = false := beq_eq_false_iff_ne.2 (by omega)
          have v1 : (decide (97 ≤ (b.toNat : Int)) && decide ((b.toNat : Int) ≤ 122)) = false := by simp; omega
          have v2 : (decide (65 ≤ (b.toNat : Int)) && decide ((b.toNat : Int) ≤ 90)) = false := by simp; omega
          by_cases hd : k = 0 ∨ b.toNat < 48 ∨ 57 < b.toNat
          · have hr : NB = false := by rw [HN.out.1]; exact NameTo.no hlt HL.out (by rw [HB.out]; exact hd)
            subst hr
            go_wp2_with fail
            all_goals first | (go_ret; exact ⟨rfl, rfl⟩) | (exfalso; simp_all; omega)
          · have hd1 : ((k : Int) == 0) = false := beq_eq_false_iff_ne.2 (by omega)
            have hd2 : 48 ≤ b.toNat := by omega
            have hd3 : b.toNat ≤ 57 := by omega
            have hl1 : decide ((b.toNat : Int) < 48) = false := by simp; omega
            have hl2 : decide (57 < (b.toNat : Int)) = false := by simp; omega
            have HD := Lib.hid hd; clear hd c1 c2 c3
            go_wp2_with fail
            go_roundg (s.size - (k + 1))
            case measure => have := HG.out.1; omega
            case rel => exact ⟨rfl, k + 1, by omega, rfl, by go_num, HG.out.2.digit hlt (fun e => HD.out (Or.inl e)) (by rw [HB.out]; exact hd2) (by rw [HB.out]; exact hd3)⟩
        · obtain rfl : k = s.size := by omega
          have hr : NB = true := by rw [HN.out.1]; exact NameTo.full HG.out.2 HN.out.2 (by rw [size_list]; omega)
          subst hr
          go_wp2_with fail
          go_ret
          exact ⟨rfl, rfl⟩
end Go.Proofs.YtcicibeggkmlcaaGreatDoor
