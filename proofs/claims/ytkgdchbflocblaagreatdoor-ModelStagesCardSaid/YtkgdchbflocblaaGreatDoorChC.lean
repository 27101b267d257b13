/- The walks of chars.Good, chars.Name. Conditions: the library's tables lie as they are laid. -/
import Derived.Test.YtkgdchbflocblaaGreatDoorChB
import Derived.Outline
import Derived.Lib.ConvBytes
namespace Go.Proofs.YtkgdchbflocblaaGreatDoor
open Go.RowKit Go.Sof

theorem goodB_iff (l : Bytes) : decide (badI l < 0) = decide (bad l = none) := by
  unfold badI
  cases bad l with
  | none => simp
  | some k => simp

theorem good_c (s : ByteArray) (w : World) (h : WOK w) (hs : s.size ≤ 4611686018427387904) :
    Calls Tryz.prog 137 #[.string s] w fun e w' => e = .returned (.bool (decide (bad s.data.toList = none))) ∧ Below w.heap.size w w' := by
  rw [← goodB_iff]
  have hc := bad_c s w h hs
  generalize badI s.data.toList = B at *
  go_enter Tryz.func137, Tryz.ntmps137
  go_wp2_with (first | (go_at_call 78; refine hc.mono ?_; rintro e w2 ⟨rfl, hb2⟩))
  go_ret
  exact ⟨rfl, hb2⟩

theorem size_list (s : ByteArray) : s.data.toList.length = s.size := rfl

/-- '[]byte(s)': a new row that holds the bytes. -/
theorem conv_bytes (s : ByteArray) (w : World) : ∃ cap w1, (convert 9 205 (.string s)).run Tryz.prog w = .ok (.slice (some ⟨w.heap.size, 0, none⟩) s.size cap) w1 ∧
    (∀ j, j < s.size → w1.cell? ⟨w.heap.size, j, none⟩ = some (.int .u8 (s.data.toList.getD j 0).toNat)) ∧ Below w.heap.size w w1 ∧ w1.heap.size = w.heap.size + 1 :=
  ⟨_, _, Lib.run_convert_string_bytes (P := Tryz.prog) w 9 205 5 s Tryz.underlying9 Tryz.underlying205 Tryz.underlying5, fun j hj => Lib.bytesWorld_cell w _ s j hj,
    ⟨rfl, rfl, rfl, by rw [Lib.bytesWorld_size]; omega, fun k hk => Lib.bytesWorld_at_old w _ s k hk⟩, Lib.bytesWorld_size w _ s⟩

theorem nameB_loop (l : Bytes) (hne : l ≠ []) (h32 : l.length ≤ 32) (hl : letterB (byN l 0) = true) : nameB l = l.all nameCh := by
  unfold nameB
  cases l with
  | nil => exact absurd rfl hne
  | cons b t => simp [hl]; intros; simpa using h32

theorem all_take_succ {l : Bytes} {k : Nat} (hk : k < l.length) (p : UInt8 → Bool) (h : (l.take k).all p = true) : (l.take (k + 1)).all p = p (l.getD k 0) := by
  rw [List.take_succ_eq_append_getElem hk, List.all_append, h, List.getD_eq_getElem?_getD, List.getElem?_eq_getElem hk]
  simp
theorem all_take_false {l : Bytes} {k : Nat} (p : UInt8 → Bool) (h : (l.take k).all p = false) : l.all p = false := by
  rw [← List.take_append_drop k l, List.all_append, h, Bool.false_and]

set_option maxRecDepth 100000 in
set_option maxHeartbeats 1000000 in
theorem name_c (s : ByteArray) (w : World) :
    Calls Tryz.prog 88 #[.string s] w fun e w' => e = .returned (.bool (nameB s.data.toList)) ∧ Below w.heap.size w w' := by
  by_cases h0 : s.size = 0
  · have e0 : s = ⟨#[]⟩ := by
      obtain ⟨⟨l⟩⟩ := s
      have : l = [] := List.eq_nil_of_length_eq_zero h0
      rw [this]
    subst e0
    go_enter Tryz.func88, Tryz.ntmps88
    go_wp2
    go_ret
    exact ⟨rfl, Below.refl _ _⟩
  · have hL : s.data.toList ≠ [] := fun e => h0 (by rw [← size_list, e]; rfl)
    have hne : s.toList.isEmpty = false := by rw [Lib.toList_data]; simpa using hL
    have hz0 : (0 : Int) < (s.size : Int) := by omega
    by_cases h32 : 32 < s.size
    · have hr : nameB s.data.toList = false := by
        unfold nameB; rw [size_list]; simp; intro _ h; omega
      rw [hr]
      go_enter Tryz.func88, Tryz.ntmps88
      go_wp2
      go_ret
      exact ⟨rfl, Below.refl _ _⟩
    · have hN : ∃ b, b = nameB s.data.toList := ⟨_, rfl⟩
      obtain ⟨NB, hNB⟩ := hN
      rw [← hNB]
      have hb0 : byN s.data.toList 0 = (s[0]'(by omega)).toNat := by
        unfold byN
        have h' : 0 < s.data.toList.length := by rw [size_list]; omega
        rw [List.getD_eq_getElem?_getD, List.getElem?_eq_getElem h']; rfl
      cases hl : letterB (s[0]'(by omega)).toNat with
      | false =>
        have hr : NB = false := by rw [hNB]; unfold nameB; rw [hb0, hl]; simp
        subst hr; clear hNB hb0 hL
        go_enter Tryz.func88, Tryz.ntmps88
        go_wp2_with (first | (go_at_call 141; refine (letter_c _ _).mono ?_; rintro e w' ⟨rfl, rfl⟩))
        go_ret
        exact ⟨rfl, Below.refl _ _⟩
      | true =>
        have hr : NB = s.data.toList.all nameCh := by rw [hNB]; exact nameB_loop _ hL (by rw [size_list]; omega) (by rw [hb0, hl])
        have HN := Lib.hid hr
        clear hNB hb0 hL hr
        obtain ⟨cap, w1, hconv, hcells, hb1, hz1⟩ := conv_bytes s w
        have HC := Lib.hid hcells; clear hcells
        go_enter Tryz.func88, Tryz.ntmps88
        go_wp2_with (first | (go_at_call 141; refine (letter_c _ _).mono ?_; rintro e w' ⟨rfl, rfl⟩))
        clear hl hconv
        go_loopg [21] s.size (fun g i wr => w1 = wr ∧ ∃ k : Nat, k ≤ s.size ∧ g = s.size - k ∧ i = .int .i64 k ∧ (s.data.toList.take k).all nameCh = true)
        case atStart => exact ⟨rfl, 0, Nat.zero_le _, rfl, rfl, rfl⟩
        case round =>
          obtain ⟨rfl, k, hk, hg, rfl, hall⟩ := hrel
          have HG := Lib.hid (And.intro hg hall); clear hg hall
          by_cases hlt : k < s.size
          · have hc := HC.out k hlt
            have hsucc := all_take_succ (l := s.data.toList) (k := k) (by rw [size_list]; exact hlt) nameCh HG.out.2
            have hf := all_take_false (l := s.data.toList) (k := k + 1) nameCh
            revert hc hsucc
            generalize s.data.toList.getD k 0 = c
            intro hc hsucc
            cases hlc : letterB c.toNat with
            | true =>
              have hn : nameCh c = true := by unfold nameCh; rw [hlc]; rfl
              rw [hn] at hsucc
              have HS := Lib.hid hsucc; clear hsucc hn hf
              go_wp2_with (first | (go_at_call 141; refine (letter_c _ _).mono ?_; rintro e w' ⟨rfl, rfl⟩))
              go_roundg (s.size - (k + 1))
              case measure => have := HG.out.1; omega
              case rel => exact ⟨rfl, k + 1, by omega, rfl, by go_num, HS.out⟩
            | false =>
              by_cases hd : 48 ≤ c.toNat ∧ c.toNat ≤ 57
              · have hn : nameCh c = true := by unfold nameCh; rw [hlc]; simp [hd.1, hd.2]
                rw [hn] at hsucc
                have HS := Lib.hid hsucc; clear hsucc hn hf
                have h1 : decide ((c.toNat : Int) < 48) = false := by simp; omega
                have h2 : decide (57 < (c.toNat : Int)) = false := by simp; omega
                obtain ⟨hd1, hd2⟩ := hd
                go_wp2_with (first | (go_at_call 141; refine (letter_c _ _).mono ?_; rintro e w' ⟨rfl, rfl⟩))
                go_roundg (s.size - (k + 1))
                case measure => have := HG.out.1; omega
                case rel => exact ⟨rfl, k + 1, by omega, rfl, by go_num, HS.out⟩
              · have hn : nameCh c = false := by unfold nameCh; rw [hlc]; simp; omega
                rw [hn] at hsucc
                have hr : NB = false := by rw [HN.out]; exact hf hsucc
                subst hr
                clear hsucc hn hf
                by_cases h1 : c.toNat < 48
                · go_wp2_with (first | (go_at_call 141; refine (letter_c _ _).mono ?_; rintro e w' ⟨rfl, rfl⟩))
                  go_ret
                  exact ⟨rfl, hb1⟩
                · have h2 : 57 < c.toNat := by omega
                  go_wp2_with (first | (go_at_call 141; refine (letter_c _ _).mono ?_; rintro e w' ⟨rfl, rfl⟩))
                  go_ret
                  exact ⟨rfl, hb1⟩
          · have hks : k = s.size := by omega
            have hall := HG.out.2
            rw [List.take_of_length_le (by rw [size_list]; omega)] at hall
            have hr : NB = true := by rw [HN.out]; exact hall
            subst hr
            clear hall hks
            go_wp2
            go_ret
            exact ⟨rfl, hb1⟩
end Go.Proofs.YtkgdchbflocblaaGreatDoor
