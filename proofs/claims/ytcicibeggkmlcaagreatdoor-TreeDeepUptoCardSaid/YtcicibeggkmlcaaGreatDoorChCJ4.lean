/- The walks of chars.Good, chars.Name. Conditions: the library's tables lie as they are laid. The walks of strconv.ParseUint at digits of its base, and of chars.entity. Conditions: the library's tables lie as they are laid. The walk of chars.entity. Conditions: the library's tables lie as they are laid. The walk of chars.entity at the numbers. Conditions: each theorem's own premises. -/
import Derived.Test.YtcicibeggkmlcaaGreatDoorChB
import Derived.Outline
import Derived.Lib.ConvBytes
import Derived.Shelf.Strings.SlTrimAscii
namespace Go.Proofs.YtcicibeggkmlcaaGreatDoor
open Go.RowKit Go.Sof

theorem goodB_iff (l : Bytes) : decide (badI l < 0) = decide (bad l = none) := by
  unfold badI
  cases bad l with
  | none => simp
  | some k => simp

theorem good_c (s : ByteArray) (w : World) (h : WOK w) (hs : s.size ≤ 4611686018427387904) :
    Calls Tryz.prog 19 #[.string s] w fun e w' => e = .returned (.bool (decide (bad s.data.toList = none))) ∧ Below w.heap.size w w' := by
  rw [← goodB_iff]
  have hc := bad_c s w h hs
  generalize badI s.data.toList = B at *
  go_enter Tryz.func19, Tryz.ntmps19
  go_wp2_with (first | (go_at_call 17; refine hc.mono ?_; rintro e w2 ⟨rfl, hb2⟩))
  go_ret
  exact ⟨rfl, hb2⟩

theorem size_list (s : ByteArray) : s.data.toList.length = s.size := rfl

/-- '[]byte(s)': a new row that holds the bytes. -/
theorem conv_bytes (s : ByteArray) (w : World) : ∃ cap w1, (convert 9 32 (.string s)).run Tryz.prog w = .ok (.slice (some ⟨w.heap.size, 0, none⟩) s.size cap) w1 ∧
    (∀ j, j < s.size → w1.cell? ⟨w.heap.size, j, none⟩ = some (.int .u8 (s.data.toList.getD j 0).toNat)) ∧ Below w.heap.size w w1 ∧ w1.heap.size = w.heap.size + 1 :=
  ⟨_, _, Lib.run_convert_string_bytes (P := Tryz.prog) w 9 32 5 s Tryz.underlying9 Tryz.underlying32 Tryz.underlying5, fun j hj => Lib.bytesWorld_cell w _ s j hj,
    ⟨rfl, rfl, rfl, by rw [Lib.bytesWorld_size]; omega, fun k hk => Lib.bytesWorld_at_old w _ s k hk⟩, Lib.bytesWorld_size w _ s⟩

theorem nameB_loop (l : Bytes) (hne : l ≠ []) (h32 : l.length ≤ 32) (hl : letterB (byN l 0) = true) : nameB l = l.all nameCh := by
  unfold nameB
  cases l with
  | nil => exact absurd rfl hne
  | cons b t => simp [hl]; intros; simpa using h32

theorem all_take_succ {l : Bytes} {k : Nat} (hk : k < l.length) (p : UInt8 → Bool) (h : (l.take k).all p = true) : (l.take (k + 1)).all p = p (l.getD k 0) := by
  rw [List.take_succ_eq_append_getElem hk, List.all_append, h, List.getD_eq_getElem?_getD, List.getElem?_eq_getElem hk]
  simp
theorem all_take_false {l : Bytes} {k : Nat} (p : UInt8 → Bool) (h : (l.take k).all p = false) : l.all p = false := by
  rw [← List.take_append_drop k l, List.all_append, h, Bool.false_and]

set_option maxRecDepth 100000 in
set_option maxHeartbeats 1000000 in
theorem name_c (s : ByteArray) (w : World) :
    Calls Tryz.prog 21 #[.string s] w fun e w' => e = .returned (.bool (nameB s.data.toList)) ∧ Below w.heap.size w w' := by
  by_cases h0 : s.size = 0
  · have e0 : s = ⟨#[]⟩ := by
      obtain ⟨⟨l⟩⟩ := s
      have : l = [] := List.eq_nil_of_length_eq_zero h0
      rw [this]
    subst e0
    go_enter Tryz.func21, Tryz.ntmps21
    go_wp2
    go_ret
    exact ⟨rfl, Below.refl _ _⟩
  · have hL : s.data.toList ≠ [] := fun e => h0 (by rw [← size_list, e]; rfl)
    have hne : s.toList.isEmpty = false := by rw [Lib.toList_data]; simpa using hL
    have hz0 : (0 : Int) < (s.size : Int) := by omega
    by_cases h32 : 32 < s.size
    · have hr : nameB s.data.toList = false := by
        unfold nameB; rw [size_list]; simp; intro _ h; omega
      rw [hr]
      go_enter Tryz.func21, Tryz.ntmps21
      go_wp2
      go_ret
      exact ⟨rfl, Below.refl _ _⟩
    · have hN : ∃ b, b = nameB s.data.toList := ⟨_, rfl⟩
      obtain ⟨NB, hNB⟩ := hN
      rw [← hNB]
      have hb0 : byN s.data.toList 0 = (s[0]'(by omega)).toNat := by
        unfold byN
        have h' : 0 < s.data.toList.length := by rw [size_list]; omega
        rw [List.getD_eq_getElem?_getD, List.getElem?_eq_getElem h']; rfl
      cases hl : letterB (s[0]'(by omega)).toNat with
      | false =>
        have hr : NB = false := by rw [hNB]; unfold nameB; rw [hb0, hl]; simp
        subst hr; clear hNB hb0 hL
        go_enter Tryz.func21, Tryz.ntmps21
        go_wp2_with (first | (go_at_call 46; refine (letter_c _ _).mono ?_; rintro e w' ⟨rfl, rfl⟩))
        go_ret
        exact ⟨rfl, Below.refl _ _⟩
      | true =>
        have hr : NB = s.data.toList.all nameCh := by rw [hNB]; exact nameB_loop _ hL (by rw [size_list]; omega) (by rw [hb0, hl])
        have HN := Lib.hid hr
        clear hNB hb0 hL hr
        obtain ⟨cap, w1, hconv, hcells, hb1, hz1⟩ := conv_bytes s w
        have HC := Lib.hid hcells; clear hcells
        go_enter Tryz.func21, Tryz.ntmps21
        go_wp2_with (first | (go_at_call 46; refine (letter_c _ _).mono ?_; rintro e w' ⟨rfl, rfl⟩))
        clear hl hconv
        go_loopg [21] s.size (fun g i wr => w1 = wr ∧ ∃ k : Nat, k ≤ s.size ∧ g = s.size - k ∧ i = .int .i64 k ∧ (s.data.toList.take k).all nameCh = true)
        case atStart => exact ⟨rfl, 0, Nat.zero_le _, rfl, rfl, rfl⟩
        case round =>
          obtain ⟨rfl, k, hk, hg, rfl, hall⟩ := hrel
          have HG := Lib.hid (And.intro hg hall); clear hg hall
          by_cases hlt : k < s.size
          · have hc := HC.out k hlt
            have hsucc := all_take_succ (l := s.data.toList) (k := k) (by rw [size_list]; exact hlt) nameCh HG.out.2
            have hf := all_take_false (l := s.data.toList) (k := k + 1) nameCh
            revert hc hsucc
            generalize s.data.toList.getD k 0 = c
            intro hc hsucc
            cases hlc : letterB c.toNat with
            | true =>
              have hn : nameCh c = true := by unfold nameCh; rw [hlc]; rfl
              rw [hn] at hsucc
              have HS := Lib.hid hsucc; clear hsucc hn hf
              go_wp2_with (first | (go_at_call 46; refine (letter_c _ _).mono ?_; rintro e w' ⟨rfl, rfl⟩))
              go_roundg (s.size - (k + 1))
              case measure => have := HG.out.1; omega
              case rel => exact ⟨rfl, k + 1, by omega, rfl, by go_num, HS.out⟩
            | false =>
              by_cases hd : 48 ≤ c.toNat ∧ c.toNat ≤ 57
              · have hn : nameCh c = true := by unfold nameCh; rw [hlc]; simp [hd.1, hd.2]
                rw [hn] at hsucc
                have HS := Lib.hid hsucc; clear hsucc hn hf
                have h1 : decide ((c.toNat : Int) < 48) = false := by simp; omega
                have h2 : decide (57 < (c.toNat : Int)) = false := by simp; omega
                obtain ⟨hd1, hd2⟩ := hd
                go_wp2_with (first | (go_at_call 46; refine (letter_c _ _).mono ?_; rintro e w' ⟨rfl, rfl⟩))
                go_roundg (s.size - (k + 1))
                case measure => have := HG.out.1; omega
                case rel => exact ⟨rfl, k + 1, by omega, rfl, by go_num, HS.out⟩
              · have hn : nameCh c = false := by unfold nameCh; rw [hlc]; simp; omega
                rw [hn] at hsucc
                have hr : NB = false := by rw [HN.out]; exact hf hsucc
                subst hr
                clear hsucc hn hf
                by_cases h1 : c.toNat < 48
                · go_wp2_with (first | (go_at_call 46; refine (letter_c _ _).mono ?_; rintro e w' ⟨rfl, rfl⟩))
                  go_ret
                  exact ⟨rfl, hb1⟩
                · have h2 : 57 < c.toNat := by omega
                  go_wp2_with (first | (go_at_call 46; refine (letter_c _ _).mono ?_; rintro e w' ⟨rfl, rfl⟩))
                  go_ret
                  exact ⟨rfl, hb1⟩
          · have hks : k = s.size := by omega
            have hall := HG.out.2
            rw [List.take_of_length_le (by rw [size_list]; omega)] at hall
            have hr : NB = true := by rw [HN.out]; exact hall
            subst hr
            clear hall hks
            go_wp2
            go_ret
            exact ⟨rfl, hb1⟩
end Go.Proofs.YtcicibeggkmlcaaGreatDoor

namespace Go.Proofs.YtcicibeggkmlcaaGreatDoor
open Go.RowKit Go.Sof

theorem or32 : ∀ x : Fin 256, bits .or .u8 ((x.val : Nat) : Int) 32 = ((x.val ||| 32 : Nat) : Int) := by decide +kernel
theorem or32_lo : ∀ x : Fin 256, 97 ≤ x.val → x.val ≤ 102 → (x.val ||| 32) = x.val := by decide +kernel
theorem or32_up : ∀ x : Fin 256, 65 ≤ x.val → x.val ≤ 70 → (x.val ||| 32) = x.val + 32 := by decide +kernel
theorem lower_lo (c : UInt8) (h1 : 97 ≤ c.toNat) (h2 : c.toNat ≤ 102) (w : World) : Calls Tryz.prog 122 #[.int .u8 c.toNat] w fun e w' => e = .returned (.int .u8 c.toNat) ∧ w = w' :=
  (Tryz.internal_strconv_lower c.toNat w).mono fun e w' ⟨he, hw⟩ => ⟨by rw [he]; have := or32 ⟨c.toNat, c.toNat_lt⟩; rw [this, or32_lo ⟨c.toNat, c.toNat_lt⟩ h1 h2], hw.symm⟩
theorem lower_up (c : UInt8) (h1 : 65 ≤ c.toNat) (h2 : c.toNat ≤ 70) (w : World) : Calls Tryz.prog 122 #[.int .u8 c.toNat] w fun e w' => e = .returned (.int .u8 ((c.toNat : Int) + 32)) ∧ w = w' :=
  (Tryz.internal_strconv_lower c.toNat w).mono fun e w' ⟨he, hw⟩ => ⟨by rw [he]; have := or32 ⟨c.toNat, c.toNat_lt⟩; rw [this, or32_up ⟨c.toNat, c.toNat_lt⟩ h1 h2]; rfl, hw.symm⟩

theorem numV_snoc (base : Nat) (l : Bytes) (c : UInt8) : numV base (l ++ [c]) = numV base l * base + hexV c.toNat := by
  unfold numV; rw [List.foldl_append]; rfl
theorem numV_take (base : Nat) (l : Bytes) (k : Nat) (h : k < l.length) : numV base (l.take (k + 1)) = numV base (l.take k) * base + hexV (l.getD k 0).toNat := by
  rw [List.take_succ_eq_append_getElem h, numV_snoc, List.getD_eq_getElem?_getD, List.getElem?_eq_getElem h]; rfl
theorem numV_lt (base : Nat) (_hb : 0 < base) : ∀ l : Bytes, (∀ c ∈ l, hexV c.toNat < base) → numV base l < base ^ l.length := by
  intro l
  induction l with
  | nil => intro _; simp [numV]
  | cons b t ih =>
    intro h
    rw [numV_cons, List.length_cons, Nat.pow_succ']
    have h1 := ih fun c hc => h c (by simp [hc])
    have h2 := h b (by simp)
    have h3 : (hexV b.toNat + 1) * base ^ t.length ≤ base * base ^ t.length := Nat.mul_le_mul_right _ h2
    rw [Nat.add_mul] at h3
    omega
theorem numV_small (base : Nat) (hb : base = 10 ∨ base = 16) (l : Bytes) (h : ∀ c ∈ l, hexV c.toNat < base) (hl : l.length ≤ 8) : numV base l < 4294967296 := by
  have h1 := numV_lt base (by omega) l h
  have h2 : base ^ l.length ≤ 16 ^ 8 := by
    have a1 : base ^ l.length ≤ 16 ^ l.length := Nat.pow_le_pow_left (by omega) _
    have a2 : 16 ^ l.length ≤ 16 ^ 8 := Nat.pow_le_pow_right (by omega) hl
    omega
  omega

/-- the digit that a byte is, as the library reckons it. -/
theorem hex_cases (c : UInt8) (h : hexV c.toNat < 16) : (48 ≤ c.toNat ∧ c.toNat ≤ 57 ∧ hexV c.toNat = c.toNat - 48) ∨ (97 ≤ c.toNat ∧ c.toNat ≤ 102 ∧ hexV c.toNat = c.toNat - 87) ∨ (65 ≤ c.toNat ∧ c.toNat ≤ 70 ∧ hexV c.toNat = c.toNat - 55) := by
  unfold hexV at h ⊢
  repeat' split at h
  all_goals first | omega | skip
  · left; rw [if_pos (by assumption)]; omega
  · right; left; rw [if_neg (by omega), if_pos (by assumption)]; omega
  · right; right; rw [if_neg (by omega), if_neg (by omega), if_pos (by assumption)]; omega

theorem maxv (x : Int) (h : x ≤ 1000000000000) : decide (IntKind.u64.wrap (IntKind.u64.wrap 18446744073709551616 - 1) < x) = false := by
  have e : IntKind.u64.wrap (IntKind.u64.wrap 18446744073709551616 - 1) = 18446744073709551615 := by decide +kernel
  rw [e]; simp; omega

set_option maxRecDepth 1000000 in
set_option maxHeartbeats 2000000 in
theorem puint_10 (s : ByteArray) (w : World) (hs : s.size ≤ 8) (hne : s.data.toList ≠ []) (hd : ∀ c ∈ s.data.toList, hexV c.toNat < 10) :
    Calls Tryz.prog 105 #[.string s, .int .i64 10, .int .i64 64] w fun e w' => e = .returned (.tuple #[.int .u64 (numV 10 s.data.toList), .nilIface]) ∧ Below w.heap.size w w' := by
  have hL : s.toList.isEmpty = false := by rw [Lib.toList_data]; simpa using hne
  have hz0 : (0 : Int) < (s.size : Int) := by
    have := List.length_pos_iff.2 hne; rw [size_list] at this; omega
  obtain ⟨cap, w1, hconv, hcells, hb1, hz1⟩ := conv_bytes s w
  have hdig : ∀ k, k < s.size → hexV (s.data.toList.getD k 0).toNat < 10 := fun k hk => hd _ (by
    have h' : k < s.data.toList.length := hk
    rw [List.getD_eq_getElem?_getD, List.getElem?_eq_getElem h']; exact List.getElem_mem h')
  have hsm : ∀ k, numV 10 (s.data.toList.take k) < 4294967296 := fun k => numV_small 10 (by omega) _ (fun c hc => hd c (List.mem_of_mem_take hc)) (by rw [List.length_take, size_list]; omega)
  have hnt : ∀ k, k < s.size → _ := fun k hk => numV_take 10 s.data.toList k hk
  have hall : numV 10 s.data.toList = numV 10 (s.data.toList.take s.size) := by rw [List.take_of_length_le (by rw [size_list]; omega)]
  rw [hall]
  clear hall hne hd
  generalize s.data.toList = L at *
  have HC := Lib.hid hcells; clear hcells
  have HD := Lib.hid hdig; clear hdig
  have HS := Lib.hid hsm; clear hsm
  have HN := Lib.hid hnt; clear hnt
  go_enter Tryz.func105, Tryz.ntmps105
  go_wp2_with fail
  clear hconv hL
  go_loopg [12, 13, 101] s.size (fun g us n i wr => w1 = wr ∧ us = .bool false ∧ ∃ k : Nat, k ≤ s.size ∧ g = s.size - k ∧ i = .int .i64 k ∧ n = .int .u64 (numV 10 (L.take k)))
  case atStart => exact ⟨rfl, rfl, 0, Nat.zero_le _, rfl, rfl, rfl⟩
  case round =>
    obtain ⟨rfl, rfl, k, hk, hg, rfl, rfl⟩ := hrel
    have HG := Lib.hid hg; clear hg
    by_cases hlt : k < s.size
    · have hc := HC.out k hlt
      have hx := HD.out k hlt
      have hv := HN.out k hlt
      have hs0 := HS.out k
      obtain ⟨V', hV'⟩ : ∃ V', numV 10 (L.take (k + 1)) = V' := ⟨_, rfl⟩
      rw [hV'] at hv
      generalize numV 10 (L.take k) = V at hv hs0 ⊢
      generalize L.getD k 0 = c at hc hx hv
      have hlt1 : (c.toNat : Int) < 256 := by have := c.toNat_lt; omega
      have hcut : decide ((1844674407370955162 : Int) ≤ (V : Int)) = false := by simp; omega
      rcases hex_cases c (by omega) with ⟨h1, h2, h3⟩ | ⟨h1, h2, h3⟩ | ⟨h1, h2, h3⟩
      · rw [h3] at hv hx
        have HV := Lib.hid (And.intro hV' hv); clear hv h3 hV'
        have hm := maxv ((V : Int) * 10 + ((c.toNat : Int) - 48)) (by omega)
        go_wp2
        go_roundg (s.size - (k + 1))
        case measure => have := HG.out; omega
        case rel => exact ⟨rfl, rfl, k + 1, by omega, rfl, by go_num, by rw [HV.out.1]; have := HV.out.2; show Value.int _ _ = Value.int _ _; congr 1; omega⟩
      · exfalso; omega
      · exfalso; omega
    · obtain rfl : k = s.size := by omega
      go_wp2
      go_ret2
      exact ⟨rfl, hb1⟩

set_option maxRecDepth 100000 in
theorem ppuint_10 (s : ByteArray) (w : World) (hs : s.size ≤ 8) (hne : s.data.toList ≠ []) (hd : ∀ c ∈ s.data.toList, hexV c.toNat < 10) :
    Calls Tryz.prog 77 #[.string s, .int .i64 10, .int .i64 64] w fun e w' => e = .returned (.tuple #[.int .u64 (numV 10 s.data.toList), .nilIface]) ∧ Below w.heap.size w w' := by
  have hc := puint_10 s w hs hne hd
  generalize numV 10 s.data.toList = V at *
  go_enter Tryz.func77, Tryz.ntmps77
  go_wp2_with (first | (go_at_call 105; refine hc.mono ?_; rintro e w2 ⟨rfl, hb2⟩))
  go_ret2
  exact ⟨rfl, hb2⟩

set_option maxRecDepth 1000000 in
set_option maxHeartbeats 2000000 in
theorem puint_16 (s : ByteArray) (w : World) (hs : s.size ≤ 8) (hne : s.data.toList ≠ []) (hd : ∀ c ∈ s.data.toList, hexV c.toNat < 16) :
    Calls Tryz.prog 105 #[.string s, .int .i64 16, .int .i64 64] w fun e w' => e = .returned (.tuple #[.int .u64 (numV 16 s.data.toList), .nilIface]) ∧ Below w.heap.size w w' := by
  have hL : s.toList.isEmpty = false := by rw [Lib.toList_data]; simpa using hne
  have hz0 : (0 : Int) < (s.size : Int) := by
    have := List.length_pos_iff.2 hne; rw [size_list] at this; omega
  obtain ⟨cap, w1, hconv, hcells, hb1, hz1⟩ := conv_bytes s w
  have hdig : ∀ k, k < s.size → hexV (s.data.toList.getD k 0).toNat < 16 := fun k hk => hd _ (by
    have h' : k < s.data.toList.length := hk
    rw [List.getD_eq_getElem?_getD, List.getElem?_eq_getElem h']; exact List.getElem_mem h')
  have hsm : ∀ k, numV 16 (s.data.toList.take k) < 4294967296 := fun k => numV_small 16 (by omega) _ (fun c hc => hd c (List.mem_of_mem_take hc)) (by rw [List.length_take, size_list]; omega)
  have hnt : ∀ k, k < s.size → _ := fun k hk => numV_take 16 s.data.toList k hk
  have hall : numV 16 s.data.toList = numV 16 (s.data.toList.take s.size) := by rw [List.take_of_length_le (by rw [size_list]; omega)]
  rw [hall]
  clear hall hne hd
  generalize s.data.toList = L at *
  have HC := Lib.hid hcells; clear hcells
  have HD := Lib.hid hdig; clear hdig
  have HS := Lib.hid hsm; clear hsm
  have HN := Lib.hid hnt; clear hnt
  go_enter Tryz.func105, Tryz.ntmps105
  go_wp2_with fail
  clear hconv hL
  go_loopg [12, 13, 101] s.size (fun g us n i wr => w1 = wr ∧ us = .bool false ∧ ∃ k : Nat, k ≤ s.size ∧ g = s.size - k ∧ i = .int .i64 k ∧ n = .int .u64 (numV 16 (L.take k)))
  case atStart => exact ⟨rfl, rfl, 0, Nat.zero_le _, rfl, rfl, rfl⟩
  case round =>
    obtain ⟨rfl, rfl, k, hk, hg, rfl, rfl⟩ := hrel
    have HG := Lib.hid hg; clear hg
    by_cases hlt : k < s.size
    · have hc := HC.out k hlt
      have hx := HD.out k hlt
      have hv := HN.out k hlt
      have hs0 := HS.out k
      obtain ⟨V', hV'⟩ : ∃ V', numV 16 (L.take (k + 1)) = V' := ⟨_, rfl⟩
      rw [hV'] at hv
      generalize numV 16 (L.take k) = V at hv hs0 ⊢
      generalize L.getD k 0 = c at hc hx hv
      have hlt1 : (c.toNat : Int) < 256 := by have := c.toNat_lt; omega
      have hcut : decide ((1152921504606846976 : Int) ≤ (V : Int)) = false := by simp; omega
      rcases hex_cases c (by omega) with ⟨h1, h2, h3⟩ | ⟨h1, h2, h3⟩ | ⟨h1, h2, h3⟩
      · rw [h3] at hv hx
        have HV := Lib.hid (And.intro hV' hv); clear hv h3 hV'
        have hm := maxv ((V : Int) * 16 + ((c.toNat : Int) - 48)) (by omega)
        go_wp2
        go_roundg (s.size - (k + 1))
        case measure => have := HG.out; omega
        case rel => exact ⟨rfl, rfl, k + 1, by omega, rfl, by go_num, by rw [HV.out.1]; have := HV.out.2; show Value.int _ _ = Value.int _ _; congr 1; omega⟩
      · rw [h3] at hv hx
        have HV := Lib.hid (And.intro hV' hv); clear hv h3 hV'
        have hm := maxv ((V : Int) * 16 + ((c.toNat : Int) - 97 + 10)) (by omega)
        go_wp2_with (first | (go_at_call 122; refine (lower_lo c h1 h2 _).mono ?_; rintro e w' ⟨rfl, rfl⟩))
        go_roundg (s.size - (k + 1))
        case measure => have := HG.out; omega
        case rel => exact ⟨rfl, rfl, k + 1, by omega, rfl, by go_num, by rw [HV.out.1]; have := HV.out.2; show Value.int _ _ = Value.int _ _; congr 1; omega⟩
      · rw [h3] at hv hx
        have HV := Lib.hid (And.intro hV' hv); clear hv h3 hV'
        have hm := maxv ((V : Int) * 16 + ((c.toNat : Int) + 32 - 97 + 10)) (by omega)
        go_wp2_with (first | (go_at_call 122; refine (lower_up c h1 h2 _).mono ?_; rintro e w' ⟨rfl, rfl⟩))
        go_roundg (s.size - (k + 1))
        case measure => have := HG.out; omega
        case rel => exact ⟨rfl, rfl, k + 1, by omega, rfl, by go_num, by rw [HV.out.1]; have := HV.out.2; show Value.int _ _ = Value.int _ _; congr 1; omega⟩
    · obtain rfl : k = s.size := by omega
      go_wp2
      go_ret2
      exact ⟨rfl, hb1⟩

set_option maxRecDepth 100000 in
theorem ppuint_16 (s : ByteArray) (w : World) (hs : s.size ≤ 8) (hne : s.data.toList ≠ []) (hd : ∀ c ∈ s.data.toList, hexV c.toNat < 16) :
    Calls Tryz.prog 77 #[.string s, .int .i64 16, .int .i64 64] w fun e w' => e = .returned (.tuple #[.int .u64 (numV 16 s.data.toList), .nilIface]) ∧ Below w.heap.size w w' := by
  have hc := puint_16 s w hs hne hd
  generalize numV 16 s.data.toList = V at *
  go_enter Tryz.func77, Tryz.ntmps77
  go_wp2_with (first | (go_at_call 105; refine hc.mono ?_; rintro e w2 ⟨rfl, hb2⟩))
  go_ret2
  exact ⟨rfl, hb2⟩

end Go.Proofs.YtcicibeggkmlcaaGreatDoor

namespace Go.Proofs.YtcicibeggkmlcaaGreatDoor
open Go.RowKit Go.Sof

def decSet : Bytes := [48, 49, 50, 51, 52, 53, 54, 55, 56, 57]
def hexSet : Bytes := [48, 49, 50, 51, 52, 53, 54, 55, 56, 57, 97, 98, 99, 100, 101, 102, 65, 66, 67, 68, 69, 70]
theorem decSet_iff : ∀ x : Fin 256, decSet.contains (UInt8.ofNat x.val) = decide (hexV x.val < 10) := by decide +kernel
theorem hexSet_iff : ∀ x : Fin 256, hexSet.contains (UInt8.ofNat x.val) = decide (hexV x.val < 16) := by decide +kernel
theorem decSet_c (c : UInt8) : decSet.contains c = decide (hexV c.toNat < 10) := by
  have := decSet_iff ⟨c.toNat, c.toNat_lt⟩; simpa using this
theorem hexSet_c (c : UInt8) : hexSet.contains c = decide (hexV c.toNat < 16) := by
  have := hexSet_iff ⟨c.toNat, c.toNat_lt⟩; simpa using this

theorem dropWhile_nil {p : UInt8 → Bool} : ∀ l : Bytes, l.dropWhile p = [] ↔ ∀ c ∈ l, p c = true := by
  intro l
  induction l with
  | nil => simp
  | cons b t ih =>
    rw [List.dropWhile_cons]
    by_cases h : p b = true
    · rw [if_pos h, ih]; simp [h]
    · rw [if_neg h]; simp [h]
theorem dropWhile_mem {p : UInt8 → Bool} : ∀ (l : Bytes) (c : UInt8), c ∈ l → p c = false → c ∈ l.dropWhile p := by
  intro l
  induction l with
  | nil => intro c hc; cases hc
  | cons b t ih =>
    intro c hc hp
    rw [List.dropWhile_cons]
    by_cases h : p b = true
    · rw [if_pos h]
      rcases List.mem_cons.1 hc with rfl | hc
      · rw [h] at hp; cases hp
      · exact ih c hc hp
    · rw [if_neg h]; exact hc
theorem trimS_nil (l cs : Bytes) : Lib.trimS l cs = [] ↔ ∀ c ∈ l, cs.contains c = true := by
  unfold Lib.trimS Lib.trimLeftS Lib.trimRightS
  rw [dropWhile_nil]
  constructor
  · intro h c hc
    cases hp : cs.contains c with
    | true => rfl
    | false =>
      have h1 := dropWhile_mem (p := (cs.contains ·)) l.reverse c (by simpa using hc) hp
      have := h c (by simpa using h1)
      rw [hp] at this; exact this
  · intro h c hc
    have h1 := List.mem_reverse.1 hc
    exact h c (by have := List.dropWhile_sublist (cs.contains ·) |>.subset h1; simpa using this)

/-- what stands behind the sharp. -/
def hashOf (l : Bytes) : Bytes := Lib.trimPrefix l [35]
def isHash (l : Bytes) : Bool := Lib.hasPrefix l [35]
def hexOf (l : Bytes) : Bytes := Lib.trimPrefix (hashOf l) [120]
def isHex (l : Bytes) : Bool := Lib.hasPrefix (hashOf l) [120]

def headIs (l : Bytes) (c : UInt8) : Bool := match l with | [] => false | b :: _ => b == c
theorem hasPrefix_one (l : Bytes) (c : UInt8) : Lib.hasPrefix l [c] = headIs l c := by
  unfold Lib.hasPrefix headIs
  cases l with
  | nil => rfl
  | cons b t =>
    simp only [List.isPrefixOf, Bool.and_true]
    exact BEq.comm

theorem entity_rest (l : Bytes) (h1 : l ≠ [97, 109, 112]) (h2 : l ≠ [108, 116]) (h3 : l ≠ [103, 116]) (h4 : l ≠ [113, 117, 111, 116]) (h5 : l ≠ [97, 112, 111, 115]) :
    entity l = if isHash l = false then none else numE (if isHex l then 16 else 10) (hexOf l) := by
  unfold entity
  rw [if_neg h1, if_neg h2, if_neg h3, if_neg h4, if_neg h5]
  unfold isHash hexOf isHex hashOf Lib.trimPrefix
  simp only [hasPrefix_one]
  cases l with
  | nil => rfl
  | cons b t =>
    by_cases hb : b = 35
    · subst hb
      rw [show headIs (35 :: t) 35 = true from by simp [headIs]]
      simp only [if_true, List.length_cons, List.length_nil, Nat.zero_add, List.drop_succ_cons, List.drop_zero]
      cases t with
      | nil => rfl
      | cons c u =>
        by_cases hc : c = 120
        · subst hc
          rw [show headIs (120 :: u) 120 = true from by simp [headIs]]
          simp
        · rw [show headIs (c :: u) 120 = false from by simp [headIs, hc]]
          simp only [Bool.false_eq_true, if_false]
          split
          · rename_i u' e; cases e; exact absurd rfl hc
          · rename_i t' _ e; cases e; simp
          · rename_i hx hy; exact absurd rfl (hy _)
    · rw [show headIs (b :: t) 35 = false from by simp [headIs, hb]]
      simp only [if_true]
      split
      · rename_i u' e; cases e; exact absurd rfl hb
      · rename_i t' e; cases e; exact absurd rfl hb
      · rfl

theorem numE_none (base : Nat) (l : Bytes) (h : l = [] ∨ 8 < l.length ∨ ¬ ∀ c ∈ l, hexV c.toNat < base) : numE base l = none := by
  unfold numE
  rw [if_pos]
  rcases h with h | h | h
  · exact Or.inl h
  · exact Or.inr (Or.inl h)
  · right; right
    simp only [List.any_eq_true, decide_eq_true_eq]
    apply Classical.byContradiction
    intro hn
    exact h fun c hc => Nat.lt_of_not_le fun hle => hn ⟨c, hc, hle⟩
theorem numE_some (base : Nat) (l : Bytes) (h1 : l ≠ []) (h2 : l.length ≤ 8) (h3 : ∀ c ∈ l, hexV c.toNat < base) : numE base l = if signB (numV base l) then some (utf (numV base l)) else none := by
  unfold numE
  rw [if_neg]
  simp only [not_or]
  refine ⟨h1, by omega, ?_⟩
  simp only [List.any_eq_true, decide_eq_true_eq, not_exists, not_and]
  intro c hc hb
  have := h3 c hc; omega

/-- what entity returns. -/
def entV (o : Option Bytes) : Value := match o with | none => .tuple #[.string ⟨#[]⟩, .bool false] | some t => .tuple #[.string ⟨t.toArray⟩, .bool true]

theorem eqStr_ne (s : ByteArray) (l : Bytes) (h : s.data.toList ≠ l) : (s.toList == l) = false := by rw [Lib.toList_data]; simpa using h
theorem ba_of (s : ByteArray) (l : Bytes) (h : s.data.toList = l) : s = ⟨l.toArray⟩ := by obtain ⟨⟨l'⟩⟩ := s; simp at h; rw [h]

theorem trim_c (base : Nat) (s cutset : ByteArray) (w : World) (hs : s.size ≤ 9223372036854775807) (hb : (base = 10 ∧ cutset.data.toList = decSet) ∨ (base = 16 ∧ cutset.data.toList = hexSet)) :
    Calls Tryz.prog 76 #[.string s, .string cutset] w fun e w' => e = .returned (.string ⟨(Lib.trimS s.data.toList cutset.data.toList).toArray⟩) ∧ Below w.heap.size w w' :=
  Tryz.strings_Trim_asc s cutset w hs (by
    have : cutset.size = cutset.data.toList.length := rfl
    rw [this]; rcases hb with ⟨_, hb⟩ | ⟨_, hb⟩ <;> (rw [hb]; decide +kernel)) (by
    intro j b hj
    rcases hb with ⟨_, hb⟩ | ⟨_, hb⟩
    · rw [hb] at hj
      exact (show ∀ x ∈ decSet, x.toNat < 128 from by decide) b (List.mem_of_getElem? hj)
    · rw [hb] at hj
      exact (show ∀ x ∈ hexSet, x.toNat < 128 from by decide) b (List.mem_of_getElem? hj))

theorem trim_dec (s cutset : ByteArray) (w : World) (hs : s.size ≤ 9223372036854775807) (hb : cutset.data.toList = decSet) :
    Calls Tryz.prog 76 #[.string s, .string cutset] w fun e w' => e = .returned (.string ⟨(Lib.trimS s.data.toList decSet).toArray⟩) ∧ Below w.heap.size w w' := by
  rw [← hb]; exact trim_c 10 s cutset w hs (Or.inl ⟨rfl, hb⟩)
theorem trim_hex (s cutset : ByteArray) (w : World) (hs : s.size ≤ 9223372036854775807) (hb : cutset.data.toList = hexSet) :
    Calls Tryz.prog 76 #[.string s, .string cutset] w fun e w' => e = .returned (.string ⟨(Lib.trimS s.data.toList hexSet).toArray⟩) ∧ Below w.heap.size w w' := by
  rw [← hb]; exact trim_c 16 s cutset w hs (Or.inr ⟨rfl, hb⟩)

theorem digits_of (base : Nat) (set : Bytes) (h : ∀ c, set.contains c = decide (hexV c.toNat < base)) (l : Bytes) : Lib.trimS l set = [] ↔ ∀ c ∈ l, hexV c.toNat < base := by
  rw [trimS_nil]
  constructor
  · intro hh c hc; have := hh c hc; rw [h] at this; simpa using this
  · intro hh c hc; rw [h]; simpa using hh c hc

theorem ba_eta (b : ByteArray) : (⟨b.data.toList.toArray⟩ : ByteArray) = b := by obtain ⟨⟨l⟩⟩ := b; rfl
set_option maxRecDepth 1000000 in
theorem utf_enc (n : Nat) : (⟨(utf n).toArray⟩ : ByteArray) = Utf8.encode (n : Int) := by
  unfold utf; exact ba_eta _

set_option maxRecDepth 100000 in
/-- the five names. -/
theorem entity_five (s : ByteArray) (w : World) (h : s.data.toList = [97, 109, 112] ∨ s.data.toList = [108, 116] ∨ s.data.toList = [103, 116] ∨ s.data.toList = [113, 117, 111, 116] ∨ s.data.toList = [97, 112, 111, 115]) :
    Calls Tryz.prog 50 #[.string s] w fun e w' => e = .returned (entV (entity s.data.toList)) ∧ Below w.heap.size w w' := by
  rcases h with h | h | h | h | h
  · rw [h, ba_of s _ h, show entity [97, 109, 112] = some [38] from by decide +kernel, show entV (some [38]) = .tuple #[.string ⟨#[38]⟩, .bool true] from rfl]
    go_enter Tryz.func50, Tryz.ntmps50
    go_wp2_with fail
    go_ret2
    exact ⟨rfl, Below.refl _ _⟩
  · rw [h, ba_of s _ h, show entity [108, 116] = some [60] from by decide +kernel, show entV (some [60]) = .tuple #[.string ⟨#[60]⟩, .bool true] from rfl]
    go_enter Tryz.func50, Tryz.ntmps50
    go_wp2_with fail
    go_ret2
    exact ⟨rfl, Below.refl _ _⟩
  · rw [h, ba_of s _ h, show entity [103, 116] = some [62] from by decide +kernel, show entV (some [62]) = .tuple #[.string ⟨#[62]⟩, .bool true] from rfl]
    go_enter Tryz.func50, Tryz.ntmps50
    go_wp2_with fail
    go_ret2
    exact ⟨rfl, Below.refl _ _⟩
  · rw [h, ba_of s _ h, show entity [113, 117, 111, 116] = some [34] from by decide +kernel, show entV (some [34]) = .tuple #[.string ⟨#[34]⟩, .bool true] from rfl]
    go_enter Tryz.func50, Tryz.ntmps50
    go_wp2_with fail
    go_ret2
    exact ⟨rfl, Below.refl _ _⟩
  · rw [h, ba_of s _ h, show entity [97, 112, 111, 115] = some [39] from by decide +kernel, show entV (some [39]) = .tuple #[.string ⟨#[39]⟩, .bool true] from rfl]
    go_enter Tryz.func50, Tryz.ntmps50
    go_wp2_with fail
    go_ret2
    exact ⟨rfl, Below.refl _ _⟩
end Go.Proofs.YtcicibeggkmlcaaGreatDoor

namespace Go.Proofs.YtcicibeggkmlcaaGreatDoor
open Go.RowKit Go.Sof

set_option maxRecDepth 100000 in
set_option maxHeartbeats 2000000 in
theorem entity_10 (s D H : ByteArray) (w : World) (_hs : s.size ≤ 4611686018427387904) (hH : H.size ≤ s.size) (k1 : (s.toList == [97, 109, 112]) = false) (k2 : (s.toList == [108, 116]) = false) (k3 : (s.toList == [103, 116]) = false)
    (k4 : (s.toList == [113, 117, 111, 116]) = false) (k5 : (s.toList == [97, 112, 111, 115]) = false) (hh : Bool) (E : Option Bytes)
    (cH : ∀ W, Calls Tryz.prog 75 #[.string s, .string ⟨#[35]⟩] W fun e w' => e = .returned (.tuple #[.string D, .bool hh]) ∧ W = w')
    (cX : ∀ W, Calls Tryz.prog 75 #[.string D, .string ⟨#[120]⟩] W fun e w' => e = .returned (.tuple #[.string H, .bool false]) ∧ W = w')
    (hE : E = if hh = false then none else numE 10 H.data.toList) :
    Calls Tryz.prog 50 #[.string s] w fun e w' => e = .returned (entV E) ∧ Below w.heap.size w w' := by
  have HC := Lib.hid (And.intro cH cX)
  clear cH cX
  cases hh with
  | false =>
    rw [if_pos rfl] at hE; subst hE
    rw [show entV none = .tuple #[.string ⟨#[]⟩, .bool false] from rfl]
    go_enter Tryz.func50, Tryz.ntmps50
    go_wp2_with fail
    refine (HC.out.1 _).mono ?_
    rintro e w' ⟨rfl, rfl⟩
    go_wp2_with fail
    refine (HC.out.2 _).mono ?_
    rintro e w' ⟨rfl, rfl⟩
    go_wp2_with fail
    go_ret2
    exact ⟨rfl, Below.refl _ _⟩
  | true =>
    rw [if_neg (by simp)] at hE
    by_cases h0 : H.data.toList = []
    · have e0 : E = none := by rw [hE]; exact numE_none _ _ (Or.inl h0)
      clear hE; subst e0
      rw [show entV none = .tuple #[.string ⟨#[]⟩, .bool false] from rfl]
      obtain rfl : H = ⟨#[]⟩ := ba_of H _ h0
      clear h0
      go_enter Tryz.func50, Tryz.ntmps50
      go_wp2_with fail
      refine (HC.out.1 _).mono ?_
      rintro e w' ⟨rfl, rfl⟩
      go_wp2_with fail
      refine (HC.out.2 _).mono ?_
      rintro e w' ⟨rfl, rfl⟩
      go_wp2_with fail
      go_ret2
      exact ⟨rfl, Below.refl _ _⟩
    · have n0 : H.toList.isEmpty = false := by rw [Lib.toList_data]; simpa using h0
      by_cases h8 : 8 < H.size
      · have e0 : E = none := by rw [hE]; exact numE_none _ _ (Or.inr (Or.inl h8))
        clear hE; subst e0
        rw [show entV none = .tuple #[.string ⟨#[]⟩, .bool false] from rfl]
        clear h0
        go_enter Tryz.func50, Tryz.ntmps50
        go_wp2_with fail
        refine (HC.out.1 _).mono ?_
        rintro e w' ⟨rfl, rfl⟩
        go_wp2_with fail
        refine (HC.out.2 _).mono ?_
        rintro e w' ⟨rfl, rfl⟩
        go_wp2_with fail
        go_ret2
        exact ⟨rfl, Below.refl _ _⟩
      · have hdig := digits_of 10 decSet decSet_c H.data.toList
        have cT := fun cutset W hb => trim_dec H cutset W (by omega) hb
        obtain ⟨T, hT⟩ : ∃ T : ByteArray, T = ⟨(Lib.trimS H.data.toList decSet).toArray⟩ := ⟨_, rfl⟩
        have hTl : T.toList = Lib.trimS H.data.toList decSet := by rw [hT, Lib.toList_data]
        rw [← hT] at cT
        rw [← hTl] at hdig
        clear hT hTl
        by_cases hd : T.toList = []
        · have hall := hdig.1 hd
          have hTe : T.toList.isEmpty = true := by simpa using hd
          have cP := fun W => ppuint_10 H W (by omega) h0 hall
          have hEs : E = if signB (numV 10 H.data.toList) then some (utf (numV 10 H.data.toList)) else none := by
            rw [hE]; exact numE_some 10 _ h0 (by show H.size ≤ 8; omega) hall
          have hsm := numV_small 10 (by omega) H.data.toList hall (by show H.size ≤ 8; omega)
          clear hE hdig hall h0
          generalize numV 10 H.data.toList = V at cP hEs hsm
          have HT := Lib.hid cT; clear cT
          have HP := Lib.hid cP; clear cP
          by_cases hbig : 1114111 < V
          · have e0 : E = none := by
              rw [hEs, if_neg]; intro hc; have := sign_bounds V hc; omega
            clear hEs; subst e0
            rw [show entV none = .tuple #[.string ⟨#[]⟩, .bool false] from rfl]
            go_enter Tryz.func50, Tryz.ntmps50
            go_wp2_with fail
            refine (HC.out.1 _).mono ?_
            rintro e w' ⟨rfl, rfl⟩
            go_wp2_with fail
            refine (HC.out.2 _).mono ?_
            rintro e w' ⟨rfl, rfl⟩
            go_wp2_with fail
            refine (HT.out _ _ (by decide)).mono ?_
            rintro e w2 ⟨rfl, hb2⟩
            go_wp2_with fail
            refine (HP.out _).mono ?_
            rintro e w3 ⟨rfl, hb3⟩
            go_wp2_with fail
            go_ret2
            exact ⟨rfl, hb2.trans (hb3.mono hb2.size)⟩
          · cases hsg : signB V with
            | false =>
              have e0 : E = none := by rw [hEs, if_neg (by simp [hsg])]
              clear hEs; subst e0
              rw [show entV none = .tuple #[.string ⟨#[]⟩, .bool false] from rfl]
              go_enter Tryz.func50, Tryz.ntmps50
              go_wp2_with fail
              refine (HC.out.1 _).mono ?_
              rintro e w' ⟨rfl, rfl⟩
              go_wp2_with fail
              refine (HC.out.2 _).mono ?_
              rintro e w' ⟨rfl, rfl⟩
              go_wp2_with fail
              refine (HT.out _ _ (by decide)).mono ?_
              rintro e w2 ⟨rfl, hb2⟩
              go_wp2_with fail
              refine (HP.out _).mono ?_
              rintro e w3 ⟨rfl, hb3⟩
              go_wp2_with fail
              refine (sign_c _ _).mono ?_
              rintro e w' ⟨rfl, rfl⟩
              go_wp2_with fail
              go_ret2
              exact ⟨rfl, hb2.trans (hb3.mono hb2.size)⟩
            | true =>
              have e0 : E = some (utf V) := by rw [hEs, if_pos hsg]
              clear hEs; subst e0
              rw [show entV (some (utf V)) = .tuple #[.string (Utf8.encode (V : Int)), .bool true] from by simp only [entV]; rw [utf_enc]]
              go_enter Tryz.func50, Tryz.ntmps50
              go_wp2_with fail
              refine (HC.out.1 _).mono ?_
              rintro e w' ⟨rfl, rfl⟩
              go_wp2_with fail
              refine (HC.out.2 _).mono ?_
              rintro e w' ⟨rfl, rfl⟩
              go_wp2_with fail
              refine (HT.out _ _ (by decide)).mono ?_
              rintro e w2 ⟨rfl, hb2⟩
              go_wp2_with fail
              refine (HP.out _).mono ?_
              rintro e w3 ⟨rfl, hb3⟩
              go_wp2_with fail
              refine (sign_c _ _).mono ?_
              rintro e w' ⟨rfl, rfl⟩
              go_wp2_with fail
              go_ret2
              exact ⟨rfl, hb2.trans (hb3.mono hb2.size)⟩
        · have e0 : E = none := by
            rw [hE]; exact numE_none _ _ (Or.inr (Or.inr fun hc => hd (hdig.2 hc)))
          clear hE hdig; subst e0
          rw [show entV none = .tuple #[.string ⟨#[]⟩, .bool false] from rfl]
          have hTe : T.toList.isEmpty = false := by simpa using hd
          have HT := Lib.hid cT; clear cT
          clear h0
          go_enter Tryz.func50, Tryz.ntmps50
          go_wp2_with fail
          refine (HC.out.1 _).mono ?_
          rintro e w' ⟨rfl, rfl⟩
          go_wp2_with fail
          refine (HC.out.2 _).mono ?_
          rintro e w' ⟨rfl, rfl⟩
          go_wp2_with fail
          refine (HT.out _ _ (by decide)).mono ?_
          rintro e w2 ⟨rfl, hb2⟩
          go_wp2_with fail
          go_ret2
          exact ⟨rfl, hb2⟩

set_option maxRecDepth 100000 in
set_option maxHeartbeats 2000000 in
theorem entity_16 (s D H : ByteArray) (w : World) (_hs : s.size ≤ 4611686018427387904) (hH : H.size ≤ s.size) (k1 : (s.toList == [97, 109, 112]) = false) (k2 : (s.toList == [108, 116]) = false) (k3 : (s.toList == [103, 116]) = false)
    (k4 : (s.toList == [113, 117, 111, 116]) = false) (k5 : (s.toList == [97, 112, 111, 115]) = false) (hh : Bool) (E : Option Bytes)
    (cH : ∀ W, Calls Tryz.prog 75 #[.string s, .string ⟨#[35]⟩] W fun e w' => e = .returned (.tuple #[.string D, .bool hh]) ∧ W = w')
    (cX : ∀ W, Calls Tryz.prog 75 #[.string D, .string ⟨#[120]⟩] W fun e w' => e = .returned (.tuple #[.string H, .bool true]) ∧ W = w')
    (hE : E = if hh = false then none else numE 16 H.data.toList) :
    Calls Tryz.prog 50 #[.string s] w fun e w' => e = .returned (entV E) ∧ Below w.heap.size w w' := by
  have HC := Lib.hid (And.intro cH cX)
  clear cH cX
  cases hh with
  | false =>
    rw [if_pos rfl] at hE; subst hE
    rw [show entV none = .tuple #[.string ⟨#[]⟩, .bool false] from rfl]
    go_enter Tryz.func50, Tryz.ntmps50
    go_wp2_with fail
    refine (HC.out.1 _).mono ?_
    rintro e w' ⟨rfl, rfl⟩
    go_wp2_with fail
    refine (HC.out.2 _).mono ?_
    rintro e w' ⟨rfl, rfl⟩
    go_wp2_with fail
    go_ret2
    exact ⟨rfl, Below.refl _ _⟩
  | true =>
    rw [if_neg (by simp)] at hE
    by_cases h0 : H.data.toList = []
    · have e0 : E = none := by rw [hE]; exact numE_none _ _ (Or.inl h0)
      clear hE; subst e0
      rw [show entV none = .tuple #[.string ⟨#[]⟩, .bool false] from rfl]
      obtain rfl : H = ⟨#[]⟩ := ba_of H _ h0
      clear h0
      go_enter Tryz.func50, Tryz.ntmps50
      go_wp2_with fail
      refine (HC.out.1 _).mono ?_
      rintro e w' ⟨rfl, rfl⟩
      go_wp2_with fail
      refine (HC.out.2 _).mono ?_
      rintro e w' ⟨rfl, rfl⟩
      go_wp2_with fail
      go_ret2
      exact ⟨rfl, Below.refl _ _⟩
    · have n0 : H.toList.isEmpty = false := by rw [Lib.toList_data]; simpa using h0
      by_cases h8 : 8 < H.size
      · have e0 : E = none := by rw [hE]; exact numE_none _ _ (Or.inr (Or.inl h8))
        clear hE; subst e0
        rw [show entV none = .tuple #[.string ⟨#[]⟩, .bool false] from rfl]
        clear h0
        go_enter Tryz.func50, Tryz.ntmps50
        go_wp2_with fail
        refine (HC.out.1 _).mono ?_
        rintro e w' ⟨rfl, rfl⟩
        go_wp2_with fail
        refine (HC.out.2 _).mono ?_
        rintro e w' ⟨rfl, rfl⟩
        go_wp2_with fail
        go_ret2
        exact ⟨rfl, Below.refl _ _⟩
      · have hdig := digits_of 16 hexSet hexSet_c H.data.toList
        have cT := fun cutset W hb => trim_hex H cutset W (by omega) hb
        obtain ⟨T, hT⟩ : ∃ T : ByteArray, T = ⟨(Lib.trimS H.data.toList hexSet).toArray⟩ := ⟨_, rfl⟩
        have hTl : T.toList = Lib.trimS H.data.toList hexSet := by rw [hT, Lib.toList_data]
        rw [← hT] at cT
        rw [← hTl] at hdig
        clear hT hTl
        by_cases hd : T.toList = []
        · have hall := hdig.1 hd
          have hTe : T.toList.isEmpty = true := by simpa using hd
          have cP := fun W => ppuint_16 H W (by omega) h0 hall
          have hEs : E = if signB (numV 16 H.data.toList) then some (utf (numV 16 H.data.toList)) else none := by
            rw [hE]; exact numE_some 16 _ h0 (by show H.size ≤ 8; omega) hall
          have hsm := numV_small 16 (by omega) H.data.toList hall (by show H.size ≤ 8; omega)
          clear hE hdig hall h0
          generalize numV 16 H.data.toList = V at cP hEs hsm
          have HT := Lib.hid cT; clear cT
          have HP := Lib.hid cP; clear cP
          by_cases hbig : 1114111 < V
          · have e0 : E = none := by
              rw [hEs, if_neg]; intro hc; have := sign_bounds V hc; omega
            clear hEs; subst e0
            rw [show entV none = .tuple #[.string ⟨#[]⟩, .bool false] from rfl]
            go_enter Tryz.func50, Tryz.ntmps50
            go_wp2_with fail
            refine (HC.out.1 _).mono ?_
            rintro e w' ⟨rfl, rfl⟩
            go_wp2_with fail
            refine (HC.out.2 _).mono ?_
            rintro e w' ⟨rfl, rfl⟩
            go_wp2_with fail
            refine (HT.out _ _ (by decide)).mono ?_
            rintro e w2 ⟨rfl, hb2⟩
            go_wp2_with fail
            refine (HP.out _).mono ?_
            rintro e w3 ⟨rfl, hb3⟩
            go_wp2_with fail
            go_ret2
            exact ⟨rfl, hb2.trans (hb3.mono hb2.size)⟩
          · cases hsg : signB V with
            | false =>
              have e0 : E = none := by rw [hEs, if_neg (by simp [hsg])]
              clear hEs; subst e0
              rw [show entV none = .tuple #[.string ⟨#[]⟩, .bool false] from rfl]
              go_enter Tryz.func50, Tryz.ntmps50
              go_wp2_with fail
              refine (HC.out.1 _).mono ?_
              rintro e w' ⟨rfl, rfl⟩
              go_wp2_with fail
              refine (HC.out.2 _).mono ?_
              rintro e w' ⟨rfl, rfl⟩
              go_wp2_with fail
              refine (HT.out _ _ (by decide)).mono ?_
              rintro e w2 ⟨rfl, hb2⟩
              go_wp2_with fail
              refine (HP.out _).mono ?_
              rintro e w3 ⟨rfl, hb3⟩
              go_wp2_with fail
              refine (sign_c _ _).mono ?_
              rintro e w' ⟨rfl, rfl⟩
              go_wp2_with fail
              go_ret2
              exact ⟨rfl, hb2.trans (hb3.mono hb2.size)⟩
            | true =>
              have e0 : E = some (utf V) := by rw [hEs, if_pos hsg]
              clear hEs; subst e0
              rw [show entV (some (utf V)) = .tuple #[.string (Utf8.encode (V : Int)), .bool true] from by simp only [entV]; rw [utf_enc]]
              go_enter Tryz.func50, Tryz.ntmps50
              go_wp2_with fail
              refine (HC.out.1 _).mono ?_
              rintro e w' ⟨rfl, rfl⟩
              go_wp2_with fail
              refine (HC.out.2 _).mono ?_
              rintro e w' ⟨rfl, rfl⟩
              go_wp2_with fail
              refine (HT.out _ _ (by decide)).mono ?_
              rintro e w2 ⟨rfl, hb2⟩
              go_wp2_with fail
              refine (HP.out _).mono ?_
              rintro e w3 ⟨rfl, hb3⟩
              go_wp2_with fail
              refine (sign_c _ _).mono ?_
              rintro e w' ⟨rfl, rfl⟩
              go_wp2_with fail
              go_ret2
              exact ⟨rfl, hb2.trans (hb3.mono hb2.size)⟩
        · have e0 : E = none := by
            rw [hE]; exact numE_none _ _ (Or.inr (Or.inr fun hc => hd (hdig.2 hc)))
          clear hE hdig; subst e0
          rw [show entV none = .tuple #[.string ⟨#[]⟩, .bool false] from rfl]
          have hTe : T.toList.isEmpty = false := by simpa using hd
          have HT := Lib.hid cT; clear cT
          clear h0
          go_enter Tryz.func50, Tryz.ntmps50
          go_wp2_with fail
          refine (HC.out.1 _).mono ?_
          rintro e w' ⟨rfl, rfl⟩
          go_wp2_with fail
          refine (HC.out.2 _).mono ?_
          rintro e w' ⟨rfl, rfl⟩
          go_wp2_with fail
          refine (HT.out _ _ (by decide)).mono ?_
          rintro e w2 ⟨rfl, hb2⟩
          go_wp2_with fail
          go_ret2
          exact ⟨rfl, hb2⟩

theorem cut_len (l p : Bytes) : (Lib.trimPrefix l p).length ≤ l.length := by
  unfold Lib.trimPrefix; split
  · simp
  · exact Nat.le_refl _

theorem entity_c (s : ByteArray) (w : World) (hs : s.size ≤ 4611686018427387904) :
    Calls Tryz.prog 50 #[.string s] w fun e w' => e = .returned (entV (entity s.data.toList)) ∧ Below w.heap.size w w' := by
  by_cases h : s.data.toList = [97, 109, 112] ∨ s.data.toList = [108, 116] ∨ s.data.toList = [103, 116] ∨ s.data.toList = [113, 117, 111, 116] ∨ s.data.toList = [97, 112, 111, 115]
  · exact entity_five s w h
  · simp only [not_or] at h
    obtain ⟨h1, h2, h3, h4, h5⟩ := h
    have hE := entity_rest _ h1 h2 h3 h4 h5
    have cH : ∀ W, Calls Tryz.prog 75 #[.string s, .string ⟨#[35]⟩] W fun e w' => e = .returned (.tuple #[.string ⟨(hashOf s.data.toList).toArray⟩, .bool (isHash s.data.toList)]) ∧ W = w' :=
      fun W => (Tryz.strings_CutPrefix s ⟨#[35]⟩ W).mono fun e w' ⟨he, hw⟩ => ⟨he, hw.symm⟩
    have cX : ∀ W, Calls Tryz.prog 75 #[.string ⟨(hashOf s.data.toList).toArray⟩, .string ⟨#[120]⟩] W fun e w' => e = .returned (.tuple #[.string ⟨(hexOf s.data.toList).toArray⟩, .bool (isHex s.data.toList)]) ∧ W = w' :=
      fun W => (Tryz.strings_CutPrefix ⟨(hashOf s.data.toList).toArray⟩ ⟨#[120]⟩ W).mono fun e w' ⟨he, hw⟩ => ⟨he, hw.symm⟩
    have hlen : (⟨(hexOf s.data.toList).toArray⟩ : ByteArray).size ≤ s.size := by
      show (hexOf s.data.toList).toArray.size ≤ _
      have a1 := cut_len (hashOf s.data.toList) [120]
      have a2 := cut_len s.data.toList [35]
      rw [size_list] at a2
      simp only [List.size_toArray]
      exact Nat.le_trans a1 a2
    cases hx : isHex s.data.toList with
    | false =>
      rw [hx] at cX hE
      exact entity_10 s _ _ w hs hlen (eqStr_ne s _ h1) (eqStr_ne s _ h2) (eqStr_ne s _ h3) (eqStr_ne s _ h4) (eqStr_ne s _ h5) _ _ cH cX (by rw [hE]; rfl)
    | true =>
      rw [hx] at cX hE
      exact entity_16 s _ _ w hs hlen (eqStr_ne s _ h1) (eqStr_ne s _ h2) (eqStr_ne s _ h3) (eqStr_ne s _ h4) (eqStr_ne s _ h5) _ _ cH cX (by rw [hE]; rfl)
end Go.Proofs.YtcicibeggkmlcaaGreatDoor
