/- The walks of strconv.ParseUint at digits of its base, and of chars.entity. Conditions: the library's tables lie as they are laid. -/
import Derived.Test.YtcicibeggkmlcaaGreatDoorChC
namespace Go.Proofs.YtcicibeggkmlcaaGreatDoor
open Go.RowKit Go.Sof

theorem or32 : ∀ x : Fin 256, bits .or .u8 ((x.val : Nat) : Int) 32 = ((x.val ||| 32 : Nat) : Int) := by decide +kernel
theorem or32_lo : ∀ x : Fin 256, 97 ≤ x.val → x.val ≤ 102 → (x.val ||| 32) = x.val := by decide +kernel
theorem or32_up : ∀ x : Fin 256, 65 ≤ x.val → x.val ≤ 70 → (x.val ||| 32) = x.val + 32 := by decide +kernel
theorem lower_lo (c : UInt8) (h1 : 97 ≤ c.toNat) (h2 : c.toNat ≤ 102) (w : World) : Calls Tryz.prog 122 #[.int .u8 c.toNat] w fun e w' => e = .returned (.int .u8 c.toNat) ∧ w = w' :=
  (Tryz.internal_strconv_lower c.toNat w).mono fun e w' ⟨he, hw⟩ => ⟨by rw [he]; have := or32 ⟨c.toNat, c.toNat_lt⟩; rw [this, or32_lo ⟨c.toNat, c.toNat_lt⟩ h1 h2], hw.symm⟩
theorem lower_up (c : UInt8) (h1 : 65 ≤ c.toNat) (h2 : c.toNat ≤ 70) (w : World) : Calls Tryz.prog 122 #[.int .u8 c.toNat] w fun e w' => e = .returned (.int .u8 ((c.toNat : Int) + 32)) ∧ w = w' :=
  (Tryz.internal_strconv_lower c.toNat w).mono fun e w' ⟨he, hw⟩ => ⟨by rw [he]; have := or32 ⟨c.toNat, c.toNat_lt⟩; rw [this, or32_up ⟨c.toNat, c.toNat_lt⟩ h1 h2]; rfl, hw.symm⟩

theorem numV_snoc (base : Nat) (l : Bytes) (c : UInt8) : numV base (l ++ [c]) = numV base l * base + hexV c.toNat := by
  unfold numV; rw [List.foldl_append]; rfl
theorem numV_take (base : Nat) (l : Bytes) (k : Nat) (h : k < l.length) : numV base (l.take (k + 1)) = numV base (l.take k) * base + hexV (l.getD k 0).toNat := by
  rw [List.take_succ_eq_append_getElem h, numV_snoc, List.getD_eq_getElem?_getD, List.getElem?_eq_getElem h]; rfl
theorem numV_lt (base : Nat) (_hb : 0 < base) : ∀ l : Bytes, (∀ c ∈ l, hexV c.toNat < base) → numV base l < base ^ l.length := by
  intro l
  induction l with
  | nil => intro _; simp [numV]
  | cons b t ih =>
    intro h
    rw [numV_cons, List.length_cons, Nat.pow_succ']
    have h1 := ih fun c hc => h c (by simp [hc])
    have h2 := h b (by simp)
    have h3 : (hexV b.toNat + 1) * base ^ t.length ≤ base * base ^ t.length := Nat.mul_le_mul_right _ h2
    rw [Nat.add_mul] at h3
    omega
theorem numV_small (base : Nat) (hb : base = 10 ∨ base = 16) (l : Bytes) (h : ∀ c ∈ l, hexV c.toNat < base) (hl : l.length ≤ 8) : numV base l < 4294967296 := by
  have h1 := numV_lt base (by omega) l h
  have h2 : base ^ l.length ≤ 16 ^ 8 := by
    have a1 : base ^ l.length ≤ 16 ^ l.length := Nat.pow_le_pow_left (by omega) _
    have a2 : 16 ^ l.length ≤ 16 ^ 8 := Nat.pow_le_pow_right (by omega) hl
    omega
  omega

/-- the digit that a byte is, as the library reckons it. -/
theorem hex_cases (c : UInt8) (h : hexV c.toNat < 16) : (48 ≤ c.toNat ∧ c.toNat ≤ 57 ∧ hexV c.toNat = c.toNat - 48) ∨ (97 ≤ c.toNat ∧ c.toNat ≤ 102 ∧ hexV c.toNat = c.toNat - 87) ∨ (65 ≤ c.toNat ∧ c.toNat ≤ 70 ∧ hexV c.toNat = c.toNat - 55) := by
  unfold hexV at h ⊢
  repeat' split at h
  all_goals first | omega | skip
  · left; rw [if_pos (by assumption)]; omega
  · right; left; rw [if_neg (by omega), if_pos (by assumption)]; omega
  · right; right; rw [if_neg (by omega), if_neg (by omega), if_pos (by assumption)]; omega

theorem maxv (x : Int) (h : x ≤ 1000000000000) : decide (IntKind.u64.wrap (IntKind.u64.wrap 18446744073709551616 - 1) < x) = false := by
  have e : IntKind.u64.wrap (IntKind.u64.wrap 18446744073709551616 - 1) = 18446744073709551615 := by decide +kernel
  rw [e]; simp; omega

set_option maxRecDepth 1000000 in
set_option maxHeartbeats 2000000 in
theorem puint_10 (s : ByteArray) (w : World) (hs : s.size ≤ 8) (hne : s.data.toList ≠ []) (hd : ∀ c ∈ s.data.toList, hexV c.toNat < 10) :
    Calls Tryz.prog 105 #[.string s, .int .i64 10, .int .i64 64] w fun e w' => e = .returned (.tuple #[.int .u64 (numV 10 s.data.toList), .nilIface]) ∧ Below w.heap.size w w' := by
  have hL : s.toList.isEmpty = false := by rw [Lib.toList_data]; simpa using hne
  have hz0 : (0 : Int) < (s.size : Int) := by
    have := List.length_pos_iff.2 hne; rw [size_list] at this; omega
  obtain ⟨cap, w1, hconv, hcells, hb1, hz1⟩ := conv_bytes s w
  have hdig : ∀ k, k < s.size → hexV (s.data.toList.getD k 0).toNat < 10 := fun k hk => hd _ (by
    have h' : k < s.data.toList.length := hk
    rw [List.getD_eq_getElem?_getD, List.getElem?_eq_getElem h']; exact List.getElem_mem h')
  have hsm : ∀ k, numV 10 (s.data.toList.take k) < 4294967296 := fun k => numV_small 10 (by omega) _ (fun c hc => hd c (List.mem_of_mem_take hc)) (by rw [List.length_take, size_list]; omega)
  have hnt : ∀ k, k < s.size → _ := fun k hk => numV_take 10 s.data.toList k hk
  have hall : numV 10 s.data.toList = numV 10 (s.data.toList.take s.size) := by rw [List.take_of_length_le (by rw [size_list]; omega)]
  rw [hall]
  clear hall hne hd
  generalize s.data.toList = L at *
  have HC := Lib.hid hcells; clear hcells
  have HD := Lib.hid hdig; clear hdig
  have HS := Lib.hid hsm; clear hsm
  have HN := Lib.hid hnt; clear hnt
  go_enter Tryz.func105, Tryz.ntmps105
  go_wp2_with fail
  clear hconv hL
  go_loopg [12, 13, 101] s.size (fun g us n i wr => w1 = wr ∧ us = .bool false ∧ ∃ k : Nat, k ≤ s.size ∧ g = s.size - k ∧ i = .int .i64 k ∧ n = .int .u64 (numV 10 (L.take k)))
  case atStart => exact ⟨rfl, rfl, 0, Nat.zero_le _, rfl, rfl, rfl⟩
  case round =>
    obtain ⟨rfl, rfl, k, hk, hg, rfl, rfl⟩ := hrel
    have HG := Lib.hid hg; clear hg
    by_cases hlt : k < s.size
    · have hc := HC.out k hlt
      have hx := HD.out k hlt
      have hv := HN.out k hlt
      have hs0 := HS.out k
      obtain ⟨V', hV'⟩ : ∃ V', numV 10 (L.take (k + 1)) = V' := ⟨_, rfl⟩
      rw [hV'] at hv
      generalize numV 10 (L.take k) = V at hv hs0 ⊢
      generalize L.getD k 0 = c at hc hx hv
      have hlt1 : (c.toNat : Int) < 256 := by have := c.toNat_lt; omega
      have hcut : decide ((1844674407370955162 : Int) ≤ (V : Int)) = false := by simp; omega
      rcases hex_cases c (by omega) with ⟨h1, h2, h3⟩ | ⟨h1, h2, h3⟩ | ⟨h1, h2, h3⟩
      · rw [h3] at hv hx
        have HV := Lib.hid (And.intro hV' hv); clear hv h3 hV'
        have hm := maxv ((V : Int) * 10 + ((c.toNat : Int) - 48)) (by omega)
        go_wp2
        go_roundg (s.size - (k + 1))
        case measure => have := HG.out; omega
        case rel => exact ⟨rfl, rfl, k + 1, by omega, rfl, by go_num, by rw [HV.out.1]; have := HV.out.2; show Value.int _ _ = Value.int _ _; congr 1; omega⟩
      · exfalso; omega
      · exfalso; omega
    · obtain rfl : k = s.size := by omega
      go_wp2
      go_ret2
      exact ⟨rfl, hb1⟩

set_option maxRecDepth 100000 in
theorem ppuint_10 (s : ByteArray) (w : World) (hs : s.size ≤ 8) (hne : s.data.toList ≠ []) (hd : ∀ c ∈ s.data.toList, hexV c.toNat < 10) :
    Calls Tryz.prog 77 #[.string s, .int .i64 10, .int .i64 64] w fun e w' => e = .returned (.tuple #[.int .u64 (numV 10 s.data.toList), .nilIface]) ∧ Below w.heap.size w w' := by
  have hc := puint_10 s w hs hne hd
  generalize numV 10 s.data.toList = V at *
  go_enter Tryz.func77, Tryz.ntmps77
  go_wp2_with (first | (go_at_call 105; refine hc.mono ?_; rintro e w2 ⟨rfl, hb2⟩))
  go_ret2
  exact ⟨rfl, hb2⟩

set_option maxRecDepth 1000000 in
set_option maxHeartbeats 2000000 in
theorem puint_16 (s : ByteArray) (w : World) (hs : s.size ≤ 8) (hne : s.data.toList ≠ []) (hd : ∀ c ∈ s.data.toList, hexV c.toNat < 16) :
    Calls Tryz.prog 105 #[.string s, .int .i64 16, .int .i64 64] w fun e w' => e = .returned (.tuple #[.int .u64 (numV 16 s.data.toList), .nilIface]) ∧ Below w.heap.size w w' := by
  have hL : s.toList.isEmpty = false := by rw [Lib.toList_data]; simpa using hne
  have hz0 : (0 : Int) < (s.size : Int) := by
    have := List.length_pos_iff.2 hne; rw [size_list] at this; omega
  obtain ⟨cap, w1, hconv, hcells, hb1, hz1⟩ := conv_bytes s w
  have hdig : ∀ k, k < s.size → hexV (s.data.toList.getD k 0).toNat < 16 := fun k hk => hd _ (by
    have h' : k < s.data.toList.length := hk
    rw [List.getD_eq_getElem?_getD, List.getElem?_eq_getElem h']; exact List.getElem_mem h')
  have hsm : ∀ k, numV 16 (s.data.toList.take k) < 4294967296 := fun k => numV_small 16 (by omega) _ (fun c hc => hd c (List.mem_of_mem_take hc)) (by rw [List.length_take, size_list]; omega)
  have hnt : ∀ k, k < s.size → _ := fun k hk => numV_take 16 s.data.toList k hk
  have hall : numV 16 s.data.toList = numV 16 (s.data.toList.take s.size) := by rw [List.take_of_length_le (by rw [size_list]; omega)]
  rw [hall]
  clear hall hne hd
  generalize s.data.toList = L at *
  have HC := Lib.hid hcells; clear hcells
  have HD := Lib.hid hdig; clear hdig
  have HS := Lib.hid hsm; clear hsm
  have HN := Lib.hid hnt; clear hnt
  go_enter Tryz.func105, Tryz.ntmps105
  go_wp2_with fail
  clear hconv hL
  go_loopg [12, 13, 101] s.size (fun g us n i wr => w1 = wr ∧ us = .bool false ∧ ∃ k : Nat, k ≤ s.size ∧ g = s.size - k ∧ i = .int .i64 k ∧ n = .int .u64 (numV 16 (L.take k)))
  case atStart => exact ⟨rfl, rfl, 0, Nat.zero_le _, rfl, rfl, rfl⟩
  case round =>
    obtain ⟨rfl, rfl, k, hk, hg, rfl, rfl⟩ := hrel
    have HG := Lib.hid hg; clear hg
    by_cases hlt : k < s.size
    · have hc := HC.out k hlt
      have hx := HD.out k hlt
      have hv := HN.out k hlt
      have hs0 := HS.out k
      obtain ⟨V', hV'⟩ : ∃ V', numV 16 (L.take (k + 1)) = V' := ⟨_, rfl⟩
      rw [hV'] at hv
      generalize numV 16 (L.take k) = V at hv hs0 ⊢
      generalize L.getD k 0 = c at hc hx hv
      have hlt1 : (c.toNat : Int) < 256 := by have := c.toNat_lt; omega
      have hcut : decide ((1152921504606846976 : Int) ≤ (V : Int)) = false := by simp; omega
      rcases hex_cases c (by omega) with ⟨h1, h2, h3⟩ | ⟨h1, h2, h3⟩ | ⟨h1, h2, h3⟩
      · rw [h3] at hv hx
        have HV := Lib.hid (And.intro hV' hv); clear hv h3 hV'
        have hm := maxv ((V : Int) * 16 + ((c.toNat : Int) - 48)) (by omega)
        go_wp2
        go_roundg (s.size - (k + 1))
        case measure => have := HG.out; omega
        case rel => exact ⟨rfl, rfl, k + 1, by omega, rfl, by go_num, by rw [HV.out.1]; have := HV.out.2; show Value.int _ _ = Value.int _ _; congr 1; omega⟩
      · rw [h3] at hv hx
        have HV := Lib.hid (And.intro hV' hv); clear hv h3 hV'
        have hm := maxv ((V : Int) * 16 + ((c.toNat : Int) - 97 + 10)) (by omega)
        go_wp2_with (first | (go_at_call 122; refine (lower_lo c h1 h2 _).mono ?_; rintro e w' ⟨rfl, rfl⟩))
        go_roundg (s.size - (k + 1))
        case measure => have := HG.out; omega
        case rel => exact ⟨rfl, rfl, k + 1, by omega, rfl, by go_num, by rw [HV.out.1]; have := HV.out.2; show Value.int _ _ = Value.int _ _; congr 1; omega⟩
      · rw [h3] at hv hx
        have HV := Lib.hid (And.intro hV' hv); clear hv h3 hV'
        have hm := maxv ((V : Int) * 16 + ((c.toNat : Int) + 32 - 97 + 10)) (by omega)
        go_wp2_with (first | (go_at_call 122; refine (lower_up c h1 h2 _).mono ?_; rintro e w' ⟨rfl, rfl⟩))
        go_roundg (s.size - (k + 1))
        case measure => have := HG.out; omega
        case rel => exact ⟨rfl, rfl, k + 1, by omega, rfl, by go_num, by rw [HV.out.1]; have := HV.out.2; show Value.int _ _ = Value.int _ _; congr 1; omega⟩
    · obtain rfl : k = s.size := by omega
      go_wp2
      go_ret2
      exact ⟨rfl, hb1⟩

set_option maxRecDepth 100000 in
theorem ppuint_16 (s : ByteArray) (w : World) (hs : s.size ≤ 8) (hne : s.data.toList ≠ []) (hd : ∀ c ∈ s.data.toList, hexV c.toNat < 16) :
    Calls Tryz.prog 77 #[.string s, .int .i64 16, .int .i64 64] w fun e w' => e = .returned (.tuple #[.int .u64 (numV 16 s.data.toList), .nilIface]) ∧ Below w.heap.size w w' := by
  have hc := puint_16 s w hs hne hd
  generalize numV 16 s.data.toList = V at *
  go_enter Tryz.func77, Tryz.ntmps77
  go_wp2_with (first | (go_at_call 105; refine hc.mono ?_; rintro e w2 ⟨rfl, hb2⟩))
  go_ret2
  exact ⟨rfl, hb2⟩

end Go.Proofs.YtcicibeggkmlcaaGreatDoor
