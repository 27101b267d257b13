/- The walks of the reference of chars: entity, Unescape. Conditions: the text has at most 2^31 bytes. -/
import Derived.Test.YtcicibeggkmlcaaGreatDoorRfE
namespace Go.Proofs.YtcicibeggkmlcaaGreatDoor
open Go.RowKit Go.Sof

theorem rent_five (s : ByteArray) (w : World) (h : s.data.toList = [97, 109, 112] ∨ s.data.toList = [108, 116] ∨ s.data.toList = [103, 116] ∨ s.data.toList = [113, 117, 111, 116] ∨ s.data.toList = [97, 112, 111, 115]) :
    Calls Tryz.prog 53 #[.string s] w fun e w' => e = .returned (entV (entity s.data.toList)) ∧ Below w.heap.size w w' := by
  rcases h with h | h | h | h | h
  · rw [h, ba_of s _ h, show entity [97, 109, 112] = some [38] from by decide +kernel, show entV (some [38]) = .tuple #[.string ⟨#[38]⟩, .bool true] from rfl]
    go_enter Tryz.func53, Tryz.ntmps53
    go_wp2_with fail
    go_ret2
    exact ⟨rfl, Below.refl _ _⟩
  · rw [h, ba_of s _ h, show entity [108, 116] = some [60] from by decide +kernel, show entV (some [60]) = .tuple #[.string ⟨#[60]⟩, .bool true] from rfl]
    go_enter Tryz.func53, Tryz.ntmps53
    go_wp2_with fail
    go_ret2
    exact ⟨rfl, Below.refl _ _⟩
  · rw [h, ba_of s _ h, show entity [103, 116] = some [62] from by decide +kernel, show entV (some [62]) = .tuple #[.string ⟨#[62]⟩, .bool true] from rfl]
    go_enter Tryz.func53, Tryz.ntmps53
    go_wp2_with fail
    go_ret2
    exact ⟨rfl, Below.refl _ _⟩
  · rw [h, ba_of s _ h, show entity [113, 117, 111, 116] = some [34] from by decide +kernel, show entV (some [34]) = .tuple #[.string ⟨#[34]⟩, .bool true] from rfl]
    go_enter Tryz.func53, Tryz.ntmps53
    go_wp2_with fail
    go_ret2
    exact ⟨rfl, Below.refl _ _⟩
  · rw [h, ba_of s _ h, show entity [97, 112, 111, 115] = some [39] from by decide +kernel, show entV (some [39]) = .tuple #[.string ⟨#[39]⟩, .bool true] from rfl]
    go_enter Tryz.func53, Tryz.ntmps53
    go_wp2_with fail
    go_ret2
    exact ⟨rfl, Below.refl _ _⟩

theorem cons_list (s : ByteArray) (h : 0 < s.size) : s.data.toList = s[0] :: s.data.toList.drop 1 := by
  have := get_cons s 0 h
  rwa [List.drop_zero] at this

set_option maxRecDepth 100000 in
theorem rent_c (s : ByteArray) (w : World) (hs : s.size ≤ 2147483648) :
    Calls Tryz.prog 53 #[.string s] w fun e w' => e = .returned (entV (entity s.data.toList)) ∧ Below w.heap.size w w' := by
  by_cases a1 : s.data.toList = [97, 109, 112]
  · exact rent_five s w (Or.inl a1)
  by_cases a2 : s.data.toList = [108, 116]
  · exact rent_five s w (Or.inr (Or.inl a2))
  by_cases a3 : s.data.toList = [103, 116]
  · exact rent_five s w (Or.inr (Or.inr (Or.inl a3)))
  by_cases a4 : s.data.toList = [113, 117, 111, 116]
  · exact rent_five s w (Or.inr (Or.inr (Or.inr (Or.inl a4))))
  by_cases a5 : s.data.toList = [97, 112, 111, 115]
  · exact rent_five s w (Or.inr (Or.inr (Or.inr (Or.inr a5))))
  have k1 := eqStr_ne s _ a1
  have k2 := eqStr_ne s _ a2
  have k3 := eqStr_ne s _ a3
  have k4 := eqStr_ne s _ a4
  have k5 := eqStr_ne s _ a5
  have hent := entity_rest _ a1 a2 a3 a4 a5
  clear a1 a2 a3 a4 a5
  by_cases h0 : s.size = 0
  · have e0 : s = ⟨#[]⟩ := ba_of s [] (List.eq_nil_of_length_eq_zero h0)
    subst e0
    rw [show entity (ByteArray.mk #[]).data.toList = none from by decide +kernel, rent_none]
    clear hent k1 k2 k3 k4 k5
    go_enter Tryz.func53, Tryz.ntmps53
    go_wp2_with fail
    go_ret2
    exact ⟨rfl, Below.refl _ _⟩
  have hcons := cons_list s (by omega)
  have ne : s.toList.isEmpty = false := by rw [Lib.toList_data, hcons]; rfl
  by_cases h35 : s[0]'(by omega) = 35
  · by_cases h1 : s.size = 1
    · have e0 : s = ⟨#[35]⟩ := ba_of s [35] (by
        rw [hcons, h35]
        congr 1
        apply List.eq_nil_of_length_eq_zero; rw [List.length_drop, size_list]; omega)
      subst e0
      rw [show entity (ByteArray.mk #[35]).data.toList = none from by decide +kernel, rent_none]
      clear hent k1 k2 k3 k4 k5 hcons ne h35
      go_enter Tryz.func53, Tryz.ntmps53
      go_wp2_with fail
      go_ret2
      exact ⟨rfl, Below.refl _ _⟩
    · have hcons2 := get_cons s 1 (by omega)
      by_cases hx : s[1]'(by omega) = 120
      · have he : entity s.data.toList = numE 16 (s.data.toList.drop 2) := by
          rw [hcons, h35, hcons2, hx]; exact entity_hex _
        rw [he]
        exact rent_16 s w hs k1 k2 k3 k4 k5 (by omega) h35 hx ne
      · have he : entity s.data.toList = numE 10 (s.data.toList.drop 1) := by
          rw [hent]
          unfold isHash isHex hexOf hashOf Lib.trimPrefix
          simp only [hasPrefix_one]
          rw [hcons, h35, hcons2]
          have e1 : headIs (s[1]'(by omega) :: s.data.toList.drop (1 + 1)) 120 = false := by unfold headIs; simpa using hx
          have e2 : ∀ u : Bytes, headIs (35 :: u) 35 = true := fun u => rfl
          simp [e1, e2]
        rw [he]
        exact rent_10 s w hs k1 k2 k3 k4 k5 (by omega) h35 hx ne
  · have he : entity s.data.toList = none := by
      rw [hent, if_pos]
      unfold isHash; rw [hasPrefix_one, hcons]; unfold headIs; simpa using h35
    rw [he, rent_none]
    have n35 := ne_u8 (s[0]'(by omega)) 35 35 rfl h35
    have hz : 0 < s.size := by omega
    clear hent he hcons h35
    go_enter Tryz.func53, Tryz.ntmps53
    go_wp2_with fail
    go_ret2
    exact ⟨rfl, Below.refl _ _⟩

/-- what the inner loop of Unescape has seen: no ';' so far. -/
def NoSemi (t : Bytes) (j : Nat) : Prop := (59 : UInt8) ∉ t.take j
theorem NoSemi.start (t : Bytes) : NoSemi t 0 := by unfold NoSemi; simp
theorem NoSemi.next {t : Bytes} {j : Nat} (h : NoSemi t j) (hj : j < t.length) (hc : t.getD j 0 ≠ 59) : NoSemi t (j + 1) := by
  unfold NoSemi at *
  rw [List.take_succ_eq_append_getElem hj, List.mem_append]
  rw [List.getD_eq_getElem?_getD, List.getElem?_eq_getElem hj] at hc
  simp at hc ⊢
  exact ⟨by simpa using h, fun e => hc e.symm⟩
theorem NoSemi.full {t : Bytes} (h : NoSemi t t.length) : (59 : UInt8) ∉ t := by unfold NoSemi at h; rwa [List.take_length] at h
theorem NoSemi.hit {t : Bytes} {j : Nat} (h : NoSemi t j) (hj : j < t.length) (hc : t.getD j 0 = 59) : (59 : UInt8) ∈ t ∧ nameOf t = t.take j := by
  rw [List.getD_eq_getElem?_getD, List.getElem?_eq_getElem hj] at hc
  simp at hc
  refine ⟨hc ▸ List.getElem_mem hj, ?_⟩
  unfold nameOf NoSemi at *
  have e := List.take_append_drop j t
  have e2 := List.drop_eq_getElem_cons hj
  rw [hc] at e2
  generalize t.take j = a at *
  rw [← e, e2, List.takeWhile_append_of_pos]
  · simp
  · intro x hx; simp; rintro rfl; exact h hx

set_option maxRecDepth 100000 in
set_option maxHeartbeats 4000000 in
theorem run_c (s : ByteArray) (w : World) (hs : s.size ≤ 2147483648) :
    Calls Tryz.prog 26 #[.string s] w fun e w' => e = .returned (unV (unR s.data.toList)) ∧ Below w.heap.size w w' := by
  obtain ⟨U, hU⟩ : ∃ U, U = unR s.data.toList := ⟨_, rfl⟩
  rw [← hU]
  have HU := Lib.hid hU; clear hU
  go_enter Tryz.func26, Tryz.ntmps26
  go_wp2_with fail
  go_loopg [5, 6] s.size (fun g t i wr => ∃ (p : Nat) (o : Bytes), g = s.size - p ∧ i = .int .i64 p ∧ t = .string ⟨o.toArray⟩ ∧ UnAt s.data.toList p o ∧ Below w.heap.size w wr)
  case atStart => exact ⟨0, [], rfl, rfl, rfl, UnAt.start _, Below.refl _ w⟩
  case round =>
    obtain ⟨p, o, hg, rfl, rfl, hun, hb⟩ := hrel
    have hpl : p ≤ s.size := hun.le
    have hol := hun.len
    have HG := Lib.hid (And.intro hg (And.intro hun hb)); clear hg
    have hsz := hb.size
    by_cases hlt : p < s.size
    · have hcons := get_cons s p hlt
      obtain ⟨b, hbx⟩ : ∃ x, s[p]'hlt = x := ⟨_, rfl⟩
      rw [hbx] at hcons
      have hblt : (b.toNat : Int) < 256 := by have := b.toNat_lt; omega
      by_cases h60 : b = 60
      · subst h60
        have hr := hun.err (un_lt hcons)
        rw [Nat.zero_add, ← HU.out] at hr
        subst hr
        clear hun hcons hb
        go_wp2_with fail
        go_ret3
        exact ⟨rfl, HG.out.2.2⟩
      · have n60 := ne_u8 b 60 60 rfl h60
        by_cases h38 : b = 38
        · subst h38
          have hand := un_and hcons
          have HA := Lib.hid (And.intro hand hun)
          clear hun hcons hb hand n60 h60
          obtain ⟨wo, rfl⟩ : ∃ wo : World, wo = wr := ⟨_, rfl⟩
          go_wp2_with fail
          go_loopg [7] (s.size - p - 1) (fun g i wr => wo = wr ∧ ∃ j : Nat, p + 1 + j ≤ s.size ∧ g = s.size - p - 1 - j ∧ i = .int .i64 ((p : Int) + 1 + (j : Int)) ∧ NoSemi (s.data.toList.drop (p + 1)) j)
          case atStart => exact ⟨rfl, 0, by omega, by omega, by go_num, NoSemi.start _⟩
          case round =>
            obtain ⟨rfl, j, hj, hg2, rfl, hns⟩ := hrel
            have hdl : (s.data.toList.drop (p + 1)).length = s.size - (p + 1) := by rw [List.length_drop, size_list]
            by_cases hlj : p + 1 + j < s.size
            · have hget := getD_at s (p + 1 + j) hlj
              rw [← drop_getD] at hget
              obtain ⟨c, hc⟩ : ∃ c, s[p + 1 + j]'hlj = c := ⟨_, rfl⟩
              rw [hc] at hget
              have hi : ((p : Int) + 1 + (j : Int)).toNat = p + 1 + j := by omega
              by_cases hc59 : c = 59
              · subst hc59
                have hh := hns.hit (by omega) hget
                have hand := HA.out.1
                rw [if_pos hh.1, hh.2] at hand
                have hent := fun W => rent_c (s.extract (p + 1) (p + 1 + j)) W (by simp; omega)
                rw [mid_list, entV_eq] at hent
                have hlen : ((s.data.toList.drop (p + 1)).take j).length = j := by rw [List.length_take]; omega
                have helen := entity_len ((s.data.toList.drop (p + 1)).take j)
                have hdd : (s.data.toList.drop p).drop (j + 2) = (s.data.toList.drop (p + 1)).drop (j + 1) := by
                  rw [List.drop_drop, List.drop_drop]; congr 1; omega
                rw [hlen, ← hdd] at hand
                have hi1 : ((p : Int) + 1).toNat = p + 1 := by omega
                have hne : ((p : Int) + 1 + (j : Int) == (s.size : Int)) = false := beq_eq_false_iff_ne.2 (by omega)
                generalize (s.data.toList.drop (p + 1)).take j = nm at *
                cases hE : entity nm with
                | none =>
                  rw [hE] at hand hent
                  have hr := HA.out.2.err hand
                  rw [Nat.zero_add, ← HU.out] at hr
                  subst hr
                  rw [show entB none = false from rfl] at hent
                  generalize entS none = eS at hent
                  have HC := Lib.hid hent
                  clear hent hE hand helen hdd hget hns hh HA hlen
                  go_wp2_with (first | (go_at_call 53; refine (HC.out _).mono ?_; rintro e w2 ⟨rfl, hb2⟩))
                  go_ret3
                  exact ⟨rfl, HG.out.2.2.trans (hb2.mono hsz)⟩
                | some x =>
                  rw [hE] at hand hent
                  have hxl := helen x hE
                  have hnx := HA.out.2.next (n := j + 2) (x := x) (by rw [size_list]; omega) (by omega) hand
                  rw [show entB (some x) = true from rfl] at hent
                  have hxe : (entS (some x)).data = x.toArray := rfl
                  have hxs : (entS (some x)).size = x.length := by show (entS (some x)).data.size = _; rw [hxe]; simp
                  generalize entS (some x) = eS at hent hxe hxs
                  have HC := Lib.hid (And.intro hent (And.intro hxe hnx))
                  have hob : o.length ≤ 2147483648 := by omega
                  clear hent hE hand helen hdd hget hns hh HA hlen hxe hnx
                  go_wp2_with (first | (go_at_call 53; refine (HC.out.1 _).mono ?_; rintro e w2 ⟨rfl, hb2⟩))
                  go_roundg (s.size - (p + (j + 2)))
                  case measure => have := HG.out.1; omega
                  case rel => exact ⟨p + (j + 2), o ++ x, rfl, by go_num, by rw [cat_ba' o eS x HC.out.2.1], HC.out.2.2, HG.out.2.2.trans (hb2.mono hsz)⟩
              · have n59 := ne_u8 c 59 59 rfl hc59
                have HN := Lib.hid (hns.next (by omega) (by rw [hget]; exact hc59))
                clear hns hget
                go_wp2_with fail
                go_roundg (s.size - p - 1 - (j + 1))
                case measure => omega
                case rel => exact ⟨rfl, j + 1, by omega, rfl, by go_num, HN.out⟩
            · obtain rfl : j = s.size - (p + 1) := by omega
              have hh : (59 : UInt8) ∉ s.data.toList.drop (p + 1) := NoSemi.full (by rw [hdl]; exact hns)
              have hand := HA.out.1
              rw [if_neg hh] at hand
              have hr := HA.out.2.err hand
              rw [Nat.zero_add, ← HU.out] at hr
              subst hr
              have hent := fun W => rent_c (s.extract (p + 1) s.size) W (by simp; omega)
              rw [entV_eq] at hent
              generalize entity (s.extract (p + 1) s.size).data.toList = E at hent
              generalize entB E = eB at hent
              generalize entS E = eS at hent
              have HC := Lib.hid hent
              have hi1 : ((p : Int) + 1).toNat = p + 1 := by omega
              have hi2 : (p : Int) + 1 + ((s.size - (p + 1) : Nat) : Int) = (s.size : Int) := by omega
              clear hent hand hh hns hdl HA
              rw [hi2]
              go_wp2_with (first | (go_at_call 53; refine (HC.out _).mono ?_; rintro e w2 ⟨rfl, hb2⟩))
              go_ret3
              exact ⟨rfl, HG.out.2.2.trans (hb2.mono hsz)⟩
        · have n38 := ne_u8 b 38 38 rfl h38
          have hoth := un_other hcons h60 h38
          have hne := drop_ne hlt
          have hcall := fun W => first_c (s.extract p s.size) W (by simp; omega)
          rw [Lib.extract_to_end] at hcall
          have hwid := firstL_wid _ hne
          have hle := wid_le _ hne
          rw [List.length_drop, size_list] at hle
          rw [← hwid] at hoth hle
          by_cases hK : (firstL (s.data.toList.drop p)).2 = 0
          · rw [if_pos hK] at hoth
            have hr := hun.err hoth
            rw [Nat.zero_add, ← HU.out] at hr
            subst hr
            generalize firstL (s.data.toList.drop p) = F at *
            obtain ⟨R, K⟩ := F
            dsimp only at *
            subst hK
            have HC := Lib.hid hcall
            clear hun hcons hb hcall hwid hne hoth hle
            go_wp2_with (go_at_call 45; refine (HC.out _).mono ?_; rintro e w2 ⟨rfl, rfl⟩)
            go_ret3
            exact ⟨rfl, HG.out.2.2⟩
          · rw [if_neg hK] at hoth
            have hnx := hun.next (n := (firstL (s.data.toList.drop p)).2) (x := List.take (firstL (s.data.toList.drop p)).2 (s.data.toList.drop p)) (by rw [size_list]; omega) (by rw [List.length_take]; omega) hoth
            have hmid := mid_list s p (firstL (s.data.toList.drop p)).2
            generalize firstL (s.data.toList.drop p) = F at *
            obtain ⟨R, K⟩ := F
            dsimp only at *
            have hk : ((K : Int) == 0) = false := beq_eq_false_iff_ne.2 (by omega)
            have hxs : (s.extract p (p + K)).size = K := by simp; omega
            have HC := Lib.hid (And.intro hcall (And.intro hmid (And.intro hnx hK)))
            have hob : o.length ≤ 2147483648 := by omega
            have hi : ((p : Int) + (K : Int)).toNat = p + K := by omega
            clear hun hcons hb hcall hwid hne hoth hmid hnx hK
            go_wp2_with (go_at_call 45; refine (HC.out.1 _).mono ?_; rintro e w2 ⟨rfl, rfl⟩)
            go_roundg (s.size - (p + K))
            case measure => have := HG.out.1; have := HC.out.2.2.2; omega
            case rel => exact ⟨p + K, o ++ List.take K (s.data.toList.drop p), rfl, by go_num, by rw [cat_ba' o _ _ (Array.toList_inj.1 HC.out.2.1)], HC.out.2.2.1, HG.out.2.2⟩
    · have hr := hun.fin (by rw [size_list]; omega)
      rw [← HU.out] at hr
      subst hr
      clear hun
      go_wp2_with fail
      go_ret3
      exact ⟨rfl, hb⟩
end Go.Proofs.YtcicibeggkmlcaaGreatDoor
