/- The walk of the law TreeDeep. Conditions: the tables lie as they are laid. -/
import Derived.Test.YtcicibeggkmlcaaGreatDoorTrO
import Derived.Test.YtcicibeggkmlcaaGreatDoorSaA
namespace Go.Proofs.YtcicibeggkmlcaaGreatDoor
open Go.RowKit Go.Sof

def deepB (k : Nat) : Bool :=
  match parseT (deepS k ++ deepT k) with
  | .error _ => true
  | .ok n => Nat.ble (nBulk n) 1048576
theorem deepB_all : (List.range 20).all (fun j => deepB (55 + j)) = true := by kernel_rfl
theorem deepS_succ (k : Nat) : deepS (k + 1) = deepS k ++ [60, 97, 62] := by
  unfold deepS; rw [List.replicate_succ']; simp
theorem deepT_succ (k : Nat) : deepT (k + 1) = deepT k ++ [60, 47, 97, 62] := by
  unfold deepT; rw [List.replicate_succ']; simp
theorem deepS_len : ∀ k : Nat, (deepS k).length = 3 * k
  | 0 => rfl
  | k + 1 => by rw [deepS_succ, List.length_append, deepS_len k]; simp; omega
theorem deepT_len : ∀ k : Nat, (deepT k).length = 4 * k
  | 0 => rfl
  | k + 1 => by rw [deepT_succ, List.length_append, deepT_len k]; simp; omega
theorem deep_cases (j : Nat) (hj : j < 20) : (parseT (deepS (55 + j) ++ deepT (55 + j)) = .error (192, 9) ∧ 64 < 55 + j) ∨
    ∃ n t, parseT (deepS (55 + j) ++ deepT (55 + j)) = .ok n ∧ 55 + j ≤ 64 ∧ nBulk n ≤ 1048576 ∧ textT n = .ok t ∧ t = (deepS (55 + j)).take (3 * (55 + j) - 3) ++ ([60, 97, 47, 62] ++ (deepT (55 + j)).take (4 * (55 + j) - 4)) := by
  have h1 : deepOK (55 + j) = true := List.all_eq_true.1 deep_all j (List.mem_range.2 hj)
  have h2 : deepB (55 + j) = true := List.all_eq_true.1 deepB_all j (List.mem_range.2 hj)
  unfold deepOK at h1
  unfold deepB at h2
  generalize 55 + j = k at *
  cases hp : parseT (deepS k ++ deepT k) with
  | error ae =>
    obtain ⟨a, e⟩ := ae
    rw [hp] at h1
    simp only [Bool.and_eq_true, beq_iff_eq] at h1
    obtain ⟨h3, rfl, rfl⟩ := h1
    exact .inl ⟨rfl, by have := Nat.le_of_ble_eq_true (show Nat.ble 65 k = true from h3); omega⟩
  | ok n =>
    rw [hp] at h1 h2
    simp only [Bool.and_eq_true] at h1
    obtain ⟨h3, h4⟩ := h1
    cases ht : textT n with
    | error e => rw [ht] at h4; simp at h4
    | ok t =>
      rw [ht] at h4
      simp only [beq_iff_eq] at h4
      exact .inr ⟨n, t, rfl, Nat.le_of_ble_eq_true h3, Nat.le_of_ble_eq_true h2, ht, h4⟩

theorem nodeD_zero (w : World) (Q : Nat → Prop) : NodeD w Q 1 (.agg #[.string ⟨#[]⟩, .int .i64 0, .slice none 0 0, .slice none 0 0, .string ⟨#[]⟩]) (.mk [] 0 [] [] []) :=
  ⟨none, 0, none, 0, rfl, Nat.le_refl _, Nat.le_refl _, fun j hj => absurd hj (by simp [PNode.attrs]), fun i hi => absurd hi (by simp [PNode.kids])⟩

set_option maxRecDepth 1000000 in
set_option maxHeartbeats 4000000 in
theorem tdeep_c (m : Nat) (hm : m ≤ 255) (w : World) (hw : WOK w) :
    Calls Tryz.prog 12 #[.int .u8 m] w fun en w' => en = .returned (.bool true) ∧ Below w.heap.size w w' := by
  obtain ⟨j, hj⟩ : ∃ j, j = m % 20 := ⟨_, rfl⟩
  have hj20 : j < 20 := by omega
  have hcs := deep_cases j hj20
  obtain ⟨K, hK⟩ : ∃ K, K = 55 + j := ⟨_, rfl⟩
  rw [← hK] at hcs
  have HM := Lib.hid (show (55 : Int) + (m : Int) % 20 = (K : Int) from by omega)
  have hK75 : K ≤ 75 := by omega
  have hK55 : 55 ≤ K := by omega
  have HW := Lib.hid hw; have HC := Lib.hid hcs; clear hw hcs
  go_enter Tryz.func12, Tryz.ntmps12
  go_wp2_with fail
  rw [HM.out]
  clear HM hK hj hj20
  go_loopg [4, 5, 6] K (fun g s t i wr => Below w.heap.size w wr ∧ ∃ k : Nat, k ≤ K ∧ g = K - k ∧ i = .int .i64 k ∧ s = .string ⟨(deepS k).toArray⟩ ∧ t = .string ⟨(deepT k).toArray⟩)
  case atStart => exact ⟨Below.refl _ _, 0, Nat.zero_le _, rfl, rfl, rfl, rfl⟩
  case round =>
    obtain ⟨hbw, k, hk, hg, rfl, rfl, rfl⟩ := hrel
    have hl1 : (deepS k).length ≤ 225 := by rw [deepS_len]; omega
    have hl2 : (deepT k).length ≤ 300 := by rw [deepT_len]; omega
    by_cases hlt : k < K
    · have hkI : (k : Int) < (K : Int) := by omega
      have HB := Lib.hid (And.intro hbw hg); clear hbw hg
      go_wp2_with fail
      go_roundg (K - (k + 1))
      case measure => have := HB.out.2; omega
      case rel => exact ⟨HB.out.1, k + 1, by omega, rfl, by go_num, by rw [deepS_succ]; first | exact congrArg Value.string (ba_app _ _) | simp, by rw [deepT_succ]; first | exact congrArg Value.string (ba_app _ _) | simp⟩
    · obtain rfl : k = K := by omega
      have hkI : decide ((k : Int) < (k : Int)) = false := by simp
      have HB := Lib.hid hbw; clear hbw hg
      have hpc := fun W hW => parse_c W ⟨(deepS k ++ deepT k).toArray⟩ (by show (deepS k ++ deepT k).toArray.size ≤ _; rw [List.size_toArray, List.length_append, deepS_len, deepT_len]; omega) hW
      simp only at hpc
      simp only [← ba_app] at hpc
      have hk55 : 55 ≤ k := hK55
      rcases HC.out with ⟨hp, h64⟩ | ⟨n, t, hp, h64, hnb, ht, htt⟩
      · have h64I : (64 : Int) < (k : Int) := by omega
        simp only [hp] at hpc
        have HP := Lib.hid hpc; clear hpc hp HC
        go_wp2_with fail
        go_upto_region 9 with (first
          | (go_at_call 37; refine (HP.out _ (HW.out.below HB.out)).mono ?_; rintro en w1 ⟨⟨rfl, _⟩, b1⟩))
        obtain ⟨wA, hwA⟩ : ∃ wA, wA = w1.alloc (.cells #[.string ⟨#[]⟩, .int .i64 0, .slice none 0 0, .slice none 0 0, .string ⟨#[]⟩] 47) := ⟨_, rfl⟩
        rw [← hwA]
        have hA : Nd5 wA w1.heap.size [] 0 (.slice none 0 0) (.slice none 0 0) [] := by rw [hwA]; exact Nd5.new w1 [] 0 _ _ []
        have hB1 : Below w.heap.size w wA := by rw [hwA]; exact (HB.out.trans (b1.mono HB.out.size)).alloc (Nat.le_trans HB.out.size b1.size) _
        have HA := Lib.hid (And.intro hA hB1); clear hA hB1 hwA b1 hl1 hl2
        go_wp2_with (first
          | (go_at_call 34; refine (awt_c _ (HW.out.below HA.out.2)).mono ?_; rintro en w2 ⟨rfl, b2⟩; have h2 := HA.out.1.below b2; have r0 := h2.c0; have r1 := h2.c1; have r2 := h2.c2; have r3 := h2.c3; have r4 := h2.c4; have c2 := HA.out.2.trans (b2.mono HA.out.2.size); clear h2 b2)
          | (go_at_call 38; refine (rsame_c _ (fun _ => True) (fun _ => True) 1 (.mk [] 0 [] [] []) (.mk [] 0 [] [] []) _ _ (nodeD_zero _ _) ⟨1, nodeD_zero _ _⟩ (by decide) (by decide) _ (Below.refl _ _)).mono ?_; rintro en w3 ⟨rfl, b3⟩; have c3 := c2.trans (b3.mono c2.size); clear b3))
        go_ret
        exact ⟨rfl, c3⟩
      · have h64I : decide ((64 : Int) < (k : Int)) = false := decide_eq_false (by omega)
        simp only [hp] at hpc
        have hz := ndsz_of n hnb
        have HP := Lib.hid hpc; have HT := Lib.hid (And.intro ht (And.intro htt hz)); clear hpc hp HC ht htt hz hnb h64
        go_wp2_with fail
        go_upto_region 9 with (first
          | (go_at_call 37; refine (HP.out _ (HW.out.below HB.out)).mono ?_; rintro en w1 ⟨⟨pm, cm, pj, cj, rfl, dn, hnm⟩, b1⟩; unfold nodeV at hnm ⊢))
        obtain ⟨wA, hwA⟩ : ∃ wA, wA = w1.alloc (.cells #[.string ⟨n.name.toArray⟩, .int .i64 n.pos, .slice pm n.attrs.length cm, .slice pj n.kids.length cj, .string ⟨n.text.toArray⟩] 47) := ⟨_, rfl⟩
        rw [← hwA]
        have hA : Nd5 wA w1.heap.size n.name n.pos (.slice pm n.attrs.length cm) (.slice pj n.kids.length cj) n.text := by rw [hwA]; exact Nd5.new w1 _ _ _ _ _
        have hB1 : Below w.heap.size w w1 := HB.out.trans (b1.mono HB.out.size)
        have hBA : Below w1.heap.size w1 wA := by rw [hwA]; exact (Below.refl _ w1).alloc (Nat.le_refl _) _
        have q0 := hA.c0; have q1 := hA.c1; have q2 := hA.c2; have q3 := hA.c3; have q4 := hA.c4
        have htx : ∀ W, Below w1.heap.size w1 W → WOK W → Calls Tryz.prog 35 #[.agg #[.string ⟨n.name.toArray⟩, .int .i64 n.pos, .slice pm n.attrs.length cm, .slice pj n.kids.length cj, .string ⟨n.text.toArray⟩]] W fun en w' => en = .returned (.tuple #[.string ⟨t.toArray⟩, .int .i64 0]) ∧ Below W.heap.size W w' := fun W hW hWW =>
          (ttext_c w1 _ dn n _ hnm HT.out.2.2 W hW hWW _ HT.out.1).mono fun en w' h => ⟨h.1, h.2⟩
        have HA := Lib.hid (And.intro hA (And.intro hB1 (And.intro hBA (And.intro htx (hB1.trans (hBA.mono hB1.size)))))); clear hA hB1 hBA hwA b1 hnm htx
        go_upto_region 12 with (first
          | (go_at_call 35; refine (HA.out.2.2.2.1 _ HA.out.2.2.1 (HW.out.below HA.out.2.2.2.2)).mono ?_; rintro en w2 ⟨rfl, b2⟩; have c2 := HA.out.2.2.2.2.trans (b2.mono HA.out.2.2.2.2.size); clear b2))
        have hs1 : 3 * (k : Int) - 3 ≤ ((deepS k).length : Int) := by rw [deepS_len]; omega
        have hs2 : 4 * (k : Int) - 4 ≤ ((deepT k).length : Int) := by rw [deepT_len]; omega
        have hs3 : (0 : Int) ≤ 3 * (k : Int) - 3 := by omega
        have hs4 : (0 : Int) ≤ 4 * (k : Int) - 4 := by omega
        have hs5 : (3 : Int) ≤ 3 * (k : Int) := by omega
        have hs6 : (4 : Int) ≤ 4 * (k : Int) := by omega
        have hs7 : 3 * (k : Int) ≤ ((deepS k).length : Int) + 3 := by omega
        have hs8 : 4 * (k : Int) ≤ ((deepT k).length : Int) + 4 := by omega
        have ha0 : IntKind.i64.wrap (3 * (k : Int)) = 3 * (k : Int) := IntWalk.i64_in _ (by omega)
        have hb0 : RowKit.wrap64 (3 * (k : Int)) = 3 * (k : Int) := by rw [← IntWalk.i64_left]; exact ha0
        have ha1 : IntKind.i64.wrap (3 * (k : Int) - 3) = 3 * (k : Int) - 3 := IntWalk.i64_in _ (by omega)
        have hb1 : RowKit.wrap64 (3 * (k : Int) - 3) = 3 * (k : Int) - 3 := by rw [← IntWalk.i64_left]; exact ha1
        have ha2 : IntKind.i64.wrap (4 * (k : Int)) = 4 * (k : Int) := IntWalk.i64_in _ (by omega)
        have hb2 : RowKit.wrap64 (4 * (k : Int)) = 4 * (k : Int) := by rw [← IntWalk.i64_left]; exact ha2
        have ha3 : IntKind.i64.wrap (4 * (k : Int) - 4) = 4 * (k : Int) - 4 := IntWalk.i64_in _ (by omega)
        have hb3 : RowKit.wrap64 (4 * (k : Int) - 4) = 4 * (k : Int) - 4 := by rw [← IntWalk.i64_left]; exact ha3
        have hc1 : ¬ 9223372036854775807 < (3 * (k : Int) - 3).toNat + 4 := by omega
        have hc2 : ¬ 9223372036854775807 < min (3 * k - 3) (List.length (deepS k)) + 4 + min (4 * k - 4) (List.length (deepT k)) := by omega
        have hc3 : ¬ 9223372036854775807 < min (3 * k - 3) (List.length (deepS k)) + 4 := by omega
        have hc4 : ¬ 9223372036854775807 < (3 * (k : Int) - 3).toNat + 4 + (4 * (k : Int) - 4).toNat := by omega
        go_region_held3 (fun w' => True) (exact trivial) (first | (go_at_call 34; refine (awt_c _ (HW.out.below c2.drew)).mono ?_; rintro en w3 ⟨rfl, b3⟩; have c3 := c2.drew.trans (b3.mono c2.size); clear b3))
        have hfin : (t == ((⟨(deepS k).toArray⟩ : ByteArray).extract 0 (3 * (k : Int) - 3).toNat ++ ⟨#[60, 97, 47, 62]⟩ ++ (⟨(deepT k).toArray⟩ : ByteArray).extract 0 (4 * (k : Int) - 4).toNat).toList) = true := by
          rw [show (3 * (k : Int) - 3).toNat = 3 * k - 3 from by omega, show (4 * (k : Int) - 4).toNat = 4 * k - 4 from by omega, beq_iff_eq, HT.out.2.1, ByteArray.toList_eq]
          simp
        rw [hfin]
        go_wp2_with fail
        go_ret
        exact ⟨rfl, c3⟩
end Go.Proofs.YtcicibeggkmlcaaGreatDoor
