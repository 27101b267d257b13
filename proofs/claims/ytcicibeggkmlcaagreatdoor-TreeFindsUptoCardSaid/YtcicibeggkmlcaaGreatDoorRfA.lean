/- The walks of the reference of chars: Sign, first, Bad, Good, Name. Conditions: each theorem's own premises. -/
import Derived.Test.YtcicibeggkmlcaaGreatDoorChCJ4
namespace Go.Proofs.YtcicibeggkmlcaaGreatDoor
open Go.RowKit Go.Sof

theorem rsign_c (r : Nat) (w : World) : Calls Tryz.prog 27 #[.int .i64 r] w fun e w' => e = .returned (.bool (signB r)) ∧ w = w' := by
  go_enter Tryz.func27, Tryz.ntmps27
  go_wp2
  all_goals go_ret
  all_goals refine ⟨ret_bool (signB_int r _ ?_), rfl⟩
  all_goals (simp; try omega)

theorem byN_get (s : ByteArray) (i : Nat) (h : i < s.size) : byN s.data.toList i = (s[i]'h).toNat := by
  unfold byN
  have h' : i < s.data.toList.length := h
  rw [List.getD_eq_getElem?_getD, List.getElem?_eq_getElem h']; rfl

theorem ret_two {a a' b b' : Int} (h1 : a = a') (h2 : b = b') : Ending.returned (.tuple #[.int .i64 a, .int .i64 b]) = .returned (.tuple #[.int .i64 a', .int .i64 b']) := by rw [h1, h2]

/-- the continuation bytes of a sign, and its number so far. -/
def conOK (l : Bytes) (k : Nat) : Prop := ∀ i, 1 ≤ i → i < k → 128 ≤ byN l i ∧ byN l i < 192
def cv (l : Bytes) (r0 : Nat) : Nat → Nat
  | 0 => r0
  | 1 => r0
  | k + 2 => cv l r0 (k + 1) * 64 + byN l (k + 1) - 128
theorem cv_succ (l : Bytes) (r0 k : Nat) (h : 1 ≤ k) : cv l r0 (k + 1) = cv l r0 k * 64 + byN l k - 128 := by
  cases k with
  | zero => omega
  | succ k => rfl
theorem conOK_succ (l : Bytes) (k : Nat) : conOK l k → 128 ≤ byN l k → byN l k < 192 → conOK l (k + 1) := by
  intro h h1 h2 i hi hk
  by_cases e : i = k
  · subst e; exact ⟨h1, h2⟩
  · exact h i hi (by omega)
theorem cv_bound (l : Bytes) (r0 k : Nat) (h : r0 < 32) (hk1 : 1 ≤ k) (hk : k ≤ 4) (ho : conOK l k) : cv l r0 k < 8388608 ∧ (k ≤ 3 → cv l r0 k < 131072) := by
  have b1 : 1 < k → 128 ≤ byN l 1 ∧ byN l 1 < 192 := ho 1 (by omega)
  have b2 : 2 < k → 128 ≤ byN l 2 ∧ byN l 2 < 192 := ho 2 (by omega)
  have b3 : 3 < k → 128 ≤ byN l 3 ∧ byN l 3 < 192 := ho 3 (by omega)
  have e2 : cv l r0 2 = r0 * 64 + byN l 1 - 128 := rfl
  have e3 : cv l r0 3 = (r0 * 64 + byN l 1 - 128) * 64 + byN l 2 - 128 := rfl
  have e4 : cv l r0 4 = ((r0 * 64 + byN l 1 - 128) * 64 + byN l 2 - 128) * 64 + byN l 3 - 128 := rfl
  have e1 : cv l r0 1 = r0 := rfl
  clear ho
  generalize byN l 1 = x1 at *; generalize byN l 2 = x2 at *; generalize byN l 3 = x3 at *
  have hkk : k = 1 ∨ k = 2 ∨ k = 3 ∨ k = 4 := by omega
  rcases hkk with rfl | rfl | rfl | rfl
  · rw [e1]; omega
  · have := b1 (by omega); rw [e2]; omega
  · have := b1 (by omega); have := b2 (by omega); rw [e3]; omega
  · have := b1 (by omega); have := b2 (by omega); have := b3 (by omega); rw [e4]; omega

theorem firstL_2 (l : Bytes) (h1 : 192 ≤ byN l 0) (h2 : byN l 0 < 224) : (l.length < 2 ∨ ¬ conOK l 2 → firstL l = (0, 0)) ∧ (¬ l.length < 2 → conOK l 2 → firstL l = if cv l (byN l 0 - 192) 2 < 128 ∨ signB (cv l (byN l 0 - 192) 2) = false then (0, 0) else (cv l (byN l 0 - 192) 2, 2)) := by
  have hc : conOK l 2 ↔ (128 ≤ byN l 1 ∧ byN l 1 < 192) := by
    unfold conOK
    refine ⟨fun h => h 1 (by omega) (by omega), fun h i hi hk => ?_⟩
    match i, hi, hk with
    | 1, _, _ => omega
  have hv : cv l (byN l 0 - 192) 2 = (byN l 0 - 192) * 64 + byN l 1 - 128 := rfl
  rw [hc]
  unfold firstL
  simp only []
  rw [if_neg (by omega), if_pos (by omega)]
  rw [← hv]
  generalize cv l (byN l 0 - 192) 2 = V
  clear hv hc
  generalize l.length = N
  refine ⟨fun c => ?_, fun c0 c1 => ?_⟩
  all_goals
    repeat' split
    all_goals first | rfl | (exfalso; omega) | (exfalso; simp_all; done)
theorem firstL_3 (l : Bytes) (h1 : 224 ≤ byN l 0) (h2 : byN l 0 < 240) : (l.length < 3 ∨ ¬ conOK l 3 → firstL l = (0, 0)) ∧ (¬ l.length < 3 → conOK l 3 → firstL l = if cv l (byN l 0 - 224) 3 < 2048 ∨ signB (cv l (byN l 0 - 224) 3) = false then (0, 0) else (cv l (byN l 0 - 224) 3, 3)) := by
  have hc : conOK l 3 ↔ (128 ≤ byN l 1 ∧ byN l 1 < 192) ∧ (128 ≤ byN l 2 ∧ byN l 2 < 192) := by
    unfold conOK
    refine ⟨fun h => ⟨h 1 (by omega) (by omega), h 2 (by omega) (by omega)⟩, fun h i hi hk => ?_⟩
    match i, hi, hk with
    | 1, _, _ => omega
    | 2, _, _ => omega
  have hv : cv l (byN l 0 - 224) 3 = ((byN l 0 - 224) * 64 + byN l 1 - 128) * 64 + byN l 2 - 128 := rfl
  rw [hc]
  unfold firstL
  simp only []
  rw [if_neg (by omega), if_neg (by omega), if_pos (by omega)]
  rw [← hv]
  generalize cv l (byN l 0 - 224) 3 = V
  clear hv hc
  generalize l.length = N
  refine ⟨fun c => ?_, fun c0 c1 => ?_⟩
  all_goals
    repeat' split
    all_goals first | rfl | (exfalso; omega) | (exfalso; simp_all; done)
theorem firstL_4 (l : Bytes) (h1 : 240 ≤ byN l 0) (h2 : byN l 0 < 248) : (l.length < 4 ∨ ¬ conOK l 4 → firstL l = (0, 0)) ∧ (¬ l.length < 4 → conOK l 4 → firstL l = if cv l (byN l 0 - 240) 4 < 65536 ∨ signB (cv l (byN l 0 - 240) 4) = false then (0, 0) else (cv l (byN l 0 - 240) 4, 4)) := by
  have hc : conOK l 4 ↔ (128 ≤ byN l 1 ∧ byN l 1 < 192) ∧ (128 ≤ byN l 2 ∧ byN l 2 < 192) ∧ (128 ≤ byN l 3 ∧ byN l 3 < 192) := by
    unfold conOK
    refine ⟨fun h => ⟨h 1 (by omega) (by omega), h 2 (by omega) (by omega), h 3 (by omega) (by omega)⟩, fun h i hi hk => ?_⟩
    match i, hi, hk with
    | 1, _, _ => omega
    | 2, _, _ => omega
    | 3, _, _ => omega
  have hv : cv l (byN l 0 - 240) 4 = (((byN l 0 - 240) * 64 + byN l 1 - 128) * 64 + byN l 2 - 128) * 64 + byN l 3 - 128 := rfl
  rw [hc]
  unfold firstL
  simp only []
  rw [if_neg (by omega), if_neg (by omega), if_neg (by omega), if_pos (by omega)]
  rw [← hv]
  generalize cv l (byN l 0 - 240) 4 = V
  clear hv hc
  generalize l.length = N
  refine ⟨fun c => ?_, fun c0 c1 => ?_⟩
  all_goals
    repeat' split
    all_goals first | rfl | (exfalso; omega) | (exfalso; simp_all; done)
set_option maxRecDepth 100000 in
set_option maxHeartbeats 1000000 in
theorem first_2 (s : ByteArray) (w : World) (h0 : 0 < s.size) (x0 : UInt8) (hx0 : s[0]'h0 = x0) (hlo : 192 ≤ x0.toNat) (hhi : x0.toNat < 224) :
    Calls Tryz.prog 45 #[.string s] w fun e w' => e = .returned (.tuple #[.int .i64 (firstL s.data.toList).1, .int .i64 (firstL s.data.toList).2]) ∧ w = w' := by
  have hlen : s.data.toList.length = s.size := rfl
  have hb0 := byN_get s 0 h0
  rw [hx0] at hb0
  have hfl := firstL_2 s.data.toList (by omega) (by omega)
  rw [hb0, hlen] at hfl
  have hcvb := fun k => cv_bound s.data.toList (x0.toNat - 192) k (by omega)
  obtain ⟨F, hF⟩ : ∃ F, firstL s.data.toList = F := ⟨_, rfl⟩
  have hby := fun k (h : k < s.size) => byN_get s k h
  rw [hF] at hfl ⊢
  clear hF hlen hb0
  generalize s.data.toList = L at hfl hcvb hby
  have HF := Lib.hid hfl; clear hfl
  have HC := Lib.hid hcvb; clear hcvb
  have HY := Lib.hid hby; clear hby
  have hlt0 : (x0.toNat : Int) < 256 := by omega
  have d128 : decide ((x0.toNat : Int) < 128) = false := by simp; omega
  have d224 : decide ((x0.toNat : Int) < 224) = true := by simp; omega
  have dn : ¬ s.size < 2 → decide ((s.size : Int) < 2) = false := fun h => by simp; omega
  by_cases hn : s.size < 2
  · clear dn
    have k1 : F = (0, 0) := HF.out.1 (Or.inl hn)
    subst k1
    go_enter Tryz.func45, Tryz.ntmps45
    go_wp2
    go_ret2
    exact ⟨rfl, rfl⟩
  · have dn' := dn hn
    clear dn
    go_enter Tryz.func45, Tryz.ntmps45
    go_wp2
    go_loopg [6, 8] 1 (fun g r i wr => w = wr ∧ ∃ k : Nat, 1 ≤ k ∧ k ≤ 2 ∧ g = 2 - k ∧ i = .int .i64 k ∧ r = .int .i64 (cv L (x0.toNat - 192) k) ∧ conOK L k)
    case atStart => exact ⟨rfl, 1, by omega, by omega, rfl, rfl, by show Value.int _ _ = Value.int _ _; congr 1; rw [show cv L (x0.toNat - 192) 1 = x0.toNat - 192 from rfl]; omega, fun i _ _ => by omega⟩
    case round =>
      obtain ⟨rfl, k, hk1, hkn, hg, rfl, rfl, hok⟩ := hrel
      have HG := Lib.hid (And.intro hg hok); clear hg
      have hcb := HC.out k hk1 (by omega) hok
      clear hok
      by_cases hlt : k < 2
      · have hyk := HY.out k (by omega)
        have hsuc := cv_succ L (x0.toNat - 192) k hk1
        have hcos := fun h1 h2 => conOK_succ L k HG.out.2 h1 h2
        have hnot : ¬ (128 ≤ byN L k ∧ byN L k < 192) → ¬ conOK L 2 := fun h hc => h (hc k hk1 hlt)
        have hcb' : cv L (x0.toNat - 192) k < 131072 := by
          have := hcb.2 (by omega)
          omega
        clear hcb
        obtain ⟨V', hV'⟩ : ∃ V', cv L (x0.toNat - 192) (k + 1) = V' := ⟨_, rfl⟩
        rw [hV'] at hsuc
        generalize cv L (x0.toNat - 192) k = V at hsuc hcb' ⊢
        obtain ⟨x1, hx1⟩ : ∃ x, s[k]'(by omega) = x := ⟨_, rfl⟩
        rw [hx1] at hyk
        rw [hyk] at hsuc hcos hnot
        clear hyk
        have hlt1 : (x1.toNat : Int) < 256 := by have := x1.toNat_lt; omega
        have HS := Lib.hid (And.intro hV' (And.intro hsuc hcos)); clear hsuc hcos hV'
        by_cases hb : 128 ≤ x1.toNat ∧ x1.toNat < 192
        · clear hnot
          obtain ⟨hb1, hb2⟩ := hb
          go_wp2
          go_roundg (2 - (k + 1))
          case measure => have := HG.out.1; omega
          case rel => exact ⟨rfl, k + 1, by omega, by omega, rfl, by go_num, by rw [HS.out.1]; have := HS.out.2.1; show Value.int _ _ = Value.int _ _; congr 1; omega, HS.out.2.2 hb1 hb2⟩
        · have k1 : F = (0, 0) := HF.out.1 (Or.inr (hnot hb))
          subst k1
          clear hnot
          by_cases hb1 : x1.toNat < 128
          · go_wp2
            go_ret2
            exact ⟨rfl, rfl⟩
          · have hb2 : 192 ≤ x1.toNat := by omega
            go_wp2
            go_ret2
            exact ⟨rfl, rfl⟩
      · obtain rfl : k = 2 := by omega
        have hok := HG.out.2
        have hfl := HF.out.2 hn hok
        have hcb' := hcb.1
        clear hok hcb
        generalize cv L (x0.toNat - 192) 2 = V at hfl hcb' ⊢
        have HF' := Lib.hid hfl; clear hfl
        by_cases hv : V < 128
        · have k1 : F = (0, 0) := by rw [HF'.out, if_pos (Or.inl hv)]
          subst k1
          go_wp2_with (first | (go_at_call 27; refine (rsign_c _ _).mono ?_; rintro e w' ⟨rfl, rfl⟩))
          go_ret2
          exact ⟨rfl, rfl⟩
        · have hvb : decide ((V : Int) < 128) = false := by simp; omega
          have HV := Lib.hid hv; clear hv
          cases hs : signB V with
          | false =>
            have k1 : F = (0, 0) := by rw [HF'.out, if_pos (Or.inr hs)]
            subst k1
            go_wp2_with (first | (go_at_call 27; refine (rsign_c _ _).mono ?_; rintro e w' ⟨rfl, rfl⟩))
            go_ret2
            exact ⟨rfl, rfl⟩
          | true =>
            have k1 : F = (V, 2) := by rw [HF'.out, if_neg (by have := HV.out; simp [this, hs])]
            subst k1
            go_wp2_with (first | (go_at_call 27; refine (rsign_c _ _).mono ?_; rintro e w' ⟨rfl, rfl⟩))
            go_ret2
            exact ⟨rfl, rfl⟩
set_option maxRecDepth 100000 in
set_option maxHeartbeats 1000000 in
theorem first_3 (s : ByteArray) (w : World) (h0 : 0 < s.size) (x0 : UInt8) (hx0 : s[0]'h0 = x0) (hlo : 224 ≤ x0.toNat) (hhi : x0.toNat < 240) :
    Calls Tryz.prog 45 #[.string s] w fun e w' => e = .returned (.tuple #[.int .i64 (firstL s.data.toList).1, .int .i64 (firstL s.data.toList).2]) ∧ w = w' := by
  have hlen : s.data.toList.length = s.size := rfl
  have hb0 := byN_get s 0 h0
  rw [hx0] at hb0
  have hfl := firstL_3 s.data.toList (by omega) (by omega)
  rw [hb0, hlen] at hfl
  have hcvb := fun k => cv_bound s.data.toList (x0.toNat - 224) k (by omega)
  obtain ⟨F, hF⟩ : ∃ F, firstL s.data.toList = F := ⟨_, rfl⟩
  have hby := fun k (h : k < s.size) => byN_get s k h
  rw [hF] at hfl ⊢
  clear hF hlen hb0
  generalize s.data.toList = L at hfl hcvb hby
  have HF := Lib.hid hfl; clear hfl
  have HC := Lib.hid hcvb; clear hcvb
  have HY := Lib.hid hby; clear hby
  have hlt0 : (x0.toNat : Int) < 256 := by omega
  have d128 : decide ((x0.toNat : Int) < 128) = false := by simp; omega
  have d224 : decide ((x0.toNat : Int) < 224) = false := by simp; omega
  have d240 : decide ((x0.toNat : Int) < 240) = true := by simp; omega
  have dn : ¬ s.size < 3 → decide ((s.size : Int) < 3) = false := fun h => by simp; omega
  by_cases hn : s.size < 3
  · clear dn
    have k1 : F = (0, 0) := HF.out.1 (Or.inl hn)
    subst k1
    go_enter Tryz.func45, Tryz.ntmps45
    go_wp2
    go_ret2
    exact ⟨rfl, rfl⟩
  · have dn' := dn hn
    clear dn
    go_enter Tryz.func45, Tryz.ntmps45
    go_wp2
    go_loopg [6, 8] 2 (fun g r i wr => w = wr ∧ ∃ k : Nat, 1 ≤ k ∧ k ≤ 3 ∧ g = 3 - k ∧ i = .int .i64 k ∧ r = .int .i64 (cv L (x0.toNat - 224) k) ∧ conOK L k)
    case atStart => exact ⟨rfl, 1, by omega, by omega, rfl, rfl, by show Value.int _ _ = Value.int _ _; congr 1; rw [show cv L (x0.toNat - 224) 1 = x0.toNat - 224 from rfl]; omega, fun i _ _ => by omega⟩
    case round =>
      obtain ⟨rfl, k, hk1, hkn, hg, rfl, rfl, hok⟩ := hrel
      have HG := Lib.hid (And.intro hg hok); clear hg
      have hcb := HC.out k hk1 (by omega) hok
      clear hok
      by_cases hlt : k < 3
      · have hyk := HY.out k (by omega)
        have hsuc := cv_succ L (x0.toNat - 224) k hk1
        have hcos := fun h1 h2 => conOK_succ L k HG.out.2 h1 h2
        have hnot : ¬ (128 ≤ byN L k ∧ byN L k < 192) → ¬ conOK L 3 := fun h hc => h (hc k hk1 hlt)
        have hcb' : cv L (x0.toNat - 224) k < 131072 := by
          have := hcb.2 (by omega)
          omega
        clear hcb
        obtain ⟨V', hV'⟩ : ∃ V', cv L (x0.toNat - 224) (k + 1) = V' := ⟨_, rfl⟩
        rw [hV'] at hsuc
        generalize cv L (x0.toNat - 224) k = V at hsuc hcb' ⊢
        obtain ⟨x1, hx1⟩ : ∃ x, s[k]'(by omega) = x := ⟨_, rfl⟩
        rw [hx1] at hyk
        rw [hyk] at hsuc hcos hnot
        clear hyk
        have hlt1 : (x1.toNat : Int) < 256 := by have := x1.toNat_lt; omega
        have HS := Lib.hid (And.intro hV' (And.intro hsuc hcos)); clear hsuc hcos hV'
        by_cases hb : 128 ≤ x1.toNat ∧ x1.toNat < 192
        · clear hnot
          obtain ⟨hb1, hb2⟩ := hb
          go_wp2
          go_roundg (3 - (k + 1))
          case measure => have := HG.out.1; omega
          case rel => exact ⟨rfl, k + 1, by omega, by omega, rfl, by go_num, by rw [HS.out.1]; have := HS.out.2.1; show Value.int _ _ = Value.int _ _; congr 1; omega, HS.out.2.2 hb1 hb2⟩
        · have k1 : F = (0, 0) := HF.out.1 (Or.inr (hnot hb))
          subst k1
          clear hnot
          by_cases hb1 : x1.toNat < 128
          · go_wp2
            go_ret2
            exact ⟨rfl, rfl⟩
          · have hb2 : 192 ≤ x1.toNat := by omega
            go_wp2
            go_ret2
            exact ⟨rfl, rfl⟩
      · obtain rfl : k = 3 := by omega
        have hok := HG.out.2
        have hfl := HF.out.2 hn hok
        have hcb' := hcb.1
        clear hok hcb
        generalize cv L (x0.toNat - 224) 3 = V at hfl hcb' ⊢
        have HF' := Lib.hid hfl; clear hfl
        by_cases hv : V < 2048
        · have k1 : F = (0, 0) := by rw [HF'.out, if_pos (Or.inl hv)]
          subst k1
          go_wp2_with (first | (go_at_call 27; refine (rsign_c _ _).mono ?_; rintro e w' ⟨rfl, rfl⟩))
          go_ret2
          exact ⟨rfl, rfl⟩
        · have hvb : decide ((V : Int) < 2048) = false := by simp; omega
          have HV := Lib.hid hv; clear hv
          cases hs : signB V with
          | false =>
            have k1 : F = (0, 0) := by rw [HF'.out, if_pos (Or.inr hs)]
            subst k1
            go_wp2_with (first | (go_at_call 27; refine (rsign_c _ _).mono ?_; rintro e w' ⟨rfl, rfl⟩))
            go_ret2
            exact ⟨rfl, rfl⟩
          | true =>
            have k1 : F = (V, 3) := by rw [HF'.out, if_neg (by have := HV.out; simp [this, hs])]
            subst k1
            go_wp2_with (first | (go_at_call 27; refine (rsign_c _ _).mono ?_; rintro e w' ⟨rfl, rfl⟩))
            go_ret2
            exact ⟨rfl, rfl⟩
set_option maxRecDepth 100000 in
set_option maxHeartbeats 1000000 in
theorem first_4 (s : ByteArray) (w : World) (h0 : 0 < s.size) (x0 : UInt8) (hx0 : s[0]'h0 = x0) (hlo : 240 ≤ x0.toNat) (hhi : x0.toNat < 248) :
    Calls Tryz.prog 45 #[.string s] w fun e w' => e = .returned (.tuple #[.int .i64 (firstL s.data.toList).1, .int .i64 (firstL s.data.toList).2]) ∧ w = w' := by
  have hlen : s.data.toList.length = s.size := rfl
  have hb0 := byN_get s 0 h0
  rw [hx0] at hb0
  have hfl := firstL_4 s.data.toList (by omega) (by omega)
  rw [hb0, hlen] at hfl
  have hcvb := fun k => cv_bound s.data.toList (x0.toNat - 240) k (by omega)
  obtain ⟨F, hF⟩ : ∃ F, firstL s.data.toList = F := ⟨_, rfl⟩
  have hby := fun k (h : k < s.size) => byN_get s k h
  rw [hF] at hfl ⊢
  clear hF hlen hb0
  generalize s.data.toList = L at hfl hcvb hby
  have HF := Lib.hid hfl; clear hfl
  have HC := Lib.hid hcvb; clear hcvb
  have HY := Lib.hid hby; clear hby
  have hlt0 : (x0.toNat : Int) < 256 := by omega
  have d128 : decide ((x0.toNat : Int) < 128) = false := by simp; omega
  have d224 : decide ((x0.toNat : Int) < 224) = false := by simp; omega
  have d240 : decide ((x0.toNat : Int) < 240) = false := by simp; omega
  have d248 : decide ((x0.toNat : Int) < 248) = true := by simp; omega
  have dn : ¬ s.size < 4 → decide ((s.size : Int) < 4) = false := fun h => by simp; omega
  by_cases hn : s.size < 4
  · clear dn
    have k1 : F = (0, 0) := HF.out.1 (Or.inl hn)
    subst k1
    go_enter Tryz.func45, Tryz.ntmps45
    go_wp2
    go_ret2
    exact ⟨rfl, rfl⟩
  · have dn' := dn hn
    clear dn
    go_enter Tryz.func45, Tryz.ntmps45
    go_wp2
    go_loopg [6, 8] 3 (fun g r i wr => w = wr ∧ ∃ k : Nat, 1 ≤ k ∧ k ≤ 4 ∧ g = 4 - k ∧ i = .int .i64 k ∧ r = .int .i64 (cv L (x0.toNat - 240) k) ∧ conOK L k)
    case atStart => exact ⟨rfl, 1, by omega, by omega, rfl, rfl, by show Value.int _ _ = Value.int _ _; congr 1; rw [show cv L (x0.toNat - 240) 1 = x0.toNat - 240 from rfl]; omega, fun i _ _ => by omega⟩
    case round =>
      obtain ⟨rfl, k, hk1, hkn, hg, rfl, rfl, hok⟩ := hrel
      have HG := Lib.hid (And.intro hg hok); clear hg
      have hcb := HC.out k hk1 (by omega) hok
      clear hok
      by_cases hlt : k < 4
      · have hyk := HY.out k (by omega)
        have hsuc := cv_succ L (x0.toNat - 240) k hk1
        have hcos := fun h1 h2 => conOK_succ L k HG.out.2 h1 h2
        have hnot : ¬ (128 ≤ byN L k ∧ byN L k < 192) → ¬ conOK L 4 := fun h hc => h (hc k hk1 hlt)
        have hcb' : cv L (x0.toNat - 240) k < 131072 := by
          have := hcb.2 (by omega)
          omega
        clear hcb
        obtain ⟨V', hV'⟩ : ∃ V', cv L (x0.toNat - 240) (k + 1) = V' := ⟨_, rfl⟩
        rw [hV'] at hsuc
        generalize cv L (x0.toNat - 240) k = V at hsuc hcb' ⊢
        obtain ⟨x1, hx1⟩ : ∃ x, s[k]'(by omega) = x := ⟨_, rfl⟩
        rw [hx1] at hyk
        rw [hyk] at hsuc hcos hnot
        clear hyk
        have hlt1 : (x1.toNat : Int) < 256 := by have := x1.toNat_lt; omega
        have HS := Lib.hid (And.intro hV' (And.intro hsuc hcos)); clear hsuc hcos hV'
        by_cases hb : 128 ≤ x1.toNat ∧ x1.toNat < 192
        · clear hnot
          obtain ⟨hb1, hb2⟩ := hb
          go_wp2
          go_roundg (4 - (k + 1))
          case measure => have := HG.out.1; omega
          case rel => exact ⟨rfl, k + 1, by omega, by omega, rfl, by go_num, by rw [HS.out.1]; have := HS.out.2.1; show Value.int _ _ = Value.int _ _; congr 1; omega, HS.out.2.2 hb1 hb2⟩
        · have k1 : F = (0, 0) := HF.out.1 (Or.inr (hnot hb))
          subst k1
          clear hnot
          by_cases hb1 : x1.toNat < 128
          · go_wp2
            go_ret2
            exact ⟨rfl, rfl⟩
          · have hb2 : 192 ≤ x1.toNat := by omega
            go_wp2
            go_ret2
            exact ⟨rfl, rfl⟩
      · obtain rfl : k = 4 := by omega
        have hok := HG.out.2
        have hfl := HF.out.2 hn hok
        have hcb' := hcb.1
        clear hok hcb
        generalize cv L (x0.toNat - 240) 4 = V at hfl hcb' ⊢
        have HF' := Lib.hid hfl; clear hfl
        by_cases hv : V < 65536
        · have k1 : F = (0, 0) := by rw [HF'.out, if_pos (Or.inl hv)]
          subst k1
          go_wp2_with (first | (go_at_call 27; refine (rsign_c _ _).mono ?_; rintro e w' ⟨rfl, rfl⟩))
          go_ret2
          exact ⟨rfl, rfl⟩
        · have hvb : decide ((V : Int) < 65536) = false := by simp; omega
          have HV := Lib.hid hv; clear hv
          cases hs : signB V with
          | false =>
            have k1 : F = (0, 0) := by rw [HF'.out, if_pos (Or.inr hs)]
            subst k1
            go_wp2_with (first | (go_at_call 27; refine (rsign_c _ _).mono ?_; rintro e w' ⟨rfl, rfl⟩))
            go_ret2
            exact ⟨rfl, rfl⟩
          | true =>
            have k1 : F = (V, 4) := by rw [HF'.out, if_neg (by have := HV.out; simp [this, hs])]
            subst k1
            go_wp2_with (first | (go_at_call 27; refine (rsign_c _ _).mono ?_; rintro e w' ⟨rfl, rfl⟩))
            go_ret2
            exact ⟨rfl, rfl⟩

set_option maxRecDepth 100000 in
set_option maxHeartbeats 1000000 in
theorem first_c (s : ByteArray) (w : World) (h0 : 0 < s.size) :
    Calls Tryz.prog 45 #[.string s] w fun e w' => e = .returned (.tuple #[.int .i64 (firstL s.data.toList).1, .int .i64 (firstL s.data.toList).2]) ∧ w = w' := by
  obtain ⟨x0, hx0⟩ : ∃ x, s[0]'h0 = x := ⟨_, rfl⟩
  by_cases c2 : 192 ≤ x0.toNat ∧ x0.toNat < 224
  · exact first_2 s w h0 x0 hx0 c2.1 c2.2
  by_cases c3 : 224 ≤ x0.toNat ∧ x0.toNat < 240
  · exact first_3 s w h0 x0 hx0 c3.1 c3.2
  by_cases c4 : 240 ≤ x0.toNat ∧ x0.toNat < 248
  · exact first_4 s w h0 x0 hx0 c4.1 c4.2
  obtain ⟨F, hF⟩ : ∃ F, firstL s.data.toList = F := ⟨_, rfl⟩
  rw [hF]
  have hb0 := byN_get s 0 h0
  have hlt0 : (x0.toNat : Int) < 256 := by have := x0.toNat_lt; omega
  rw [hx0] at hb0
  have HF := Lib.hid (And.intro hF hb0); clear hF hb0
  by_cases c0 : x0.toNat < 128
  · have h1 : (1 : Int) ≤ s.size := by omega
    clear c2 c3 c4
    go_enter Tryz.func45, Tryz.ntmps45
    go_wp2
    refine wp_loop_rounds 1 ?_
    rw [rounds_succ]
    cases hs : signB x0.toNat
    all_goals
      go_wp2_with (first | (go_at_call 27; refine (rsign_c _ _).mono ?_; rintro e w' ⟨rfl, rfl⟩))
      go_ret2
      refine ⟨ret_two ?_ ?_, rfl⟩
      all_goals (rw [← HF.out.1]; unfold firstL; rw [HF.out.2]; simp [c0, hs])
  · have k1 : firstL s.data.toList = (0, 0) := by
      unfold firstL; rw [HF.out.2]; simp only []; rw [if_neg c0, if_neg (by omega), if_neg (by omega), if_neg (by omega)]
    rw [HF.out.1] at k1; subst k1
    by_cases c1 : x0.toNat < 192
    · go_enter Tryz.func45, Tryz.ntmps45
      go_wp2
      go_ret2
      exact ⟨rfl, rfl⟩
    · have c5 : 248 ≤ x0.toNat := by omega
      clear c2 c3 c4
      go_enter Tryz.func45, Tryz.ntmps45
      go_wp2
      go_ret2
      exact ⟨rfl, rfl⟩
end Go.Proofs.YtcicibeggkmlcaaGreatDoor
