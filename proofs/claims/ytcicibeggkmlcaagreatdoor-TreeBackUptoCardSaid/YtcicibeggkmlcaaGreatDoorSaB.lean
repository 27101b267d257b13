/- The walks of slices.Equal at attributes, slices.EqualFunc at elements, and tree.Same. Conditions: the trees lie in memory. -/
import Derived.Test.YtcicibeggkmlcaaGreatDoorSaA
import Derived.Test.YtcicibeggkmlcaaGreatDoorTrLJ2
namespace Go.Proofs.YtcicibeggkmlcaaGreatDoor
open Go.RowKit Go.Sof

theorem attrsB_ne {a b : List PAttr} (h : a ≠ b) : attrsB a b = false := by
  cases hs : attrsB a b with
  | false => rfl
  | true => exact absurd (attrsB_iff.1 hs) h
theorem attrsB_rfl (a : List PAttr) : attrsB a a = true := attrsB_iff.2 rfl

set_option maxRecDepth 1000000 in
set_option maxHeartbeats 4000000 in
theorem aeq_c (w : World) (p1 p2 : Option Addr) (n1 n2 c1 c2 : Nat) (as1 as2 : List PAttr) (hn1 : as1.length = n1) (hn2 : as2.length = n2) (hb : n1 ≤ 4194304) (h1 : AttrsF w p1 as1) (h2 : AttrsF w p2 as2) :
    Calls Tryz.prog 66 #[.slice p1 n1 c1, .slice p2 n2 c2] w fun en w' => en = .returned (.bool (attrsB as1 as2)) ∧ Below w.heap.size w w' := by
  by_cases hL : n1 = n2
  case neg =>
    rw [attrsB_ne (fun e => hL (by rw [← hn1, ← hn2, e]))]
    clear h1 h2 hn1 hn2
    have hLI : ¬((n1 : Int) = (n2 : Int)) := by omega
    have hLb : ((n1 : Int) == (n2 : Int)) = false := by rw [beq_eq_false_iff_ne]; exact hLI
    go_enter Tryz.func66, Tryz.ntmps66
    go_wp2_with fail
    go_ret
    exact ⟨rfl, Below.refl _ _⟩
  subst hL
  have HC := Lib.hid (And.intro h1 (And.intro h2 (And.intro hn1 hn2))); clear h1 h2 hn1 hn2
  go_enter Tryz.func66, Tryz.ntmps66
  go_wp2_with fail
  go_loopg [13] n1 (fun g i wr => Below w.heap.size w wr ∧ ∃ k : Nat, k ≤ n1 ∧ g = n1 - k ∧ i = .int .i64 k ∧ ∀ j (h1 : j < as1.length) (h2 : j < as2.length), j < k → as1[j]'h1 = as2[j]'h2)
  case atStart => exact ⟨Below.refl _ _, 0, Nat.zero_le _, rfl, rfl, fun j _ _ hj => absurd hj (by omega)⟩
  case round =>
    obtain ⟨hbw, k, hk, hg, rfl, ha⟩ := hrel
    by_cases hlt : k < n1
    · have hkI : (k : Int) < (n1 : Int) := by omega
      have hk1 : k < as1.length := by have := HC.out.2.2.1; omega
      have hk2 : k < as2.length := by have := HC.out.2.2.2; omega
      obtain ⟨b1, o1, rfl, s1, s2⟩ := HC.out.1 k hk1
      obtain ⟨b2, o2, rfl, s3, s4⟩ := HC.out.2.1 k hk2
      have z1 := cell_keep hbw s1; have z2 := cell_keep hbw s2; have z3 := cell_keep hbw s3; have z4 := cell_keep hbw s4
      clear s1 s2 s3 s4
      by_cases hx : as1[k]'hk1 = as2[k]'hk2
      · have ha2 : ∀ j (h1 : j < as1.length) (h2 : j < as2.length), j < k + 1 → as1[j]'h1 = as2[j]'h2 := fun j h1 h2 hj => by
          by_cases hjk : j < k
          · exact ha j h1 h2 hjk
          · obtain rfl : j = k := by omega
            exact hx
        rw [← hx] at z3 z4
        generalize (as1[k]'hk1).name = AN at *
        generalize (as1[k]'hk1).value = AV at *
        have HR := Lib.hid (And.intro hbw (And.intro hg ha2)); clear hbw hg ha2 ha hx
        go_wp2_with fail
        go_quiet (fail)
        go_wp2_with fail
        go_roundg (n1 - (k + 1))
        case measure => have := HR.out.2.1; omega
        case rel => exact ⟨HR.out.1.trans ⟨rfl, rfl, rfl, Nat.le_refl _, fun _ _ => rfl⟩, k + 1, by omega, rfl, by go_num, HR.out.2.2⟩
      · have hf := attrsB_ne (a := as1) (b := as2) (fun e => hx (by subst e; rfl))
        generalize as1[k]'hk1 = x1 at *
        generalize as2[k]'hk2 = x2 at *
        obtain ⟨AN1, AV1⟩ := x1
        obtain ⟨AN2, AV2⟩ := x2
        simp only at z1 z2 z3 z4
        have HR := Lib.hid (And.intro hbw hf); clear hbw hg ha hf
        by_cases hn : AN1 = AN2
        · subst hn
          have hvb : (AV1 == AV2) = false := by rw [beq_eq_false_iff_ne]; intro e; exact hx (by rw [e])
          clear hx
          go_wp2_with fail
          go_quiet (fail)
          go_wp2_with fail
          go_ret
          exact ⟨(by rw [HR.out.2]; first | done | rfl), HR.out.1.trans ⟨rfl, rfl, rfl, Nat.le_refl _, fun _ _ => rfl⟩⟩
        · have hnb : (AN1 == AN2) = false := by rw [beq_eq_false_iff_ne]; exact hn
          clear hx
          go_wp2_with fail
          go_quiet (fail)
          go_wp2_with fail
          go_ret
          exact ⟨(by rw [HR.out.2]; first | done | rfl), HR.out.1.trans ⟨rfl, rfl, rfl, Nat.le_refl _, fun _ _ => rfl⟩⟩
    · obtain rfl : k = n1 := by omega
      have hat : as1 = as2 := by
        have q1 := HC.out.2.2.1; have q2 := HC.out.2.2.2
        exact List.ext_getElem (by omega) (fun j h1 h2 => ha j h1 h2 (by omega))
      have hf : attrsB as1 as2 = true := by rw [hat]; exact attrsB_rfl _
      have hkI : decide ((k : Int) < (k : Int)) = false := by simp
      have HR := Lib.hid (And.intro hbw hf); clear hbw hg ha hat hf
      go_wp2_with fail
      go_ret
      exact ⟨(by rw [HR.out.2]; first | done | rfl), HR.out.1⟩

set_option maxRecDepth 1000000 in
set_option maxHeartbeats 4000000 in
theorem keq_c (w0 : World) (Q Q' : Nat → Prop) (d d' : Nat) (ih : ∀ (n m : PNode) (v v' : Value), NodeD w0 Q d v n → NodeD w0 Q' d' v' m → tsize n ≤ 4194304 → asize n ≤ 4194304 → ∀ (w : World), Below w0.heap.size w0 w →
      Calls Tryz.prog 39 #[v, v'] w fun en w' => en = .returned (.bool (sameB n m)) ∧ Below w.heap.size w w')
    (p1 p2 : Option Addr) (n1 n2 c1 c2 : Nat) (ks1 ks2 : List PNode) (hn1 : ks1.length = n1) (hn2 : ks2.length = n2) (hb : n1 ≤ 4194304) (hz : ∀ k ∈ ks1, tsize k ≤ 4194304 ∧ asize k ≤ 4194304) (h1 : KidsD w0 Q (NodeD w0 Q d) p1 ks1) (h2 : KidsD w0 Q' (NodeD w0 Q' d') p2 ks2)
    (w : World) (hlow : Below w0.heap.size w0 w) :
    Calls Tryz.prog 67 #[.slice p1 n1 c1, .slice p2 n2 c2, .func (.func 39) #[] #[]] w fun en w' => en = .returned (.bool (sameL ks1 ks2)) ∧ Below w.heap.size w w' := by
  by_cases hL : n1 = n2
  case neg =>
    rw [sameL_len (by omega)]
    clear h1 h2 hn1 hn2 hz ih hlow
    have hLI : ¬((n1 : Int) = (n2 : Int)) := by omega
    have hLb : ((n1 : Int) == (n2 : Int)) = false := by rw [beq_eq_false_iff_ne]; exact hLI
    go_enter Tryz.func67, Tryz.ntmps67
    go_wp2_with fail
    go_ret
    exact ⟨rfl, Below.refl _ _⟩
  subst hL
  have HC := Lib.hid (And.intro h1 (And.intro h2 (And.intro hn1 hn2))); have HI := Lib.hid ih; have HS := Lib.hid hz; have HL := Lib.hid hlow; clear h1 h2 hn1 hn2 ih hz hlow
  go_enter Tryz.func67, Tryz.ntmps67
  go_wp2_with fail
  go_loopg [17] n1 (fun g i wr => Below w.heap.size w wr ∧ ∃ k : Nat, k ≤ n1 ∧ g = n1 - k ∧ i = .int .i64 k ∧ ∀ j (h1 : j < ks1.length) (h2 : j < ks2.length), j < k → sameB (ks1[j]'h1) (ks2[j]'h2) = true)
  case atStart => exact ⟨Below.refl _ _, 0, Nat.zero_le _, rfl, rfl, fun j _ _ hj => absurd hj (by omega)⟩
  case round =>
    obtain ⟨hbi, t, ht, hgi, rfl, hs⟩ := hrel
    by_cases hti : t < n1
    · have htI : (t : Int) < (n1 : Int) := by omega
      have ht1 : t < ks1.length := by have := HC.out.2.2.1; omega
      have ht2 : t < ks2.length := by have := HC.out.2.2.2; omega
      have hlw : Below w0.heap.size w0 wr := HL.out.trans (hbi.mono HL.out.size)
      obtain ⟨b1, o1, pa3, ca3, pk3, ck3, rfl, _, s0, s1, s2, s3, s4, hn1⟩ := HC.out.1.get t ht1
      obtain ⟨b2, o2, pa4, ca4, pk4, ck4, rfl, _, r0, r1, r2, r3, r4, hn2⟩ := HC.out.2.1.get t ht2
      have a0 := cell_keep hlw s0; have a1 := cell_keep hlw s1; have a2 := cell_keep hlw s2; have a3 := cell_keep hlw s3; have a4 := cell_keep hlw s4
      have z0 := cell_keep hlw r0; have z1 := cell_keep hlw r1; have z2 := cell_keep hlw r2; have z3 := cell_keep hlw r3; have z4 := cell_keep hlw r4
      clear s0 s1 s2 s3 s4 r0 r1 r2 r3 r4
      have q1 : b1 < wr.heap.size := World.block_lt_of_cell? wr _ a0
      have q2 : b2 < wr.heap.size := World.block_lt_of_cell? wr _ z0
      have hks := HS.out _ (List.getElem_mem ht1)
      have hcall := fun W hW => HI.out _ _ _ _ hn1 hn2 hks.1 hks.2 W hW
      unfold nodeV at hcall
      have hfx : sameB (ks1[t]'ht1) (ks2[t]'ht2) = false → sameL ks1 ks2 = false := fun h => sameL_false t ht1 ht2 h
      have htx : sameB (ks1[t]'ht1) (ks2[t]'ht2) = true → ∀ j (h1 : j < ks1.length) (h2 : j < ks2.length), j < t + 1 → sameB (ks1[j]'h1) (ks2[j]'h2) = true := fun h j h1 h2 hj => by
        by_cases hjt : j < t
        · exact hs j h1 h2 hjt
        · obtain rfl : j = t := by omega
          exact h
      generalize ks1[t]'ht1 = x1 at *
      generalize ks2[t]'ht2 = x2 at *
      have hlW : ∀ B1 B2, Below w0.heap.size w0 ((wr.alloc B1).alloc B2) := fun B1 B2 => (hlw.alloc hlw.size _).alloc (by have := hlw.size; simp; omega) _
      have hWW : ∀ B1 B2, Below w.heap.size w ((wr.alloc B1).alloc B2) := fun B1 B2 => (hbi.alloc hbi.size _).alloc (by have := hbi.size; simp; omega) _
      cases hsx : sameB x1 x2 with
      | true =>
        rw [hsx] at hcall
        have HQ := Lib.hid (And.intro hlW (And.intro hgi (And.intro (htx hsx) hWW))); have HCL := Lib.hid hcall; clear hbi hgi hs hcall hn1 hn2 hks hfx htx hlw hsx hlW hWW
        go_wp2_with (first
          | (go_at_call 39; refine (HCL.out _ (HQ.out.1 _ _)).mono ?_; rintro en w2 ⟨rfl, b2⟩))
        go_roundg (n1 - (t + 1))
        case measure => have := HQ.out.2.1; omega
        case rel => exact ⟨(HQ.out.2.2.2 _ _).trans (b2.mono (HQ.out.2.2.2 _ _).size), t + 1, by omega, rfl, by go_num, HQ.out.2.2.1⟩
      | false =>
        rw [hsx] at hcall
        have HQ := Lib.hid (And.intro hlW (And.intro hWW (hfx hsx))); have HCL := Lib.hid hcall; clear hbi hgi hs hcall hn1 hn2 hks hfx htx hlw hsx hlW hWW
        go_wp2_with (first
          | (go_at_call 39; refine (HCL.out _ (HQ.out.1 _ _)).mono ?_; rintro en w2 ⟨rfl, b2⟩))
        go_ret
        exact ⟨(by rw [HQ.out.2.2]; first | done | rfl), (HQ.out.2.1 _ _).trans (b2.mono (HQ.out.2.1 _ _).size)⟩
    · obtain rfl : t = n1 := by omega
      have hkl : sameL ks1 ks2 = true := sameL_true ks1 ks2 (by have := HC.out.2.2.1; have := HC.out.2.2.2; omega) (fun j h1 h2 => hs j h1 h2 (by have := HC.out.2.2.1; omega))
      have hkI2 : decide ((t : Int) < (t : Int)) = false := by simp
      have HQ := Lib.hid (And.intro hbi hkl); clear hbi hgi hs hkl
      go_wp2_with fail
      go_ret
      exact ⟨(by rw [HQ.out.2]; first | done | rfl), HQ.out.1⟩

set_option maxRecDepth 1000000 in
set_option maxHeartbeats 8000000 in
theorem tsame_c (w0 : World) (Q Q' : Nat → Prop) : ∀ (dd dd' : Nat) (n m : PNode) (v v' : Value), NodeD w0 Q dd v n → NodeD w0 Q' dd' v' m → tsize n ≤ 4194304 → asize n ≤ 4194304 → ∀ (w : World), Below w0.heap.size w0 w →
    Calls Tryz.prog 39 #[v, v'] w fun en w' => en = .returned (.bool (sameB n m)) ∧ Below w.heap.size w w' := by
  intro dd
  induction dd with
  | zero => intro dd' n m v v' h; exact False.elim h
  | succ dd ih =>
    intro d2 n m v v' h h' hz hza w hlow
    have hd1 : ∃ d, d2 = d + 1 := by cases d2 with
      | zero => exact False.elim h'
      | succ d => exact ⟨d, rfl⟩
    obtain ⟨d', rfl⟩ := hd1
    obtain ⟨pa1, ca1, pk1, ck1, rfl, _, _, hA1, hK1⟩ := h
    obtain ⟨pa2, ca2, pk2, ck2, rfl, _, _, hA2, hK2⟩ := h'
    obtain ⟨nm1, ps1, as1, ks1, tx1⟩ := n
    obtain ⟨nm2, ps2, as2, ks2, tx2⟩ := m
    simp only [PNode.kids, PNode.attrs] at hA1 hA2 hK1 hK2
    have hz2 : tsize (.mk nm1 ps1 as1 ks1 tx1) = 1 + tsizeL ks1 := by rw [tsize]
    have hz3 : asize (.mk nm1 ps1 as1 ks1 tx1) = as1.length + asizeL ks1 := by rw [asize]
    have hkl := tsizeL_len ks1
    have hks : ∀ k ∈ ks1, tsize k ≤ 4194304 ∧ asize k ≤ 4194304 := fun k hk => ⟨tsize_kids hz hk, asize_kids hza hk⟩
    obtain ⟨c1, hc1⟩ : ∃ c, ks1.length = c := ⟨_, rfl⟩
    obtain ⟨l1, hl1⟩ : ∃ l, as1.length = l := ⟨_, rfl⟩
    obtain ⟨c2, hc2⟩ : ∃ c, ks2.length = c := ⟨_, rfl⟩
    obtain ⟨l2, hl2⟩ : ∃ l, as2.length = l := ⟨_, rfl⟩
    have hcl : c1 ≤ 4194304 := by omega
    have hll : l1 ≤ 4194304 := by omega
    show Calls Tryz.prog 39 #[.agg #[.string ⟨nm1.toArray⟩, .int .i64 ps1, .slice pa1 as1.length ca1, .slice pk1 ks1.length ck1, .string ⟨tx1.toArray⟩], .agg #[.string ⟨nm2.toArray⟩, .int .i64 ps2, .slice pa2 as2.length ca2, .slice pk2 ks2.length ck2, .string ⟨tx2.toArray⟩]] w _
    rw [hc1, hl1, hc2, hl2]
    clear hz hza hz2 hz3 hkl
    have hB2 : Below w.heap.size w ((w.alloc (.cells #[.string ⟨nm1.toArray⟩, .int .i64 ps1, .slice pa1 l1 ca1, .slice pk1 c1 ck1, .string ⟨tx1.toArray⟩] 47)).alloc (.cells #[.string ⟨nm2.toArray⟩, .int .i64 ps2, .slice pa2 l2 ca2, .slice pk2 c2 ck2, .string ⟨tx2.toArray⟩] 47)) := ((Below.refl _ w).alloc (Nat.le_refl _) _).alloc (by simp) _
    by_cases hN : nm1 = nm2
    case neg =>
      rw [same_false (.inl hN)]
      have HB2 := Lib.hid hB2; clear hB2 hA1 hA2 hK1 hK2 hks ih hlow hc1 hl1 hc2 hl2
      have hNb : (nm1 == nm2) = false := by rw [beq_eq_false_iff_ne]; exact hN
      go_enter Tryz.func39, Tryz.ntmps39
      go_wp2_with fail
      go_ret
      exact ⟨rfl, HB2.out⟩
    by_cases hT : tx1 = tx2
    case neg =>
      rw [same_false (.inr (.inl hT))]
      have HB2 := Lib.hid hB2; clear hB2 hA1 hA2 hK1 hK2 hks ih hlow hc1 hl1 hc2 hl2
      subst hN
      have hTb : (tx1 == tx2) = false := by rw [beq_eq_false_iff_ne]; exact hT
      go_enter Tryz.func39, Tryz.ntmps39
      go_wp2_with fail
      go_ret
      exact ⟨rfl, HB2.out⟩
    subst hN hT
    obtain ⟨wB, hwB⟩ : ∃ wB, wB = ((w.alloc (.cells #[.string ⟨nm1.toArray⟩, .int .i64 ps1, .slice pa1 l1 ca1, .slice pk1 c1 ck1, .string ⟨tx1.toArray⟩] 47)).alloc (.cells #[.string ⟨nm1.toArray⟩, .int .i64 ps2, .slice pa2 l2 ca2, .slice pk2 c2 ck2, .string ⟨tx1.toArray⟩] 47)) := ⟨_, rfl⟩
    have hE2 : Nd5 wB (w.heap.size + 1) nm1 ps2 (.slice pa2 l2 ca2) (.slice pk2 c2 ck2) tx1 := by
      have := Nd5.new (w.alloc (.cells #[.string ⟨nm1.toArray⟩, .int .i64 ps1, .slice pa1 l1 ca1, .slice pk1 c1 ck1, .string ⟨tx1.toArray⟩] 47)) nm1 ps2 (.slice pa2 l2 ca2) (.slice pk2 c2 ck2) tx1
      rw [show (w.alloc (.cells #[.string ⟨nm1.toArray⟩, .int .i64 ps1, .slice pa1 l1 ca1, .slice pk1 c1 ck1, .string ⟨tx1.toArray⟩] 47)).heap.size = w.heap.size + 1 from by simp, ← hwB] at this
      exact this
    have hE1 : Nd5 wB w.heap.size nm1 ps1 (.slice pa1 l1 ca1) (.slice pk1 c1 ck1) tx1 := by
      rw [hwB]
      exact (Nd5.new w nm1 ps1 (.slice pa1 l1 ca1) (.slice pk1 c1 ck1) tx1).below ((Below.refl _ _).alloc (Nat.le_refl _) _)
    rw [← hwB] at hB2
    have hlB : Below w0.heap.size w0 wB := hlow.trans (hB2.mono hlow.size)
    have ha := aeq_c wB pa1 pa2 l1 l2 ca1 ca2 as1 as2 hl1 hl2 hll (hA1.flat.below hlB) (hA2.flat.below hlB)
    have hk := fun W hW => keq_c w0 Q Q' dd d' (fun n m v v' h h' => ih d' n m v v' h h') pk1 pk2 c1 c2 ck1 ck2 ks1 ks2 hc1 hc2 hcl hks hK1 hK2 W hW
    have hsB : sameB (.mk nm1 ps1 as1 ks1 tx1) (.mk nm1 ps2 as2 ks2 tx1) = (attrsB as1 as2 && sameL ks1 ks2) := by simp [sameB, PNode.name, PNode.text, PNode.attrs, PNode.kids]
    rw [hsB]
    have e2 := hE1.c2; have e3 := hE1.c3; have f2 := hE2.c2; have f3 := hE2.c3
    clear hsB ih hA1 hA2 hK1 hK2 hks hlow hc1 hl1 hc2 hl2
    cases hab : attrsB as1 as2 with
    | false =>
      rw [hab] at ha
      have HC := Lib.hid (And.intro ha (And.intro hwB hB2)); clear ha hk hwB hB2 hE1 hE2 hlB e2 e3 f2 f3 hab
      go_enter Tryz.func39, Tryz.ntmps39
      go_wp2_with (first
        | (go_at_call 66; rw [← HC.out.2.1]; refine HC.out.1.mono ?_; rintro en w2 ⟨rfl, b2⟩))
      go_ret
      exact ⟨rfl, HC.out.2.2.trans (b2.mono HC.out.2.2.size)⟩
    | true =>
      rw [hab] at ha
      have HC := Lib.hid (And.intro ha (And.intro hwB (And.intro hB2 (And.intro hk (And.intro hE1 (And.intro hE2 hlB)))))); clear ha hk hwB hB2 hE1 hE2 hlB e2 e3 f2 f3 hab
      go_enter Tryz.func39, Tryz.ntmps39
      go_wp2_with (first
        | (go_at_call 66; rw [← HC.out.2.1]; refine HC.out.1.mono ?_; rintro en w2 ⟨rfl, b2⟩; have e3 := (HC.out.2.2.2.2.1.below b2).c3; have f3 := (HC.out.2.2.2.2.2.1.below b2).c3)
        | (go_at_call 67; refine (HC.out.2.2.2.1 _ (HC.out.2.2.2.2.2.2.trans (b2.mono HC.out.2.2.2.2.2.2.size))).mono ?_; rintro en w3 ⟨rfl, b3⟩))
      go_ret
      exact ⟨rfl, HC.out.2.2.1.trans ((b2.mono HC.out.2.2.1.size).trans (b3.mono (Nat.le_trans HC.out.2.2.1.size b2.size)))⟩
end Go.Proofs.YtcicibeggkmlcaaGreatDoor
