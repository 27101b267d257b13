/- The walk of the reference's Same of trees. Conditions: the trees lie in memory. -/
import Derived.Test.YtcicibeggkmlcaaGreatDoorTrAJ2
import Derived.Test.YtcicibeggkmlcaaGreatDoorPlY
import Derived.Deep.RegionHeld3
namespace Go.Proofs.YtcicibeggkmlcaaGreatDoor
open Go.RowKit Go.Sof

theorem asize_kids {ks : List PNode} {k : PNode} {nm tx : Bytes} {ps : Int} {al : List PAttr} (h : asize (.mk nm ps al ks tx) ≤ 4194304) (hk : k ∈ ks) : asize k ≤ 4194304 := by
  have := asizeL_mem ks k hk
  rw [asize] at h; omega
theorem tsize_kids {ks : List PNode} {k : PNode} {nm tx : Bytes} {ps : Int} {al : List PAttr} (h : tsize (.mk nm ps al ks tx) ≤ 4194304) (hk : k ∈ ks) : tsize k ≤ 4194304 := by
  have := tsizeL_mem ks k hk
  rw [tsize] at h; omega

set_option maxRecDepth 1000000 in
set_option maxHeartbeats 8000000 in
theorem rsame_c (w0 : World) (Q Q' : Nat → Prop) : ∀ (dd : Nat) (n m : PNode) (v v' : Value), NodeD w0 Q dd v n → (∃ d', NodeD w0 Q' d' v' m) → tsize n ≤ 4194304 → asize n ≤ 4194304 → ∀ (w : World), Below w0.heap.size w0 w →
    Calls Tryz.prog 38 #[v, v'] w fun en w' => en = .returned (.bool (sameB n m)) ∧ Below w.heap.size w w' := by
  intro dd
  induction dd with
  | zero => intro n m v v' h; exact False.elim h
  | succ dd ih =>
    intro n m v v' h h' hz hza w hlow
    obtain ⟨d', h'⟩ := h'
    have hd1 : ∃ d, d' = d + 1 := by cases d' with
      | zero => exact False.elim h'
      | succ d => exact ⟨d, rfl⟩
    obtain ⟨d', rfl⟩ := hd1
    obtain ⟨pa1, ca1, pk1, ck1, rfl, _, _, hA1, hK1⟩ := h
    obtain ⟨pa2, ca2, pk2, ck2, rfl, _, _, hA2, hK2⟩ := h'
    obtain ⟨nm1, ps1, as1, ks1, tx1⟩ := n
    obtain ⟨nm2, ps2, as2, ks2, tx2⟩ := m
    simp only [PNode.kids, PNode.attrs] at hA1 hA2 hK1 hK2
    have hz2 : tsize (.mk nm1 ps1 as1 ks1 tx1) = 1 + tsizeL ks1 := by rw [tsize]
    have hz3 : asize (.mk nm1 ps1 as1 ks1 tx1) = as1.length + asizeL ks1 := by rw [asize]
    have hkl := tsizeL_len ks1
    have hks : ∀ k ∈ ks1, tsize k ≤ 4194304 ∧ asize k ≤ 4194304 := fun k hk => ⟨tsize_kids hz hk, asize_kids hza hk⟩
    obtain ⟨c1, hc1⟩ : ∃ c, c = ks1.length := ⟨_, rfl⟩
    obtain ⟨l1, hl1⟩ : ∃ l, l = as1.length := ⟨_, rfl⟩
    obtain ⟨c2, hc2⟩ : ∃ c, c = ks2.length := ⟨_, rfl⟩
    obtain ⟨l2, hl2⟩ : ∃ l, l = as2.length := ⟨_, rfl⟩
    have hcl : c1 ≤ 4194304 := by omega
    have hll : l1 ≤ 4194304 := by omega
    show Calls Tryz.prog 38 #[.agg #[.string ⟨nm1.toArray⟩, .int .i64 ps1, .slice pa1 as1.length ca1, .slice pk1 ks1.length ck1, .string ⟨tx1.toArray⟩], .agg #[.string ⟨nm2.toArray⟩, .int .i64 ps2, .slice pa2 as2.length ca2, .slice pk2 ks2.length ck2, .string ⟨tx2.toArray⟩]] w _
    rw [← hc1, ← hl1, ← hc2, ← hl2]
    clear hz hza hz2 hz3 hkl
    have hB2 : Below w.heap.size w ((w.alloc (.cells #[.string ⟨nm1.toArray⟩, .int .i64 ps1, .slice pa1 l1 ca1, .slice pk1 c1 ck1, .string ⟨tx1.toArray⟩] 47)).alloc (.cells #[.string ⟨nm2.toArray⟩, .int .i64 ps2, .slice pa2 l2 ca2, .slice pk2 c2 ck2, .string ⟨tx2.toArray⟩] 47)) := ((Below.refl _ w).alloc (Nat.le_refl _) _).alloc (by simp) _
    by_cases hN : nm1 = nm2
    case neg =>
      rw [same_false (.inl hN)]
      have HB2 := Lib.hid hB2; clear hB2 hA1 hA2 hK1 hK2 hks ih hlow hc1 hl1 hc2 hl2
      have hNb : (nm1 == nm2) = false := by rw [beq_eq_false_iff_ne]; exact hN
      go_enter Tryz.func38, Tryz.ntmps38
      go_wp2_with fail
      go_ret
      exact ⟨rfl, HB2.out⟩
    by_cases hT : tx1 = tx2
    case neg =>
      rw [same_false (.inr (.inl hT))]
      have HB2 := Lib.hid hB2; clear hB2 hA1 hA2 hK1 hK2 hks ih hlow hc1 hl1 hc2 hl2
      subst hN
      have hTb : (tx1 == tx2) = false := by rw [beq_eq_false_iff_ne]; exact hT
      go_enter Tryz.func38, Tryz.ntmps38
      go_wp2_with fail
      go_ret
      exact ⟨rfl, HB2.out⟩
    by_cases hL : l1 = l2
    case neg =>
      rw [same_false (.inr (.inr (.inl (fun e => hL (by rw [hl1, hl2, e])))))]
      have HB2 := Lib.hid hB2; clear hB2 hA1 hA2 hK1 hK2 hks ih hlow hc1 hl1 hc2 hl2
      subst hN hT
      have hLI : ¬((l1 : Int) = (l2 : Int)) := by omega
      have hLb : ((l1 : Int) == (l2 : Int)) = false := by rw [beq_eq_false_iff_ne]; exact hLI
      go_enter Tryz.func38, Tryz.ntmps38
      go_wp2_with fail
      go_ret
      exact ⟨rfl, HB2.out⟩
    by_cases hC : c1 = c2
    case neg =>
      rw [same_false (.inr (.inr (.inr (sameL_len (by omega)))))]
      have HB2 := Lib.hid hB2; clear hB2 hA1 hA2 hK1 hK2 hks ih hlow hc1 hl1 hc2 hl2
      subst hN hT hL
      have hCI : ¬((c1 : Int) = (c2 : Int)) := by omega
      have hCb : ((c1 : Int) == (c2 : Int)) = false := by rw [beq_eq_false_iff_ne]; exact hCI
      go_enter Tryz.func38, Tryz.ntmps38
      go_wp2_with fail
      go_ret
      exact ⟨rfl, HB2.out⟩
    subst hN hT hL hC
    have hE2 : Nd5 ((w.alloc (.cells #[.string ⟨nm1.toArray⟩, .int .i64 ps1, .slice pa1 l1 ca1, .slice pk1 c1 ck1, .string ⟨tx1.toArray⟩] 47)).alloc (.cells #[.string ⟨nm1.toArray⟩, .int .i64 ps2, .slice pa2 l1 ca2, .slice pk2 c1 ck2, .string ⟨tx1.toArray⟩] 47)) (w.heap.size + 1) nm1 ps2 (.slice pa2 l1 ca2) (.slice pk2 c1 ck2) tx1 := by
      have := Nd5.new (w.alloc (.cells #[.string ⟨nm1.toArray⟩, .int .i64 ps1, .slice pa1 l1 ca1, .slice pk1 c1 ck1, .string ⟨tx1.toArray⟩] 47)) nm1 ps2 (.slice pa2 l1 ca2) (.slice pk2 c1 ck2) tx1
      rw [show (w.alloc (.cells #[.string ⟨nm1.toArray⟩, .int .i64 ps1, .slice pa1 l1 ca1, .slice pk1 c1 ck1, .string ⟨tx1.toArray⟩] 47)).heap.size = w.heap.size + 1 from by simp] at this
      exact this
    have hE1 := (Nd5.new w nm1 ps1 (.slice pa1 l1 ca1) (.slice pk1 c1 ck1) tx1).below ((Below.refl _ (w.alloc (.cells #[.string ⟨nm1.toArray⟩, .int .i64 ps1, .slice pa1 l1 ca1, .slice pk1 c1 ck1, .string ⟨tx1.toArray⟩] 47))).alloc (Nat.le_refl _) (.cells #[.string ⟨nm1.toArray⟩, .int .i64 ps2, .slice pa2 l1 ca2, .slice pk2 c1 ck2, .string ⟨tx1.toArray⟩] 47))
    have HE := Lib.hid (And.intro hE1 (And.intro hE2 hB2)); have HA := Lib.hid (And.intro hA1 hA2); have HK := Lib.hid (And.intro hK1 hK2); have HI := Lib.hid ih; have HL := Lib.hid hlow; have HS := Lib.hid hks; have HC := Lib.hid (And.intro hc1 (And.intro hc2 (And.intro hl1 hl2)))
    clear hE1 hE2 hB2 hA1 hA2 hK1 hK2 ih hlow hks hc1 hc2 hl1 hl2
    go_enter Tryz.func38, Tryz.ntmps38
    go_wp2_with fail
    obtain ⟨wB, hwB⟩ : ∃ wB, wB = ((w.alloc (.cells #[.string ⟨nm1.toArray⟩, .int .i64 ps1, .slice pa1 l1 ca1, .slice pk1 c1 ck1, .string ⟨tx1.toArray⟩] 47)).alloc (.cells #[.string ⟨nm1.toArray⟩, .int .i64 ps2, .slice pa2 l1 ca2, .slice pk2 c1 ck2, .string ⟨tx1.toArray⟩] 47)) := ⟨_, rfl⟩
    rw [← hwB]
    have HB := Lib.hid (show Nd5 wB w.heap.size nm1 ps1 (.slice pa1 l1 ca1) (.slice pk1 c1 ck1) tx1 ∧ Nd5 wB (w.heap.size + 1) nm1 ps2 (.slice pa2 l1 ca2) (.slice pk2 c1 ck2) tx1 ∧ Below w.heap.size w wB from by rw [hwB]; exact HE.out)
    clear hwB HE
    have HLB := Lib.hid (show Below w0.heap.size w0 wB from HL.out.trans (HB.out.2.2.mono HL.out.size)); clear HL
    go_loopg [5] l1 (fun g i wr => Below wB.heap.size wB wr ∧ ∃ k : Nat, k ≤ l1 ∧ g = l1 - k ∧ i = .int .i64 k ∧ ∀ j (h1 : j < as1.length) (h2 : j < as2.length), j < k → as1[j]'h1 = as2[j]'h2)
    case atStart => exact ⟨Below.refl _ _, 0, Nat.zero_le _, rfl, rfl, fun j _ _ hj => absurd hj (by omega)⟩
    case round =>
      obtain ⟨hbw, k, hk, hg, rfl, ha⟩ := hrel
      have e1 := (HB.out.1.below hbw).c2; have e2 := (HB.out.2.1.below hbw).c2
      have g1 := (HB.out.1.below hbw).c3; have g2 := (HB.out.2.1.below hbw).c3
      by_cases hlt : k < l1
      · have hkI : (k : Int) < (l1 : Int) := by omega
        have hk1 : k < as1.length := by have := HC.out.2.2.1; omega
        have hk2 : k < as2.length := by have := HC.out.2.2.2; omega
        have hlw : Below w0.heap.size w0 wr := HLB.out.trans (hbw.mono HLB.out.size)
        obtain ⟨b1, o1, rfl, _, s1, s2⟩ := HA.out.1 k hk1
        obtain ⟨b2, o2, rfl, _, s3, s4⟩ := HA.out.2 k hk2
        have z1 := cell_keep hlw s1; have z2 := cell_keep hlw s2; have z3 := cell_keep hlw s3; have z4 := cell_keep hlw s4
        clear s1 s2 s3 s4
        by_cases hx : as1[k]'hk1 = as2[k]'hk2
        · have ha2 : ∀ j (h1 : j < as1.length) (h2 : j < as2.length), j < k + 1 → as1[j]'h1 = as2[j]'h2 := fun j h1 h2 hj => by
            by_cases hjk : j < k
            · exact ha j h1 h2 hjk
            · obtain rfl : j = k := by omega
              exact hx
          rw [← hx] at z3 z4
          generalize (as1[k]'hk1).name = AN at *
          generalize (as1[k]'hk1).value = AV at *
          have HR := Lib.hid (And.intro hbw (And.intro hg ha2)); clear hbw hg ha2 ha hx hlw
          go_wp2_with fail
          go_quiet (fail)
          go_wp2_with fail
          go_roundg (l1 - (k + 1))
          case measure => have := HR.out.2.1; omega
          case rel => exact ⟨HR.out.1.trans ⟨rfl, rfl, rfl, Nat.le_refl _, fun _ _ => rfl⟩, k + 1, by omega, rfl, by go_num, HR.out.2.2⟩
        · have hf := same_false (nm1 := nm1) (nm2 := nm1) (p1 := ps1) (p2 := ps2) (a1 := as1) (a2 := as2) (k1 := ks1) (k2 := ks2) (t1 := tx1) (t2 := tx1) (.inr (.inr (.inl (fun e => hx (by subst e; rfl)))))
          generalize as1[k]'hk1 = x1 at *
          generalize as2[k]'hk2 = x2 at *
          obtain ⟨AN1, AV1⟩ := x1
          obtain ⟨AN2, AV2⟩ := x2
          simp only at z1 z2 z3 z4
          have HR := Lib.hid (And.intro hbw hf); clear hbw hg ha hlw hf
          by_cases hn : AN1 = AN2
          · subst hn
            have hvb : (AV1 == AV2) = false := by rw [beq_eq_false_iff_ne]; intro e; exact hx (by rw [e])
            clear hx
            go_wp2_with fail
            go_quiet (fail)
            go_wp2_with fail
            go_ret
            exact ⟨(by rw [HR.out.2]; first | done | rfl), HB.out.2.2.trans ((HR.out.1.mono HB.out.2.2.size).trans ⟨rfl, rfl, rfl, Nat.le_refl _, fun _ _ => rfl⟩)⟩
          · have hnb : (AN1 == AN2) = false := by rw [beq_eq_false_iff_ne]; exact hn
            clear hx
            go_wp2_with fail
            go_quiet (fail)
            go_wp2_with fail
            go_ret
            exact ⟨(by rw [HR.out.2]; first | done | rfl), HB.out.2.2.trans ((HR.out.1.mono HB.out.2.2.size).trans ⟨rfl, rfl, rfl, Nat.le_refl _, fun _ _ => rfl⟩)⟩
      · obtain rfl : k = l1 := by omega
        have hat : as1 = as2 := by
          have q1 := HC.out.2.2.1; have q2 := HC.out.2.2.2
          exact List.ext_getElem (by omega) (fun j h1 h2 => ha j h1 h2 (by omega))
        have hkI : decide ((k : Int) < (k : Int)) = false := by simp
        have HR := Lib.hid (And.intro hbw hat); clear hbw hg ha hat
        go_wp2_with fail
        go_loopg [6] c1 (fun g i wr => Below wB.heap.size wB wr ∧ ∃ k : Nat, k ≤ c1 ∧ g = c1 - k ∧ i = .int .i64 k ∧ ∀ j (h1 : j < ks1.length) (h2 : j < ks2.length), j < k → sameB (ks1[j]'h1) (ks2[j]'h2) = true)
        case atStart => exact ⟨HR.out.1, 0, Nat.zero_le _, rfl, rfl, fun j _ _ hj => absurd hj (by omega)⟩
        case round =>
          clear e1 e2 g1 g2
          obtain ⟨hbi, t, ht, hgi, rfl, hs⟩ := hrel
          have g1 := (HB.out.1.below hbi).c3; have g2 := (HB.out.2.1.below hbi).c3
          by_cases hti : t < c1
          · have htI : (t : Int) < (c1 : Int) := by omega
            have ht1 : t < ks1.length := by have := HC.out.1; omega
            have ht2 : t < ks2.length := by have := HC.out.2.1; omega
            have hlw : Below w0.heap.size w0 wr := HLB.out.trans (hbi.mono HLB.out.size)
            obtain ⟨b1, o1, pa3, ca3, pk3, ck3, rfl, _, s0, s1, s2, s3, s4, hn1⟩ := HK.out.1.get t ht1
            obtain ⟨b2, o2, pa4, ca4, pk4, ck4, rfl, _, r0, r1, r2, r3, r4, hn2⟩ := HK.out.2.get t ht2
            have a0 := cell_keep hlw s0; have a1 := cell_keep hlw s1; have a2 := cell_keep hlw s2; have a3 := cell_keep hlw s3; have a4 := cell_keep hlw s4
            have z0 := cell_keep hlw r0; have z1 := cell_keep hlw r1; have z2 := cell_keep hlw r2; have z3 := cell_keep hlw r3; have z4 := cell_keep hlw r4
            clear s0 s1 s2 s3 s4 r0 r1 r2 r3 r4
            have hks := HS.out _ (List.getElem_mem ht1)
            have hcall := fun W hW => HI.out _ _ _ _ hn1 ⟨_, hn2⟩ hks.1 hks.2 W hW
            unfold nodeV at hcall
            have hfx : sameB (ks1[t]'ht1) (ks2[t]'ht2) = false → sameB (.mk nm1 ps1 as1 ks1 tx1) (.mk nm1 ps2 as2 ks2 tx1) = false := fun h => same_false (.inr (.inr (.inr (sameL_false t ht1 ht2 h))))
            have htx : sameB (ks1[t]'ht1) (ks2[t]'ht2) = true → ∀ j (h1 : j < ks1.length) (h2 : j < ks2.length), j < t + 1 → sameB (ks1[j]'h1) (ks2[j]'h2) = true := fun h j h1 h2 hj => by
              by_cases hjt : j < t
              · exact hs j h1 h2 hjt
              · obtain rfl : j = t := by omega
                exact h
            generalize ks1[t]'ht1 = x1 at *
            generalize ks2[t]'ht2 = x2 at *
            cases hsx : sameB x1 x2 with
            | true =>
              rw [hsx] at hcall
              have HQ := Lib.hid (And.intro hbi (And.intro hgi (And.intro (htx hsx) hlw))); have HCL := Lib.hid hcall; clear hbi hgi hs hcall hn1 hn2 hks hfx htx hlw hsx
              go_wp2_with fail
              go_region_held3 (fun w' => w'.cell? ⟨w.heap.size, 3, none⟩ = some (.slice (some ⟨b1, o1, none⟩) c1 ck1) ∧ w'.cell? ⟨w.heap.size + 1, 3, none⟩ = some (.slice (some ⟨b2, o2, none⟩) c1 ck2) ∧ w'.cell? ⟨b1, o1 + t * 5, none⟩ = some (.string ⟨x1.name.toArray⟩) ∧ w'.cell? ⟨b1, o1 + t * 5 + 1, none⟩ = some (.int .i64 x1.pos) ∧ w'.cell? ⟨b1, o1 + t * 5 + 2, none⟩ = some (.slice pa3 x1.attrs.length ca3) ∧ w'.cell? ⟨b1, o1 + t * 5 + 3, none⟩ = some (.slice pk3 x1.kids.length ck3) ∧ w'.cell? ⟨b1, o1 + t * 5 + 4, none⟩ = some (.string ⟨x1.text.toArray⟩) ∧ w'.cell? ⟨b2, o2 + t * 5, none⟩ = some (.string ⟨x2.name.toArray⟩) ∧ w'.cell? ⟨b2, o2 + t * 5 + 1, none⟩ = some (.int .i64 x2.pos) ∧ w'.cell? ⟨b2, o2 + t * 5 + 2, none⟩ = some (.slice pa4 x2.attrs.length ca4) ∧ w'.cell? ⟨b2, o2 + t * 5 + 3, none⟩ = some (.slice pk4 x2.kids.length ck4) ∧ w'.cell? ⟨b2, o2 + t * 5 + 4, none⟩ = some (.string ⟨x2.text.toArray⟩)) (first | exact ⟨g1, g2, a0, a1, a2, a3, a4, z0, z1, z2, z3, z4⟩ | exact ⟨j1, j2, x0', x1', x2', x3', x4', y0', y1', y2', y3', y4'⟩) (first | (go_at_call 38; refine (HCL.out _ HQ.out.2.2.2.drew).mono ?_; rintro en w2 ⟨rfl, b2⟩; have j1 := cell_keep (w := wr.drew) b2 g1; have j2 := cell_keep (w := wr.drew) b2 g2; have x0' := cell_keep (w := wr.drew) b2 a0; have x1' := cell_keep (w := wr.drew) b2 a1; have x2' := cell_keep (w := wr.drew) b2 a2; have x3' := cell_keep (w := wr.drew) b2 a3; have x4' := cell_keep (w := wr.drew) b2 a4; have y0' := cell_keep (w := wr.drew) b2 z0; have y1' := cell_keep (w := wr.drew) b2 z1; have y2' := cell_keep (w := wr.drew) b2 z2; have y3' := cell_keep (w := wr.drew) b2 z3; have y4' := cell_keep (w := wr.drew) b2 z4))
              go_wp2_with fail
              go_roundg (c1 - (t + 1))
              case measure => have := HQ.out.2.1; omega
              case rel => exact ⟨HQ.out.1.drew.trans (b2.mono HQ.out.1.size), t + 1, by omega, rfl, by go_num, HQ.out.2.2.1⟩
            | false =>
              rw [hsx] at hcall
              have HQ := Lib.hid (And.intro hbi (And.intro hlw (hfx hsx))); have HCL := Lib.hid hcall; clear hbi hgi hs hcall hn1 hn2 hks hfx htx hlw hsx
              go_wp2_with fail
              go_region_held3 (fun w' => w'.cell? ⟨w.heap.size, 3, none⟩ = some (.slice (some ⟨b1, o1, none⟩) c1 ck1) ∧ w'.cell? ⟨w.heap.size + 1, 3, none⟩ = some (.slice (some ⟨b2, o2, none⟩) c1 ck2) ∧ w'.cell? ⟨b1, o1 + t * 5, none⟩ = some (.string ⟨x1.name.toArray⟩) ∧ w'.cell? ⟨b1, o1 + t * 5 + 1, none⟩ = some (.int .i64 x1.pos) ∧ w'.cell? ⟨b1, o1 + t * 5 + 2, none⟩ = some (.slice pa3 x1.attrs.length ca3) ∧ w'.cell? ⟨b1, o1 + t * 5 + 3, none⟩ = some (.slice pk3 x1.kids.length ck3) ∧ w'.cell? ⟨b1, o1 + t * 5 + 4, none⟩ = some (.string ⟨x1.text.toArray⟩) ∧ w'.cell? ⟨b2, o2 + t * 5, none⟩ = some (.string ⟨x2.name.toArray⟩) ∧ w'.cell? ⟨b2, o2 + t * 5 + 1, none⟩ = some (.int .i64 x2.pos) ∧ w'.cell? ⟨b2, o2 + t * 5 + 2, none⟩ = some (.slice pa4 x2.attrs.length ca4) ∧ w'.cell? ⟨b2, o2 + t * 5 + 3, none⟩ = some (.slice pk4 x2.kids.length ck4) ∧ w'.cell? ⟨b2, o2 + t * 5 + 4, none⟩ = some (.string ⟨x2.text.toArray⟩)) (first | exact ⟨g1, g2, a0, a1, a2, a3, a4, z0, z1, z2, z3, z4⟩ | exact ⟨j1, j2, x0', x1', x2', x3', x4', y0', y1', y2', y3', y4'⟩) (first | (go_at_call 38; refine (HCL.out _ HQ.out.2.1.drew).mono ?_; rintro en w2 ⟨rfl, b2⟩; have j1 := cell_keep (w := wr.drew) b2 g1; have j2 := cell_keep (w := wr.drew) b2 g2; have x0' := cell_keep (w := wr.drew) b2 a0; have x1' := cell_keep (w := wr.drew) b2 a1; have x2' := cell_keep (w := wr.drew) b2 a2; have x3' := cell_keep (w := wr.drew) b2 a3; have x4' := cell_keep (w := wr.drew) b2 a4; have y0' := cell_keep (w := wr.drew) b2 z0; have y1' := cell_keep (w := wr.drew) b2 z1; have y2' := cell_keep (w := wr.drew) b2 z2; have y3' := cell_keep (w := wr.drew) b2 z3; have y4' := cell_keep (w := wr.drew) b2 z4))
              go_wp2_with fail
              go_ret
              exact ⟨(by rw [HQ.out.2.2]; first | done | rfl), HB.out.2.2.trans ((HQ.out.1.drew.trans (b2.mono HQ.out.1.size)).mono HB.out.2.2.size)⟩
          · obtain rfl : t = c1 := by omega
            have hkl : sameL ks1 ks2 = true := sameL_true ks1 ks2 (by have := HC.out.1; have := HC.out.2.1; omega) (fun j h1 h2 => hs j h1 h2 (by have := HC.out.1; omega))
            have hf := same_true (nm1 := nm1) (nm2 := nm1) (p1 := ps1) (p2 := ps2) (t1 := tx1) (t2 := tx1) rfl rfl HR.out.2 hkl
            have hkI2 : decide ((t : Int) < (t : Int)) = false := by simp
            have HQ := Lib.hid (And.intro hbi hf); clear hbi hgi hs hkl hf
            go_wp2_with fail
            go_ret
            exact ⟨(by rw [HQ.out.2]; first | done | rfl), HB.out.2.2.trans (HQ.out.1.mono HB.out.2.2.size)⟩
end Go.Proofs.YtcicibeggkmlcaaGreatDoor
