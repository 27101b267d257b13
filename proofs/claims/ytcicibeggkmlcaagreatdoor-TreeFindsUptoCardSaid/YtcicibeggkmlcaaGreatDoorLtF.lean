/- The walk of the law TreeFinds. Conditions: the tables lie as they are laid; the trees lie in memory and are no greater than a bulk. -/
import Derived.Test.YtcicibeggkmlcaaGreatDoorTrO
import Derived.Test.YtcicibeggkmlcaaGreatDoorSaB
import Derived.Test.YtcicibeggkmlcaaGreatDoorSaC
namespace Go.Proofs.YtcicibeggkmlcaaGreatDoor
open Go.RowKit Go.Sof

set_option maxRecDepth 1000000 in
set_option maxHeartbeats 8000000 in
theorem tfinds_c (w : World) (dd1 dd2 : Nat) (n m : PNode) (v v' : Value) (nm : Bytes) (hw : WOK w) (hn : NodeD w (fun _ => True) dd1 v n) (hm : NodeD w (fun _ => True) dd2 v' m) (hz : NdSz n) (hza : asize n ≤ 4194304) (hzm : tsize m ≤ 4194304) :
    Calls Tryz.prog 15 #[v, v', .string ⟨nm.toArray⟩] w fun en w' => en = .returned (.bool true) ∧ Below w.heap.size w w' := by
  have hd1 : ∃ d, dd1 = d + 1 := by cases dd1 with
    | zero => exact False.elim hn
    | succ d => exact ⟨d, rfl⟩
  have hd2 : ∃ d, dd2 = d + 1 := by cases dd2 with
    | zero => exact False.elim hm
    | succ d => exact ⟨d, rfl⟩
  obtain ⟨d1, rfl⟩ := hd1
  obtain ⟨d2, rfl⟩ := hd2
  have hzt : tsize n ≤ 4194304 := by have := hz.1; omega
  have hbn := fun W hW => big_c w _ _ n _ hn hzt W 1 300 hW (by decide) (by decide) (by decide)
  have hbm := fun W hW => big_c w _ _ m _ hm hzm W 1 300 hW (by decide) (by decide) (by decide)
  have hat := fun W hW => attr_get_c w _ _ n _ hn (by have := nBulk_asize n; cases n; simp only [asize, PNode.attrs] at hza ⊢; omega) W hW nm
  have hfd := fun W hW => find_c w _ _ n _ hn hzt hza W hW nm
  have hts := fun W hW => tsame_c w (fun _ => True) (fun _ => True) _ _ n m _ _ hn hm hzt hza W hW
  have hrs := fun W hW => rsame_c w (fun _ => True) (fun _ => True) _ n m _ _ hn ⟨_, hm⟩ hzt hza W hW
  obtain ⟨pa1, ca1, pk1, ck1, rfl, _, _, hA1, hK1⟩ := hn
  obtain ⟨pa2, ca2, pk2, ck2, rfl, _, _, _, _⟩ := hm
  have hkz : ∀ k ∈ n.kids, tsize k ≤ 4194304 ∧ asize k ≤ 4194304 := by
    obtain ⟨a, b, c, ks, e⟩ := n
    exact fun k hk => ⟨tsize_kids hzt hk, asize_kids hza hk⟩
  unfold nodeV at *
  generalize bigP n 1 300 = B1 at *
  generalize bigP m 1 300 = B2 at *
  generalize sameB n m = SB at *
  have hkl : n.kids.length ≤ 4194304 := by
    obtain ⟨a, b, c, ks, e⟩ := n
    have := tsizeL_len ks; rw [tsize] at hzt; simp only [PNode.kids]; omega
  have hall : n.attrs.length ≤ 4194304 := by
    obtain ⟨a, b, c, ks, e⟩ := n
    rw [asize] at hza; simp only [PNode.attrs]; omega
  generalize n.name = N1 at *
  generalize n.pos = P1 at *
  generalize n.text = T1 at *
  generalize n.attrs = ats at *
  generalize n.kids = ks at *
  generalize m.name = N2 at *
  generalize m.pos = P2 at *
  generalize m.text = T2 at *
  obtain ⟨l2, hl2⟩ : ∃ l, l = m.attrs.length := ⟨_, rfl⟩
  obtain ⟨c2, hc2⟩ : ∃ c, c = m.kids.length := ⟨_, rfl⟩
  obtain ⟨l1, hl1⟩ : ∃ l, l = ats.length := ⟨_, rfl⟩
  obtain ⟨c1, hc1⟩ : ∃ c, c = ks.length := ⟨_, rfl⟩
  rw [← hl2, ← hc2] at hbm hts hrs ⊢
  rw [← hl1, ← hc1] at hbn hat hfd hts hrs ⊢
  rw [← hc1] at hkl
  rw [← hl1] at hall
  have hE2 : Nd5 ((w.alloc (.cells #[.string ⟨N1.toArray⟩, .int .i64 P1, .slice pa1 l1 ca1, .slice pk1 c1 ck1, .string ⟨T1.toArray⟩] 47)).alloc (.cells #[.string ⟨N2.toArray⟩, .int .i64 P2, .slice pa2 l2 ca2, .slice pk2 c2 ck2, .string ⟨T2.toArray⟩] 47)) (w.heap.size + 1) N2 P2 (.slice pa2 l2 ca2) (.slice pk2 c2 ck2) T2 := by
    have := Nd5.new (w.alloc (.cells #[.string ⟨N1.toArray⟩, .int .i64 P1, .slice pa1 l1 ca1, .slice pk1 c1 ck1, .string ⟨T1.toArray⟩] 47)) N2 P2 (.slice pa2 l2 ca2) (.slice pk2 c2 ck2) T2
    rw [show (w.alloc (.cells #[.string ⟨N1.toArray⟩, .int .i64 P1, .slice pa1 l1 ca1, .slice pk1 c1 ck1, .string ⟨T1.toArray⟩] 47)).heap.size = w.heap.size + 1 from by simp] at this
    exact this
  have hE1 : Nd5 ((w.alloc (.cells #[.string ⟨N1.toArray⟩, .int .i64 P1, .slice pa1 l1 ca1, .slice pk1 c1 ck1, .string ⟨T1.toArray⟩] 47)).alloc (.cells #[.string ⟨N2.toArray⟩, .int .i64 P2, .slice pa2 l2 ca2, .slice pk2 c2 ck2, .string ⟨T2.toArray⟩] 47)) w.heap.size N1 P1 (.slice pa1 l1 ca1) (.slice pk1 c1 ck1) T1 := (Nd5.new w N1 P1 (.slice pa1 l1 ca1) (.slice pk1 c1 ck1) T1).below ((Below.refl _ _).alloc (Nat.le_refl _) _)
  have hB0 : Below w.heap.size w ((w.alloc (.cells #[.string ⟨N1.toArray⟩, .int .i64 P1, .slice pa1 l1 ca1, .slice pk1 c1 ck1, .string ⟨T1.toArray⟩] 47)).alloc (.cells #[.string ⟨N2.toArray⟩, .int .i64 P2, .slice pa2 l2 ca2, .slice pk2 c2 ck2, .string ⟨T2.toArray⟩] 47)) := ((Below.refl _ w).alloc (Nat.le_refl _) _).alloc (by simp) _
  have H0 := Lib.hid (And.intro hE1 (And.intro hE2 hB0)); have HW := Lib.hid hw; clear hE1 hE2 hB0 hw
  have HC := Lib.hid (And.intro hbn (And.intro hbm (And.intro hat (And.intro hfd (And.intro hts hrs))))); have HK := Lib.hid (And.intro hA1 (And.intro hK1 (And.intro hkz (And.intro hl1 hc1)))); clear hbn hbm hat hfd hts hrs hA1 hK1 hkz hl1 hc1 hl2 hc2 hz hza hzt hzm
  by_cases hB1 : B1 < 0
  · go_enter Tryz.func15, Tryz.ntmps15
    go_wp2_with (first
      | (go_at_call 33; refine (HC.out.1 _ H0.out.2.2).mono ?_; rintro en w1 ⟨rfl, b1'⟩; have b1 := H0.out.2.2.trans (b1'.mono H0.out.2.2.size); clear b1')
      | (go_at_call 34; refine (awt_c _ (HW.out.below b1)).mono ?_; rintro en w2 ⟨rfl, b2'⟩; have b2 := b1.trans (b2'.mono b1.size); clear b2'))
    go_ret
    exact ⟨rfl, b2⟩
  have hB1d : decide (B1 < 0) = false := decide_eq_false hB1
  by_cases hB2 : B2 < 0
  · go_enter Tryz.func15, Tryz.ntmps15
    go_wp2_with (first
      | (go_at_call 33; first
          | (refine (HC.out.2.1 _ b1).mono ?_; rintro en w2 ⟨rfl, b2'⟩; have b2 := b1.trans (b2'.mono b1.size); clear b2')
          | (refine (HC.out.1 _ H0.out.2.2).mono ?_; rintro en w1 ⟨rfl, b1'⟩; have h1 := H0.out.1.below b1'; have k1 := H0.out.2.1.below b1'; have q0 := h1.c0; have q1 := h1.c1; have q2 := h1.c2; have q3 := h1.c3; have q4 := h1.c4; have q5 := k1.c0; have q6 := k1.c1; have q7 := k1.c2; have q8 := k1.c3; have q9 := k1.c4; have b1 := H0.out.2.2.trans (b1'.mono H0.out.2.2.size); clear b1' h1 k1))
      | (go_at_call 34; refine (awt_c _ (HW.out.below b2)).mono ?_; rintro en w3 ⟨rfl, b3'⟩; have b3 := b2.trans (b3'.mono b2.size); clear b3'))
    go_ret
    exact ⟨rfl, b3⟩
  have hB2d : decide (B2 < 0) = false := decide_eq_false hB2
  obtain ⟨V, hV⟩ : ∃ V, V = (attrV ats nm).getD [] := ⟨_, rfl⟩
  obtain ⟨OK, hOK⟩ : ∃ OK, OK = (attrV ats nm).isSome := ⟨_, rfl⟩
  have hat2 := HC.out.2.2.1
  rw [← hV, ← hOK] at hat2
  have HV := Lib.hid (And.intro hV (And.intro hOK hat2)); clear hV hOK hat2
  go_enter Tryz.func15, Tryz.ntmps15
  go_wp2_with (first
    | (go_at_call 33; first
        | (refine (HC.out.2.1 _ b1).mono ?_; rintro en w2 ⟨rfl, b2'⟩; have h2 := H1.out.1.below b2'; have k2 := H1.out.2.below b2'; have r0 := h2.c0; have r1 := h2.c1; have r2 := h2.c2; have r3 := h2.c3; have r4 := h2.c4; have r5 := k2.c0; have r6 := k2.c1; have r7 := k2.c2; have r8 := k2.c3; have r9 := k2.c4; have b2 := b1.trans (b2'.mono b1.size); have H2 := Lib.hid (And.intro h2 k2); clear b2' h2 k2)
        | (refine (HC.out.1 _ H0.out.2.2).mono ?_; rintro en w1 ⟨rfl, b1'⟩; have h1 := H0.out.1.below b1'; have k1 := H0.out.2.1.below b1'; have q0 := h1.c0; have q1 := h1.c1; have q2 := h1.c2; have q3 := h1.c3; have q4 := h1.c4; have q5 := k1.c0; have q6 := k1.c1; have q7 := k1.c2; have q8 := k1.c3; have q9 := k1.c4; have b1 := H0.out.2.2.trans (b1'.mono H0.out.2.2.size); have H1 := Lib.hid (And.intro h1 k1); clear b1' h1 k1))
    | (go_at_call 40; refine (HV.out.2.2 _ b2).mono ?_; rintro en w3 ⟨rfl, b3'⟩; have h3 := H2.out.1.below b3'; have k3 := H2.out.2.below b3'; have s0 := h3.c0; have s1 := h3.c1; have s2 := h3.c2; have s3 := h3.c3; have s4 := h3.c4; have s5 := k3.c0; have s6 := k3.c1; have s7 := k3.c2; have s8 := k3.c3; have s9 := k3.c4; have b3 := b2.trans (b3'.mono b2.size); have H3 := Lib.hid (And.intro h3 k3); clear b3' h3 k3))
  clear q0 q1 q2 q3 q4 q5 q6 q7 q8 q9 r0 r1 r2 r3 r4 r5 r6 r7 r8 r9
  have HB3 := Lib.hid b3; clear b3 b2 b1
  clear s0 s1 s2 s3 s4 s5 s6 s7 s8 s9
  go_loopg [9, 10, 11] l1 (fun g tv tb i wr => Below w3.heap.size w3 wr ∧ ∃ k : Nat, k ≤ l1 ∧ g = k ∧ i = .int .i64 ((k : Int) - 1) ∧ tv = .string ⟨((attrV (ats.drop k) nm).getD []).toArray⟩ ∧ tb = .bool (attrV (ats.drop k) nm).isSome)
  case atStart => exact ⟨Below.refl _ _, l1, Nat.le_refl _, rfl, rfl, by rw [HK.out.2.2.2.1, List.drop_length]; rfl, by rw [HK.out.2.2.2.1, List.drop_length]; rfl⟩
  case round =>
    obtain ⟨hbw, k, hk, hg, rfl, rfl, rfl⟩ := hrel
    have e2 := (H3.out.1.below hbw).c2
    have hlw : Below w.heap.size w wr := HB3.out.trans (hbw.mono HB3.out.size)
    cases k with
    | succ j =>
      have hj1 : j < ats.length := by rw [← HK.out.2.2.2.1]; omega
      have hjI : (j : Int) < (l1 : Int) := by omega
      rw [show ((j + 1 : Nat) : Int) - 1 = (j : Int) from by omega]
      obtain ⟨bb, oo, rfl, _, s1, s2⟩ := HK.out.1 j hj1
      have z1 := cell_keep hlw s1; have z2 := cell_keep hlw s2
      clear s1 s2
      by_cases hx : (ats[j]'hj1).name = nm
      · have hh := attrV_hit hj1 hx
        rw [hx] at z1
        generalize (ats[j]'hj1).value = AV at *
        have HR := Lib.hid (And.intro hbw (And.intro hg hh)); clear hbw hg hh hx hlw
        go_wp2_with fail
        go_roundg j
        case measure => have := HR.out.2.1; omega
        case rel => exact ⟨HR.out.1, j, by omega, rfl, by go_num, by rw [HR.out.2.2]; rfl, by rw [HR.out.2.2]; rfl⟩
      · have hh := attrV_miss hj1 hx
        have hxb : ((ats[j]'hj1).name == nm) = false := by rw [beq_eq_false_iff_ne]; exact hx
        generalize (ats[j]'hj1).name = AN at *
        have HR := Lib.hid (And.intro hbw (And.intro hg hh)); clear hbw hg hh hx hlw
        go_wp2_with fail
        go_roundg j
        case measure => have := HR.out.2.1; omega
        case rel => exact ⟨HR.out.1, j, by omega, rfl, by go_num, by rw [HR.out.2.2], by rw [HR.out.2.2]⟩
    | zero =>
      rw [show ((0 : Nat) : Int) - 1 = -1 from rfl, List.drop_zero, ← HV.out.1, ← HV.out.2.1]
      have HR := Lib.hid (And.intro hbw hlw); clear hbw hg hlw
      have hfd := HC.out.2.2.2.1
      have q0 := (H3.out.1.below HR.out.1).c0; have q1 := (H3.out.1.below HR.out.1).c1; have q3 := (H3.out.1.below HR.out.1).c3; have q4 := (H3.out.1.below HR.out.1).c4
      have HFD := Lib.hid hfd; clear hfd
      go_wp2_with (first
        | (go_at_call 41; refine (HFD.out _ HR.out.2).mono ?_; rintro en w4 ⟨⟨pf, cf, df, rfl, hkf⟩, b4'⟩; have h4 := (H3.out.1.below HR.out.1).below b4'; have k4 := (H3.out.2.below HR.out.1).below b4'; have b4 := HR.out.2.trans (b4'.mono HR.out.2.size); have H4 := Lib.hid (And.intro h4 (And.intro k4 (And.intro b4 hkf))); clear b4' h4 k4 b4 hkf))
      obtain ⟨L, hL⟩ : ∃ L, L = (filtN ks nm).length := ⟨_, rfl⟩
      rw [← hL]
      have hLc : L ≤ c1 := by rw [hL, HK.out.2.2.2.2]; exact filt_le _ _
      have HL := Lib.hid hL; clear hL e2 q0 q1 q3 q4
      go_loopg [13, 14] c1 (fun g kv i wr => Below w4.heap.size w4 wr ∧ ∃ k : Nat, k ≤ c1 ∧ g = c1 - k ∧ i = .int .i64 k ∧ kv = .int .i64 ((filtN (ks.take k) nm).length : Nat))
      case atStart => exact ⟨Below.refl _ _, 0, Nat.zero_le _, rfl, rfl, by rw [List.take_zero]; rfl⟩
      case round =>
        obtain ⟨hbi, k, hk, hg, rfl, rfl⟩ := hrel
        have e3 := (H4.out.1.below hbi).c3
        by_cases hlt : k < c1
        · have hkI : (k : Int) < (c1 : Int) := by omega
          have hka : k < ks.length := by rw [← HK.out.2.2.2.2]; exact hlt
          have hlw : Below w.heap.size w wr := H4.out.2.2.1.trans (hbi.mono H4.out.2.2.1.size)
          obtain ⟨g1, o1, pa3, ca3, pk3, ck3, rfl, _, s0, s1, s2, s3, s4, hn1⟩ := HK.out.2.1.get k hka
          have a0 := cell_keep hlw s0; have a1 := cell_keep hlw s1; have a2 := cell_keep hlw s2; have a3 := cell_keep hlw s3; have a4 := cell_keep hlw s4
          clear s0 s1 s2 s3 s4
          by_cases hx : (ks[k]'hka).name = nm
          · have hh := filt_hit hka hx
            obtain ⟨hfl, hfe⟩ := filt_get hka hx
            obtain ⟨g2, o2, pa4, ca4, pk4, ck4, rfl, _, s0, s1, s2, s3, s4, hn2⟩ := H4.out.2.2.2.get _ hfl
            rw [hfe] at s0 s1 s2 s3 s4 hn2
            have z0 := cell_keep hbi s0; have z1 := cell_keep hbi s1; have z2 := cell_keep hbi s2; have z3 := cell_keep hbi s3; have z4 := cell_keep hbi s4
            clear s0 s1 s2 s3 s4
            have hks := HK.out.2.2.1 _ (List.getElem_mem hka)
            have hcall := fun W hW => rplaces_c w4 _ (fun _ => True) _ _ _ _ hn2 ⟨_, hn1.below H4.out.2.2.1⟩ hks.1 hks.2 W hW
            unfold nodeV at hcall
            rw [← HL.out] at hfl
            have hnx : (filtN (ks.take (k + 1)) nm).length = (filtN (ks.take k) nm).length + 1 := by rw [hh, List.length_append]; rfl
            obtain ⟨K, hKe⟩ : ∃ K, K = (filtN (ks.take k) nm).length := ⟨_, rfl⟩
            rw [← hKe] at hfl hnx z0 z1 z2 z3 z4 ⊢
            have hKL : (K : Int) < (L : Int) := by omega
            have hKd : decide ((L : Int) ≤ (K : Int)) = false := decide_eq_false (by omega)
            have hKd2 : decide (L ≤ K) = false := decide_eq_false (by omega)
            have hKn : ¬ (L ≤ K) := by omega
            have hKn2 : K < L := by omega
            rw [hx] at a0 z0 hcall
            have HR2 := Lib.hid (And.intro hbi (And.intro hg hnx)); have HCL := Lib.hid hcall; clear hbi hg hnx hcall hh hfe hn1 hn2 hks hlw hKe hfl
            generalize ks[k]'hka = x at *
            go_wp2_with fail
            go_region_held3 (fun w' => w'.cell? ⟨w.heap.size, 3, none⟩ = some (.slice (some ⟨g1, o1, none⟩) c1 ck1) ∧ w'.cell? ⟨g1, o1 + k * 5, none⟩ = some (.string ⟨nm.toArray⟩) ∧ w'.cell? ⟨g1, o1 + k * 5 + 1, none⟩ = some (.int .i64 x.pos) ∧ w'.cell? ⟨g1, o1 + k * 5 + 2, none⟩ = some (.slice pa3 x.attrs.length ca3) ∧ w'.cell? ⟨g1, o1 + k * 5 + 3, none⟩ = some (.slice pk3 x.kids.length ck3) ∧ w'.cell? ⟨g1, o1 + k * 5 + 4, none⟩ = some (.string ⟨x.text.toArray⟩) ∧ w'.cell? ⟨g2, o2 + K * 5, none⟩ = some (.string ⟨nm.toArray⟩) ∧ w'.cell? ⟨g2, o2 + K * 5 + 1, none⟩ = some (.int .i64 x.pos) ∧ w'.cell? ⟨g2, o2 + K * 5 + 2, none⟩ = some (.slice pa4 x.attrs.length ca4) ∧ w'.cell? ⟨g2, o2 + K * 5 + 3, none⟩ = some (.slice pk4 x.kids.length ck4) ∧ w'.cell? ⟨g2, o2 + K * 5 + 4, none⟩ = some (.string ⟨x.text.toArray⟩)) (first | exact ⟨e3, a0, a1, a2, a3, a4, z0, z1, z2, z3, z4⟩ | exact ⟨f3, x0, x1, x2, x3, x4, y0, y1, y2, y3, y4⟩) (first | (go_at_call 42; refine (HCL.out _ HR2.out.1.drew).mono ?_; rintro en w5 ⟨rfl, b5⟩; have f3 := cell_keep (w := wr.drew) b5 e3; have x0 := cell_keep (w := wr.drew) b5 a0; have x1 := cell_keep (w := wr.drew) b5 a1; have x2 := cell_keep (w := wr.drew) b5 a2; have x3 := cell_keep (w := wr.drew) b5 a3; have x4 := cell_keep (w := wr.drew) b5 a4; have y0 := cell_keep (w := wr.drew) b5 z0; have y1 := cell_keep (w := wr.drew) b5 z1; have y2 := cell_keep (w := wr.drew) b5 z2; have y3 := cell_keep (w := wr.drew) b5 z3; have y4 := cell_keep (w := wr.drew) b5 z4))
            go_wp2_with fail
            go_roundg (c1 - (k + 1))
            case measure => have := HR2.out.2.1; omega
            case rel => exact ⟨HR2.out.1.drew.trans (b5.mono HR2.out.1.size), k + 1, by omega, rfl, by go_num, by rw [HR2.out.2.2]; go_num⟩
          · have hh := filt_skip hka hx
            have hxb : ((ks[k]'hka).name == nm) = false := by rw [beq_eq_false_iff_ne]; exact hx
            generalize (ks[k]'hka).name = xn at *
            have HR2 := Lib.hid (And.intro hbi (And.intro hg hh)); clear hbi hg hh hn1 hlw hx
            go_wp2_with fail
            go_roundg (c1 - (k + 1))
            case measure => have := HR2.out.2.1; omega
            case rel => exact ⟨HR2.out.1, k + 1, by omega, rfl, by go_num, by rw [HR2.out.2.2]⟩
        · obtain rfl : c1 = k := by omega
          have hkI : decide ((c1 : Int) < (c1 : Int)) = false := by simp
          rw [HK.out.2.2.2.2, filt_all, ← HL.out, ← HK.out.2.2.2.2]
          have hN := H4.out.1.below hbi
          have kN := H4.out.2.1.below hbi
          have hlw : Below w.heap.size w wr := H4.out.2.2.1.trans (hbi.mono H4.out.2.2.1.size)
          clear e3
          have q0 := hN.c0
          have q1 := hN.c1
          have q2 := hN.c2
          have q3 := hN.c3
          have q4 := hN.c4
          have q5 := kN.c0
          have q6 := kN.c1
          have q7 := kN.c2
          have q8 := kN.c3
          have q9 := kN.c4
          have HQ := Lib.hid (And.intro hN (And.intro kN hlw)); clear hbi hg hN kN hlw
          go_wp2_with fail
          go_region_held3 (fun w' => w'.cell? ⟨w.heap.size, 0, none⟩ = some (.string ⟨N1.toArray⟩) ∧ w'.cell? ⟨w.heap.size, 1, none⟩ = some (.int .i64 P1) ∧ w'.cell? ⟨w.heap.size, 2, none⟩ = some (.slice pa1 l1 ca1) ∧ w'.cell? ⟨w.heap.size, 3, none⟩ = some (.slice pk1 c1 ck1) ∧ w'.cell? ⟨w.heap.size, 4, none⟩ = some (.string ⟨T1.toArray⟩) ∧ w'.cell? ⟨w.heap.size + 1, 0, none⟩ = some (.string ⟨N2.toArray⟩) ∧ w'.cell? ⟨w.heap.size + 1, 1, none⟩ = some (.int .i64 P2) ∧ w'.cell? ⟨w.heap.size + 1, 2, none⟩ = some (.slice pa2 l2 ca2) ∧ w'.cell? ⟨w.heap.size + 1, 3, none⟩ = some (.slice pk2 c2 ck2) ∧ w'.cell? ⟨w.heap.size + 1, 4, none⟩ = some (.string ⟨T2.toArray⟩)) (first | exact ⟨q0, q1, q2, q3, q4, q5, q6, q7, q8, q9⟩ | exact ⟨r0, r1, r2, r3, r4, r5, r6, r7, r8, r9⟩ | exact ⟨s0, s1, s2, s3, s4, s5, s6, s7, s8, s9⟩ | exact ⟨t0, t1, t2, t3, t4, t5, t6, t7, t8, t9⟩) (first
            | (go_at_call 34; refine (awt_c _ (HW.out.below HQ.out.2.2.drew)).mono ?_; rintro en w5 ⟨rfl, b5⟩; have h5 := Nd5.below (w := wr.drew) HQ.out.1 b5; have k5 := Nd5.below (w := wr.drew) HQ.out.2.1 b5; have c5 := HQ.out.2.2.drew.trans (b5.mono HQ.out.2.2.size); have r0 := h5.c0; have r1 := h5.c1; have r2 := h5.c2; have r3 := h5.c3; have r4 := h5.c4; have r5 := k5.c0; have r6 := k5.c1; have r7 := k5.c2; have r8 := k5.c3; have r9 := k5.c4; have H5 := Lib.hid (And.intro h5 k5); clear h5 k5 b5)
            | (go_at_call 39; refine (HC.out.2.2.2.2.1 _ c5).mono ?_; rintro en w6 ⟨rfl, b6⟩; have h6 := H5.out.1.below b6; have k6 := H5.out.2.below b6; have c6 := c5.trans (b6.mono c5.size); have s0 := h6.c0; have s1 := h6.c1; have s2 := h6.c2; have s3 := h6.c3; have s4 := h6.c4; have s5 := k6.c0; have s6 := k6.c1; have s7 := k6.c2; have s8 := k6.c3; have s9 := k6.c4; have H6 := Lib.hid (And.intro h6 k6); clear h6 k6 b6)
            | (go_at_call 38; refine (HC.out.2.2.2.2.2 _ c6).mono ?_; rintro en w7 ⟨rfl, b7⟩; have h7 := H6.out.1.below b7; have k7 := H6.out.2.below b7; have c7 := c6.trans (b7.mono c6.size); have t0 := h7.c0; have t1 := h7.c1; have t2 := h7.c2; have t3 := h7.c3; have t4 := h7.c4; have t5 := k7.c0; have t6 := k7.c1; have t7 := k7.c2; have t8 := k7.c3; have t9 := k7.c4; clear h7 k7 b7))
          go_wp2_with fail
          go_ret
          exact ⟨rfl, c7⟩
end Go.Proofs.YtcicibeggkmlcaaGreatDoor
