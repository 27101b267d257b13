/- The walk of the reference's Places, at one tree that lies in memory twice. Conditions: the tree lies in memory twice. -/
import Derived.Test.YtcicibeggkmlcaaGreatDoorSaA
namespace Go.Proofs.YtcicibeggkmlcaaGreatDoor
open Go.RowKit Go.Sof

set_option maxRecDepth 1000000 in
set_option maxHeartbeats 8000000 in
theorem rplaces_c (w0 : World) (Q Q' : Nat → Prop) : ∀ (dd : Nat) (n : PNode) (v v' : Value), NodeD w0 Q dd v n → (∃ d', NodeD w0 Q' d' v' n) → tsize n ≤ 4194304 → asize n ≤ 4194304 → ∀ (w : World), Below w0.heap.size w0 w →
    Calls Tryz.prog 42 #[v, v'] w fun en w' => en = .returned (.bool true) ∧ Below w.heap.size w w' := by
  intro dd
  induction dd with
  | zero => intro n v v' h; exact False.elim h
  | succ dd ih =>
    intro n v v' h h' hz hza w hlow
    have hsame := fun W hW => rsame_c w0 Q Q' (dd + 1) n n v v' h h' hz hza W hW
    simp only [sameB_refl] at hsame
    obtain ⟨d', h'⟩ := h'
    have hd1 : ∃ d, d' = d + 1 := by cases d' with
      | zero => exact False.elim h'
      | succ d => exact ⟨d, rfl⟩
    obtain ⟨d', rfl⟩ := hd1
    obtain ⟨pa1, ca1, pk1, ck1, rfl, _, _, hA1, hK1⟩ := h
    obtain ⟨pa2, ca2, pk2, ck2, rfl, _, _, hA2, hK2⟩ := h'
    obtain ⟨nm1, ps1, as1, ks1, tx1⟩ := n
    simp only [PNode.kids, PNode.attrs] at hA1 hA2 hK1 hK2
    have hz2 : tsize (.mk nm1 ps1 as1 ks1 tx1) = 1 + tsizeL ks1 := by rw [tsize]
    have hkl := tsizeL_len ks1
    have hks : ∀ k ∈ ks1, tsize k ≤ 4194304 ∧ asize k ≤ 4194304 := fun k hk => ⟨tsize_kids hz hk, asize_kids hza hk⟩
    obtain ⟨c1, hc1⟩ : ∃ c, c = ks1.length := ⟨_, rfl⟩
    obtain ⟨l1, hl1⟩ : ∃ l, l = as1.length := ⟨_, rfl⟩
    have hcl : c1 ≤ 4194304 := by omega
    have hsame2 : ∀ W, Below w0.heap.size w0 W → Calls Tryz.prog 38 #[.agg #[.string ⟨nm1.toArray⟩, .int .i64 ps1, .slice pa1 as1.length ca1, .slice pk1 ks1.length ck1, .string ⟨tx1.toArray⟩], .agg #[.string ⟨nm1.toArray⟩, .int .i64 ps1, .slice pa2 as1.length ca2, .slice pk2 ks1.length ck2, .string ⟨tx1.toArray⟩]] W fun en w' => en = .returned (.bool true) ∧ Below W.heap.size W w' := hsame
    show Calls Tryz.prog 42 #[.agg #[.string ⟨nm1.toArray⟩, .int .i64 ps1, .slice pa1 as1.length ca1, .slice pk1 ks1.length ck1, .string ⟨tx1.toArray⟩], .agg #[.string ⟨nm1.toArray⟩, .int .i64 ps1, .slice pa2 as1.length ca2, .slice pk2 ks1.length ck2, .string ⟨tx1.toArray⟩]] w _
    rw [← hc1, ← hl1] at hsame2 ⊢
    clear hz hza hz2 hkl hsame
    obtain ⟨wB, hwB⟩ : ∃ wB, wB = ((w.alloc (.cells #[.string ⟨nm1.toArray⟩, .int .i64 ps1, .slice pa1 l1 ca1, .slice pk1 c1 ck1, .string ⟨tx1.toArray⟩] 47)).alloc (.cells #[.string ⟨nm1.toArray⟩, .int .i64 ps1, .slice pa2 l1 ca2, .slice pk2 c1 ck2, .string ⟨tx1.toArray⟩] 47)) := ⟨_, rfl⟩
    have hB2 : Below w.heap.size w wB := by rw [hwB]; exact ((Below.refl _ w).alloc (Nat.le_refl _) _).alloc (by simp) _
    have hE2 : Nd5 wB (w.heap.size + 1) nm1 ps1 (.slice pa2 l1 ca2) (.slice pk2 c1 ck2) tx1 := by
      have := Nd5.new (w.alloc (.cells #[.string ⟨nm1.toArray⟩, .int .i64 ps1, .slice pa1 l1 ca1, .slice pk1 c1 ck1, .string ⟨tx1.toArray⟩] 47)) nm1 ps1 (.slice pa2 l1 ca2) (.slice pk2 c1 ck2) tx1
      rw [show (w.alloc (.cells #[.string ⟨nm1.toArray⟩, .int .i64 ps1, .slice pa1 l1 ca1, .slice pk1 c1 ck1, .string ⟨tx1.toArray⟩] 47)).heap.size = w.heap.size + 1 from by simp, ← hwB] at this
      exact this
    have hE1 : Nd5 wB w.heap.size nm1 ps1 (.slice pa1 l1 ca1) (.slice pk1 c1 ck1) tx1 := by
      rw [hwB]
      exact (Nd5.new w nm1 ps1 (.slice pa1 l1 ca1) (.slice pk1 c1 ck1) tx1).below ((Below.refl _ _).alloc (Nat.le_refl _) _)
    have HB := Lib.hid (And.intro hE1 (And.intro hE2 hB2))
    have HLB := Lib.hid (show Below w0.heap.size w0 wB from hlow.trans (hB2.mono hlow.size))
    have hs1 := hsame2 wB HLB.out
    have HK := Lib.hid (And.intro hK1 hK2); have HI := Lib.hid ih; have HS := Lib.hid hks; have HC := Lib.hid hc1; have HM := Lib.hid (And.intro hs1 hwB)
    clear hE1 hE2 hB2 hA1 hA2 hK1 hK2 ih hlow hks hc1 hl1 hs1 hsame2 hwB
    go_enter Tryz.func42, Tryz.ntmps42
    go_wp2_with (first
      | (go_at_call 38; rw [← HM.out.2]; refine HM.out.1.mono ?_; rintro en w1 ⟨rfl, b1⟩))
    go_loopg [5] c1 (fun g i wr => Below wB.heap.size wB wr ∧ ∃ k : Nat, k ≤ c1 ∧ g = c1 - k ∧ i = .int .i64 k)
    case atStart => exact ⟨b1, 0, Nat.zero_le _, rfl, rfl⟩
    case round =>
      obtain ⟨hbi, t, ht, hgi, rfl⟩ := hrel
      have g1 := (HB.out.1.below hbi).c3; have g2 := (HB.out.2.1.below hbi).c3
      by_cases hti : t < c1
      · have htI : (t : Int) < (c1 : Int) := by omega
        have ht1 : t < ks1.length := by have := HC.out; omega
        have hlw : Below w0.heap.size w0 wr := HLB.out.trans (hbi.mono HLB.out.size)
        obtain ⟨b1, o1, pa3, ca3, pk3, ck3, rfl, _, s0, s1, s2, s3, s4, hn1⟩ := HK.out.1.get t ht1
        obtain ⟨b2, o2, pa4, ca4, pk4, ck4, rfl, _, r0, r1, r2, r3, r4, hn2⟩ := HK.out.2.get t ht1
        have a0 := cell_keep hlw s0; have a1 := cell_keep hlw s1; have a2 := cell_keep hlw s2; have a3 := cell_keep hlw s3; have a4 := cell_keep hlw s4
        have z0 := cell_keep hlw r0; have z1 := cell_keep hlw r1; have z2 := cell_keep hlw r2; have z3 := cell_keep hlw r3; have z4 := cell_keep hlw r4
        clear s0 s1 s2 s3 s4 r0 r1 r2 r3 r4
        have hks := HS.out _ (List.getElem_mem ht1)
        have hcall := fun W hW => HI.out _ _ _ hn1 ⟨_, hn2⟩ hks.1 hks.2 W hW
        unfold nodeV at hcall
        generalize ks1[t]'ht1 = x1 at *
        have HQ := Lib.hid (And.intro hbi (And.intro hgi hlw)); have HCL := Lib.hid hcall; clear hbi hgi hcall hn1 hn2 hks hlw
        go_wp2_with fail
        go_region_held3 (fun w' => w'.cell? ⟨w.heap.size, 3, none⟩ = some (.slice (some ⟨b1, o1, none⟩) c1 ck1) ∧ w'.cell? ⟨w.heap.size + 1, 3, none⟩ = some (.slice (some ⟨b2, o2, none⟩) c1 ck2) ∧ w'.cell? ⟨b1, o1 + t * 5, none⟩ = some (.string ⟨x1.name.toArray⟩) ∧ w'.cell? ⟨b1, o1 + t * 5 + 1, none⟩ = some (.int .i64 x1.pos) ∧ w'.cell? ⟨b1, o1 + t * 5 + 2, none⟩ = some (.slice pa3 x1.attrs.length ca3) ∧ w'.cell? ⟨b1, o1 + t * 5 + 3, none⟩ = some (.slice pk3 x1.kids.length ck3) ∧ w'.cell? ⟨b1, o1 + t * 5 + 4, none⟩ = some (.string ⟨x1.text.toArray⟩) ∧ w'.cell? ⟨b2, o2 + t * 5, none⟩ = some (.string ⟨x1.name.toArray⟩) ∧ w'.cell? ⟨b2, o2 + t * 5 + 1, none⟩ = some (.int .i64 x1.pos) ∧ w'.cell? ⟨b2, o2 + t * 5 + 2, none⟩ = some (.slice pa4 x1.attrs.length ca4) ∧ w'.cell? ⟨b2, o2 + t * 5 + 3, none⟩ = some (.slice pk4 x1.kids.length ck4) ∧ w'.cell? ⟨b2, o2 + t * 5 + 4, none⟩ = some (.string ⟨x1.text.toArray⟩)) (first | exact ⟨g1, g2, a0, a1, a2, a3, a4, z0, z1, z2, z3, z4⟩ | exact ⟨j1, j2, x0', x1', x2', x3', x4', y0', y1', y2', y3', y4'⟩) (first | (go_at_call 42; refine (HCL.out _ HQ.out.2.2.drew).mono ?_; rintro en w2 ⟨rfl, b2⟩; have j1 := cell_keep (w := wr.drew) b2 g1; have j2 := cell_keep (w := wr.drew) b2 g2; have x0' := cell_keep (w := wr.drew) b2 a0; have x1' := cell_keep (w := wr.drew) b2 a1; have x2' := cell_keep (w := wr.drew) b2 a2; have x3' := cell_keep (w := wr.drew) b2 a3; have x4' := cell_keep (w := wr.drew) b2 a4; have y0' := cell_keep (w := wr.drew) b2 z0; have y1' := cell_keep (w := wr.drew) b2 z1; have y2' := cell_keep (w := wr.drew) b2 z2; have y3' := cell_keep (w := wr.drew) b2 z3; have y4' := cell_keep (w := wr.drew) b2 z4))
        go_wp2_with fail
        go_roundg (c1 - (t + 1))
        case measure => have := HQ.out.2.1; omega
        case rel => exact ⟨HQ.out.1.drew.trans (b2.mono HQ.out.1.size), t + 1, by omega, rfl, by go_num⟩
      · obtain rfl : t = c1 := by omega
        have hkI2 : decide ((t : Int) < (t : Int)) = false := by simp
        have HQ := Lib.hid hbi; clear hbi hgi
        go_wp2_with fail
        go_ret
        exact ⟨rfl, HB.out.2.2.trans (HQ.out.mono HB.out.2.2.size)⟩
end Go.Proofs.YtcicibeggkmlcaaGreatDoor
