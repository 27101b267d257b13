/- The walk of awake of the laws of trees, and how great trees of a bulk are. Conditions: the tables lie as they are laid. -/
import Derived.Test.YtcicibeggkmlcaaGreatDoorTrH
import Derived.Test.YtcicibeggkmlcaaGreatDoorTrMJ3
import Derived.Test.YtcicibeggkmlcaaGreatDoorPlW
import Derived.Test.YtcicibeggkmlcaaGreatDoorCdT
namespace Go.Proofs.YtcicibeggkmlcaaGreatDoor
open Go.RowKit Go.Sof

theorem ndsz_of (n : PNode) (h : nBulk n ≤ 1048576) : NdSz n := ⟨by have := nBulk_size n; omega, fun d k l hl m hm => mkSz_of m (Nat.le_trans (tmk_bulk n d k l hl m hm) h)⟩
mutual
theorem nBulk_asize : ∀ n : PNode, asize n ≤ nBulk n
  | .mk nm ps ats ks tx => by
    rw [nBulk, asize]; have := nBulkL_asize ks; have := sum_len aBulk (fun a => by unfold aBulk; omega) ats; omega
theorem nBulkL_asize : ∀ ks : List PNode, asizeL ks ≤ nBulkL ks
  | [] => by simp [asizeL, nBulkL]
  | n :: r => by rw [nBulkL, asizeL]; have := nBulk_asize n; have := nBulkL_asize r; omega
end
theorem awN_bulk : nBulk awN ≤ 1048576 := of_decide_eq_true (by kernel_rfl)

set_option maxRecDepth 1000000 in
set_option maxHeartbeats 4000000 in
theorem awt_c (w : World) (h : WOK w) : Calls Tryz.prog 34 #[] w fun e w' => e = .returned (.bool true) ∧ Below w.heap.size w w' := by
  have hc := parse_c w ⟨#[32, 60, 97, 32, 98, 61, 34, 49, 34, 62, 32, 60, 99, 62, 120, 60, 47, 99, 62, 32, 60, 47, 97, 62, 32]⟩ (by decide) h
  rw [show (ByteArray.mk #[32, 60, 97, 32, 98, 61, 34, 49, 34, 62, 32, 60, 99, 62, 120, 60, 47, 99, 62, 32, 60, 47, 97, 62, 32]).data.toList = awS from rfl, aw_parse] at hc
  have HC := Lib.hid hc; have HW := Lib.hid h; clear hc h
  go_enter Tryz.func34, Tryz.ntmps34
  go_upto_region 2 with (first
    | (go_at_call 37; refine HC.out.mono ?_; rintro en w1 ⟨⟨pa, ca, pk, ck, rfl, dn, hn⟩, b1⟩; rw [show nodeV awN pa ca pk ck = .agg #[.string ⟨#[97]⟩, .int .i64 1, .slice pa 1 ca, .slice pk 1 ck, .string ⟨#[]⟩] from rfl] at hn ⊢; have H1 := Lib.hid (And.intro hn b1); clear hn))
  obtain ⟨wA, hwA⟩ : ∃ wA, wA = w1.alloc (.cells #[.string ⟨#[97]⟩, .int .i64 1, .slice pa 1 ca, .slice pk 1 ck, .string ⟨#[]⟩] 47) := ⟨_, rfl⟩
  rw [← hwA]
  have hE : Nd5 wA w1.heap.size [97] 1 (.slice pa 1 ca) (.slice pk 1 ck) [] := by rw [hwA]; exact Nd5.new w1 [97] 1 _ _ []
  have hB : Below w1.heap.size w1 wA := by rw [hwA]; exact (Below.refl _ w1).alloc (Nat.le_refl _) _
  have hB1 : Below w.heap.size w wA := b1.trans (hB.mono b1.size)
  have hz := ndsz_of _ awN_bulk
  have hz1 : tsize awN ≤ 4194304 := by have := hz.1; omega
  have hz2 : asize awN ≤ 4194304 := by have := nBulk_asize awN; have := awN_bulk; omega
  have ht : ∀ W, Below w1.heap.size w1 W → WOK W → Calls Tryz.prog 35 #[.agg #[.string ⟨#[97]⟩, .int .i64 1, .slice pa 1 ca, .slice pk 1 ck, .string ⟨#[]⟩]] W fun en w' => en = .returned (.tuple #[.string ⟨#[60, 97, 32, 98, 61, 34, 49, 34, 62, 60, 99, 62, 120, 60, 47, 99, 62, 60, 47, 97, 62]⟩, .int .i64 0]) ∧ Below W.heap.size W w' := fun W hW hWW =>
    (ttext_c w1 _ dn awN _ H1.out.1 hz W hW hWW _ aw_text).mono fun en w' h => ⟨h.1, h.2⟩
  have ha : ∀ W, Below w1.heap.size w1 W → Calls Tryz.prog 40 #[.agg #[.string ⟨#[97]⟩, .int .i64 1, .slice pa 1 ca, .slice pk 1 ck, .string ⟨#[]⟩], .string ⟨#[98]⟩] W fun en w' => en = .returned (.tuple #[.string ⟨#[49]⟩, .bool true]) ∧ Below W.heap.size W w' := fun W hW =>
    (attr_get_c w1 _ dn awN _ H1.out.1 (by decide) W hW [98]).mono fun en w' h => ⟨h.1, h.2⟩
  have hf : ∀ W, Below w1.heap.size w1 W → Calls Tryz.prog 41 #[.agg #[.string ⟨#[97]⟩, .int .i64 1, .slice pa 1 ca, .slice pk 1 ck, .string ⟨#[]⟩], .string ⟨#[99]⟩] W fun en w' => (∃ pf cf, en = .returned (.slice pf 1 cf)) ∧ Below W.heap.size W w' := fun W hW =>
    (find_c w1 _ dn awN _ H1.out.1 hz1 hz2 W hW [99]).mono fun en w' h => ⟨by obtain ⟨⟨pf, cf, d, e, _⟩, _⟩ := h; exact ⟨pf, cf, e⟩, h.2⟩
  have q0 := hE.c0; have q1 := hE.c1; have q2 := hE.c2; have q3 := hE.c3; have q4 := hE.c4
  have HA := Lib.hid (And.intro hE (And.intro hB (And.intro hB1 (And.intro ht (And.intro ha hf))))); clear hE hB hB1 ht ha hf hwA hz hz1 hz2 H1
  go_wp2_with (first
    | (go_at_call 35; refine (HA.out.2.2.2.1 _ HA.out.2.1 (HW.out.below HA.out.2.2.1)).mono ?_; rintro en w2 ⟨rfl, b2⟩; have h2 := HA.out.1.below b2; have r0 := h2.c0; have r1 := h2.c1; have r2 := h2.c2; have r3 := h2.c3; have r4 := h2.c4; have H2 := Lib.hid h2; have c2 := HA.out.2.1.trans (b2.mono HA.out.2.1.size); have e2 := HA.out.2.2.1.trans (b2.mono HA.out.2.2.1.size); clear h2 b2)
    | (go_at_call 40; refine (HA.out.2.2.2.2.1 _ c2).mono ?_; rintro en w3 ⟨rfl, b3⟩; have h3 := H2.out.below b3; have s0 := h3.c0; have s1 := h3.c1; have s2 := h3.c2; have s3 := h3.c3; have s4 := h3.c4; have c3 := c2.trans (b3.mono c2.size); have e3 := e2.trans (b3.mono e2.size); clear h3 b3)
    | (go_at_call 41; refine (HA.out.2.2.2.2.2 _ c3).mono ?_; rintro en w4 ⟨⟨pf, cf, rfl⟩, b4⟩; have e4 := e3.trans (b4.mono e3.size); clear b4))
  go_ret
  exact ⟨rfl, e4⟩
end Go.Proofs.YtcicibeggkmlcaaGreatDoor
