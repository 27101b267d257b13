/- The walk of the law TreeWrites. Conditions: the tables lie as they are laid; the tree lies in memory and is no greater than a bulk. -/
import Derived.Test.YtcicibeggkmlcaaGreatDoorTrO
import Derived.Test.YtcicibeggkmlcaaGreatDoorTrIJ3
namespace Go.Proofs.YtcicibeggkmlcaaGreatDoor
open Go.RowKit Go.Sof

theorem ttV (X : Except Int Bytes) : ∃ (S : ByteArray) (e : Int), ∀ en, TextPost X en → en = .returned (.tuple #[.string S, .int .i64 e]) := by
  cases X with
  | ok t => exact ⟨⟨t.toArray⟩, 0, fun en h => h⟩
  | error e => exact ⟨⟨#[]⟩, e, fun en h => h⟩

set_option maxRecDepth 1000000 in
set_option maxHeartbeats 4000000 in
theorem twrites_c (w : World) (dd : Nat) (n : PNode) (v : Value) (hw : WOK w) (hn : NodeD w (fun _ => True) dd v n) (hz : NdSz n) :
    Calls Tryz.prog 11 #[v] w fun en w' => en = .returned (.bool true) ∧ Below w.heap.size w w' := by
  have hd1 : ∃ d, dd = d + 1 := by cases dd with
    | zero => exact False.elim hn
    | succ d => exact ⟨d, rfl⟩
  obtain ⟨d, rfl⟩ := hd1
  have hn0 := hn
  obtain ⟨pa, ca, pk, ck, hv, _, _, _, _⟩ := hn0
  subst hv
  unfold nodeV at hn ⊢
  have hbig := fun W hW => big_c w _ _ n _ hn (by have := hz.1; omega) W 1 500 hW (by decide) (by decide) (by decide)
  have htx := fun W hW hWW => ttext_c w _ _ n _ hn hz W hW hWW _ rfl
  have hrt := fun h5 W hW => rttext_c w _ _ n _ hn hz h5 W hW _ rfl
  have hb5 := bigP_size n 1 500
  have heq := textT_eq n
  generalize bigP n 1 500 = B at *
  obtain ⟨S, e, hS⟩ := ttV (textT n)
  generalize n.name = N at *
  generalize n.pos = P at *
  obtain ⟨al, hal⟩ : ∃ k, k = n.attrs.length := ⟨_, rfl⟩
  obtain ⟨kl, hkl⟩ : ∃ k, k = n.kids.length := ⟨_, rfl⟩
  rw [← hal, ← hkl] at hbig htx hrt ⊢
  generalize n.text = T at *
  have hE := Nd5.new w N P (.slice pa al ca) (.slice pk kl ck) T
  have hB0 : Below w.heap.size w (w.alloc (.cells #[.string ⟨N.toArray⟩, .int .i64 P, .slice pa al ca, .slice pk kl ck, .string ⟨T.toArray⟩] 47)) := (Below.refl _ w).alloc (Nat.le_refl _) _
  by_cases hB : B < 0
  · have HC := Lib.hid hbig; have HW := Lib.hid hw; have H0 := Lib.hid (And.intro hE hB0); clear hbig hw hE hB0 htx hrt hb5 heq hS hn hz hal hkl
    go_enter Tryz.func11, Tryz.ntmps11
    go_wp2_with (first
      | (go_at_call 33; refine (HC.out _ H0.out.2).mono ?_; rintro en w1 ⟨rfl, b1'⟩; have b1 := H0.out.2.trans (b1'.mono H0.out.2.size); clear b1')
      | (go_at_call 34; refine (awt_c _ (HW.out.below b1)).mono ?_; rintro en w2 ⟨rfl, b2'⟩; have b2 := b1.trans (b2'.mono b1.size); clear b2'))
    go_ret
    exact ⟨rfl, b2⟩
  · have hBI : decide (B < 0) = false := decide_eq_false hB
    have h1 : ∀ W, Below w.heap.size w W → WOK W → Calls Tryz.prog 35 #[.agg #[.string ⟨N.toArray⟩, .int .i64 P, .slice pa al ca, .slice pk kl ck, .string ⟨T.toArray⟩]] W fun en w' => en = .returned (.tuple #[.string S, .int .i64 e]) ∧ Below W.heap.size W w' := fun W hW hWW => (htx W hW hWW).mono fun en w' h => ⟨hS en h.1, h.2⟩
    have h2 : ∀ W, Below w.heap.size w W → Calls Tryz.prog 36 #[.agg #[.string ⟨N.toArray⟩, .int .i64 P, .slice pa al ca, .slice pk kl ck, .string ⟨T.toArray⟩]] W fun en w' => en = .returned (.tuple #[.string S, .int .i64 e]) ∧ Below W.heap.size W w' := fun W hW => (hrt (by have := hb5 (by omega); omega) W hW).mono fun en w' h => ⟨hS en (by rw [← heq (by omega)]; exact h.1), h.2⟩
    have HC := Lib.hid (And.intro hbig (And.intro h1 h2)); have HW := Lib.hid hw; have H0 := Lib.hid (And.intro hE hB0); clear hbig hw hE hB0 htx hrt hb5 heq hS hn hz hal hkl h1 h2
    go_enter Tryz.func11, Tryz.ntmps11
    go_wp2_with (first
      | (go_at_call 33; refine (HC.out.1 _ H0.out.2).mono ?_; rintro en w1 ⟨rfl, b1'⟩; have h1 := H0.out.1.below b1'; have q0 := h1.c0; have q1 := h1.c1; have q2 := h1.c2; have q3 := h1.c3; have q4 := h1.c4; have b1 := H0.out.2.trans (b1'.mono H0.out.2.size); have H1 := Lib.hid h1; clear b1' h1)
      | (go_at_call 35; refine (HC.out.2.1 _ b1 (HW.out.below b1)).mono ?_; rintro en w2 ⟨rfl, b2'⟩; have h2 := H1.out.below b2'; have r0 := h2.c0; have r1 := h2.c1; have r2 := h2.c2; have r3 := h2.c3; have r4 := h2.c4; have b2 := b1.trans (b2'.mono b1.size); clear b2' h2)
      | (go_at_call 36; refine (HC.out.2.2 _ b2).mono ?_; rintro en w3 ⟨rfl, b3'⟩; have b3 := b2.trans (b3'.mono b2.size); clear b3')
      | (go_at_call 34; refine (awt_c _ (HW.out.below b3)).mono ?_; rintro en w4 ⟨rfl, b4'⟩; have b4 := b3.trans (b4'.mono b3.size); clear b4'))
    go_ret
    exact ⟨rfl, b4⟩
end Go.Proofs.YtcicibeggkmlcaaGreatDoor
