/- The walk of the law TreeBack. Conditions: the tables lie as they are laid; the tree lies in memory and is no greater than a bulk. -/
import Derived.Test.YtcicibeggkmlcaaGreatDoorTrO
import Derived.Test.YtcicibeggkmlcaaGreatDoorSaB
namespace Go.Proofs.YtcicibeggkmlcaaGreatDoor
open Go.RowKit Go.Sof

theorem textF_err : ∀ (ms : List PMark) (out : Bytes) (full : Bool) (e : Int), textF ms out full = .error e → e ≠ 0
  | [], out, full, e, h => by
    unfold textF at h
    split at h <;> first | (simp only [Except.error.injEq] at h; omega) | simp at h
  | m :: r, out, full, e, h => by
    unfold textF at h
    split at h
    · simp only [Except.error.injEq] at h; omega
    · split at h
      · exact textF_err r _ _ e h
      · exact textF_err r _ _ e h
theorem textT_err (n : PNode) (e : Int) (h : textT n = .error e) : e ≠ 0 := by
  unfold textT at h
  split at h
  · simp only [Except.error.injEq] at h; omega
  · split at h
    · simp only [Except.error.injEq] at h; omega
    · exact textF_err _ _ _ e h

set_option maxRecDepth 1000000 in
set_option maxHeartbeats 4000000 in
theorem tback_c (w : World) (dd : Nat) (n : PNode) (v : Value) (hw : WOK w) (hn : NodeD w (fun _ => True) dd v n) (hz : NdSz n) (hza : asize n ≤ 4194304) :
    Calls Tryz.prog 13 #[v] w fun en w' => en = .returned (.bool true) ∧ Below w.heap.size w w' := by
  have hd1 : ∃ d, dd = d + 1 := by cases dd with
    | zero => exact False.elim hn
    | succ d => exact ⟨d, rfl⟩
  obtain ⟨d, rfl⟩ := hd1
  have hn0 := hn
  obtain ⟨pa, ca, pk, ck, hv, _, _, _, _⟩ := hn0
  subst hv
  unfold nodeV at hn ⊢
  have hzt : tsize n ≤ 4194304 := by have := hz.1; omega
  have hbig := fun W hW => big_c w _ _ n _ hn hzt W 1 500 hW (by decide) (by decide) (by decide)
  have htx := fun W hW hWW => ttext_c w _ _ n _ hn hz W hW hWW _ rfl
  have hts := fun (w0 : World) (hb : Below w.heap.size w w0) (n' : PNode) (v' : Value) (h' : NodeR w0 (fun _ => True) v' n') W hW => tsame_c w0 (fun _ => True) (fun _ => True) _ _ n n' _ v' (hn.below hb) h'.choose_spec hzt hza W hW
  have hrs := fun (w0 : World) (hb : Below w.heap.size w w0) (n' : PNode) (v' : Value) (h' : NodeR w0 (fun _ => True) v' n') W hW => rsame_c w0 (fun _ => True) (fun _ => True) _ n n' _ v' (hn.below hb) h' hzt hza W hW
  have hbk := text_back n
  have her := textT_err n
  have hsi := fun n' => (sameB_iff n n').2
  generalize bigP n 1 500 = B at *
  obtain ⟨X, hX⟩ : ∃ X, X = textT n := ⟨_, rfl⟩
  rw [← hX] at htx hbk her
  generalize n.name = N at *
  generalize n.pos = P at *
  obtain ⟨al, hal⟩ : ∃ k, k = n.attrs.length := ⟨_, rfl⟩
  obtain ⟨kl, hkl⟩ : ∃ k, k = n.kids.length := ⟨_, rfl⟩
  rw [← hal, ← hkl] at hbig htx hts hrs ⊢
  generalize n.text = T at *
  have hE := Nd5.new w N P (.slice pa al ca) (.slice pk kl ck) T
  have hB0 : Below w.heap.size w (w.alloc (.cells #[.string ⟨N.toArray⟩, .int .i64 P, .slice pa al ca, .slice pk kl ck, .string ⟨T.toArray⟩] 47)) := (Below.refl _ w).alloc (Nat.le_refl _) _
  by_cases hB : B < 0
  · have HC := Lib.hid hbig; have HW := Lib.hid hw; have H0 := Lib.hid (And.intro hE hB0); clear hbig hw hE hB0 htx hts hrs hbk her hsi hX hn hz hzt hza hal hkl
    go_enter Tryz.func13, Tryz.ntmps13
    go_wp2_with (first
      | (go_at_call 33; refine (HC.out _ H0.out.2).mono ?_; rintro en w1 ⟨rfl, b1'⟩; have b1 := H0.out.2.trans (b1'.mono H0.out.2.size); clear b1')
      | (go_at_call 34; refine (awt_c _ (HW.out.below b1)).mono ?_; rintro en w2 ⟨rfl, b2'⟩; have b2 := b1.trans (b2'.mono b1.size); clear b2'))
    go_ret
    exact ⟨rfl, b2⟩
  · have hBI : decide (B < 0) = false := decide_eq_false hB
    cases X with
    | error e =>
      have he := her e rfl
      have he1 : (e == 0) = false := by rw [beq_eq_false_iff_ne]; exact he
      have he2 : (e != 0) = true := by unfold bne; rw [he1]; rfl
      have HC := Lib.hid (And.intro hbig htx); have HW := Lib.hid hw; have H0 := Lib.hid (And.intro hE hB0); clear hbig hw hE hB0 htx hts hrs hbk her hsi hX hn hz hzt hza hal hkl he
      go_enter Tryz.func13, Tryz.ntmps13
      go_wp2_with (first
        | (go_at_call 33; refine (HC.out.1 _ H0.out.2).mono ?_; rintro en w1 ⟨rfl, b1'⟩; have h1 := H0.out.1.below b1'; have q0 := h1.c0; have q1 := h1.c1; have q2 := h1.c2; have q3 := h1.c3; have q4 := h1.c4; have b1 := H0.out.2.trans (b1'.mono H0.out.2.size); have H1 := Lib.hid h1; clear b1' h1)
        | (go_at_call 35; refine (HC.out.2 _ b1 (HW.out.below b1)).mono ?_; rintro en w2 ⟨rfl, b2'⟩; have b2 := b1.trans (b2'.mono b1.size); clear b2')
        | (go_at_call 34; first
            | (refine (awt_c _ (HW.out.below b3)).mono ?_; rintro en w4 ⟨rfl, b4'⟩; have b4 := b3.trans (b4'.mono b3.size); clear b4')
            | (refine (awt_c _ (HW.out.below b2)).mono ?_; rintro en w3 ⟨rfl, b3'⟩; have b3 := b2.trans (b3'.mono b2.size); clear b3')))
      go_ret
      exact ⟨rfl, b4⟩
    | ok S =>
      obtain ⟨hSl, n', hp, hst⟩ := hbk S rfl
      have hsm := hsi n' hst.symm
      have hpc := fun W hW => parse_c W ⟨S.toArray⟩ (by show S.toArray.size ≤ _; rw [List.size_toArray]; omega) hW
      simp only [hp] at hpc
      have hts2 := fun (w0 : World) (hb : Below w.heap.size w w0) (v' : Value) (h' : NodeR w0 (fun _ => True) v' n') W hW => hts w0 hb n' v' h' W hW
      have hrs2 := fun (w0 : World) (hb : Below w.heap.size w w0) (v' : Value) (h' : NodeR w0 (fun _ => True) v' n') W hW => hrs w0 hb n' v' h' W hW
      rw [hsm] at hts2 hrs2
      have HC := Lib.hid (And.intro hbig (And.intro htx (And.intro hpc (And.intro hts2 hrs2)))); have HW := Lib.hid hw; have H0 := Lib.hid (And.intro hE hB0); clear hbig hw hE hB0 htx hts hrs hbk her hsi hX hn hz hzt hza hal hkl hpc hts2 hrs2 hsm hst hp hSl
      go_enter Tryz.func13, Tryz.ntmps13
      go_upto_region 7 with (first
        | (go_at_call 33; refine (HC.out.1 _ H0.out.2).mono ?_; rintro en w1 ⟨rfl, b1'⟩; have h1 := H0.out.1.below b1'; have q0 := h1.c0; have q1 := h1.c1; have q2 := h1.c2; have q3 := h1.c3; have q4 := h1.c4; have b1 := H0.out.2.trans (b1'.mono H0.out.2.size); have H1 := Lib.hid h1; clear b1' h1)
        | (go_at_call 35; refine (HC.out.2.1 _ b1 (HW.out.below b1)).mono ?_; rintro en w2 ⟨rfl, b2'⟩; have H2 := Lib.hid (H1.out.below b2'); have b2 := b1.trans (b2'.mono b1.size); clear b2')
        | (go_at_call 34; refine (awt_c _ (HW.out.below b2)).mono ?_; rintro en w3 ⟨rfl, b3'⟩; have H3 := Lib.hid (H2.out.below b3'); have b3 := b2.trans (b3'.mono b2.size); clear b3')
        | (go_at_call 37; refine (HC.out.2.2.1 _ (HW.out.below b3)).mono ?_; rintro en w4 ⟨⟨pm, cm, pj, cj, rfl, hnm⟩, b4'⟩; unfold nodeV at hnm ⊢; have H4 := Lib.hid (And.intro (H3.out.below b4') hnm); have b4 := b3.trans (b4'.mono b3.size); clear b4' hnm))
      obtain ⟨wA, hwA⟩ : ∃ wA, wA = w4.alloc (.cells #[.string ⟨n'.name.toArray⟩, .int .i64 n'.pos, .slice pm n'.attrs.length cm, .slice pj n'.kids.length cj, .string ⟨n'.text.toArray⟩] 47) := ⟨_, rfl⟩
      rw [← hwA]
      have hA : Nd5 wA w4.heap.size n'.name n'.pos (.slice pm n'.attrs.length cm) (.slice pj n'.kids.length cj) n'.text := by rw [hwA]; exact Nd5.new w4 _ _ _ _ _
      have hBA : Below w4.heap.size w4 wA := by rw [hwA]; exact (Below.refl _ w4).alloc (Nat.le_refl _) _
      have hN := H4.out.1.below hBA
      clear hwA q0 q1 q2 q3 q4
      have q0 := hN.c0; have q1 := hN.c1; have q2 := hN.c2; have q3 := hN.c3; have q4 := hN.c4
      have a0 := hA.c0; have a1 := hA.c1; have a2 := hA.c2; have a3 := hA.c3; have a4 := hA.c4
      have HA := Lib.hid (And.intro hN (And.intro hA hBA)); clear hN hA hBA
      go_wp2_with (first
        | (go_at_call 39; refine (HC.out.2.2.2.1 w4 b4 _ H4.out.2 _ HA.out.2.2).mono ?_; rintro en w5 ⟨rfl, b5⟩; have h5 := HA.out.1.below b5; have k5 := HA.out.2.1.below b5; have r0 := h5.c0; have r1 := h5.c1; have r2 := h5.c2; have r3 := h5.c3; have r4 := h5.c4; have s0 := k5.c0; have s1 := k5.c1; have s2 := k5.c2; have s3 := k5.c3; have s4 := k5.c4; have c5 := HA.out.2.2.trans (b5.mono HA.out.2.2.size); clear h5 k5 b5)
        | (go_at_call 38; refine (HC.out.2.2.2.2 w4 b4 _ H4.out.2 _ c5).mono ?_; rintro en w6 ⟨rfl, b6⟩; have c6 := c5.trans (b6.mono c5.size); clear b6))
      go_ret
      exact ⟨rfl, b4.trans (c6.mono b4.size)⟩
end Go.Proofs.YtcicibeggkmlcaaGreatDoor
