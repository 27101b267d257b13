/- The walk of the law MarkParts. Conditions: the tables lie as they are laid; the text has at most 2^31 bytes. -/
import Derived.Test.YtcicibeggkmlcaaDoorLmS
import Derived.Test.YtcicibeggkmlcaaDoorLmB
namespace Go.Proofs.YtcicibeggkmlcaaDoor
open Go.RowKit Go.Sof

theorem attrsP_count : ∀ (f : Nat) (l : Bytes) (c : Nat) (al : List PAttr) (al' : List PAttr) (c' : Nat), attrsP f l c al = .ok (al', c') → al'.length + c ≤ al.length + c'
  | 0, _, _, _, _, _, h => by simp [attrsP] at h
  | f + 1, l, c, al, al', c', h => by
    unfold attrsP at h
    split at h
    · simp only [Except.ok.injEq, Prod.mk.injEq] at h; obtain ⟨rfl, rfl⟩ := h; omega
    · cases ha : attrP (l.drop (c + skipN (l.drop c))) with
      | error x => rw [ha] at h; cases x with
        | none => simp at h
        | some x => obtain ⟨k, e⟩ := x; simp at h
      | ok x =>
        obtain ⟨a, n⟩ := x
        rw [ha] at h
        simp only at h
        have hn := (attrP_len ha).1
        split at h
        · simp at h
        · have := attrsP_count f _ _ _ _ _ h
          rw [List.length_append, List.length_singleton] at this
          omega
theorem tagP_count {l : Bytes} {m : PMark} {n : Nat} (h : tagP l = .ok (m, n)) : m.attrs.length ≤ n := by
  unfold tagP at h
  split at h
  · unfold closeP at h
    split at h
    · simp at h
    split at h
    · simp only [Except.ok.injEq, Prod.mk.injEq] at h; obtain ⟨rfl, rfl⟩ := h; simp
    · simp at h
  · unfold openP at h
    split at h
    · simp at h
    cases ha : attrsP 65537 l (1 + (nameP (l.drop 1)).length) [] with
    | error x => rw [ha] at h; simp at h
    | ok x =>
      obtain ⟨al, c⟩ := x
      rw [ha] at h
      simp only at h
      cases he : endP l c with
      | none => rw [he] at h; simp at h
      | some x =>
        obtain ⟨kd, n'⟩ := x
        rw [he] at h
        simp only [Except.ok.injEq, Prod.mk.injEq] at h
        obtain ⟨rfl, rfl⟩ := h
        have h1 := attrsP_count _ _ _ _ _ _ ha
        have h2 := (endP_take he n' (Nat.le_refl _)).2.1
        simp at h1 ⊢; omega
theorem stepP_count {l : Bytes} {m : PMark} {n : Nat} (h : stepP l = .ok (some m, n)) : m.attrs.length ≤ n := by
  unfold stepP at h
  split at h
  · obtain ⟨m', hx, hm⟩ := someM_ok h
    cases hm
    unfold charsP at hx
    split at hx
    · simp at hx
    · simp only [Except.ok.injEq, Prod.mk.injEq] at hx; obtain ⟨rfl, rfl⟩ := hx; simp
  split at h
  · have := (noneM_ok h).2; simp at this
  split at h
  · obtain ⟨m', hx, hm⟩ := someM_ok h
    cases hm
    unfold dataP at hx
    split at hx
    · simp at hx
    split at hx
    · simp at hx
    · simp only [Except.ok.injEq, Prod.mk.injEq] at hx; obtain ⟨rfl, rfl⟩ := hx; simp
  · obtain ⟨m', hx, hm⟩ := someM_ok h
    cases hm
    exact tagP_count hx
theorem marksP_count : ∀ (f : Nat) (l : Bytes) (p : Nat) (ms : List PMark), marksP f l p = .ok ms → ms.length ≤ l.length ∧ ∀ m ∈ ms, m.attrs.length ≤ l.length
  | 0, l, p, ms, h => by simp only [marksP, Except.ok.injEq] at h; subst h; simp
  | f + 1, l, p, ms, h => by
    by_cases hl : l = []
    · subst hl; rw [marksP_nil] at h; cases h; simp
    cases hs : stepP l with
    | error x => obtain ⟨k, e⟩ := x; rw [marksP_stop hl hs] at h; cases h
    | ok x =>
      obtain ⟨m, n⟩ := x
      obtain ⟨h1, h2, _⟩ := stepP_take hl hs
      rw [marksP_step hl hs] at h
      cases hr : marksP f (l.drop n) (p + n) with
      | error x => rw [hr] at h; simp at h
      | ok r =>
        rw [hr] at h
        simp only [Except.ok.injEq] at h
        obtain ⟨e1, e2⟩ := marksP_count f _ _ _ hr
        rw [List.length_drop] at e1 e2
        subst h
        cases m with
        | none => exact ⟨by show r.length ≤ _; omega, fun x hx => by have := e2 x hx; omega⟩
        | some m0 =>
          refine ⟨by show r.length + 1 ≤ _; omega, fun x hx => ?_⟩
          rcases List.mem_cons.1 hx with rfl | hx
          · have := stepP_count hs
            show m0.attrs.length ≤ _; omega
          · have := e2 x hx; omega
theorem marks_count {s : Bytes} {ms : List PMark} (h : marks s = .ok ms) : s.length ≤ 65536 ∧ ms.length ≤ 65536 ∧ ∀ m ∈ ms, m.attrs.length ≤ 65536 := by
  unfold marks at h
  split at h
  · simp at h
  · have := marksP_count _ _ _ _ h
    exact ⟨by omega, by omega, fun m hm => by have := this.2 m hm; omega⟩

def MarksAll (w : World) (g o : Nat) (ms : List PMark) : Prop := ∀ (i : Nat) (hi : i < ms.length), MarkAt w g (o + i * 5) (ms[i]'hi)
theorem MarksAll.below {w w' : World} {g o : Nat} {ms : List PMark} (h : MarksAll w g o ms) (hb : Below w.heap.size w w') : MarksAll w' g o ms := fun i hi => (h i hi).below hb
theorem MarksR.read {w : World} {g o c : Nat} {ms : List PMark} (h : ∀ (i : Nat) (hi : i < ms.length), MarkAt w g (o + i * 5) (ms[i]'hi)) (hc : ms.length ≤ c) : MarksR w (.slice (some ⟨g, o, none⟩) ms.length c) ms := .inr ⟨g, o, c, rfl, hc, h⟩
theorem MarksR.take {w : World} {g o c : Nat} {ms : List PMark} (h : ∀ (i : Nat) (hi : i < ms.length), MarkAt w g (o + i * 5) (ms[i]'hi)) (n : Nat) (hn : n ≤ ms.length) (hc : ms.length ≤ c) : MarksR w (.slice (some ⟨g, o, none⟩) n c) (ms.take n) := by
  refine .inr ⟨g, o, c, by rw [List.length_take, Nat.min_eq_left hn], by rw [List.length_take]; omega, fun i hi => ?_⟩
  rw [List.length_take] at hi
  rw [List.getElem_take]
  exact h i (by omega)
theorem MarksR.drop {w : World} {g o c : Nat} {ms : List PMark} (h : ∀ (i : Nat) (hi : i < ms.length), MarkAt w g (o + i * 5) (ms[i]'hi)) (n : Nat) (hn : n ≤ ms.length) (hc : ms.length ≤ c) : MarksR w (.slice (some ⟨g, o + n * 5, none⟩) (ms.length - n) (c - n)) (ms.drop n) := by
  refine .inr ⟨g, o + n * 5, c - n, by rw [List.length_drop], by rw [List.length_drop]; omega, fun i hi => ?_⟩
  rw [List.length_drop] at hi
  rw [List.getElem_drop, show o + n * 5 + i * 5 = o + (n + i) * 5 from by omega]
  exact h (n + i) (by omega)

set_option maxRecDepth 1000000 in
set_option maxHeartbeats 4000000 in
theorem mparts_c (w : World) (s : ByteArray) (hs : s.size ≤ 2147483648) (k : Nat) (hk : k < 256) (h : WOK w) : Calls Tryd.prog 3 #[.string s, .int .u8 k] w fun e w' => e = .returned (.bool true) ∧ Below w.heap.size w w' := by
  have hc := fun W hW => marks_c W s hs hW
  have HW := Lib.hid h; clear h
  cases hm : marks s.data.toList with
  | error x =>
    obtain ⟨j, e⟩ := x
    rw [hm] at hc
    have hne : e ≠ 0 := by
      rcases marks_places _ j e hm with ⟨h1, _⟩ | ⟨_, _, h1 | ⟨h1, _⟩⟩ <;> omega
    have he1 : (e == 0) = false := by rw [beq_eq_false_iff_ne]; exact hne
    have he2 : (e != 0) = true := by unfold bne; rw [he1]; rfl
    have HC := Lib.hid hc; clear hc hm hne
    go_enter Tryd.func3, Tryd.ntmps3
    go_wp2_with (first
      | (go_at_call 5; refine (HC.out _ HW.out).mono ?_; rintro en w1 ⟨rfl, b1⟩)
      | (go_at_call 6; first | (have gd := b2; clear gd; refine (awm_c _ (HW.out.below b2)).mono ?_; rintro en w3 ⟨rfl, b3'⟩; have b3 := b2.trans (b3'.mono b2.size); clear b3') | (refine (awm_c _ (HW.out.below b1)).mono ?_; rintro en w2 ⟨rfl, b2'⟩; have b2 := b1.trans (b2'.mono b1.size); clear b2')))
    go_ret
    exact ⟨rfl, b3⟩
  | ok ms =>
    rw [hm] at hc
    obtain ⟨hsz, hcnt, hac⟩ := marks_count hm
    rw [show s.data.toList.length = s.size from Array.length_toList] at hsz
    by_cases hz : ms = []
    · subst hz
      have HC := Lib.hid hc; clear hc hm
      go_enter Tryd.func3, Tryd.ntmps3
      go_wp2_with (first
        | (go_at_call 5; refine (HC.out _ HW.out).mono ?_; rintro en w1 ⟨⟨out, xs, rfl, ho, hmm⟩, b1⟩; obtain ⟨p1, c1, rfl, _⟩ := (marks_read ho hmm).form; clear ho hmm)
        | (go_at_call 6; first | (have gd := b2; clear gd; refine (awm_c _ (HW.out.below b2)).mono ?_; rintro en w3 ⟨rfl, b3'⟩; have b3 := b2.trans (b3'.mono b2.size); clear b3') | (refine (awm_c _ (HW.out.below b1)).mono ?_; rintro en w2 ⟨rfl, b2'⟩; have b2 := b1.trans (b2'.mono b1.size); clear b2')))
      go_ret
      exact ⟨rfl, b3⟩
    · have hL : 0 < ms.length := List.length_pos_iff.2 hz
      obtain ⟨n, hnn⟩ : ∃ n, n = k % ms.length := ⟨_, rfl⟩
      have hn : n < ms.length := by rw [hnn]; exact Nat.mod_lt _ hL
      obtain ⟨q, hq1, hq2, hq3, ms2, hq4, hq5⟩ := marks_parts s.data.toList (by rw [show s.data.toList.length = s.size from Array.length_toList]; exact hsz) ms hm _ hn
      rw [show s.data.toList.length = s.size from Array.length_toList] at hq2
      have hc2 := fun W hW => marks_c W (s.extract 0 q) (by simp; omega) hW
      have hc3 := fun W hW => marks_c W (s.extract q s.size) (by simp; omega) hW
      rw [ext_head, hq3] at hc2
      rw [Lib.extract_to_end, hq4] at hc3
      have hl2 : ms2.length = ms.length - n := by have := congrArg List.length hq5; rw [List.length_map, List.length_drop] at this; exact this
      have hs2 : ms2.map strip = (ms.drop n).map strip := by rw [← hq5, strip_addPos]
      have h0 : 0 < ms2.length := by omega
      have hp0 : (ms2[0]'h0).pos = 0 := by
        have e1 : (ms2.map (addPos q))[0]? = (ms.drop n)[0]? := by rw [hq5]
        rw [List.getElem?_map, List.getElem?_drop, Nat.add_zero, List.getElem?_eq_getElem h0, List.getElem?_eq_getElem hn] at e1
        simp only [Option.map_some, Option.some.injEq] at e1
        have := congrArg PMark.pos e1
        rw [hq1] at this
        simp only [addPos] at this
        omega
      have hac2 : ∀ m ∈ ms2, m.attrs.length ≤ 1048576 := fun m hm2 => by have := (marks_count hq4).2.2 m hm2; omega
      have hcnt2 : ms2.length ≤ 1048576 := by omega
      have hnI : (k : Int) % (ms.length : Int) = (n : Int) := by rw [hnn]; simp
      have hqI : (q : Int) ≤ (s.size : Int) := by omega
      have hlt1 : (ms.take n).length = n := by rw [List.length_take]; omega
      have k1 : ∀ W, WOK W → Calls Tryd.prog 5 #[.string s] W fun en w' => (∃ g o c, en = .returned (.tuple #[.slice (some ⟨g, o, none⟩) ms.length c, .int .i64 0, .int .i64 0]) ∧ ms.length ≤ c ∧ MarksAll w' g o ms ∧ w'.cell? ⟨g, o + n * 5 + 1, none⟩ = some (.int .i64 q)) ∧ Below W.heap.size W w' := by
        intro W hW
        refine (hc W hW).mono ?_
        rintro en w' ⟨⟨out, xs, rfl, ho, hmm⟩, b⟩
        rcases marks_read ho hmm with ⟨h00, _⟩ | ⟨g, o, c, rfl, hcap, hat⟩
        · exact absurd h00 hz
        · have z := (hat n hn).2.1
          rw [hq1] at z
          exact ⟨⟨g, o, c, rfl, hcap, hat, z⟩, b⟩
      have hlt1 : (ms.take n).length = n := by rw [List.length_take]; omega
      have k2 : ∀ W, WOK W → Calls Tryd.prog 5 #[.string (s.extract 0 q)] W fun en w' => (∃ p c, en = .returned (.tuple #[.slice p n c, .int .i64 0, .int .i64 0]) ∧ MarksR w' (.slice p n c) (ms.take n)) ∧ Below W.heap.size W w' := by
        intro W hW
        refine (hc2 W hW).mono ?_
        rintro en w' ⟨⟨out, xs, rfl, ho, hmm⟩, b⟩
        have hr := marks_read ho hmm
        obtain ⟨p, c, rfl, _⟩ := hr.form
        rw [hlt1] at hr ⊢
        exact ⟨⟨p, c, rfl, hr⟩, b⟩
      have k3 : ∀ W, WOK W → Calls Tryd.prog 5 #[.string (s.extract q s.size)] W fun en w' => (∃ g o c, en = .returned (.tuple #[.slice (some ⟨g, o, none⟩) (ms.length - n) c, .int .i64 0, .int .i64 0]) ∧ MarksR w' (.slice (some ⟨g, o, none⟩) (ms.length - n) c) ms2 ∧ w'.cell? ⟨g, o + 1, none⟩ = some (.int .i64 0)) ∧ Below W.heap.size W w' := by
        intro W hW
        refine (hc3 W hW).mono ?_
        rintro en w' ⟨⟨out, xs, rfl, ho, hmm⟩, b⟩
        rcases marks_read ho hmm with ⟨h00, _⟩ | ⟨g, o, c, rfl, hcap, hat⟩
        · rw [h00] at h0; simp at h0
        · have z := (hat 0 h0).2.1
          rw [hp0, Nat.zero_mul, Nat.add_zero] at z
          have hr := MarksR.read hat hcap
          rw [hl2] at hr ⊢
          exact ⟨⟨g, o, c, rfl, hr, z⟩, b⟩
      have k4 : ∀ W (g o c : Nat), ms.length ≤ c → MarksAll W g o ms → MarksR W (.slice (some ⟨g, o, none⟩) n c) (ms.take n) ∧ MarksR W (.slice (some ⟨g, o + n * 5, none⟩) (ms.length - n) (c - n)) (ms.drop n) := fun W g o c h1 h2 => ⟨MarksR.take h2 n (by omega) h1, MarksR.drop h2 n (by omega) h1⟩
      have k5 : ∀ W v1 v2, MarksR W v1 (ms.take n) → MarksR W v2 (ms.take n) → Calls Tryd.prog 7 #[v1, v2] W fun en w' => en = .returned (.bool true) ∧ Below W.heap.size W w' := fun W v1 v2 h1 h2 => same_m W v1 v2 _ _ h1 h2 rfl (by omega) (fun m hm2 => by have := hac m (List.mem_of_mem_take hm2); omega)
      have k6 : ∀ W v1 v2, MarksR W v1 ms2 → MarksR W v2 (ms.drop n) → Calls Tryd.prog 7 #[v1, v2] W fun en w' => en = .returned (.bool true) ∧ Below W.heap.size W w' := fun W v1 v2 h1 h2 => same_m W v1 v2 _ _ h1 h2 hs2 hcnt2 hac2
      obtain ⟨L, hLL⟩ : ∃ L, ms.length = L := ⟨_, rfl⟩
      rw [hLL] at hnI hL hcnt
      have hn2 : n < L := by rw [← hLL]; exact hn
      have HC := Lib.hid (And.intro k1 (And.intro k2 (And.intro k3 (And.intro k4 (And.intro k5 k6)))))
      clear hc hc2 hc3 k1 k2 k3 k4 k5 k6 hs2 hac2 hcnt2 hac hq3 hq4 hq5 hm hnn hl2 hlt1
      rw [hLL] at HC
      have hsumI : (n : Int) + ((L - n : Nat) : Int) = (L : Int) := by omega
      have hsumN : n + (L - n) = L := by omega
      have hnL2 : (n : Int) < (L : Int) := by omega
      have hnL3 : (n : Int) ≤ (L : Int) := by omega
      have hpos : (0 : Int) < ((L - n : Nat) : Int) := by omega
      have HQ := Lib.hid (And.intro hp0 (And.intro hq1 (And.intro hLL hn))); clear hp0 hq1 hLL
      go_enter Tryd.func3, Tryd.ntmps3
      go_wp2_with (first
        | (go_at_call 5; first
          | (have gd := b3; clear gd; go_loud (refine (HC.out.2.2.1 _ (HW.out.below b3)).mono ?_; rintro en w4 ⟨⟨g3, o3, c3, rfl, hr3, z0⟩, b4'⟩; have R3 := Lib.hid hr3; have R24 := Lib.hid (R2.out.below b4'); have HA4 := Lib.hid (HA3.out.below b4'); have b4 := b3.trans (b4'.mono b3.size); clear b4' hr3))
          | (have gd := b2; clear gd; go_loud (refine (HC.out.2.1 _ (HW.out.below b2)).mono ?_; rintro en w3 ⟨⟨p2, c2, rfl, hr2⟩, b3'⟩; have R2 := Lib.hid hr2; have HA3 := Lib.hid (HA2.out.below b3'); have b3 := b2.trans (b3'.mono b2.size); clear b3' hr2))
          | go_loud (refine (HC.out.1 _ HW.out).mono ?_; rintro en w1 ⟨⟨g, o, c, rfl, hcap, hat, z1⟩, b1⟩; have HA := Lib.hid hat; have hcI : (L : Int) ≤ (c : Int) := (by omega); have hcI2 : (n : Int) ≤ (c : Int) := (by omega); have HCC := Lib.hid hcap; clear hat hcap))
        | (go_at_call 6; refine (awm_c _ (HW.out.below b1)).mono ?_; rintro en w2 ⟨rfl, b2'⟩; have z2 := cell_keep b2' z1; have HA2 := Lib.hid (HA.out.below b2'); have b2 := b1.trans (b2'.mono b1.size); clear b2')
        | (go_at_call 7; first
          | (have gd := b5; clear gd; refine (HC.out.2.2.2.2.2 _ _ _ R35.out (HC.out.2.2.2.1 _ g o c HCC.out HA5.out).2).mono ?_; rintro en w6 ⟨rfl, b6'⟩; have z6 := cell_keep b6' z5; have b6 := b5.trans (b6'.mono b5.size); clear b6')
          | (have gd := b4; clear gd; refine (HC.out.2.2.2.2.1 _ _ _ R24.out (HC.out.2.2.2.1 _ g o c HCC.out HA4.out).1).mono ?_; rintro en w5 ⟨rfl, b5'⟩; have z5 := cell_keep b5' z0; have R35 := Lib.hid (R3.out.below b5'); have HA5 := Lib.hid (HA4.out.below b5'); have b5 := b4.trans (b5'.mono b4.size); clear b5')))
      go_ret
      exact ⟨rfl, b6⟩
end Go.Proofs.YtcicibeggkmlcaaDoor
