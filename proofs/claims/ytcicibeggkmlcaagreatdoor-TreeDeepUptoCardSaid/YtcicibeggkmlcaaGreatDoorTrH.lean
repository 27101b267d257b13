/- The walk of tree.Parse. Conditions: the tables lie as they are laid; the text has at most 2^31 bytes. -/
import Derived.Test.YtcicibeggkmlcaaGreatDoorTrG
import Derived.Test.YtcicibeggkmlcaaGreatDoorPlV
namespace Go.Proofs.YtcicibeggkmlcaaGreatDoor
open Go.RowKit Go.Sof

/-- attributes of a mark that was read: their row has room for them. -/
theorem AttrsO.caps {w : World} {v : Value} {al : List PAttr} (h : AttrsO w v al) : ∃ p c, v = .slice p al.length c ∧ al.length ≤ c ∧ AttrsF w p al := by
  rcases h with ⟨h1, h2⟩ | ⟨b, o, c, cur, fz, hv, hb, hc, hcap⟩
  · subst h1; exact ⟨none, 0, h2, Nat.le_refl _, fun j hj => absurd hj (by simp)⟩
  · refine ⟨_, c, hv, hcap, fun j hj => ⟨b, o, rfl, ?_⟩⟩
    have h2 := attrCells_at al j hj
    have e0 := hc _ _ h2.1
    have e1 := hc _ _ h2.2
    unfold World.cell?; rw [hb]
    exact ⟨by simpa using e0, by simpa [Nat.add_assoc] using e1⟩
theorem marks_readC {w : World} {B : Nat} {v : Value} {ms : List PMark} {xs : List Value} (h : w.ownsRow B 41 5 v ms.length xs) (hm : MarksO w ms xs) : ∃ p c, v = .slice p ms.length c ∧ MarksC w p ms := by
  rcases h.2 with ⟨hv, h0⟩ | ⟨g, cap, cur, hv, _, hg, hcap, _, _, ht⟩
  · exact ⟨none, 0, by rw [h0]; exact hv, fun i hi => by omega⟩
  · refine ⟨_, cap, hv, fun i hi => ?_⟩
    obtain ⟨av, ha, hj⟩ := hm.at i hi
    obtain ⟨pa, ca, rfl, hca, hf⟩ := ha.caps
    have key : ∀ j u, j < 5 → (mkCell (ms[i]'hi) (.slice pa (ms[i]'hi).attrs.length ca))[j]? = some u → w.cell? ⟨g, 0 + i * 5 + j, none⟩ = some u := by
      intro j u hj5 hu
      have h1 := hj j hj5
      rw [hu, ← ht, List.getElem?_take] at h1
      split at h1
      · rw [Array.getElem?_toList] at h1
        unfold World.cell?; rw [hg]
        simpa using h1
      · simp at h1
    exact ⟨g, 0, rfl, key 0 _ (by omega) rfl, key 1 _ (by omega) rfl, key 2 _ (by omega) rfl, key 4 _ (by omega) rfl, pa, ca, key 3 _ (by omega) rfl, hca, hf⟩
theorem drop_cons {ms r : List PMark} {k : Nat} {m : PMark} (h : ms.drop k = m :: r) : ∃ hk : k < ms.length, ms[k]'hk = m ∧ ms.drop (k + 1) = r := by
  have hk : k < ms.length := by
    have := congrArg List.length h
    rw [List.length_drop, List.length_cons] at this; omega
  rw [List.drop_eq_getElem_cons hk] at h
  simp only [List.cons.injEq] at h
  exact ⟨hk, h.1, h.2⟩
theorem skipW_sub : ∀ (ms : List PMark) (x : PMark), x ∈ skipW ms → x ∈ ms
  | [], x, h => by simp [skipW] at h
  | m :: r, x, h => by
    unfold skipW at h
    split at h
    · exact List.mem_cons_of_mem _ (skipW_sub r x h)
    · exact h

/-- what tree.Parse returns. -/
def PPost (x : Except TErr PNode) (en : Ending) (w' : World) : Prop :=
  match x with
  | .error (a, e) => en = .returned (.tuple #[.agg #[.string ⟨#[]⟩, .int .i64 0, .slice none 0 0, .slice none 0 0, .string ⟨#[]⟩], .int .i64 a, .int .i64 e]) ∧ e ≠ 0
  | .ok n => ∃ pa ca pk ck, en = .returned (.tuple #[nodeV n pa ca pk ck, .int .i64 0, .int .i64 0]) ∧ NodeR w' (fun _ => True) (nodeV n pa ca pk ck) n
theorem PPost.err {x : Except TErr PNode} {a e : Int} {w' : World} (hx : x = .error (a, e)) (he : e ≠ 0) : PPost x (.returned (.tuple #[.agg #[.string ⟨#[]⟩, .int .i64 0, .slice none 0 0, .slice none 0 0, .string ⟨#[]⟩], .int .i64 a, .int .i64 e])) w' := by
  subst hx; exact ⟨rfl, he⟩

set_option maxRecDepth 1000000 in
set_option maxHeartbeats 8000000 in
theorem parse_c (w : World) (s : ByteArray) (hs : s.size ≤ 2147483648) (hw : WOK w) :
    Calls Tryz.prog 37 #[.string s] w fun en w' => PPost (parseT s.data.toList) en w' ∧ Below w.heap.size w w' := by
  have hr0 := Nd5.new w [] 0 (.slice none 0 0) (.slice none 0 0) []
  have hW2 : WOK (w.alloc (.cells #[.string ⟨#[]⟩, .int .i64 0, .slice none 0 0, .slice none 0 0, .string ⟨#[]⟩] 47)) := hw.below ((Below.refl _ w).alloc (Nat.le_refl _) _)
  have hmc := marks_c _ s hs hW2
  obtain ⟨X, hX⟩ : ∃ X, X = parseT s.data.toList := ⟨_, rfl⟩
  rw [← hX]
  unfold parseT at hX
  have HR := Lib.hid hr0; clear hr0 hW2
  have hbA : Below w.heap.size w (w.alloc (.cells #[.string ⟨#[]⟩, .int .i64 0, .slice none 0 0, .slice none 0 0, .string ⟨#[]⟩] 47)) := (Below.refl _ w).alloc (Nat.le_refl _) _
  have HA := Lib.hid hbA; clear hbA
  cases hm : marks s.data.toList with
  | error x =>
    obtain ⟨k, e⟩ := x
    rw [hm] at hmc hX
    have hne : e ≠ 0 := by
      rcases marks_places _ k e hm with ⟨h1, _⟩ | ⟨_, _, h1 | ⟨h1, _⟩⟩ <;> omega
    have he1 : (e == 0) = false := by rw [beq_eq_false_iff_ne]; exact hne
    have he2 : (e != 0) = true := by unfold bne; rw [he1]; rfl
    have HC := Lib.hid hmc; have HX := Lib.hid (And.intro hX hne); clear hmc hX hm hne
    go_enter Tryz.func37, Tryz.ntmps37
    go_wp2_with (first
      | (go_at_call 31; refine HC.out.mono ?_; rintro en w1 ⟨rfl, b1⟩; have hr1 := HR.out.below b1; have r0 := hr1.c0; have r1 := hr1.c1; have r2 := hr1.c2; have r3 := hr1.c3; have r4 := hr1.c4; have g0' := hr1.fz 0; have g1' := hr1.fz 1; have g2' := hr1.fz 2; have g3' := hr1.fz 3; have g4' := hr1.fz 4; have b7 := hr1.lt; clear hr1))
    --ONE
    refine bodyPost_ret (by simp [results, Tryz.results37, go_sem, r0, r1, r2, r3, r4]; try rfl) rfl ?_
    exact ⟨PPost.err HX.out.1 HX.out.2, below_set5 (HA.out.trans (b1.mono HA.out.size)) (Nat.le_refl _) _ _ _ _ _⟩
  | ok ms =>
    rw [hm] at hmc hX
    obtain ⟨hl0, hl1, hl2, hl3⟩ := marks_sizes hm
    replace hX : X = treeP s.data.toList.length ms := hX
    rw [show s.data.toList.length = s.size from Array.length_toList] at hX
    unfold treeP at hX
    have hmc2 : Calls Tryz.prog 31 #[.string s] (w.alloc (.cells #[.string ⟨#[]⟩, .int .i64 0, .slice none 0 0, .slice none 0 0, .string ⟨#[]⟩] 47)) fun en w' => (∃ p c, en = .returned (.tuple #[.slice p ms.length c, .int .i64 0, .int .i64 0]) ∧ MarksC w' p ms) ∧ Below (w.alloc (.cells #[.string ⟨#[]⟩, .int .i64 0, .slice none 0 0, .slice none 0 0, .string ⟨#[]⟩] 47)).heap.size (w.alloc (.cells #[.string ⟨#[]⟩, .int .i64 0, .slice none 0 0, .slice none 0 0, .string ⟨#[]⟩] 47)) w' := by
      refine hmc.mono ?_
      rintro en w1 ⟨⟨out, xs, rfl, ho, hmm⟩, b⟩
      obtain ⟨p, c, rfl, hC⟩ := marks_readC ho hmm
      exact ⟨⟨p, c, rfl, hC⟩, b⟩
    have hwh : ∀ (w1 : World) (p : Option Addr) (c : Nat), MarksC w1 p ms → ∀ w2, Bd w2 w1.heap.size (.slice p ms.length c) ((0 : Nat) : Int) ((0 : Nat) : Int) s.size → Below w1.heap.size w1 w2 →
        Calls Tryz.prog 64 #[.pointer (some ⟨w1.heap.size, 0, none⟩)] w2 fun en w' => en = .returned (.int .i64 (atW (skipW ms))) ∧ ∃ k', k' ≤ ms.length ∧ ms.drop k' = skipW ms ∧ Bd w' w1.heap.size (.slice p ms.length c) (k' : Nat) ((0 : Nat) : Int) s.size ∧ w2.grownBy w' (some w1.heap.size) := fun w1 p c hC w2 hb hlow => by
      refine (white_c w1 p c ms hC.flat hl1 hl2 w2 w1.heap.size 0 _ _ hb (Nat.zero_le _) hlow (Nat.le_refl _)).mono ?_
      rintro en w' ⟨rfl, k', h1, h2, h3, h4, h5⟩
      rw [List.drop_zero] at h3 ⊢
      exact ⟨rfl, k', h2, h3, h4, h5⟩
    have HC := Lib.hid hmc2; clear hmc hmc2
    have hs0 : s.size ≤ 65536 := by rw [show s.data.toList.length = s.size from Array.length_toList] at hl0; exact hl0
    obtain ⟨A, hA⟩ : ∃ A, A = atW (skipW ms) := ⟨_, rfl⟩
    rw [← hA] at hwh
    cases hsk : skipW ms with
    | nil =>
      rw [hsk] at hX hwh hA
      replace hA : A = -1 := hA
      subst hA
      replace hX : X = .error (s.size, 8) := hX
      have HW := Lib.hid hwh; have HX := Lib.hid hX; clear hwh hX hsk hm hl0 hl2 hl3
      go_enter Tryz.func37, Tryz.ntmps37
      go_wp2_with (first
        | (go_at_call 31; refine HC.out.mono ?_; rintro en w1 ⟨⟨p, c, rfl, hMC⟩, b1⟩; have hr1 := HR.out.below b1; have r0 := hr1.c0; have r1 := hr1.c1; have r2 := hr1.c2; have r3 := hr1.c3; have r4 := hr1.c4; have g0' := hr1.fz 0; have g1' := hr1.fz 1; have g2' := hr1.fz 2; have g3' := hr1.fz 3; have g4' := hr1.fz 4; have br1 := hr1.lt; have HR1 := Lib.hid hr1; clear hr1; have hbd := (heap_alloc_new w1 (.cells #[.slice p ms.length c, .int .i64 0, .int .i64 0, .int .i64 s.size] 92) : Bd (w1.alloc (.cells #[.slice p ms.length c, .int .i64 0, .int .i64 0, .int .i64 s.size] 92)) w1.heap.size (.slice p ms.length c) ((0 : Nat) : Int) ((0 : Nat) : Int) s.size); have HM := Lib.hid (And.intro hMC (And.intro b1 hbd)); clear hMC b1 hbd)
        | (go_at_call 64; refine (HW.out w1 p c HM.out.1 _ HM.out.2.2 ((Below.refl _ w1).alloc (Nat.le_refl _) _)).mono ?_; rintro en w2 ⟨rfl, k1, hk1, hd1, hb2, hg2⟩; have hg12 := (grown_below ((Below.refl _ w1).alloc (Nat.le_refl _) (.cells #[.slice p ms.length c, .int .i64 0, .int .i64 0, .int .i64 s.size] 92)) (some w1.heap.size)).trans hg2; clear r0 r1 r2 r3 r4 g0' g1' g2' g3' g4'; have hr1 := HR1.out.grown hg12 (by omega); have r0 := hr1.c0; have r1 := hr1.c1; have r2 := hr1.c2; have r3 := hr1.c3; have r4 := hr1.c4; have g0' := hr1.fz 0; have g1' := hr1.fz 1; have g2' := hr1.fz 2; have g3' := hr1.fz 3; have g4' := hr1.fz 4; have br2 := hr1.lt; have HR2 := Lib.hid hr1; clear hr1; have c0 := hb2.c0; have c1 := hb2.c1; have H2 := Lib.hid (And.intro hd1 (And.intro hb2 hg12)); have bR := hb2.lt; clear hd1 hb2 hg2 hg12 ))
      refine bodyPost_ret (by simp [results, Tryz.results37, go_sem, r0, r1, r2, r3, r4]; try rfl) rfl ?_
      exact ⟨PPost.err HX.out (by decide), below_set5 ((HA.out.trans (HM.out.2.1.mono HA.out.size)).trans ⟨H2.out.2.2.os, H2.out.2.2.tape, H2.out.2.2.output, H2.out.2.2.size, fun j hj => H2.out.2.2.block j (by omega) (fun e => by simp only [Option.some.injEq] at e; omega)⟩) (Nat.le_refl _) _ _ _ _ _⟩
    | cons m r =>
      rw [hsk] at hX hwh hA
      have hpos := hl3 m (skipW_sub ms m (by rw [hsk]; simp))
      have hnd : ∀ (w1 : World) (p : Option Addr) (c : Nat), MarksC w1 p ms → ∀ (w2 : World) (k1 : Nat), ms.drop k1 = m :: r → Bd w2 w1.heap.size (.slice p ms.length c) (k1 : Nat) ((0 : Nat) : Int) s.size → Below w1.heap.size w1 w2 →
          Calls Tryz.prog 65 #[.pointer (some ⟨w1.heap.size, 0, none⟩), .int .i64 1] w2 fun en w' => NPost w1 w2 w1.heap.size (.slice p ms.length c) s.size ms k1 (nodeP (2 * r.length + 2) s.size 1 0 m r) en w' := fun w1 p c hC w2 k1 hd hb hlow => by
        obtain ⟨hk, hmk, hrk⟩ := drop_cons hd
        have := node_c w1 p c ms hC hl1 hl2 s.size w1.heap.size (Nat.le_refl _) (2 * r.length + 2) w2 k1 1 0 hk (by have := congrArg List.length hrk; rw [List.length_drop] at this; omega) hb hlow (by omega) (by omega)
        rw [hmk, hrk] at this
        exact this
      replace hA : A = m.pos := hA
      subst hA
      have hlen0 : 0 < ms.length := by
        cases ms with
        | nil => simp [skipW] at hsk
        | cons _ _ => simp
      obtain ⟨K, P, N, al, T⟩ := m
      simp only at hpos hwh hX
      by_cases hk : K ≠ 1 ∧ K ≠ 4
      · rw [if_pos hk] at hX
        have k1' : (K == 1) = false := by rw [beq_eq_false_iff_ne]; exact hk.1
        have k4' : (K == 4) = false := by rw [beq_eq_false_iff_ne]; exact hk.2
        have kn1 : (K != 1) = true := by unfold bne; rw [k1']; rfl
        have kn4 : (K != 4) = true := by unfold bne; rw [k4']; rfl
        have kh1 := hk.1
        have kh4 := hk.2
        have HW := Lib.hid hwh; have HX := Lib.hid hX; clear hwh hX hsk hm hl0 hl2 hl3 hnd hk
        go_enter Tryz.func37, Tryz.ntmps37
        go_wp2_with (first
          | (go_at_call 31; refine HC.out.mono ?_; rintro en w1 ⟨⟨p, c, rfl, hMC⟩, b1⟩; obtain ⟨g, o, rfl, -⟩ := hMC 0 hlen0; have hr1 := HR.out.below b1; have r0 := hr1.c0; have r1 := hr1.c1; have r2 := hr1.c2; have r3 := hr1.c3; have r4 := hr1.c4; have g0' := hr1.fz 0; have g1' := hr1.fz 1; have g2' := hr1.fz 2; have g3' := hr1.fz 3; have g4' := hr1.fz 4; have br1 := hr1.lt; have HR1 := Lib.hid hr1; clear hr1; have hbd := (heap_alloc_new w1 (.cells #[.slice (some ⟨g, o, none⟩) ms.length c, .int .i64 0, .int .i64 0, .int .i64 s.size] 92) : Bd (w1.alloc (.cells #[.slice (some ⟨g, o, none⟩) ms.length c, .int .i64 0, .int .i64 0, .int .i64 s.size] 92)) w1.heap.size (.slice (some ⟨g, o, none⟩) ms.length c) ((0 : Nat) : Int) ((0 : Nat) : Int) s.size); have HM := Lib.hid (And.intro hMC (And.intro b1 hbd)); clear hMC b1 hbd)
          | (go_at_call 64; refine (HW.out w1 _ c HM.out.1 _ HM.out.2.2 ((Below.refl _ w1).alloc (Nat.le_refl _) _)).mono ?_; rintro en w2 ⟨rfl, k1, hk1, hd1, hb2, hg2⟩; have hg12 := (grown_below ((Below.refl _ w1).alloc (Nat.le_refl _) (.cells #[.slice (some ⟨g, o, none⟩) ms.length c, .int .i64 0, .int .i64 0, .int .i64 s.size] 92)) (some w1.heap.size)).trans hg2; clear r0 r1 r2 r3 r4 g0' g1' g2' g3' g4'; have hr1 := HR1.out.grown hg12 (by omega); have r0 := hr1.c0; have r1 := hr1.c1; have r2 := hr1.c2; have r3 := hr1.c3; have r4 := hr1.c4; have g0' := hr1.fz 0; have g1' := hr1.fz 1; have g2' := hr1.fz 2; have g3' := hr1.fz 3; have g4' := hr1.fz 4; have br2 := hr1.lt; have HR2 := Lib.hid hr1; clear hr1; have hlw2 : Below w1.heap.size w1 w2 := ⟨hg12.os, hg12.tape, hg12.output, hg12.size, fun j hj => hg12.block j hj (fun e => (by simp only [Option.some.injEq] at e; omega))⟩; obtain ⟨hkl, hkm, hkr⟩ := drop_cons hd1; obtain ⟨g', o', e', d0, -⟩ := HM.out.1 k1 hkl; simp only [Option.some.injEq, Addr.mk.injEq, and_true] at e'; obtain ⟨e1', e2'⟩ := e'; rw [hkm, ← e1', ← e2'] at d0; dsimp only at d0; clear e1' e2'; have a0 := cell_keep hlw2 d0; have kI : (k1 : Int) < (ms.length : Int) := (by omega); have c0 := hb2.c0; have c1 := hb2.c1; have bR := hb2.lt; have H2 := Lib.hid (And.intro hd1 (And.intro hb2 (And.intro hg12 hlw2))); clear hd1 hb2 hg2 hg12 hlw2 hkl hkm hkr d0))
        refine bodyPost_ret (by simp [results, Tryz.results37, go_sem, r0, r1, r2, r3, r4]; try rfl) rfl ?_
        exact ⟨PPost.err HX.out (by decide), below_set5 ((HA.out.trans (HM.out.2.1.mono HA.out.size)).trans (H2.out.2.2.2.mono (show w.heap.size ≤ w1.heap.size by omega))) (Nat.le_refl _) _ _ _ _ _⟩
      · rw [if_neg hk] at hX
        by_cases hK : K = 1
        · subst hK
          cases hn : nodeP (2 * r.length + 2) s.size 1 0 ⟨1, P, N, al, T⟩ r with
          | error ae =>
            obtain ⟨a, e⟩ := ae
            rw [hn] at hX hnd
            replace hX : X = .error (a, e) := hX
            have HW := Lib.hid hwh; have HX := Lib.hid hX; have HN := Lib.hid hnd; clear hwh hX hnd hn hm hl0 hl2 hl3 hsk
            go_enter Tryz.func37, Tryz.ntmps37
            go_wp2_with (first
              | (go_at_call 31; refine HC.out.mono ?_; rintro en w1 ⟨⟨p, c, rfl, hMC⟩, b1⟩; obtain ⟨g, o, rfl, -⟩ := hMC 0 hlen0; have hr1 := HR.out.below b1; have r0 := hr1.c0; have r1 := hr1.c1; have r2 := hr1.c2; have r3 := hr1.c3; have r4 := hr1.c4; have g0' := hr1.fz 0; have g1' := hr1.fz 1; have g2' := hr1.fz 2; have g3' := hr1.fz 3; have g4' := hr1.fz 4; have br1 := hr1.lt; have HR1 := Lib.hid hr1; clear hr1; have hbd := (heap_alloc_new w1 (.cells #[.slice (some ⟨g, o, none⟩) ms.length c, .int .i64 0, .int .i64 0, .int .i64 s.size] 92) : Bd (w1.alloc (.cells #[.slice (some ⟨g, o, none⟩) ms.length c, .int .i64 0, .int .i64 0, .int .i64 s.size] 92)) w1.heap.size (.slice (some ⟨g, o, none⟩) ms.length c) ((0 : Nat) : Int) ((0 : Nat) : Int) s.size); have HM := Lib.hid (And.intro hMC (And.intro b1 hbd)); clear hMC b1 hbd)
              | (go_at_call 64; refine (HW.out w1 _ c HM.out.1 _ HM.out.2.2 ((Below.refl _ w1).alloc (Nat.le_refl _) _)).mono ?_; rintro en w2 ⟨rfl, k1, hk1, hd1, hb2, hg2⟩; have hg12 := (grown_below ((Below.refl _ w1).alloc (Nat.le_refl _) (.cells #[.slice (some ⟨g, o, none⟩) ms.length c, .int .i64 0, .int .i64 0, .int .i64 s.size] 92)) (some w1.heap.size)).trans hg2; clear r0 r1 r2 r3 r4 g0' g1' g2' g3' g4'; have hr1 := HR1.out.grown hg12 (by omega); have r0 := hr1.c0; have r1 := hr1.c1; have r2 := hr1.c2; have r3 := hr1.c3; have r4 := hr1.c4; have g0' := hr1.fz 0; have g1' := hr1.fz 1; have g2' := hr1.fz 2; have g3' := hr1.fz 3; have g4' := hr1.fz 4; have br2 := hr1.lt; have HR2 := Lib.hid hr1; clear hr1; have hlw2 : Below w1.heap.size w1 w2 := ⟨hg12.os, hg12.tape, hg12.output, hg12.size, fun j hj => hg12.block j hj (fun e => (by simp only [Option.some.injEq] at e; omega))⟩; obtain ⟨hkl, hkm, hkr⟩ := drop_cons hd1; obtain ⟨g', o', e', d0, -⟩ := HM.out.1 k1 hkl; simp only [Option.some.injEq, Addr.mk.injEq, and_true] at e'; obtain ⟨e1', e2'⟩ := e'; rw [hkm, ← e1', ← e2'] at d0; dsimp only at d0; clear e1' e2'; have a0 := cell_keep hlw2 d0; have kI : (k1 : Int) < (ms.length : Int) := (by omega); have c0 := hb2.c0; have c1 := hb2.c1; have bR := hb2.lt; have H2 := Lib.hid (And.intro hd1 (And.intro hb2 (And.intro hg12 hlw2))); clear hd1 hb2 hg2 hg12 hlw2 hkl hkm hkr d0)
              | (go_at_call 65; refine (HN.out w1 _ c HM.out.1 w2 k1 H2.out.1 H2.out.2.1 H2.out.2.2.2).mono ?_; rintro en w3 ⟨s0', i1', p2', l2', c2', p3', l3', c3', s4', k2, ct2, rfl, he, hb3, hg3⟩; clear r0 r1 r2 r3 r4 g0' g1' g2' g3' g4'; have hr1 := HR2.out.grown hg3 (by omega); have r0 := hr1.c0; have r1 := hr1.c1; have r2 := hr1.c2; have r3 := hr1.c3; have r4 := hr1.c4; have g0' := hr1.fz 0; have g1' := hr1.fz 1; have g2' := hr1.fz 2; have g3' := hr1.fz 3; have g4' := hr1.fz 4; have br3 := hr1.lt; have HR3 := Lib.hid hr1; clear hr1; have he1 : (e == 0) = false := (by rw [beq_eq_false_iff_ne]; exact he); have he2 : (e != 0) = true := (by unfold bne; rw [he1]; rfl); have H3 := Lib.hid (And.intro he (And.intro hb3 hg3)); clear he hb3 hg3))
            refine bodyPost_ret (by simp [results, Tryz.results37, go_sem, r0, r1, r2, r3, r4, br3]; try rfl) rfl ?_
            exact ⟨PPost.err HX.out H3.out.1, (below_set5 (((HA.out.trans (HM.out.2.1.mono HA.out.size)).trans (H2.out.2.2.2.mono (show w.heap.size ≤ w1.heap.size by omega))).trans ⟨H3.out.2.2.os, H3.out.2.2.tape, H3.out.2.2.output, H3.out.2.2.size, fun j hj => H3.out.2.2.block j (by omega) (fun e => by simp only [Option.some.injEq] at e; omega)⟩) (Nat.le_refl _) _ _ _ _ _).alloc (by simp; omega) _⟩
          | ok x =>
            obtain ⟨nd, rr, ct'⟩ := x
            rw [hn] at hX hnd
            replace hX : X = (match skipW rr with | [] => .ok nd | x :: _ => .error (x.pos, 8)) := hX
            have hw2 : ∀ (w1 : World) (p : Option Addr) (c : Nat), MarksC w1 p ms → ∀ (w4 : World) (k2 : Nat) (ct : Int), k2 ≤ ms.length → ms.drop k2 = rr → Bd w4 w1.heap.size (.slice p ms.length c) (k2 : Nat) ct s.size → Below w1.heap.size w1 w4 →
                Calls Tryz.prog 64 #[.pointer (some ⟨w1.heap.size, 0, none⟩)] w4 fun en w' => en = .returned (.int .i64 (atW (skipW rr))) ∧ (∃ k', Bd w' w1.heap.size (.slice p ms.length c) (k' : Nat) ct s.size) ∧ w4.grownBy w' (some w1.heap.size) := fun w1 p c hC w4 k2 ct hk hd hb hlow => by
              refine (white_c w1 p c ms hC.flat hl1 hl2 w4 w1.heap.size k2 ct _ hb hk hlow (Nat.le_refl _)).mono ?_
              rintro en w' ⟨rfl, k', h1, h2, h3, h4, h5⟩
              rw [hd]
              exact ⟨rfl, ⟨k', h4⟩, h5⟩
            cases hs2 : skipW rr with
            | nil =>
              rw [hs2] at hX hw2
              replace hX : X = .ok nd := hX
              have HA2 : Hid (∀ k2, ms.drop k2 = rr → True) := Lib.hid (fun _ _ => trivial)
              have hw2 : ∀ (w1 : World) (p : Option Addr) (c : Nat), MarksC w1 p ms → ∀ (w4 : World) (k2 : Nat) (ct : Int), k2 ≤ ms.length → ms.drop k2 = rr → Bd w4 w1.heap.size (.slice p ms.length c) (k2 : Nat) ct s.size → Below w1.heap.size w1 w4 →
                Calls Tryz.prog 64 #[.pointer (some ⟨w1.heap.size, 0, none⟩)] w4 fun en w' => en = .returned (.int .i64 (-1)) ∧ (∃ k', Bd w' w1.heap.size (.slice p ms.length c) (k' : Nat) ct s.size) ∧ w4.grownBy w' (some w1.heap.size) := hw2
              have HW := Lib.hid hwh; have HX := Lib.hid hX; have HN := Lib.hid hnd; have HW2 := Lib.hid hw2; clear hwh hX hnd hn hm hl0 hl2 hl3 hsk hw2 hs2
              go_enter Tryz.func37, Tryz.ntmps37
              go_wp2_with (first
                | (go_at_call 31; refine HC.out.mono ?_; rintro en w1 ⟨⟨p, c, rfl, hMC⟩, b1⟩; obtain ⟨g, o, rfl, -⟩ := hMC 0 hlen0; have hr1 := HR.out.below b1; have r0 := hr1.c0; have r1 := hr1.c1; have r2 := hr1.c2; have r3 := hr1.c3; have r4 := hr1.c4; have g0' := hr1.fz 0; have g1' := hr1.fz 1; have g2' := hr1.fz 2; have g3' := hr1.fz 3; have g4' := hr1.fz 4; have br1 := hr1.lt; have HR1 := Lib.hid hr1; clear hr1; have hbd := (heap_alloc_new w1 (.cells #[.slice (some ⟨g, o, none⟩) ms.length c, .int .i64 0, .int .i64 0, .int .i64 s.size] 92) : Bd (w1.alloc (.cells #[.slice (some ⟨g, o, none⟩) ms.length c, .int .i64 0, .int .i64 0, .int .i64 s.size] 92)) w1.heap.size (.slice (some ⟨g, o, none⟩) ms.length c) ((0 : Nat) : Int) ((0 : Nat) : Int) s.size); have HM := Lib.hid (And.intro hMC (And.intro b1 hbd)); clear hMC b1 hbd)
                | (go_at_call 64; have gd := H3; clear gd; refine (HW2.out w1 _ c HM.out.1 _ k2 _ H3.out.2.1 H3.out.2.2.1 H3.out.2.2.2.1 H3.out.2.2.2.2.2.1).mono ?_; rintro en w5 ⟨rfl, hb5, hg5⟩; clear r0 r1 r2 r3 r4 g0' g1' g2' g3' g4'; have hr1 := (HR3.out.below ((Below.refl _ w3).alloc (Nat.le_refl _) (.cells #[.string ⟨nd.name.toArray⟩, .int .i64 nd.pos, .slice pa3 nd.attrs.length ca3, .slice pk3 nd.kids.length ck3, .string ⟨nd.text.toArray⟩] 47))).grown hg5 (by omega); have r0 := hr1.c0; have r1 := hr1.c1; have r2 := hr1.c2; have r3 := hr1.c3; have r4 := hr1.c4; have g0' := hr1.fz 0; have g1' := hr1.fz 1; have g2' := hr1.fz 2; have g3' := hr1.fz 3; have g4' := hr1.fz 4; have br5 := hr1.lt; have HR5 := Lib.hid hr1; clear hr1; have hv5 := H3.out.2.2.2.2.2.2.grown hg5 (by omega); have v0 := hv5.c0; have v1 := hv5.c1; have v2 := hv5.c2; have v3 := hv5.c3; have v4 := hv5.c4; have y1 : w3.heap.size ≠ w.heap.size := (by omega); have y2 : w.heap.size ≠ w3.heap.size := (by omega); have H5 := Lib.hid hg5; clear hv5 hb5 hg5)
                | (go_at_call 64; refine (HW.out w1 _ c HM.out.1 _ HM.out.2.2 ((Below.refl _ w1).alloc (Nat.le_refl _) _)).mono ?_; rintro en w2 ⟨rfl, k1, hk1, hd1, hb2, hg2⟩; have hg12 := (grown_below ((Below.refl _ w1).alloc (Nat.le_refl _) (.cells #[.slice (some ⟨g, o, none⟩) ms.length c, .int .i64 0, .int .i64 0, .int .i64 s.size] 92)) (some w1.heap.size)).trans hg2; clear r0 r1 r2 r3 r4 g0' g1' g2' g3' g4'; have hr1 := HR1.out.grown hg12 (by omega); have r0 := hr1.c0; have r1 := hr1.c1; have r2 := hr1.c2; have r3 := hr1.c3; have r4 := hr1.c4; have g0' := hr1.fz 0; have g1' := hr1.fz 1; have g2' := hr1.fz 2; have g3' := hr1.fz 3; have g4' := hr1.fz 4; have br2 := hr1.lt; have HR2 := Lib.hid hr1; clear hr1; have hlw2 : Below w1.heap.size w1 w2 := ⟨hg12.os, hg12.tape, hg12.output, hg12.size, fun j hj => hg12.block j hj (fun e => (by simp only [Option.some.injEq] at e; omega))⟩; obtain ⟨hkl, hkm, hkr⟩ := drop_cons hd1; obtain ⟨g', o', e', d0, -⟩ := HM.out.1 k1 hkl; simp only [Option.some.injEq, Addr.mk.injEq, and_true] at e'; obtain ⟨e1', e2'⟩ := e'; rw [hkm, ← e1', ← e2'] at d0; dsimp only at d0; clear e1' e2'; have a0 := cell_keep hlw2 d0; have kI : (k1 : Int) < (ms.length : Int) := (by omega); have c0 := hb2.c0; have c1 := hb2.c1; have bR := hb2.lt; have H2 := Lib.hid (And.intro hd1 (And.intro hb2 (And.intro hg12 hlw2))); clear hd1 hb2 hg2 hg12 hlw2 hkl hkm hkr d0)
                | (go_at_call 65; refine (HN.out w1 _ c HM.out.1 w2 k1 H2.out.1 H2.out.2.1 H2.out.2.2.2).mono ?_; rintro en w3 ⟨pa3, ca3, pk3, ck3, k2, rfl, hnr, hk2a, hk2b, hd2, hct, hb3, hg3⟩; unfold nodeV; clear r0 r1 r2 r3 r4 g0' g1' g2' g3' g4'; have hr1 := HR2.out.grown hg3 (by omega); have r0 := hr1.c0; have r1 := hr1.c1; have r2 := hr1.c2; have r3 := hr1.c3; have r4 := hr1.c4; have g0' := hr1.fz 0; have g1' := hr1.fz 1; have g2' := hr1.fz 2; have g3' := hr1.fz 3; have g4' := hr1.fz 4; have br3 := hr1.lt; have HR3 := Lib.hid hr1; clear hr1; have hA2' := HA2.out k2 hd2; have hv4 := Nd5.new w3 nd.name nd.pos (.slice pa3 nd.attrs.length ca3) (.slice pk3 nd.kids.length ck3) nd.text; have hb4 := hb3.below ((Below.refl _ w3).alloc (Nat.le_refl _) (.cells #[.string ⟨nd.name.toArray⟩, .int .i64 nd.pos, .slice pa3 nd.attrs.length ca3, .slice pk3 nd.kids.length ck3, .string ⟨nd.text.toArray⟩] 47)); have hg34 := hg3.trans (grown_below ((Below.refl _ w3).alloc (Nat.le_refl _) (.cells #[.string ⟨nd.name.toArray⟩, .int .i64 nd.pos, .slice pa3 nd.attrs.length ca3, .slice pk3 nd.kids.length ck3, .string ⟨nd.text.toArray⟩] 47)) (some w1.heap.size)); have hl4 : Below w1.heap.size w1 (w3.alloc (.cells #[.string ⟨nd.name.toArray⟩, .int .i64 nd.pos, .slice pa3 nd.attrs.length ca3, .slice pk3 nd.kids.length ck3, .string ⟨nd.text.toArray⟩] 47)) := ⟨hg34.os.trans H2.out.2.2.2.os, hg34.tape.trans H2.out.2.2.2.tape, hg34.output.trans H2.out.2.2.2.output, Nat.le_trans H2.out.2.2.2.size hg34.size, fun j hj => (hg34.block j (by have := H2.out.2.2.2.size; omega) (fun e => (by simp only [Option.some.injEq] at e; omega))).trans (H2.out.2.2.2.block j hj)⟩; have H3 := Lib.hid (And.intro hnr (And.intro hk2b (And.intro hd2 (And.intro hb4 (And.intro hg34 (And.intro hl4 hv4)))))); have h3l := hb3.lt; clear hnr hk2a hk2b hd2 hct hb3 hg3 hb4 hg34 hl4 hv4))
              refine bodyPost_ret (by simp [results, Tryz.results37, go_sem, r0, r1, r2, r3, r4]; try rfl) rfl ?_
              have hfin : NodeR (set5 w5 w.heap.size (.string ⟨nd.name.toArray⟩) (.int .i64 nd.pos) (.slice pa3 nd.attrs.length ca3) (.slice pk3 nd.kids.length ck3) (.string ⟨nd.text.toArray⟩)) (fun _ => True) (nodeV nd pa3 ca3 pk3 ck3) nd := by
                refine H3.out.1.move (fun g hq hg => ⟨?_, trivial⟩)
                have hgr : g ≠ w.heap.size := by
                  rintro rfl
                  rcases hq with hq | hq
                  · obtain ⟨q, s1, s2, e1, e2⟩ := hq
                    have e1' := e1; have e2' := e2
                    unfold World.cell? at e1' e2'
                    rw [HR1.out] at e1' e2'
                    match q, e1', e2' with
                    | 0, _, h => simp at h
                    | 1, h, _ => simp at h
                    | 2, h, _ => simp at h
                    | 3, h, _ => simp at h
                    | 4, _, h => simp at h
                    | q + 5, h, _ => simp at h
                  · have := H2.out.2.2.2.size; omega
                have hgR : g ≠ w1.heap.size := by
                  rcases hq with hq | hq
                  · have := hq.lt; omega
                  · omega
                rw [heap_set5_ne _ _ _ _ _ _ hgr, H5.out.block g (by simp; omega) (fun e => hgR (by simpa using e))]
                exact ((Below.refl w3.heap.size w3).alloc (Nat.le_refl _) (.cells #[.string ⟨nd.name.toArray⟩, .int .i64 nd.pos, .slice pa3 nd.attrs.length ca3, .slice pk3 nd.kids.length ck3, .string ⟨nd.text.toArray⟩] 47)).block g hg
              unfold set5 at hfin
              rw [HX.out]
              exact ⟨⟨pa3, ca3, pk3, ck3, rfl, hfin⟩, below_set5 ((((HA.out.trans (HM.out.2.1.mono HA.out.size)).trans (H2.out.2.2.2.mono (show w.heap.size ≤ w1.heap.size by omega))).trans ⟨H3.out.2.2.2.2.1.os, H3.out.2.2.2.2.1.tape, H3.out.2.2.2.2.1.output, H3.out.2.2.2.2.1.size, fun j hj => H3.out.2.2.2.2.1.block j (by have := H2.out.2.2.2.size; omega) (fun e => by simp only [Option.some.injEq] at e; omega)⟩).trans ⟨H5.out.os, H5.out.tape, H5.out.output, H5.out.size, fun j hj => H5.out.block j (by simp; omega) (fun e => by simp only [Option.some.injEq] at e; omega)⟩) (Nat.le_refl _) _ _ _ _ _⟩
            | cons x rx =>
              rw [hs2] at hX hw2
              replace hX : X = .error (x.pos, 8) := hX
              have HA2 : Hid (∀ k2, ms.drop k2 = rr → 0 ≤ x.pos) := Lib.hid (fun k2 hd => hl3 x (List.mem_of_mem_drop (i := k2) (by rw [hd]; exact skipW_sub rr x (by rw [hs2]; simp))))
              have hw2 : ∀ (w1 : World) (p : Option Addr) (c : Nat), MarksC w1 p ms → ∀ (w4 : World) (k2 : Nat) (ct : Int), k2 ≤ ms.length → ms.drop k2 = rr → Bd w4 w1.heap.size (.slice p ms.length c) (k2 : Nat) ct s.size → Below w1.heap.size w1 w4 →
                Calls Tryz.prog 64 #[.pointer (some ⟨w1.heap.size, 0, none⟩)] w4 fun en w' => en = .returned (.int .i64 x.pos) ∧ (∃ k', Bd w' w1.heap.size (.slice p ms.length c) (k' : Nat) ct s.size) ∧ w4.grownBy w' (some w1.heap.size) := hw2
              have HW := Lib.hid hwh; have HX := Lib.hid hX; have HN := Lib.hid hnd; have HW2 := Lib.hid hw2; clear hwh hX hnd hn hm hl0 hl2 hl3 hsk hw2 hs2
              go_enter Tryz.func37, Tryz.ntmps37
              go_wp2_with (first
                | (go_at_call 31; refine HC.out.mono ?_; rintro en w1 ⟨⟨p, c, rfl, hMC⟩, b1⟩; obtain ⟨g, o, rfl, -⟩ := hMC 0 hlen0; have hr1 := HR.out.below b1; have r0 := hr1.c0; have r1 := hr1.c1; have r2 := hr1.c2; have r3 := hr1.c3; have r4 := hr1.c4; have g0' := hr1.fz 0; have g1' := hr1.fz 1; have g2' := hr1.fz 2; have g3' := hr1.fz 3; have g4' := hr1.fz 4; have br1 := hr1.lt; have HR1 := Lib.hid hr1; clear hr1; have hbd := (heap_alloc_new w1 (.cells #[.slice (some ⟨g, o, none⟩) ms.length c, .int .i64 0, .int .i64 0, .int .i64 s.size] 92) : Bd (w1.alloc (.cells #[.slice (some ⟨g, o, none⟩) ms.length c, .int .i64 0, .int .i64 0, .int .i64 s.size] 92)) w1.heap.size (.slice (some ⟨g, o, none⟩) ms.length c) ((0 : Nat) : Int) ((0 : Nat) : Int) s.size); have HM := Lib.hid (And.intro hMC (And.intro b1 hbd)); clear hMC b1 hbd)
                | (go_at_call 64; have gd := H3; clear gd; refine (HW2.out w1 _ c HM.out.1 _ k2 _ H3.out.2.1 H3.out.2.2.1 H3.out.2.2.2.1 H3.out.2.2.2.2.2.1).mono ?_; rintro en w5 ⟨rfl, hb5, hg5⟩; clear r0 r1 r2 r3 r4 g0' g1' g2' g3' g4'; have hr1 := (HR3.out.below ((Below.refl _ w3).alloc (Nat.le_refl _) (.cells #[.string ⟨nd.name.toArray⟩, .int .i64 nd.pos, .slice pa3 nd.attrs.length ca3, .slice pk3 nd.kids.length ck3, .string ⟨nd.text.toArray⟩] 47))).grown hg5 (by omega); have r0 := hr1.c0; have r1 := hr1.c1; have r2 := hr1.c2; have r3 := hr1.c3; have r4 := hr1.c4; have g0' := hr1.fz 0; have g1' := hr1.fz 1; have g2' := hr1.fz 2; have g3' := hr1.fz 3; have g4' := hr1.fz 4; have br5 := hr1.lt; have HR5 := Lib.hid hr1; clear hr1; have hv5 := H3.out.2.2.2.2.2.2.grown hg5 (by omega); have v0 := hv5.c0; have v1 := hv5.c1; have v2 := hv5.c2; have v3 := hv5.c3; have v4 := hv5.c4; have y1 : w3.heap.size ≠ w.heap.size := (by omega); have y2 : w.heap.size ≠ w3.heap.size := (by omega); have H5 := Lib.hid hg5; clear hv5 hb5 hg5)
                | (go_at_call 64; refine (HW.out w1 _ c HM.out.1 _ HM.out.2.2 ((Below.refl _ w1).alloc (Nat.le_refl _) _)).mono ?_; rintro en w2 ⟨rfl, k1, hk1, hd1, hb2, hg2⟩; have hg12 := (grown_below ((Below.refl _ w1).alloc (Nat.le_refl _) (.cells #[.slice (some ⟨g, o, none⟩) ms.length c, .int .i64 0, .int .i64 0, .int .i64 s.size] 92)) (some w1.heap.size)).trans hg2; clear r0 r1 r2 r3 r4 g0' g1' g2' g3' g4'; have hr1 := HR1.out.grown hg12 (by omega); have r0 := hr1.c0; have r1 := hr1.c1; have r2 := hr1.c2; have r3 := hr1.c3; have r4 := hr1.c4; have g0' := hr1.fz 0; have g1' := hr1.fz 1; have g2' := hr1.fz 2; have g3' := hr1.fz 3; have g4' := hr1.fz 4; have br2 := hr1.lt; have HR2 := Lib.hid hr1; clear hr1; have hlw2 : Below w1.heap.size w1 w2 := ⟨hg12.os, hg12.tape, hg12.output, hg12.size, fun j hj => hg12.block j hj (fun e => (by simp only [Option.some.injEq] at e; omega))⟩; obtain ⟨hkl, hkm, hkr⟩ := drop_cons hd1; obtain ⟨g', o', e', d0, -⟩ := HM.out.1 k1 hkl; simp only [Option.some.injEq, Addr.mk.injEq, and_true] at e'; obtain ⟨e1', e2'⟩ := e'; rw [hkm, ← e1', ← e2'] at d0; dsimp only at d0; clear e1' e2'; have a0 := cell_keep hlw2 d0; have kI : (k1 : Int) < (ms.length : Int) := (by omega); have c0 := hb2.c0; have c1 := hb2.c1; have bR := hb2.lt; have H2 := Lib.hid (And.intro hd1 (And.intro hb2 (And.intro hg12 hlw2))); clear hd1 hb2 hg2 hg12 hlw2 hkl hkm hkr d0)
                | (go_at_call 65; refine (HN.out w1 _ c HM.out.1 w2 k1 H2.out.1 H2.out.2.1 H2.out.2.2.2).mono ?_; rintro en w3 ⟨pa3, ca3, pk3, ck3, k2, rfl, hnr, hk2a, hk2b, hd2, hct, hb3, hg3⟩; unfold nodeV; clear r0 r1 r2 r3 r4 g0' g1' g2' g3' g4'; have hr1 := HR2.out.grown hg3 (by omega); have r0 := hr1.c0; have r1 := hr1.c1; have r2 := hr1.c2; have r3 := hr1.c3; have r4 := hr1.c4; have g0' := hr1.fz 0; have g1' := hr1.fz 1; have g2' := hr1.fz 2; have g3' := hr1.fz 3; have g4' := hr1.fz 4; have br3 := hr1.lt; have HR3 := Lib.hid hr1; clear hr1; have hA2' := HA2.out k2 hd2; have hv4 := Nd5.new w3 nd.name nd.pos (.slice pa3 nd.attrs.length ca3) (.slice pk3 nd.kids.length ck3) nd.text; have hb4 := hb3.below ((Below.refl _ w3).alloc (Nat.le_refl _) (.cells #[.string ⟨nd.name.toArray⟩, .int .i64 nd.pos, .slice pa3 nd.attrs.length ca3, .slice pk3 nd.kids.length ck3, .string ⟨nd.text.toArray⟩] 47)); have hg34 := hg3.trans (grown_below ((Below.refl _ w3).alloc (Nat.le_refl _) (.cells #[.string ⟨nd.name.toArray⟩, .int .i64 nd.pos, .slice pa3 nd.attrs.length ca3, .slice pk3 nd.kids.length ck3, .string ⟨nd.text.toArray⟩] 47)) (some w1.heap.size)); have hl4 : Below w1.heap.size w1 (w3.alloc (.cells #[.string ⟨nd.name.toArray⟩, .int .i64 nd.pos, .slice pa3 nd.attrs.length ca3, .slice pk3 nd.kids.length ck3, .string ⟨nd.text.toArray⟩] 47)) := ⟨hg34.os.trans H2.out.2.2.2.os, hg34.tape.trans H2.out.2.2.2.tape, hg34.output.trans H2.out.2.2.2.output, Nat.le_trans H2.out.2.2.2.size hg34.size, fun j hj => (hg34.block j (by have := H2.out.2.2.2.size; omega) (fun e => (by simp only [Option.some.injEq] at e; omega))).trans (H2.out.2.2.2.block j hj)⟩; have H3 := Lib.hid (And.intro hnr (And.intro hk2b (And.intro hd2 (And.intro hb4 (And.intro hg34 (And.intro hl4 hv4)))))); have h3l := hb3.lt; clear hnr hk2a hk2b hd2 hct hb3 hg3 hb4 hg34 hl4 hv4))
              refine bodyPost_ret (by simp [results, Tryz.results37, go_sem, r0, r1, r2, r3, r4]; try rfl) rfl ?_
              exact ⟨PPost.err HX.out (by decide), below_set5 ((((HA.out.trans (HM.out.2.1.mono HA.out.size)).trans (H2.out.2.2.2.mono (show w.heap.size ≤ w1.heap.size by omega))).trans ⟨H3.out.2.2.2.2.1.os, H3.out.2.2.2.2.1.tape, H3.out.2.2.2.2.1.output, H3.out.2.2.2.2.1.size, fun j hj => H3.out.2.2.2.2.1.block j (by have := H2.out.2.2.2.size; omega) (fun e => by simp only [Option.some.injEq] at e; omega)⟩).trans ⟨H5.out.os, H5.out.tape, H5.out.output, H5.out.size, fun j hj => H5.out.block j (by simp; omega) (fun e => by simp only [Option.some.injEq] at e; omega)⟩) (Nat.le_refl _) _ _ _ _ _⟩
        · have hK : K = 4 := by omega
          subst hK
          cases hn : nodeP (2 * r.length + 2) s.size 1 0 ⟨4, P, N, al, T⟩ r with
          | error ae =>
            obtain ⟨a, e⟩ := ae
            rw [hn] at hX hnd
            replace hX : X = .error (a, e) := hX
            have HW := Lib.hid hwh; have HX := Lib.hid hX; have HN := Lib.hid hnd; clear hwh hX hnd hn hm hl0 hl2 hl3 hsk
            go_enter Tryz.func37, Tryz.ntmps37
            go_wp2_with (first
              | (go_at_call 31; refine HC.out.mono ?_; rintro en w1 ⟨⟨p, c, rfl, hMC⟩, b1⟩; obtain ⟨g, o, rfl, -⟩ := hMC 0 hlen0; have hr1 := HR.out.below b1; have r0 := hr1.c0; have r1 := hr1.c1; have r2 := hr1.c2; have r3 := hr1.c3; have r4 := hr1.c4; have g0' := hr1.fz 0; have g1' := hr1.fz 1; have g2' := hr1.fz 2; have g3' := hr1.fz 3; have g4' := hr1.fz 4; have br1 := hr1.lt; have HR1 := Lib.hid hr1; clear hr1; have hbd := (heap_alloc_new w1 (.cells #[.slice (some ⟨g, o, none⟩) ms.length c, .int .i64 0, .int .i64 0, .int .i64 s.size] 92) : Bd (w1.alloc (.cells #[.slice (some ⟨g, o, none⟩) ms.length c, .int .i64 0, .int .i64 0, .int .i64 s.size] 92)) w1.heap.size (.slice (some ⟨g, o, none⟩) ms.length c) ((0 : Nat) : Int) ((0 : Nat) : Int) s.size); have HM := Lib.hid (And.intro hMC (And.intro b1 hbd)); clear hMC b1 hbd)
              | (go_at_call 64; refine (HW.out w1 _ c HM.out.1 _ HM.out.2.2 ((Below.refl _ w1).alloc (Nat.le_refl _) _)).mono ?_; rintro en w2 ⟨rfl, k1, hk1, hd1, hb2, hg2⟩; have hg12 := (grown_below ((Below.refl _ w1).alloc (Nat.le_refl _) (.cells #[.slice (some ⟨g, o, none⟩) ms.length c, .int .i64 0, .int .i64 0, .int .i64 s.size] 92)) (some w1.heap.size)).trans hg2; clear r0 r1 r2 r3 r4 g0' g1' g2' g3' g4'; have hr1 := HR1.out.grown hg12 (by omega); have r0 := hr1.c0; have r1 := hr1.c1; have r2 := hr1.c2; have r3 := hr1.c3; have r4 := hr1.c4; have g0' := hr1.fz 0; have g1' := hr1.fz 1; have g2' := hr1.fz 2; have g3' := hr1.fz 3; have g4' := hr1.fz 4; have br2 := hr1.lt; have HR2 := Lib.hid hr1; clear hr1; have hlw2 : Below w1.heap.size w1 w2 := ⟨hg12.os, hg12.tape, hg12.output, hg12.size, fun j hj => hg12.block j hj (fun e => (by simp only [Option.some.injEq] at e; omega))⟩; obtain ⟨hkl, hkm, hkr⟩ := drop_cons hd1; obtain ⟨g', o', e', d0, -⟩ := HM.out.1 k1 hkl; simp only [Option.some.injEq, Addr.mk.injEq, and_true] at e'; obtain ⟨e1', e2'⟩ := e'; rw [hkm, ← e1', ← e2'] at d0; dsimp only at d0; clear e1' e2'; have a0 := cell_keep hlw2 d0; have kI : (k1 : Int) < (ms.length : Int) := (by omega); have c0 := hb2.c0; have c1 := hb2.c1; have bR := hb2.lt; have H2 := Lib.hid (And.intro hd1 (And.intro hb2 (And.intro hg12 hlw2))); clear hd1 hb2 hg2 hg12 hlw2 hkl hkm hkr d0)
              | (go_at_call 65; refine (HN.out w1 _ c HM.out.1 w2 k1 H2.out.1 H2.out.2.1 H2.out.2.2.2).mono ?_; rintro en w3 ⟨s0', i1', p2', l2', c2', p3', l3', c3', s4', k2, ct2, rfl, he, hb3, hg3⟩; clear r0 r1 r2 r3 r4 g0' g1' g2' g3' g4'; have hr1 := HR2.out.grown hg3 (by omega); have r0 := hr1.c0; have r1 := hr1.c1; have r2 := hr1.c2; have r3 := hr1.c3; have r4 := hr1.c4; have g0' := hr1.fz 0; have g1' := hr1.fz 1; have g2' := hr1.fz 2; have g3' := hr1.fz 3; have g4' := hr1.fz 4; have br3 := hr1.lt; have HR3 := Lib.hid hr1; clear hr1; have he1 : (e == 0) = false := (by rw [beq_eq_false_iff_ne]; exact he); have he2 : (e != 0) = true := (by unfold bne; rw [he1]; rfl); have H3 := Lib.hid (And.intro he (And.intro hb3 hg3)); clear he hb3 hg3))
            refine bodyPost_ret (by simp [results, Tryz.results37, go_sem, r0, r1, r2, r3, r4, br3]; try rfl) rfl ?_
            exact ⟨PPost.err HX.out H3.out.1, (below_set5 (((HA.out.trans (HM.out.2.1.mono HA.out.size)).trans (H2.out.2.2.2.mono (show w.heap.size ≤ w1.heap.size by omega))).trans ⟨H3.out.2.2.os, H3.out.2.2.tape, H3.out.2.2.output, H3.out.2.2.size, fun j hj => H3.out.2.2.block j (by omega) (fun e => by simp only [Option.some.injEq] at e; omega)⟩) (Nat.le_refl _) _ _ _ _ _).alloc (by simp; omega) _⟩
          | ok x =>
            obtain ⟨nd, rr, ct'⟩ := x
            rw [hn] at hX hnd
            replace hX : X = (match skipW rr with | [] => .ok nd | x :: _ => .error (x.pos, 8)) := hX
            have hw2 : ∀ (w1 : World) (p : Option Addr) (c : Nat), MarksC w1 p ms → ∀ (w4 : World) (k2 : Nat) (ct : Int), k2 ≤ ms.length → ms.drop k2 = rr → Bd w4 w1.heap.size (.slice p ms.length c) (k2 : Nat) ct s.size → Below w1.heap.size w1 w4 →
                Calls Tryz.prog 64 #[.pointer (some ⟨w1.heap.size, 0, none⟩)] w4 fun en w' => en = .returned (.int .i64 (atW (skipW rr))) ∧ (∃ k', Bd w' w1.heap.size (.slice p ms.length c) (k' : Nat) ct s.size) ∧ w4.grownBy w' (some w1.heap.size) := fun w1 p c hC w4 k2 ct hk hd hb hlow => by
              refine (white_c w1 p c ms hC.flat hl1 hl2 w4 w1.heap.size k2 ct _ hb hk hlow (Nat.le_refl _)).mono ?_
              rintro en w' ⟨rfl, k', h1, h2, h3, h4, h5⟩
              rw [hd]
              exact ⟨rfl, ⟨k', h4⟩, h5⟩
            cases hs2 : skipW rr with
            | nil =>
              rw [hs2] at hX hw2
              replace hX : X = .ok nd := hX
              have HA2 : Hid (∀ k2, ms.drop k2 = rr → True) := Lib.hid (fun _ _ => trivial)
              have hw2 : ∀ (w1 : World) (p : Option Addr) (c : Nat), MarksC w1 p ms → ∀ (w4 : World) (k2 : Nat) (ct : Int), k2 ≤ ms.length → ms.drop k2 = rr → Bd w4 w1.heap.size (.slice p ms.length c) (k2 : Nat) ct s.size → Below w1.heap.size w1 w4 →
                Calls Tryz.prog 64 #[.pointer (some ⟨w1.heap.size, 0, none⟩)] w4 fun en w' => en = .returned (.int .i64 (-1)) ∧ (∃ k', Bd w' w1.heap.size (.slice p ms.length c) (k' : Nat) ct s.size) ∧ w4.grownBy w' (some w1.heap.size) := hw2
              have HW := Lib.hid hwh; have HX := Lib.hid hX; have HN := Lib.hid hnd; have HW2 := Lib.hid hw2; clear hwh hX hnd hn hm hl0 hl2 hl3 hsk hw2 hs2
              go_enter Tryz.func37, Tryz.ntmps37
              go_wp2_with (first
                | (go_at_call 31; refine HC.out.mono ?_; rintro en w1 ⟨⟨p, c, rfl, hMC⟩, b1⟩; obtain ⟨g, o, rfl, -⟩ := hMC 0 hlen0; have hr1 := HR.out.below b1; have r0 := hr1.c0; have r1 := hr1.c1; have r2 := hr1.c2; have r3 := hr1.c3; have r4 := hr1.c4; have g0' := hr1.fz 0; have g1' := hr1.fz 1; have g2' := hr1.fz 2; have g3' := hr1.fz 3; have g4' := hr1.fz 4; have br1 := hr1.lt; have HR1 := Lib.hid hr1; clear hr1; have hbd := (heap_alloc_new w1 (.cells #[.slice (some ⟨g, o, none⟩) ms.length c, .int .i64 0, .int .i64 0, .int .i64 s.size] 92) : Bd (w1.alloc (.cells #[.slice (some ⟨g, o, none⟩) ms.length c, .int .i64 0, .int .i64 0, .int .i64 s.size] 92)) w1.heap.size (.slice (some ⟨g, o, none⟩) ms.length c) ((0 : Nat) : Int) ((0 : Nat) : Int) s.size); have HM := Lib.hid (And.intro hMC (And.intro b1 hbd)); clear hMC b1 hbd)
                | (go_at_call 64; have gd := H3; clear gd; refine (HW2.out w1 _ c HM.out.1 _ k2 _ H3.out.2.1 H3.out.2.2.1 H3.out.2.2.2.1 H3.out.2.2.2.2.2.1).mono ?_; rintro en w5 ⟨rfl, hb5, hg5⟩; clear r0 r1 r2 r3 r4 g0' g1' g2' g3' g4'; have hr1 := (HR3.out.below ((Below.refl _ w3).alloc (Nat.le_refl _) (.cells #[.string ⟨nd.name.toArray⟩, .int .i64 nd.pos, .slice pa3 nd.attrs.length ca3, .slice pk3 nd.kids.length ck3, .string ⟨nd.text.toArray⟩] 47))).grown hg5 (by omega); have r0 := hr1.c0; have r1 := hr1.c1; have r2 := hr1.c2; have r3 := hr1.c3; have r4 := hr1.c4; have g0' := hr1.fz 0; have g1' := hr1.fz 1; have g2' := hr1.fz 2; have g3' := hr1.fz 3; have g4' := hr1.fz 4; have br5 := hr1.lt; have HR5 := Lib.hid hr1; clear hr1; have hv5 := H3.out.2.2.2.2.2.2.grown hg5 (by omega); have v0 := hv5.c0; have v1 := hv5.c1; have v2 := hv5.c2; have v3 := hv5.c3; have v4 := hv5.c4; have y1 : w3.heap.size ≠ w.heap.size := (by omega); have y2 : w.heap.size ≠ w3.heap.size := (by omega); have H5 := Lib.hid hg5; clear hv5 hb5 hg5)
                | (go_at_call 64; refine (HW.out w1 _ c HM.out.1 _ HM.out.2.2 ((Below.refl _ w1).alloc (Nat.le_refl _) _)).mono ?_; rintro en w2 ⟨rfl, k1, hk1, hd1, hb2, hg2⟩; have hg12 := (grown_below ((Below.refl _ w1).alloc (Nat.le_refl _) (.cells #[.slice (some ⟨g, o, none⟩) ms.length c, .int .i64 0, .int .i64 0, .int .i64 s.size] 92)) (some w1.heap.size)).trans hg2; clear r0 r1 r2 r3 r4 g0' g1' g2' g3' g4'; have hr1 := HR1.out.grown hg12 (by omega); have r0 := hr1.c0; have r1 := hr1.c1; have r2 := hr1.c2; have r3 := hr1.c3; have r4 := hr1.c4; have g0' := hr1.fz 0; have g1' := hr1.fz 1; have g2' := hr1.fz 2; have g3' := hr1.fz 3; have g4' := hr1.fz 4; have br2 := hr1.lt; have HR2 := Lib.hid hr1; clear hr1; have hlw2 : Below w1.heap.size w1 w2 := ⟨hg12.os, hg12.tape, hg12.output, hg12.size, fun j hj => hg12.block j hj (fun e => (by simp only [Option.some.injEq] at e; omega))⟩; obtain ⟨hkl, hkm, hkr⟩ := drop_cons hd1; obtain ⟨g', o', e', d0, -⟩ := HM.out.1 k1 hkl; simp only [Option.some.injEq, Addr.mk.injEq, and_true] at e'; obtain ⟨e1', e2'⟩ := e'; rw [hkm, ← e1', ← e2'] at d0; dsimp only at d0; clear e1' e2'; have a0 := cell_keep hlw2 d0; have kI : (k1 : Int) < (ms.length : Int) := (by omega); have c0 := hb2.c0; have c1 := hb2.c1; have bR := hb2.lt; have H2 := Lib.hid (And.intro hd1 (And.intro hb2 (And.intro hg12 hlw2))); clear hd1 hb2 hg2 hg12 hlw2 hkl hkm hkr d0)
                | (go_at_call 65; refine (HN.out w1 _ c HM.out.1 w2 k1 H2.out.1 H2.out.2.1 H2.out.2.2.2).mono ?_; rintro en w3 ⟨pa3, ca3, pk3, ck3, k2, rfl, hnr, hk2a, hk2b, hd2, hct, hb3, hg3⟩; unfold nodeV; clear r0 r1 r2 r3 r4 g0' g1' g2' g3' g4'; have hr1 := HR2.out.grown hg3 (by omega); have r0 := hr1.c0; have r1 := hr1.c1; have r2 := hr1.c2; have r3 := hr1.c3; have r4 := hr1.c4; have g0' := hr1.fz 0; have g1' := hr1.fz 1; have g2' := hr1.fz 2; have g3' := hr1.fz 3; have g4' := hr1.fz 4; have br3 := hr1.lt; have HR3 := Lib.hid hr1; clear hr1; have hA2' := HA2.out k2 hd2; have hv4 := Nd5.new w3 nd.name nd.pos (.slice pa3 nd.attrs.length ca3) (.slice pk3 nd.kids.length ck3) nd.text; have hb4 := hb3.below ((Below.refl _ w3).alloc (Nat.le_refl _) (.cells #[.string ⟨nd.name.toArray⟩, .int .i64 nd.pos, .slice pa3 nd.attrs.length ca3, .slice pk3 nd.kids.length ck3, .string ⟨nd.text.toArray⟩] 47)); have hg34 := hg3.trans (grown_below ((Below.refl _ w3).alloc (Nat.le_refl _) (.cells #[.string ⟨nd.name.toArray⟩, .int .i64 nd.pos, .slice pa3 nd.attrs.length ca3, .slice pk3 nd.kids.length ck3, .string ⟨nd.text.toArray⟩] 47)) (some w1.heap.size)); have hl4 : Below w1.heap.size w1 (w3.alloc (.cells #[.string ⟨nd.name.toArray⟩, .int .i64 nd.pos, .slice pa3 nd.attrs.length ca3, .slice pk3 nd.kids.length ck3, .string ⟨nd.text.toArray⟩] 47)) := ⟨hg34.os.trans H2.out.2.2.2.os, hg34.tape.trans H2.out.2.2.2.tape, hg34.output.trans H2.out.2.2.2.output, Nat.le_trans H2.out.2.2.2.size hg34.size, fun j hj => (hg34.block j (by have := H2.out.2.2.2.size; omega) (fun e => (by simp only [Option.some.injEq] at e; omega))).trans (H2.out.2.2.2.block j hj)⟩; have H3 := Lib.hid (And.intro hnr (And.intro hk2b (And.intro hd2 (And.intro hb4 (And.intro hg34 (And.intro hl4 hv4)))))); have h3l := hb3.lt; clear hnr hk2a hk2b hd2 hct hb3 hg3 hb4 hg34 hl4 hv4))
              refine bodyPost_ret (by simp [results, Tryz.results37, go_sem, r0, r1, r2, r3, r4]; try rfl) rfl ?_
              have hfin : NodeR (set5 w5 w.heap.size (.string ⟨nd.name.toArray⟩) (.int .i64 nd.pos) (.slice pa3 nd.attrs.length ca3) (.slice pk3 nd.kids.length ck3) (.string ⟨nd.text.toArray⟩)) (fun _ => True) (nodeV nd pa3 ca3 pk3 ck3) nd := by
                refine H3.out.1.move (fun g hq hg => ⟨?_, trivial⟩)
                have hgr : g ≠ w.heap.size := by
                  rintro rfl
                  rcases hq with hq | hq
                  · obtain ⟨q, s1, s2, e1, e2⟩ := hq
                    have e1' := e1; have e2' := e2
                    unfold World.cell? at e1' e2'
                    rw [HR1.out] at e1' e2'
                    match q, e1', e2' with
                    | 0, _, h => simp at h
                    | 1, h, _ => simp at h
                    | 2, h, _ => simp at h
                    | 3, h, _ => simp at h
                    | 4, _, h => simp at h
                    | q + 5, h, _ => simp at h
                  · have := H2.out.2.2.2.size; omega
                have hgR : g ≠ w1.heap.size := by
                  rcases hq with hq | hq
                  · have := hq.lt; omega
                  · omega
                rw [heap_set5_ne _ _ _ _ _ _ hgr, H5.out.block g (by simp; omega) (fun e => hgR (by simpa using e))]
                exact ((Below.refl w3.heap.size w3).alloc (Nat.le_refl _) (.cells #[.string ⟨nd.name.toArray⟩, .int .i64 nd.pos, .slice pa3 nd.attrs.length ca3, .slice pk3 nd.kids.length ck3, .string ⟨nd.text.toArray⟩] 47)).block g hg
              unfold set5 at hfin
              rw [HX.out]
              exact ⟨⟨pa3, ca3, pk3, ck3, rfl, hfin⟩, below_set5 ((((HA.out.trans (HM.out.2.1.mono HA.out.size)).trans (H2.out.2.2.2.mono (show w.heap.size ≤ w1.heap.size by omega))).trans ⟨H3.out.2.2.2.2.1.os, H3.out.2.2.2.2.1.tape, H3.out.2.2.2.2.1.output, H3.out.2.2.2.2.1.size, fun j hj => H3.out.2.2.2.2.1.block j (by have := H2.out.2.2.2.size; omega) (fun e => by simp only [Option.some.injEq] at e; omega)⟩).trans ⟨H5.out.os, H5.out.tape, H5.out.output, H5.out.size, fun j hj => H5.out.block j (by simp; omega) (fun e => by simp only [Option.some.injEq] at e; omega)⟩) (Nat.le_refl _) _ _ _ _ _⟩
            | cons x rx =>
              rw [hs2] at hX hw2
              replace hX : X = .error (x.pos, 8) := hX
              have HA2 : Hid (∀ k2, ms.drop k2 = rr → 0 ≤ x.pos) := Lib.hid (fun k2 hd => hl3 x (List.mem_of_mem_drop (i := k2) (by rw [hd]; exact skipW_sub rr x (by rw [hs2]; simp))))
              have hw2 : ∀ (w1 : World) (p : Option Addr) (c : Nat), MarksC w1 p ms → ∀ (w4 : World) (k2 : Nat) (ct : Int), k2 ≤ ms.length → ms.drop k2 = rr → Bd w4 w1.heap.size (.slice p ms.length c) (k2 : Nat) ct s.size → Below w1.heap.size w1 w4 →
                Calls Tryz.prog 64 #[.pointer (some ⟨w1.heap.size, 0, none⟩)] w4 fun en w' => en = .returned (.int .i64 x.pos) ∧ (∃ k', Bd w' w1.heap.size (.slice p ms.length c) (k' : Nat) ct s.size) ∧ w4.grownBy w' (some w1.heap.size) := hw2
              have HW := Lib.hid hwh; have HX := Lib.hid hX; have HN := Lib.hid hnd; have HW2 := Lib.hid hw2; clear hwh hX hnd hn hm hl0 hl2 hl3 hsk hw2 hs2
              go_enter Tryz.func37, Tryz.ntmps37
              go_wp2_with (first
                | (go_at_call 31; refine HC.out.mono ?_; rintro en w1 ⟨⟨p, c, rfl, hMC⟩, b1⟩; obtain ⟨g, o, rfl, -⟩ := hMC 0 hlen0; have hr1 := HR.out.below b1; have r0 := hr1.c0; have r1 := hr1.c1; have r2 := hr1.c2; have r3 := hr1.c3; have r4 := hr1.c4; have g0' := hr1.fz 0; have g1' := hr1.fz 1; have g2' := hr1.fz 2; have g3' := hr1.fz 3; have g4' := hr1.fz 4; have br1 := hr1.lt; have HR1 := Lib.hid hr1; clear hr1; have hbd := (heap_alloc_new w1 (.cells #[.slice (some ⟨g, o, none⟩) ms.length c, .int .i64 0, .int .i64 0, .int .i64 s.size] 92) : Bd (w1.alloc (.cells #[.slice (some ⟨g, o, none⟩) ms.length c, .int .i64 0, .int .i64 0, .int .i64 s.size] 92)) w1.heap.size (.slice (some ⟨g, o, none⟩) ms.length c) ((0 : Nat) : Int) ((0 : Nat) : Int) s.size); have HM := Lib.hid (And.intro hMC (And.intro b1 hbd)); clear hMC b1 hbd)
                | (go_at_call 64; have gd := H3; clear gd; refine (HW2.out w1 _ c HM.out.1 _ k2 _ H3.out.2.1 H3.out.2.2.1 H3.out.2.2.2.1 H3.out.2.2.2.2.2.1).mono ?_; rintro en w5 ⟨rfl, hb5, hg5⟩; clear r0 r1 r2 r3 r4 g0' g1' g2' g3' g4'; have hr1 := (HR3.out.below ((Below.refl _ w3).alloc (Nat.le_refl _) (.cells #[.string ⟨nd.name.toArray⟩, .int .i64 nd.pos, .slice pa3 nd.attrs.length ca3, .slice pk3 nd.kids.length ck3, .string ⟨nd.text.toArray⟩] 47))).grown hg5 (by omega); have r0 := hr1.c0; have r1 := hr1.c1; have r2 := hr1.c2; have r3 := hr1.c3; have r4 := hr1.c4; have g0' := hr1.fz 0; have g1' := hr1.fz 1; have g2' := hr1.fz 2; have g3' := hr1.fz 3; have g4' := hr1.fz 4; have br5 := hr1.lt; have HR5 := Lib.hid hr1; clear hr1; have hv5 := H3.out.2.2.2.2.2.2.grown hg5 (by omega); have v0 := hv5.c0; have v1 := hv5.c1; have v2 := hv5.c2; have v3 := hv5.c3; have v4 := hv5.c4; have y1 : w3.heap.size ≠ w.heap.size := (by omega); have y2 : w.heap.size ≠ w3.heap.size := (by omega); have H5 := Lib.hid hg5; clear hv5 hb5 hg5)
                | (go_at_call 64; refine (HW.out w1 _ c HM.out.1 _ HM.out.2.2 ((Below.refl _ w1).alloc (Nat.le_refl _) _)).mono ?_; rintro en w2 ⟨rfl, k1, hk1, hd1, hb2, hg2⟩; have hg12 := (grown_below ((Below.refl _ w1).alloc (Nat.le_refl _) (.cells #[.slice (some ⟨g, o, none⟩) ms.length c, .int .i64 0, .int .i64 0, .int .i64 s.size] 92)) (some w1.heap.size)).trans hg2; clear r0 r1 r2 r3 r4 g0' g1' g2' g3' g4'; have hr1 := HR1.out.grown hg12 (by omega); have r0 := hr1.c0; have r1 := hr1.c1; have r2 := hr1.c2; have r3 := hr1.c3; have r4 := hr1.c4; have g0' := hr1.fz 0; have g1' := hr1.fz 1; have g2' := hr1.fz 2; have g3' := hr1.fz 3; have g4' := hr1.fz 4; have br2 := hr1.lt; have HR2 := Lib.hid hr1; clear hr1; have hlw2 : Below w1.heap.size w1 w2 := ⟨hg12.os, hg12.tape, hg12.output, hg12.size, fun j hj => hg12.block j hj (fun e => (by simp only [Option.some.injEq] at e; omega))⟩; obtain ⟨hkl, hkm, hkr⟩ := drop_cons hd1; obtain ⟨g', o', e', d0, -⟩ := HM.out.1 k1 hkl; simp only [Option.some.injEq, Addr.mk.injEq, and_true] at e'; obtain ⟨e1', e2'⟩ := e'; rw [hkm, ← e1', ← e2'] at d0; dsimp only at d0; clear e1' e2'; have a0 := cell_keep hlw2 d0; have kI : (k1 : Int) < (ms.length : Int) := (by omega); have c0 := hb2.c0; have c1 := hb2.c1; have bR := hb2.lt; have H2 := Lib.hid (And.intro hd1 (And.intro hb2 (And.intro hg12 hlw2))); clear hd1 hb2 hg2 hg12 hlw2 hkl hkm hkr d0)
                | (go_at_call 65; refine (HN.out w1 _ c HM.out.1 w2 k1 H2.out.1 H2.out.2.1 H2.out.2.2.2).mono ?_; rintro en w3 ⟨pa3, ca3, pk3, ck3, k2, rfl, hnr, hk2a, hk2b, hd2, hct, hb3, hg3⟩; unfold nodeV; clear r0 r1 r2 r3 r4 g0' g1' g2' g3' g4'; have hr1 := HR2.out.grown hg3 (by omega); have r0 := hr1.c0; have r1 := hr1.c1; have r2 := hr1.c2; have r3 := hr1.c3; have r4 := hr1.c4; have g0' := hr1.fz 0; have g1' := hr1.fz 1; have g2' := hr1.fz 2; have g3' := hr1.fz 3; have g4' := hr1.fz 4; have br3 := hr1.lt; have HR3 := Lib.hid hr1; clear hr1; have hA2' := HA2.out k2 hd2; have hv4 := Nd5.new w3 nd.name nd.pos (.slice pa3 nd.attrs.length ca3) (.slice pk3 nd.kids.length ck3) nd.text; have hb4 := hb3.below ((Below.refl _ w3).alloc (Nat.le_refl _) (.cells #[.string ⟨nd.name.toArray⟩, .int .i64 nd.pos, .slice pa3 nd.attrs.length ca3, .slice pk3 nd.kids.length ck3, .string ⟨nd.text.toArray⟩] 47)); have hg34 := hg3.trans (grown_below ((Below.refl _ w3).alloc (Nat.le_refl _) (.cells #[.string ⟨nd.name.toArray⟩, .int .i64 nd.pos, .slice pa3 nd.attrs.length ca3, .slice pk3 nd.kids.length ck3, .string ⟨nd.text.toArray⟩] 47)) (some w1.heap.size)); have hl4 : Below w1.heap.size w1 (w3.alloc (.cells #[.string ⟨nd.name.toArray⟩, .int .i64 nd.pos, .slice pa3 nd.attrs.length ca3, .slice pk3 nd.kids.length ck3, .string ⟨nd.text.toArray⟩] 47)) := ⟨hg34.os.trans H2.out.2.2.2.os, hg34.tape.trans H2.out.2.2.2.tape, hg34.output.trans H2.out.2.2.2.output, Nat.le_trans H2.out.2.2.2.size hg34.size, fun j hj => (hg34.block j (by have := H2.out.2.2.2.size; omega) (fun e => (by simp only [Option.some.injEq] at e; omega))).trans (H2.out.2.2.2.block j hj)⟩; have H3 := Lib.hid (And.intro hnr (And.intro hk2b (And.intro hd2 (And.intro hb4 (And.intro hg34 (And.intro hl4 hv4)))))); have h3l := hb3.lt; clear hnr hk2a hk2b hd2 hct hb3 hg3 hb4 hg34 hl4 hv4))
              refine bodyPost_ret (by simp [results, Tryz.results37, go_sem, r0, r1, r2, r3, r4]; try rfl) rfl ?_
              exact ⟨PPost.err HX.out (by decide), below_set5 ((((HA.out.trans (HM.out.2.1.mono HA.out.size)).trans (H2.out.2.2.2.mono (show w.heap.size ≤ w1.heap.size by omega))).trans ⟨H3.out.2.2.2.2.1.os, H3.out.2.2.2.2.1.tape, H3.out.2.2.2.2.1.output, H3.out.2.2.2.2.1.size, fun j hj => H3.out.2.2.2.2.1.block j (by have := H2.out.2.2.2.size; omega) (fun e => by simp only [Option.some.injEq] at e; omega)⟩).trans ⟨H5.out.os, H5.out.tape, H5.out.output, H5.out.size, fun j hj => H5.out.block j (by simp; omega) (fun e => by simp only [Option.some.injEq] at e; omega)⟩) (Nat.le_refl _) _ _ _ _ _⟩
end Go.Proofs.YtcicibeggkmlcaaGreatDoor
