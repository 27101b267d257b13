/- The walk of the law MarkBack. Conditions: the tables lie as they are laid; the marks lie in memory and are no greater than a bulk. -/
import Derived.Test.YtcicibeggkmlcaaGreatDoorLmY
namespace Go.Proofs.YtcicibeggkmlcaaGreatDoor
open Go.RowKit Go.Sof

theorem textF_err : ∀ (ms : List PMark) (out : Bytes) (full : Bool) (e : Int), textF ms out full = .error e → e = 2 ∨ e = 10
  | [], out, full, e, h => by
    unfold textF at h
    split at h
    · simp only [Except.error.injEq] at h; exact .inr h.symm
    · simp at h
  | m :: r, out, full, e, h => by
    unfold textF at h
    split at h
    · simp only [Except.error.injEq] at h; exact .inl h.symm
    · split at h <;> exact textF_err r _ _ e h

theorem below_own {w wA w' : World} {e size n : Nat} {v : Value} {xs : List Value} (hA : Below w.heap.size w wA) (hown : wA.ownsRow w.heap.size e size v n xs) (hg : wA.grownBy w' v.ownBlock) : Below w.heap.size w w' :=
  hA.trans ⟨hg.os, hg.tape, hg.output, hg.size, fun k hk => hg.block k (by have := hA.size; omega) (fun e => by have := (own_block hown k e.symm).1; omega)⟩

set_option maxRecDepth 1000000 in
set_option maxHeartbeats 4000000 in
theorem back_c (w : World) (p : Option Addr) (c : Nat) (ms : List PMark) (hw : WOK w) (hl : ms.length ≤ 2097152) (hz : ∀ m ∈ ms, MkSz m) (hm : MarksC w p ms) :
    Calls Tryz.prog 10 #[.slice p ms.length c] w fun en w' => en = .returned (.bool true) ∧ Below w.heap.size w w' := by
  obtain ⟨n, hn⟩ : ∃ n, n = ms.length := ⟨_, rfl⟩
  rw [← hn] at hl ⊢
  have HF := Lib.hid (And.intro hm (And.intro hz hn)); clear hm hz hn
  have HW := Lib.hid hw; clear hw
  obtain ⟨i0, z0, by0, hi0, hz0, hs0, hb0, hc0, hbl⟩ := info_mark
  have IM := Lib.hid (And.intro hi0 (And.intro hz0 (And.intro hs0 (And.intro hb0 hc0)))); clear hi0 hz0 hs0 hb0 hc0
  go_enter Tryz.func10, Tryz.ntmps10
  go_wp2_with fail
  go_loopg [3, 4] n (fun g v i wr => ∃ (k : Nat) (fs : List PMark) (xs : List Value), k ≤ n ∧ k ≤ 100 ∧ g = n - k ∧ i = .int .i64 k ∧ Below w.heap.size w wr ∧ wr.ownsRow w.heap.size 41 5 v fs.length xs ∧ MarksX w fs xs ∧ Few fs ∧ (∀ m ∈ fs, MkSz m) ∧ fs.length ≤ k)
  case atStart => exact ⟨0, [], [], Nat.zero_le _, by omega, rfl, rfl, Below.refl _ _, ⟨rfl, Or.inl ⟨rfl, rfl⟩⟩, rfl, Few.nil, by simp, by simp⟩
  case round =>
    obtain ⟨k, fs, xs, hk, hk100, hg, rfl, hb, hown, hx, hfew, hsz, hfl⟩ := hrel
    obtain ⟨pp, cc, rfl, hcc⟩ := marksX_form hown
    by_cases hgo : k < n ∧ k < 100
    --ROUND
    · obtain ⟨hkn, hkh⟩ := hgo
      have hka : k < ms.length := by rw [← HF.out.2.2]; exact hkn
      obtain ⟨g0, o0, rfl, hmc⟩ := HF.out.1 k hka
      have hzk := HF.out.2.1 _ (List.getElem_mem hka)
      generalize ms[k]'hka = m at *
      obtain ⟨K, P, N, al, T⟩ := m
      obtain ⟨e0, e1, e2, e4, pa, ca, e3, hca, hfa⟩ := hmc
      simp only at e0 e1 e2 e3 e4 hca hfa
      have a0 := cell_keep hb e0; have a1 := cell_keep hb e1; have a2 := cell_keep hb e2; have a3 := cell_keep hb e3; have a4 := cell_keep hb e4
      clear e0 e1 e2 e3 e4
      obtain ⟨na, hna⟩ : ∃ na, na = al.length := ⟨_, rfl⟩
      have hread := marksX_read hb hown hx
      obtain ⟨L, hL⟩ : ∃ L, L = fs.length := ⟨_, rfl⟩
      rw [← hL] at hown hfl hcc ⊢
      rw [← hna] at a3
      have hE := Mk5.new wr K P N (.slice pa na ca) T
      have c0 := hE.c0; have c4 := hE.c4
      have HE := Lib.hid hE; clear hE
      have hkI : (k : Int) < (n : Int) := by omega
      have hN1 : L + 1 ≤ maxLen := by unfold maxLen; omega
      have hN2 : (L + 1) * by0 ≤ 140737488355328 := Nat.le_trans (Nat.mul_le_mul (show L + 1 ≤ 101 by omega) hbl) (by omega)
      have HN := Lib.hid (And.intro hN1 hN2); clear hN1 hN2
      have hkI2 : (k : Int) < 100 := by omega
      have hLI : (L : Int) ≤ 100 := by omega
      have hLN : (0 : Int) ≤ (L : Int) := by omega
      have HB := Lib.hid (And.intro hb (And.intro hg (And.intro hown (And.intro hx (And.intro hfew (And.intro hsz hfl)))))); clear hb hg hown hx hfew hsz hfl
      have HM := Lib.hid (And.intro hzk (And.intro hca (And.intro hfa (And.intro hna hL)))); clear hzk hca hfa hna hL
      have HR := Lib.hid hread; clear hread
      by_cases h3 : K = 3
      · subst h3
        by_cases hT : T = []
        · subst hT
          go_wp2_with fail
          go_roundg (n - (k + 1))
          case measure => have := HB.out.2.1; omega
          case rel => exact ⟨k + 1, fs, xs, by omega, by omega, rfl, by go_num, HB.out.1.trans (((Below.refl _ wr).alloc (Nat.le_refl _) _).mono HB.out.1.size), by have e := HM.out.2.2.2.2; rw [← e]; exact ownsRow_below HB.out.2.2.1 ((Below.refl _ wr).alloc (Nat.le_refl _) _), HB.out.2.2.2.1, HB.out.2.2.2.2.1, HB.out.2.2.2.2.2.1, by have e := HM.out.2.2.2.2; have := HB.out.2.2.2.2.2.2; omega⟩
        · have hT2 : T.isEmpty = false := by simpa using hT
          have hLs : L = fs.length := HM.out.2.2.2.2
          by_cases hL0 : L = 0
          · subst hL0
            have hsn : (3 : Int) = 3 → T ≠ [] ∧ ∀ x, fs.getLast? = some x → x.kind ≠ 3 := fun _ => ⟨hT, fun x hx => by have : fs = [] := List.eq_nil_of_length_eq_zero (by omega); subst this; simp at hx⟩
            have HS := Lib.hid hsn; clear hsn hLs hT
            go_wp2_with (first
              | (at_builtin; refine wpList_append_own _ rfl (.tmp 49) (.tmp 51) 35 rfl w.heap.size 41 i0 z0 5 by0 Tryz.underlying35 IM.out.1 IM.out.2.1 IM.out.2.2.1 IM.out.2.2.2.1 IM.out.2.2.2.2 (by decide) (.slice pp 0 cc) 0 xs rfl (ownsRow_below HB.out.2.2.1 (((Below.refl _ wr).alloc (Nat.le_refl _) _).alloc (by simp) _)) ⟨wr.heap.size + 1, 0, none⟩ 1 1 (mkCell ⟨3, P, N, al, T⟩ (.slice pa na ca)) rfl rfl ?c1 ?c2 ?c3 ?c4 ?c5 ?_))
            case c1 => first | (intro j u hj; exact hj) | (intro j u hj; have := cells_new (wr.alloc (.cells #[.int .i64 3, .int .i64 P, .string ⟨N.toArray⟩, .slice pa na ca, .string ⟨T.toArray⟩] 41)) #[.int .i64 3, .int .i64 P, .string ⟨N.toArray⟩, .slice pa na ca, .string ⟨T.toArray⟩] 41 j u hj; rw [show (wr.alloc (.cells #[.int .i64 3, .int .i64 P, .string ⟨N.toArray⟩, .slice pa na ca, .string ⟨T.toArray⟩] 41)).heap.size = wr.heap.size + 1 from by simp] at this; exact this)
            case c2 => exact mkCell_one _ _ rfl
            case c3 => first | exact HN.out.1 | simpa using HN.out.1
            case c4 => first | exact HN.out.2 | simpa using HN.out.2
            case c5 => have := HB.out.1.size; simp; omega
            intro v4 w4 hown4 hgrow4 _
            obtain ⟨g4, cap4, rfl⟩ := row_form hown4
            have bw : Below w.heap.size w w4 := below_own (HB.out.1.trans ((((Below.refl _ wr).alloc (Nat.le_refl _) _).alloc (by simp) _).mono HB.out.1.size)) (ownsRow_below HB.out.2.2.1 (((Below.refl _ wr).alloc (Nat.le_refl _) _).alloc (by simp) _)) hgrow4
            have HV := Lib.hid (And.intro hown4 bw); clear hown4 hgrow4 bw
            go_wp2_with fail
            go_roundg (n - (k + 1))
            case measure => have := HB.out.2.1; omega
            case rel =>
              refine ⟨k + 1, fs ++ [⟨3, P, N, al, T⟩], xs ++ mkCell ⟨3, P, N, al, T⟩ (.slice pa na ca), by omega, by omega, rfl, by go_num, HV.out.2, ?_, HB.out.2.2.2.1.snoc (m := ⟨3, P, N, al, T⟩) (av := .slice pa na ca) ⟨pa, ca, by rw [HM.out.2.2.2.1], HM.out.2.1, HM.out.2.2.1⟩, HB.out.2.2.2.2.1.snoc (m := ⟨3, P, N, al, T⟩) (fun hk => HS.out (by first | trivial | exact hk)), ?_, ?_⟩
              · have e := HM.out.2.2.2.2; rw [List.length_append, List.length_singleton, ← e]; exact HV.out.1
              · intro m hm
                rcases List.mem_append.1 hm with h | h
                · exact HB.out.2.2.2.2.2.1 m h
                · obtain rfl := List.mem_singleton.1 h
                  exact HM.out.1
              · have e := HM.out.2.2.2.2; have := HB.out.2.2.2.2.2.2; rw [List.length_append, List.length_singleton, ← e]; omega
          · have hL1 : L - 1 < fs.length := by omega
            have hTr : decide ((0 : Int) < (L : Int)) = true := decide_eq_true (by omega)
            obtain ⟨gq, oq, hpp, hq, -⟩ := HR.out (L - 1) hL1
            have hla : fs.getLast? = some (fs[L - 1]'hL1) := by rw [List.getLast?_eq_getElem?, ← hLs]; exact List.getElem?_eq_getElem hL1
            generalize fs[L - 1]'hL1 = z at hq hla
            obtain ⟨M, rfl⟩ : ∃ M, L = M + 1 := ⟨L - 1, by omega⟩
            rw [show M + 1 - 1 = M from rfl] at hq
            subst hpp
            have hq' := cell_keep ((Below.refl _ wr).alloc (Nat.le_refl _) (.cells #[.int .i64 3, .int .i64 P, .string ⟨N.toArray⟩, .slice pa na ca, .string ⟨T.toArray⟩] 41)) hq
            by_cases hzk3 : z.kind = 3
            · rw [hzk3] at hq'
              clear hla hLs hT hq
              go_wp2_with fail
              go_roundg (n - (k + 1))
              case measure => have := HB.out.2.1; omega
              case rel => exact ⟨k + 1, fs, xs, by omega, by omega, rfl, by go_num, HB.out.1.trans (((Below.refl _ wr).alloc (Nat.le_refl _) _).mono HB.out.1.size), by have e := HM.out.2.2.2.2; rw [← e]; exact ownsRow_below HB.out.2.2.1 ((Below.refl _ wr).alloc (Nat.le_refl _) _), HB.out.2.2.2.1, HB.out.2.2.2.2.1, HB.out.2.2.2.2.2.1, by have e := HM.out.2.2.2.2; have := HB.out.2.2.2.2.2.2; omega⟩
            · have hsn : (3 : Int) = 3 → T ≠ [] ∧ ∀ x, fs.getLast? = some x → x.kind ≠ 3 := fun _ => ⟨hT, fun x hx => by rw [hla] at hx; cases hx; exact hzk3⟩
              have HS := Lib.hid hsn; clear hsn hla hLs hT hq
              have z3 : (z.kind == 3) = false := by rw [beq_eq_false_iff_ne]; exact hzk3
              generalize z.kind = Z at *
              go_wp2_with (first
                | (at_builtin; refine wpList_append_own _ rfl (.tmp 49) (.tmp 51) 35 rfl w.heap.size 41 i0 z0 5 by0 Tryz.underlying35 IM.out.1 IM.out.2.1 IM.out.2.2.1 IM.out.2.2.2.1 IM.out.2.2.2.2 (by decide) (.slice (some ⟨gq, oq, none⟩) (M + 1) cc) (M + 1) xs rfl (ownsRow_below HB.out.2.2.1 (((Below.refl _ wr).alloc (Nat.le_refl _) _).alloc (by simp) _)) ⟨wr.heap.size + 1, 0, none⟩ 1 1 (mkCell ⟨3, P, N, al, T⟩ (.slice pa na ca)) rfl rfl ?c1 ?c2 ?c3 ?c4 ?c5 ?_))
              case c1 => first | (intro j u hj; exact hj) | (intro j u hj; have := cells_new (wr.alloc (.cells #[.int .i64 3, .int .i64 P, .string ⟨N.toArray⟩, .slice pa na ca, .string ⟨T.toArray⟩] 41)) #[.int .i64 3, .int .i64 P, .string ⟨N.toArray⟩, .slice pa na ca, .string ⟨T.toArray⟩] 41 j u hj; rw [show (wr.alloc (.cells #[.int .i64 3, .int .i64 P, .string ⟨N.toArray⟩, .slice pa na ca, .string ⟨T.toArray⟩] 41)).heap.size = wr.heap.size + 1 from by simp] at this; exact this)
              case c2 => exact mkCell_one _ _ rfl
              case c3 => first | exact HN.out.1 | simpa using HN.out.1
              case c4 => first | exact HN.out.2 | simpa using HN.out.2
              case c5 => have := HB.out.1.size; simp; omega
              intro v4 w4 hown4 hgrow4 _
              obtain ⟨g4, cap4, rfl⟩ := row_form hown4
              have bw : Below w.heap.size w w4 := below_own (HB.out.1.trans ((((Below.refl _ wr).alloc (Nat.le_refl _) _).alloc (by simp) _).mono HB.out.1.size)) (ownsRow_below HB.out.2.2.1 (((Below.refl _ wr).alloc (Nat.le_refl _) _).alloc (by simp) _)) hgrow4
              have HV := Lib.hid (And.intro hown4 bw); clear hown4 hgrow4 bw
              go_wp2_with fail
              go_roundg (n - (k + 1))
              case measure => have := HB.out.2.1; omega
              case rel =>
                refine ⟨k + 1, fs ++ [⟨3, P, N, al, T⟩], xs ++ mkCell ⟨3, P, N, al, T⟩ (.slice pa na ca), by omega, by omega, rfl, by go_num, HV.out.2, ?_, HB.out.2.2.2.1.snoc (m := ⟨3, P, N, al, T⟩) (av := .slice pa na ca) ⟨pa, ca, by rw [HM.out.2.2.2.1], HM.out.2.1, HM.out.2.2.1⟩, HB.out.2.2.2.2.1.snoc (m := ⟨3, P, N, al, T⟩) (fun hk => HS.out (by first | trivial | exact hk)), ?_, ?_⟩
                · have e := HM.out.2.2.2.2; rw [List.length_append, List.length_singleton, ← e]; exact HV.out.1
                · intro m hm
                  rcases List.mem_append.1 hm with h | h
                  · exact HB.out.2.2.2.2.2.1 m h
                  · obtain rfl := List.mem_singleton.1 h
                    exact HM.out.1
                · have e := HM.out.2.2.2.2; have := HB.out.2.2.2.2.2.2; rw [List.length_append, List.length_singleton, ← e]; omega
      · have k3 : (K == 3) = false := by rw [beq_eq_false_iff_ne]; exact h3
        have hsn : K = 3 → T ≠ [] ∧ ∀ x, fs.getLast? = some x → x.kind ≠ 3 := fun e => absurd e h3
        have HS := Lib.hid hsn; clear hsn
        go_wp2_with (first
          | (at_builtin; refine wpList_append_own _ rfl (.tmp 49) (.tmp 51) 35 rfl w.heap.size 41 i0 z0 5 by0 Tryz.underlying35 IM.out.1 IM.out.2.1 IM.out.2.2.1 IM.out.2.2.2.1 IM.out.2.2.2.2 (by decide) (.slice pp L cc) L xs rfl (ownsRow_below HB.out.2.2.1 (((Below.refl _ wr).alloc (Nat.le_refl _) _).alloc (by simp) _)) ⟨wr.heap.size + 1, 0, none⟩ 1 1 (mkCell ⟨K, P, N, al, T⟩ (.slice pa na ca)) rfl rfl ?c1 ?c2 ?c3 ?c4 ?c5 ?_))
        case c1 => first | (intro j u hj; exact hj) | (intro j u hj; have := cells_new (wr.alloc (.cells #[.int .i64 K, .int .i64 P, .string ⟨N.toArray⟩, .slice pa na ca, .string ⟨T.toArray⟩] 41)) #[.int .i64 K, .int .i64 P, .string ⟨N.toArray⟩, .slice pa na ca, .string ⟨T.toArray⟩] 41 j u hj; rw [show (wr.alloc (.cells #[.int .i64 K, .int .i64 P, .string ⟨N.toArray⟩, .slice pa na ca, .string ⟨T.toArray⟩] 41)).heap.size = wr.heap.size + 1 from by simp] at this; exact this)
        case c2 => exact mkCell_one _ _ rfl
        case c3 => first | exact HN.out.1 | simpa using HN.out.1
        case c4 => first | exact HN.out.2 | simpa using HN.out.2
        case c5 => have := HB.out.1.size; simp; omega
        intro v4 w4 hown4 hgrow4 _
        obtain ⟨g4, cap4, rfl⟩ := row_form hown4
        have bw : Below w.heap.size w w4 := below_own (HB.out.1.trans ((((Below.refl _ wr).alloc (Nat.le_refl _) _).alloc (by simp) _).mono HB.out.1.size)) (ownsRow_below HB.out.2.2.1 (((Below.refl _ wr).alloc (Nat.le_refl _) _).alloc (by simp) _)) hgrow4
        have HV := Lib.hid (And.intro hown4 bw); clear hown4 hgrow4 bw
        go_wp2_with fail
        go_roundg (n - (k + 1))
        case measure => have := HB.out.2.1; omega
        case rel =>
          refine ⟨k + 1, fs ++ [⟨K, P, N, al, T⟩], xs ++ mkCell ⟨K, P, N, al, T⟩ (.slice pa na ca), by omega, by omega, rfl, by go_num, HV.out.2, ?_, HB.out.2.2.2.1.snoc (m := ⟨K, P, N, al, T⟩) (av := .slice pa na ca) ⟨pa, ca, by rw [HM.out.2.2.2.1], HM.out.2.1, HM.out.2.2.1⟩, HB.out.2.2.2.2.1.snoc (m := ⟨K, P, N, al, T⟩) (fun hk => HS.out (by first | trivial | exact hk)), ?_, ?_⟩
          · have e := HM.out.2.2.2.2; rw [List.length_append, List.length_singleton, ← e]; exact HV.out.1
          · intro m hm
            rcases List.mem_append.1 hm with h | h
            · exact HB.out.2.2.2.2.2.1 m h
            · obtain rfl := List.mem_singleton.1 h
              exact HM.out.1
          · have e := HM.out.2.2.2.2; have := HB.out.2.2.2.2.2.2; rw [List.length_append, List.length_singleton, ← e]; omega
    --END
    · have hread := marksX_read hb hown hx
      have HR := Lib.hid (HW.out.below hb)
      have HB := Lib.hid hb
      obtain ⟨L, hL⟩ : ∃ L, L = fs.length := ⟨_, rfl⟩
      rw [← hL] at hcc hfl ⊢
      clear hg hown hx hb
      by_cases hkn : k < n
      · obtain rfl : k = 100 := by omega
        have hkI : (100 : Int) < (n : Int) := by omega
        clear hgo
        cases hX : textP fs with
        | error x =>
          have hne : x ≠ 0 := by rcases textF_err _ _ _ _ hX with h | h <;> omega
          have he1 : (x == 0) = false := by rw [beq_eq_false_iff_ne]; exact hne
          have he2 : (x != 0) = true := by unfold bne; rw [he1]; rfl
          have t1 : ∀ W, WOK W → Below wr.heap.size wr W → Calls Tryz.prog 28 #[.slice pp L cc] W fun en w' => en = .returned (.tuple #[.string ⟨#[]⟩, .int .i64 x]) ∧ Below W.heap.size W w' := fun W hW hB => by
            have := text_c W pp cc fs hW (by omega) hsz (hread.below hB) _ hX
            rw [← hL] at this
            exact this
          have HC := Lib.hid t1; clear t1 hX hne hsz hread hL hfew hfl
          go_wp2_with (first
            | (go_at_call 28; refine (HC.out _ HR.out (Below.refl _ _)).mono ?_; rintro en w1 ⟨rfl, b1⟩)
            | (go_at_call 30; first | (have gd := b2; clear gd; refine (awm_c _ (HR.out.below b2)).mono ?_; rintro en w3 ⟨rfl, b3'⟩; have b3 := b2.trans (b3'.mono b2.size); clear b3') | (refine (awm_c _ (HR.out.below b1)).mono ?_; rintro en w2 ⟨rfl, b2'⟩; have b2 := b1.trans (b2'.mono b1.size); clear b2')))
          go_ret
          exact ⟨rfl, HB.out.trans (b3.mono HB.out.size)⟩
        | ok T =>
          obtain ⟨hTl, ms', hms', hst⟩ := marks_back fs T hfew hX
          have hlen : ms'.length = L := by have := congrArg List.length hst; rw [List.length_map, List.length_map] at this; omega
          have t1 : ∀ W, WOK W → Below wr.heap.size wr W → Calls Tryz.prog 28 #[.slice pp L cc] W fun en w' => en = .returned (.tuple #[.string ⟨T.toArray⟩, .int .i64 0]) ∧ Below W.heap.size W w' := fun W hW hB => by
            have := text_c W pp cc fs hW (by omega) hsz (hread.below hB) _ hX
            rw [← hL] at this
            exact this
          have t2 : ∀ W, WOK W → Calls Tryz.prog 31 #[.string ⟨T.toArray⟩] W fun en w' => (∃ p c, en = .returned (.tuple #[.slice p L c, .int .i64 0, .int .i64 0]) ∧ MarksF w' p ms') ∧ Below W.heap.size W w' := fun W hW => by
            refine (marks_c W ⟨T.toArray⟩ (by show T.toArray.size ≤ _; rw [List.size_toArray]; omega) hW).mono ?_
            rintro en w' ⟨h1, b⟩
            rw [show (⟨T.toArray⟩ : ByteArray).data.toList = T from rfl, hms'] at h1
            obtain ⟨out, xs, rfl, ho, hmm⟩ := h1
            obtain ⟨p, c, rfl, hf⟩ := (marks_read ho hmm).flat
            rw [hlen]
            exact ⟨⟨p, c, rfl, hf⟩, b⟩
          have t3 : ∀ W p c, Below wr.heap.size wr W → MarksF W p ms' → Calls Tryz.prog 32 #[.slice p L c, .slice pp L cc] W fun en w' => en = .returned (.bool true) ∧ Below W.heap.size W w' := fun W p c hB hf => by
            have := same_f W p pp c cc ms' fs hf (hread.below hB).flat hst (by omega) (fun m hm => by
              have h1 : strip m ∈ fs.map strip := by rw [← hst]; exact List.mem_map_of_mem hm
              obtain ⟨m2, h2, h3⟩ := List.mem_map.1 h1
              have h4 := (hsz m2 h2).attrs
              have h5 : m2.attrs = m.attrs := by have := congrArg PMark.attrs h3; simpa [strip] using this
              rw [← h5]; exact h4)
            rw [hlen, ← hL] at this
            exact this
          have HC := Lib.hid (And.intro t1 (And.intro t2 t3)); clear t1 t2 t3 hX hsz hread hL hfew hfl hms' hst hlen hTl
          go_wp2_with (first
            | (go_at_call 28; refine (HC.out.1 _ HR.out (Below.refl _ _)).mono ?_; rintro en w1 ⟨rfl, b1⟩)
            | (go_at_call 30; refine (awm_c _ (HR.out.below b1)).mono ?_; rintro en w2 ⟨rfl, b2'⟩; have b2 := b1.trans (b2'.mono b1.size); clear b2')
            | (go_at_call 31; refine (HC.out.2.1 _ (HR.out.below b2)).mono ?_; rintro en w3 ⟨⟨p3, c3, rfl, f3⟩, b3'⟩; have b3 := b2.trans (b3'.mono b2.size); clear b3')
            | (go_at_call 32; refine (HC.out.2.2 _ _ _ b3 f3).mono ?_; rintro en w4 ⟨rfl, b4'⟩; have b4 := b3.trans (b4'.mono b3.size); clear b4'))
          go_ret
          exact ⟨rfl, HB.out.trans (b4.mono HB.out.size)⟩
      · have hkI : decide ((k : Int) < (n : Int)) = false := decide_eq_false (by omega)
        clear hgo
        cases hX : textP fs with
        | error x =>
          have hne : x ≠ 0 := by rcases textF_err _ _ _ _ hX with h | h <;> omega
          have he1 : (x == 0) = false := by rw [beq_eq_false_iff_ne]; exact hne
          have he2 : (x != 0) = true := by unfold bne; rw [he1]; rfl
          have t1 : ∀ W, WOK W → Below wr.heap.size wr W → Calls Tryz.prog 28 #[.slice pp L cc] W fun en w' => en = .returned (.tuple #[.string ⟨#[]⟩, .int .i64 x]) ∧ Below W.heap.size W w' := fun W hW hB => by
            have := text_c W pp cc fs hW (by omega) hsz (hread.below hB) _ hX
            rw [← hL] at this
            exact this
          have HC := Lib.hid t1; clear t1 hX hne hsz hread hL hfew hfl
          go_wp2_with (first
            | (go_at_call 28; refine (HC.out _ HR.out (Below.refl _ _)).mono ?_; rintro en w1 ⟨rfl, b1⟩)
            | (go_at_call 30; first | (have gd := b2; clear gd; refine (awm_c _ (HR.out.below b2)).mono ?_; rintro en w3 ⟨rfl, b3'⟩; have b3 := b2.trans (b3'.mono b2.size); clear b3') | (refine (awm_c _ (HR.out.below b1)).mono ?_; rintro en w2 ⟨rfl, b2'⟩; have b2 := b1.trans (b2'.mono b1.size); clear b2')))
          go_ret
          exact ⟨rfl, HB.out.trans (b3.mono HB.out.size)⟩
        | ok T =>
          obtain ⟨hTl, ms', hms', hst⟩ := marks_back fs T hfew hX
          have hlen : ms'.length = L := by have := congrArg List.length hst; rw [List.length_map, List.length_map] at this; omega
          have t1 : ∀ W, WOK W → Below wr.heap.size wr W → Calls Tryz.prog 28 #[.slice pp L cc] W fun en w' => en = .returned (.tuple #[.string ⟨T.toArray⟩, .int .i64 0]) ∧ Below W.heap.size W w' := fun W hW hB => by
            have := text_c W pp cc fs hW (by omega) hsz (hread.below hB) _ hX
            rw [← hL] at this
            exact this
          have t2 : ∀ W, WOK W → Calls Tryz.prog 31 #[.string ⟨T.toArray⟩] W fun en w' => (∃ p c, en = .returned (.tuple #[.slice p L c, .int .i64 0, .int .i64 0]) ∧ MarksF w' p ms') ∧ Below W.heap.size W w' := fun W hW => by
            refine (marks_c W ⟨T.toArray⟩ (by show T.toArray.size ≤ _; rw [List.size_toArray]; omega) hW).mono ?_
            rintro en w' ⟨h1, b⟩
            rw [show (⟨T.toArray⟩ : ByteArray).data.toList = T from rfl, hms'] at h1
            obtain ⟨out, xs, rfl, ho, hmm⟩ := h1
            obtain ⟨p, c, rfl, hf⟩ := (marks_read ho hmm).flat
            rw [hlen]
            exact ⟨⟨p, c, rfl, hf⟩, b⟩
          have t3 : ∀ W p c, Below wr.heap.size wr W → MarksF W p ms' → Calls Tryz.prog 32 #[.slice p L c, .slice pp L cc] W fun en w' => en = .returned (.bool true) ∧ Below W.heap.size W w' := fun W p c hB hf => by
            have := same_f W p pp c cc ms' fs hf (hread.below hB).flat hst (by omega) (fun m hm => by
              have h1 : strip m ∈ fs.map strip := by rw [← hst]; exact List.mem_map_of_mem hm
              obtain ⟨m2, h2, h3⟩ := List.mem_map.1 h1
              have h4 := (hsz m2 h2).attrs
              have h5 : m2.attrs = m.attrs := by have := congrArg PMark.attrs h3; simpa [strip] using this
              rw [← h5]; exact h4)
            rw [hlen, ← hL] at this
            exact this
          have HC := Lib.hid (And.intro t1 (And.intro t2 t3)); clear t1 t2 t3 hX hsz hread hL hfew hfl hms' hst hlen hTl
          go_wp2_with (first
            | (go_at_call 28; refine (HC.out.1 _ HR.out (Below.refl _ _)).mono ?_; rintro en w1 ⟨rfl, b1⟩)
            | (go_at_call 30; refine (awm_c _ (HR.out.below b1)).mono ?_; rintro en w2 ⟨rfl, b2'⟩; have b2 := b1.trans (b2'.mono b1.size); clear b2')
            | (go_at_call 31; refine (HC.out.2.1 _ (HR.out.below b2)).mono ?_; rintro en w3 ⟨⟨p3, c3, rfl, f3⟩, b3'⟩; have b3 := b2.trans (b3'.mono b2.size); clear b3')
            | (go_at_call 32; refine (HC.out.2.2 _ _ _ b3 f3).mono ?_; rintro en w4 ⟨rfl, b4'⟩; have b4 := b3.trans (b4'.mono b3.size); clear b4'))
          go_ret
          exact ⟨rfl, HB.out.trans (b4.mono HB.out.size)⟩
end Go.Proofs.YtcicibeggkmlcaaGreatDoor
