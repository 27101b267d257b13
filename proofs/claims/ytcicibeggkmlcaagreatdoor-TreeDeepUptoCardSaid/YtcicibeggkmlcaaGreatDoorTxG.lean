/- The walk of the reference's Text. Conditions: the marks lie in memory and are no greater than a bulk. -/
import Derived.Test.YtcicibeggkmlcaaGreatDoorTxAJ6
import Derived.Test.YtcicibeggkmlcaaGreatDoorRfBJ5
namespace Go.Proofs.YtcicibeggkmlcaaGreatDoor
open Go.RowKit Go.Sof

set_option maxRecDepth 1000000 in
set_option maxHeartbeats 16000000 in
theorem rtext_c (w : World) (p : Option Addr) (c : Nat) (ms : List PMark) (hl : ms.length ≤ 2097152) (hz : ∀ m ∈ ms, MkSz m) (hm : MarksC w p ms) (X : Except Int Bytes) (hX : textP ms = X) :
    Calls Tryz.prog 29 #[.slice p ms.length c] w fun en w' => TextPost X en ∧ Below w.heap.size w w' := by
  obtain ⟨n, hn⟩ : ∃ n, n = ms.length := ⟨_, rfl⟩
  rw [← hn] at hl ⊢
  have HF := Lib.hid (And.intro hm (And.intro hz (And.intro hX hn))); clear hm hz hX hn
  go_enter Tryz.func29, Tryz.ntmps29
  go_wp2_with fail
  go_loopg [4, 5, 6] n (fun g ov f i wr => Below w.heap.size w wr ∧ ∃ (k : Nat) (O : Bytes) (fb : Bool), k ≤ n ∧ g = n - k ∧ i = .int .i64 k ∧ f = .bool fb ∧ ov = .string ⟨O.toArray⟩ ∧ O.length ≤ 65536 ∧ textF (ms.drop k) O fb = X)
  case atStart => exact ⟨Below.refl _ w, 0, [], false, Nat.zero_le _, rfl, rfl, rfl, rfl, by simp, HF.out.2.2.1⟩
  case round =>
    obtain ⟨hb, k, O, fb, hk, hg, rfl, rfl, rfl, hO, hx⟩ := hrel
    obtain ⟨wo, rfl⟩ : ∃ wo : World, wo = wr := ⟨_, rfl⟩
    obtain ⟨go, rfl⟩ : ∃ go : Nat, go = gk := ⟨_, rfl⟩
    by_cases hlt : k < n
    · have hka : k < ms.length := by rw [← HF.out.2.2.2]; exact hlt
      obtain ⟨g, o, rfl, hmc⟩ := HF.out.1 k hka
      have hzk := HF.out.2.1 _ (List.getElem_mem hka)
      rw [List.drop_eq_getElem_cons hka] at hx
      generalize ms[k]'hka = m at *
      obtain ⟨e0, e1, e2, e4, pa, ca, e3, hca, hfa⟩ := hmc.below hb
      have hstep : textF (m :: ms.drop (k + 1)) O fb = match oneP m with
          | none => .error 2
          | some s => if fb = true ∨ 65536 < O.length + s.length then textF (ms.drop (k + 1)) O true else textF (ms.drop (k + 1)) (O ++ s) false := rfl
      rw [hstep] at hx
      have hkI : (k : Int) < (n : Int) := by omega
      have hkI0 : (0 : Int) ≤ (k : Int) := by omega
      have HB := Lib.hid (And.intro hb hg); clear hb hg hmc hstep
      obtain ⟨K, P, N, al, T⟩ := m
      obtain ⟨z1, z2, z3, z4, z5⟩ := hzk
      simp only at e0 e1 e2 e3 e4 hca hfa z1 z2 z3 z4 z5
      by_cases h2 : K = 2 ∧ nameB N = true ∧ T = [] ∧ al = []
      · obtain ⟨rfl, hnb, rfl, rfl⟩ := h2
        have hone : oneP ⟨2, P, N, [], []⟩ = some (60 :: 47 :: (N ++ [62])) := by
          unfold oneP; simp [hnb]
        rw [hone] at hx
        simp only at hx
        have hnm := fun W => rname_c ⟨N.toArray⟩ W
        rw [show (ByteArray.mk N.toArray).data.toList = N from rfl, hnb] at hnm
        have HC := Lib.hid (And.intro hnm hx); clear hnm hx hone hfa z4 z5
        cases fb with
        | true =>
          have hx1 : textF (ms.drop (k + 1)) O true = X := by rw [← HC.out.2, if_pos (Or.inl rfl)]
          have HX1 := Lib.hid hx1; clear hx1
          go_wp2_with (first | (go_at_call 22; refine (HC.out.1 _).mono ?_; rintro en w2 ⟨rfl, hw2⟩; have h5 := Mk5.new wo 2 P N (.slice pa 0 ca) []; have hbb : Below wo.heap.size wo w2 := (by rw [← hw2]; exact (Below.refl _ wo).alloc (Nat.le_refl _) _); replace h5 : Mk5 w2 wo.heap.size 2 P N (.slice pa 0 ca) [] := (by rw [← hw2]; exact h5); have m0 := h5.c0; have m2 := h5.c2; have m3 := h5.c3; have m4 := h5.c4; have H5 := Lib.hid h5; clear hw2 h5))
          go_loopg [8, 11] 0 (fun g2 sv iv wi => wi = w2 ∧ sv = .string (ByteArray.mk #[60, 47] ++ ByteArray.mk N.toArray) ∧ iv = .int .i64 0)
          case atStart => exact ⟨rfl, rfl, rfl⟩
          case round =>
            obtain ⟨rfl, rfl, rfl⟩ := hrel
            go_wp2_with fail
            go_roundg (n - (k + 1))
            case measure => have := HB.out.2; omega
            case rel => exact ⟨HB.out.1.trans (hbb.mono HB.out.1.size), k + 1, O, true, by omega, rfl, by go_num, rfl, rfl, hO, HX1.out⟩
        | false =>
          by_cases hbig : 65536 < O.length + (60 :: 47 :: (N ++ [62])).length
          · have hD : decide ((65536 : Int) < (O.length : Int) + (2 + (N.length : Int) + 1)) = true := decide_eq_true (by simp at hbig ⊢; omega)
            have hx1 : textF (ms.drop (k + 1)) O true = X := by rw [← HC.out.2, if_pos (Or.inr hbig)]
            have HX1 := Lib.hid hx1; clear hx1 hbig
            go_wp2_with (first | (go_at_call 22; refine (HC.out.1 _).mono ?_; rintro en w2 ⟨rfl, hw2⟩; have h5 := Mk5.new wo 2 P N (.slice pa 0 ca) []; have hbb : Below wo.heap.size wo w2 := (by rw [← hw2]; exact (Below.refl _ wo).alloc (Nat.le_refl _) _); replace h5 : Mk5 w2 wo.heap.size 2 P N (.slice pa 0 ca) [] := (by rw [← hw2]; exact h5); have m0 := h5.c0; have m2 := h5.c2; have m3 := h5.c3; have m4 := h5.c4; have H5 := Lib.hid h5; clear hw2 h5))
            go_loopg [8, 11] 0 (fun g2 sv iv wi => wi = w2 ∧ sv = .string (ByteArray.mk #[60, 47] ++ ByteArray.mk N.toArray) ∧ iv = .int .i64 0)
            case atStart => exact ⟨rfl, rfl, rfl⟩
            case round =>
              obtain ⟨rfl, rfl, rfl⟩ := hrel
              go_wp2_with fail
              go_roundg (n - (k + 1))
              case measure => have := HB.out.2; omega
              case rel => exact ⟨HB.out.1.trans (hbb.mono HB.out.1.size), k + 1, O, true, by omega, rfl, by go_num, rfl, rfl, hO, HX1.out⟩
          · have hD : decide ((65536 : Int) < (O.length : Int) + (2 + (N.length : Int) + 1)) = false := decide_eq_false (by simp at hbig ⊢; omega)
            have hx1 : textF (ms.drop (k + 1)) (O ++ (60 :: 47 :: (N ++ [62]))) false = X := by rw [← HC.out.2, if_neg (by simpa using hbig)]
            have HX1 := Lib.hid (And.intro hx1 hbig); clear hx1 hbig
            go_wp2_with (first | (go_at_call 22; refine (HC.out.1 _).mono ?_; rintro en w2 ⟨rfl, hw2⟩; have h5 := Mk5.new wo 2 P N (.slice pa 0 ca) []; have hbb : Below wo.heap.size wo w2 := (by rw [← hw2]; exact (Below.refl _ wo).alloc (Nat.le_refl _) _); replace h5 : Mk5 w2 wo.heap.size 2 P N (.slice pa 0 ca) [] := (by rw [← hw2]; exact h5); have m0 := h5.c0; have m2 := h5.c2; have m3 := h5.c3; have m4 := h5.c4; have H5 := Lib.hid h5; clear hw2 h5))
            go_loopg [8, 11] 0 (fun g2 sv iv wi => wi = w2 ∧ sv = .string (ByteArray.mk #[60, 47] ++ ByteArray.mk N.toArray) ∧ iv = .int .i64 0)
            case atStart => exact ⟨rfl, rfl, rfl⟩
            case round =>
              obtain ⟨rfl, rfl, rfl⟩ := hrel
              go_wp2_with fail
              go_roundg (n - (k + 1))
              case measure => have := HB.out.2; omega
              case rel =>
                refine ⟨HB.out.1.trans (hbb.mono HB.out.1.size), k + 1, O ++ (60 :: 47 :: (N ++ [62])), false, by omega, rfl, by go_num, rfl, ?_, by rw [List.length_append]; have := HX1.out.2; omega, HX1.out.1⟩
                first | (congr 1; done) | (congr 1; apply ByteArray.ext; simp; done) | (skip)
      · by_cases h3 : K = 3
        · subst h3
          have hone : oneP ⟨3, P, N, al, T⟩ = if bad T = none ∧ N = [] ∧ al = [] then some (escL T) else none := rfl
          obtain ⟨na, hna⟩ : ∃ na, na = al.length := ⟨_, rfl⟩
          rw [← hna] at e3
          have hesc := fun W => resc_c ⟨T.toArray⟩ W (by show (List.toArray T).size ≤ _; simp; omega)
          rw [show (ByteArray.mk T.toArray).data.toList = T from rfl] at hesc
          clear hfa z4 z5 h2
          cases hbT : bad T with
          | some j =>
            rw [hone, if_neg (by rw [hbT]; simp)] at hx
            simp only at hx
            subst hx
            rw [show escR T = ([], 6) from by unfold escR; rw [if_neg (by rw [hbT]; simp)], show escV ([], 6) = .tuple #[.string ⟨#[]⟩, .int .i64 6] from rfl] at hesc
            have HC := Lib.hid (And.intro hesc True.intro); clear hesc hone hbT hna
            go_wp2_with (first | (go_at_call 24; refine (HC.out.1 _).mono ?_; rintro en w2 ⟨rfl, hw2⟩; have h5 := Mk5.new wo 3 P N (.slice pa na ca) T; have hbb : Below wo.heap.size wo w2 := (by rw [← hw2]; exact (Below.refl _ wo).alloc (Nat.le_refl _) _); replace h5 : Mk5 w2 wo.heap.size 3 P N (.slice pa na ca) T := (by rw [← hw2]; exact h5); have m0 := h5.c0; have m2 := h5.c2; have m3 := h5.c3; have m4 := h5.c4; have H5 := Lib.hid h5; clear hw2 h5))
            go_ret2
            exact ⟨rfl, HB.out.1.trans (hbb.mono HB.out.1.size)⟩
          | none =>
            rw [show escR T = (escL T, 0) from by unfold escR; rw [if_pos hbT], show escV (escL T, 0) = .tuple #[.string ⟨(escL T).toArray⟩, .int .i64 0] from rfl] at hesc
            have hel := escL_le T
            obtain ⟨Sx, hSx⟩ : ∃ Sx : ByteArray, Sx = ⟨(escL T).toArray⟩ := ⟨_, rfl⟩
            have hSs : Sx.size = (escL T).length := by rw [hSx]; show (List.toArray _).size = _; simp
            rw [← hSx] at hesc
            have hSz : Sx.size ≤ 12582912 := by omega
            have HS5 := Lib.hid (And.intro hSs hSx); clear hSs hSx hel
            by_cases hN : N = []
            · have hN2 : N.isEmpty = true := by rw [hN]; rfl
              by_cases hal : al = []
              · rw [hone, if_pos ⟨hbT, hN, hal⟩] at hx
                simp only at hx
                have hna0 : na = 0 := by rw [hna, hal]; rfl
                subst hna0
                have HC := Lib.hid (And.intro hesc hx); clear hesc hx hone hbT hN hal hna
                cases fb with
                | true =>
                  have hx1 : textF (ms.drop (k + 1)) O true = X := by rw [← HC.out.2, if_pos (Or.inl rfl)]
                  have HX1 := Lib.hid hx1; clear hx1
                  go_wp2_with (first | (go_at_call 24; refine (HC.out.1 _).mono ?_; rintro en w2 ⟨rfl, hw2⟩; have h5 := Mk5.new wo 3 P N (.slice pa 0 ca) T; have hbb : Below wo.heap.size wo w2 := (by rw [← hw2]; exact (Below.refl _ wo).alloc (Nat.le_refl _) _); replace h5 : Mk5 w2 wo.heap.size 3 P N (.slice pa 0 ca) T := (by rw [← hw2]; exact h5); have m0 := h5.c0; have m2 := h5.c2; have m3 := h5.c3; have m4 := h5.c4; have H5 := Lib.hid h5; clear hw2 h5))
                  go_roundg (n - (k + 1))
                  case measure => have := HB.out.2; omega
                  case rel => exact ⟨HB.out.1.trans (hbb.mono HB.out.1.size), k + 1, O, true, by omega, rfl, by go_num, rfl, rfl, hO, HX1.out⟩
                | false =>
                  by_cases hbig : 65536 < O.length + (escL T).length
                  · have hD : decide ((65536 : Int) < (O.length : Int) + (Sx.size : Int)) = true := decide_eq_true (by have := HS5.out.1; omega)
                    have hx1 : textF (ms.drop (k + 1)) O true = X := by rw [← HC.out.2, if_pos (Or.inr hbig)]
                    have HX1 := Lib.hid hx1; clear hx1 hbig
                    go_wp2_with (first | (go_at_call 24; refine (HC.out.1 _).mono ?_; rintro en w2 ⟨rfl, hw2⟩; have h5 := Mk5.new wo 3 P N (.slice pa 0 ca) T; have hbb : Below wo.heap.size wo w2 := (by rw [← hw2]; exact (Below.refl _ wo).alloc (Nat.le_refl _) _); replace h5 : Mk5 w2 wo.heap.size 3 P N (.slice pa 0 ca) T := (by rw [← hw2]; exact h5); have m0 := h5.c0; have m2 := h5.c2; have m3 := h5.c3; have m4 := h5.c4; have H5 := Lib.hid h5; clear hw2 h5))
                    go_roundg (n - (k + 1))
                    case measure => have := HB.out.2; omega
                    case rel => exact ⟨HB.out.1.trans (hbb.mono HB.out.1.size), k + 1, O, true, by omega, rfl, by go_num, rfl, rfl, hO, HX1.out⟩
                  · have hD : decide ((65536 : Int) < (O.length : Int) + (Sx.size : Int)) = false := decide_eq_false (by have := HS5.out.1; omega)
                    have hx1 : textF (ms.drop (k + 1)) (O ++ (escL T)) false = X := by rw [← HC.out.2, if_neg (by simpa using hbig)]
                    have HX1 := Lib.hid (And.intro hx1 hbig); clear hx1 hbig
                    go_wp2_with (first | (go_at_call 24; refine (HC.out.1 _).mono ?_; rintro en w2 ⟨rfl, hw2⟩; have h5 := Mk5.new wo 3 P N (.slice pa 0 ca) T; have hbb : Below wo.heap.size wo w2 := (by rw [← hw2]; exact (Below.refl _ wo).alloc (Nat.le_refl _) _); replace h5 : Mk5 w2 wo.heap.size 3 P N (.slice pa 0 ca) T := (by rw [← hw2]; exact h5); have m0 := h5.c0; have m2 := h5.c2; have m3 := h5.c3; have m4 := h5.c4; have H5 := Lib.hid h5; clear hw2 h5))
                    go_roundg (n - (k + 1))
                    case measure => have := HB.out.2; omega
                    case rel =>
                      refine ⟨HB.out.1.trans (hbb.mono HB.out.1.size), k + 1, O ++ (escL T), false, by omega, rfl, by go_num, rfl, ?_, by rw [List.length_append]; have := HX1.out.2; omega, HX1.out.1⟩
                      first | (congr 1; done) | (congr 1; apply ByteArray.ext; simp; done) | (rw [HS5.out.2]; first | (congr 1; done) | (congr 1; apply ByteArray.ext; simp; done) | rfl)
              · rw [hone, if_neg (fun h => hal h.2.2)] at hx
                simp only at hx
                subst hx
                have hpos : (0 : Int) < (na : Int) := by have := List.length_pos_iff.2 hal; omega
                have HC := Lib.hid (And.intro hesc True.intro); clear hesc hone hbT hN hal hna
                go_wp2_with (first | (go_at_call 24; refine (HC.out.1 _).mono ?_; rintro en w2 ⟨rfl, hw2⟩; have h5 := Mk5.new wo 3 P N (.slice pa na ca) T; have hbb : Below wo.heap.size wo w2 := (by rw [← hw2]; exact (Below.refl _ wo).alloc (Nat.le_refl _) _); replace h5 : Mk5 w2 wo.heap.size 3 P N (.slice pa na ca) T := (by rw [← hw2]; exact h5); have m0 := h5.c0; have m2 := h5.c2; have m3 := h5.c3; have m4 := h5.c4; have H5 := Lib.hid h5; clear hw2 h5))
                go_ret2
                exact ⟨rfl, HB.out.1.trans (hbb.mono HB.out.1.size)⟩
            · rw [hone, if_neg (fun h => hN h.2.1)] at hx
              simp only at hx
              subst hx
              have hN2 : N.isEmpty = false := by simpa using hN
              have HC := Lib.hid (And.intro hesc True.intro); clear hesc hone hbT hN hna
              go_wp2_with (first | (go_at_call 24; refine (HC.out.1 _).mono ?_; rintro en w2 ⟨rfl, hw2⟩; have h5 := Mk5.new wo 3 P N (.slice pa na ca) T; have hbb : Below wo.heap.size wo w2 := (by rw [← hw2]; exact (Below.refl _ wo).alloc (Nat.le_refl _) _); replace h5 : Mk5 w2 wo.heap.size 3 P N (.slice pa na ca) T := (by rw [← hw2]; exact h5); have m0 := h5.c0; have m2 := h5.c2; have m3 := h5.c3; have m4 := h5.c4; have H5 := Lib.hid h5; clear hw2 h5))
              go_ret2
              exact ⟨rfl, HB.out.1.trans (hbb.mono HB.out.1.size)⟩
        · by_cases hbad : nameB N = false ∨ T ≠ [] ∨ K < 1 ∨ 4 < K ∨ K = 2 ∧ al ≠ []
          · have hone : oneP ⟨K, P, N, al, T⟩ = none := by unfold oneP; simp only; rw [if_neg h3, if_pos hbad]
            rw [hone] at hx
            simp only at hx
            subst hx
            obtain ⟨na, hna⟩ : ∃ na, na = al.length := ⟨_, rfl⟩
            rw [← hna] at e3
            have hnm := fun W => rname_c ⟨N.toArray⟩ W
            rw [show (ByteArray.mk N.toArray).data.toList = N from rfl] at hnm
            have k3 : (K == 3) = false := by rw [beq_eq_false_iff_ne]; exact h3
            clear hone hfa z4 z5 h2
            by_cases hK1 : K < 1
            · have k1 : decide (K < 1) = true := decide_eq_true hK1
              clear hbad hnm hna
              go_wp2_with fail
              go_ret2
              exact ⟨rfl, HB.out.1.trans (((Below.refl _ wo).alloc (Nat.le_refl _) _).mono HB.out.1.size)⟩
            · have k1 : decide (K < 1) = false := decide_eq_false hK1
              by_cases hK4 : 4 < K
              · have k4 : decide (4 < K) = true := decide_eq_true hK4
                clear hbad hnm hna
                go_wp2_with fail
                go_ret2
                exact ⟨rfl, HB.out.1.trans (((Below.refl _ wo).alloc (Nat.le_refl _) _).mono HB.out.1.size)⟩
              · have k4 : decide (4 < K) = false := decide_eq_false hK4
                by_cases hT : T = []
                · have hT2 : T.isEmpty = true := by rw [hT]; rfl
                  cases hnb : nameB N with
                  | false =>
                    rw [hnb] at hnm
                    have HC := Lib.hid (And.intro hnm True.intro); clear hnm hbad hna hnb hT hK1 hK4
                    go_wp2_with (first | (go_at_call 22; refine (HC.out.1 _).mono ?_; rintro en w2 ⟨rfl, hw2⟩; have h5 := Mk5.new wo K P N (.slice pa na ca) T; have hbb : Below wo.heap.size wo w2 := (by rw [← hw2]; exact (Below.refl _ wo).alloc (Nat.le_refl _) _); replace h5 : Mk5 w2 wo.heap.size K P N (.slice pa na ca) T := (by rw [← hw2]; exact h5); have m0 := h5.c0; have m2 := h5.c2; have m3 := h5.c3; have m4 := h5.c4; have H5 := Lib.hid h5; clear hw2 h5))
                    go_ret2
                    exact ⟨rfl, HB.out.1.trans (hbb.mono HB.out.1.size)⟩
                  | true =>
                    rw [hnb] at hnm
                    have h5 : K = 2 ∧ al ≠ [] := by
                      rcases hbad with h | h | h | h | h
                      · rw [hnb] at h; simp at h
                      · exact absurd hT h
                      · exact absurd h hK1
                      · exact absurd h hK4
                      · exact h
                    obtain ⟨rfl, hal⟩ := h5
                    have hpos : (0 : Int) < (na : Int) := by have := List.length_pos_iff.2 hal; omega
                    have HC := Lib.hid (And.intro hnm True.intro); clear hnm hbad hna hnb hT hK1 hK4 hal k1 k3 k4 h3
                    go_wp2_with (first | (go_at_call 22; refine (HC.out.1 _).mono ?_; rintro en w2 ⟨rfl, hw2⟩; have h5 := Mk5.new wo 2 P N (.slice pa na ca) T; have hbb : Below wo.heap.size wo w2 := (by rw [← hw2]; exact (Below.refl _ wo).alloc (Nat.le_refl _) _); replace h5 : Mk5 w2 wo.heap.size 2 P N (.slice pa na ca) T := (by rw [← hw2]; exact h5); have m0 := h5.c0; have m2 := h5.c2; have m3 := h5.c3; have m4 := h5.c4; have H5 := Lib.hid h5; clear hw2 h5))
                    go_ret2
                    exact ⟨rfl, HB.out.1.trans (hbb.mono HB.out.1.size)⟩
                · have hT2 : T.isEmpty = false := by simpa using hT
                  clear hbad hnm hna
                  go_wp2_with fail
                  go_ret2
                  exact ⟨rfl, HB.out.1.trans (((Below.refl _ wo).alloc (Nat.le_refl _) _).mono HB.out.1.size)⟩
          · simp only [not_or, Bool.not_eq_false, ne_eq, Classical.not_not] at hbad
            obtain ⟨hnb, rfl, hk1, hk4, hk2⟩ := hbad
            have hK2 : K ≠ 2 := fun e => hk2 ⟨e, fun ha => h2 ⟨e, hnb, rfl, ha⟩⟩
            clear hk2
            obtain ⟨Y, hY⟩ : ∃ Y, oneA [] al (60 :: N) = Y := ⟨_, rfl⟩
            have hone : oneP ⟨K, P, N, al, []⟩ = addE K Y := by
              unfold oneP
              simp only
              rw [if_neg h3, if_neg (by rw [hnb]; simp; omega), if_neg hK2, hY]
              cases Y <;> rfl
            rw [hone] at hx
            have hnm := fun W => rname_c ⟨N.toArray⟩ W
            rw [show (ByteArray.mk N.toArray).data.toList = N from rfl, hnb] at hnm
            have hKK : K = 1 ∨ K = 4 := by omega
            have k1 : decide (K < 1) = false := decide_eq_false hk1
            have k4 : decide (4 < K) = false := decide_eq_false hk4
            have k2 : (K == 2) = false := by rw [beq_eq_false_iff_ne]; exact hK2
            have k3 : (K == 3) = false := by rw [beq_eq_false_iff_ne]; exact h3
            obtain ⟨na, hna⟩ : ∃ na, na = al.length := ⟨_, rfl⟩
            rw [← hna] at e3 hca
            have HC := Lib.hid (And.intro hnm (And.intro hx (And.intro hY (And.intro hna (And.intro hfa (And.intro z4 z5)))))); clear hnm hx hY hna hfa z4 z5 hone h2 h3 hk1 hk4 hK2 hnb
            have hcaI : (na : Int) ≤ (ca : Int) := by omega
            go_wp2_with (first | (go_at_call 22; refine (HC.out.1 _).mono ?_; rintro en w2 ⟨rfl, hw2⟩; have h5 := Mk5.new wo K P N (.slice pa na ca) []; have hbb : Below wo.heap.size wo w2 := (by rw [← hw2]; exact (Below.refl _ wo).alloc (Nat.le_refl _) _); replace h5 : Mk5 w2 wo.heap.size K P N (.slice pa na ca) [] := (by rw [← hw2]; exact h5); have m0 := h5.c0; have m2 := h5.c2; have m3 := h5.c3; have m4 := h5.c4; have H5 := Lib.hid h5; clear hw2 h5))
            go_loopg [8, 11] na (fun g2 sv iv wi => Below wo.heap.size wo wi ∧ Mk5 wi wo.heap.size K P N (.slice pa na ca) [] ∧ ∃ t : Nat, t ≤ na ∧ g2 = na - t ∧ iv = .int .i64 t ∧ sv = .string ⟨(60 :: N ++ attrsT (al.take t)).toArray⟩ ∧ oneA (al.take t) (al.drop t) (60 :: N ++ attrsT (al.take t)) = Y)
            case atStart =>
              refine ⟨hbb, H5.out, 0, Nat.zero_le _, rfl, rfl, ?_, ?_⟩
              · congr 1; apply ByteArray.ext; simp [attrsT]
              · rw [List.take_zero, List.drop_zero]; simpa [attrsT] using HC.out.2.2.1
            case round =>
              obtain ⟨hbi, hm5, t, ht, hg2, rfl, rfl, hy⟩ := hrel
              have n0 := hm5.c0
              have n2 := hm5.c2
              have n3 := hm5.c3
              have hOl : (60 :: N ++ attrsT (al.take t)).length ≤ 20971520 := by
                have h1 := attrsT_take_le al t
                have h2 := HC.out.2.2.2.2.2.1
                rw [List.length_append, List.length_cons]; omega
              obtain ⟨wx, rfl⟩ : ∃ wx : World, wx = wr := ⟨_, rfl⟩
              have HI := Lib.hid (And.intro hbi (And.intro hm5 hg2)); clear hg2 hm5
              by_cases hti : t < na
              · have hta : t < al.length := by rw [← HC.out.2.2.2.1]; exact hti
                obtain ⟨b, q, rfl, d0, d1⟩ := HC.out.2.2.2.2.1 t hta
                have hvk := HC.out.2.2.2.2.2.2 _ (List.getElem_mem hta)
                have hsn := attrsT_snoc al t hta
                have htk := List.take_succ_eq_append_getElem hta
                rw [List.drop_eq_getElem_cons hta] at hy
                obtain ⟨a, haa⟩ : ∃ a, a = al[t]'hta := ⟨_, rfl⟩
                rw [← haa] at d0 d1 hvk hsn htk hy
                have d0' := cell_keep hbi d0
                have d1' := cell_keep hbi d1
                have hesc := fun W => resc_c ⟨a.value.toArray⟩ W (by show (List.toArray a.value).size ≤ _; simp; omega)
                rw [show (ByteArray.mk a.value.toArray).data.toList = a.value from rfl] at hesc
                have hnm := fun W => rname_c ⟨a.name.toArray⟩ W
                rw [show (ByteArray.mk a.name.toArray).data.toList = a.name from rfl] at hnm
                have htI : (t : Int) < (na : Int) := by omega
                have htI2 : (0 : Int) ≤ (t : Int) := by omega
                have hel := escL_le a.value
                obtain ⟨O2, hO2⟩ : ∃ O2, O2 = 60 :: N ++ attrsT (al.take t) := ⟨_, rfl⟩
                rw [← hO2] at hy hOl ⊢
                have hstepA : oneA (al.take t) (a :: al.drop (t + 1)) O2 = if bad a.value ≠ none ∨ nameB a.name = false ∨ (al.take t).any (fun b => b.name == a.name) = true then none else oneA (al.take t ++ [a]) (al.drop (t + 1)) (O2 ++ attrT a) := rfl
                rw [hstepA] at hy
                have hxn : Y = none → X = .error 2 := fun e => by
                  have h := HC.out.2.1; rw [e] at h; exact h.symm
                have HG := Lib.hid (And.intro hsn (And.intro htk hO2)); clear hsn htk hO2 hstepA
                have hna2 := hvk.2
                cases hbv : bad a.value with
                | some j =>
                  have hX1 : X = .error 2 := hxn (by rw [← hy, if_pos (Or.inl (by rw [hbv]; simp))])
                  subst hX1
                  rw [show escR a.value = ([], 6) from by unfold escR; rw [if_neg (by rw [hbv]; simp)], show escV ([], 6) = .tuple #[.string ⟨#[]⟩, .int .i64 6] from rfl] at hesc
                  have HH := Lib.hid (And.intro hesc True.intro); clear hesc hnm hy hbv hvk hxn haa
                  go_wp2_with (first
                    | (go_at_call 24; refine (HH.out.1 _).mono ?_; rintro en w3 ⟨rfl, rfl⟩))
                  go_ret2
                  exact ⟨rfl, HB.out.1.trans (HI.out.1.mono HB.out.1.size)⟩
                | none =>
                  rw [show escR a.value = (escL a.value, 0) from by unfold escR; rw [if_pos hbv], show escV (escL a.value, 0) = .tuple #[.string ⟨(escL a.value).toArray⟩, .int .i64 0] from rfl] at hesc
                  obtain ⟨V, hV⟩ : ∃ V, V = escL a.value := ⟨_, rfl⟩
                  rw [← hV] at hesc hel
                  have hVl : V.length ≤ 12582912 := by have := hvk.1; omega
                  cases hnb2 : nameB a.name with
                  | false =>
                    have hX1 : X = .error 2 := hxn (by rw [← hy, if_pos (Or.inr (Or.inl hnb2))])
                    subst hX1
                    rw [hnb2] at hnm
                    have HH := Lib.hid (And.intro hesc hnm); clear hesc hnm hy hbv hvk hxn haa hV hnb2
                    go_wp2_with (first
                      | (go_at_call 24; refine (HH.out.1 _).mono ?_; rintro en w3 ⟨rfl, rfl⟩)
                      | (go_at_call 22; refine (HH.out.2 _).mono ?_; rintro en w4 ⟨rfl, rfl⟩))
                    go_ret2
                    exact ⟨rfl, HB.out.1.trans (HI.out.1.mono HB.out.1.size)⟩
                  | true =>
                    rw [hnb2] at hnm
                    have hy2 : (if (al.take t).any (fun b => b.name == a.name) = true then none else oneA (al.take (t + 1)) (al.drop (t + 1)) (O2 ++ attrT a)) = Y := by
                      rw [← hy, hbv, hnb2, HG.out.2.1]; simp
                    have HH := Lib.hid (And.intro hesc (And.intro hnm (And.intro hy2 (And.intro hV hxn)))); clear hesc hnm hy hy2 hbv hvk hxn hV hnb2
                    have HAA := Lib.hid haa; clear haa
                    go_wp2_with (first
                      | (go_at_call 24; refine (HH.out.1 _).mono ?_; rintro en w3 ⟨rfl, rfl⟩)
                      | (go_at_call 22; refine (HH.out.2.1 _).mono ?_; rintro en w4 ⟨rfl, rfl⟩))
                    go_loopg [14] t (fun g3 jv wj => Below wx.heap.size wx wj ∧ ∃ j : Nat, j ≤ t ∧ g3 = t - j ∧ jv = .int .i64 j ∧ ∀ i (hi : i < al.length), i < j → (al[i]'hi).name ≠ a.name)
                    case atStart => exact ⟨Below.refl _ _, 0, Nat.zero_le _, rfl, rfl, fun i hi h => absurd h (by omega)⟩
                    case round =>
                      obtain ⟨hbj, j, hj, hg3, rfl, hne⟩ := hrel
                      have hm6 := HI.out.2.1.below hbj
                      have p0 := hm6.c0
                      have p2 := hm6.c2
                      have p3 := hm6.c3
                      have dd0 := cell_keep hbj d0'
                      have dd1 := cell_keep hbj d1'
                      have HJ := Lib.hid (And.intro hbj (And.intro hg3 (And.intro hne hm6))); clear hbj hg3 hne hm6
                      by_cases hjt : j < t
                      · have hja : j < al.length := by omega
                        obtain ⟨b', q', eq', f0, f1⟩ := HC.out.2.2.2.2.1 j hja
                        simp only [Option.some.injEq, Addr.mk.injEq] at eq'
                        obtain ⟨rfl, rfl, _⟩ := eq'
                        have f0' := cell_keep HJ.out.1 (cell_keep HI.out.1 f0)
                        obtain ⟨AN, hAN⟩ : ∃ AN, AN = (al[j]'hja).name := ⟨_, rfl⟩
                        rw [← hAN] at f0 f0'
                        have hjI : (j : Int) < (t : Int) := by omega
                        have hjI2 : (j : Int) < (na : Int) := by omega
                        by_cases heq : AN = a.name
                        · have hdup : (al.take t).any (fun b => b.name == a.name) = true := by
                            rw [List.any_eq_true]
                            refine ⟨al[j]'hja, ?_, by rw [← hAN, heq]; simp⟩
                            rw [List.mem_take_iff_getElem]
                            exact ⟨j, by omega, rfl⟩
                          have hX1 : X = .error 2 := HH.out.2.2.2.2 (by rw [← HH.out.2.2.1, if_pos hdup])
                          subst hX1
                          clear hdup hAN
                          subst heq
                          go_wp2_with fail
                          go_quiet (fail)
                          go_wp2_with fail
                          go_ret2
                          exact ⟨rfl, HB.out.1.trans (((HI.out.1.trans (HJ.out.1.mono HI.out.1.size)).trans (show Below wo.heap.size wr (wr.drewN nq) from ⟨rfl, rfl, rfl, Nat.le_refl _, fun _ _ => rfl⟩)).mono HB.out.1.size)⟩
                        · have heq2 : (AN == a.name) = false := by rw [beq_eq_false_iff_ne]; exact heq
                          have HQ := Lib.hid (And.intro hAN heq); clear hAN
                          go_wp2_with fail
                          go_quiet (fail)
                          go_wp2_with fail
                          go_roundg (t - (j + 1))
                          case measure => have := HJ.out.2.1; omega
                          case rel =>
                            refine ⟨HJ.out.1.trans ⟨rfl, rfl, rfl, Nat.le_refl _, fun _ _ => rfl⟩, j + 1, by omega, rfl, by go_num, fun i hi hij => ?_⟩
                            by_cases hij2 : i < j
                            · exact HJ.out.2.2.1 i hi hij2
                            · obtain rfl : i = j := by omega
                              rw [← HQ.out.1]; exact HQ.out.2
                      · obtain rfl : j = t := by omega
                        have hjI : decide ((j : Int) < (j : Int)) = false := decide_eq_false (by omega)
                        have hdup : (al.take j).any (fun b => b.name == a.name) = false := by
                          rw [List.any_eq_false]
                          intro x hx
                          rw [List.mem_take_iff_getElem] at hx
                          obtain ⟨i, hi, rfl⟩ := hx
                          simpa using HJ.out.2.2.1 i (by omega) (by omega)
                        have hy3 : oneA (al.take (j + 1)) (al.drop (j + 1)) (O2 ++ attrT a) = Y := by rw [← HH.out.2.2.1, if_neg (by rw [hdup]; simp)]
                        have HY := Lib.hid hy3; clear hdup hy3
                        go_wp2_with fail
                        go_roundg (na - (j + 1))
                        case measure => have := HI.out.2.2; omega
                        case rel =>
                          have e1 : 60 :: N ++ attrsT (al.take (j + 1)) = O2 ++ attrT a := by rw [HG.out.1, HG.out.2.2, List.append_assoc]
                          refine ⟨HI.out.1.trans (HJ.out.1.mono HI.out.1.size), HJ.out.2.2.2, j + 1, by omega, rfl, by go_num, ?_, ?_⟩
                          · rw [e1, cat_attr]
                            unfold attrT
                            rw [HH.out.2.2.2.1]
                          · rw [e1]; exact HY.out
              · obtain rfl : t = na := by omega
                have htI : decide ((t : Int) < (t : Int)) = false := decide_eq_false (by omega)
                have hY1 : Y = some (60 :: N ++ attrsT (al.take t)) := by
                  rw [← hy, List.drop_of_length_le (by rw [← HC.out.2.2.2.1]; exact Nat.le_refl _)]; rfl
                obtain ⟨O2, hO2⟩ : ∃ O2, O2 = 60 :: N ++ attrsT (al.take t) := ⟨_, rfl⟩
                rw [← hO2] at hY1 hOl ⊢
                have hxo := HC.out.2.1
                rw [hY1] at hxo
                clear hy hO2 hbi
                have hxe := True.intro
                rcases hKK with rfl | rfl
                · simp only [addE] at hxo
                  have hSl : (O2 ++ endT 1).length = O2.length + 1 := by rw [List.length_append]; rfl
                  have heT : endT 1 = [62] := rfl
                  cases fb with
                  | true =>
                    have hx1 : textF (ms.drop (k + 1)) O true = X := by rw [← hxo, if_pos (Or.inl rfl)]
                    have HX1 := Lib.hid hx1; clear hx1
                    clear hSl heT hxo hxe
                    go_wp2_with fail
                    go_roundg (n - (k + 1))
                    case measure => have := HB.out.2; omega
                    case rel => exact ⟨HB.out.1.trans (HI.out.1.mono HB.out.1.size), k + 1, O, true, by omega, rfl, by go_num, rfl, rfl, hO, HX1.out⟩
                  | false =>
                    by_cases hbig : 65536 < O.length + (O2 ++ endT 1).length
                    · have hD : decide ((65536 : Int) < (O.length : Int) + ((O2.length : Int) + 1)) = true := decide_eq_true (by rw [hSl] at hbig; omega)
                      have hx1 : textF (ms.drop (k + 1)) O true = X := by rw [← hxo, if_pos (Or.inr hbig)]
                      have HX1 := Lib.hid hx1; clear hx1 hbig
                      clear hSl heT hxo hxe
                      go_wp2_with fail
                      go_roundg (n - (k + 1))
                      case measure => have := HB.out.2; omega
                      case rel => exact ⟨HB.out.1.trans (HI.out.1.mono HB.out.1.size), k + 1, O, true, by omega, rfl, by go_num, rfl, rfl, hO, HX1.out⟩
                    · have hD : decide ((65536 : Int) < (O.length : Int) + ((O2.length : Int) + 1)) = false := decide_eq_false (by rw [hSl] at hbig; omega)
                      have hx1 : textF (ms.drop (k + 1)) (O ++ (O2 ++ endT 1)) false = X := by rw [← hxo, if_neg (by simpa using hbig)]
                      have HX1 := Lib.hid (And.intro hx1 hbig); clear hx1 hbig
                      clear hSl heT hxo hxe
                      go_wp2_with fail
                      go_roundg (n - (k + 1))
                      case measure => have := HB.out.2; omega
                      case rel =>
                        refine ⟨HB.out.1.trans (HI.out.1.mono HB.out.1.size), k + 1, O ++ (O2 ++ endT 1), false, by omega, rfl, by go_num, rfl, ?_, by rw [List.length_append]; have := HX1.out.2; omega, HX1.out.1⟩
                        rw [show endT 1 = [62] from rfl]
                        first | (congr 1; done) | (congr 1; apply ByteArray.ext; simp; done) | (apply ByteArray.ext; simp)
                · simp only [addE] at hxo
                  have hSl : (O2 ++ endT 4).length = O2.length + 2 := by rw [List.length_append]; rfl
                  have heT : endT 4 = [47, 62] := rfl
                  cases fb with
                  | true =>
                    have hx1 : textF (ms.drop (k + 1)) O true = X := by rw [← hxo, if_pos (Or.inl rfl)]
                    have HX1 := Lib.hid hx1; clear hx1
                    clear hSl heT hxo hxe
                    go_wp2_with fail
                    go_roundg (n - (k + 1))
                    case measure => have := HB.out.2; omega
                    case rel => exact ⟨HB.out.1.trans (HI.out.1.mono HB.out.1.size), k + 1, O, true, by omega, rfl, by go_num, rfl, rfl, hO, HX1.out⟩
                  | false =>
                    by_cases hbig : 65536 < O.length + (O2 ++ endT 4).length
                    · have hD : decide ((65536 : Int) < (O.length : Int) + ((O2.length : Int) + 1 + 1)) = true := decide_eq_true (by rw [hSl] at hbig; omega)
                      have hx1 : textF (ms.drop (k + 1)) O true = X := by rw [← hxo, if_pos (Or.inr hbig)]
                      have HX1 := Lib.hid hx1; clear hx1 hbig
                      clear hSl heT hxo hxe
                      go_wp2_with fail
                      go_roundg (n - (k + 1))
                      case measure => have := HB.out.2; omega
                      case rel => exact ⟨HB.out.1.trans (HI.out.1.mono HB.out.1.size), k + 1, O, true, by omega, rfl, by go_num, rfl, rfl, hO, HX1.out⟩
                    · have hD : decide ((65536 : Int) < (O.length : Int) + ((O2.length : Int) + 1 + 1)) = false := decide_eq_false (by rw [hSl] at hbig; omega)
                      have hx1 : textF (ms.drop (k + 1)) (O ++ (O2 ++ endT 4)) false = X := by rw [← hxo, if_neg (by simpa using hbig)]
                      have HX1 := Lib.hid (And.intro hx1 hbig); clear hx1 hbig
                      clear hSl heT hxo hxe
                      go_wp2_with fail
                      go_roundg (n - (k + 1))
                      case measure => have := HB.out.2; omega
                      case rel =>
                        refine ⟨HB.out.1.trans (HI.out.1.mono HB.out.1.size), k + 1, O ++ (O2 ++ endT 4), false, by omega, rfl, by go_num, rfl, ?_, by rw [List.length_append]; have := HX1.out.2; omega, HX1.out.1⟩
                        rw [show endT 4 = [47, 62] from rfl]
                        first | (congr 1; done) | (congr 1; apply ByteArray.ext; simp; done) | (apply ByteArray.ext; simp)
    · obtain rfl : k = n := by omega
      have hkI : decide ((k : Int) < (k : Int)) = false := decide_eq_false (by omega)
      rw [List.drop_of_length_le (by rw [← HF.out.2.2.2]; exact Nat.le_refl _)] at hx
      have HB := Lib.hid hb; clear hb hg
      cases fb with
      | true =>
        have hx' : X = .error 10 := hx.symm
        subst hx'
        go_wp2_with fail
        go_ret2
        exact ⟨rfl, HB.out⟩
      | false =>
        have hx' : X = .ok O := hx.symm
        subst hx'
        go_wp2_with fail
        go_ret2
        exact ⟨rfl, HB.out⟩
end Go.Proofs.YtcicibeggkmlcaaGreatDoor
