/- The walk of CharsNumbers. Conditions: the tables lie as they are laid. -/
import Derived.Test.YtcicibeggkmlcaaGreatDoorLwB
namespace Go.Proofs.YtcicibeggkmlcaaGreatDoor
open Go.RowKit Go.Sof

theorem dig_at (d : Nat) (h : d < 16) : (ByteArray.mk #[48, 49, 50, 51, 52, 53, 54, 55, 56, 57, 97, 98, 99, 100, 101, 102])[d]'h = digB d := by
  have : ∀ d : Fin 16, (ByteArray.mk #[48, 49, 50, 51, 52, 53, 54, 55, 56, 57, 97, 98, 99, 100, 101, 102])[d.val]'d.isLt = digB d.val := by decide
  exact this ⟨d, h⟩

/-- the text of a number, and what it stands for. -/
theorem num_un (hex : Bool) (k : Nat) (acc : Bytes) (X : ByteArray) (h : Digs (if hex then 16 else 10) k 0 acc) (hne : acc ≠ []) (hX : X.data.toList = 38 :: 35 :: ((if hex then 120 :: acc else acc) ++ [59])) (w : World) (hw : WOK w) :
    Calls Tryz.prog 25 #[.string X] w fun e w' => e = .returned (unV (if signB k then (utf k, 0, 0) else ([], 0, 7))) ∧ Below w.heap.size w w' := by
  have hs : X.size ≤ 2147483648 := by
    have := congrArg List.length hX
    have h7 := h.len
    have hl : X.data.toList.length = X.size := Array.length_toList
    rw [hl] at this
    cases hex <;> simp at this <;> omega
  have := unescape_c X w hw hs
  rw [hX, un_number hex k acc h hne] at this
  exact this

set_option maxRecDepth 1000000 in
set_option maxHeartbeats 4000000 in
theorem lnum_c (n : Nat) (hn : n < 4294967296) (hex : Bool) (w : World) (h : WOK w) : Calls Tryz.prog 8 #[.int .u32 n, .bool hex] w fun e w' => e = .returned (.bool true) ∧ Below w.heap.size w w' := by
  have HW := Lib.hid h; clear h
  obtain ⟨k, hk⟩ : ∃ k, k = n % 1179648 := ⟨_, rfl⟩
  have hk' : k < 1179648 := by omega
  have KN := Lib.hid (show (n : Int) % 1179648 = (k : Int) from by omega)
  clear hk
  cases hex with
  | false =>
    go_enter Tryz.func8, Tryz.ntmps8
    go_wp2_with fail
    go_loopg [7, 9] 8 (fun g s x wr => Below w.heap.size w wr ∧ ∃ (acc : Bytes) (xx : Nat), Digs 10 k xx acc ∧ s = .string ⟨acc.toArray⟩ ∧ x = .int .i64 xx ∧ g = 8 - acc.length)
    case atStart => exact ⟨Below.refl _ _, [], k, Digs.start _ _, rfl, by rw [KN.out], rfl⟩
    case round =>
      obtain ⟨hb, acc, xx, hd, rfl, rfl, hg⟩ := hrel
      have hxk : xx ≤ k := by
        have h1 := hd.val
        have h2 := Nat.le_mul_of_pos_right xx (Nat.pow_pos (n := acc.length) (show 0 < 10 by omega))
        omega
      have hal : acc.length ≤ 7 := hd.len
      by_cases hx0 : 0 < xx
      · have hdg := hd.next (by omega) hk' (Or.inl hx0)
        have hml : xx % 10 < 16 := by omega
        have hu := dig_at (xx % 10) hml
        obtain ⟨c, hc⟩ : ∃ c, c = digB (xx % 10) := ⟨_, rfl⟩
        rw [← hc] at hu hdg
        obtain ⟨U, hU⟩ : ∃ U : Bytes, U = [c] := ⟨_, rfl⟩
        have cv := back_1 wr U (c.toNat : Int) c.toNat rfl c.toNat_lt (by rw [hU]; simp)
        have hUl : U.length = 1 := by rw [hU]; rfl
        have hq : wrap64 ((xx : Int) / 10) = ((xx / 10 : Nat) : Int) := by rw [IntWalk.wrap64_in _ (by omega)]; simp
        have hrel : ByteArray.mk U.toArray ++ ByteArray.mk acc.toArray = ByteArray.mk (c :: acc).toArray := by rw [cat_ba, hU]; rfl
        have HZ := Lib.hid (And.intro hb (And.intro hdg (And.intro hrel hg))); clear hb hdg hU hg hd hc hrel
        go_wp2_with fail
        go_roundg (8 - (c :: acc).length)
        case measure => have := HZ.out.2.2.2; have := HZ.out.2.1.len; simp only [List.length_cons] at *; omega
        case rel => exact ⟨HZ.out.1.alloc HZ.out.1.size _, c :: acc, xx / 10, HZ.out.2.1, by rw [HZ.out.2.2.1], rfl, rfl⟩
      · obtain rfl : xx = 0 := by omega
        by_cases hne : acc = []
        · subst hne
          have hdg := hd.next (by omega) hk' (Or.inr rfl)
          have hu := dig_at 0 (by omega)
          rw [show 0 % 10 = 0 from rfl] at hdg
          obtain ⟨c, hc⟩ : ∃ c, c = digB 0 := ⟨_, rfl⟩
          rw [← hc] at hu hdg
          obtain ⟨U, hU⟩ : ∃ U : Bytes, U = [c] := ⟨_, rfl⟩
          have cv := back_1 wr U (c.toNat : Int) c.toNat rfl c.toNat_lt (by rw [hU]; simp)
          have hUl : U.length = 1 := by rw [hU]; rfl
          have hrel : ByteArray.mk U.toArray ++ ByteArray.mk #[] = ByteArray.mk [c].toArray := by rw [hU]; apply ByteArray.ext; simp
          have HZ := Lib.hid (And.intro hb (And.intro hdg (And.intro hrel hg))); clear hb hdg hU hg hd hc hrel
          go_wp2_with fail
          go_roundg 7
          case measure => have := HZ.out.2.2.2; simp at this; omega
          case rel => exact ⟨HZ.out.1.alloc HZ.out.1.size _, [c], 0, HZ.out.2.1, by rw [HZ.out.2.2.1], rfl, rfl⟩
        · have hie : acc.isEmpty = false := by simpa using hne
          have hun := fun W hW => num_un false k acc (ByteArray.mk #[38, 35] ++ ByteArray.mk acc.toArray ++ ByteArray.mk #[59]) hd hne (by simp) W hW
          have HZ := Lib.hid hb; clear hb hd hg hne
          cases hsg : signB k with
          | true =>
            obtain ⟨V, hV⟩ : ∃ V, V = utf k := ⟨_, rfl⟩
            rw [hsg, if_pos rfl, ← hV, show unV (V, 0, 0) = .tuple #[.string ⟨V.toArray⟩, .int .i64 0, .int .i64 0] from rfl] at hun
            have henc := (utf_enc k).symm
            rw [← hV, ← KN.out] at henc
            have hVe : V.isEmpty = false := by rw [hV]; simpa using utf_ne k hsg
            have hgd := fun W hW => good_c ⟨V.toArray⟩ W hW (by show (List.toArray V).size ≤ _; have := utf_len k hsg; rw [← hV] at this; simp; omega)
            rw [show decide (bad (ByteArray.mk V.toArray).data.toList = none) = true from by have := bad_utf k hsg; rw [← hV] at this; simpa using this] at hgd
            have hrs := fun W => rsign_b k true hsg W
            rw [← KN.out] at hrs
            have HC := Lib.hid (And.intro hun (And.intro hgd hrs)); clear hun hgd hsg hV hrs
            go_wp2_with (first
              | (go_at_call 25; refine (HC.out.1 _ (HW.out.below HZ.out)).mono ?_; rintro e w2 ⟨rfl, b2'⟩; have b2 := HZ.out.trans (b2'.mono HZ.out.size); clear b2')
              | (go_at_call 16; refine (awake_c _ (HW.out.below b2)).mono ?_; rintro e w3 ⟨rfl, b3'⟩; have b3 := b2.trans (b3'.mono b2.size); clear b3')
              | (go_at_call 27; refine (HC.out.2.2 _).mono ?_; rintro e w4 ⟨rfl, rfl⟩)
              | (go_at_call 19; refine (HC.out.2.1 _ (HW.out.below b3)).mono ?_; rintro e w5 ⟨rfl, b5'⟩; have b5 := b3.trans (b5'.mono b3.size); clear b5'))
            go_ret
            exact ⟨rfl, b5⟩
          | false =>
            rw [hsg, if_neg (by simp), show unV ([], 0, 7) = .tuple #[.string ⟨#[]⟩, .int .i64 0, .int .i64 7] from rfl] at hun
            have hrs := fun W => rsign_b k false hsg W
            rw [← KN.out] at hrs
            have HC := Lib.hid (And.intro hun hrs); clear hun hsg hrs
            go_wp2_with (first
              | (go_at_call 25; refine (HC.out.1 _ (HW.out.below HZ.out)).mono ?_; rintro e w2 ⟨rfl, b2'⟩; have b2 := HZ.out.trans (b2'.mono HZ.out.size); clear b2')
              | (go_at_call 16; refine (awake_c _ (HW.out.below b2)).mono ?_; rintro e w3 ⟨rfl, b3'⟩; have b3 := b2.trans (b3'.mono b2.size); clear b3')
              | (go_at_call 27; refine (HC.out.2 _).mono ?_; rintro e w4 ⟨rfl, rfl⟩))
            go_ret
            exact ⟨rfl, b3⟩
  | true =>
    go_enter Tryz.func8, Tryz.ntmps8
    go_wp2_with fail
    go_loopg [7, 9] 8 (fun g s x wr => Below w.heap.size w wr ∧ ∃ (acc : Bytes) (xx : Nat), Digs 16 k xx acc ∧ s = .string ⟨acc.toArray⟩ ∧ x = .int .i64 xx ∧ g = 8 - acc.length)
    case atStart => exact ⟨Below.refl _ _, [], k, Digs.start _ _, rfl, by rw [KN.out], rfl⟩
    case round =>
      obtain ⟨hb, acc, xx, hd, rfl, rfl, hg⟩ := hrel
      have hxk : xx ≤ k := by
        have h1 := hd.val
        have h2 := Nat.le_mul_of_pos_right xx (Nat.pow_pos (n := acc.length) (show 0 < 16 by omega))
        omega
      have hal : acc.length ≤ 7 := hd.len
      by_cases hx0 : 0 < xx
      · have hdg := hd.next (by omega) hk' (Or.inl hx0)
        have hml : xx % 16 < 16 := by omega
        have hu := dig_at (xx % 16) hml
        obtain ⟨c, hc⟩ : ∃ c, c = digB (xx % 16) := ⟨_, rfl⟩
        rw [← hc] at hu hdg
        obtain ⟨U, hU⟩ : ∃ U : Bytes, U = [c] := ⟨_, rfl⟩
        have cv := back_1 wr U (c.toNat : Int) c.toNat rfl c.toNat_lt (by rw [hU]; simp)
        have hUl : U.length = 1 := by rw [hU]; rfl
        have hq : wrap64 ((xx : Int) / 16) = ((xx / 16 : Nat) : Int) := by rw [IntWalk.wrap64_in _ (by omega)]; simp
        have hrel : ByteArray.mk U.toArray ++ ByteArray.mk acc.toArray = ByteArray.mk (c :: acc).toArray := by rw [cat_ba, hU]; rfl
        have HZ := Lib.hid (And.intro hb (And.intro hdg (And.intro hrel hg))); clear hb hdg hU hg hd hc hrel
        go_wp2_with fail
        go_roundg (8 - (c :: acc).length)
        case measure => have := HZ.out.2.2.2; have := HZ.out.2.1.len; simp only [List.length_cons] at *; omega
        case rel => exact ⟨HZ.out.1.alloc HZ.out.1.size _, c :: acc, xx / 16, HZ.out.2.1, by rw [HZ.out.2.2.1], rfl, rfl⟩
      · obtain rfl : xx = 0 := by omega
        by_cases hne : acc = []
        · subst hne
          have hdg := hd.next (by omega) hk' (Or.inr rfl)
          have hu := dig_at 0 (by omega)
          rw [show 0 % 16 = 0 from rfl] at hdg
          obtain ⟨c, hc⟩ : ∃ c, c = digB 0 := ⟨_, rfl⟩
          rw [← hc] at hu hdg
          obtain ⟨U, hU⟩ : ∃ U : Bytes, U = [c] := ⟨_, rfl⟩
          have cv := back_1 wr U (c.toNat : Int) c.toNat rfl c.toNat_lt (by rw [hU]; simp)
          have hUl : U.length = 1 := by rw [hU]; rfl
          have hrel : ByteArray.mk U.toArray ++ ByteArray.mk #[] = ByteArray.mk [c].toArray := by rw [hU]; apply ByteArray.ext; simp
          have HZ := Lib.hid (And.intro hb (And.intro hdg (And.intro hrel hg))); clear hb hdg hU hg hd hc hrel
          go_wp2_with fail
          go_roundg 7
          case measure => have := HZ.out.2.2.2; simp at this; omega
          case rel => exact ⟨HZ.out.1.alloc HZ.out.1.size _, [c], 0, HZ.out.2.1, by rw [HZ.out.2.2.1], rfl, rfl⟩
        · have hie : acc.isEmpty = false := by simpa using hne
          have hun := fun W hW => num_un true k acc (ByteArray.mk #[38, 35] ++ (ByteArray.mk #[120] ++ ByteArray.mk acc.toArray) ++ ByteArray.mk #[59]) hd hne (by simp) W hW
          have HZ := Lib.hid hb; clear hb hd hg hne
          cases hsg : signB k with
          | true =>
            obtain ⟨V, hV⟩ : ∃ V, V = utf k := ⟨_, rfl⟩
            rw [hsg, if_pos rfl, ← hV, show unV (V, 0, 0) = .tuple #[.string ⟨V.toArray⟩, .int .i64 0, .int .i64 0] from rfl] at hun
            have henc := (utf_enc k).symm
            rw [← hV, ← KN.out] at henc
            have hVe : V.isEmpty = false := by rw [hV]; simpa using utf_ne k hsg
            have hgd := fun W hW => good_c ⟨V.toArray⟩ W hW (by show (List.toArray V).size ≤ _; have := utf_len k hsg; rw [← hV] at this; simp; omega)
            rw [show decide (bad (ByteArray.mk V.toArray).data.toList = none) = true from by have := bad_utf k hsg; rw [← hV] at this; simpa using this] at hgd
            have hrs := fun W => rsign_b k true hsg W
            rw [← KN.out] at hrs
            have HC := Lib.hid (And.intro hun (And.intro hgd hrs)); clear hun hgd hsg hV hrs
            go_wp2_with (first
              | (go_at_call 25; refine (HC.out.1 _ (HW.out.below HZ.out)).mono ?_; rintro e w2 ⟨rfl, b2'⟩; have b2 := HZ.out.trans (b2'.mono HZ.out.size); clear b2')
              | (go_at_call 16; refine (awake_c _ (HW.out.below b2)).mono ?_; rintro e w3 ⟨rfl, b3'⟩; have b3 := b2.trans (b3'.mono b2.size); clear b3')
              | (go_at_call 27; refine (HC.out.2.2 _).mono ?_; rintro e w4 ⟨rfl, rfl⟩)
              | (go_at_call 19; refine (HC.out.2.1 _ (HW.out.below b3)).mono ?_; rintro e w5 ⟨rfl, b5'⟩; have b5 := b3.trans (b5'.mono b3.size); clear b5'))
            go_ret
            exact ⟨rfl, b5⟩
          | false =>
            rw [hsg, if_neg (by simp), show unV ([], 0, 7) = .tuple #[.string ⟨#[]⟩, .int .i64 0, .int .i64 7] from rfl] at hun
            have hrs := fun W => rsign_b k false hsg W
            rw [← KN.out] at hrs
            have HC := Lib.hid (And.intro hun hrs); clear hun hsg hrs
            go_wp2_with (first
              | (go_at_call 25; refine (HC.out.1 _ (HW.out.below HZ.out)).mono ?_; rintro e w2 ⟨rfl, b2'⟩; have b2 := HZ.out.trans (b2'.mono HZ.out.size); clear b2')
              | (go_at_call 16; refine (awake_c _ (HW.out.below b2)).mono ?_; rintro e w3 ⟨rfl, b3'⟩; have b3 := b2.trans (b3'.mono b2.size); clear b3')
              | (go_at_call 27; refine (HC.out.2 _).mono ?_; rintro e w4 ⟨rfl, rfl⟩))
            go_ret
            exact ⟨rfl, b3⟩
end Go.Proofs.YtcicibeggkmlcaaGreatDoor
