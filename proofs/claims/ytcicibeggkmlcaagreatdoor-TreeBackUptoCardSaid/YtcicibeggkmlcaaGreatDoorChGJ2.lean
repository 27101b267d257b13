/- The walk of chars.Unescape. Conditions: the library's tables lie as they are laid; the text is shorter than 2^31 bytes. The walk of chars.Unescape. Conditions: the library's tables lie as they are laid; the text has at most 2^31 bytes. -/
import Derived.Test.YtcicibeggkmlcaaGreatDoorChCJ4
import Derived.Lib.IndexLaws
namespace Go.Proofs.YtcicibeggkmlcaaGreatDoor
open Go.RowKit Go.Sof

theorem IsBuilderF_keep {T e : TypeId} {B b : Nat} {bs : List Value} {w w' : World} (h : Lib.IsBuilderF T e B b bs w) (hb : Below w.heap.size w w') : Lib.IsBuilderF T e B b bs w' := by
  have key : ∀ p, Lib.BuilderAtF T e B b p bs w → Lib.BuilderAtF T e B b p bs w' := by
    rintro p ⟨hB, v, hbk, hown, hne⟩
    refine ⟨hB, v, (hb.block b (Array.getElem?_eq_some_iff.1 hbk).1).trans hbk, ⟨hown.1, ?_⟩, hne⟩
    rcases hown.2 with hn | ⟨g, cap, cur, fz, hv, hbg, hg, rest⟩
    · exact .inl hn
    · exact .inr ⟨g, cap, cur, fz, hv, hbg, (hb.block g (Array.getElem?_eq_some_iff.1 hg).1).trans hg, rest⟩
  exact h.imp (key _) (key _)

theorem below_drewN (w : World) (n : Nat) : Below w.heap.size w (w.drewN n) := ⟨rfl, rfl, rfl, Nat.le_refl _, fun _ _ => rfl⟩

/-- strings.Cut at a world that is in order. -/
theorem cut_c (s sep : ByteArray) (w : World) (h : WOK w) (hs : s.size ≤ 2147483648) :
    Calls Tryz.prog 49 #[.string s, .string sep] w fun e w' => e = .returned (.tuple #[.string ⟨(Lib.cut s.data.toList sep.data.toList).1.toArray⟩, .string ⟨(Lib.cut s.data.toList sep.data.toList).2.1.toArray⟩, .bool (Lib.cut s.data.toList sep.data.toList).2.2]) ∧ Below w.heap.size w w' := by
  obtain ⟨m, hm⟩ := h.2
  refine (Tryz.strings_Cut s sep m w (by omega) hm).mono ?_
  rintro e w' ⟨he, n, rfl⟩
  exact ⟨he, below_drewN w n⟩

theorem index_one : ∀ (t : Bytes) (c : UInt8), Lib.index t [c] = if c ∈ t then (((t.takeWhile (· != c)).length : Nat) : Int) else -1 := by
  intro t c
  induction t with
  | nil => rfl
  | cons b u ih =>
    unfold Lib.index
    by_cases hb : c = b
    · subst hb
      simp [List.isPrefixOf]
    · have h1 : ([c].isPrefixOf (b :: u)) = false := by simp [List.isPrefixOf, hb]
      rw [h1, ih]
      simp only [Bool.false_eq_true, if_false, List.mem_cons, hb, false_or]
      by_cases hm : c ∈ u
      · rw [if_pos hm, if_pos hm, List.takeWhile_cons]
        have hb' : (b != c) = true := by simpa using fun e => hb e.symm
        rw [if_pos hb', List.length_cons, if_neg]
        all_goals (simp; try omega)
      · rw [if_neg hm, if_neg hm]; rfl

theorem takeWhile_take : ∀ (t : Bytes) (p : UInt8 → Bool), t.take (t.takeWhile p).length = t.takeWhile p := by
  intro t p
  induction t with
  | nil => rfl
  | cons b u ih =>
    rw [List.takeWhile_cons]
    by_cases h : p b = true
    · rw [if_pos h, List.length_cons, List.take_succ_cons, ih]
    · rw [if_neg h]; rfl

theorem cut_one (t : Bytes) (c : UInt8) : Lib.cut t [c] = if c ∈ t then (t.takeWhile (· != c), t.drop ((t.takeWhile (· != c)).length + 1), true) else (t, [], false) := by
  unfold Lib.cut
  rw [index_one]
  by_cases h : c ∈ t
  · rw [if_pos h, if_pos h, if_pos (by omega)]
    simp only [Int.toNat_natCast, List.length_cons, List.length_nil, Nat.zero_add]
    rw [takeWhile_take]
  · rw [if_neg h, if_neg h]; rfl

/-! ### entity's results as parts -/
def entS (o : Option Bytes) : ByteArray := match o with | none => ⟨#[]⟩ | some t => ⟨t.toArray⟩
def entB (o : Option Bytes) : Bool := o.isSome
theorem entV_eq (o : Option Bytes) : entV o = .tuple #[.string (entS o), .bool (entB o)] := by cases o <;> rfl

theorem numE_len (base : Nat) (l t : Bytes) (h : numE base l = some t) : t.length ≤ 4 ∧ l ≠ [] := by
  unfold numE at h
  split at h
  · cases h
  · rename_i hn
    split at h
    · rename_i hs
      rw [← Option.some.inj h]
      exact ⟨utf_len _ hs, fun e => hn (Or.inl e)⟩
    · cases h
theorem entity_len (l t : Bytes) (h : entity l = some t) : t.length ≤ 4 ∧ 2 ≤ l.length := by
  by_cases h1 : l = [97, 109, 112]
  · have e : entity [97, 109, 112] = some [38] := by decide +kernel
    rw [h1, e] at h; rw [h1, ← Option.some.inj h]; simp
  by_cases h2 : l = [108, 116]
  · have e : entity [108, 116] = some [60] := by decide +kernel
    rw [h2, e] at h; rw [h2, ← Option.some.inj h]; simp
  by_cases h3 : l = [103, 116]
  · have e : entity [103, 116] = some [62] := by decide +kernel
    rw [h3, e] at h; rw [h3, ← Option.some.inj h]; simp
  by_cases h4 : l = [113, 117, 111, 116]
  · have e : entity [113, 117, 111, 116] = some [34] := by decide +kernel
    rw [h4, e] at h; rw [h4, ← Option.some.inj h]; simp
  by_cases h5 : l = [97, 112, 111, 115]
  · have e : entity [97, 112, 111, 115] = some [39] := by decide +kernel
    rw [h5, e] at h; rw [h5, ← Option.some.inj h]; simp
  rw [entity_rest l h1 h2 h3 h4 h5] at h
  cases hh : isHash l with
  | false => rw [hh] at h; cases h
  | true =>
    rw [hh] at h
    simp only [Bool.true_eq_false, if_false] at h
    have hn := numE_len _ _ _ h
    refine ⟨hn.1, ?_⟩
    have hp := List.length_pos_iff.2 hn.2
    have a1 := cut_len (hashOf l) [120]
    have a2 : (hashOf l).length + 1 ≤ l.length := by
      unfold hashOf Lib.trimPrefix
      unfold isHash at hh
      rw [if_pos hh]
      cases l with
      | nil => unfold Lib.hasPrefix at hh; simp [List.isPrefixOf] at hh
      | cons b u => simp
    unfold hexOf at hp
    omega

/-- what the loop of Unescape has: so much is read, so much is written. -/
structure UnAt (l : Bytes) (p : Nat) (o : Bytes) : Prop where
  le : p ≤ l.length
  len : o.length ≤ p
  eq : un l = match un (l.drop p) with | .ok y => .ok (o ++ y) | .error (k, e) => .error (k + p, e)
theorem UnAt.start (l : Bytes) : UnAt l 0 [] := ⟨Nat.zero_le _, Nat.le_refl _, by rw [List.drop_zero]; cases un l <;> simp⟩
theorem UnAt.err {l : Bytes} {p : Nat} {o : Bytes} (h : UnAt l p o) {k : Nat} {e : Int} (he : un (l.drop p) = .error (k, e)) : unR l = ([], k + p, e) := by
  unfold unR; rw [h.eq, he]
theorem UnAt.fin {l : Bytes} {p : Nat} {o : Bytes} (h : UnAt l p o) (hp : l.length ≤ p) : unR l = (o, 0, 0) := by
  unfold unR; rw [h.eq, List.drop_eq_nil_of_le hp, un_nil]; simp
theorem UnAt.next {l : Bytes} {p : Nat} {o : Bytes} (h : UnAt l p o) {n : Nat} {x : Bytes} (hn : p + n ≤ l.length) (hx : x.length ≤ n)
    (he : un (l.drop p) = match un ((l.drop p).drop n) with | .ok y => .ok (x ++ y) | .error (k, e) => .error (k + n, e)) : UnAt l (p + n) (o ++ x) := by
  refine ⟨hn, by have := h.len; simp; omega, ?_⟩
  rw [h.eq, he, List.drop_drop]
  cases un (l.drop (p + n)) with
  | ok y => simp
  | error ke => simp; omega

theorem un_lt {l t : Bytes} (h : l = 60 :: t) : un l = .error (0, 6) := by
  subst h; rw [un_step]; simp only [unStep]; rfl
theorem un_and {l t : Bytes} (h : l = 38 :: t) : un l = if (59 : UInt8) ∈ t then (match entity (nameOf t) with | none => .error (0, 7) | some x => (match un (t.drop ((nameOf t).length + 1)) with | .ok y => .ok (x ++ y) | .error (k, e) => .error (k + ((nameOf t).length + 2), e))) else .error (0, 7) := by
  subst h; rw [un_step]; simp only [unStep]; rfl
theorem un_other {l t : Bytes} {b : UInt8} (h : l = b :: t) (h1 : b ≠ 60) (h2 : b ≠ 38) : un l = if wid l = 0 then .error (0, 6) else (match un (l.drop (wid l)) with | .ok y => .ok (l.take (wid l) ++ y) | .error (k, e) => .error (k + wid l, e)) := by
  subst h; rw [un_step]; simp only [unStep]; rw [if_neg h1, if_neg h2]; rfl

/-- the first sign alone: Good just if it is a good sign. -/
theorem bad_dec_take (l : Bytes) (h : l ≠ []) : bad (l.take (dec l).2) = none ↔ wid l ≠ 0 := by
  have hp := dec_pos l
  have hle := dec_le l h
  constructor
  · intro hb hw
    have hne : l.take (dec l).2 ≠ [] := by
      intro e
      have := congrArg List.length e
      rw [List.length_take, List.length_nil] at this; omega
    rw [bad_step _ hne] at hb
    have hw' : wid (l.take (dec l).2) = 0 := by
      by_cases he : dec l = (65533, 1)
      · have e1 : (dec l).2 = 1 := by rw [he]
        rw [e1]
        cases l with
        | nil => exact absurd rfl h
        | cons b t =>
          rw [List.take_succ_cons, List.take_zero]
          have hb0 : ¬ b.toNat < 128 := by
            intro hlt
            have : dec (b :: t) = (b.toNat, 1) := by unfold dec Lib.decodeN; rw [byN_cons_zero, if_pos hlt]
            rw [this] at he
            have := congrArg Prod.fst he
            simp at this; omega
          have hd : dec [b] = (65533, 1) := by
            unfold dec Lib.decodeN
            rw [byN_cons_zero, if_neg hb0, if_neg (by simp), if_neg (by simp), if_neg (by simp)]
          unfold wid; rw [hd]; simp
      · have hd : dec (l.take (dec l).2) = dec l := by
          have e0 := byN_take l (dec l).2 0 (by omega)
          generalize hK : (dec l).2 = K at *
          unfold dec at hK he ⊢
          rw [e0]
          exact decodeN_agree _ _ _ _ _ _ _ _ _ K hK he (by rw [List.length_take]; omega) (byN_take l K 1) (byN_take l K 2) (byN_take l K 3)
        unfold wid at hw ⊢; rw [hd]; exact hw
    rw [if_pos hw'] at hb; cases hb
  · intro hw
    have := (wid_ne l hw).1
    rw [← this]; exact bad_take_none l h hw

/-- Unescape's results. -/
def unV (r : Bytes × Nat × Int) : Value := .tuple #[.string ⟨r.1.toArray⟩, .int .i64 r.2.1, .int .i64 r.2.2]
end Go.Proofs.YtcicibeggkmlcaaGreatDoor

namespace Go.Proofs.YtcicibeggkmlcaaGreatDoor
open Go.RowKit Go.Sof

theorem get_cons (s : ByteArray) (p : Nat) (h : p < s.size) : s.data.toList.drop p = (s[p]'h) :: s.data.toList.drop (p + 1) := by
  have h' : p < s.data.toList.length := h
  rw [List.drop_eq_getElem_cons h']; rfl

theorem mid_list (s : ByteArray) (p n : Nat) : (s.extract p (p + n)).data.toList = (s.data.toList.drop p).take n := by
  rw [Lib.extract_data, Nat.add_sub_cancel_left]

theorem WriteString_c (B b : Nat) (o : Bytes) (s : ByteArray) (w : World) (h : Lib.IsBuilderF 71 5 B b (Lib.byteCells o) w) (hlen : o.length + s.size ≤ 140737488355328) (hBw : B ≤ w.heap.size) :
    Calls Tryz.prog 51 #[.pointer (some ⟨b, 0, none⟩), .string s] w fun e w' => e = .returned (.tuple #[.int .i64 s.size, .nilIface]) ∧ (Lib.IsBuilderF 71 5 B b (Lib.byteCells (o ++ s.data.toList)) w' ∧ Below B w w' ∧ Lib.OthersKept 5 (some b) w w') := by
  refine (Tryz.Builder_WriteString_k B b _ s w h (by rw [Lib.byteCells_length]; exact hlen) hBw).mono ?_
  rintro e w' ⟨he, hb, hx⟩
  refine ⟨he, Or.inr ?_, hx⟩
  have : Lib.byteCells (o ++ s.data.toList) = Lib.byteCells o ++ Lib.strCells s := by unfold Lib.byteCells Lib.strCells; rw [List.map_append]
  rw [this]; exact hb

theorem String_c (B b : Nat) (o : Bytes) (w : World) (h : Lib.IsBuilderF 71 5 B b (Lib.byteCells o) w) (hBw : B ≤ w.heap.size) :
    Calls Tryz.prog 52 #[.pointer (some ⟨b, 0, none⟩)] w fun e w' => e = .returned (.string ⟨o.toArray⟩) ∧ (Lib.IsBuilderF 71 5 B b (Lib.byteCells o) w' ∧ Below B w w') :=
  Tryz.Builder_String_any_f B b o w h hBw

theorem fresh_builder (w : World) : Lib.IsBuilderF 71 5 w.heap.size w.heap.size (Lib.byteCells []) (w.alloc (.cells #[.pointer none, .slice none 0 0] 71)) :=
  Lib.IsBuilderF.of (Lib.fresh_isBuilder _ _ w)

theorem ne_u8 (b : UInt8) (n : Int) (c : UInt8) (hc : (c.toNat : Int) = n) (h : b ≠ c) : ((b.toNat : Int) == n) = false :=
  beq_eq_false_iff_ne.2 fun e => h (UInt8.toNat_inj.1 (by omega))

set_option maxRecDepth 100000 in
set_option maxHeartbeats 2000000 in
theorem unescape_c (s : ByteArray) (w : World) (h : WOK w) (hs : s.size ≤ 2147483648) :
    Calls Tryz.prog 25 #[.string s] w fun e w' => e = .returned (unV (unR s.data.toList)) ∧ Below w.heap.size w w' := by
  obtain ⟨U, hU⟩ : ∃ U, U = unR s.data.toList := ⟨_, rfl⟩
  rw [← hU]
  have HU := Lib.hid hU; clear hU
  go_enter Tryz.func25, Tryz.ntmps25
  go_wp2_with fail
  go_loopg [6] s.size (fun g i wr => ∃ (p : Nat) (o : Bytes), g = s.size - p ∧ i = .int .i64 p ∧ UnAt s.data.toList p o ∧ Lib.IsBuilderF 71 5 w.heap.size w.heap.size (Lib.byteCells o) wr ∧ Below w.heap.size w wr)
  case atStart => exact ⟨0, [], rfl, rfl, UnAt.start _, fresh_builder w, (Below.refl _ w).alloc (Nat.le_refl _) _⟩
  case round =>
    obtain ⟨p, o, hg, rfl, hun, hbu, hb⟩ := hrel
    have hpl : p ≤ s.size := hun.le
    have hol := hun.len
    have HG := Lib.hid (And.intro hg (And.intro hun (And.intro hbu hb))); clear hg
    have hw := h.below hb
    have hsz := hb.size
    by_cases hlt : p < s.size
    · have hcons := get_cons s p hlt
      obtain ⟨b, hbx⟩ : ∃ x, s[p]'hlt = x := ⟨_, rfl⟩
      rw [hbx] at hcons
      have hblt : (b.toNat : Int) < 256 := by have := b.toNat_lt; omega
      by_cases h60 : b = 60
      · subst h60
        have hr := hun.err (un_lt hcons)
        rw [Nat.zero_add, ← HU.out] at hr
        subst hr
        clear hun hbu hcons hw hb
        go_wp2_with fail
        go_ret3
        exact ⟨rfl, HG.out.2.2.2⟩
      · have n60 := ne_u8 b 60 60 rfl h60
        by_cases h38 : b = 38
        · subst h38
          have hand := un_and hcons
          have hcut := cut_c (s.extract (p + 1) s.size) ⟨#[59]⟩ wr hw (by simp; omega)
          rw [Lib.extract_to_end, show (ByteArray.mk #[59]).data.toList = [59] from rfl, cut_one] at hcut
          by_cases hm : (59 : UInt8) ∈ s.data.toList.drop (p + 1)
          · rw [if_pos hm] at hcut hand
            rw [show List.takeWhile (fun x => x != 59) (s.data.toList.drop (p + 1)) = nameOf (s.data.toList.drop (p + 1)) from rfl] at hcut
            have hnl : (nameOf (s.data.toList.drop (p + 1))).length + p + 2 ≤ s.size := by
              have h1 : (nameOf (s.data.toList.drop (p + 1))).length < (s.data.toList.drop (p + 1)).length := by
                rcases Nat.lt_or_ge (nameOf (s.data.toList.drop (p + 1))).length (s.data.toList.drop (p + 1)).length with h' | h'
                · exact h'
                · exfalso
                  have e1 : nameOf (s.data.toList.drop (p + 1)) = s.data.toList.drop (p + 1) := (List.takeWhile_sublist _).eq_of_length_le h'
                  rw [← e1] at hm
                  have := List.all_takeWhile (p := fun x : UInt8 => x != 59) (l := s.data.toList.drop (p + 1))
                  rw [List.all_eq_true] at this
                  have := this 59 hm
                  simp at this
              rw [List.length_drop, size_list] at h1; omega
            have hdd : (s.data.toList.drop p).drop ((nameOf (s.data.toList.drop (p + 1))).length + 2) = (s.data.toList.drop (p + 1)).drop ((nameOf (s.data.toList.drop (p + 1))).length + 1) := by
              rw [List.drop_drop, List.drop_drop]; congr 1; omega
            rw [← hdd] at hand
            have hent := fun W => entity_c ⟨(nameOf (s.data.toList.drop (p + 1))).toArray⟩ W (by show (nameOf _).toArray.size ≤ _; simp only [List.size_toArray]; omega)
            rw [show (ByteArray.mk (nameOf (s.data.toList.drop (p + 1))).toArray).data.toList = nameOf (s.data.toList.drop (p + 1)) from rfl, entV_eq] at hent
            have helen := entity_len (nameOf (s.data.toList.drop (p + 1)))
            have hnsz : (ByteArray.mk (nameOf (s.data.toList.drop (p + 1))).toArray).size = (nameOf (s.data.toList.drop (p + 1))).length := by show (nameOf _).toArray.size = _; simp
            generalize nameOf (s.data.toList.drop (p + 1)) = nm at hand hcut hnl hent helen hnsz
            clear hdd
            generalize ByteArray.mk nm.toArray = nmB at hcut hent hnsz
            generalize ByteArray.mk (List.drop (List.length nm + 1) (s.data.toList.drop (p + 1))).toArray = rB at hcut
            obtain ⟨N, hN⟩ : ∃ N, nm.length = N := ⟨_, rfl⟩
            rw [hN] at hnsz hnl helen
            cases hE : entity nm with
            | none =>
              rw [hE] at hand hent
              have hr := hun.err hand
              rw [Nat.zero_add, ← HU.out] at hr
              subst hr
              rw [show entB none = false from rfl] at hent
              generalize entS none = eS at hent
              have HC := Lib.hid (And.intro hcut hent)
              clear hun hbu hcons hcut hent hE hm hand helen hw hb
              go_wp2_with (first | (go_at_call 49; refine HC.out.1.mono ?_; rintro e w2 ⟨rfl, hb2⟩) | (go_at_call 50; refine (HC.out.2 _).mono ?_; rintro e w3 ⟨rfl, hb3⟩))
              go_ret3
              exact ⟨rfl, HG.out.2.2.2.trans ((hb2.mono hsz).trans (hb3.mono (Nat.le_trans hsz hb2.size)))⟩
            | some x =>
              rw [hE] at hand hent
              have hxl := helen x hE
              have hnx := hun.next (n := N + 2) (x := x) (by rw [size_list]; omega) (by omega) (by rw [hand, hN])
              rw [show entB (some x) = true from rfl] at hent
              have hxe : (entS (some x)).data.toList = x := rfl
              have hxs : (entS (some x)).size = x.length := by rw [← size_list, hxe]
              generalize entS (some x) = eS at hent hxe hxs
              have HC := Lib.hid (And.intro hcut (And.intro hent (And.intro hxe hxs)))
              have HN := Lib.hid hnx
              clear hun hbu hcons hcut hent hE hm hand helen hw hb hxe hxs hnx
              go_wp2_with (first | (go_at_call 49; refine HC.out.1.mono ?_; rintro e w2 ⟨rfl, hb2⟩) | (go_at_call 50; refine (HC.out.2.1 _).mono ?_; rintro e w3 ⟨rfl, hb3⟩) | (go_at_call 51; refine (WriteString_c _ _ o _ _ (IsBuilderF_keep (IsBuilderF_keep HG.out.2.2.1 hb2) hb3) (by rw [HC.out.2.2.2]; omega) (Nat.le_trans hsz (Nat.le_trans hb2.size hb3.size))).mono ?_; rintro e w4 ⟨rfl, hb4, hbl4, hok4⟩))
              have hb4' := hb4
              rw [HC.out.2.2.1] at hb4'
              clear hb4
              have HB4 := Lib.hid (And.intro hb4' hbl4); clear hb4' hbl4 hok4
              go_roundg (s.size - (p + (N + 2)))
              case measure => have := HG.out.1; omega
              case rel => exact ⟨p + (N + 2), o ++ x, rfl, by go_num, HN.out, HB4.out.1, HG.out.2.2.2.trans ((hb2.mono hsz).trans ((hb3.mono (Nat.le_trans hsz hb2.size)).trans HB4.out.2))⟩
          · rw [if_neg hm] at hcut hand
            have hent := fun W => entity_c ⟨(s.data.toList.drop (p + 1)).toArray⟩ W (by show (List.drop (p + 1) s.data.toList).toArray.size ≤ _; rw [List.size_toArray, List.length_drop, size_list]; omega)
            rw [entV_eq] at hent
            generalize ByteArray.mk (s.data.toList.drop (p + 1)).toArray = nmB at hcut hent
            have hr := hun.err hand
            rw [Nat.zero_add, ← HU.out] at hr
            subst hr
            generalize entity nmB.data.toList = E at hent
            cases hE : entB E
            all_goals
              rw [hE] at hent
              generalize entS E = eS at hent
              have HC := Lib.hid (And.intro hcut hent)
              clear hun hbu hcons hcut hent hE hm hand hw hb
              go_wp2_with (first | (go_at_call 49; refine HC.out.1.mono ?_; rintro e w2 ⟨rfl, hb2⟩) | (go_at_call 50; refine (HC.out.2 _).mono ?_; rintro e w3 ⟨rfl, hb3⟩))
              go_ret3
              exact ⟨rfl, HG.out.2.2.2.trans ((hb2.mono hsz).trans (hb3.mono (Nat.le_trans hsz hb2.size)))⟩
        · have n38 := ne_u8 b 38 38 rfl h38
          have hoth := un_other hcons h60 h38
          have hne := drop_ne hlt
          have hdp := dec_pos (s.data.toList.drop p)
          have hdl := dec_le _ hne
          rw [List.length_drop, size_list] at hdl
          have hgd := bad_dec_take _ hne
          have cD := decode_c (s.extract p s.size) wr hw
          rw [decodeGo_cut s p hlt] at cD
          have cG := fun W hW => good_c (s.extract p (p + (dec (s.data.toList.drop p)).2)) W hW (by simp; omega)
          have hmid := mid_list s p (dec (s.data.toList.drop p)).2
          have hmsz : (s.extract p (p + (dec (s.data.toList.drop p)).2)).size = (dec (s.data.toList.drop p)).2 := by simp; omega
          have hwd : wid (s.data.toList.drop p) ≠ 0 → wid (s.data.toList.drop p) = (dec (s.data.toList.drop p)).2 := fun hh => (wid_ne _ hh).1
          simp only [mid_list] at cG
          cases hx : decide (bad (List.take (dec (s.data.toList.drop p)).2 (s.data.toList.drop p)) = none) with
          | false =>
            rw [hx] at cG
            have hw0 : wid (s.data.toList.drop p) = 0 := by
              apply Classical.byContradiction
              intro hh
              have := hgd.2 hh
              simp [this] at hx
            rw [if_pos hw0] at hoth
            have hr := hun.err hoth
            rw [Nat.zero_add, ← HU.out] at hr
            subst hr
            generalize dec (s.data.toList.drop p) = d at *
            obtain ⟨R, K⟩ := d
            dsimp only at *
            have HC := Lib.hid (And.intro cD cG)
            clear hun hbu hcons hoth hgd cD cG hmid hmsz hwd hx hw0 hne hb
            have HW := Lib.hid hw; clear hw
            go_wp2_with (first | (go_at_call 43; refine HC.out.1.mono ?_; rintro e w2 ⟨rfl, hb2⟩) | (go_at_call 19; refine (HC.out.2 _ (WOK.below HW.out hb2)).mono ?_; rintro e w3 ⟨rfl, hb3⟩))
            go_ret3
            exact ⟨rfl, HG.out.2.2.2.trans ((hb2.mono hsz).trans (hb3.mono (Nat.le_trans hsz hb2.size)))⟩
          | true =>
            rw [hx] at cG
            have hw0 : wid (s.data.toList.drop p) ≠ 0 := hgd.1 (by simpa using hx)
            rw [if_neg hw0, hwd hw0] at hoth
            have hnx := hun.next (n := (dec (s.data.toList.drop p)).2) (x := List.take (dec (s.data.toList.drop p)).2 (s.data.toList.drop p)) (by rw [size_list]; omega) (by rw [List.length_take]; omega) hoth
            generalize dec (s.data.toList.drop p) = d at *
            obtain ⟨R, K⟩ := d
            dsimp only at *
            have HC := Lib.hid (And.intro cD (And.intro cG (And.intro hmid (And.intro hmsz hnx))))
            clear hun hbu hcons hoth hgd cD cG hmid hmsz hwd hx hw0 hne hb hnx
            have HW := Lib.hid hw; clear hw
            go_wp2_with (first | (go_at_call 43; refine HC.out.1.mono ?_; rintro e w2 ⟨rfl, hb2⟩) | (go_at_call 19; refine (HC.out.2.1 _ (WOK.below HW.out hb2)).mono ?_; rintro e w3 ⟨rfl, hb3⟩) | (go_at_call 51; refine (WriteString_c _ _ o _ _ (IsBuilderF_keep (IsBuilderF_keep HG.out.2.2.1 hb2) hb3) (by rw [HC.out.2.2.2.1]; omega) (Nat.le_trans hsz (Nat.le_trans hb2.size hb3.size))).mono ?_; rintro e w4 ⟨rfl, hb4, hbl4, hok4⟩))
            have hb4' := hb4
            rw [HC.out.2.2.1] at hb4'
            clear hb4
            have HB4 := Lib.hid (And.intro hb4' hbl4); clear hb4' hbl4 hok4
            go_roundg (s.size - (p + K))
            case measure => have := HG.out.1; omega
            case rel => exact ⟨p + K, o ++ List.take K (s.data.toList.drop p), rfl, by go_num, HC.out.2.2.2.2, HB4.out.1, HG.out.2.2.2.trans ((hb2.mono hsz).trans ((hb3.mono (Nat.le_trans hsz hb2.size)).trans HB4.out.2))⟩
    · have hr := hun.fin (by rw [size_list]; omega)
      rw [← HU.out] at hr
      subst hr
      clear hun hbu
      go_wp2_with (first | (go_at_call 52; refine (String_c _ _ o _ HG.out.2.2.1 hsz).mono ?_; rintro e w2 ⟨rfl, hb2, hbl2⟩))
      go_ret3
      exact ⟨rfl, hb.trans hbl2⟩
end Go.Proofs.YtcicibeggkmlcaaGreatDoor
