/- The walk of mark.Marks: the marks of a text, in memory. Conditions: the tables lie as they are laid; the text has at most 2^31 bytes. Marks in memory, to be read; the walk of the laws' awake. Conditions: the tables lie as they are laid. -/
import Derived.Test.YtcicibeggkmlcaaGreatDoorMkKJ2
namespace Go.Proofs.YtcicibeggkmlcaaGreatDoor
open Go.RowKit Go.Sof

theorem tag_c (w : World) (R : Nat) (s : ByteArray) (p : Nat) (ms : List PMark) (h : RS w R s p ms) (hs : s.size ≤ 65536) (hp : p < s.size) (hw : WOK w) (hR : Globs R) :
    Calls Tryz.prog 60 #[.pointer (some ⟨R, 0, none⟩)] w fun en w' => en = .returned (.tuple #[]) ∧ DataPost R s p ms (tagP (s.data.toList.drop p)) w' ∧ Below R w w' := by
  obtain ⟨out, xs, h1, h2, h3, h4⟩ := h
  have hsl : s.data.toList.length = s.size := Array.length_toList
  unfold tagP
  rw [List.drop_drop]
  cases hbc : Lib.hasPrefix (s.data.toList.drop (p + 1)) [47] with
  | true =>
    rw [if_pos rfl]
    have hl := hp_drop_lt hbc
    rw [hsl] at hl
    by_cases hN : nameP (s.data.toList.drop (p + 2)) = []
    · have hcl : closeP (s.data.toList.drop p) = .error (0, 8) := by unfold closeP; rw [List.drop_drop, if_pos hN]
      rw [hcl]
      exact tag_m w R s p out h1 hs (by omega) hbc hN
    · have hle := nameP_le (s.data.toList.drop (p + 2))
      rw [List.length_drop, hsl] at hle
      exact tag_z w R s p ms out xs _ ⟨h1, h2, h3⟩ h4 hs (by omega) hw hR hbc rfl (by simpa using hN)
  | false =>
    rw [if_neg (by simp)]
    by_cases hN : nameP (s.data.toList.drop (p + 1)) = []
    · have hcl : openP (s.data.toList.drop p) = .error (0, 8) := by unfold openP; rw [List.drop_drop, if_pos hN]
      rw [hcl]
      exact tag_n w R s p out h1 hs (by omega) hbc hN
    · have hle := nameP_le (s.data.toList.drop (p + 1))
      rw [List.length_drop, hsl] at hle
      have hop : openP (s.data.toList.drop p) = openR (s.data.toList.drop p) (nameP (s.data.toList.drop (p + 1))) (attrsP 65537 (s.data.toList.drop p) (1 + (nameP (s.data.toList.drop (p + 1))).length) []) := by
        unfold openP openR
        rw [List.drop_drop, if_neg hN]
        cases attrsP 65537 (s.data.toList.drop p) (1 + (nameP (s.data.toList.drop (p + 1))).length) [] with
        | error x => rfl
        | ok x =>
          obtain ⟨al, c⟩ := x
          simp only
          cases endP (s.data.toList.drop p) c with
          | none => rfl
          | some y => rfl
      rw [hop]
      exact tag_o w R s p ms out xs _ _ ⟨h1, h2, h3⟩ h4 hs (by omega) hw hR hbc rfl (by simpa using hN) rfl

def StepPost (R : Nat) (s : ByteArray) (p : Nat) (ms : List PMark) (x : Except Err (Option PMark × Nat)) (w' : World) : Prop :=
  match x with
  | .ok (m, n) => RS w' R s (p + n) (ms ++ atPos p m)
  | .error (k, e) => RF w' R s (p + k) e
theorem DataPost.step {R : Nat} {s : ByteArray} {p : Nat} {ms : List PMark} {x : Except Err (PMark × Nat)} {w' : World} (h : DataPost R s p ms x w') : StepPost R s p ms (someM x) w' := by
  cases x with
  | error y => exact h
  | ok y => exact h
theorem CommentPost.step {R : Nat} {s : ByteArray} {p : Nat} {ms : List PMark} {x : Except Err Nat} {w' : World} (h : CommentPost R s p ms x w') : StepPost R s p ms (noneM x) w' := by
  cases x with
  | error y => exact h
  | ok y => show RS w' R s (p + y) (ms ++ []); rw [List.append_nil]; exact h

/-- what the loop of Marks has: so much is read, or it failed. -/
def MR (R : Nat) (s : ByteArray) (T : Except Err (List PMark)) (g : Nat) (wr : World) : Prop :=
  (∃ p ms, RS wr R s p ms ∧ p ≤ s.size ∧ s.size - p < g ∧ (match marksP g (s.data.toList.drop p) p with | .ok r => T = .ok (ms ++ r) | .error x => T = .error x)) ∨
  (∃ k e, RF wr R s k e ∧ e ≠ 0 ∧ T = .error (k, e))
theorem MR.next {R : Nat} {s : ByteArray} {T : Except Err (List PMark)} {g p : Nat} {ms : List PMark} {w' : World} (hp : p < s.size) (hg : s.size - p < g + 1)
    (hT : match marksP (g + 1) (s.data.toList.drop p) p with | .ok r => T = .ok (ms ++ r) | .error x => T = .error x) (h : StepPost R s p ms (stepP (s.data.toList.drop p)) w') : MR R s T g w' := by
  have hsl : s.data.toList.length = s.size := Array.length_toList
  have hl : s.data.toList.drop p ≠ [] := by
    intro e
    have := congrArg List.length e
    rw [List.length_drop, hsl] at this
    simp at this; omega
  cases hs : stepP (s.data.toList.drop p) with
  | error x =>
    obtain ⟨k, e⟩ := x
    rw [hs] at h
    rw [marksP_stop hl hs] at hT
    refine .inr ⟨p + k, e, h, ?_, hT⟩
    rcases stepP_err hs with ⟨h1, _⟩ | ⟨h1, _⟩ <;> omega
  | ok x =>
    obtain ⟨m, n⟩ := x
    rw [hs] at h
    obtain ⟨h1, h2, _⟩ := stepP_take hl hs
    rw [List.length_drop, hsl] at h2
    rw [marksP_step hl hs, List.drop_drop] at hT
    refine .inl ⟨p + n, _, h, by omega, by omega, ?_⟩
    cases hr : marksP g (s.data.toList.drop (p + n)) (p + n) with
    | error x => rw [hr] at hT; exact hT
    | ok r => rw [hr] at hT; simp only at hT ⊢; rw [hT, List.append_assoc]

theorem getElem_list (s : ByteArray) (k : Nat) (h : k < s.size) : s.data.toList[k]? = some (s[k]'h) := by
  have h' : k < s.data.toList.length := h
  rw [List.getElem?_eq_getElem h']; rfl

def MarksPost (B : Nat) (x : Except Err (List PMark)) (en : Ending) (w' : World) : Prop :=
  match x with
  | .ok ms => ∃ out xs, en = .returned (.tuple #[out, .int .i64 0, .int .i64 0]) ∧ w'.ownsRow B 41 5 out ms.length xs ∧ MarksO w' ms xs
  | .error (k, e) => en = .returned (.tuple #[.slice none 0 0, .int .i64 k, .int .i64 e])

set_option maxRecDepth 1000000 in
theorem marks_big (w : World) (s : ByteArray) (hs : 65536 < s.size) (hs2 : s.size ≤ 2147483648) :
    Calls Tryz.prog 31 #[.string s] w fun en w' => en = .returned (.tuple #[.slice none 0 0, .int .i64 0, .int .i64 10]) ∧ Below w.heap.size w w' := by
  have hI : (65536 : Int) < (s.size : Int) := by omega
  go_enter Tryz.func31, Tryz.ntmps31
  go_wp2_with fail
  go_ret3
  exact ⟨rfl, Below.refl _ _⟩

theorem get_ext (s : ByteArray) (p : Nat) (h : p < s.size) (h0 : 0 < (s.extract p s.size).size) : (s.extract p s.size)[0]'h0 = s[p]'h := by
  have := getElem_list (s.extract p s.size) 0 h0
  rw [Lib.extract_to_end, List.getElem?_drop, Nat.add_zero] at this
  have h2 := getElem_list s p h
  rw [h2] at this
  exact (Option.some.inj this).symm

set_option maxRecDepth 1000000 in
set_option maxHeartbeats 4000000 in
theorem marks_small (w : World) (s : ByteArray) (hs : s.size ≤ 65536) (hw : WOK w) (T : Except Err (List PMark)) (hT : marksP 65537 s.data.toList 0 = T) :
    Calls Tryz.prog 31 #[.string s] w fun en w' => MarksPost (w.heap.size + 1) T en w' ∧ Below w.heap.size w w' := by
  have hR := hw.globs
  have HT := Lib.hid hT; clear hT
  have HW := Lib.hid (And.intro hw hR); clear hw hR
  have hI : (s.size : Int) ≤ 65536 := by omega
  go_enter Tryz.func31, Tryz.ntmps31
  go_wp2_with fail
  go_loopg [6] 65537 (fun g rest wr => MR w.heap.size s T g wr ∧ Below w.heap.size w wr)
  case atStart =>
    refine ⟨.inl ⟨0, [], ⟨.slice none 0 0, [], ?_, World.ownsRow_nil _ _ _ _, rfl, Nat.le_refl _⟩, Nat.zero_le _, by omega, ?_⟩, (Below.refl _ w).alloc (Nat.le_refl _) _⟩
    · exact heap_alloc_new w _
    · rw [List.drop_zero, HT.out]
      cases T <;> simp
  case round =>
    obtain ⟨hm, hb⟩ := hrel
    have HB := Lib.hid hb; clear hb
    rcases hm with ⟨p, ms, hrs, hp, hg, hX⟩ | ⟨k, e, hrf, he, hX⟩
    · have HRS := Lib.hid hrs
      obtain ⟨out, xs, h1, h2, h3, h4⟩ := hrs
      have c0 := h1.c0
      have c1 := h1.c1
      have c2 := h1.c2
      have c4 := h1.c4
      have HO := Lib.hid (And.intro h2 h3); clear h1 h2 h3 h4
      have hwr := Lib.hid (HW.out.1.low HW.out.2 HB.out)
      obtain ⟨g', hg'⟩ : ∃ g', gk = g' + 1 := ⟨gk - 1, by omega⟩
      rw [hg'] at hX hg
      have HX := Lib.hid (And.intro hX (And.intro hg hg')); clear hX hg hg'
      by_cases hlt : p < s.size
      · have hltI : (p : Int) < (s.size : Int) := by omega
        have hesz : (s.extract p s.size).size = s.size - p := by simp
        have he0 : 0 < (s.extract p s.size).size := by omega
        have heI : (0 : Int) < ((s.size - p : Nat) : Int) := by omega
        obtain ⟨b, hbb⟩ : ∃ b, s[p]'hlt = b := ⟨_, rfl⟩
        have hix : (s.extract p s.size)[0]'he0 = b := (get_ext s p hlt he0).trans hbb
        have hp60 : Lib.hasPrefix (s.data.toList.drop p) [60] = ((60 : UInt8) == b) := by rw [hp_get s p hlt, hbb]
        by_cases h60 : b = 60
        · subst h60
          have hc := fun W t => Tryz.strings_HasPrefix (s.extract p s.size) t W
          rw [Lib.extract_to_end] at hc
          cases hcm : Lib.hasPrefix (s.data.toList.drop p) [60, 33, 45, 45] with
          | true =>
            have hl4 := hp_len hcm
            rw [List.length_drop, show s.data.toList.length = s.size from Array.length_toList] at hl4
            simp only [List.length_cons, List.length_nil] at hl4
            have hst : stepP (s.data.toList.drop p) = noneM (commentP (s.data.toList.drop p)) := by unfold stepP; rw [hp60, hcm]; rfl
            have hc1 := fun W => hc W ⟨#[60, 33, 45, 45]⟩
            rw [show (ByteArray.mk #[60, 33, 45, 45]).data.toList = [60, 33, 45, 45] from rfl, hcm] at hc1
            have hcall := comment_c wr w.heap.size s p ms HRS.out hs (by omega) hwr.out
            have HC := Lib.hid (And.intro hc1 (And.intro hcall hst)); clear hc hc1 hcall hst hcm hbb hp60
            go_wp2_with (first
              | (go_at_call 57; refine (HC.out.1 _).mono ?_; rintro en w2 ⟨rfl, rfl⟩)
              | (go_at_call 58; refine HC.out.2.1.mono ?_; rintro en w3 ⟨rfl, hq, b3⟩))
            go_roundg g'
            case measure => have := HX.out.2.2; omega
            case rel => exact ⟨MR.next hlt HX.out.2.1 HX.out.1 (by rw [HC.out.2.2]; exact hq.step), HB.out.trans b3⟩
          | false =>
            cases hcd : Lib.hasPrefix (s.data.toList.drop p) [60, 33, 91, 67, 68, 65, 84, 65, 91] with
            | true =>
              have hl4 := hp_len hcd
              rw [List.length_drop, show s.data.toList.length = s.size from Array.length_toList] at hl4
              simp only [List.length_cons, List.length_nil] at hl4
              have hst : stepP (s.data.toList.drop p) = someM (dataP (s.data.toList.drop p)) := by unfold stepP; rw [hp60, hcm, hcd]; rfl
              have hc1 := fun W => hc W ⟨#[60, 33, 45, 45]⟩
              have hc2 := fun W => hc W ⟨#[60, 33, 91, 67, 68, 65, 84, 65, 91]⟩
              rw [show (ByteArray.mk #[60, 33, 45, 45]).data.toList = [60, 33, 45, 45] from rfl, hcm] at hc1
              rw [show (ByteArray.mk #[60, 33, 91, 67, 68, 65, 84, 65, 91]).data.toList = [60, 33, 91, 67, 68, 65, 84, 65, 91] from rfl, hcd] at hc2
              have hcall := data_c wr w.heap.size s p ms HRS.out hs (by omega) hwr.out
              have HC := Lib.hid (And.intro hc1 (And.intro hc2 (And.intro hcall hst))); clear hc hc1 hc2 hcall hst hcm hcd hbb hp60
              go_wp2_with (first
                | (go_at_call 57; first | (have gd := q1; clear gd; refine (HC.out.2.1 _).mono ?_; rintro en w2 ⟨rfl, rfl⟩; have q2 := True.intro) | (refine (HC.out.1 _).mono ?_; rintro en w2 ⟨rfl, rfl⟩; have q1 := True.intro))
                | (go_at_call 59; refine HC.out.2.2.1.mono ?_; rintro en w3 ⟨rfl, hq, b3⟩))
              go_roundg g'
              case measure => have := HX.out.2.2; omega
              case rel => exact ⟨MR.next hlt HX.out.2.1 HX.out.1 (by rw [HC.out.2.2.2]; exact hq.step), HB.out.trans b3⟩
            | false =>
              have hst : stepP (s.data.toList.drop p) = someM (tagP (s.data.toList.drop p)) := by unfold stepP; rw [hp60, hcm, hcd]; rfl
              have hc1 := fun W => hc W ⟨#[60, 33, 45, 45]⟩
              have hc2 := fun W => hc W ⟨#[60, 33, 91, 67, 68, 65, 84, 65, 91]⟩
              rw [show (ByteArray.mk #[60, 33, 45, 45]).data.toList = [60, 33, 45, 45] from rfl, hcm] at hc1
              rw [show (ByteArray.mk #[60, 33, 91, 67, 68, 65, 84, 65, 91]).data.toList = [60, 33, 91, 67, 68, 65, 84, 65, 91] from rfl, hcd] at hc2
              have hcall := tag_c wr w.heap.size s p ms HRS.out hs hlt hwr.out HW.out.2
              have HC := Lib.hid (And.intro hc1 (And.intro hc2 (And.intro hcall hst))); clear hc hc1 hc2 hcall hst hcm hcd hbb hp60
              go_wp2_with (first
                | (go_at_call 57; first | (have gd := q1; clear gd; refine (HC.out.2.1 _).mono ?_; rintro en w2 ⟨rfl, rfl⟩; have q2 := True.intro) | (refine (HC.out.1 _).mono ?_; rintro en w2 ⟨rfl, rfl⟩; have q1 := True.intro))
                | (go_at_call 60; refine HC.out.2.2.1.mono ?_; rintro en w3 ⟨rfl, hq, b3⟩))
              go_roundg g'
              case measure => have := HX.out.2.2; omega
              case rel => exact ⟨MR.next hlt HX.out.2.1 HX.out.1 (by rw [HC.out.2.2.2]; exact hq.step), HB.out.trans b3⟩
        · have n1 := ne_u8 b 60 60 rfl h60
          have n2 : ((b.toNat : Int) != 60) = true := by unfold bne; rw [n1]; rfl
          have hf : Lib.hasPrefix (s.data.toList.drop p) [60] = false := by rw [hp60, beq_eq_false_iff_ne]; exact fun e => h60 e.symm
          have hst : stepP (s.data.toList.drop p) = someM (charsP (s.data.toList.drop p)) := by unfold stepP; rw [hf]; rfl
          have hcall := chars_c wr w.heap.size s p ms HRS.out hs hlt hf hwr.out
          have HC := Lib.hid (And.intro hcall hst); clear hcall hst hf hbb hp60
          go_wp2_with (first
            | (go_at_call 56; refine HC.out.1.mono ?_; rintro en w3 ⟨rfl, hq, b3⟩))
          go_roundg g'
          case measure => have := HX.out.2.2; omega
          case rel => exact ⟨MR.next hlt HX.out.2.1 HX.out.1 (by rw [HC.out.2]; exact hq.step), HB.out.trans b3⟩
      · have hend : decide ((p : Int) < (s.size : Int)) = false := decide_eq_false (by omega)
        have hTe : T = .ok ms := by
          have hx := HX.out.1
          rw [List.drop_of_length_le (by rw [show s.data.toList.length = s.size from Array.length_toList]; omega), marksP_nil] at hx
          simpa using hx
        subst hTe
        go_wp2_with fail
        go_ret3
        exact ⟨⟨out, xs, rfl, HO.out.1, HO.out.2⟩, HB.out⟩
    · obtain ⟨q, out, hr⟩ := hrf
      have c0 := hr.c0
      have c1 := hr.c1
      have c3 := hr.c3
      have c4 := hr.c4
      have he1 : (e == 0) = false := by rw [beq_eq_false_iff_ne]; exact he
      have he2 : (e != 0) = true := by unfold bne; rw [he1]; rfl
      subst hX
      clear hr
      by_cases hlt : (q : Int) < (s.size : Int)
      · go_wp2_with fail
        go_quiet (fail)
        go_wp2_with fail
        go_ret3
        exact ⟨rfl, HB.out.trans ⟨rfl, rfl, rfl, Nat.le_refl _, fun _ _ => rfl⟩⟩
      · have hlt2 : decide ((q : Int) < (s.size : Int)) = false := decide_eq_false hlt
        clear hlt
        go_wp2_with fail
        all_goals go_quiet (fail)
        all_goals go_wp2_with fail
        all_goals go_ret3
        all_goals exact ⟨rfl, HB.out.trans ⟨rfl, rfl, rfl, Nat.le_refl _, fun _ _ => rfl⟩⟩

/-- mark.Marks. -/
theorem marks_c (w : World) (s : ByteArray) (hs : s.size ≤ 2147483648) (hw : WOK w) :
    Calls Tryz.prog 31 #[.string s] w fun en w' => MarksPost (w.heap.size + 1) (marks s.data.toList) en w' ∧ Below w.heap.size w w' := by
  unfold marks
  rw [show s.data.toList.length = s.size from Array.length_toList]
  by_cases hb : 65536 < s.size
  · rw [if_pos hb]; exact marks_big w s hb hs
  · rw [if_neg hb]; exact marks_small w s (by omega) hw _ rfl
end Go.Proofs.YtcicibeggkmlcaaGreatDoor

namespace Go.Proofs.YtcicibeggkmlcaaGreatDoor
open Go.RowKit Go.Sof

def AttrsR (w : World) (v : Value) (al : List PAttr) : Prop :=
  (al = [] ∧ v = .slice none 0 0) ∨
  ∃ b o c, v = .slice (some ⟨b, o, none⟩) al.length c ∧ ∀ (j : Nat) (hj : j < al.length), w.cell? ⟨b, o + j * 2, none⟩ = some (.string ⟨(al[j]'hj).name.toArray⟩) ∧ w.cell? ⟨b, o + j * 2 + 1, none⟩ = some (.string ⟨(al[j]'hj).value.toArray⟩)
def MarkAt (w : World) (g o : Nat) (m : PMark) : Prop :=
  w.cell? ⟨g, o, none⟩ = some (.int .i64 m.kind) ∧ w.cell? ⟨g, o + 1, none⟩ = some (.int .i64 m.pos) ∧ w.cell? ⟨g, o + 2, none⟩ = some (.string ⟨m.name.toArray⟩) ∧ w.cell? ⟨g, o + 4, none⟩ = some (.string ⟨m.text.toArray⟩) ∧
    ∃ av, w.cell? ⟨g, o + 3, none⟩ = some av ∧ AttrsR w av m.attrs
def MarksR (w : World) (v : Value) (ms : List PMark) : Prop :=
  (ms = [] ∧ v = .slice none 0 0) ∨
  ∃ g o c, v = .slice (some ⟨g, o, none⟩) ms.length c ∧ ms.length ≤ c ∧ ∀ (i : Nat) (hi : i < ms.length), MarkAt w g (o + i * 5) (ms[i]'hi)

theorem cell_keep {w w' : World} (hb : Below w.heap.size w w') {a : Addr} {v : Value} (h : w.cell? a = some v) : w'.cell? a = some v := (hb.cell (p := a) (World.block_lt_of_cell? w a h)).trans h
theorem AttrsR.below {w w' : World} {v : Value} {al : List PAttr} (h : AttrsR w v al) (hb : Below w.heap.size w w') : AttrsR w' v al := by
  rcases h with h | ⟨b, o, c, hv, hc⟩
  · exact .inl h
  · exact .inr ⟨b, o, c, hv, fun j hj => ⟨cell_keep hb (hc j hj).1, cell_keep hb (hc j hj).2⟩⟩
theorem MarkAt.below {w w' : World} {g o : Nat} {m : PMark} (h : MarkAt w g o m) (hb : Below w.heap.size w w') : MarkAt w' g o m := by
  obtain ⟨h0, h1, h2, h4, av, h3, ha⟩ := h
  exact ⟨cell_keep hb h0, cell_keep hb h1, cell_keep hb h2, cell_keep hb h4, av, cell_keep hb h3, ha.below hb⟩
theorem MarksR.below {w w' : World} {v : Value} {ms : List PMark} (h : MarksR w v ms) (hb : Below w.heap.size w w') : MarksR w' v ms := by
  rcases h with h | ⟨g, o, c, hv, hl, hc⟩
  · exact .inl h
  · exact .inr ⟨g, o, c, hv, hl, fun i hi => (hc i hi).below hb⟩
theorem AttrsO.read {w : World} {v : Value} {al : List PAttr} (h : AttrsO w v al) : AttrsR w v al := by
  rcases h with h | ⟨b, o, c, cur, fz, hv, hb, hc, _⟩
  · exact .inl h
  · refine .inr ⟨b, o, c, hv, fun j hj => ?_⟩
    have h2 := attrCells_at al j hj
    have e0 := hc _ _ h2.1
    have e1 := hc _ _ h2.2
    unfold World.cell?; rw [hb]
    exact ⟨by simpa using e0, by simpa [Nat.add_assoc] using e1⟩
theorem MarksO.at {w : World} : ∀ {ms : List PMark} {xs : List Value}, MarksO w ms xs → ∀ (i : Nat) (hi : i < ms.length), ∃ av, AttrsO w av (ms[i]'hi).attrs ∧ ∀ j, j < 5 → xs[i * 5 + j]? = (mkCell (ms[i]'hi) av)[j]?
  | [], _, _, i, hi => by simp at hi
  | m :: r, xs, h, 0, _ => by
    obtain ⟨av, ys, rfl, ha, _⟩ := h
    refine ⟨av, ha, fun j hj => ?_⟩
    rw [Nat.zero_mul, Nat.zero_add, List.getElem?_append_left (by simp [mkCell]; omega)]; rfl
  | m :: r, xs, h, i + 1, hi => by
    obtain ⟨av, ys, rfl, _, h3⟩ := h
    obtain ⟨av', ha, hj⟩ := MarksO.at h3 i (by simpa using hi)
    refine ⟨av', ha, fun j hj' => ?_⟩
    rw [List.getElem?_append_right (by simp [mkCell]; omega), show (i + 1) * 5 + j - (mkCell m av).length = i * 5 + j from by simp [mkCell]; omega]
    exact hj j hj'
theorem marks_read {w : World} {B : Nat} {v : Value} {ms : List PMark} {xs : List Value} (h : w.ownsRow B 41 5 v ms.length xs) (hm : MarksO w ms xs) : MarksR w v ms := by
  rcases h.2 with ⟨hv, h0⟩ | ⟨g, cap, cur, hv, _, hg, hcap, _, _, ht⟩
  · exact .inl ⟨List.eq_nil_of_length_eq_zero h0, hv⟩
  · refine .inr ⟨g, 0, cap, hv, hcap, fun i hi => ?_⟩
    obtain ⟨av, ha, hj⟩ := hm.at i hi
    have key : ∀ j u, j < 5 → (mkCell (ms[i]'hi) av)[j]? = some u → w.cell? ⟨g, 0 + i * 5 + j, none⟩ = some u := by
      intro j u hj5 hu
      have h1 := hj j hj5
      rw [hu, ← ht, List.getElem?_take] at h1
      split at h1
      · rw [Array.getElem?_toList] at h1
        unfold World.cell?; rw [hg]
        simpa using h1
      · simp at h1
    exact ⟨key 0 _ (by omega) rfl, key 1 _ (by omega) rfl, key 2 _ (by omega) rfl, key 4 _ (by omega) rfl, av, key 3 _ (by omega) rfl, ha.read⟩

def awT : Bytes := [60, 97, 32, 98, 61, 34, 49, 34, 62, 120, 60, 33, 45, 45, 32, 121, 32, 45, 45, 62, 60, 99, 47, 62, 60, 47, 97, 62]
def awM : List PMark := [⟨1, 0, [97], [⟨[98], [49]⟩], []⟩, ⟨3, 9, [], [], [120]⟩, ⟨4, 20, [99], [], []⟩, ⟨2, 24, [97], [], []⟩]
theorem aw_marks : marks awT = .ok awM := by kernel_rfl

theorem aw_read {w : World} {v : Value} (h : MarksR w v awM) : ∃ g o c b o2 c2, v = .slice (some ⟨g, o, none⟩) 4 c ∧ 4 ≤ c ∧ w.cell? ⟨g, o + 3, none⟩ = some (.slice (some ⟨b, o2, none⟩) 1 c2) ∧ w.cell? ⟨b, o2 + 1, none⟩ = some (.string ⟨#[49]⟩) ∧
    w.cell? ⟨g, o + 5 + 4, none⟩ = some (.string ⟨#[120]⟩) ∧ w.cell? ⟨g, o + 10, none⟩ = some (.int .i64 4) ∧ w.cell? ⟨g, o + 10 + 1, none⟩ = some (.int .i64 20) := by
  rcases h with ⟨h0, _⟩ | ⟨g, o, c, hv, hcap, hat⟩
  · simp [awM] at h0
  · have e0 := hat 0 (by decide)
    have e1 := hat 1 (by decide)
    have e2 := hat 2 (by decide)
    obtain ⟨_, _, _, _, av, h3, ha⟩ := e0
    rcases ha with ⟨h0, _⟩ | ⟨b, o2, c2, hav, hac⟩
    · simp [awM] at h0
    · subst hav
      exact ⟨g, o, c, b, o2, c2, hv, hcap, h3, (hac 0 (by decide)).2, e1.2.2.2.1, e2.1, e2.2.1⟩

set_option maxRecDepth 1000000 in
set_option maxHeartbeats 4000000 in
theorem awm_c (w : World) (h : WOK w) : Calls Tryz.prog 30 #[] w fun e w' => e = .returned (.bool true) ∧ Below w.heap.size w w' := by
  have hc := marks_c w ⟨#[60, 97, 32, 98, 61, 34, 49, 34, 62, 120, 60, 33, 45, 45, 32, 121, 32, 45, 45, 62, 60, 99, 47, 62, 60, 47, 97, 62]⟩ (by decide) h
  rw [show (ByteArray.mk #[60, 97, 32, 98, 61, 34, 49, 34, 62, 120, 60, 33, 45, 45, 32, 121, 32, 45, 45, 62, 60, 99, 47, 62, 60, 47, 97, 62]).data.toList = awT from rfl, aw_marks] at hc
  have HC := Lib.hid hc; clear hc h
  go_enter Tryz.func30, Tryz.ntmps30
  go_wp2_with (first
    | (go_at_call 31; refine HC.out.mono ?_; rintro en w1 ⟨⟨out, xs, rfl, ho, hm⟩, b1⟩; obtain ⟨g, o, c, b, o2, c2, rfl, hcap, q1, q2, q3, q4, q5⟩ := aw_read (marks_read ho hm); clear ho hm))
  go_ret
  exact ⟨rfl, b1⟩
end Go.Proofs.YtcicibeggkmlcaaGreatDoor
