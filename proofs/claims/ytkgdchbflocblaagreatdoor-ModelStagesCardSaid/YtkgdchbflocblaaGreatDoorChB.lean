/- The walk of chars.Bad. Conditions: the library's tables lie as they are laid. -/
import Derived.Test.YtkgdchbflocblaaGreatDoorChA
import Derived.Lib.OthersKept
import Derived.Lib.IndexBytes
import Derived.Deep.LoopGhost
namespace Go.Proofs.YtkgdchbflocblaaGreatDoor
open Go.RowKit Go.Sof

/-- what the walks ask of the world: utf8's two tables, and a number in bytealg.MaxLen. -/
def WOK (w : World) : Prop := Lib.Utf8Tabs 3 4 w ∧ (∃ m, w.cell? ⟨2, 0, none⟩ = some (.int .i64 m))

theorem WOK.below {w w' : World} (h : WOK w) (hb : Below w.heap.size w w') : WOK w' := by
  obtain ⟨⟨h1, h2⟩, ⟨m, h3⟩⟩ := h
  have key : ∀ (a : Addr) (v : Value), w.cell? a = some v → w'.cell? a = some v := fun a v ha => (hb.cell (p := a) (World.block_lt_of_cell? w a ha)).trans ha
  exact ⟨⟨fun c hc => key _ _ (h1 c hc), fun i hi => ⟨key _ _ (h2 i hi).1, key _ _ (h2 i hi).2⟩⟩, m, key _ _ h3⟩

theorem dec_at (u : ByteArray) (q : Nat) (_hq : q < u.size) : Utf8.decode u q = dec (u.data.toList.drop q) := by
  have hg : ∀ k, (u.get! (q + k)).toNat = byN (u.data.toList.drop q) k := by
    intro k
    unfold byN
    rw [List.getD_eq_getElem?_getD, List.getElem?_drop]
    rcases Nat.lt_or_ge (q + k) u.size with h | h
    · have e1 : u.get! (q + k) = u.data[q + k]'h := by simp [ByteArray.get!, getElem!_pos, h]
      rw [e1]
      have h' : q + k < u.data.toList.length := h
      rw [List.getElem?_eq_getElem h']; rfl
    · have e1 : u.get! (q + k) = 0 := by
        have : ¬ (q + k < u.data.size) := Nat.not_lt.2 h
        show u.data[q + k]! = 0
        rw [getElem!_neg u.data (q + k) this]; rfl
      rw [e1, List.getElem?_eq_none (by simpa using h)]; rfl
  rw [Lib.decode_at]
  unfold dec
  have h0 := hg 0
  rw [Nat.add_zero] at h0
  rw [h0, hg 1, hg 2, hg 3]
  congr 1
  rw [List.length_drop]; rfl

theorem decodeGo_cut (s : ByteArray) (p : Nat) (hp : p < s.size) : Lib.decodeGo (s.extract p s.size) = dec (s.data.toList.drop p) := by
  have hz : (s.extract p s.size).size ≠ 0 := by simp; omega
  unfold Lib.decodeGo
  rw [if_neg hz, dec_at _ 0 (by omega), List.drop_zero, Lib.extract_to_end]

theorem drop_ne {s : ByteArray} {p : Nat} (hp : p < s.size) : s.data.toList.drop p ≠ [] := by
  intro e
  have := congrArg List.length e
  have hl : s.data.toList.length = s.size := rfl
  rw [List.length_drop, hl, List.length_nil] at this; omega

/-- utf8.DecodeRuneInString of a text. -/
theorem decode_c (s : ByteArray) (w : World) (h : WOK w) : Calls Tryz.prog 136 #[.string s] w fun e w' => e = .returned (.tuple #[.int .i32 (Lib.decodeGo s).1, .int .i64 (Lib.decodeGo s).2]) ∧ Below w.heap.size w w' :=
  Tryz.utf8_DecodeRuneInString s w h.1

/-- what the loop of Bad has found: nothing before p. -/
def BadAt (l : Bytes) (p : Nat) : Prop := bad l = (bad (l.drop p)).map (· + p)
theorem BadAt.start (l : Bytes) : BadAt l 0 := by unfold BadAt; simp
theorem BadAt.next {l : Bytes} {p : Nat} (h : BadAt l p) (hp : l.drop p ≠ []) (hw : wid (l.drop p) ≠ 0) : BadAt l (p + wid (l.drop p)) := by
  unfold BadAt at h ⊢
  rw [h, bad_step _ hp, if_neg hw, List.drop_drop, Option.map_map]
  congr 1
  funext k; simp; omega
theorem BadAt.hit {l : Bytes} {p : Nat} (h : BadAt l p) (hp : l.drop p ≠ []) (hw : wid (l.drop p) = 0) : badI l = (p : Int) := by
  unfold BadAt at h
  unfold badI
  rw [h, bad_step _ hp, if_pos hw]; simp
theorem BadAt.stop {l : Bytes} {p : Nat} (h : BadAt l p) (hp : l.drop p = []) : badI l = -1 := by
  unfold BadAt at h
  unfold badI
  rw [h, hp]; rfl

theorem wid_cases {l : Bytes} : (wid l = 0 ∧ ((dec l).1 = 65533 ∧ (dec l).2 = 1)) ∨ (wid l = 0 ∧ (dec l).1 ≠ 65533 ∧ signB (dec l).1 = false) ∨
    (wid l = (dec l).2 ∧ wid l ≠ 0 ∧ (dec l).1 = 65533 ∧ (dec l).2 ≠ 1) ∨ (wid l = (dec l).2 ∧ wid l ≠ 0 ∧ (dec l).1 ≠ 65533 ∧ signB (dec l).1 = true) := by
  have hp := dec_pos l
  unfold wid
  by_cases h : (dec l).1 = 65533
  · by_cases h1 : (dec l).2 = 1
    · exact Or.inl ⟨by rw [if_pos (Or.inl ⟨h, h1⟩)], h, h1⟩
    · have hs : signB (dec l).1 = true := by rw [h]; decide
      rw [if_neg (by simp [h1, hs])]
      exact Or.inr (Or.inr (Or.inl ⟨rfl, by omega, h, h1⟩))
  · cases hs : signB (dec l).1 with
    | false => exact Or.inr (Or.inl ⟨by rw [if_pos (Or.inr rfl)], h, rfl⟩)
    | true =>
      rw [if_neg (by simp [h])]
      exact Or.inr (Or.inr (Or.inr ⟨rfl, by omega, h, rfl⟩))

set_option maxHeartbeats 1000000 in
theorem bad_c (s : ByteArray) (w : World) (h : WOK w) (_ : s.size ≤ 4611686018427387904) :
    Calls Tryz.prog 78 #[.string s] w fun e w' => e = .returned (.int .i64 (badI s.data.toList)) ∧ Below w.heap.size w w' := by
  obtain ⟨B, hB⟩ : ∃ B, B = badI s.data.toList := ⟨_, rfl⟩
  rw [← hB]
  have HB := Lib.hid hB; clear hB
  go_enter Tryz.func78, Tryz.ntmps78
  go_wp2
  go_loopg [] s.size (fun g wr => ∃ p : Nat, p ≤ s.size ∧ g = s.size - p ∧ wr.heap[w.heap.size]? = some (.stringIter s p) ∧ Below w.heap.size w wr ∧ BadAt s.data.toList p)
  case atStart => exact ⟨0, Nat.zero_le _, rfl, World.iter_heap w s 0, (Below.refl _ w).alloc (Nat.le_refl _) _, BadAt.start _⟩
  case round =>
    obtain ⟨p, hp, hg, hk, hb, hbad⟩ := hrel
    have HG := Lib.hid hg; clear hg
    by_cases hlt : p < s.size
    · have hne := drop_ne hlt
      have hdp := dec_pos (s.data.toList.drop p)
      have hdl := dec_le _ hne
      have hlen : (s.data.toList.drop p).length = s.size - p := by rw [List.length_drop]; rfl
      have hcase := wid_cases (l := s.data.toList.drop p)
      have hstep : wid (s.data.toList.drop p) ≠ 0 → BadAt s.data.toList (p + wid (s.data.toList.drop p)) := hbad.next hne
      have hhit : wid (s.data.toList.drop p) = 0 → badI s.data.toList = (p : Int) := hbad.hit hne
      have hn := fun ty => Lib.run_next_any_at (P := Tryz.prog) wr w.heap.size s p ty hk hlt
      have cD := fun W hW => decode_c (s.extract p s.size) W hW
      rw [decodeGo_cut s p hlt] at cD
      rw [dec_at s p hlt] at hn
      have hk1 := Lib.iterAt_heap wr w.heap.size s p (p + (dec (s.data.toList.drop p)).2) hk
      have hb1 := Lib.below_iterAt hb (Nat.le_refl _) s (p + (dec (s.data.toList.drop p)).2)
      have hz1 := Lib.iterAt_size wr w.heap.size s (p + (dec (s.data.toList.drop p)).2)
      have hzr : w.heap.size < wr.heap.size := (Array.getElem?_eq_some_iff.1 hk).1
      revert hcase hstep hhit hn cD hk1 hb1 hz1 hdp hdl
      generalize wid (s.data.toList.drop p) = v
      generalize dec (s.data.toList.drop p) = d
      generalize wr.iterAt w.heap.size s (p + d.2) = w1
      rw [hlen]
      obtain ⟨R, K⟩ := d
      dsimp only
      intro hdp hdl hcase hstep hhit hn cD hk1 hb1 hz1
      have cD1 := cD w1 (h.below hb1)
      have HH := Lib.hid (And.intro hstep (And.intro hhit (And.intro hk1 hb1)))
      clear cD hstep hhit hk1 hb1 hk hb hbad hlen hne
      rcases hcase with ⟨hv, rfl, rfl⟩ | ⟨hv, hr, hsg⟩ | ⟨hv, hv0, rfl, hk1⟩ | ⟨hv, hv0, hr, hsg⟩
      · have HV := Lib.hid hv; clear hv
        go_wp2_with (first | (go_at_call 136; refine cD1.mono ?_; rintro e w2 ⟨rfl, hb2⟩) | (go_at_call 139; refine (sign_c _ _).mono ?_; rintro e w' ⟨rfl, rfl⟩))
        go_ret
        exact ⟨ret_int (by rw [HB.out, HH.out.2.1 HV.out]), HH.out.2.2.2.trans (hb2.mono (by omega))⟩
      · have HV := Lib.hid hv; clear hv
        have hrb : ((R : Int) == 65533) = false := beq_eq_false_iff_ne.2 (by omega)
        clear hr
        go_wp2_with (first | (go_at_call 136; refine cD1.mono ?_; rintro e w2 ⟨rfl, hb2⟩) | (go_at_call 139; refine (sign_c _ _).mono ?_; rintro e w' ⟨rfl, rfl⟩))
        go_ret
        exact ⟨ret_int (by rw [HB.out, HH.out.2.1 HV.out]), HH.out.2.2.2.trans (hb2.mono (by omega))⟩
      · have HV := Lib.hid (And.intro hv hv0); clear hv hv0
        have hkb : ((K : Int) == 1) = false := beq_eq_false_iff_ne.2 (by omega)
        have hsg : signB 65533 = true := by decide
        clear hk1
        go_wp2_with (first | (go_at_call 136; refine cD1.mono ?_; rintro e w2 ⟨rfl, hb2⟩) | (go_at_call 139; refine (sign_c _ _).mono ?_; rintro e w' ⟨rfl, rfl⟩))
        go_roundg (s.size - (p + K))
        case measure => have := HG.out; omega
        case rel => exact ⟨p + K, by omega, rfl, (hb2.block _ (by omega)).trans HH.out.2.2.1, HH.out.2.2.2.trans (hb2.mono (by omega)), HV.out.1 ▸ HH.out.1 HV.out.2⟩
      · have HV := Lib.hid (And.intro hv hv0); clear hv hv0
        have hrb : ((R : Int) == 65533) = false := beq_eq_false_iff_ne.2 (by omega)
        clear hr
        go_wp2_with (first | (go_at_call 136; refine cD1.mono ?_; rintro e w2 ⟨rfl, hb2⟩) | (go_at_call 139; refine (sign_c _ _).mono ?_; rintro e w' ⟨rfl, rfl⟩))
        go_roundg (s.size - (p + K))
        case measure => have := HG.out; omega
        case rel => exact ⟨p + K, by omega, rfl, (hb2.block _ (by omega)).trans HH.out.2.2.1, HH.out.2.2.2.trans (hb2.mono (by omega)), HV.out.1 ▸ HH.out.1 HV.out.2⟩
    · have hn := fun ty => Lib.run_next_end_at (P := Tryz.prog) wr w.heap.size s p ty hk hlt
      have hst : badI s.data.toList = -1 := hbad.stop (List.drop_eq_nil_of_le (by show s.size ≤ p; omega))
      rw [hst] at HB
      clear hk hbad hst
      go_wp2
      go_ret
      exact ⟨ret_int HB.out.symm, hb⟩
end Go.Proofs.YtkgdchbflocblaaGreatDoor
