/- Marks in memory, to be read; the walk of the laws' awake. Conditions: the tables lie as they are laid. -/
import Derived.Test.YtcicibeggkmlcaaGreatDoorMkN
namespace Go.Proofs.YtcicibeggkmlcaaGreatDoor
open Go.RowKit Go.Sof

def AttrsR (w : World) (v : Value) (al : List PAttr) : Prop :=
  (al = [] ∧ v = .slice none 0 0) ∨
  ∃ b o c, v = .slice (some ⟨b, o, none⟩) al.length c ∧ ∀ (j : Nat) (hj : j < al.length), w.cell? ⟨b, o + j * 2, none⟩ = some (.string ⟨(al[j]'hj).name.toArray⟩) ∧ w.cell? ⟨b, o + j * 2 + 1, none⟩ = some (.string ⟨(al[j]'hj).value.toArray⟩)
def MarkAt (w : World) (g o : Nat) (m : PMark) : Prop :=
  w.cell? ⟨g, o, none⟩ = some (.int .i64 m.kind) ∧ w.cell? ⟨g, o + 1, none⟩ = some (.int .i64 m.pos) ∧ w.cell? ⟨g, o + 2, none⟩ = some (.string ⟨m.name.toArray⟩) ∧ w.cell? ⟨g, o + 4, none⟩ = some (.string ⟨m.text.toArray⟩) ∧
    ∃ av, w.cell? ⟨g, o + 3, none⟩ = some av ∧ AttrsR w av m.attrs
def MarksR (w : World) (v : Value) (ms : List PMark) : Prop :=
  (ms = [] ∧ v = .slice none 0 0) ∨
  ∃ g o c, v = .slice (some ⟨g, o, none⟩) ms.length c ∧ ms.length ≤ c ∧ ∀ (i : Nat) (hi : i < ms.length), MarkAt w g (o + i * 5) (ms[i]'hi)

theorem cell_keep {w w' : World} (hb : Below w.heap.size w w') {a : Addr} {v : Value} (h : w.cell? a = some v) : w'.cell? a = some v := (hb.cell (p := a) (World.block_lt_of_cell? w a h)).trans h
theorem AttrsR.below {w w' : World} {v : Value} {al : List PAttr} (h : AttrsR w v al) (hb : Below w.heap.size w w') : AttrsR w' v al := by
  rcases h with h | ⟨b, o, c, hv, hc⟩
  · exact .inl h
  · exact .inr ⟨b, o, c, hv, fun j hj => ⟨cell_keep hb (hc j hj).1, cell_keep hb (hc j hj).2⟩⟩
theorem MarkAt.below {w w' : World} {g o : Nat} {m : PMark} (h : MarkAt w g o m) (hb : Below w.heap.size w w') : MarkAt w' g o m := by
  obtain ⟨h0, h1, h2, h4, av, h3, ha⟩ := h
  exact ⟨cell_keep hb h0, cell_keep hb h1, cell_keep hb h2, cell_keep hb h4, av, cell_keep hb h3, ha.below hb⟩
theorem MarksR.below {w w' : World} {v : Value} {ms : List PMark} (h : MarksR w v ms) (hb : Below w.heap.size w w') : MarksR w' v ms := by
  rcases h with h | ⟨g, o, c, hv, hl, hc⟩
  · exact .inl h
  · exact .inr ⟨g, o, c, hv, hl, fun i hi => (hc i hi).below hb⟩
theorem AttrsO.read {w : World} {v : Value} {al : List PAttr} (h : AttrsO w v al) : AttrsR w v al := by
  rcases h with h | ⟨b, o, c, cur, fz, hv, hb, hc⟩
  · exact .inl h
  · refine .inr ⟨b, o, c, hv, fun j hj => ?_⟩
    have h2 := attrCells_at al j hj
    have e0 := hc _ _ h2.1
    have e1 := hc _ _ h2.2
    unfold World.cell?; rw [hb]
    exact ⟨by simpa using e0, by simpa [Nat.add_assoc] using e1⟩
theorem MarksO.at {w : World} : ∀ {ms : List PMark} {xs : List Value}, MarksO w ms xs → ∀ (i : Nat) (hi : i < ms.length), ∃ av, AttrsO w av (ms[i]'hi).attrs ∧ ∀ j, j < 5 → xs[i * 5 + j]? = (mkCell (ms[i]'hi) av)[j]?
  | [], _, _, i, hi => by simp at hi
  | m :: r, xs, h, 0, _ => by
    obtain ⟨av, ys, rfl, ha, _⟩ := h
    refine ⟨av, ha, fun j hj => ?_⟩
    rw [Nat.zero_mul, Nat.zero_add, List.getElem?_append_left (by simp [mkCell]; omega)]; rfl
  | m :: r, xs, h, i + 1, hi => by
    obtain ⟨av, ys, rfl, _, h3⟩ := h
    obtain ⟨av', ha, hj⟩ := MarksO.at h3 i (by simpa using hi)
    refine ⟨av', ha, fun j hj' => ?_⟩
    rw [List.getElem?_append_right (by simp [mkCell]; omega), show (i + 1) * 5 + j - (mkCell m av).length = i * 5 + j from by simp [mkCell]; omega]
    exact hj j hj'
theorem marks_read {w : World} {B : Nat} {v : Value} {ms : List PMark} {xs : List Value} (h : w.ownsRow B 41 5 v ms.length xs) (hm : MarksO w ms xs) : MarksR w v ms := by
  rcases h.2 with ⟨hv, h0⟩ | ⟨g, cap, cur, hv, _, hg, hcap, _, _, ht⟩
  · exact .inl ⟨List.eq_nil_of_length_eq_zero h0, hv⟩
  · refine .inr ⟨g, 0, cap, hv, hcap, fun i hi => ?_⟩
    obtain ⟨av, ha, hj⟩ := hm.at i hi
    have key : ∀ j u, j < 5 → (mkCell (ms[i]'hi) av)[j]? = some u → w.cell? ⟨g, 0 + i * 5 + j, none⟩ = some u := by
      intro j u hj5 hu
      have h1 := hj j hj5
      rw [hu, ← ht, List.getElem?_take] at h1
      split at h1
      · rw [Array.getElem?_toList] at h1
        unfold World.cell?; rw [hg]
        simpa using h1
      · simp at h1
    exact ⟨key 0 _ (by omega) rfl, key 1 _ (by omega) rfl, key 2 _ (by omega) rfl, key 4 _ (by omega) rfl, av, key 3 _ (by omega) rfl, ha.read⟩

def awT : Bytes := [60, 97, 32, 98, 61, 34, 49, 34, 62, 120, 60, 33, 45, 45, 32, 121, 32, 45, 45, 62, 60, 99, 47, 62, 60, 47, 97, 62]
def awM : List PMark := [⟨1, 0, [97], [⟨[98], [49]⟩], []⟩, ⟨3, 9, [], [], [120]⟩, ⟨4, 20, [99], [], []⟩, ⟨2, 24, [97], [], []⟩]
theorem aw_marks : marks awT = .ok awM := by kernel_rfl

theorem aw_read {w : World} {v : Value} (h : MarksR w v awM) : ∃ g o c b o2 c2, v = .slice (some ⟨g, o, none⟩) 4 c ∧ 4 ≤ c ∧ w.cell? ⟨g, o + 3, none⟩ = some (.slice (some ⟨b, o2, none⟩) 1 c2) ∧ w.cell? ⟨b, o2 + 1, none⟩ = some (.string ⟨#[49]⟩) ∧
    w.cell? ⟨g, o + 5 + 4, none⟩ = some (.string ⟨#[120]⟩) ∧ w.cell? ⟨g, o + 10, none⟩ = some (.int .i64 4) ∧ w.cell? ⟨g, o + 10 + 1, none⟩ = some (.int .i64 20) := by
  rcases h with ⟨h0, _⟩ | ⟨g, o, c, hv, hcap, hat⟩
  · simp [awM] at h0
  · have e0 := hat 0 (by decide)
    have e1 := hat 1 (by decide)
    have e2 := hat 2 (by decide)
    obtain ⟨_, _, _, _, av, h3, ha⟩ := e0
    rcases ha with ⟨h0, _⟩ | ⟨b, o2, c2, hav, hac⟩
    · simp [awM] at h0
    · subst hav
      exact ⟨g, o, c, b, o2, c2, hv, hcap, h3, (hac 0 (by decide)).2, e1.2.2.2.1, e2.1, e2.2.1⟩

set_option maxRecDepth 1000000 in
set_option maxHeartbeats 4000000 in
theorem awm_c (w : World) (h : WOK w) : Calls Tryz.prog 30 #[] w fun e w' => e = .returned (.bool true) ∧ Below w.heap.size w w' := by
  have hc := marks_c w ⟨#[60, 97, 32, 98, 61, 34, 49, 34, 62, 120, 60, 33, 45, 45, 32, 121, 32, 45, 45, 62, 60, 99, 47, 62, 60, 47, 97, 62]⟩ (by decide) h
  rw [show (ByteArray.mk #[60, 97, 32, 98, 61, 34, 49, 34, 62, 120, 60, 33, 45, 45, 32, 121, 32, 45, 45, 62, 60, 99, 47, 62, 60, 47, 97, 62]).data.toList = awT from rfl, aw_marks] at hc
  have HC := Lib.hid hc; clear hc h
  go_enter Tryz.func30, Tryz.ntmps30
  go_wp2_with (first
    | (go_at_call 31; refine HC.out.mono ?_; rintro en w1 ⟨⟨out, xs, rfl, ho, hm⟩, b1⟩; obtain ⟨g, o, c, b, o2, c2, rfl, hcap, q1, q2, q3, q4, q5⟩ := aw_read (marks_read ho hm); clear ho hm))
  go_ret
  exact ⟨rfl, b1⟩
end Go.Proofs.YtcicibeggkmlcaaGreatDoor
