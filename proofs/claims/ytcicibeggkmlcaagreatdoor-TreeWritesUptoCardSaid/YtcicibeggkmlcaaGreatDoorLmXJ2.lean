/- The walk of the reference's Same, at marks that are the same but for their places, however they lie. Conditions: the marks lie in memory. Marks whose attributes lie in an older world; a row of them. Conditions: none. -/
import Derived.Test.YtcicibeggkmlcaaGreatDoorMkNJ2
import Derived.Test.YtcicibeggkmlcaaGreatDoorTxAJ6
namespace Go.Proofs.YtcicibeggkmlcaaGreatDoor
open Go.RowKit Go.Sof

def AttrsF (w : World) (p : Option Addr) (al : List PAttr) : Prop :=
  ∀ (j : Nat) (hj : j < al.length), ∃ b o, p = some ⟨b, o, none⟩ ∧ w.cell? ⟨b, o + j * 2, none⟩ = some (.string ⟨(al[j]'hj).name.toArray⟩) ∧ w.cell? ⟨b, o + j * 2 + 1, none⟩ = some (.string ⟨(al[j]'hj).value.toArray⟩)
def MarkF (w : World) (g o : Nat) (m : PMark) : Prop :=
  w.cell? ⟨g, o, none⟩ = some (.int .i64 m.kind) ∧ w.cell? ⟨g, o + 1, none⟩ = some (.int .i64 m.pos) ∧ w.cell? ⟨g, o + 2, none⟩ = some (.string ⟨m.name.toArray⟩) ∧ w.cell? ⟨g, o + 4, none⟩ = some (.string ⟨m.text.toArray⟩) ∧
    ∃ pa ca, w.cell? ⟨g, o + 3, none⟩ = some (.slice pa m.attrs.length ca) ∧ AttrsF w pa m.attrs
/-- marks, to be read: of their slices' capacities nothing is known. -/
def MarksF (w : World) (p : Option Addr) (ms : List PMark) : Prop := ∀ (i : Nat) (hi : i < ms.length), ∃ g o, p = some ⟨g, o, none⟩ ∧ MarkF w g (o + i * 5) (ms[i]'hi)
theorem AttrsR.flat {w : World} {v : Value} {al : List PAttr} (h : AttrsR w v al) : ∃ p c, v = .slice p al.length c ∧ AttrsF w p al := by
  rcases h with ⟨rfl, rfl⟩ | ⟨b, o, c, rfl, hc⟩
  · exact ⟨none, 0, rfl, fun j hj => absurd hj (by simp)⟩
  · exact ⟨_, c, rfl, fun j hj => ⟨b, o, rfl, hc j hj⟩⟩
theorem MarkAt.flat {w : World} {g o : Nat} {m : PMark} (h : MarkAt w g o m) : MarkF w g o m := by
  obtain ⟨h0, h1, h2, h4, av, h3, ha⟩ := h
  obtain ⟨p, c, rfl, hf⟩ := ha.flat
  exact ⟨h0, h1, h2, h4, p, c, h3, hf⟩
theorem MarksR.flat {w : World} {v : Value} {ms : List PMark} (h : MarksR w v ms) : ∃ p c, v = .slice p ms.length c ∧ MarksF w p ms := by
  rcases h with ⟨rfl, rfl⟩ | ⟨g, o, c, rfl, _, hc⟩
  · exact ⟨none, 0, rfl, fun j hj => absurd hj (by simp)⟩
  · exact ⟨_, c, rfl, fun i hi => ⟨g, o, rfl, (hc i hi).flat⟩⟩
theorem MarksC.flat {w : World} {p : Option Addr} {ms : List PMark} (h : MarksC w p ms) : MarksF w p ms := fun i hi => by
  obtain ⟨g, o, e, h0, h1, h2, h4, pa, ca, h3, _, hf⟩ := h i hi
  exact ⟨g, o, e, h0, h1, h2, h4, pa, ca, h3, hf⟩

set_option maxRecDepth 1000000 in
set_option maxHeartbeats 4000000 in
theorem same_f (w : World) (p1 p2 : Option Addr) (c1 c2 : Nat) (ms1 ms2 : List PMark) (f1 : MarksF w p1 ms1) (f2 : MarksF w p2 ms2) (hst : ms1.map strip = ms2.map strip) (hb : ms1.length ≤ 1048576) (hal : ∀ m ∈ ms1, m.attrs.length ≤ 2097152) :
    Calls Tryz.prog 32 #[.slice p1 ms1.length c1, .slice p2 ms2.length c2] w fun en w' => en = .returned (.bool true) ∧ Below w.heap.size w w' := by
  have hlen : ms2.length = ms1.length := by have := congrArg List.length hst; simpa using this.symm
  have hstr : ∀ i (hi : i < ms1.length) (hi2 : i < ms2.length), (ms2[i]'hi2).kind = (ms1[i]'hi).kind ∧ (ms2[i]'hi2).name = (ms1[i]'hi).name ∧ (ms2[i]'hi2).attrs = (ms1[i]'hi).attrs ∧ (ms2[i]'hi2).text = (ms1[i]'hi).text := by
    intro i hi hi2
    have : (ms1.map strip)[i]? = (ms2.map strip)[i]? := by rw [hst]
    rw [List.getElem?_map, List.getElem?_map, List.getElem?_eq_getElem hi, List.getElem?_eq_getElem hi2] at this
    simp only [Option.map_some, Option.some.injEq, strip, PMark.mk.injEq] at this
    exact ⟨this.1.symm, this.2.2.1.symm, this.2.2.2.1.symm, this.2.2.2.2.symm⟩
  obtain ⟨n, hn⟩ : ∃ n, n = ms1.length := ⟨_, rfl⟩
  rw [hlen, ← hn]
  rw [← hn] at hb
  have HF := Lib.hid (And.intro f1 (And.intro f2 (And.intro hstr (And.intro hn (And.intro hlen hal))))); clear f1 f2 hstr hn hlen hst hal
  go_enter Tryz.func32, Tryz.ntmps32
  go_wp2_with fail
  go_loopg [5, 6] n (fun g i j wr => Below w.heap.size w wr ∧ ∃ k : Nat, k ≤ n ∧ g = n - k ∧ i = .int .i64 k)
  case atStart => exact ⟨Below.refl _ _, 0, Nat.zero_le _, rfl, rfl⟩
  case round =>
    obtain ⟨hbw, k, hk, hg, rfl⟩ := hrel
    by_cases hlt : k < n
    · have hk1 : k < ms1.length := by rw [← HF.out.2.2.2.1]; exact hlt
      have hk2 : k < ms2.length := by rw [HF.out.2.2.2.2.1]; exact hk1
      obtain ⟨g1, o1, rfl, a0, a1, a2, a4, aa⟩ := HF.out.1 k hk1
      obtain ⟨g2, o2, rfl, d0, d1, d2, d4, da⟩ := HF.out.2.1 k hk2
      obtain ⟨q1, q2, q3, q4⟩ := HF.out.2.2.1 k hk1 hk2
      have hall := HF.out.2.2.2.2.2 _ (List.getElem_mem hk1)
      rw [q3] at da
      rw [q1] at d0
      rw [q2] at d2
      rw [q4] at d4
      obtain ⟨x1, y1, a3, e1⟩ := aa
      obtain ⟨x2, y2, d3, e2⟩ := da
      generalize (ms1[k]'hk1).attrs = al at *
      generalize (ms1[k]'hk1).kind = K at *
      generalize (ms1[k]'hk1).name = N at *
      generalize (ms1[k]'hk1).text = T at *
      obtain ⟨na, hna⟩ : ∃ na, na = al.length := ⟨_, rfl⟩
      rw [← hna] at a3 d3 hall
      have HE := Lib.hid (And.intro e1 (And.intro e2 hna)); clear e1 e2 hna a1 d1
      have a0' := cell_keep hbw a0; have a2' := cell_keep hbw a2; have a3' := cell_keep hbw a3; have a4' := cell_keep hbw a4
      have d0' := cell_keep hbw d0; have d2' := cell_keep hbw d2; have d3' := cell_keep hbw d3; have d4' := cell_keep hbw d4
      have HB := Lib.hid (And.intro hbw hg); clear hbw hg
      have hkI : (k : Int) < (n : Int) := by omega
      go_wp2_with fail
      go_quiet (fail)
      go_wp2_with fail
      obtain ⟨wo, hwo⟩ : ∃ wo : World, wo = wr.drewN nq := ⟨_, rfl⟩
      rw [← hwo]
      have HO := Lib.hid (show Below w.heap.size w wo from by rw [hwo]; exact HB.out.1.trans ⟨rfl, rfl, rfl, Nat.le_refl _, fun _ _ => rfl⟩)
      clear hwo
      go_loopg [6] na (fun g j wi => Below w.heap.size w wi ∧ ∃ t : Nat, t ≤ na ∧ g = na - t ∧ j = .int .i64 t)
      case atStart => exact ⟨HO.out, 0, Nat.zero_le _, rfl, rfl⟩
      case round =>
        obtain ⟨hbi, t, ht, hgi, rfl⟩ := hrel
        have b3 := cell_keep hbi a3
        have b3' := cell_keep hbi d3
        by_cases hti : t < na
        · have hta : t < al.length := by rw [← HE.out.2.2]; exact hti
          obtain ⟨bb1, oo1, rfl, s1, s2⟩ := HE.out.1 t hta
          obtain ⟨bb2, oo2, rfl, s3, s4⟩ := HE.out.2.1 t hta
          have s1' := cell_keep hbi s1; have s2' := cell_keep hbi s2; have s3' := cell_keep hbi s3; have s4' := cell_keep hbi s4
          generalize (al[t]'hta).name = AN at *
          generalize (al[t]'hta).value = AV at *
          have htI : (t : Int) < (na : Int) := by omega
          have HI := Lib.hid (And.intro hbi hgi); clear hbi hgi
          go_wp2_with fail
          go_quiet (fail)
          go_wp2_with fail
          go_roundg (na - (t + 1))
          case measure => have := HI.out.2; omega
          case rel => exact ⟨HI.out.1.trans ⟨rfl, rfl, rfl, Nat.le_refl _, fun _ _ => rfl⟩, t + 1, by omega, rfl, by go_num⟩
        · have htI : ¬ ((t : Int) < (na : Int)) := by omega
          have htI2 : decide ((t : Int) < (na : Int)) = false := decide_eq_false htI
          have HI := Lib.hid hbi; clear hbi hgi
          go_wp2_with fail
          go_roundg (n - (k + 1))
          case measure => have := HB.out.2; omega
          case rel => exact ⟨HI.out, k + 1, by omega, rfl, by go_num⟩
    · have htI2 : decide ((k : Int) < (n : Int)) = false := decide_eq_false (by omega)
      have HB := Lib.hid hbw; clear hbw hg
      go_wp2_with fail
      go_ret
      exact ⟨rfl, HB.out⟩
end Go.Proofs.YtcicibeggkmlcaaGreatDoor

namespace Go.Proofs.YtcicibeggkmlcaaGreatDoor
open Go.RowKit Go.Sof

def AttrsC (w : World) (av : Value) (al : List PAttr) : Prop := ∃ pa ca, av = .slice pa al.length ca ∧ al.length ≤ ca ∧ AttrsF w pa al
/-- the cells of marks whose attributes lie in another's memory. -/
def MarksX (w : World) : List PMark → List Value → Prop
  | [], xs => xs = []
  | m :: r, xs => ∃ av ys, xs = mkCell m av ++ ys ∧ AttrsC w av m.attrs ∧ MarksX w r ys
theorem MarksX.snoc {w : World} : ∀ {ms : List PMark} {xs : List Value} {m : PMark} {av : Value}, MarksX w ms xs → AttrsC w av m.attrs → MarksX w (ms ++ [m]) (xs ++ mkCell m av)
  | [], xs, m, av, h, ha => by have h' : xs = [] := h; subst h'; exact ⟨av, [], by simp, ha, rfl⟩
  | m0 :: r, xs, m, av, h, ha => by
    obtain ⟨av0, ys, rfl, h2, h3⟩ := h
    exact ⟨av0, ys ++ mkCell m av, by simp, h2, h3.snoc ha⟩
theorem MarksX.at {w : World} : ∀ {ms : List PMark} {xs : List Value}, MarksX w ms xs → ∀ (i : Nat) (hi : i < ms.length), ∃ av, AttrsC w av (ms[i]'hi).attrs ∧ ∀ j, j < 5 → xs[i * 5 + j]? = (mkCell (ms[i]'hi) av)[j]?
  | [], _, _, i, hi => by simp at hi
  | m :: r, xs, h, 0, _ => by
    obtain ⟨av, ys, rfl, ha, _⟩ := h
    refine ⟨av, ha, fun j hj => ?_⟩
    rw [Nat.zero_mul, Nat.zero_add, List.getElem?_append_left (by simp [mkCell]; omega)]; rfl
  | m :: r, xs, h, i + 1, hi => by
    obtain ⟨av, ys, rfl, _, h3⟩ := h
    obtain ⟨av', ha, hj⟩ := MarksX.at h3 i (by simpa using hi)
    refine ⟨av', ha, fun j hj' => ?_⟩
    rw [List.getElem?_append_right (by simp [mkCell]; omega), show (i + 1) * 5 + j - (mkCell m av).length = i * 5 + j from by simp [mkCell]; omega]
    exact hj j hj'
theorem AttrsF.below {w w' : World} {p : Option Addr} {al : List PAttr} (h : AttrsF w p al) (hb : Below w.heap.size w w') : AttrsF w' p al := fun j hj => by
  obtain ⟨b, o, e, c0, c1⟩ := h j hj
  exact ⟨b, o, e, cell_keep hb c0, cell_keep hb c1⟩
/-- an own row of such marks, to be read. -/
theorem marksX_form {w : World} {B e n : Nat} {v : Value} {xs : List Value} (h : w.ownsRow B e 5 v n xs) : ∃ p c, v = .slice p n c ∧ n ≤ c := by
  rcases h.2 with ⟨hv, h0⟩ | ⟨g, cap, cur, hv, _, hg, hcap, _, _, ht⟩
  · subst h0; exact ⟨none, 0, hv, Nat.le_refl _⟩
  · exact ⟨_, cap, hv, hcap⟩
theorem marksX_read {w w0 : World} {B : Nat} {p : Option Addr} {c : Nat} {ms : List PMark} {xs : List Value} (hb : Below w0.heap.size w0 w) (h : w.ownsRow B 41 5 (.slice p ms.length c) ms.length xs) (hm : MarksX w0 ms xs) : MarksC w p ms := by
  rcases h.2 with ⟨hv, h0⟩ | ⟨g, cap, cur, hv, _, hg, hcap, _, _, ht⟩
  · intro i hi; omega
  · simp only [Value.slice.injEq] at hv
    obtain ⟨rfl, -, rfl⟩ := hv
    intro i hi
    obtain ⟨av, ⟨pa, ca, rfl, hca, hf⟩, hj⟩ := hm.at i hi
    have key : ∀ j u, j < 5 → (mkCell (ms[i]'hi) (.slice pa (ms[i]'hi).attrs.length ca))[j]? = some u → w.cell? ⟨g, 0 + i * 5 + j, none⟩ = some u := by
      intro j u hj5 hu
      have h1 := hj j hj5
      rw [hu, ← ht, List.getElem?_take] at h1
      split at h1
      · rw [Array.getElem?_toList] at h1
        unfold World.cell?; rw [hg]
        simpa using h1
      · simp at h1
    exact ⟨g, 0, rfl, key 0 _ (by omega) rfl, key 1 _ (by omega) rfl, key 2 _ (by omega) rfl, key 4 _ (by omega) rfl, pa, ca, key 3 _ (by omega) rfl, hca, hf.below hb⟩
end Go.Proofs.YtcicibeggkmlcaaGreatDoor
