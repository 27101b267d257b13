/- The walk of the reference's Same, at marks that are the same but for their places. Conditions: the marks lie in memory. -/
import Derived.Test.YtcicibeggkmlcaaGreatDoorMkNJ2
namespace Go.Proofs.YtcicibeggkmlcaaGreatDoor
open Go.RowKit Go.Sof

theorem AttrsR.form {w : World} {v : Value} {al : List PAttr} (h : AttrsR w v al) : ∃ p c, v = .slice p al.length c ∧ ∀ (j : Nat) (hj : j < al.length), ∃ b o, p = some ⟨b, o, none⟩ ∧ w.cell? ⟨b, o + j * 2, none⟩ = some (.string ⟨(al[j]'hj).name.toArray⟩) ∧ w.cell? ⟨b, o + j * 2 + 1, none⟩ = some (.string ⟨(al[j]'hj).value.toArray⟩) := by
  rcases h with ⟨rfl, rfl⟩ | ⟨b, o, c, rfl, hc⟩
  · exact ⟨none, 0, rfl, fun j hj => absurd hj (by simp)⟩
  · exact ⟨_, c, rfl, fun j hj => ⟨b, o, rfl, hc j hj⟩⟩
theorem MarksR.form {w : World} {v : Value} {ms : List PMark} (h : MarksR w v ms) : ∃ p c, v = .slice p ms.length c ∧ ∀ (i : Nat) (hi : i < ms.length), ∃ g o, p = some ⟨g, o, none⟩ ∧ MarkAt w g (o + i * 5) (ms[i]'hi) := by
  rcases h with ⟨rfl, rfl⟩ | ⟨g, o, c, rfl, _, hc⟩
  · exact ⟨none, 0, rfl, fun j hj => absurd hj (by simp)⟩
  · exact ⟨_, c, rfl, fun i hi => ⟨g, o, rfl, hc i hi⟩⟩

set_option maxRecDepth 1000000 in
set_option maxHeartbeats 4000000 in
theorem same_m (w : World) (v1 v2 : Value) (ms1 ms2 : List PMark) (h1 : MarksR w v1 ms1) (h2 : MarksR w v2 ms2) (hst : ms1.map strip = ms2.map strip) (hb : ms1.length ≤ 1048576) (hal : ∀ m ∈ ms1, m.attrs.length ≤ 1048576) :
    Calls Tryz.prog 32 #[v1, v2] w fun en w' => en = .returned (.bool true) ∧ Below w.heap.size w w' := by
  obtain ⟨p1, c1, rfl, f1⟩ := h1.form
  obtain ⟨p2, c2, rfl, f2⟩ := h2.form
  clear h1 h2
  have hlen : ms2.length = ms1.length := by have := congrArg List.length hst; simpa using this.symm
  have hstr : ∀ i (hi : i < ms1.length) (hi2 : i < ms2.length), (ms2[i]'hi2).kind = (ms1[i]'hi).kind ∧ (ms2[i]'hi2).name = (ms1[i]'hi).name ∧ (ms2[i]'hi2).attrs = (ms1[i]'hi).attrs ∧ (ms2[i]'hi2).text = (ms1[i]'hi).text := by
    intro i hi hi2
    have : (ms1.map strip)[i]? = (ms2.map strip)[i]? := by rw [hst]
    rw [List.getElem?_map, List.getElem?_map, List.getElem?_eq_getElem hi, List.getElem?_eq_getElem hi2] at this
    simp only [Option.map_some, Option.some.injEq, strip, PMark.mk.injEq] at this
    exact ⟨this.1.symm, this.2.2.1.symm, this.2.2.2.1.symm, this.2.2.2.2.symm⟩
  obtain ⟨n, hn⟩ : ∃ n, n = ms1.length := ⟨_, rfl⟩
  rw [hlen, ← hn]
  rw [← hn] at hb
  have HF := Lib.hid (And.intro f1 (And.intro f2 (And.intro hstr (And.intro hn (And.intro hlen hal))))); clear f1 f2 hstr hn hlen hst hal
  go_enter Tryz.func32, Tryz.ntmps32
  go_wp2_with fail
  go_loopg [5, 6] n (fun g i j wr => Below w.heap.size w wr ∧ ∃ k : Nat, k ≤ n ∧ g = n - k ∧ i = .int .i64 k)
  case atStart => exact ⟨Below.refl _ _, 0, Nat.zero_le _, rfl, rfl⟩
  case round =>
    obtain ⟨hbw, k, hk, hg, rfl⟩ := hrel
    by_cases hlt : k < n
    · have hk1 : k < ms1.length := by rw [← HF.out.2.2.2.1]; exact hlt
      have hk2 : k < ms2.length := by rw [HF.out.2.2.2.2.1]; exact hk1
      obtain ⟨g1, o1, rfl, a0, a1, a2, a4, av1, a3, aa⟩ := HF.out.1 k hk1
      obtain ⟨g2, o2, rfl, d0, d1, d2, d4, av2, d3, da⟩ := HF.out.2.1 k hk2
      obtain ⟨q1, q2, q3, q4⟩ := HF.out.2.2.1 k hk1 hk2
      have hall := HF.out.2.2.2.2.2 _ (List.getElem_mem hk1)
      rw [q3] at da
      rw [q1] at d0
      rw [q2] at d2
      rw [q4] at d4
      obtain ⟨x1, y1, rfl, e1⟩ := aa.form
      obtain ⟨x2, y2, rfl, e2⟩ := da.form
      generalize (ms1[k]'hk1).attrs = al at *
      generalize (ms1[k]'hk1).kind = K at *
      generalize (ms1[k]'hk1).name = N at *
      generalize (ms1[k]'hk1).text = T at *
      obtain ⟨na, hna⟩ : ∃ na, na = al.length := ⟨_, rfl⟩
      rw [← hna] at a3 d3 hall
      have HE := Lib.hid (And.intro e1 (And.intro e2 hna)); clear e1 e2 hna aa da a1 d1
      have a0' := cell_keep hbw a0; have a2' := cell_keep hbw a2; have a3' := cell_keep hbw a3; have a4' := cell_keep hbw a4
      have d0' := cell_keep hbw d0; have d2' := cell_keep hbw d2; have d3' := cell_keep hbw d3; have d4' := cell_keep hbw d4
      have HB := Lib.hid (And.intro hbw hg); clear hbw hg
      have hkI : (k : Int) < (n : Int) := by omega
      go_wp2_with fail
      go_quiet (fail)
      go_wp2_with fail
      obtain ⟨wo, hwo⟩ : ∃ wo : World, wo = wr.drewN nq := ⟨_, rfl⟩
      rw [← hwo]
      have HO := Lib.hid (show Below w.heap.size w wo from by rw [hwo]; exact HB.out.1.trans ⟨rfl, rfl, rfl, Nat.le_refl _, fun _ _ => rfl⟩)
      clear hwo
      go_loopg [6] na (fun g j wi => Below w.heap.size w wi ∧ ∃ t : Nat, t ≤ na ∧ g = na - t ∧ j = .int .i64 t)
      case atStart => exact ⟨HO.out, 0, Nat.zero_le _, rfl, rfl⟩
      case round =>
        obtain ⟨hbi, t, ht, hgi, rfl⟩ := hrel
        have b3 := cell_keep hbi a3
        have b3' := cell_keep hbi d3
        by_cases hti : t < na
        · have hta : t < al.length := by rw [← HE.out.2.2]; exact hti
          obtain ⟨bb1, oo1, rfl, s1, s2⟩ := HE.out.1 t hta
          obtain ⟨bb2, oo2, rfl, s3, s4⟩ := HE.out.2.1 t hta
          have s1' := cell_keep hbi s1; have s2' := cell_keep hbi s2; have s3' := cell_keep hbi s3; have s4' := cell_keep hbi s4
          generalize (al[t]'hta).name = AN at *
          generalize (al[t]'hta).value = AV at *
          have htI : (t : Int) < (na : Int) := by omega
          have HI := Lib.hid (And.intro hbi hgi); clear hbi hgi
          go_wp2_with fail
          go_quiet (fail)
          go_wp2_with fail
          go_roundg (na - (t + 1))
          case measure => have := HI.out.2; omega
          case rel => exact ⟨HI.out.1.trans ⟨rfl, rfl, rfl, Nat.le_refl _, fun _ _ => rfl⟩, t + 1, by omega, rfl, by go_num⟩
        · have htI : ¬ ((t : Int) < (na : Int)) := by omega
          have htI2 : decide ((t : Int) < (na : Int)) = false := decide_eq_false htI
          have HI := Lib.hid hbi; clear hbi hgi
          go_wp2_with fail
          go_roundg (n - (k + 1))
          case measure => have := HB.out.2; omega
          case rel => exact ⟨HI.out, k + 1, by omega, rfl, by go_num⟩
    · have htI2 : decide ((k : Int) < (n : Int)) = false := decide_eq_false (by omega)
      have HB := Lib.hid hbw; clear hbw hg
      go_wp2_with fail
      go_ret
      exact ⟨rfl, HB.out⟩
end Go.Proofs.YtcicibeggkmlcaaGreatDoor
