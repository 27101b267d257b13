/- The walk of mark.Text. Conditions: the tables lie as they are laid; the marks lie in memory and are no greater than a bulk. -/
import Derived.Test.YtcicibeggkmlcaaGreatDoorTxE
namespace Go.Proofs.YtcicibeggkmlcaaGreatDoor
open Go.RowKit Go.Sof

/-- a mark, to be read whole: its attributes' slice has its capacity. -/
def MarkC (w : World) (g o : Nat) (m : PMark) : Prop :=
  w.cell? ⟨g, o, none⟩ = some (.int .i64 m.kind) ∧ w.cell? ⟨g, o + 1, none⟩ = some (.int .i64 m.pos) ∧ w.cell? ⟨g, o + 2, none⟩ = some (.string ⟨m.name.toArray⟩) ∧ w.cell? ⟨g, o + 4, none⟩ = some (.string ⟨m.text.toArray⟩) ∧
    ∃ pa ca, w.cell? ⟨g, o + 3, none⟩ = some (.slice pa m.attrs.length ca) ∧ m.attrs.length ≤ ca ∧
      ∀ (j : Nat) (hj : j < m.attrs.length), ∃ b q, pa = some ⟨b, q, none⟩ ∧ w.cell? ⟨b, q + j * 2, none⟩ = some (.string ⟨(m.attrs[j]'hj).name.toArray⟩) ∧ w.cell? ⟨b, q + j * 2 + 1, none⟩ = some (.string ⟨(m.attrs[j]'hj).value.toArray⟩)
def MarksC (w : World) (p : Option Addr) (ms : List PMark) : Prop := ∀ (i : Nat) (hi : i < ms.length), ∃ g o, p = some ⟨g, o, none⟩ ∧ MarkC w g (o + i * 5) (ms[i]'hi)
theorem MarkC.below {w w' : World} {g o : Nat} {m : PMark} (h : MarkC w g o m) (hb : Below w.heap.size w w') : MarkC w' g o m := by
  obtain ⟨h0, h1, h2, h4, pa, ca, h3, hc, hf⟩ := h
  refine ⟨cell_keep hb h0, cell_keep hb h1, cell_keep hb h2, cell_keep hb h4, pa, ca, cell_keep hb h3, hc, fun j hj => ?_⟩
  obtain ⟨b, q, e, e1, e2⟩ := hf j hj
  exact ⟨b, q, e, cell_keep hb e1, cell_keep hb e2⟩
theorem MarksC.below {w w' : World} {p : Option Addr} {ms : List PMark} (h : MarksC w p ms) (hb : Below w.heap.size w w') : MarksC w' p ms := fun i hi => by
  obtain ⟨g, o, e, hm⟩ := h i hi
  exact ⟨g, o, e, hm.below hb⟩

theorem oneA_eq : ∀ (al seen : List PAttr) (out o : Bytes), oneA seen al out = some o → o = out ++ attrsT al
  | [], _, out, o, h => by simp only [oneA, Option.some.injEq] at h; simp [attrsT, h]
  | a :: r, seen, out, o, h => by
    unfold oneA at h
    split at h
    · simp at h
    · rw [oneA_eq r _ _ _ h]; simp [attrsT]
theorem oneP_len {m : PMark} {s : Bytes} (hz : MkSz m) (h : oneP m = some s) : s.length ≤ 20971520 := by
  unfold oneP at h
  split at h
  · split at h
    · simp only [Option.some.injEq] at h
      have := escL_le m.text
      have := hz.text
      rw [← h]; omega
    · simp at h
  split at h
  · simp at h
  split at h
  · simp only [Option.some.injEq] at h
    have := hz.name
    rw [← h]; simp; omega
  · cases ho : oneA [] m.attrs (60 :: m.name) with
    | none => rw [ho] at h; simp at h
    | some o =>
      rw [ho] at h
      simp only [Option.some.injEq] at h
      have e := oneA_eq _ _ _ _ ho
      have h1 := hz.name
      have h2 := hz.all
      have h3 : (endT m.kind).length ≤ 2 := by unfold endT; split <;> simp
      rw [← h, e]
      simp only [List.length_append, List.length_cons]
      omega

def TextPost (x : Except Int Bytes) (en : Ending) : Prop :=
  match x with
  | .ok t => en = .returned (.tuple #[.string ⟨t.toArray⟩, .int .i64 0])
  | .error e => en = .returned (.tuple #[.string ⟨#[]⟩, .int .i64 e])

set_option maxRecDepth 1000000 in
set_option maxHeartbeats 4000000 in
theorem text_c (w : World) (p : Option Addr) (c : Nat) (ms : List PMark) (hw : WOK w) (hl : ms.length ≤ 2097152) (hz : ∀ m ∈ ms, MkSz m) (hm : MarksC w p ms) (X : Except Int Bytes) (hX : textP ms = X) :
    Calls Tryz.prog 28 #[.slice p ms.length c] w fun en w' => TextPost X en ∧ Below w.heap.size w w' := by
  obtain ⟨n, hn⟩ : ∃ n, n = ms.length := ⟨_, rfl⟩
  rw [← hn] at hl ⊢
  have HF := Lib.hid (And.intro hm (And.intro hz (And.intro hX hn))); clear hm hz hX hn
  have HW := Lib.hid hw; clear hw
  go_enter Tryz.func28, Tryz.ntmps28
  go_wp2_with fail
  go_loopg [5, 12] n (fun g f i wr => Below w.heap.size w wr ∧ w.heap.size < wr.heap.size ∧ ∃ (k : Nat) (O : Bytes) (fb : Bool), k ≤ n ∧ g = n - k ∧ i = .int .i64 k ∧ f = .bool fb ∧ O.length ≤ 65536 ∧ Lib.IsBuilderF 71 5 w.heap.size w.heap.size (Lib.byteCells O) wr ∧ textF (ms.drop k) O fb = X)
  case atStart => exact ⟨(Below.refl _ w).alloc (Nat.le_refl _) _, by simp, 0, [], false, Nat.zero_le _, rfl, rfl, rfl, by simp, fresh_builder w, HF.out.2.2.1⟩
  case round =>
    obtain ⟨hb, hsz, k, O, fb, hk, hg, rfl, rfl, hO, hbu, hx⟩ := hrel
    by_cases hlt : k < n
    · have hka : k < ms.length := by rw [← HF.out.2.2.2]; exact hlt
      obtain ⟨g, o, rfl, hmc⟩ := HF.out.1 k hka
      have hzk := HF.out.2.1 _ (List.getElem_mem hka)
      rw [List.drop_eq_getElem_cons hka] at hx
      generalize ms[k]'hka = m at *
      obtain ⟨e0, e1, e2, e4, pa, ca, e3, hca, hfa⟩ := hmc.below hb
      have hone := fun W (hW : WOK W) (hB : Below wr.heap.size wr W) => one_all W m pa ca hW hzk hca (fun j hj => by
        obtain ⟨b, q, e, d1, d2⟩ := hfa j hj
        exact ⟨b, q, e, cell_keep hB d1, cell_keep hB d2⟩)
      have hstep : textF (m :: ms.drop (k + 1)) O fb = match oneP m with
          | none => .error 2
          | some s => if fb = true ∨ 65536 < O.length + s.length then textF (ms.drop (k + 1)) O true else textF (ms.drop (k + 1)) (O ++ s) false := rfl
      rw [hstep] at hx
      have hkI : (k : Int) < (n : Int) := by omega
      have hwr := Lib.hid (show WOK wr from HW.out.below hb)
      have HB := Lib.hid (And.intro hb (And.intro hbu (And.intro hsz hg))); clear hb hbu hsz hg hmc hfa hstep
      cases ho : oneP m with
      | none =>
        rw [ho] at hx hone
        simp only at hx
        subst hx
        have HC := Lib.hid hone; clear hone ho
        go_wp2_with (first
          | (go_at_call 54; refine (HC.out _ (hwr.out.below ((Below.refl _ wr).alloc (Nat.le_refl _) _)) ((Below.refl _ wr).alloc (Nat.le_refl _) _)).mono ?_; rintro en w2 ⟨⟨Y, rfl⟩, b2⟩))
        go_ret2
        exact ⟨rfl, HB.out.1.trans ((((Below.refl _ wr).alloc (Nat.le_refl _) _).trans (b2.mono (by simp))).mono HB.out.1.size)⟩
      | some t =>
        have htl := oneP_len hzk ho
        rw [ho] at hx hone
        simp only at hx
        obtain ⟨S, hS⟩ : ∃ S : ByteArray, S = ⟨t.toArray⟩ := ⟨_, rfl⟩
        have hSs : S.size = t.length := by rw [hS]; show (List.toArray t).size = _; simp
        have hSl : S.data.toList = t := by rw [hS]
        have hone2 : ∀ W, WOK W → Below wr.heap.size wr W → Calls Tryz.prog 54 #[.agg #[.int .i64 m.kind, .int .i64 m.pos, .string ⟨m.name.toArray⟩, .slice pa m.attrs.length ca, .string ⟨m.text.toArray⟩]] W fun en w' => en = .returned (.tuple #[.string S, .bool true]) ∧ Below W.heap.size W w' := fun W h1 h2 => by
          have := hone W h1 h2
          rw [hS]; exact this
        have hSz : S.size ≤ 20971520 := by omega
        have HC := Lib.hid (And.intro hone2 hSl); clear hone hone2 ho hS hSl
        have hlen := Tryz.Builder_Len_f w.heap.size w.heap.size (Lib.byteCells O)
        rw [Lib.byteCells_length] at hlen
        have HL := Lib.hid hlen; clear hlen
        cases fb with
        | true =>
          rw [if_pos (Or.inl rfl)] at hx
          have HX := Lib.hid (And.intro hx hSs); clear hx hSs
          go_wp2_with (first
            | (go_at_call 54; refine (HC.out.1 _ (hwr.out.below ((Below.refl _ wr).alloc (Nat.le_refl _) _)) ((Below.refl _ wr).alloc (Nat.le_refl _) _)).mono ?_; rintro en w2 ⟨rfl, b2⟩))
          go_roundg (n - (k + 1))
          case measure => have := HB.out.2.2.2; omega
          case rel =>
            have hbb : Below wr.heap.size wr w2 := ((Below.refl _ wr).alloc (Nat.le_refl _) _).trans (b2.mono (by simp))
            exact ⟨HB.out.1.trans (hbb.mono HB.out.1.size), by have := HB.out.2.2.1; have := hbb.size; omega, k + 1, O, true, by omega, rfl, by go_num, rfl, hO, IsBuilderF_keep HB.out.2.1 hbb, HX.out.1⟩
        | false =>
          by_cases hbig : 65536 < O.length + t.length
          · rw [if_pos (Or.inr hbig)] at hx
            have hbI : (65536 : Int) < (O.length : Int) + (S.size : Int) := by omega
            have HX := Lib.hid (And.intro hx hSs); clear hx hSs hbig
            go_wp2_with (first
              | (go_at_call 54; refine (HC.out.1 _ (hwr.out.below ((Below.refl _ wr).alloc (Nat.le_refl _) _)) ((Below.refl _ wr).alloc (Nat.le_refl _) _)).mono ?_; rintro en w2 ⟨rfl, b2⟩; have hbb : Below wr.heap.size wr w2 := (((Below.refl _ wr).alloc (Nat.le_refl _) _).trans (b2.mono (by simp))))
              | (go_at_call 55; refine (HL.out _ (IsBuilderF_keep HB.out.2.1 hbb)).mono ?_; rintro en w3 ⟨rfl, rfl⟩))
            go_roundg (n - (k + 1))
            case measure => have := HB.out.2.2.2; omega
            case rel =>
              exact ⟨HB.out.1.trans (hbb.mono HB.out.1.size), by have := HB.out.2.2.1; have := hbb.size; omega, k + 1, O, true, by omega, rfl, by go_num, rfl, hO, IsBuilderF_keep HB.out.2.1 hbb, HX.out.1⟩
          · rw [if_neg (by simpa using hbig)] at hx
            have hbD : decide ((65536 : Int) < (O.length : Int) + (S.size : Int)) = false := decide_eq_false (by omega)
            have hbN : O.length + S.size ≤ 65536 := by omega
            have HX := Lib.hid (And.intro hx hSs); clear hx hSs hbig
            go_wp2_with (first
              | (go_at_call 54; refine (HC.out.1 _ (hwr.out.below ((Below.refl _ wr).alloc (Nat.le_refl _) _)) ((Below.refl _ wr).alloc (Nat.le_refl _) _)).mono ?_; rintro en w2 ⟨rfl, b2⟩; have hbb : Below wr.heap.size wr w2 := (((Below.refl _ wr).alloc (Nat.le_refl _) _).trans (b2.mono (by simp))))
              | (go_at_call 55; refine (HL.out _ (IsBuilderF_keep HB.out.2.1 hbb)).mono ?_; rintro en w3 ⟨rfl, rfl⟩)
              | (go_at_call 51; refine (WriteString_c w.heap.size w.heap.size O S _ (IsBuilderF_keep HB.out.2.1 hbb) (by omega) (by have := HB.out.2.2.1; have := hbb.size; omega)).mono ?_; rintro en w4 ⟨rfl, hbu4, b4, _⟩))
            go_roundg (n - (k + 1))
            case measure => have := HB.out.2.2.2; omega
            case rel =>
              rw [HC.out.2] at hbu4
              exact ⟨(HB.out.1.trans (hbb.mono HB.out.1.size)).trans b4, by have := HB.out.2.2.1; have := hbb.size; have := b4.size; omega, k + 1, O ++ t, false, by omega, rfl, by go_num, rfl, by rw [List.length_append]; have := HX.out.2; omega, hbu4, HX.out.1⟩
    · obtain rfl : k = n := by omega
      have hkI : decide ((k : Int) < (k : Int)) = false := decide_eq_false (by omega)
      rw [List.drop_of_length_le (by rw [← HF.out.2.2.2]; exact Nat.le_refl _)] at hx
      have HB := Lib.hid (And.intro hb (And.intro hbu hsz)); clear hb hbu hsz hg
      cases fb with
      | true =>
        have hx' : X = .error 10 := hx.symm
        subst hx'
        go_wp2_with fail
        go_ret2
        exact ⟨rfl, HB.out.1⟩
      | false =>
        have hx' : X = .ok O := hx.symm
        subst hx'
        go_wp2_with (first
          | (go_at_call 52; refine (String_c w.heap.size w.heap.size O wr HB.out.2.1 (Nat.le_of_lt HB.out.2.2)).mono ?_; rintro en w2 ⟨rfl, _, b2⟩))
        go_ret2
        exact ⟨rfl, HB.out.1.trans b2⟩
end Go.Proofs.YtcicibeggkmlcaaGreatDoor
