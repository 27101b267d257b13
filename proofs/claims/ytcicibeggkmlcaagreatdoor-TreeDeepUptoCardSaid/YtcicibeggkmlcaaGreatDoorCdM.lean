/- Marks as an argument lists them, and how great they are. Conditions: none. -/
import Derived.Test.YtcicibeggkmlcaaGreatDoorTxAJ6
import Derived.Test.YtcicibeggkmlcaaGreatDoorCdA
import Derived.Deep.Slices
import Derived.Deep.Fields
import Derived.ChangeSame
namespace Go.Proofs.YtcicibeggkmlcaaGreatDoor
open Go.ChangeShapes Go.WideShapes Go.Deep Go.RowKit Go.Sof

section
variable {H : Type} {enc : TypeId × Value → H} {P : Program} {w : World} {base : Nat} {spare : Nat → Bool} {held : Bool}
theorem open_slice_fields {t e : TypeId} {fs : Array Field} {fuel : Nat} {cs : List Value} {x : DataW H × List MemPlace} (ht : P.underlying t = some (.slice e)) (he : P.underlying e = some (.struct fs))
    (hone : oneCellFields P fs = true) (hC : P.cellsOf e = fs.size) (h : DataW.trod enc P w base spare held fuel t cs = some x) :
    (cs = [.slice none 0 0] ∧ x = (.nil, [])) ∨
    ∃ (a : Addr) (len cap m : Nat) (D : Nat → DataW H) (Pl : Nat → List MemPlace), cs = [.slice (some a) len cap] ∧ base ≤ a.block ∧ len ≤ cap ∧ cap ≤ maxLen ∧ m = (if spare a.block then cap else len) ∧
      x = (.slice ((List.range len).map D) ((List.range (m - len)).map fun j => D (len + j)), MemPlace.row a (m * fs.size) ++ (List.range m).flatMap Pl) ∧
      ∀ i, i < m → ∃ (ys : List (DataW H × List MemPlace)) (n : Nat), D i = .agg (ys.map (·.1)) ∧ Pl i = ys.flatMap (·.2) ∧ ys.length = fs.size ∧
        ∀ (j : Nat) (f : Field), fs[j]? = some f → ∃ (v : Value) (y : DataW H × List MemPlace), w.cell? (a.add (i * fs.size + j)) = some v ∧ ys[j]? = some y ∧ DataW.trod enc P w base spare held n f.type [v] = some y := by
  rcases open_slice ht h with h0 | ⟨a, len, cap, m, n, D, Pl, hcs, hb, hl, hm, hmm, hx, hi⟩
  · exact .inl h0
  · refine .inr ⟨a, len, cap, m, D, Pl, hcs, hb, hl, hm, hmm, by rw [hC] at hx; exact hx, fun i him => ?_⟩
    obtain ⟨cs', hc, ht'⟩ := hi i him
    rw [hC] at hc
    obtain ⟨ys, n', hn', hy, hlen, hyl, hf⟩ := DataW.trod_struct he ht'
    obtain ⟨_, hcl, hat⟩ := World.cells?_some hc
    simp only [Prod.mk.injEq] at hy
    refine ⟨ys, n', hy.1, hy.2, hyl, fun j f hj => ?_⟩
    obtain ⟨ho, hk⟩ := hone_of hone j f hj
    have hjl : j < fs.size := (Array.getElem?_eq_some_iff.1 hj).1
    have hcell := hat j hjl
    have hv : cs'[j]? = some (cs'[j]'(by omega)) := List.getElem?_eq_getElem (by omega)
    have h1 := hf j f hj
    rw [ho, hk] at h1
    have hone' : (cs'.drop j).take 1 = [cs'[j]'(by omega)] := by
      rw [List.drop_eq_getElem_cons (by omega)]
      rfl
    rw [hone'] at h1
    have hys : ys[j]? = some (ys[j]'(by omega)) := List.getElem?_eq_getElem (by omega)
    refine ⟨_, _, ?_, hys, h1.trans hys⟩
    rw [← Go.Deep.add_add, hcell, hv]
end

theorem add_spot {w : World} {a : Addr} {v : Value} (h : w.cell? (a.add 0) = some v) : a.spot = none := by
  unfold Addr.add at h
  rw [if_pos rfl] at h
  unfold World.cell? at h
  split at h
  · split at h
    · simp at h
    · next h' => simpa using h'
  · simp at h
theorem add_flat (g o n : Nat) : Addr.add ⟨g, o, none⟩ n = ⟨g, o + n, none⟩ := by
  unfold Addr.add
  split
  · next h => subst h; rfl
  · rfl

/-- a list out of its elements. -/
theorem list_of {α : Type} {p : Nat → α → Prop} : ∀ n : Nat, (∀ i, i < n → ∃ a, p i a) → ∃ l : List α, l.length = n ∧ ∀ (i : Nat) (h : i < l.length), p i (l[i]'h)
  | 0, _ => ⟨[], rfl, fun i h => absurd h (by simp)⟩
  | n + 1, h => by
    obtain ⟨l, hl, hp⟩ := list_of n (fun i hi => h i (by omega))
    obtain ⟨a, ha⟩ := h n (by omega)
    refine ⟨l ++ [a], by simp [hl], fun i hi => ?_⟩
    rw [List.length_append] at hi
    simp only [List.length_cons, List.length_nil] at hi
    by_cases hin : i < l.length
    · rw [List.getElem_append_left hin]; exact hp i hin
    · obtain rfl : i = l.length := by omega
      rw [List.getElem_append_right (by omega)]
      simpa [hl] using ha
theorem bulkAll_append {H : Type} : ∀ a b : List (DataW H), Rows.uptoBulkAll (a ++ b) = Rows.uptoBulkAll a + Rows.uptoBulkAll b
  | [], b => by simp [Rows.uptoBulkAll]
  | d :: r, b => by simp only [List.cons_append, Rows.uptoBulkAll, bulkAll_append r b]; omega
theorem bulk_sum {H α : Type} (f : α → Nat) (D : Nat → DataW H) : ∀ (n : Nat) (l : List α), l.length = n → (∀ (i : Nat) (h : i < l.length), f (l[i]'h) ≤ Rows.uptoBulk (D i)) → (l.map f).sum ≤ Rows.uptoBulkAll ((List.range n).map D)
  | 0, l, hl, _ => by have : l = [] := List.eq_nil_of_length_eq_zero hl; subst this; simp
  | n + 1, l, hl, h => by
    have hne : l ≠ [] := by intro e; subst e; simp at hl
    obtain ⟨r, a, rfl⟩ : ∃ r a, l = r ++ [a] := ⟨_, _, (List.dropLast_concat_getLast hne).symm⟩
    rw [List.length_append] at hl
    simp only [List.length_cons, List.length_nil] at hl
    have hr : r.length = n := by omega
    rw [List.range_succ, List.map_append (f := D), bulkAll_append, List.map_append, List.sum_append]
    have h1 := bulk_sum f D n r hr (fun i hi => by have := h i (by rw [List.length_append]; omega); rwa [List.getElem_append_left hi] at this)
    have h2 := h n (by rw [List.length_append]; simp; omega)
    rw [List.getElem_append_right (by omega)] at h2
    simp only [List.map_cons, List.map_nil, List.sum_cons, List.sum_nil, Rows.uptoBulkAll]
    simp only [hr, Nat.sub_self, List.getElem_cons_zero] at h2
    omega
theorem sum_mem {α : Type} (f : α → Nat) : ∀ (l : List α) (a : α), a ∈ l → f a ≤ (l.map f).sum
  | [], a, h => by simp at h
  | b :: r, a, h => by
    rcases List.mem_cons.1 h with rfl | h
    · simp
    · have := sum_mem f r a h; simp; omega
theorem sum_len {α : Type} (f : α → Nat) (h : ∀ a, 1 ≤ f a) : ∀ l : List α, l.length ≤ (l.map f).sum
  | [] => by simp
  | a :: r => by have := sum_len f h r; have := h a; simp; omega

def aBulk (a : PAttr) : Nat := a.name.length + a.value.length + 3
def mBulk (m : PMark) : Nat := m.name.length + m.text.length + (m.attrs.map aBulk).sum + 5
theorem attrsT_le : ∀ al : List PAttr, (attrsT al).length ≤ 6 * (al.map aBulk).sum
  | [] => by simp [attrsT]
  | a :: r => by
    have h := attrsT_le r
    have h2 := escL_le a.value
    have h3 : attrsT (a :: r) = attrT a ++ attrsT r := by simp [attrsT]
    rw [h3, List.length_append, List.map_cons, List.sum_cons]
    have h4 : (attrT a).length = a.name.length + (escL a.value).length + 4 := by simp [attrT]; omega
    have h5 : aBulk a = a.name.length + a.value.length + 3 := rfl
    omega
theorem mkSz_of (m : PMark) (h : mBulk m ≤ 1048576) : MkSz m := by
  have e : mBulk m = m.name.length + m.text.length + (m.attrs.map aBulk).sum + 5 := rfl
  have h1 := attrsT_le m.attrs
  have h2 := sum_len aBulk (fun a => by unfold aBulk; omega) m.attrs
  refine ⟨by omega, by omega, by omega, by omega, fun a ha => ?_⟩
  have h3 := sum_mem aBulk _ _ ha
  have h4 : aBulk a = a.name.length + a.value.length + 3 := rfl
  omega

section
variable {H : Type} {enc : TypeId × Value → H} {w : World}
theorem open_attrs {fuel : Nat} {v : Value} {y : DataW H × List MemPlace} {held : Bool} {spare : Nat → Bool} {base : Nat} (h : DataW.trod enc Tryz.prog w base spare held fuel 39 [v] = some y) :
    ∃ (al : List PAttr) (pa : Option Addr) (ca : Nat), v = .slice pa al.length ca ∧ al.length ≤ ca ∧ (al.map aBulk).sum ≤ Rows.uptoBulk y.1 ∧
      ∀ (j : Nat) (hj : j < al.length), ∃ b q, pa = some ⟨b, q, none⟩ ∧ w.cell? ⟨b, q + j * 2, none⟩ = some (.string ⟨(al[j]'hj).name.toArray⟩) ∧ w.cell? ⟨b, q + j * 2 + 1, none⟩ = some (.string ⟨(al[j]'hj).value.toArray⟩) := by
  rcases open_slice_fields Tryz.underlying39 Tryz.underlying58 (by kernel_rfl) (by kernel_rfl) h with ⟨hv, rfl⟩ | ⟨a, len, cap, m, D, Pl, hv, _, hlc, _, hm, rfl, hf⟩
  · simp only [List.cons.injEq, and_true] at hv
    exact ⟨[], none, 0, hv, Nat.le_refl _, by simp, fun j hj => absurd hj (by simp)⟩
  · simp only [List.cons.injEq, and_true] at hv
    have hlm : len ≤ m := by rw [hm]; split <;> omega
    obtain ⟨al, hal, hp⟩ := list_of (p := fun i (x : PAttr) => aBulk x ≤ Rows.uptoBulk (D i) ∧ w.cell? (a.add (i * 2 + 0)) = some (.string ⟨x.name.toArray⟩) ∧ w.cell? (a.add (i * 2 + 1)) = some (.string ⟨x.value.toArray⟩)) len (fun i hi => by
      obtain ⟨ys, n, hD, _, hlen, hj⟩ := hf i (by omega)
      obtain ⟨v0, y0, c0, g0, t0⟩ := hj 0 _ rfl
      obtain ⟨v1, y1, c1, g1, t1⟩ := hj 1 _ rfl
      obtain ⟨s0, e0, rfl, z0⟩ := DataW.trod_string Tryz.underlying9 t0
      obtain ⟨s1, e1, rfl, z1⟩ := DataW.trod_string Tryz.underlying9 t1
      simp only [List.cons.injEq, and_true] at e0 e1
      subst e0 e1
      match ys, hlen with
      | [x0, x1], _ =>
        simp only [List.getElem?_cons_zero, List.getElem?_cons_succ, Option.some.injEq] at g0 g1
        subst g0 g1
        refine ⟨⟨s0.data.toList, s1.data.toList⟩, ?_, c0, c1⟩
        rw [hD]
        simp [aBulk, Rows.uptoBulk, Rows.uptoBulkAll]; omega)
    refine ⟨al, some a, cap, by rw [hal]; exact hv, by omega, ?_, fun j hj => ?_⟩
    · have := bulk_sum aBulk D len al hal (fun i hi => (hp i hi).1)
      simp only [Rows.uptoBulk]; omega
    · obtain ⟨-, c0, c1⟩ := hp j hj
      have hs := add_spot (hp 0 (by omega)).2.1
      obtain ⟨g, o, sp⟩ := a
      simp only at hs; subst hs
      rw [add_flat] at c0 c1
      exact ⟨g, o, rfl, c0, c1⟩
theorem open_marks {fuel : Nat} {v : Value} {y : DataW H × List MemPlace} {held : Bool} {spare : Nat → Bool} {base : Nat} (h : DataW.trod enc Tryz.prog w base spare held fuel 35 [v] = some y) :
    ∃ (ms : List PMark) (p : Option Addr) (c : Nat), v = .slice p ms.length c ∧ ms.length ≤ c ∧ (ms.map mBulk).sum ≤ Rows.uptoBulk y.1 ∧ MarksC w p ms := by
  rcases open_slice_fields Tryz.underlying35 Tryz.underlying41 (by kernel_rfl) (by kernel_rfl) h with ⟨hv, rfl⟩ | ⟨a, len, cap, m, D, Pl, hv, _, hlc, _, hm, rfl, hf⟩
  · simp only [List.cons.injEq, and_true] at hv
    exact ⟨[], none, 0, hv, Nat.le_refl _, by simp, fun j hj => absurd hj (by simp)⟩
  · simp only [List.cons.injEq, and_true] at hv
    have hlm : len ≤ m := by rw [hm]; split <;> omega
    obtain ⟨ms, hms, hp⟩ := list_of (p := fun i (x : PMark) => mBulk x ≤ Rows.uptoBulk (D i) ∧ ∃ g o, a = ⟨g, o, none⟩ ∧ MarkC w g (o + i * 5) x) len (fun i hi => by
      obtain ⟨ys, n, hD, _, hlen, hj⟩ := hf i (by omega)
      obtain ⟨v0, y0, c0, g0, t0⟩ := hj 0 _ rfl
      obtain ⟨v1, y1, c1, g1, t1⟩ := hj 1 _ rfl
      obtain ⟨v2, y2, c2, g2, t2⟩ := hj 2 _ rfl
      obtain ⟨v3, y3, c3, g3, t3⟩ := hj 3 _ rfl
      obtain ⟨v4, y4, c4, g4, t4⟩ := hj 4 _ rfl
      obtain ⟨s0, e0, rfl, _⟩ := DataW.trod_int Tryz.underlying3 t0
      obtain ⟨s1, e1, rfl, _⟩ := DataW.trod_int Tryz.underlying3 t1
      obtain ⟨s2, e2, rfl, _⟩ := DataW.trod_string Tryz.underlying9 t2
      obtain ⟨s4, e4, rfl, _⟩ := DataW.trod_string Tryz.underlying9 t4
      obtain ⟨al, pa, ca, rfl, hca, hb, hat⟩ := open_attrs t3
      simp only [List.cons.injEq, and_true] at e0 e1 e2 e4
      subst e0 e1 e2 e4
      match ys, hlen with
      | [x0, x1, x2, x3, x4], _ =>
        simp only [List.getElem?_cons_zero, List.getElem?_cons_succ, Option.some.injEq] at g0 g1 g2 g3 g4
        subst g0 g1 g2 g3 g4
        have hsp : a.spot = none := by
          obtain ⟨_, _, _, _, _, hj0⟩ := hf 0 (by omega)
          obtain ⟨_, _, c, _, _⟩ := hj0 0 _ rfl
          exact add_spot (by simpa using c)
        obtain ⟨g, o, sp⟩ := a
        simp only at hsp; subst hsp
        rw [add_flat] at c0 c1 c2 c3 c4
        refine ⟨⟨s0, s1, s2.data.toList, al, s4.data.toList⟩, ?_, g, o, rfl, c0, c1, c2, c4, pa, ca, c3, hca, hat⟩
        rw [hD]
        have hm : ∀ x : PMark, mBulk x = x.name.length + x.text.length + (x.attrs.map aBulk).sum + 5 := fun _ => rfl
        simp only [hm, Rows.uptoBulk, Rows.uptoBulkAll, List.map_cons, List.map_nil]; omega)
    refine ⟨ms, some a, cap, by rw [hms]; exact hv, by omega, ?_, fun i hi => ?_⟩
    · have := bulk_sum mBulk D len ms hms (fun i hi => (hp i hi).1)
      simp only [Rows.uptoBulk]; omega
    · obtain ⟨-, g, o, e, hm⟩ := hp i hi
      exact ⟨g, o, by rw [e], hm⟩
end

theorem bulk_any {H : Type} {d : DataW H} (h : Rows.uptoSmall H ([d] ++ []) = true) : Rows.uptoBulk d ≤ 1048576 := by
  simp [Rows.uptoSmall, Rows.uptoBulkAll] at h; omega
theorem A_laidOut : laidOutB Tryz.prog = true := by kernel_rfl
end Go.Proofs.YtcicibeggkmlcaaGreatDoor
