/- Trees as an argument lists them, and how great they are. Conditions: none. -/
import Derived.Test.YtcicibeggkmlcaaGreatDoorTrAJ2
import Derived.Test.YtcicibeggkmlcaaGreatDoorCdM
namespace Go.Proofs.YtcicibeggkmlcaaGreatDoor
open Go.ChangeShapes Go.WideShapes Go.Deep Go.RowKit Go.Sof

mutual
/-- how great a tree is. -/
def nBulk : PNode → Nat
  | .mk nm _ ats ks tx => nm.length + tx.length + (ats.map aBulk).sum + 5 + nBulkL ks
def nBulkL : List PNode → Nat
  | [] => 0
  | n :: r => nBulk n + nBulkL r
end
theorem nBulkL_sum : ∀ ks : List PNode, nBulkL ks = (ks.map nBulk).sum
  | [] => rfl
  | n :: r => by rw [nBulkL, nBulkL_sum r]; simp
mutual
theorem nBulk_size : ∀ n : PNode, 5 * tsize n ≤ nBulk n
  | .mk nm ps ats ks tx => by rw [nBulk, tsize]; have := nBulkL_size ks; omega
theorem nBulkL_size : ∀ ks : List PNode, 5 * tsizeL ks ≤ nBulkL ks
  | [] => by simp [tsizeL, nBulkL]
  | n :: r => by rw [nBulkL, tsizeL]; have := nBulk_size n; have := nBulkL_size r; omega
end
mutual
theorem tmk_bulk : ∀ (n : PNode) (d k : Nat) (l : List PMark), tmk n d k = some l → ∀ m ∈ l, mBulk m ≤ nBulk n
  | .mk nm ps ats ks tx, d, k, l, h, m, hm => by
    have e : nBulk (.mk nm ps ats ks tx) = nm.length + tx.length + (ats.map aBulk).sum + 5 + nBulkL ks := by rw [nBulk]
    have eb : ∀ x : PMark, mBulk x = x.name.length + x.text.length + (x.attrs.map aBulk).sum + 5 := fun _ => rfl
    unfold tmk at h
    split at h
    · simp at h
    · split at h
      · simp only [Option.some.injEq] at h; subst h
        obtain rfl := List.mem_singleton.1 hm
        simp only [eb, e, List.length_nil]; omega
      · split at h
        · simp at h
        · next l0 h0 =>
          simp only [Option.some.injEq] at h; subst h
          rcases List.mem_cons.1 hm with rfl | hm
          · simp only [eb, e, List.length_nil]; omega
          · rcases List.mem_append.1 hm with hm | hm
            · have := tmkL_bulk ks _ _ _ h0 m hm; omega
            · rcases List.mem_append.1 hm with hm | hm
              · split at hm
                · simp at hm
                · obtain rfl := List.mem_singleton.1 hm
                  simp only [eb, e, List.length_nil, List.map_nil, List.sum_nil]; omega
              · obtain rfl := List.mem_singleton.1 hm
                simp only [eb, e, List.length_nil, List.map_nil, List.sum_nil]; omega
theorem tmkL_bulk : ∀ (ks : List PNode) (d k : Nat) (l : List PMark), tmkL ks d k = some l → ∀ m ∈ l, mBulk m ≤ nBulkL ks
  | [], d, k, l, h, m, hm => by obtain rfl := tmkL_nil h; simp at hm
  | n :: r, d, k, l, h, m, hm => by
    have e : nBulkL (n :: r) = nBulk n + nBulkL r := by rw [nBulkL]
    unfold tmkL at h
    split at h
    · simp at h
    · next l1 h1 =>
      split at h
      · simp at h
      · next l2 h2 =>
        simp only [Option.some.injEq] at h; subst h
        rcases List.mem_append.1 hm with hm | hm
        · have := tmk_bulk n _ _ _ h1 m hm; omega
        · have := tmkL_bulk r _ _ _ h2 m hm; omega
end

section
variable {H : Type} {enc : TypeId × Value → H} {P : Program} {w : World} {base : Nat} {spare : Nat → Bool} {held : Bool}
theorem open_slice_n {t e : TypeId} {fuel : Nat} {cs : List Value} {x : DataW H × List MemPlace} (ht : P.underlying t = some (.slice e)) (h : DataW.trod enc P w base spare held fuel t cs = some x) :
    (cs = [.slice none 0 0] ∧ x = (.nil, [])) ∨
    ∃ (a : Addr) (len cap n : Nat) (ds rs : List (DataW H)), fuel = n + 1 ∧ cs = [.slice (some a) len cap] ∧ len ≤ cap ∧ x.1 = .slice ds rs ∧ ds.length = len ∧
      ∀ (i : Nat) (hi : i < ds.length), ∃ cs' pl, w.cells? base (a.add (i * P.cellsOf e)) (P.cellsOf e) = some cs' ∧ DataW.trod enc P w base spare held n e cs' = some (ds[i]'hi, pl) := by
  rcases DataW.trod_slice ht h with h0 | ⟨a, len, cap, elems, rest, n, hn, rfl, rfl, hb, hl, hm, hlen, hel, hsp, hns⟩
  · exact .inl h0
  · refine .inr ⟨a, len, cap, n, elems.map (·.1), rest.map (·.1), hn, rfl, hl, rfl, by simp [hlen], fun i hi => ?_⟩
    rw [List.length_map] at hi
    have h1 := hel i (by omega)
    rw [List.getElem?_eq_getElem hi] at h1
    obtain ⟨cs', h2, h3⟩ := Option.bind_eq_some_iff.1 h1
    exact ⟨cs', (elems[i]'hi).2, h2, by rw [h3]; simp⟩
end
section
variable {H : Type} {enc : TypeId × Value → H} {P : Program} {w : World} {base : Nat} {spare : Nat → Bool} {held : Bool}
theorem open_struct_fields {t : TypeId} {fs : Array Field} {fuel : Nat} {cs : List Value} {x : DataW H × List MemPlace} (he : P.underlying t = some (.struct fs)) (hone : oneCellFields P fs = true) (hC : P.cellsOf t = fs.size)
    (h : DataW.trod enc P w base spare held fuel t cs = some x) :
    ∃ (ys : List (DataW H × List MemPlace)) (n : Nat), fuel = n + 1 ∧ x.1 = .agg (ys.map (·.1)) ∧ ys.length = fs.size ∧ cs.length = fs.size ∧
      ∀ (j : Nat) (f : Field), fs[j]? = some f → ∃ (v : Value) (y : DataW H × List MemPlace), cs[j]? = some v ∧ ys[j]? = some y ∧ DataW.trod enc P w base spare held n f.type [v] = some y := by
  obtain ⟨ys, n, hn, hy, hlen, hyl, hf⟩ := DataW.trod_struct he h
  rw [hC] at hlen
  refine ⟨ys, n, hn, by rw [hy], hyl, hlen, fun j f hj => ?_⟩
  obtain ⟨ho, hk⟩ := hone_of hone j f hj
  have hjl : j < fs.size := (Array.getElem?_eq_some_iff.1 hj).1
  have hv : cs[j]? = some (cs[j]'(by omega)) := List.getElem?_eq_getElem (by omega)
  have h1 := hf j f hj
  rw [ho, hk] at h1
  have hone' : (cs.drop j).take 1 = [cs[j]'(by omega)] := by
    rw [List.drop_eq_getElem_cons (by omega)]
    rfl
  rw [hone'] at h1
  have hys : ys[j]? = some (ys[j]'(by omega)) := List.getElem?_eq_getElem (by omega)
  exact ⟨_, _, hv, hys, h1.trans hys⟩
end
theorem bulk_list {H α : Type} (f : α → Nat) : ∀ (l : List α) (ds : List (DataW H)), l.length = ds.length → (∀ (i : Nat) (h : i < l.length) (h' : i < ds.length), f (l[i]'h) ≤ Rows.uptoBulk (ds[i]'h')) → (l.map f).sum ≤ Rows.uptoBulkAll ds
  | [], [], _, _ => by simp
  | [], _ :: _, h, _ => by simp at h
  | _ :: _, [], h, _ => by simp at h
  | a :: r, d :: s, h, hi => by
    have h1 := bulk_list f r s (by simpa using h) (fun i h1 h2 => hi (i + 1) (by simpa using h1) (by simpa using h2))
    have h2 := hi 0 (by simp) (by simp)
    simp only [List.getElem_cons_zero] at h2
    simp only [List.map_cons, List.sum_cons, Rows.uptoBulkAll]; omega

section
variable {H : Type} {enc : TypeId × Value → H} {w : World} {base : Nat} {spare : Nat → Bool} {held : Bool}
set_option maxRecDepth 100000 in
/-- an element as its cells. -/
theorem open_node : ∀ (fuel : Nat) (cs : List Value) (y : DataW H × List MemPlace), DataW.trod enc Tryz.prog w base spare held fuel 47 cs = some y →
    ∃ (n : PNode) (d : Nat) (v : Value), v = .agg cs.toArray ∧ NodeD w (fun _ => True) d v n ∧ nBulk n ≤ Rows.uptoBulk y.1 := by
  intro fuel
  induction fuel using Nat.strongRecOn with
  | _ fuel ih =>
    intro cs y h
    obtain ⟨ys, n, hn, hy, hlen, hcl, hf⟩ := open_struct_fields Tryz.underlying47 (by kernel_rfl) (by kernel_rfl) h
    match ys, hlen with
    | [y0, y1, y2, y3, y4], _ =>
      match cs, hcl with
      | [v0, v1, v2, v3, v4], _ =>
        obtain ⟨x0, z0, g0, k0, t0⟩ := hf 0 _ rfl
        obtain ⟨x1, z1, g1, k1, t1⟩ := hf 1 _ rfl
        obtain ⟨x2, z2, g2, k2, t2⟩ := hf 2 _ rfl
        obtain ⟨x3, z3, g3, k3, t3⟩ := hf 3 _ rfl
        obtain ⟨x4, z4, g4, k4, t4⟩ := hf 4 _ rfl
        simp only [List.getElem?_cons_zero, List.getElem?_cons_succ, Option.some.injEq] at g0 g1 g2 g3 g4 k0 k1 k2 k3 k4
        subst g0 g1 g2 g3 g4 k0 k1 k2 k3 k4
        obtain ⟨s0, e0, rfl, _⟩ := DataW.trod_string Tryz.underlying9 t0
        obtain ⟨s1, e1, rfl, _⟩ := DataW.trod_int Tryz.underlying3 t1
        obtain ⟨s4, e4, rfl, _⟩ := DataW.trod_string Tryz.underlying9 t4
        obtain ⟨al, pa, ca, rfl, hca, hb, hat⟩ := open_attrs t2
        simp only [List.cons.injEq, and_true] at e0 e1 e4
        subst e0 e1 e4
        have hQ : AttrsQ w (fun _ => True) pa al := fun j hj => by obtain ⟨b, q, e, c0, c1⟩ := hat j hj; exact ⟨b, q, e, trivial, c0, c1⟩
        have hy1 : Rows.uptoBulk y.1 = Rows.uptoBulk (DataW.agg [DataW.lit (.string s0.data.toList), DataW.lit (.int .i64 s1), y2.1, y3.1, DataW.lit (.string s4.data.toList)]) := by rw [hy]; rfl
        rcases open_slice_n Tryz.underlying45 t3 with ⟨hv, hx3⟩ | ⟨a, len, cap, n2, ds, rs, hn2, hv, hlc, hx, hdl, hi⟩
        · simp only [List.cons.injEq, and_true] at hv
          subst hv
          refine ⟨.mk s0.data.toList s1 al [] s4.data.toList, 1, _, rfl, ⟨pa, ca, none, 0, rfl, hca, Nat.le_refl _, hQ, fun i hi => absurd hi (by simp [PNode.kids])⟩, ?_⟩
          rw [hy1, hx3]
          simp only [nBulk, nBulkL, Rows.uptoBulk, Rows.uptoBulkAll]
          omega
        · simp only [List.cons.injEq, and_true] at hv
          subst hv
          obtain ⟨ks, hkl, hp⟩ := list_of (p := fun i (x : PNode) => ∃ (hi : i < ds.length) (cs' : List Value) (d : Nat), w.cells? base (a.add (i * 5)) 5 = some cs' ∧ NodeD w (fun _ => True) d (.agg cs'.toArray) x ∧ nBulk x ≤ Rows.uptoBulk (ds[i]'hi)) len (fun i hil => by
            obtain ⟨cs', pl, hc, ht⟩ := hi i (by omega)
            obtain ⟨x, d, v, rfl, hx, hb⟩ := ih n2 (by omega) cs' _ ht
            exact ⟨x, by omega, cs', d, hc, hx, hb⟩)
          have hdep : ∃ D, ∀ (i : Nat) (hi : i < ks.length), ∃ cs' : List Value, w.cells? base (a.add (i * 5)) 5 = some cs' ∧ NodeD w (fun _ => True) D (.agg cs'.toArray) (ks[i]'hi) := by
            clear hb hy1 hy h ih hi
            have : ∀ k, k ≤ ks.length → ∃ D, ∀ (i : Nat) (hi : i < ks.length), i < k → ∃ cs' : List Value, w.cells? base (a.add (i * 5)) 5 = some cs' ∧ NodeD w (fun _ => True) D (.agg cs'.toArray) (ks[i]'hi) := by
              intro k
              induction k with
              | zero => exact fun _ => ⟨0, fun i _ h => absurd h (by omega)⟩
              | succ k ihk =>
                intro hk
                obtain ⟨D, hD⟩ := ihk (by omega)
                obtain ⟨_, cs', d, hc, hn, _⟩ := hp k (by omega)
                refine ⟨max D d, fun i hi hik => ?_⟩
                by_cases he : i = k
                · subst he; exact ⟨cs', hc, hn.up (Nat.le_max_right _ _)⟩
                · obtain ⟨cs2, h2, h3⟩ := hD i hi (by omega); exact ⟨cs2, h2, h3.up (Nat.le_max_left _ _)⟩
            obtain ⟨D, hD⟩ := this ks.length (Nat.le_refl _)
            exact ⟨D, fun i hi => hD i hi hi⟩
          obtain ⟨D, hD⟩ := hdep
          refine ⟨.mk s0.data.toList s1 al ks s4.data.toList, D + 1, _, rfl, ⟨pa, ca, some a, cap, by unfold nodeV; simp [PNode.name, PNode.pos, PNode.attrs, PNode.kids, PNode.text, hkl], hca, by simp [PNode.kids, hkl, hlc], hQ, fun i hi => ?_⟩, ?_⟩
          · obtain ⟨cs', hc, hn⟩ := hD i hi
            obtain ⟨_, hcl, hat'⟩ := World.cells?_some hc
            match cs', hcl with
            | [u0, u1, u2, u3, u4], _ =>
              have q0 := hat' 0 (by simp)
              have q1 := hat' 1 (by simp)
              have q2 := hat' 2 (by simp)
              have q3 := hat' 3 (by simp)
              have q4 := hat' 4 (by simp)
              rw [Go.Deep.add_add] at q0 q1 q2 q3 q4
              have hi0 : 0 < ks.length := by have : i < ks.length := hi; omega
              obtain ⟨cs0, hc0, _⟩ := hD 0 hi0
              obtain ⟨_, hcl0, hat0⟩ := World.cells?_some hc0
              have z := hat0 0 (by omega)
              rw [Go.Deep.add_add] at z
              obtain ⟨u, hu⟩ : ∃ u, cs0[0]? = some u := ⟨_, List.getElem?_eq_getElem (by omega)⟩
              rw [hu] at z
              have hsp := add_spot (w := w) (a := a) (v := u) (by simpa using z)
              obtain ⟨g, o, sp⟩ := a
              simp only at hsp; subst hsp
              rw [add_flat] at q0 q1 q2 q3 q4
              exact ⟨g, o, u0, u1, u2, u3, u4, rfl, trivial, by simpa using q0, by rw [Nat.add_assoc]; exact q1, by rw [Nat.add_assoc]; exact q2, by rw [Nat.add_assoc]; exact q3, by rw [Nat.add_assoc]; exact q4, hn⟩
          · have hs := bulk_list nBulk ks ds (by omega) (fun i h1 h2 => (hp i h1).2.choose_spec.choose_spec.2.2)
            rw [hy1, hx]
            rw [nBulk, nBulkL_sum]
            simp only [Rows.uptoBulk, Rows.uptoBulkAll]
            omega
end
end Go.Proofs.YtcicibeggkmlcaaGreatDoor
